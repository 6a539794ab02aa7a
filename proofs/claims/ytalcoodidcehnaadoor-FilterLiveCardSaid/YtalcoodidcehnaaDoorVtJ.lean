import Derived.Test.YtalcoodidcehnaaDoorVtH
import Derived.Lib.SliceRun
import Derived.Laws.CopyRow
import Derived.Laws.ResultCell
namespace Go.Proofs.YtalcoodidcehnaaDoor
set_option linter.unusedVariables false
set_option linter.unusedSimpArgs false
open Go.RowKit
theorem rec_isize : (Tryd.prog.info? 38).map (·.size) = some 5 := by kernel_rfl
theorem wpList_store_rec {ops : Array Oper} {rest : List Oper} {o : Oper} {a : Act} {w : World} {Q : Exit → Act → World → Prop} (hgd : o.guard = none) (x y : Operand) (ho : o.op = .store 38 x y)
    (g : Nat) (hx : a.eval x = .pointer (some ⟨g, 0, none⟩)) (old : Array Value) (v0 v1 v2 v3 : Value) (A : Option Addr) (l c : Nat) (hy : a.eval y = .agg #[v0, v1, v2, v3, .slice A l c]) (hg : Blk w g 38 old) (hs : old.size = 5) (h1 : #[v0, v1, v2, v3].all (·.oneCell') = true)
    (h : wpList Tryd.prog ops Q rest (a.put o.dst undef) (w.setRow g #[v0, v1, v2, v3, .slice A l c])) : wpList Tryd.prog ops Q (o :: rest) a w :=
  wpList_store_row hgd _ x y ho g hx _ _ #[v0, v1, v2, v3, .slice A l c] hy hg (by kernel_rfl) (by rw [hs]; rfl) (by simp [Value.oneCell'] at h1 ⊢; exact h1) h
set_option maxRecDepth 20000 in
set_option maxHeartbeats 4000000 in
theorem vfirst_any (n : Int) (w : World) {x : Int} (hx : ((sall n : Nat) : Int) = x) :
    Calls Tryd.prog 22 #[.int .i64 n] w fun e w' => e = .returned (.agg #[.int .u64 0, .int .u64 0, .int .i64 0, .int .u64 x, .slice none 0 0]) ∧ Below w.heap.size w w' := by
  subst hx
  go_enter Tryd.func22, Tryd.ntmps22
  go_wp2_with fail
  refine (all_any n _).mono ?_
  rintro e w' ⟨rfl, rfl⟩
  have HB := Lib.hid (Blk.new w 38 #[.int .u64 0, .int .u64 0, .int .i64 0, .int .u64 0, .slice none 0 0] rfl)
  go_wp2_with (refine wpList_store_rec rfl _ _ rfl w.heap.size rfl _ _ _ _ _ _ _ _ rfl HB.out rfl (by simp [Value.oneCell']) ?_)
  exact bodyPost_ret (v := .agg #[.int .u64 0, .int .u64 0, .int .i64 0, .int .u64 ((sall n : Nat) : Int), .slice none 0 0]) (by exact results_cell_row rfl _ _ w.heap.size 38 _ (0, 0) _ rfl (HB.out.row _) Tryd.underlying38 rfl (by exact rec_isize)) rfl ⟨rfl, bsetRow (bal (Below.refl _ _) _) (Nat.le_refl _) _⟩
set_option maxRecDepth 20000 in
set_option maxHeartbeats 1000000 in
theorem form1_any {w : World} {bm : Nat} {f : Vw} (hm : Blk w bm 35 (vwA f)) (x : Vw) {r : Bool} (hr : decide (x.number ≤ f.number) = r) :
    Calls Tryd.prog 45 #[.agg #[.int .u64 (x.number : Int), .int .u64 (x.epoch : Int), .int .i64 x.rep, .int .u64 (x.members : Int)], .pointer (some ⟨bm, 0, none⟩)] w fun e w' => e = .returned (.bool r) ∧ Below w.heap.size w w' := by
  have hc := hm.cell 0
  simp only [vwA] at hc
  have hl := hm.lt
  have HB : Hid (Below w.heap.size w (w.alloc (.cells #[.int .u64 (x.number : Int), .int .u64 (x.epoch : Int), .int .i64 x.rep, .int .u64 (x.members : Int)] 35))) := bal (Below.refl _ _) _
  clear hm
  go_enter Tryd.func45, Tryd.ntmps45
  go_wp2_with fail
  go_ret
  exact ⟨rfl, HB.out⟩
end Go.Proofs.YtalcoodidcehnaaDoor
namespace Go.Proofs.YtalcoodidcehnaaDoor
set_option linter.unusedVariables false
set_option linter.unusedSimpArgs false
open Go.RowKit
theorem vzeroCells_len (cs : Array Value) (n : Nat) : (Builtin.zeroCells cs n).toList.length = n * cs.size := by
  simp [Builtin.zeroCells]
theorem vzeroCells_mem (cs : Array Value) (n : Nat) (v : Value) (h : v ∈ (Builtin.zeroCells cs n).toList) (h1 : ∀ u ∈ cs, u.oneCell' = true) : v.oneCell' = true := by
  obtain ⟨i, hi, rfl⟩ := List.getElem_of_mem h
  rw [vzeroCells_len] at hi
  have hc : 0 < cs.size := by
    rcases Nat.eq_zero_or_pos cs.size with h0 | h0
    · rw [h0] at hi; omega
    · exact h0
  simp [Builtin.zeroCells]
  have hlt : i % cs.size < cs.size := Nat.mod_lt _ hc
  rw [getElem!_pos cs _ hlt]
  exact h1 _ (Array.getElem_mem hlt)
/-- 'clear(s)' on a row that is known whole, elements of more cells -/
theorem vrun_clear_row {P : Program} (w : World) (t e ty : TypeId) (z : Value) (ht : P.underlying t = some (.slice e)) (hv : ∀ w, (zeroValue e).run P w = .ok z w) (h1 : ∀ v ∈ z.cells, v.oneCell' = true) (b o n c : Nat) (hn : 0 < n) {t' : TypeId} {cur : Array Value}
    (hb : w.heap[b]? = some (.cells cur t' (0, 0))) (hl : o + n * z.cells.size ≤ cur.size) :
    (Builtin.clear_ #[t] ty #[.slice (some ⟨b, o, none⟩) n c]).run P w = .ok (.tuple #[]) (w.setRow b (cur.toList.take o ++ (Builtin.zeroCells z.cells n).toList ++ cur.toList.drop (o + (Builtin.zeroCells z.cells n).toList.length)).toArray) := by
  have hst := run_storeCells_at P b o t' (Builtin.zeroCells z.cells n).toList 0 cur w hb (by rw [vzeroCells_len, Nat.add_zero]; exact hl) (fun v h => vzeroCells_mem _ _ _ h h1)
  simp only [Nat.add_zero] at hst
  obtain ⟨m, rfl⟩ : ∃ m, n = m + 1 := ⟨n - 1, by omega⟩
  simp [Builtin.clear_, run_underlying ht, hv, hst]
theorem zvw_zero : ∀ w, (zeroValue 35).run Tryd.prog w = .ok zvw w := by
  intro w
  obtain ⟨i0, hi, hz0, _⟩ := info_parts vw_info
  simp [zeroValue, typeInfo, hi, hz0]
theorem vflat_len (C : List Vw) : (C.map viewCells).flatten.length = C.length * 4 := by
  induction C with
  | nil => rfl
  | cons c C ih => rw [List.map_cons, List.flatten_cons, List.length_append, ih, List.length_cons]; simp [viewCells]; omega
theorem vflat_take (C : List Vw) (i : Nat) : (C.map viewCells).flatten.take (i * 4) = ((C.take i).map viewCells).flatten := by
  induction C generalizing i with
  | nil => simp
  | cons c C ih =>
    cases i with
    | zero => simp
    | succ i =>
      rw [List.map_cons, List.flatten_cons, List.take_succ_cons, List.map_cons, List.flatten_cons, ← ih i, Nat.succ_mul]
      simp [viewCells]
theorem vflat_set (C : List Vw) (i : Nat) (x : Vw) (hi : i < C.length) : (((((C.map viewCells).flatten.set (i * 4) (.int .u64 (x.number : Int))).set (i * 4 + 1) (.int .u64 (x.epoch : Int))).set (i * 4 + 2) (.int .i64 x.rep)).set (i * 4 + 3) (.int .u64 (x.members : Int))) = ((C.set i x).map viewCells).flatten := by
  induction C generalizing i with
  | nil => simp at hi
  | cons c C ih =>
    cases i with
    | zero => simp [viewCells]
    | succ i =>
      have := ih i (by simpa using hi)
      rw [List.map_cons, List.flatten_cons, List.set_cons_succ, List.map_cons, List.flatten_cons, ← this]
      simp [viewCells, Nat.succ_mul]
/-- a row of views in a block of the call's own -/
structure RowV (w : World) (b cap : Nat) (C : List Vw) : Prop where
  blk : ∃ cur, Blk w b 35 cur ∧ cur.size = cap * 4 ∧ cur.toList.take (C.length * 4) = (C.map viewCells).flatten
  le : C.length ≤ cap
  cm : cap ≤ maxLen
theorem RowV.of_own {w : World} {base : Nat} {v : Value} {C : List Vw} (h : w.ownsRow base 35 4 v C.length (C.map viewCells).flatten) (h0 : C ≠ []) : ∃ b cap, v = .slice (some ⟨b, 0, none⟩) C.length cap ∧ base ≤ b ∧ RowV w b cap C := by
  rcases h.2 with ⟨_, h1⟩ | ⟨b, cap, cur, rfl, h1, h2, h3, h4, h5, h6⟩
  · exact absurd (List.eq_nil_of_length_eq_zero h1) h0
  · exact ⟨b, cap, rfl, h1, ⟨cur, h2, h5, h6⟩, h3, h4⟩
theorem RowV.own {w : World} {b cap : Nat} {C : List Vw} (h : RowV w b cap C) {base : Nat} (hb : base ≤ b) (i : Nat) (hi : i ≤ C.length) : w.ownsRow base 35 4 (.slice (some ⟨b, 0, none⟩) i cap) i ((C.take i).map viewCells).flatten := by
  obtain ⟨cur, h1, h2, h3⟩ := h.blk
  refine ⟨by rw [vflat_len, List.length_take, Nat.min_eq_left hi], .inr ⟨b, cap, cur, rfl, hb, h1, Nat.le_trans hi h.le, h.cm, h2, ?_⟩⟩
  rw [← vflat_take, ← h3, List.take_take, Nat.min_eq_left (Nat.mul_le_mul_right 4 hi)]
theorem RowV.stay {w w' : World} {b cap : Nat} {C : List Vw} (h : RowV w b cap C) (hb : Below w.heap.size w w') : RowV w' b cap C := by
  obtain ⟨cur, h1, h2⟩ := h.blk
  exact ⟨⟨cur, h1.stay hb, h2⟩, h.le, h.cm⟩
theorem RowV.at {w : World} {b cap : Nat} {C : List Vw} (h : RowV w b cap C) (k : Nat) (hk : k < C.length) :
    w.cell? ⟨b, k * 4, none⟩ = some (.int .u64 (C[k].number : Int)) ∧ w.cell? ⟨b, k * 4 + 1, none⟩ = some (.int .u64 (C[k].epoch : Int)) ∧ w.cell? ⟨b, k * 4 + 2, none⟩ = some (.int .i64 C[k].rep) ∧ w.cell? ⟨b, k * 4 + 3, none⟩ = some (.int .u64 (C[k].members : Int)) := by
  obtain ⟨cur, h1, h2, h3⟩ := h.blk
  have hg : ∀ j, j < 4 → cur[k * 4 + j]? = (viewCells C[k])[j]? := fun j hj => by
    have e1 : (cur.toList.take (C.length * 4))[k * 4 + j]? = cur[k * 4 + j]? := by
      rw [List.getElem?_take, if_pos (by have : (k + 1) * 4 ≤ C.length * 4 := Nat.mul_le_mul_right 4 hk; omega), Array.getElem?_toList]
    rw [← e1, h3, flatten_get (sz := 4) (fun cs hc => by obtain ⟨x, _, rfl⟩ := List.mem_map.1 hc; rfl) _ _ hj, List.getElem?_map, List.getElem?_eq_getElem hk]
    rfl
  exact ⟨(h1.cell _).trans (hg 0 (by decide)), (h1.cell _).trans (hg 1 (by decide)), (h1.cell _).trans (hg 2 (by decide)), (h1.cell _).trans (hg 3 (by decide))⟩
theorem RowV.free {w : World} {b cap : Nat} {C : List Vw} (h : RowV w b cap C) (i : Nat) : w.frozen? ⟨b, i, none⟩ = false := by
  obtain ⟨cur, h1, _⟩ := h.blk
  exact h1.free i
theorem RowV.lt {w : World} {b cap : Nat} {C : List Vw} (h : RowV w b cap C) : b < w.heap.size := by
  obtain ⟨cur, h1, _⟩ := h.blk
  exact h1.lt
theorem RowV.put {w : World} {b cap : Nat} {C : List Vw} (h : RowV w b cap C) (i : Nat) (hi : i < C.length) (x : Vw) :
    RowV ((((w.setCell ⟨b, i * 4, none⟩ (.int .u64 (x.number : Int))).setCell ⟨b, i * 4 + 1, none⟩ (.int .u64 (x.epoch : Int))).setCell ⟨b, i * 4 + 2, none⟩ (.int .i64 x.rep)).setCell ⟨b, i * 4 + 3, none⟩ (.int .u64 (x.members : Int))) b cap (C.set i x) := by
  obtain ⟨cur, h1, h2, h3⟩ := h.blk
  refine ⟨⟨_, (((h1.set _ _).set _ _).set _ _).set _ _, by simp [h2], ?_⟩, by rw [List.length_set]; exact h.le, h.cm⟩
  rw [List.length_set, Array.toList_setIfInBounds, Array.toList_setIfInBounds, Array.toList_setIfInBounds, Array.toList_setIfInBounds, ← vflat_set _ i x hi, ← h3, List.take_set, List.take_set, List.take_set, List.take_set]
theorem put_below {w : World} {B b : Nat} (hb : B ≤ b) (i j k l : Nat) (v0 v1 v2 v3 : Value) : Below B w ((((w.setCell ⟨b, i, none⟩ v0).setCell ⟨b, j, none⟩ v1).setCell ⟨b, k, none⟩ v2).setCell ⟨b, l, none⟩ v3) := by
  refine ⟨rfl, rfl, rfl, by simp, fun g hg => ?_⟩
  have hne : g ≠ b := by omega
  exact (heap_setCell_other _ ⟨b, _, none⟩ g _ hne).trans ((heap_setCell_other _ ⟨b, _, none⟩ g _ hne).trans ((heap_setCell_other _ ⟨b, _, none⟩ g _ hne).trans (heap_setCell_other _ ⟨b, _, none⟩ g _ hne)))
/-- the spare is cleared -/
theorem RowV.clear {w : World} {b cap : Nat} {C : List Vw} (h : RowV w b cap C) {base : Nat} (hb : base ≤ b) (i n : Nat) (hn : n = C.length) (hi : i < n) :
    ∃ cur4, (∀ ty, (Builtin.clear_ #[36] ty #[.slice (some ⟨b, i * 4, none⟩) (n - i) (cap - i)]).run Tryd.prog w = .ok (.tuple #[]) (w.setRow b cur4)) ∧ (w.setRow b cur4).ownsRow base 35 4 (.slice (some ⟨b, 0, none⟩) i cap) i ((C.take i).map viewCells).flatten := by
  subst hn
  obtain ⟨cur, h1, h2, h3⟩ := h.blk
  have hle := h.le
  have hlen0 : (Builtin.zeroCells zvw.cells (C.length - i)).toList.length = (C.length - i) * 4 := vzeroCells_len _ _
  have hfit : i * 4 + (C.length - i) * 4 ≤ cur.size := by rw [h2]; omega
  refine ⟨(cur.toList.take (i * 4) ++ (Builtin.zeroCells zvw.cells (C.length - i)).toList ++ cur.toList.drop (i * 4 + (Builtin.zeroCells zvw.cells (C.length - i)).toList.length)).toArray, fun ty => ?_, ?_⟩
  · exact vrun_clear_row w _ _ ty zvw Tryd.underlying36 zvw_zero (by simp [zvw, Value.cells, Value.oneCell']) b (i * 4) (C.length - i) (cap - i) (by omega) h1 hfit
  · refine ⟨by rw [vflat_len, List.length_take, Nat.min_eq_left (by omega)], .inr ⟨b, cap, _, rfl, hb, h1.row _, by omega, h.cm, ?_, ?_⟩⟩
    · rw [List.size_toArray, List.length_append, List.length_append, List.length_take, List.length_drop, Array.length_toList, hlen0]
      omega
    · rw [List.append_assoc, List.take_append_of_le_length (by rw [List.length_take, Array.length_toList]; omega), List.take_take, Nat.min_self, ← vflat_take, ← h3, List.take_take, Nat.min_eq_left (by omega)]
def vkeep (f : Vw) (l : List Vw) : List Vw := l.filter fun x => decide (f.number < x.number)
theorem vkeep_succ (f : Vw) (L : List Vw) (j : Nat) (hj : j < L.length) : vkeep f (L.take (j + 1)) = vkeep f (L.take j) ++ (if L[j].number ≤ f.number then [] else [L[j]]) := by
  unfold vkeep
  rw [List.take_succ_eq_append_getElem hj, List.filter_append]
  congr 1
  by_cases h : L[j].number ≤ f.number
  · simp [h]
  · simp [h, Nat.lt_of_not_le h]
set_option maxRecDepth 20000 in
set_option maxHeartbeats 4000000 in
theorem vindexF_any {w : World} {v : Value} {L : List Vw} (hv : Views w v L) (hl : L.length ≤ 2000000) {bm : Nat} {f : Vw} (hm : Blk w bm 35 (vwA f)) :
    Calls Tryd.prog 48 #[v, .func (.func 45) #[] #[.pointer (some ⟨bm, 0, none⟩)]] w fun e w' =>
      ((∃ (k : Nat) (x : Vw), L[k]? = some x ∧ e = .returned (.int .i64 (k : Nat)) ∧ x.number ≤ f.number ∧ ∀ y, y ∈ L.take k → f.number < y.number) ∨ (e = .returned (.int .i64 (-1)) ∧ ∀ y, y ∈ L → f.number < y.number)) ∧ Below w.heap.size w w' := by
  obtain ⟨A, c, rfl, _⟩ := hv.slice
  obtain ⟨n, hn⟩ : ∃ n, n = L.length := ⟨_, rfl⟩
  have hn6 : n ≤ 2000000 := by omega
  have HN := Lib.hid hn
  have hv2 := hv
  rw [← hn] at hv2 ⊢
  have HV := Lib.hid hv2
  have HM := Lib.hid hm
  clear hv hv2 hl hn hm
  go_enter Tryd.func48, Tryd.ntmps48
  go_wp2_with fail
  go_loopw [8] (fun i wr => ∃ k : Nat, k ≤ n ∧ i = .int .i64 k ∧ Hid (∀ y, y ∈ L.take k → f.number < y.number) ∧ Hid (Below w.heap.size w wr)) (fun i _ => n - (intOf i).toNat)
  case atStart => exact ⟨0, by omega, rfl, fun y hy => by simp at hy, Below.refl _ _⟩
  case round =>
    obtain ⟨k, hk, rfl, HJ, HB⟩ := hrel
    by_cases hlt : k < n
    · have hlt2 : k < L.length := by rw [← HN.out]; exact hlt
      obtain ⟨b, off, rfl, c0, c1, c2, c3, hbl, hok⟩ := HV.out.in HB.out k hlt2
      have htk : L.take (k + 1) = L.take k ++ [L[k]] := List.take_succ_eq_append_getElem hlt2
      have hget : L[k]? = some L[k] := by simp [hlt2]
      obtain ⟨y, hy⟩ : ∃ y, y = L[k] := ⟨_, rfl⟩
      rw [← hy] at c0 c1 c2 c3 htk hget hok
      have HTK := Lib.hid htk
      have HG := Lib.hid hget
      have HMR := Lib.hid (HM.out.below HB.out HM.out.lt)
      clear hy htk hget hlt2 hok
      by_cases hr : y.number ≤ f.number
      · have HR := Lib.hid hr
        clear hr
        go_wp2_with fail
        refine (form1_any HMR.out y (decide_eq_true HR.out)).mono ?_
        rintro e w2 ⟨rfl, hb2⟩
        have HB2 := Lib.hid (btr HB.out hb2)
        clear hb2
        go_wp2_with fail
        go_ret
        exact ⟨.inl ⟨k, y, HG.out, rfl, HR.out, HJ.out⟩, HB2.out⟩
      · have HR := Lib.hid hr
        clear hr
        go_wp2_with fail
        refine (form1_any HMR.out y (decide_eq_false HR.out)).mono ?_
        rintro e w2 ⟨rfl, hb2⟩
        have HB2 := Lib.hid (btr HB.out hb2)
        clear hb2
        go_wp2_with fail
        go_roundw
        case rel =>
          refine ⟨k + 1, by omega, by go_num, ?_, HB2⟩
          show ∀ z, z ∈ L.take (k + 1) → f.number < z.number
          rw [HTK.out]
          intro z hz
          rcases List.mem_append.1 hz with hz | hz
          · exact HJ.out z hz
          · obtain rfl : z = y := by simpa using hz
            exact Nat.lt_of_not_le HR.out
        case measure => simp [intOf] <;> omega
    · obtain rfl : k = n := by omega
      clear hlt hk
      go_wp2_with fail
      go_ret
      refine ⟨.inr ⟨rfl, ?_⟩, HB.out⟩
      have := HJ.out
      rw [List.take_of_length_le (by rw [HN.out]; exact Nat.le_refl _)] at this
      exact this
end Go.Proofs.YtalcoodidcehnaaDoor
