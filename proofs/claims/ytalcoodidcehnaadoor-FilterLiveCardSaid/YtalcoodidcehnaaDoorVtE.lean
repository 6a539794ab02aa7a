import Derived.Test.YtalcoodidcehnaaDoorVtD
namespace Go.Proofs.YtalcoodidcehnaaDoor
set_option linter.unusedVariables false
set_option linter.unusedSimpArgs false
open Go.RowKit
abbrev Recs (w : World) (v : Value) (l : List Rcd) : Prop := Sl KRec 5 w v l
theorem Recs.below {w w' : World} {v : Value} {xs : List Rcd} (h : Recs w v xs) (hb : Below w.heap.size w w') : Recs w' v xs := Sl.below KRec.stays (by decide) h hb
theorem Recs.at {w : World} {A : Option Addr} {n c : Nat} {L : List Rcd} (h : Recs w (.slice A n c) L) (k : Nat) (hk : k < L.length) :
    ∃ b off A2 c2, A = some (⟨b, off, none⟩ : Addr) ∧ w.cell? ⟨b, off + k * 5, none⟩ = some (.int .u64 (L[k].last.number : Int)) ∧ w.cell? ⟨b, off + k * 5 + 1, none⟩ = some (.int .u64 (L[k].last.epoch : Int)) ∧ w.cell? ⟨b, off + k * 5 + 2, none⟩ = some (.int .i64 L[k].last.rep) ∧ w.cell? ⟨b, off + k * 5 + 3, none⟩ = some (.int .u64 (L[k].last.members : Int)) ∧
      w.cell? ⟨b, off + k * 5 + 4, none⟩ = some (.slice A2 L[k].pend.length c2) ∧ b < w.heap.size ∧ L[k].last.Ok ∧ Views w (.slice A2 L[k].pend.length c2) L[k].pend := by
  obtain ⟨b, off, cs, hA, ⟨v, rfl, hok, hv⟩, hl, hg⟩ := Sl.at h k hk
  obtain ⟨A2, c2, rfl, _⟩ := hv.slice
  have h0 := hg 0 _ rfl
  exact ⟨b, off, A2, c2, hA, h0, hg 1 _ rfl, hg 2 _ rfl, hg 3 _ rfl, hg 4 _ rfl, World.block_lt_of_cell? w _ h0, hok, hv⟩
theorem vlast_take (l : List Rcd) (k : Nat) (hk : k < l.length) : vlast (l.take (k + 1)) = if k = 0 ∨ (vlast (l.take k)).number < l[k].last.number then l[k].last else vlast (l.take k) := by
  rw [List.take_succ_eq_append_getElem hk]
  cases k with
  | zero => simp [vlast, vlstep]
  | succ k =>
    unfold vlast
    rw [List.foldl_append]
    simp only [List.foldl_cons, List.foldl_nil]
    have hne : l.take (k + 1) ≠ [] := by
      intro h
      have := congrArg List.length h
      rw [List.length_take] at this
      simp only [List.length_nil] at this
      omega
    obtain ⟨x, hx⟩ : ∃ x, (l.take (k + 1)).foldl vlstep Option.none = some x := by
      cases hl : l.take (k + 1) with
      | nil => exact absurd hl hne
      | cons r l' =>
        obtain ⟨x, h1, _⟩ := vlast_aux l' r.last
        exact ⟨x, by rw [List.foldl_cons]; exact h1⟩
    rw [hx]
    simp only [vlstep, Option.getD_some, Nat.succ_ne_zero, false_or]
    split <;> rfl
def vwA (v : Vw) : Array Value := #[.int .u64 (v.number : Int), .int .u64 (v.epoch : Int), .int .i64 v.rep, .int .u64 (v.members : Int)]
theorem wpList_store_view {ops : Array Oper} {rest : List Oper} {o : Oper} {a : Act} {w : World} {Q : Exit → Act → World → Prop} (hgd : o.guard = none) (x y : Operand) (ho : o.op = .store 35 x y)
    (g : Nat) (hx : a.eval x = .pointer (some ⟨g, 0, none⟩)) (old v : Vw) (hy : a.eval y = .agg #[.int .u64 (v.number : Int), .int .u64 (v.epoch : Int), .int .i64 v.rep, .int .u64 (v.members : Int)]) (hg : Blk w g 35 (vwA old))
    (h : wpList Tryd.prog ops Q rest (a.put o.dst undef) (w.setRow g (vwA v))) : wpList Tryd.prog ops Q (o :: rest) a w :=
  wpList_store_row hgd _ x y ho g hx _ _ (vwA v) hy hg (by kernel_rfl) rfl (by simp [vwA, Value.oneCell']) h
theorem vw_isize : (Tryd.prog.info? 35).map (·.size) = some 4 := by kernel_rfl
set_option maxRecDepth 20000 in
set_option maxHeartbeats 4000000 in
theorem vlast_any {w : World} {v : Value} {L : List Rcd} (hv : Recs w v L) (hl : L.length ≤ 2000000) :
    Calls Tryd.prog 33 #[v] w fun e w' => e = .returned (.agg #[.int .u64 ((vlast L).number : Int), .int .u64 ((vlast L).epoch : Int), .int .i64 (vlast L).rep, .int .u64 ((vlast L).members : Int)]) ∧ Below w.heap.size w w' := by
  obtain ⟨A, c, rfl, _⟩ := hv.slice
  obtain ⟨n, hn⟩ : ∃ n, n = L.length := ⟨_, rfl⟩
  have hn6 : n ≤ 2000000 := by omega
  have HN := Lib.hid hn
  rw [← hn] at hv ⊢
  have HV := Lib.hid hv
  obtain ⟨x, hx⟩ : ∃ x, x = vlast L := ⟨_, rfl⟩
  rw [← hx]
  have HX := Lib.hid hx
  clear hv hl hn hx
  go_enter Tryd.func33, Tryd.ntmps33
  go_wp2_with fail
  go_loopw [8] (fun i wr => ∃ k : Nat, k ≤ n ∧ i = .int .i64 k ∧ Hid (Blk wr w.heap.size 35 (vwA Vw.none)) ∧ Hid (Blk wr (w.heap.size + 1) 35 (vwA (vlast (L.take k)))) ∧ Hid (Below w.heap.size w wr)) (fun i _ => n - (intOf i).toNat)
  case atStart => exact ⟨0, by omega, rfl, (Blk.new w _ _ rfl).old _, Blk.new _ _ _ (by simp), bal (bal (Below.refl _ _) _) _⟩
  case round =>
    obtain ⟨k, hk, rfl, H0, H1, HB⟩ := hrel
    obtain ⟨g, hg⟩ : ∃ g, g = w.heap.size + 1 := ⟨_, rfl⟩
    rw [← hg] at H1
    by_cases hlt : k < n
    · have hlt2 : k < L.length := by rw [← HN.out]; exact hlt
      obtain ⟨b, off, A2, c2, rfl, d0, d1, d2, d3, d4, hbl, hok, hpv⟩ := Recs.at (HV.out.below HB.out) k hlt2
      have htk := vlast_take L k hlt2
      obtain ⟨r, hr⟩ : ∃ r, r = L[k] := ⟨_, rfl⟩
      rw [← hr] at d0 d1 d2 d3 d4 hok htk hpv
      have hx0 := H1.out.cell 0
      have hgl := H1.out.lt
      obtain ⟨bv, hbv⟩ : ∃ bv, bv = vlast (L.take k) := ⟨_, rfl⟩
      rw [← hbv] at htk H1 hx0
      simp only [vwA] at hx0
      have hbal : Below wr.heap.size wr (wr.alloc (.cells #[.int .u64 (r.last.number : Int), .int .u64 (r.last.epoch : Int), .int .i64 r.last.rep, .int .u64 (r.last.members : Int), .slice A2 r.pend.length c2] 38)) := bal (Below.refl _ _) _
      have HBAL := Lib.hid hbal
      have HG := Lib.hid hg
      have HBV := Lib.hid hbv
      clear hr hlt2 hok hbv hbal hpv
      by_cases h0 : k = 0
      · have hk0 : ((k : Int) == 0) = true := by simp [h0]
        rw [if_pos (.inl h0)] at htk
        have HTK := Lib.hid htk
        clear htk h0
        rw [← hg]
        clear hg
        go_wp2_with (refine wpList_store_view rfl _ _ rfl g rfl bv r.last rfl (H1.out.stay HBAL.out) ?_)
        go_roundw
        case rel =>
          refine ⟨k + 1, by omega, by go_num, ?_, ?_, ?_⟩
          · exact (H0.out.stay HBAL.out).rowOther (by have := HG.out; omega) _
          · rw [HTK.out]
            exact (H1.out.stay HBAL.out).row _
          · exact bsetRow (btr HB.out HBAL.out) (by have := HG.out; omega) _
        case measure => simp [intOf] <;> omega
      have hk0 : ((k : Int) == 0) = false := by rw [beq_eq_false_iff_ne]; omega
      by_cases h1 : bv.number < r.last.number
      · have hd : decide (bv.number < r.last.number) = true := decide_eq_true h1
        rw [if_pos (.inr h1)] at htk
        have HTK := Lib.hid htk
        clear htk h0 h1
        rw [← hg]
        clear hg
        go_wp2_with (refine wpList_store_view rfl _ _ rfl g rfl bv r.last rfl (H1.out.stay HBAL.out) ?_)
        go_roundw
        case rel =>
          refine ⟨k + 1, by omega, by go_num, ?_, ?_, ?_⟩
          · exact (H0.out.stay HBAL.out).rowOther (by have := HG.out; omega) _
          · rw [HTK.out]
            exact (H1.out.stay HBAL.out).row _
          · exact bsetRow (btr HB.out HBAL.out) (by have := HG.out; omega) _
        case measure => simp [intOf] <;> omega
      · have hd : decide (bv.number < r.last.number) = false := decide_eq_false h1
        rw [if_neg (fun h => h.elim h0 h1)] at htk
        have HTK := Lib.hid htk
        clear htk h0 h1
        rw [← hg]
        clear hg
        go_wp2_with fail
        go_roundw
        case rel =>
          refine ⟨k + 1, by omega, by go_num, ?_, ?_, ?_⟩
          · exact H0.out.stay HBAL.out
          · rw [HTK.out]
            exact H1.out.stay HBAL.out
          · exact btr HB.out HBAL.out
        case measure => simp [intOf] <;> omega
    · obtain rfl : k = n := by omega
      rw [← hg]
      have hx := H1.out
      have e : vlast (L.take k) = vlast L := by rw [List.take_of_length_le (by rw [HN.out]; exact Nat.le_refl _)]
      rw [e] at hx
      rw [← HX.out] at hx
      have c0 := hx.cell 0
      have c1 := hx.cell 1
      have c2 := hx.cell 2
      have c3 := hx.cell 3
      simp only [vwA] at c0 c1 c2 c3
      obtain ⟨g0, hg0⟩ : ∃ g0, g0 = w.heap.size := ⟨_, rfl⟩
      have H00 := H0.out
      rw [← hg0] at H00 ⊢
      have HG0 := Lib.hid hg0
      have HZ := Lib.hid H00
      have y0 := (H00.row (vwA x)).cell 0
      have y1 := (H00.row (vwA x)).cell 1
      have y2 := (H00.row (vwA x)).cell 2
      have y3 := (H00.row (vwA x)).cell 3
      simp only [vwA] at y0 y1 y2 y3
      clear hlt hk hg hg0 hx e H00
      go_wp2_with (refine wpList_store_view rfl _ _ rfl g0 rfl Vw.none x rfl HZ.out ?_)
      exact bodyPost_ret (v := .agg (vwA x)) (by exact results_cell_row rfl _ _ g0 35 _ (0, 0) _ rfl (HZ.out.row (vwA x)) Tryd.underlying35 rfl (by exact vw_isize)) rfl ⟨rfl, bsetRow HB.out (by rw [HG0.out]; exact Nat.le_refl _) _⟩
end Go.Proofs.YtalcoodidcehnaaDoor
