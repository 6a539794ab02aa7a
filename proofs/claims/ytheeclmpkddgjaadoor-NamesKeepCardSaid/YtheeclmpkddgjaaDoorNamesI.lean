import Derived.Test.YtheeclmpkddgjaaDoorNamesD
import Derived.Test.YtheeclmpkddgjaaDoorArr
import Derived.Deep.QuietTactic
import Derived.BigQuiet
namespace Go.Proofs.YtheeclmpkddgjaaDoor
set_option linter.unusedVariables false
set_option linter.unusedSimpArgs false
open Go.RowKit
theorem results_row_tmp {P : Program} {fn : Func} {p u : Tmp} {ty : TypeId} (h : fn.results = #[.cell p ty, .tmp u]) (tmps : Array Value) (w : World) (g : Nat) (t : TypeId) (cs : Array Value) (d : TypeDesc) (b : Value)
    (hp : tmps.getD p undef = .pointer (some ⟨g, 0, none⟩)) (hu' : tmps.getD u undef = b) (hg : Blk w g t cs) (hu : P.underlying ty = some d) (hd : (match d with | .struct _ | .array _ _ => true | _ => false) = true) (hi : (P.info? ty).map (·.size) = some cs.size) :
    (results fn tmps).run P w = .ok (.tuple #[.agg cs, b]) w := by
  rw [results_cell_tmp h, hp, hu']
  simp only [asAddr, Sem.run_pure, Result.andThen_ok, run_loadVar_row w g t ty cs (0, 0) d hg hu hd hi]
/-- the first name of a process -/
def ofName (l : List Nm) (p : Int) : Nm × Bool := match l.find? (fun x => x.proc == p) with
  | some x => (x, true)
  | none => (⟨0, 0⟩, false)
theorem ofName_hit {l : List Nm} {p : Int} {k : Nat} (hk : k < l.length) (h : l[k].proc = p) (hb : ∀ j, (hj : j < k) → l[j].proc ≠ p) : ofName l p = (l[k], true) := by
  unfold ofName
  have : l.find? (fun x => x.proc == p) = some l[k] := by
    rw [List.find?_eq_some_iff_getElem]
    exact ⟨by simpa using h, k, hk, rfl, fun j hj => by simpa using hb j hj⟩
  rw [this]
theorem ofName_miss {l : List Nm} {p : Int} (hb : ∀ j, (hj : j < l.length) → l[j].proc ≠ p) : ofName l p = (⟨0, 0⟩, false) := by
  unfold ofName
  have : l.find? (fun x => x.proc == p) = none := by
    rw [List.find?_eq_none]
    intro x hx
    obtain ⟨j, hj, rfl⟩ := List.getElem_of_mem hx
    simpa using hb j hj
  rw [this]
theorem ofName_inc {l : List Nm} {p : Int} (h : ∀ x, x ∈ l → x.inc < 4294967296) : (ofName l p).1.inc < 4294967296 := by
  unfold ofName
  cases hf : l.find? (fun x => x.proc == p) with
  | none => show (0 : Nat) < _; decide
  | some x => exact h x (List.mem_of_find?_eq_some hf)
theorem Names.cells {w : World} {A : Option Addr} {n c : Nat} {xs : List Nm} (h : Names w (.slice A n c) xs) (k : Nat) (hk : k < xs.length) :
    ∃ b off, A = some (⟨b, off, none⟩ : Addr) ∧ w.cell? ⟨b, off + k * 2, none⟩ = some (.int .i64 xs[k].proc) ∧ w.cell? ⟨b, off + k * 2 + 1, none⟩ = some (.int .u32 (xs[k].inc : Int)) ∧ b < w.heap.size := by
  obtain ⟨b, off, cs, hA, ⟨rfl, _⟩, _, hr⟩ := Sl.at h k hk
  have h0 := hr 0 _ rfl
  exact ⟨b, off, hA, h0, hr 1 _ rfl, World.block_lt_of_cell? w _ h0⟩
set_option maxRecDepth 20000 in
set_option maxHeartbeats 1000000 in
theorem refOfName_any {v : Value} {l : List Nm} {w : World} (hv : Names w v l) (hm : l.length ≤ 9223372036854775807) (p : Int) :
    Calls Tryd.prog 48 #[v, .int .i64 p] w fun e w' => e = .returned (.tuple #[.agg #[.int .i64 (ofName l p).1.proc, .int .u32 ((ofName l p).1.inc : Int)], .bool (ofName l p).2]) ∧ Below w.heap.size w w' := by
  obtain ⟨A, c, rfl, _⟩ := hv.slice
  have HV := Lib.hid hv
  clear hv
  obtain ⟨m, hm'⟩ : ∃ m, m = l.length := ⟨_, rfl⟩
  rw [← hm'] at hm
  have HM := Lib.hid hm'
  rw [← hm']
  clear hm'
  go_enter Tryd.func48, Tryd.ntmps48
  go_wp2_with fail
  go_loop [6] (fun i => ∃ k : Nat, k ≤ m ∧ i = .int .i64 k ∧ Hid (∀ j, (hj : j < l.length) → j < k → l[j].proc ≠ p)) (fun i => m - (intOf i).toNat)
  case atStart => exact ⟨0, by omega, rfl, fun j _ hj => by omega⟩
  case round =>
    obtain ⟨k, hk, rfl, HJ⟩ := hrel
    by_cases hlt : k < m
    · have hlt2 : k < l.length := by rw [← HM.out]; exact hlt
      have hv2 := HV.out
      rw [← HM.out] at hv2
      obtain ⟨b, off, rfl, h0, h1, hb⟩ := Names.cells hv2 k hlt2
      obtain ⟨x, hx⟩ : ∃ x, x = l[k] := ⟨_, rfl⟩
      have hnext : x.proc ≠ p → ∀ j, (hj : j < l.length) → j < k + 1 → l[j].proc ≠ p := by
        intro hne j hj hjk
        by_cases e : j = k
        · subst e; rw [← hx]; exact hne
        · exact HJ.out j hj (by omega)
      have hhit : x.proc = p → ofName l p = (x, true) := by
        intro he
        rw [hx]
        exact ofName_hit hlt2 (by rw [← hx]; exact he) (fun j hj => HJ.out j (by omega) hj)
      rw [← hx] at h0 h1
      have HN := Lib.hid hnext
      have HH := Lib.hid hhit
      clear hnext hhit hx hv2 hlt2
      by_cases he : x.proc = p
      · have hb1 : (x.proc == p) = true := by rw [beq_iff_eq]; exact he
        have HE := Lib.hid he
        clear he
        go_wp2_with fail
        rw [HH.out HE.out]
        refine bodyPost_ret (v := .tuple #[.agg #[.int .i64 x.proc, .int .u32 (x.inc : Int)], .bool true]) (by exact results_row_tmp rfl _ _ w.heap.size 51 _ _ _ rfl rfl (by exact Blk.new _ _ _ rfl) Tryd.underlying51 rfl name_size) rfl ⟨rfl, ?_⟩
        exact bal (Below.refl _ _) _
      · have hb1 : (x.proc == p) = false := by rw [beq_eq_false_iff_ne]; exact he
        have HE := Lib.hid he
        clear he
        go_wp2_with fail
        go_round
        case rel => exact ⟨k + 1, by omega, by go_num, HN.out HE.out⟩
        case measure => simp [intOf] <;> omega
    · obtain rfl : k = m := by omega
      have hmiss : ofName l p = (⟨0, 0⟩, false) := ofName_miss (fun j hj => HJ.out j hj (by rw [HM.out]; exact hj))
      have HH := Lib.hid hmiss
      clear hmiss hlt hk
      go_wp2_with fail
      rw [HH.out]
      refine bodyPost_ret (v := .tuple #[.agg #[.int .i64 0, .int .u32 0], .bool false]) (by exact results_row_tmp rfl _ _ w.heap.size 51 _ _ _ rfl rfl (by exact Blk.new _ _ _ rfl) Tryd.underlying51 rfl name_size) rfl ⟨rfl, ?_⟩
      exact bal (Below.refl _ _) _
set_option maxRecDepth 20000 in
set_option maxHeartbeats 1000000 in
theorem of1_any {x : Nm} {bp : Nat} {p : Int} {w : World} (hc : w.cell? ⟨bp, 0, none⟩ = some (.int .i64 p)) {r : Bool} (hr : (x.proc == p) = r) :
    Calls Tryd.prog 86 #[.agg #[.int .i64 x.proc, .int .u32 (x.inc : Int)], .pointer (some ⟨bp, 0, none⟩)] w fun e w' => e = .returned (.bool r) ∧ Below w.heap.size w w' := by
  have hlt : bp < w.heap.size := World.block_lt_of_cell? w _ hc
  go_enter Tryd.func86, Tryd.ntmps86
  go_wp2_with fail
  go_ret
  exact ⟨by rw [← hr]; rfl, bal (Below.refl _ _) _⟩
set_option maxRecDepth 20000 in
set_option maxHeartbeats 1000000 in
theorem indexName_any {v : Value} {l : List Nm} {w : World} (hv : Names w v l) (hm : l.length ≤ 9223372036854775807) {p : Int} {bp : Nat} (hc : w.cell? ⟨bp, 0, none⟩ = some (.int .i64 p)) :
    Calls Tryd.prog 85 #[v, .func (.func 86) #[] #[.pointer (some ⟨bp, 0, none⟩)]] w fun e w' =>
      ((∃ (k : Nat) (x : Nm), l[k]? = some x ∧ e = .returned (.int .i64 (k : Nat)) ∧ ofName l p = (x, true)) ∨ (e = .returned (.int .i64 (-1)) ∧ ofName l p = (⟨0, 0⟩, false))) ∧ Below w.heap.size w w' := by
  obtain ⟨A, c, rfl, _⟩ := hv.slice
  have HV := Lib.hid hv
  have HBP := Lib.hid (World.block_lt_of_cell? w _ hc)
  have HC := Lib.hid hc
  clear hv hc
  obtain ⟨m, hm'⟩ : ∃ m, m = l.length := ⟨_, rfl⟩
  rw [← hm'] at hm
  have HM := Lib.hid hm'
  rw [← hm']
  clear hm'
  go_enter Tryd.func85, Tryd.ntmps85
  go_wp2_with fail
  go_loopw [8] (fun i wr => ∃ k : Nat, k ≤ m ∧ i = .int .i64 k ∧ Hid (∀ j, (hj : j < l.length) → j < k → l[j].proc ≠ p) ∧ Hid (Below w.heap.size w wr)) (fun i _ => m - (intOf i).toNat)
  case atStart => exact ⟨0, by omega, rfl, fun j _ hj => by omega, Below.refl _ _⟩
  case round =>
    obtain ⟨k, hk, rfl, HJ, HB⟩ := hrel
    by_cases hlt : k < m
    · have hlt2 : k < l.length := by rw [← HM.out]; exact hlt
      have hv2 := HV.out.below HB.out
      rw [← HM.out] at hv2
      obtain ⟨b, off, rfl, h0, h1, hb⟩ := Names.cells hv2 k hlt2
      obtain ⟨x, hx⟩ : ∃ x, x = l[k] := ⟨_, rfl⟩
      have hnext : x.proc ≠ p → ∀ j, (hj : j < l.length) → j < k + 1 → l[j].proc ≠ p := by
        intro hne j hj hjk
        by_cases e : j = k
        · subst e; rw [← hx]; exact hne
        · exact HJ.out j hj (by omega)
      have hget : l[k]? = some x := by rw [hx]; simp [hlt2]
      have hhit : x.proc = p → ofName l p = (x, true) := by
        intro he
        rw [hx]
        exact ofName_hit hlt2 (by rw [← hx]; exact he) (fun j hj => HJ.out j (by omega) hj)
      rw [← hx] at h0 h1
      have HN := Lib.hid hnext
      have HH := Lib.hid hhit
      have HG := Lib.hid hget
      have hc1 : wr.cell? ⟨bp, 0, none⟩ = some (.int .i64 p) := (HB.out.cell (p := ⟨bp, 0, none⟩) HBP.out).trans HC.out
      have HC1 := Lib.hid hc1
      clear hnext hhit hx hv2 hlt2 hc1 hget
      by_cases he : x.proc = p
      · have hb1 : (x.proc == p) = true := by rw [beq_iff_eq]; exact he
        have HE := Lib.hid he
        have HB1 := Lib.hid hb1
        clear he hb1
        go_wp2_with fail
        refine (of1_any HC1.out HB1.out).mono ?_
        rintro e w2 ⟨rfl, hb2⟩
        have HB2 := Lib.hid (btr HB.out hb2)
        clear hb2
        go_wp2_with fail
        go_ret
        exact ⟨.inl ⟨k, x, HG.out, rfl, HH.out HE.out⟩, HB2.out⟩
      · have hb1 : (x.proc == p) = false := by rw [beq_eq_false_iff_ne]; exact he
        have HE := Lib.hid he
        have HB1 := Lib.hid hb1
        clear he hb1
        go_wp2_with fail
        refine (of1_any HC1.out HB1.out).mono ?_
        rintro e w2 ⟨rfl, hb2⟩
        have HB2 := Lib.hid (btr HB.out hb2)
        clear hb2
        go_wp2_with fail
        go_roundw
        case rel => exact ⟨k + 1, by omega, by go_num, HN.out HE.out, HB2⟩
        case measure => simp [intOf] <;> omega
    · obtain rfl : k = m := by omega
      have hmiss : ofName l p = (⟨0, 0⟩, false) := ofName_miss (fun j hj => HJ.out j hj (by rw [HM.out]; exact hj))
      have HH := Lib.hid hmiss
      clear hmiss hlt hk
      go_wp2_with fail
      go_ret
      exact ⟨.inr ⟨rfl, HH.out⟩, HB.out⟩
set_option maxRecDepth 20000 in
set_option maxHeartbeats 1000000 in
theorem ofName_any {v : Value} {l : List Nm} {w : World} (hv : Names w v l) (hm : l.length ≤ 9223372036854775807) (p : Int) :
    Calls Tryd.prog 47 #[v, .int .i64 p] w fun e w' => e = .returned (.tuple #[.agg #[.int .i64 (ofName l p).1.proc, .int .u32 ((ofName l p).1.inc : Int)], .bool (ofName l p).2]) ∧ Below w.heap.size w w' := by
  obtain ⟨A, c, rfl, _⟩ := hv.slice
  have HV := Lib.hid hv
  clear hv
  obtain ⟨m, hm'⟩ : ∃ m, m = l.length := ⟨_, rfl⟩
  have HMM := Lib.hid hm
  rw [← hm'] at hm
  have HM := Lib.hid hm'
  rw [← hm']
  clear hm'
  go_enter Tryd.func47, Tryd.ntmps47
  go_wp2_with fail
  rw [HM.out]
  refine (indexName_any (by exact HV.out.below (bal (bal (Below.refl _ _) _) _)) HMM.out (p := p) (bp := w.heap.size) (by go_simp)).mono ?_
  rintro e w1 ⟨h, hb1⟩
  have hblk : Blk w1 (w.heap.size + 1) 51 #[.int .i64 0, .int .u32 0] := (Blk.new (w.alloc (.cells #[.int .i64 p] 3)) 51 #[.int .i64 0, .int .u32 0] (by simp)).stay hb1
  have HBL := Lib.hid hblk
  have HB1 : Hid (Below w.heap.size w w1) := btr (bal (bal (Below.refl _ _) _) _) hb1
  clear hb1 hblk
  have hk0 : w1.cell? ⟨w.heap.size + 1, 0, none⟩ = some (.int .i64 0) := HBL.out.cell 0
  have hk1 : w1.cell? ⟨w.heap.size + 1, 1, none⟩ = some (.int .u32 0) := HBL.out.cell 1
  have hf0 := HBL.out.free 0
  have hf1 := HBL.out.free 1
  rw [← HM.out]
  have hfin : ∀ (a : Int) (i : Int), Blk ((w1.setCell ⟨w.heap.size + 1, 0, none⟩ (.int .i64 a)).setCell ⟨w.heap.size + 1, 1, none⟩ (.int .u32 i)) (w.heap.size + 1) 51 #[.int .i64 a, .int .u32 i] := fun a i => (HBL.out.set 0 (.int .i64 a)).set 1 (.int .u32 i)
  have HFIN := Lib.hid hfin
  clear hfin
  rcases h with ⟨k, x, hg, rfl, ho⟩ | ⟨rfl, ho⟩
  · have hv2 := HV.out.below HB1.out
    rw [← HM.out] at hv2
    obtain ⟨hk, hx⟩ := List.getElem?_eq_some_iff.1 hg
    obtain ⟨b, off, rfl, h0, h1, hb⟩ := Names.cells hv2 k hk
    have hkm : k < m := by rw [HM.out]; exact hk
    rw [hx] at h0 h1
    have HOO := Lib.hid ho
    clear ho hv2 hx hk hg
    have hk' : ¬ (k : Int) < 0 := by omega
    go_wp2_with fail
    rw [HOO.out]
    refine bodyPost_ret (v := .tuple #[.agg #[.int .i64 x.proc, .int .u32 (x.inc : Int)], .bool true]) (by exact results_row_tmp rfl _ _ (w.heap.size + 1) 51 _ _ _ rfl rfl (by exact HFIN.out _ _) Tryd.underlying51 rfl name_size) rfl ⟨rfl, ?_⟩
    exact (HB1.out.setCell (by simp) _).setCell (by simp) _
  · have HOO := Lib.hid ho
    clear ho
    go_wp2_with fail
    rw [HOO.out]
    refine bodyPost_ret (v := .tuple #[.agg #[.int .i64 0, .int .u32 0], .bool false]) (by exact results_row_tmp rfl _ _ (w.heap.size + 1) 51 _ _ _ rfl rfl (by exact HFIN.out _ _) Tryd.underlying51 rfl name_size) rfl ⟨rfl, ?_⟩
    exact (HB1.out.setCell (by simp) _).setCell (by simp) _
end Go.Proofs.YtheeclmpkddgjaaDoor
