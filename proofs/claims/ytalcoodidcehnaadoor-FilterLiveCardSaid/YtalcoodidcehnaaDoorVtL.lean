import Derived.Test.YtalcoodidcehnaaDoorVtK
namespace Go.Proofs.YtalcoodidcehnaaDoor
set_option linter.unusedVariables false
set_option linter.unusedSimpArgs false
open Go.RowKit
theorem own_row {w : World} {base : Nat} {e : TypeId} {sz n : Nat} {v : Value} {xs : List Value} (h : w.ownsRow base e sz v n xs) {g : Nat} (hg : g < base) (cs : Array Value) : (w.setRow g cs).ownsRow base e sz v n xs := by
  refine ⟨h.1, ?_⟩
  rcases h.2 with h0 | ⟨b, cap, cur, rfl, h1, h2, h3⟩
  · exact .inl h0
  · exact .inr ⟨b, cap, cur, rfl, h1, (heap_setRow_other w g b cs (by omega)).trans h2, h3⟩
set_option maxRecDepth 20000 in
set_option maxHeartbeats 4000000 in
theorem vform_any {w : World} {v0 v1 v2 v3 : Value} {A : Option Addr} {q c : Nat} {L : List Vw} (hv : Views w (.slice A q c) L) (hl : L.length ≤ 1000000) (f : Vw) (h4 : #[v0, v1, v2, v3].all (·.oneCell') = true) :
    Calls Tryd.prog 30 #[.agg #[v0, v1, v2, v3, .slice A q c], .agg #[.int .u64 (f.number : Int), .int .u64 (f.epoch : Int), .int .i64 f.rep, .int .u64 (f.members : Int)]] w fun e w' =>
      ∃ A' n' c', e = .returned (.agg #[.int .u64 (f.number : Int), .int .u64 (f.epoch : Int), .int .i64 f.rep, .int .u64 (f.members : Int), .slice A' n' c']) ∧ Below w.heap.size w w' ∧ w'.ownsRow w.heap.size 35 4 (.slice A' n' c') (vkeep f L).length ((vkeep f L).map viewCells).flatten := by
  obtain ⟨w1, hw1⟩ : ∃ w1, w1 = ((w.alloc (.cells #[v0, v1, v2, v3, .slice A q c] 38)).alloc (.cells #[.int .u64 (f.number : Int), .int .u64 (f.epoch : Int), .int .i64 f.rep, .int .u64 (f.members : Int)] 35)).alloc (.cells #[.int .u64 0, .int .u64 0, .int .i64 0, .int .u64 0, .slice none 0 0] 38) := ⟨_, rfl⟩
  have hb1 : Below w.heap.size w w1 := by rw [hw1]; exact bal (bal (bal (Below.refl _ _) _) _) _
  have hs1 : w1.heap.size = w.heap.size + 3 := by rw [hw1]; simp
  have hf : Blk w1 (w.heap.size + 1) 35 (vwA f) := by rw [hw1]; exact (Blk.new _ _ _ (by simp)).old _
  have hr : Blk w1 (w.heap.size + 2) 38 #[.int .u64 0, .int .u64 0, .int .i64 0, .int .u64 0, .slice none 0 0] := by rw [hw1]; exact Blk.new _ _ _ (by simp)
  have hok := hv.ok
  have HV := Lib.hid (hv.below hb1)
  have HB1 := Lib.hid hb1
  have HS1 := Lib.hid hs1
  have HF := Lib.hid hf
  have HR := Lib.hid hr
  have HW1 := Lib.hid hw1
  have HOK := Lib.hid hok
  have hp4 : ∀ u, u ∈ [v0, v1, v2, v3] → u.oneCell' = true := by simpa using h4
  clear hv hb1 hs1 hf hr hw1 hok h4
  obtain ⟨o0, o1, o2, o3⟩ : v0.oneCell' = true ∧ v1.oneCell' = true ∧ v2.oneCell' = true ∧ v3.oneCell' = true := ⟨hp4 _ (by simp), hp4 _ (by simp), hp4 _ (by simp), hp4 _ (by simp)⟩
  clear hp4
  go_enter Tryd.func30, Tryd.ntmps30
  go_wp2_with fail
  rw [← HW1.out]
  refine (vclone_any HV.out (by omega)).mono ?_
  rintro e w2 ⟨v2', rfl, hb2, ho2⟩
  have HO2 := Lib.hid ho2
  obtain ⟨A2, n2, c2, rfl⟩ := own_sl ho2
  have HB2 := Lib.hid hb2
  have HF2 := Lib.hid (HF.out.stay hb2)
  have HR2 := Lib.hid (HR.out.stay hb2)
  clear hb2 ho2
  go_wp2_with fail
  refine (vdelete_any (base := w1.heap.size) HO2.out HOK.out HB2.out.size hl HF2.out (by rw [HS1.out]; omega)).mono ?_
  rintro e w3 ⟨v3', rfl, hb3, ho3⟩
  have HO3 := Lib.hid ho3
  obtain ⟨A3, n3, c3, rfl⟩ := own_sl ho3
  have HB3 := Lib.hid (HB2.out.trans hb3)
  have hf3 := HF2.out.below hb3 (by rw [HS1.out]; omega)
  have HR3 := Lib.hid (HR2.out.below hb3 (by rw [HS1.out]; omega))
  have f0 := hf3.cell 0
  have f1 := hf3.cell 1
  have f2 := hf3.cell 2
  have f3 := hf3.cell 3
  simp only [vwA] at f0 f1 f2 f3
  obtain ⟨g, hg⟩ : ∃ g, g = w.heap.size + 2 := ⟨_, rfl⟩
  have HG := Lib.hid hg
  rw [← hg] at HR3
  have hg2 : w.heap.size + 1 + 1 = g := by omega
  rw [hg2]
  clear hb3 ho3 hf3 hg hg2
  go_wp2_with (refine wpList_store_rec rfl _ _ rfl g rfl _ (.int .u64 (f.number : Int)) (.int .u64 (f.epoch : Int)) (.int .i64 f.rep) (.int .u64 (f.members : Int)) A3 n3 c3 rfl HR3.out rfl (by simp [Value.oneCell']) ?_)
  refine bodyPost_ret (v := .agg #[.int .u64 (f.number : Int), .int .u64 (f.epoch : Int), .int .i64 f.rep, .int .u64 (f.members : Int), .slice A3 n3 c3]) (by exact results_cell_row rfl _ _ g 38 _ (0, 0) _ rfl (HR3.out.row _) Tryd.underlying38 rfl (by exact rec_isize)) rfl ⟨_, _, _, rfl, ?_, ?_⟩
  · exact bsetRow (HB1.out.trans (HB3.out.mono HB1.out.size)) (by rw [HG.out]; omega) _
  · exact own_lower (own_row HO3.out (by rw [HG.out, HS1.out]; omega) _) HB1.out.size
end Go.Proofs.YtalcoodidcehnaaDoor
