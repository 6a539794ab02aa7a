import Derived.Test.YtalcoodidcehnaaDoorVtM
import Derived.Test.YtalcoodidcehnaaDoorVtL
import Derived.Deep.CutRange
namespace Go.Proofs.YtalcoodidcehnaaDoor
set_option linter.unusedVariables false
set_option linter.unusedSimpArgs false
open Go.RowKit
set_option maxRecDepth 20000 in
set_option maxHeartbeats 4000000 in
theorem flOwn_any {w : World} {v0 v1 v2 v3 : Value} {A : Option Addr} {q c : Nat} {L : List Vw} (hv : Views w (.slice A q c) L) (hl : L.length ≤ 2000000) (h4 : #[v0, v1, v2, v3].all (·.oneCell') = true) :
    Calls Tryd.prog 25 #[.agg #[v0, v1, v2, v3, .slice A q c]] w fun e w' =>
      ∃ A' q' c', e = .returned (.agg #[v0, v1, v2, v3, .slice A' q' c']) ∧ Below w.heap.size w w' ∧ w'.ownsRow w.heap.size 35 4 (.slice A' q' c') L.length (L.map viewCells).flatten := by
  have hp4 : ∀ u, u ∈ [v0, v1, v2, v3] → u.oneCell' = true := by simpa using h4
  obtain ⟨o0, o1, o2, o3⟩ : v0.oneCell' = true ∧ v1.oneCell' = true ∧ v2.oneCell' = true ∧ v3.oneCell' = true := ⟨hp4 _ (by simp), hp4 _ (by simp), hp4 _ (by simp), hp4 _ (by simp)⟩
  obtain ⟨w1, hw1⟩ : ∃ w1, w1 = (w.alloc (.cells #[v0, v1, v2, v3, .slice A q c] 38)).alloc (.cells #[.int .u64 0, .int .u64 0, .int .i64 0, .int .u64 0, .slice none 0 0] 38) := ⟨_, rfl⟩
  have hb1 : Below w.heap.size w w1 := by rw [hw1]; exact bal (bal (Below.refl _ _) _) _
  have hs1 : w1.heap.size = w.heap.size + 2 := by rw [hw1]; simp
  have hp : Blk w1 w.heap.size 38 #[v0, v1, v2, v3, .slice A q c] := by rw [hw1]; exact (Blk.new _ _ _ rfl).old _
  have hr : Blk w1 (w.heap.size + 1) 38 #[.int .u64 0, .int .u64 0, .int .i64 0, .int .u64 0, .slice none 0 0] := by rw [hw1]; exact Blk.new _ _ _ (by simp)
  have HV := Lib.hid (hv.below hb1)
  have HB1 := Lib.hid hb1
  have HS1 := Lib.hid hs1
  have HR := Lib.hid hr
  have HP := Lib.hid hp
  have HW1 := Lib.hid hw1
  have H4 := Lib.hid h4
  clear hv hb1 hs1 hr hw1 hp h4 hp4
  go_enter Tryd.func25, Tryd.ntmps25
  go_upto_region 1 with fail
  rw [← HW1.out]
  obtain ⟨g0, hg0⟩ : ∃ g0, g0 = w.heap.size := ⟨_, rfl⟩
  have HG0 := Lib.hid hg0
  have hpx := HP.out
  have hrx := HR.out
  have hs1 := HS1.out
  rw [← hg0] at hpx hrx hs1 ⊢
  have HPX := Lib.hid hpx
  have HRX := Lib.hid hrx
  have HSX := Lib.hid hs1
  have p4 := hpx.cell 4
  have hl0 := hpx.lt
  clear hg0 hpx hrx hs1
  go_wp2_with fail
  refine (vclone_any HV.out hl).mono ?_
  rintro e w3 ⟨v3', rfl, hb3, ho3⟩
  obtain ⟨A3, n3, c3, rfl⟩ := own_sl ho3
  have hp3 := HPX.out.stay hb3
  have z4 := hp3.cell 4
  have zf := hp3.free 4
  have hp5 := hp3.set 4 (.slice A3 n3 c3)
  have hr5 : Blk (w3.setCell ⟨g0, 4, none⟩ (.slice A3 n3 c3)) (g0 + 1) 38 #[.int .u64 0, .int .u64 0, .int .i64 0, .int .u64 0, .slice none 0 0] := (HRX.out.stay hb3).other (by show g0 + 1 ≠ g0; omega) _
  have ho5 := own_cell ho3 (g := g0) (by rw [HSX.out]; omega) 4 (.slice A3 n3 c3)
  have hb5 := bsetCell (HB1.out.trans (hb3.mono HB1.out.size)) (g := g0) (by rw [HG0.out]; exact Nat.le_refl _) 4 (.slice A3 n3 c3)
  have HP5 := Lib.hid hp5
  have HR5 := Lib.hid hr5
  have HO5 := Lib.hid ho5
  have HB5 := Lib.hid hb5
  clear hp3 hp5 hr5 ho5 hb5 hb3 ho3
  go_upto_region 2 with fail
  obtain ⟨w5, hw5⟩ : ∃ w5, w5 = w3.setCell ⟨g0, 4, none⟩ (.slice A3 n3 c3) := ⟨_, rfl⟩
  have hp5 := HP5.out
  have hr5 := HR5.out
  have ho5 := HO5.out
  have hb5 := HB5.out
  rw [← hw5] at hp5 hr5 ho5 hb5 ⊢
  have c0 := hp5.cell 0
  have c1 := hp5.cell 1
  have c2 := hp5.cell 2
  have c3' := hp5.cell 3
  have c4 := hp5.cell 4
  have hl5 := hp5.lt
  have HR6 := Lib.hid hr5
  have HO6 := Lib.hid ho5
  have HB6 := Lib.hid hb5
  clear hp5 hr5 ho5 hb5 hw5 z4 zf p4
  go_wp2_with (refine wpList_store_rec rfl _ _ rfl (g0 + 1) rfl _ v0 v1 v2 v3 A3 n3 c3 rfl HR6.out rfl H4.out ?_)
  refine bodyPost_ret (v := .agg #[v0, v1, v2, v3, .slice A3 n3 c3]) (by exact results_cell_row rfl _ _ (g0 + 1) 38 _ (0, 0) _ rfl (HR6.out.row _) Tryd.underlying38 rfl (by exact rec_isize)) rfl ⟨_, _, _, rfl, ?_, ?_⟩
  · exact bsetRow HB6.out (by rw [HG0.out]; omega) _
  · exact own_lower (own_row HO6.out (by rw [HSX.out]; omega) _) HB1.out.size
end Go.Proofs.YtalcoodidcehnaaDoor
