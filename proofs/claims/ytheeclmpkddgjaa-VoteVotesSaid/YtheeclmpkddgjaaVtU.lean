import Derived.Test.YtheeclmpkddgjaaVtV
import Derived.Test.YtheeclmpkddgjaaVtO
namespace Go.Proofs.Ytheeclmpkddgjaa
set_option linter.unusedVariables false
set_option linter.unusedSimpArgs false
open Go.RowKit
set_option maxRecDepth 20000 in
set_option maxHeartbeats 8000000 in
theorem voteVotes_law {w : World} {v : Value} {L : List Rcd} (hv : Recs w v L) (hr : ∀ r, r ∈ L → r.pend.length ≤ reachBytes) {m : Nat} (hm : S64 m) (n : Int) :
    Calls Try.prog 3 #[v, .int .u64 (m : Int), .int .i64 n] w fun e w' => e = .returned (.bool true) ∧ Below w.heap.size w w' := by
  have hpo := vpend_ok hv
  obtain ⟨A, c, rfl, _⟩ := hv.slice
  have HV := Lib.hid hv
  have HR := Lib.hid hr
  have HM := Lib.hid hm
  obtain ⟨q, hq⟩ : ∃ q, q = L.length := ⟨_, rfl⟩
  have HQ := Lib.hid hq
  rw [← hq] at HV ⊢
  obtain ⟨la, hla⟩ : ∃ la, la = vlast L := ⟨_, rfl⟩
  have HLA := Lib.hid hla
  obtain ⟨x, hx⟩ : ∃ x : Int, x = ((sall n : Nat) : Int) := ⟨_, rfl⟩
  have HX := Lib.hid hx.symm
  have HPO := Lib.hid hpo
  have heq1 := view_eql la la
  rw [decide_eq_true rfl] at heq1
  have heq2 : ∀ w, (binOp .eql 31 (.agg #[.int .u64 0, .int .u64 0, .int .i64 0, .int .u64 x]) (.agg #[.int .u64 0, .int .u64 0, .int .i64 0, .int .u64 x])).run Try.prog w = .ok (.bool true) w := fun w => by
    have h := view_eql ⟨0, 0, 0, sall n⟩ ⟨0, 0, 0, sall n⟩ w
    rw [decide_eq_true rfl] at h
    rw [hx]
    exact h
  clear hv hr hm hq hla hx hpo
  rcases Bool.eq_false_or_eq_true (decide (fsum L ≤ 300)) with hf | hf
  rotate_left
  · have HF := Lib.hid hf
    clear hf heq1 heq2
    go_enter Try.func3, Try.ntmps3
    go_wp2_with fail
    refine awake18.mono ?_
    rintro e w1 ⟨rfl, hb1⟩
    have HB1 := Lib.hid hb1
    clear hb1
    go_wp2_with fail
    refine (few18_any (HV.out.below HB1.out) HR.out HF.out).mono ?_
    rintro e w' ⟨rfl, rfl⟩
    go_wp2_with fail
    go_ret
    exact ⟨rfl, HB1.out⟩
  have HF := Lib.hid hf
  have HFR := Lib.hid (FewR.of_sum (of_decide_eq_true hf))
  clear hf
  obtain ⟨b, hb⟩ : ∃ b, b = vmay m L := ⟨_, rfl⟩
  have HMAY : Hid (vmay m L = b) := hb.symm
  obtain ⟨z, hz⟩ : ∃ z : Int, z = ((vnext L : Nat) : Int) := ⟨_, rfl⟩
  have HZ : Hid (((vnext L : Nat) : Int) = z) := hz.symm
  have hbb : (b == b) = true := by simp
  have hzz : (z == z) = true := by simp
  clear hb hz
  go_enter Try.func3, Try.ntmps3
  go_wp2_with fail
  refine awake18.mono ?_
  rintro e w1 ⟨rfl, hb1⟩
  have HB1 := Lib.hid hb1
  clear hb1
  go_wp2_with fail
  refine (few18_any (HV.out.below HB1.out) HR.out HF.out).mono ?_
  rintro e w' ⟨rfl, rfl⟩
  go_wp2_with fail
  refine (of18_any (HV.out.below HB1.out) HFR.out.len).mono ?_
  rintro e w2 ⟨v2, rfl, hb2, hv2⟩
  obtain ⟨A2, c2, rfl, _⟩ := hv2.slice
  rw [← HQ.out] at hv2 ⊢
  have HB2 := Lib.hid (btr HB1.out hb2)
  have HV2 := Lib.hid hv2
  clear hb2 hv2
  go_wp2_with fail
  refine (vfirst_any n _ HX.out).mono ?_
  rintro e w3 ⟨rfl, hb3⟩
  obtain ⟨wz, hwz⟩ : ∃ wz, wz = w3.alloc (.cells #[.int .u64 0, .int .u64 0, .int .i64 0, .int .u64 x, .slice none 0 0] 34) := ⟨_, rfl⟩
  obtain ⟨g, hg⟩ : ∃ g, g = w3.heap.size := ⟨_, rfl⟩
  have hb3z : Below w2.heap.size w2 wz := by rw [hwz]; exact bal hb3 _
  have HBz := Lib.hid (btr HB2.out hb3z)
  have HV2z := Lib.hid (HV2.out.below hb3z)
  have HVz := Lib.hid (HV.out.below HBz.out)
  have HG : Hid (Blk wz g 34 #[.int .u64 0, .int .u64 0, .int .i64 0, .int .u64 x, .slice none 0 0]) := by show Blk _ _ _ _; rw [hwz]; exact Blk.new _ _ _ hg
  have HWZ := Lib.hid hwz
  have HGG := Lib.hid hg
  clear hb3 hb3z hwz hg
  go_upto_region 7 with fail
  rw [← HWZ.out, ← HGG.out]
  have HBW : Hid (Below wz.heap.size wz wz.drew) := vdrew_below _
  have hgz := HG.out.lt
  first
    | (go_region_with
        (first
          | (go_at_call 11; refine (vlastE (HVz.out.below HBW.out) (by have := HFR.out.len; omega) (x := vwA la) (by rw [HLA.out])).mono ?_; rintro e u1 ⟨rfl, d1⟩; simp only [vwA]; have HBW : Hid (Below wz.heap.size wz u1) := btr HBW.out d1)
          | (go_at_call 12; refine (refLast_any (x := la) (HV2z.out.below HBW.out) HFR.out.len HLA.out.symm).mono ?_; rintro e u2 ⟨rfl, d2⟩; have HBW : Hid (Below wz.heap.size wz u2) := btr HBW.out d2)
          | (go_at_call 14; refine (vpend_any (HVz.out.below HBW.out) HFR.out).mono ?_; rintro e u3 ⟨v3, rfl, d3, ho3⟩; have HVP := Lib.hid (Views.of_own ho3 rfl HPO.out); have HBW : Hid (Below wz.heap.size wz u3) := btr HBW.out d3)
          | (go_at_call 15; refine (refPending_any (HV2z.out.below HBW.out) HFR.out).mono ?_; rintro e u4 ⟨v4, rfl, d4, hv4⟩; have HVQ := Lib.hid hv4; have HVP := Lib.hid (HVP.out.below d4); have HBW : Hid (Below wz.heap.size wz u4) := btr HBW.out d4)
          | (go_at_call 13; refine (refViews_any HVP.out HVQ.out (by have := vpend_len HFR.out; omega)).mono ?_; rintro e u5 ⟨rfl, d5⟩; have HBW : Hid (Below wz.heap.size wz u5) := btr HBW.out d5)
          | (go_at_call 16; refine (vmay_any (HVz.out.below HBW.out) HFR.out HM.out HMAY.out).mono ?_; rintro e u6 ⟨rfl, d6⟩; have HBW : Hid (Below wz.heap.size wz u6) := btr HBW.out d6)
          | (go_at_call 17; refine (refMay_any (HV2z.out.below HBW.out) HFR.out HM.out HMAY.out).mono ?_; rintro e u7 ⟨rfl, d7⟩; have HBW : Hid (Below wz.heap.size wz u7) := btr HBW.out d7)
          | (go_at_call 18; refine (vnext_any (HVz.out.below HBW.out) HFR.out HZ.out).mono ?_; rintro e u8 ⟨rfl, d8⟩; have HBW : Hid (Below wz.heap.size wz u8) := btr HBW.out d8; have hgk := HG.out.stay HBW.out; have x0 := hgk.cell 0; have x1 := hgk.cell 1; have x2 := hgk.cell 2; have x3 := hgk.cell 3; have x4 := hgk.cell 4)
          | (go_at_call 19; refine (refNext_any (HV2z.out.below HBW.out) HFR.out HZ.out).mono ?_; rintro e u9 ⟨rfl, rfl⟩)
          | (go_at_call 20; refine (all_any n _).mono ?_; rintro e u10 ⟨rfl, rfl⟩; rw [HX.out])))
    | fail
  all_goals
    go_wp2_with fail
    go_ret
    exact ⟨rfl, btr HBz.out HBW.out⟩
end Go.Proofs.Ytheeclmpkddgjaa
