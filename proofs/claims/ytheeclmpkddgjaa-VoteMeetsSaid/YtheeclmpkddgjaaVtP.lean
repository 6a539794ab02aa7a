import Derived.Test.YtheeclmpkddgjaaVtO
namespace Go.Proofs.Ytheeclmpkddgjaa
set_option linter.unusedVariables false
set_option linter.unusedSimpArgs false
open Go.RowKit
set_option maxRecDepth 20000 in
set_option maxHeartbeats 8000000 in
theorem voteMeets_law {w : World} {v : Value} {L : List Rcd} (hv : Recs w v L) (hr : ∀ r, r ∈ L → r.pend.length ≤ reachBytes) {a b : Nat} (ha : S64 a) (hb : S64 b) :
    Calls Try.prog 5 #[v, .int .u64 (a : Int), .int .u64 (b : Int)] w fun e w' => e = .returned (.bool true) ∧ Below w.heap.size w w' := by
  obtain ⟨A, c, rfl, _⟩ := hv.slice
  have HV := Lib.hid hv
  have HR := Lib.hid hr
  have HA := Lib.hid ha
  have HBb := Lib.hid hb
  have hlo := vlast_ok hv
  have hpo := vpend_ok hv
  obtain ⟨n, hn⟩ : ∃ n, n = L.length := ⟨_, rfl⟩
  have HN := Lib.hid hn
  rw [← hn] at HV ⊢
  obtain ⟨la, hla⟩ : ∃ la, la = vlast L := ⟨_, rfl⟩
  have HLA := Lib.hid hla
  rw [← hla] at hlo
  have HLO := Lib.hid hlo
  have HPO := Lib.hid hpo
  have hfld := view_members la
  clear hv hr ha hb hn hla hlo hpo
  rcases Bool.eq_false_or_eq_true (decide (fsum L ≤ 300)) with hf | hf
  rotate_left
  · have HF := Lib.hid hf
    clear hf
    go_enter Try.func5, Try.ntmps5
    go_wp2_with fail
    refine awake18.mono ?_
    rintro e w1 ⟨rfl, hb1⟩
    have HB1 := Lib.hid hb1
    clear hb1
    go_wp2_with fail
    refine (few18_any (HV.out.below HB1.out) HR.out HF.out).mono ?_
    rintro e w' ⟨rfl, rfl⟩
    go_wp2_with fail
    go_ret
    exact ⟨rfl, HB1.out⟩
  have HF := Lib.hid hf
  have HFR := Lib.hid (FewR.of_sum (of_decide_eq_true hf))
  clear hf
  rcases Bool.eq_false_or_eq_true (vmay a L) with hm | hm
  rotate_left
  · have HM := Lib.hid hm
    clear hm
    go_enter Try.func5, Try.ntmps5
    go_wp2_with fail
    refine awake18.mono ?_
    rintro e w1 ⟨rfl, hb1⟩
    have HB1 := Lib.hid hb1
    clear hb1
    go_wp2_with fail
    refine (few18_any (HV.out.below HB1.out) HR.out HF.out).mono ?_
    rintro e w' ⟨rfl, rfl⟩
    go_wp2_with fail
    refine (vmay_any (HV.out.below HB1.out) HFR.out HA.out HM.out).mono ?_
    rintro e w2 ⟨rfl, hb2⟩
    have HB2 := Lib.hid (btr HB1.out hb2)
    clear hb2
    go_wp2_with fail
    go_ret
    exact ⟨rfl, HB2.out⟩
  have hmore : vmay (sany a b) L = true := vmay_more hm
  have HM := Lib.hid hm
  have HMO := Lib.hid hmore
  rcases Bool.eq_false_or_eq_true (vmay b L) with hm2 | hm2
  rotate_left
  · have HM2 := Lib.hid hm2
    clear hm hm2 hmore
    go_enter Try.func5, Try.ntmps5
    go_wp2_with fail
    refine awake18.mono ?_
    rintro e w1 ⟨rfl, hb1⟩
    have HB1 := Lib.hid hb1
    clear hb1
    go_wp2_with fail
    refine (few18_any (HV.out.below HB1.out) HR.out HF.out).mono ?_
    rintro e w' ⟨rfl, rfl⟩
    go_wp2_with fail
    refine (vmay_any (HV.out.below HB1.out) HFR.out HA.out HM.out).mono ?_
    rintro e w2 ⟨rfl, hb2⟩
    have HB2 := Lib.hid (btr HB1.out hb2)
    clear hb2
    go_wp2_with fail
    refine (any_any HA.out HBb.out _).mono ?_
    rintro e w' ⟨rfl, rfl⟩
    go_wp2_with fail
    refine (vmay_any (HV.out.below HB2.out) HFR.out (HA.out.any HBb.out) HMO.out).mono ?_
    rintro e w3 ⟨rfl, hb3⟩
    have HB3 := Lib.hid (btr HB2.out hb3)
    clear hb3
    go_wp2_with fail
    refine (vmay_any (HV.out.below HB3.out) HFR.out HBb.out HM2.out).mono ?_
    rintro e w4 ⟨rfl, hb4⟩
    have HB4 := Lib.hid (btr HB3.out hb4)
    clear hb4
    go_wp2_with fail
    go_ret
    exact ⟨rfl, HB4.out⟩
  obtain ⟨x, hx⟩ : ∃ x, x = sboth a b := ⟨_, rfl⟩
  have hmeet := vmay_meet hm hm2
  rw [← hx, ← HLA.out] at hmeet
  have HM2 := Lib.hid hm2
  have HX : Hid (sboth a b = x) := hx.symm
  have HX64 : Hid (S64 x) := by show S64 x; rw [hx]; exact HA.out.both
  have HME := Lib.hid hmeet
  clear hm hm2 hmore hmeet hx
  obtain ⟨P, hP⟩ : ∃ P, P = vpend L := ⟨_, rfl⟩
  rw [← hP] at HME HPO
  have HPP := Lib.hid hP
  have hpl := vpend_len HFR.out
  rw [← hP] at hpl
  obtain ⟨m, hm⟩ : ∃ m, m = P.length := ⟨_, rfl⟩
  have hm6 : m ≤ 1000000 := by rw [hm]; exact hpl
  have HMM := Lib.hid hm
  have hz : ((sboth x la.members : Nat) : Int) ≠ 0 := by have := ssize_ne HME.out.1; omega
  have hbne : (((sboth x la.members : Nat) : Int) != 0) = true := by rw [bne_iff_ne]; exact hz
  clear hP hpl hm hz
  go_enter Try.func5, Try.ntmps5
  go_wp2_with fail
  refine awake18.mono ?_
  rintro e w1 ⟨rfl, hb1⟩
  have HB1 := Lib.hid hb1
  clear hb1
  go_wp2_with fail
  refine (few18_any (HV.out.below HB1.out) HR.out HF.out).mono ?_
  rintro e w' ⟨rfl, rfl⟩
  go_wp2_with fail
  refine (vmay_any (HV.out.below HB1.out) HFR.out HA.out HM.out).mono ?_
  rintro e w2 ⟨rfl, hb2⟩
  have HB2 := Lib.hid (btr HB1.out hb2)
  clear hb2
  go_wp2_with fail
  refine (any_any HA.out HBb.out _).mono ?_
  rintro e w' ⟨rfl, rfl⟩
  go_wp2_with fail
  refine (vmay_any (HV.out.below HB2.out) HFR.out (HA.out.any HBb.out) HMO.out).mono ?_
  rintro e w3 ⟨rfl, hb3⟩
  have HB3 := Lib.hid (btr HB2.out hb3)
  clear hb3
  go_wp2_with fail
  refine (vmay_any (HV.out.below HB3.out) HFR.out HBb.out HM2.out).mono ?_
  rintro e w4 ⟨rfl, hb4⟩
  have HB4 := Lib.hid (btr HB3.out hb4)
  clear hb4
  go_wp2_with fail
  refine (both_eq HA.out HBb.out HX.out _).mono ?_
  rintro e w' ⟨rfl, rfl⟩
  go_wp2_with fail
  refine (vpend_any (HV.out.below HB4.out) HFR.out).mono ?_
  rintro e w5 ⟨v5, rfl, hb5, ho5⟩
  rw [← HPP.out] at ho5
  obtain ⟨A5, l5, c5, rfl⟩ := own_sl ho5
  have hl5 := own_len ho5
  rw [← HMM.out] at hl5
  subst hl5
  have HV5 := Lib.hid (Views.of_own ho5 rfl HPO.out)
  have HB5 := Lib.hid (btr HB4.out hb5)
  clear hb5 ho5
  go_wp2_with fail
  go_loopw [11] (fun i wr => ∃ k : Nat, k ≤ l5 ∧ i = .int .i64 k ∧ w5 = wr) (fun i _ => l5 - (intOf i).toNat)
  case atStart => exact ⟨0, by omega, rfl, rfl⟩
  case round =>
    obtain ⟨k, hk, rfl, rfl⟩ := hrel
    by_cases hlt : k < l5
    · have hlt2 : k < P.length := by rw [← HMM.out]; exact hlt
      obtain ⟨b3, off3, rfl, e0, e1, e2, e3, hbl3, hok3⟩ := Views.at HV5.out k hlt2
      have hmem := HME.out.2 P[k] (List.getElem_mem hlt2)
      obtain ⟨y, hy⟩ : ∃ y, y = P[k] := ⟨_, rfl⟩
      rw [← hy] at e0 e1 e2 e3 hok3 hmem
      have hz : (((sboth x y.members : Nat) : Int) == 0) = false := by rw [beq_eq_false_iff_ne]; have := ssize_ne hmem; omega
      have HOK := Lib.hid hok3
      clear hy hlt2 hok3 hmem
      go_wp2_with fail
      refine (both_any HX64.out HOK.out.members _).mono ?_
      rintro e w' ⟨rfl, rfl⟩
      go_wp2_with fail
      go_roundw
      case rel => exact ⟨k + 1, by omega, by go_num, trivial⟩
      case measure => simp [intOf] <;> omega
    · obtain rfl : k = l5 := by omega
      clear hlt hk
      go_wp2_with fail
      refine (vlast_any (HV.out.below HB5.out) (by have := HFR.out.len; omega)).mono ?_
      rintro e w6 ⟨rfl, hb6⟩
      rw [← HLA.out]
      have HB6 := Lib.hid (btr HB5.out hb6)
      clear hb6
      go_wp2_with fail
      refine (both_any HX64.out HLO.out.members _).mono ?_
      rintro e w' ⟨rfl, rfl⟩
      go_wp2_with fail
      go_ret
      exact ⟨by first | rfl | simp, HB6.out⟩
end Go.Proofs.Ytheeclmpkddgjaa
