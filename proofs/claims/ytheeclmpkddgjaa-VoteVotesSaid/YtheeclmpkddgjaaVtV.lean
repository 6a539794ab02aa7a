import Derived.Test.YtheeclmpkddgjaaVtT
namespace Go.Proofs.Ytheeclmpkddgjaa
set_option linter.unusedVariables false
set_option linter.unusedSimpArgs false
open Go.RowKit
set_option maxRecDepth 20000 in
set_option maxHeartbeats 4000000 in
theorem refMay_any {w : World} {v : Value} {L : List Rcd} (hv : Recs w v L) (hl : FewR L) {m : Nat} (hm : S64 m) {r : Bool} (hr : vmay m L = r) :
    Calls Try.prog 17 #[.int .u64 (m : Int), v] w fun e w' => e = .returned (.bool r) ∧ Below w.heap.size w w' := by
  have hlo := vlast_ok hv
  have hpo := vpend_ok hv
  have hll := vpend_len hl
  obtain ⟨A, c, rfl, _⟩ := hv.slice
  obtain ⟨n, hn⟩ : ∃ n, n = L.length := ⟨_, rfl⟩
  have hn6 : n ≤ 1000 := by have := hl.len; omega
  have HN := Lib.hid hn
  rw [← hn] at hv ⊢
  have HV := Lib.hid hv
  have HL := Lib.hid hl
  have HM := Lib.hid hm
  have HLO := Lib.hid hlo
  have HPO := Lib.hid hpo
  obtain ⟨la, hla⟩ : ∃ la, la = vlast L := ⟨_, rfl⟩
  have HLA := Lib.hid hla
  have hfld := view_members la
  obtain ⟨P, hP⟩ : ∃ P, P = vpend L := ⟨_, rfl⟩
  have HPP := Lib.hid hP
  rw [← hP] at hll HPO
  obtain ⟨o, ho⟩ : ∃ o, o = (!L.isEmpty && smost m la.members) := ⟨_, rfl⟩
  have hre : r = (o && P.all fun v => smost m v.members) := by rw [← hr, ho, hla, hP]; rfl
  have HRE := Lib.hid hre
  have HO := Lib.hid ho
  clear hv hl hn hm hlo hpo hla hr hP hre ho
  go_enter Try.func17, Try.ntmps17
  go_upto_region 1 with fail
  go_cut [5] from 8 (fun x wx => x = .bool o ∧ Hid (Below w.heap.size w wx))
  case first =>
    by_cases h0 : n = 0
    · have h1 : decide (0 < n) = false := decide_eq_false (by omega)
      have hL : L = [] := List.eq_nil_of_length_eq_zero (by rw [← HN.out]; exact h0)
      have e : o = false := by rw [HO.out, hL]; rfl
      subst e
      subst h0
      clear hL
      go_wp2_with fail
      go_meet
      exact ⟨rfl, Below.refl _ _⟩
    · have h1 : decide (0 < n) = true := decide_eq_true (by omega)
      have h2 : 0 < n := by omega
      have e : smost m la.members = o := by
        rw [HO.out]
        cases hL : L with
        | nil => exact absurd (by rw [HN.out, hL]; rfl) h0
        | cons a l => simp
      have HE := Lib.hid e
      clear h0 e
      go_wp2_with fail
      refine (refLast_any HV.out (by rw [← HN.out]; exact hn6) HLA.out.symm).mono ?_
      rintro e w1 ⟨rfl, hb1⟩
      have HB1 := Lib.hid hb1
      clear hb1
      go_wp2_with fail
      refine (refMost_any HM.out (by rw [HLA.out]; exact HLO.out.members) _).mono ?_
      rintro e w2 ⟨rfl, hb2⟩
      rw [HE.out]
      have HB2 := Lib.hid (btr HB1.out hb2)
      clear hb2
      go_wp2_with fail
      go_meet
      exact ⟨rfl, HB2.out⟩
  case rest =>
    obtain ⟨rfl, HCB⟩ := hcut
    go_wp2_with fail
    refine (refPending_any (HV.out.below HCB.out) HL.out).mono ?_
    rintro e w5 ⟨v5, rfl, hb5, hv5⟩
    rw [← HPP.out] at hv5
    obtain ⟨A5, c5, rfl, _⟩ := hv5.slice
    obtain ⟨l5, hl5⟩ : ∃ l5, l5 = P.length := ⟨_, rfl⟩
    rw [← hl5] at hv5 hll ⊢
    have HL5 := Lib.hid hl5
    have HV5 := Lib.hid hv5
    have HB5 := Lib.hid (btr HCB.out hb5)
    clear hb5 hv5 hl5
    go_wp2_with fail
    go_loopw [5, 7] (fun x i wr => ∃ k : Nat, k ≤ l5 ∧ i = .int .i64 k ∧ x = .bool (o && (P.take k).all fun v => smost m v.members) ∧ Hid (Below w5.heap.size w5 wr)) (fun _ i _ => l5 - (intOf i).toNat)
    case atStart => exact ⟨0, by omega, rfl, by simp, Below.refl _ _⟩
    case round =>
      obtain ⟨k, hk, rfl, rfl, HB⟩ := hrel
      by_cases hlt : k < l5
      · have hlt2 : k < P.length := by rw [← HL5.out]; exact hlt
        obtain ⟨b3, off3, rfl, e0, e1, e2, e3, hbl3, hok3⟩ := HV5.out.in HB.out k hlt2
        have htk : (o && (P.take (k + 1)).all fun v => smost m v.members) = ((o && (P.take k).all fun v => smost m v.members) && smost m P[k].members) := by
          rw [List.take_succ_eq_append_getElem hlt2, List.all_append, ← Bool.and_assoc]
          simp
        obtain ⟨y, hy⟩ : ∃ y, y = P[k] := ⟨_, rfl⟩
        rw [← hy] at e0 e1 e2 e3 hok3 htk
        obtain ⟨z, hz⟩ : ∃ z, z = (o && (P.take k).all fun v => smost m v.members) := ⟨_, rfl⟩
        rw [← hz] at htk ⊢
        have HTK := Lib.hid htk
        have HOK := Lib.hid hok3
        clear hy hlt2 hok3 hz htk
        cases z with
        | false =>
          go_wp2_with fail
          go_roundw
          case rel => exact ⟨k + 1, by omega, by go_num, by rw [HTK.out]; rfl, HB⟩
          case measure => simp [intOf] <;> omega
        | true =>
          go_wp2_with fail
          refine (refMost_any HM.out HOK.out.members _).mono ?_
          rintro e w6 ⟨rfl, hb6⟩
          have HB6 := Lib.hid (btr HB.out hb6)
          clear hb6
          go_wp2_with fail
          go_roundw
          case rel => exact ⟨k + 1, by omega, by go_num, by rw [HTK.out]; rfl, HB6⟩
          case measure => simp [intOf] <;> omega
      · obtain rfl : k = l5 := by omega
        have e : (o && (P.take k).all fun v => smost m v.members) = r := by rw [List.take_of_length_le (by rw [HL5.out]; exact Nat.le_refl _), HRE.out]
        rw [e]
        clear e hlt hk
        go_wp2_with fail
        go_ret
        exact ⟨rfl, btr HB5.out HB.out⟩
end Go.Proofs.Ytheeclmpkddgjaa
