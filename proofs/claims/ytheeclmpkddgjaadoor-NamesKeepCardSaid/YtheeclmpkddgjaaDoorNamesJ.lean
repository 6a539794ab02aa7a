import Derived.Test.YtheeclmpkddgjaaDoorNamesI
namespace Go.Proofs.YtheeclmpkddgjaaDoor
set_option linter.unusedVariables false
set_option linter.unusedSimpArgs false
open Go.RowKit
set_option maxRecDepth 20000 in
set_option maxHeartbeats 1000000 in
theorem refNamesEq_true {v v' : Value} {xs : List Nm} {w : World} (hv : Names w v xs) (hv' : Names w v' xs) (hm : xs.length ≤ 9223372036854775807) :
    Calls Tryd.prog 52 #[v, v'] w fun e w' => e = .returned (.bool true) ∧ Below w.heap.size w w' := by
  obtain ⟨A, c, rfl, _⟩ := hv.slice
  obtain ⟨A', c', rfl, _⟩ := hv'.slice
  have HV := Lib.hid hv
  have HV' := Lib.hid hv'
  clear hv hv'
  obtain ⟨m, hm'⟩ : ∃ m, m = xs.length := ⟨_, rfl⟩
  rw [← hm'] at hm
  have HM := Lib.hid hm'
  rw [← hm']
  clear hm'
  go_enter Tryd.func52, Tryd.ntmps52
  go_wp2_with fail
  go_loopw [5] (fun i wr => ∃ k : Nat, k ≤ m ∧ i = .int .i64 k ∧ Hid (Below w.heap.size w wr)) (fun i _ => m - (intOf i).toNat)
  case atStart => exact ⟨0, by omega, rfl, Below.refl _ _⟩
  case round =>
    obtain ⟨k, hk, rfl, HB⟩ := hrel
    by_cases hlt : k < m
    · have hlt2 : k < xs.length := by rw [← HM.out]; exact hlt
      have hv2 := HV.out.below HB.out
      have hv3 := HV'.out.below HB.out
      rw [← HM.out] at hv2 hv3
      obtain ⟨b, off, rfl, h0, h1, hb⟩ := Names.cells hv2 k hlt2
      obtain ⟨b', off', rfl, h0', h1', hb'⟩ := Names.cells hv3 k hlt2
      obtain ⟨x, hx⟩ : ∃ x, x = xs[k] := ⟨_, rfl⟩
      rw [← hx] at h0 h1 h0' h1'
      clear hx hlt2 hv2 hv3
      go_wp2_with fail
      go_quiet (fail)
      go_wp2_with fail
      go_roundw
      case rel => exact ⟨k + 1, by omega, by go_num, bdrewN HB.out _⟩
      case measure => simp [intOf] <;> omega
    · obtain rfl : k = m := by omega
      clear hlt hk
      go_wp2_with fail
      go_ret
      exact ⟨rfl, HB.out⟩
end Go.Proofs.YtheeclmpkddgjaaDoor
