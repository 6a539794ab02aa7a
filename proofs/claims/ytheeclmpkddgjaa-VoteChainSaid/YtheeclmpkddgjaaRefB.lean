import Derived.Test.YtheeclmpkddgjaaRefA
namespace Go.Proofs.Ytheeclmpkddgjaa
set_option linter.unusedVariables false
set_option linter.unusedSimpArgs false
open Go.RowKit
def nf (f : Nat → Bool) (m : Nat) : Nat := numFrom f (64 - m)
theorem nf_next (f : Nat → Bool) (m : Nat) (hm : m < 64) : nf f m = 2 * nf f (m + 1) + if f m then 1 else 0 := by
  unfold nf
  rw [show 64 - m = (64 - (m + 1)) + 1 by omega, numFrom, show 63 - (64 - (m + 1)) = m by omega]
theorem nf_lt (f : Nat → Bool) (m : Nat) : nf f m < 18446744073709551616 :=
  Nat.lt_of_lt_of_le (numFrom_lt f (64 - m)) (Nat.pow_le_pow_right (n := 2) (j := 64) (by decide) (by omega))
theorem nf_wrap0 (f : Nat → Bool) (m : Nat) (hm : m < 64) (h : f m = false) : IntKind.u64.wrap (((nf f (m + 1) : Nat) : Int) * 2) = ((nf f m : Nat) : Int) := by
  have h1 := nf_lt f m
  have h2 := nf_next f m hm
  rw [h] at h2
  rw [IntKind.wrap_u64]
  simp at h2
  omega
theorem nf_wrap1 (f : Nat → Bool) (m : Nat) (hm : m < 64) (h : f m = true) : IntKind.u64.wrap (IntKind.u64.wrap (((nf f (m + 1) : Nat) : Int) * 2) + 1) = ((nf f m : Nat) : Int) := by
  have h1 := nf_lt f m
  have h2 := nf_next f m hm
  rw [h] at h2
  rw [IntKind.wrap_u64, IntKind.wrap_u64]
  simp at h2
  omega
set_option maxRecDepth 20000 in
set_option maxHeartbeats 400000 in
theorem refSet_any (f : Nat → Bool) (w : World) :
    Calls Try.prog 44 #[.agg (arr f)] w fun e w' => e = .returned (.int .u64 (num f : Nat)) ∧ Below w.heap.size w w' := by
  go_enter Try.func44, Try.ntmps44
  go_wp2_with fail
  have HN := Lib.hid (Blk.new w 75 (arr f) rfl)
  go_loop [3, 4] (fun v i => ∃ n : Nat, n ≤ 64 ∧ i = .int .i64 ((n : Int) - 1) ∧ v = .int .u64 (nf f n : Nat)) (fun _ i => (intOf i + 1).toNat)
  case atStart => exact ⟨64, by omega, rfl, rfl⟩
  case round =>
    obtain ⟨n, hn, rfl, rfl⟩ := hrel
    cases n with
    | zero =>
      go_wp2_with fail
      go_ret
      exact ⟨rfl, bal (Below.refl _ _) _⟩
    | succ m =>
      rw [show ((m + 1 : Nat) : Int) - 1 = (m : Int) by omega]
      have hm : m < 64 := by omega
      have hc := (HN.out.cell m).trans (arr_get f m hm)
      cases hf : f m
      · rw [hf] at hc
        have HF := Lib.hid hf
        clear hf
        go_wp2_with fail
        go_round
        case rel => exact ⟨m, by omega, by go_num, by rw [nf_wrap0 f m hm HF.out]⟩
        case measure => simp [intOf] <;> omega
      · rw [hf] at hc
        have HF := Lib.hid hf
        clear hf
        go_wp2_with fail
        go_round
        case rel => exact ⟨m, by omega, by go_num, by rw [nf_wrap1 f m hm HF.out]⟩
        case measure => simp [intOf] <;> omega
theorem refSet_eq {f : Nat → Bool} {s : Nat} (hs : S64 s) (h : ∀ p, p < 64 → f p = s.testBit p) (w : World) :
    Calls Try.prog 44 #[.agg (arr f)] w fun e w' => e = .returned (.int .u64 (s : Nat)) ∧ Below w.heap.size w w' := by
  rw [← num_eq hs h]; exact refSet_any f w
end Go.Proofs.Ytheeclmpkddgjaa
