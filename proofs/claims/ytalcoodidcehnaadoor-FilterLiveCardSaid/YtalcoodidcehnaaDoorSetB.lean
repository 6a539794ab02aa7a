import Derived.Test.YtalcoodidcehnaaDoorSet
import Derived.Test.YtalcoodidcehnaaDoorMem
namespace Go.Proofs.YtalcoodidcehnaaDoor
set_option linter.unusedVariables false
set_option linter.unusedSimpArgs false
open Go.RowKit
theorem ret_int {k : IntKind} {a b : Int} (h : a = b) : Ending.returned (.int k a) = .returned (.int k b) := by rw [h]
theorem swith_take (s : Nat) (l : List Int) (k : Nat) (hk : k < l.length) : swith s (l.take (k + 1)) = sany (swith s (l.take k)) (sbit l[k]) := by
  unfold swith
  rw [List.take_succ_eq_append_getElem hk, List.foldl_append]
  rfl
set_option maxHeartbeats 400000 in
theorem with_any {s : Nat} (hs : S64 s) {v : Value} {l : List Int} {w : World} (hv : Ints w v l) (hm : l.length ≤ 140737488351232) :
    Calls Tryd.prog 29 #[.int .u64 (s : Int), v] w fun e w' => e = .returned (.int .u64 (swith s l : Nat)) ∧ w = w' := by
  obtain ⟨A, c, rfl, hc⟩ := hv.slice
  go_enter Tryd.func29, Tryd.ntmps29
  go_wp2
  go_loop [0, 9] (fun v i => ∃ k : Nat, k ≤ l.length ∧ i = .int .i64 k ∧ v = .int .u64 (swith s (l.take k) : Nat)) (fun _ i => l.length - (intOf i).toNat)
  case atStart => exact ⟨0, Nat.zero_le _, rfl, rfl⟩
  case round =>
    obtain ⟨k, hk, rfl, rfl⟩ := hrel
    by_cases hlt : k < l.length
    · obtain ⟨b, off, rfl, hcell⟩ := hv.at k hlt
      have H := Lib.hid hv
      clear hv
      go_wp2_with fail
      refine (bit_any _ _).mono ?_
      rintro e w' ⟨rfl, rfl⟩
      go_wp2_with fail
      go_round
      case rel => exact ⟨k + 1, by omega, by go_num, by rw [or_nat (hs.with _) (S64.bit _), ← swith_take]⟩
      case measure => simp [intOf]; omega
    · have H := Lib.hid hv
      clear hv
      go_wp2_with fail
      go_ret
      exact ⟨ret_int (by rw [List.take_of_length_le (by omega)]), rfl⟩
end Go.Proofs.YtalcoodidcehnaaDoor
