import Derived.Test.YtheeclmpkddgjaaSetB
namespace Go.Proofs.Ytheeclmpkddgjaa
set_option linter.unusedVariables false
set_option linter.unusedSimpArgs false
open Go.RowKit
def tzI (x : Int) : Int := IntKind.u64.wrap (Go.bits .and .u64 x (IntKind.u64.wrap (-x)) * 285870213051353865) / 288230376151711744
theorem tzI_eq {t : Nat} (ht : S64 t) (h0 : t ≠ 0) : tzI (t : Int) = ((2 ^ Lib.ctz 64 t * 285870213051353865 % 18446744073709551616 / 288230376151711744 : Nat) : Int) := by
  have hl := Lib.lowest_bit 64 t h0 ht.lt
  have hneg : IntKind.u64.wrap (-(t : Int)) = ((2 ^ 64 - t : Nat) : Int) := by
    have := ht.lt
    rw [IntKind.wrap_u64]; omega
  unfold tzI
  rw [hneg, u64_and_nat t (2 ^ 64 - t) ht.lt (by omega), hl.1, IntKind.wrap_u64]
  rw [show (285870213051353865 : Int) = ((285870213051353865 : Nat) : Int) from rfl, ← Int.natCast_mul]
  omega
theorem smin_zero : smin 0 = -1 := by decide
theorem swith_range (m : Nat) : swith 0 ((List.range (m + 1)).map Int.ofNat) = sany (swith 0 ((List.range m).map Int.ofNat)) (sbit (m : Int)) := by
  unfold swith
  rw [List.range_succ, List.map_append, List.foldl_append]
  rfl
set_option maxHeartbeats 400000 in
theorem all_lo (n : Int) (w : World) (h : n ≤ 0) :
    Calls Try.prog 20 #[.int .i64 n] w fun e w' => e = .returned (.int .u64 (swith 0 ((List.range (0)).map Int.ofNat) : Nat)) ∧ w = w' := by
  go_enter Try.func20, Try.ntmps20
  go_wp2_with fail
  go_loop [3, 8] (fun v i => ∃ k : Nat, k ≤ 0 ∧ i = .int .i64 k ∧ v = .int .u64 (swith 0 ((List.range k).map Int.ofNat) : Nat)) (fun _ i => 0 - (intOf i).toNat)
  case atStart => exact ⟨0, Nat.zero_le _, rfl, rfl⟩
  case round =>
    obtain ⟨k, hk, rfl, rfl⟩ := hrel
    by_cases hlt : (k : Int) < (0 : Int)
    · go_wp2_with fail
      refine (bit_any _ _).mono ?_
      rintro e w' ⟨rfl, rfl⟩
      go_wp2_with fail
      go_round
      case rel => exact ⟨k + 1, by omega, by go_num, by rw [or_nat (S64.zero.with _) (S64.bit _), ← swith_range]⟩
      case measure => simp [intOf]; omega
    · obtain rfl : k = 0 := by omega
      clear hlt
      go_wp2_with fail
      go_ret
      exact ⟨rfl, rfl⟩
set_option maxHeartbeats 400000 in
theorem all_hi (n : Int) (w : World) (h : 64 < n) :
    Calls Try.prog 20 #[.int .i64 n] w fun e w' => e = .returned (.int .u64 (swith 0 ((List.range (64)).map Int.ofNat) : Nat)) ∧ w = w' := by
  go_enter Try.func20, Try.ntmps20
  go_wp2_with fail
  go_loop [3, 8] (fun v i => ∃ k : Nat, k ≤ 64 ∧ i = .int .i64 k ∧ v = .int .u64 (swith 0 ((List.range k).map Int.ofNat) : Nat)) (fun _ i => 64 - (intOf i).toNat)
  case atStart => exact ⟨0, Nat.zero_le _, rfl, rfl⟩
  case round =>
    obtain ⟨k, hk, rfl, rfl⟩ := hrel
    by_cases hlt : (k : Int) < (64 : Int)
    · go_wp2_with fail
      refine (bit_any _ _).mono ?_
      rintro e w' ⟨rfl, rfl⟩
      go_wp2_with fail
      go_round
      case rel => exact ⟨k + 1, by omega, by go_num, by rw [or_nat (S64.zero.with _) (S64.bit _), ← swith_range]⟩
      case measure => simp [intOf]; omega
    · obtain rfl : k = 64 := by omega
      clear hlt
      go_wp2_with fail
      go_ret
      exact ⟨rfl, rfl⟩
set_option maxHeartbeats 400000 in
theorem all_mid (n : Int) (w : World) (h : 0 < n) (h' : n ≤ 64) :
    Calls Try.prog 20 #[.int .i64 n] w fun e w' => e = .returned (.int .u64 (swith 0 ((List.range (n.toNat)).map Int.ofNat) : Nat)) ∧ w = w' := by
  go_enter Try.func20, Try.ntmps20
  go_wp2_with fail
  go_loop [3, 8] (fun v i => ∃ k : Nat, k ≤ n.toNat ∧ i = .int .i64 k ∧ v = .int .u64 (swith 0 ((List.range k).map Int.ofNat) : Nat)) (fun _ i => n.toNat - (intOf i).toNat)
  case atStart => exact ⟨0, Nat.zero_le _, rfl, rfl⟩
  case round =>
    obtain ⟨k, hk, rfl, rfl⟩ := hrel
    by_cases hlt : (k : Int) < n
    · go_wp2_with fail
      refine (bit_any _ _).mono ?_
      rintro e w' ⟨rfl, rfl⟩
      go_wp2_with fail
      go_round
      case rel => exact ⟨k + 1, by omega, by go_num, by rw [or_nat (S64.zero.with _) (S64.bit _), ← swith_range]⟩
      case measure => simp [intOf]; omega
    · have hkm : k = n.toNat := by omega
      have H := Lib.hid hkm
      clear hkm
      go_wp2_with fail
      go_ret
      exact ⟨ret_int (by rw [H.out]), rfl⟩
theorem all_any (n : Int) (w : World) :
    Calls Try.prog 20 #[.int .i64 n] w fun e w' => e = .returned (.int .u64 (sall n : Nat)) ∧ w = w' := by
  unfold sall
  by_cases h : n ≤ 0
  · rw [show (max 0 (min n 64)).toNat = 0 by omega]; exact all_lo n w h
  · by_cases h' : 64 < n
    · rw [show (max 0 (min n 64)).toNat = 64 by omega]; exact all_hi n w h'
    · rw [show (max 0 (min n 64)).toNat = n.toNat by omega]; exact all_mid n w (by omega) (by omega)
end Go.Proofs.Ytheeclmpkddgjaa
