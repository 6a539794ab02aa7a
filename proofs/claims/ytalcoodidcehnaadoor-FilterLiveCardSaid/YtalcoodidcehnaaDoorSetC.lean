import Derived.Test.YtalcoodidcehnaaDoorSetB
namespace Go.Proofs.YtalcoodidcehnaaDoor
set_option linter.unusedVariables false
set_option linter.unusedSimpArgs false
open Go.RowKit
/-- what is asked of memory: the table of bits.TrailingZeros64 -/
structure Tab (w : World) : Prop where
  cell : ∀ i, i < 64 → w.cell? ⟨0, i, none⟩ = some (.int .u8 (Lib.deBruijn64tab.getD i 0 : Nat))
theorem Tab.below {w w' : World} (h : Tab w) (hb : Below w.heap.size w w') : Tab w' :=
  ⟨fun i hi => (hb.cell (p := ⟨0, i, none⟩) (World.block_lt_of_cell? w _ (h.cell i hi))).trans (h.cell i hi)⟩
def tzI (x : Int) : Int := IntKind.u64.wrap (Go.bits .and .u64 x (IntKind.u64.wrap (-x)) * 285870213051353865) / 288230376151711744
theorem tzI_eq {t : Nat} (ht : S64 t) (h0 : t ≠ 0) : tzI (t : Int) = ((2 ^ Lib.ctz 64 t * 285870213051353865 % 18446744073709551616 / 288230376151711744 : Nat) : Int) := by
  have hl := Lib.lowest_bit 64 t h0 ht.lt
  have hneg : IntKind.u64.wrap (-(t : Int)) = ((2 ^ 64 - t : Nat) : Int) := by
    have := ht.lt
    rw [IntKind.wrap_u64]; omega
  unfold tzI
  rw [hneg, u64_and_nat t (2 ^ 64 - t) ht.lt (by omega), hl.1, IntKind.wrap_u64]
  rw [show (285870213051353865 : Int) = ((285870213051353865 : Nat) : Int) from rfl, ← Int.natCast_mul]
  omega
set_option maxHeartbeats 400000 in
theorem tz_raw (x : Int) (k : Int) (hx : (x == 0) = false) (w : World) (h0 : 0 ≤ k) (h1 : k ≤ 63)
    (hi : 0 ≤ IntKind.u64.wrap (Go.bits .and .u64 x (IntKind.u64.wrap (-x)) * 285870213051353865) / 288230376151711744 ∧ IntKind.u64.wrap (Go.bits .and .u64 x (IntKind.u64.wrap (-x)) * 285870213051353865) / 288230376151711744 < 64)
    (hc : w.cell? ⟨0, (IntKind.u64.wrap (Go.bits .and .u64 x (IntKind.u64.wrap (-x)) * 285870213051353865) / 288230376151711744).toNat, none⟩ = some (.int .u8 k)) :
    Calls Tryd.prog 54 #[.int .u64 x] w fun e w' => e = .returned (.int .i64 k) ∧ w = w' := by
  go_enter Tryd.func54, Tryd.ntmps54
  go_wp2_with fail
  go_ret
  exact ⟨rfl, rfl⟩
set_option maxHeartbeats 400000 in
theorem min_nil (w : World) :
    Calls Tryd.prog 52 #[.int .u64 0] w fun e w' => e = .returned (.int .i64 (-1)) ∧ w = w' := by
  go_enter Tryd.func52, Tryd.ntmps52
  go_wp2_with fail
  go_ret
  exact ⟨rfl, rfl⟩
theorem tz_any {t : Nat} (ht : S64 t) (h0 : t ≠ 0) {w : World} (h : Tab w) :
    Calls Tryd.prog 54 #[.int .u64 (t : Int)] w fun e w' => e = .returned (.int .i64 (Lib.ctz 64 t : Nat)) ∧ w = w' := by
  have e := tzI_eq ht h0
  obtain ⟨hl, hk⟩ := Lib.lowest_bit 64 t h0 ht.lt
  obtain ⟨hi, hd⟩ := Lib.deBruijn64_at _ hk
  have hc := h.cell _ hi
  rw [hd] at hc
  unfold tzI at e
  refine tz_raw _ _ (by rw [beq_eq_false_iff_ne]; omega) w (by omega) (by omega) (by rw [e]; omega) ?_
  rw [e, Int.toNat_natCast]
  exact hc
set_option maxHeartbeats 400000 in
theorem min_pos {t : Nat} (ht : S64 t) (h0 : t ≠ 0) {w : World} (h : Tab w) :
    Calls Tryd.prog 52 #[.int .u64 (t : Int)] w fun e w' => e = .returned (.int .i64 (Lib.ctz 64 t : Nat)) ∧ w = w' := by
  have hx : ((t : Int) == 0) = false := by rw [beq_eq_false_iff_ne]; omega
  have H := Lib.hid h
  clear h
  go_enter Tryd.func52, Tryd.ntmps52
  go_wp2_with fail
  refine (tz_any ht h0 H.out).mono ?_
  rintro e w' ⟨rfl, rfl⟩
  go_wp2_with fail
  go_ret
  exact ⟨rfl, rfl⟩
theorem smin_zero : smin 0 = -1 := by decide
theorem min_any {t : Nat} (ht : S64 t) {w : World} (h : Tab w) :
    Calls Tryd.prog 52 #[.int .u64 (t : Int)] w fun e w' => e = .returned (.int .i64 (smin t)) ∧ w = w' := by
  by_cases h0 : t = 0
  · subst h0
    exact min_nil w
  · rw [smin_step ht h0]
    exact min_pos ht h0 h
theorem swith_range (m : Nat) : swith 0 ((List.range (m + 1)).map Int.ofNat) = sany (swith 0 ((List.range m).map Int.ofNat)) (sbit (m : Int)) := by
  unfold swith
  rw [List.range_succ, List.map_append, List.foldl_append]
  rfl
set_option maxHeartbeats 400000 in
theorem all_lo (n : Int) (w : World) (h : n ≤ 0) :
    Calls Tryd.prog 8 #[.int .i64 n] w fun e w' => e = .returned (.int .u64 (swith 0 ((List.range (0)).map Int.ofNat) : Nat)) ∧ w = w' := by
  go_enter Tryd.func8, Tryd.ntmps8
  go_wp2_with fail
  go_loop [3, 8] (fun v i => ∃ k : Nat, k ≤ 0 ∧ i = .int .i64 k ∧ v = .int .u64 (swith 0 ((List.range k).map Int.ofNat) : Nat)) (fun _ i => 0 - (intOf i).toNat)
  case atStart => exact ⟨0, Nat.zero_le _, rfl, rfl⟩
  case round =>
    obtain ⟨k, hk, rfl, rfl⟩ := hrel
    by_cases hlt : (k : Int) < (0 : Int)
    · go_wp2_with fail
      refine (bit_any _ _).mono ?_
      rintro e w' ⟨rfl, rfl⟩
      go_wp2_with fail
      go_round
      case rel => exact ⟨k + 1, by omega, by go_num, by rw [or_nat (S64.zero.with _) (S64.bit _), ← swith_range]⟩
      case measure => simp [intOf]; omega
    · obtain rfl : k = 0 := by omega
      clear hlt
      go_wp2_with fail
      go_ret
      exact ⟨rfl, rfl⟩
set_option maxHeartbeats 400000 in
theorem all_hi (n : Int) (w : World) (h : 64 < n) :
    Calls Tryd.prog 8 #[.int .i64 n] w fun e w' => e = .returned (.int .u64 (swith 0 ((List.range (64)).map Int.ofNat) : Nat)) ∧ w = w' := by
  go_enter Tryd.func8, Tryd.ntmps8
  go_wp2_with fail
  go_loop [3, 8] (fun v i => ∃ k : Nat, k ≤ 64 ∧ i = .int .i64 k ∧ v = .int .u64 (swith 0 ((List.range k).map Int.ofNat) : Nat)) (fun _ i => 64 - (intOf i).toNat)
  case atStart => exact ⟨0, Nat.zero_le _, rfl, rfl⟩
  case round =>
    obtain ⟨k, hk, rfl, rfl⟩ := hrel
    by_cases hlt : (k : Int) < (64 : Int)
    · go_wp2_with fail
      refine (bit_any _ _).mono ?_
      rintro e w' ⟨rfl, rfl⟩
      go_wp2_with fail
      go_round
      case rel => exact ⟨k + 1, by omega, by go_num, by rw [or_nat (S64.zero.with _) (S64.bit _), ← swith_range]⟩
      case measure => simp [intOf]; omega
    · obtain rfl : k = 64 := by omega
      clear hlt
      go_wp2_with fail
      go_ret
      exact ⟨rfl, rfl⟩
set_option maxHeartbeats 400000 in
theorem all_mid (n : Int) (w : World) (h : 0 < n) (h' : n ≤ 64) :
    Calls Tryd.prog 8 #[.int .i64 n] w fun e w' => e = .returned (.int .u64 (swith 0 ((List.range (n.toNat)).map Int.ofNat) : Nat)) ∧ w = w' := by
  go_enter Tryd.func8, Tryd.ntmps8
  go_wp2_with fail
  go_loop [3, 8] (fun v i => ∃ k : Nat, k ≤ n.toNat ∧ i = .int .i64 k ∧ v = .int .u64 (swith 0 ((List.range k).map Int.ofNat) : Nat)) (fun _ i => n.toNat - (intOf i).toNat)
  case atStart => exact ⟨0, Nat.zero_le _, rfl, rfl⟩
  case round =>
    obtain ⟨k, hk, rfl, rfl⟩ := hrel
    by_cases hlt : (k : Int) < n
    · go_wp2_with fail
      refine (bit_any _ _).mono ?_
      rintro e w' ⟨rfl, rfl⟩
      go_wp2_with fail
      go_round
      case rel => exact ⟨k + 1, by omega, by go_num, by rw [or_nat (S64.zero.with _) (S64.bit _), ← swith_range]⟩
      case measure => simp [intOf]; omega
    · have hkm : k = n.toNat := by omega
      have H := Lib.hid hkm
      clear hkm
      go_wp2_with fail
      go_ret
      exact ⟨ret_int (by rw [H.out]), rfl⟩
theorem all_any (n : Int) (w : World) :
    Calls Tryd.prog 8 #[.int .i64 n] w fun e w' => e = .returned (.int .u64 (sall n : Nat)) ∧ w = w' := by
  unfold sall
  by_cases h : n ≤ 0
  · rw [show (max 0 (min n 64)).toNat = 0 by omega]; exact all_lo n w h
  · by_cases h' : 64 < n
    · rw [show (max 0 (min n 64)).toNat = 64 by omega]; exact all_hi n w h'
    · rw [show (max 0 (min n 64)).toNat = n.toNat by omega]; exact all_mid n w (by omega) (by omega)
end Go.Proofs.YtalcoodidcehnaaDoor
