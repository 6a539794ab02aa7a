import Derived.Test.YtalcoodidcehnaaDoorProg
import Derived.Test.YtalcoodidcehnaaDoorPureC
import Derived.WalkKit
import Derived.WalkSpells
import Derived.WalkLawsBesides
namespace Go.Proofs.YtalcoodidcehnaaDoor
set_option linter.unusedVariables false
set_option linter.unusedSimpArgs false
open Go.RowKit

set_option maxHeartbeats 400000 in
theorem bit_in (p : Int) (w : World) (h0 : 0 ≤ p) (h1 : p < 64) :
    Calls Tryd.prog 24 #[.int .i64 p] w fun e w' => e = .returned (.int .u64 (IntKind.u64.wrap (2 ^ p.toNat))) ∧ w = w' := by
  go_enter Tryd.func24, Tryd.ntmps24
  go_wp2
  go_ret
  exact ⟨rfl, rfl⟩
set_option maxHeartbeats 400000 in
theorem bit_lo (p : Int) (w : World) (h0 : p < 0) :
    Calls Tryd.prog 24 #[.int .i64 p] w fun e w' => e = .returned (.int .u64 0) ∧ w = w' := by
  go_enter Tryd.func24, Tryd.ntmps24
  go_wp2
  go_ret
  exact ⟨rfl, rfl⟩
set_option maxHeartbeats 400000 in
theorem bit_hi (p : Int) (w : World) (h1 : 64 ≤ p) :
    Calls Tryd.prog 24 #[.int .i64 p] w fun e w' => e = .returned (.int .u64 0) ∧ w = w' := by
  have h0 : 0 ≤ p := by omega
  go_enter Tryd.func24, Tryd.ntmps24
  go_wp2
  go_ret
  exact ⟨rfl, rfl⟩
theorem bit_any (p : Int) (w : World) :
    Calls Tryd.prog 24 #[.int .i64 p] w fun e w' => e = .returned (.int .u64 (sbit p : Nat)) ∧ w = w' := by
  by_cases h0 : p < 0
  · have : sbit p = 0 := by unfold sbit; rw [if_neg (by omega)]
    rw [this]; exact bit_lo p w h0
  · by_cases h1 : p < 64
    · have e : IntKind.u64.wrap (2 ^ p.toNat) = ((sbit p : Nat) : Int) := by
        have := (S64.bit p).lt
        have e : ((2 : Int) ^ p.toNat) = ((sbit p : Nat) : Int) := by
          unfold sbit; rw [if_pos (by omega)]; simp
        rw [e]
        exact wrap_nat _ this
      rw [← e]; exact bit_in p w (by omega) h1
    · have : sbit p = 0 := by unfold sbit; rw [if_neg (by omega)]
      rw [this]; exact bit_hi p w (by omega)

theorem and_nat {s t : Nat} (hs : S64 s) (ht : S64 t) : Go.bits .and .u64 (s : Int) (t : Int) = ((sboth s t : Nat) : Int) := u64_and_nat s t hs.lt ht.lt
theorem or_nat {s t : Nat} (hs : S64 s) (ht : S64 t) : Go.bits .or .u64 (s : Int) (t : Int) = ((sany s t : Nat) : Int) := u64_or_nat s t hs.lt ht.lt
theorem andNot_nat {s t : Nat} (hs : S64 s) (ht : S64 t) : Go.bits .andNot .u64 (s : Int) (t : Int) = ((sbut s t : Nat) : Int) := u64_andNot_nat s t hs.lt ht.lt

set_option maxHeartbeats 400000 in
theorem both_raw (a b : Int) (w : World) :
    Calls Tryd.prog 47 #[.int .u64 a, .int .u64 b] w fun e w' => e = .returned (.int .u64 (Go.bits .and .u64 a b)) ∧ w = w' := by
  go_enter Tryd.func47, Tryd.ntmps47
  go_wp2
  go_ret
  exact ⟨rfl, rfl⟩
theorem both_any {s t : Nat} (hs : S64 s) (ht : S64 t) (w : World) :
    Calls Tryd.prog 47 #[.int .u64 (s : Int), .int .u64 (t : Int)] w fun e w' => e = .returned (.int .u64 (sboth s t : Nat)) ∧ w = w' := by
  rw [← and_nat hs ht]; exact both_raw _ _ w
theorem cast_beq (a b : Nat) : ((a : Int) == (b : Int)) = (a == b) := by
  rw [Bool.eq_iff_iff, beq_iff_eq, beq_iff_eq]; omega
set_option maxHeartbeats 400000 in
theorem has_raw (a p : Int) (w : World) :
    Calls Tryd.prog 26 #[.int .u64 a, .int .i64 p] w fun e w' => e = .returned (.bool (Go.bits .and .u64 a (sbit p : Nat) != 0)) ∧ w = w' := by
  go_enter Tryd.func26, Tryd.ntmps26
  go_wp2_with (go_at_call 24; refine (bit_any _ _).mono ?_; rintro e w' ⟨rfl, rfl⟩)
  go_ret
  exact ⟨rfl, rfl⟩
theorem and_bit_ne (s : Nat) (p : Int) : (sboth s (sbit p) != 0) = shas s p := by
  by_cases h : 0 ≤ p ∧ p < 64
  · obtain ⟨n, rfl⟩ : ∃ n : Nat, p = n := ⟨p.toNat, by omega⟩
    rw [shas_nat s n (by omega)]
    have e : sboth s (sbit n) = s / 2 ^ n % 2 * 2 ^ n := by
      unfold sboth sbit; rw [if_pos h]; exact nat_bit n s
    rw [e, Nat.testBit_eq_decide_div_mod_eq, Bool.eq_iff_iff, bne_iff_ne, decide_eq_true_eq]
    have hp : 0 < 2 ^ n := Nat.two_pow_pos n
    rcases (show s / 2 ^ n % 2 = 0 ∨ s / 2 ^ n % 2 = 1 by omega) with h2 | h2 <;> rw [h2] <;> simp <;> omega
  · have e1 : sbit p = 0 := by unfold sbit; rw [if_neg h]
    have e2 : shas s p = false := by unfold shas; rw [decide_eq_false h]; rfl
    rw [e1, e2]
    unfold sboth
    simp
theorem cast_bne (a b : Nat) : ((a : Int) != (b : Int)) = (a != b) := by
  rw [Bool.eq_iff_iff, bne_iff_ne, bne_iff_ne]; omega
theorem has_any {s : Nat} (hs : S64 s) (p : Int) (w : World) :
    Calls Tryd.prog 26 #[.int .u64 (s : Int), .int .i64 p] w fun e w' => e = .returned (.bool (shas s p)) ∧ w = w' := by
  have : shas s p = (Go.bits .and .u64 (s : Int) (sbit p : Nat) != 0) := by
    rw [and_nat hs (S64.bit p), ← and_bit_ne]; exact (cast_bne _ 0).symm
  rw [this]; exact has_raw _ _ w
set_option maxHeartbeats 1000000 in
theorem ones_raw (a : Int) (w : World) :
    Calls Tryd.prog 42 #[.int .u64 a] w fun e w' => e = .returned (.int .i64 (ones a)) ∧ w = w' := by
  go_enter Tryd.func42, Tryd.ntmps42
  go_wp2
  go_ret
  exact ⟨rfl, rfl⟩
set_option maxHeartbeats 400000 in
theorem size_raw (a : Int) (w : World) :
    Calls Tryd.prog 27 #[.int .u64 a] w fun e w' => e = .returned (.int .i64 (ones a)) ∧ w = w' := by
  go_enter Tryd.func27, Tryd.ntmps27
  go_wp2_with (go_at_call 42; refine (ones_raw _ _).mono ?_; rintro e w' ⟨rfl, rfl⟩)
  go_ret
  exact ⟨rfl, rfl⟩
theorem size_any {s : Nat} (hs : S64 s) (w : World) :
    Calls Tryd.prog 27 #[.int .u64 (s : Int)] w fun e w' => e = .returned (.int .i64 (ssize s : Nat)) ∧ w = w' := by
  rw [← ones_size hs]; exact size_raw _ w
theorem ssize_le (s : Nat) : ssize s ≤ 64 := by
  unfold ssize slist
  have := List.length_filter_le (fun p => s.testBit p) (List.range 64)
  simpa using this
set_option maxHeartbeats 400000 in
theorem most_raw {s t : Nat} (hs : S64 s) (ht : S64 t) (w : World) :
    Calls Tryd.prog 32 #[.int .u64 (s : Int), .int .u64 (t : Int)] w fun e w' => e = .returned (.bool (decide ((ssize t : Int) < 2 * (ssize (sboth s t) : Int)))) ∧ w = w' := by
  have h1 := ssize_le t
  have h2 := ssize_le (sboth s t)
  have hb := hs.both (t := t)
  go_enter Tryd.func32, Tryd.ntmps32
  go_wp2_with fail
  refine (both_any hs ht _).mono ?_
  rintro e w' ⟨rfl, rfl⟩
  go_wp2_with fail
  refine (size_any hb _).mono ?_
  rintro e w' ⟨rfl, rfl⟩
  go_wp2_with fail
  refine (size_any ht _).mono ?_
  rintro e w' ⟨rfl, rfl⟩
  go_wp2_with fail
  go_ret
  exact ⟨rfl, rfl⟩
theorem most_any {s t : Nat} (hs : S64 s) (ht : S64 t) (w : World) :
    Calls Tryd.prog 32 #[.int .u64 (s : Int), .int .u64 (t : Int)] w fun e w' => e = .returned (.bool (smost s t)) ∧ w = w' := by
  have : smost s t = decide ((ssize t : Int) < 2 * (ssize (sboth s t) : Int)) := by
    unfold smost; exact decide_eq_decide.2 (by omega)
  rw [this]; exact most_raw hs ht w
end Go.Proofs.YtalcoodidcehnaaDoor
