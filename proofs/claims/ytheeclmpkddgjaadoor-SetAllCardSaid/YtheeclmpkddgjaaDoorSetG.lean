import Derived.Test.YtheeclmpkddgjaaDoorSetF
namespace Go.Proofs.YtheeclmpkddgjaaDoor
set_option linter.unusedVariables false
set_option linter.unusedSimpArgs false
open Go.RowKit
set_option maxRecDepth 20000 in
set_option maxHeartbeats 400000 in
theorem setAll_lo (n : Int) (h : n ≤ 0) (w : World) :
    Calls Tryd.prog 6 #[.int .i64 n] w fun e w' => e = .returned (.bool true) ∧ Below w.heap.size w w' := by
  obtain ⟨s, hs⟩ : ∃ s : Nat, s = sall n := ⟨_, rfl⟩
  have hs64 : S64 s := by rw [hs]; exact S64.all n
  have hn : sall n = sall (0) := by first | rfl | (rw [all_max]; congr 1; omega)
  have hsz : ((ssize s : Nat) : Int) = (0) := by rw [hs, size_all]; omega
  have hhas : ∀ p : Nat, p < 64 → shas s p = decide ((p : Int) < (0)) := by
    intro p hp; rw [hs, has_all n p hp]; exact decide_eq_decide.2 (by omega)
  have hin : sin s (sall 1) = true := by rw [hs]; exact sin_all (by omega)
  have hbut : sbut (sall 1) s = sof [0] := by rw [hs]; exact all_but (k := 0) (by omega) (by omega) hn
  have hk64 : ((0 : Int) == 64) = false := by rw [beq_eq_false_iff_ne]; omega
  have Hhs := Lib.hid hs
  have Hhn := Lib.hid hn
  have Hhsz := Lib.hid hsz
  have Hhhas := Lib.hid hhas
  have Hhin := Lib.hid hin
  have Hhbut := Lib.hid hbut
  clear hs hn hsz hhas hin hbut
  go_enter Tryd.func6, Tryd.ntmps6
  go_wp2_with fail
  refine (awake02 _).mono ?_
  rintro e w1 ⟨rfl, hb1⟩
  have HB := Lib.hid hb1
  clear hb1
  go_wp2_with fail
  refine (all_num (n := n) (m := (s : Int)) _ (by rw [Hhs.out])).mono ?_
  rintro e w' ⟨rfl, rfl⟩
  go_wp2_with fail
  go_loop [5] (fun i => ∃ k : Nat, k ≤ 64 ∧ i = .int .i64 k) (fun i => 64 - (intOf i).toNat)
  case atStart => exact ⟨0, Nat.zero_le _, rfl⟩
  case round =>
    obtain ⟨k, hk, rfl⟩ := hrel
    by_cases hlt : k < 64
    · have hlt' : (k : Int) < 64 := by omega
      go_wp2_with fail
      refine (has_eq hs64 (Hhhas.out k hlt) _).mono ?_
      rintro e w' ⟨rfl, rfl⟩
      go_wp2_with fail
      all_goals go_round
      all_goals (first | (case rel => exact ⟨k + 1, by omega, by go_num⟩) | (case measure => simp [intOf]; omega))
    · obtain rfl : k = 64 := by omega
      clear hlt
      go_wp2_with fail
      refine (size_eq hs64 Hhsz.out _).mono ?_
      rintro e w' ⟨rfl, rfl⟩
      go_wp2_with fail
      refine (all_num (n := 0) (m := (s : Int)) _ (by rw [Hhs.out, Hhn.out])).mono ?_
      rintro e w' ⟨rfl, rfl⟩
      go_wp2_with fail
      refine (all_any 1 _).mono ?_
      rintro e w' ⟨rfl, rfl⟩
      go_wp2_with fail
      refine (in_eq hs64 (S64.all _) Hhin.out _).mono ?_
      rintro e w' ⟨rfl, rfl⟩
      go_wp2_with fail
      refine (all_any 1 _).mono ?_
      rintro e w' ⟨rfl, rfl⟩
      go_wp2_with fail
      refine (but_any (S64.all _) hs64 _).mono ?_
      rintro e w' ⟨rfl, rfl⟩
      go_wp2_with fail
      refine (of_num (l := [0]) (m := (sbut (sall 1) s : Nat)) (by exact Ints.lit _ _ _ _ _ _ (by simp) rfl rfl) (by simp) (by rw [Hhbut.out])).mono ?_
      rintro e w' ⟨rfl, rfl⟩
      go_wp2_with fail
      go_ret
      exact ⟨rfl, bal HB.out _⟩
set_option maxRecDepth 20000 in
set_option maxHeartbeats 400000 in
theorem setAll_mid (n : Int) (h : 0 < n) (h' : n < 64) (w : World) :
    Calls Tryd.prog 6 #[.int .i64 n] w fun e w' => e = .returned (.bool true) ∧ Below w.heap.size w w' := by
  obtain ⟨s, hs⟩ : ∃ s : Nat, s = sall n := ⟨_, rfl⟩
  have hs64 : S64 s := by rw [hs]; exact S64.all n
  have hn : sall n = sall (n) := by first | rfl | (rw [all_max]; congr 1; omega)
  have hsz : ((ssize s : Nat) : Int) = (n) := by rw [hs, size_all]; omega
  have hhas : ∀ p : Nat, p < 64 → shas s p = decide ((p : Int) < (n)) := by
    intro p hp; rw [hs, has_all n p hp]; exact decide_eq_decide.2 (by omega)
  have hin : sin s (sall (n + 1)) = true := by rw [hs]; exact sin_all (by omega)
  have hbut : sbut (sall (n + 1)) s = sof [n] := by rw [hs]; exact all_but (k := n) (by omega) (by omega) hn
  have hk64 : ((n : Int) == 64) = false := by rw [beq_eq_false_iff_ne]; omega
  have Hhs := Lib.hid hs
  have Hhn := Lib.hid hn
  have Hhsz := Lib.hid hsz
  have Hhhas := Lib.hid hhas
  have Hhin := Lib.hid hin
  have Hhbut := Lib.hid hbut
  clear hs hn hsz hhas hin hbut
  go_enter Tryd.func6, Tryd.ntmps6
  go_wp2_with fail
  refine (awake02 _).mono ?_
  rintro e w1 ⟨rfl, hb1⟩
  have HB := Lib.hid hb1
  clear hb1
  go_wp2_with fail
  refine (all_num (n := n) (m := (s : Int)) _ (by rw [Hhs.out])).mono ?_
  rintro e w' ⟨rfl, rfl⟩
  go_wp2_with fail
  go_loop [5] (fun i => ∃ k : Nat, k ≤ 64 ∧ i = .int .i64 k) (fun i => 64 - (intOf i).toNat)
  case atStart => exact ⟨0, Nat.zero_le _, rfl⟩
  case round =>
    obtain ⟨k, hk, rfl⟩ := hrel
    by_cases hlt : k < 64
    · have hlt' : (k : Int) < 64 := by omega
      go_wp2_with fail
      refine (has_eq hs64 (Hhhas.out k hlt) _).mono ?_
      rintro e w' ⟨rfl, rfl⟩
      go_wp2_with fail
      all_goals go_round
      all_goals (first | (case rel => exact ⟨k + 1, by omega, by go_num⟩) | (case measure => simp [intOf]; omega))
    · obtain rfl : k = 64 := by omega
      clear hlt
      go_wp2_with fail
      refine (size_eq hs64 Hhsz.out _).mono ?_
      rintro e w' ⟨rfl, rfl⟩
      go_wp2_with fail
      refine (all_num (n := n) (m := (s : Int)) _ (by rw [Hhs.out])).mono ?_
      rintro e w' ⟨rfl, rfl⟩
      go_wp2_with fail
      refine (all_any (n + 1) _).mono ?_
      rintro e w' ⟨rfl, rfl⟩
      go_wp2_with fail
      refine (in_eq hs64 (S64.all _) Hhin.out _).mono ?_
      rintro e w' ⟨rfl, rfl⟩
      go_wp2_with fail
      refine (all_any (n + 1) _).mono ?_
      rintro e w' ⟨rfl, rfl⟩
      go_wp2_with fail
      refine (but_any (S64.all _) hs64 _).mono ?_
      rintro e w' ⟨rfl, rfl⟩
      go_wp2_with fail
      refine (of_num (l := [n]) (m := (sbut (sall (n + 1)) s : Nat)) (by exact Ints.lit _ _ _ _ _ _ (by simp) rfl rfl) (by simp) (by rw [Hhbut.out])).mono ?_
      rintro e w' ⟨rfl, rfl⟩
      go_wp2_with fail
      go_ret
      exact ⟨rfl, bal HB.out _⟩
set_option maxRecDepth 20000 in
set_option maxHeartbeats 400000 in
theorem setAll_hi (n : Int) (h : 64 < n) (w : World) :
    Calls Tryd.prog 6 #[.int .i64 n] w fun e w' => e = .returned (.bool true) ∧ Below w.heap.size w w' := by
  obtain ⟨s, hs⟩ : ∃ s : Nat, s = sall n := ⟨_, rfl⟩
  have hs64 : S64 s := by rw [hs]; exact S64.all n
  have hn : sall n = sall (64) := by first | rfl | (rw [all_max]; congr 1; omega)
  have hsz : ((ssize s : Nat) : Int) = (64) := by rw [hs, size_all]; omega
  have hhas : ∀ p : Nat, p < 64 → shas s p = decide ((p : Int) < (64)) := by
    intro p hp; rw [hs, has_all n p hp]; exact decide_eq_decide.2 (by omega)
  have Hhs := Lib.hid hs
  have Hhn := Lib.hid hn
  have Hhsz := Lib.hid hsz
  have Hhhas := Lib.hid hhas
  clear hs hn hsz hhas
  go_enter Tryd.func6, Tryd.ntmps6
  go_wp2_with fail
  refine (awake02 _).mono ?_
  rintro e w1 ⟨rfl, hb1⟩
  have HB := Lib.hid hb1
  clear hb1
  go_wp2_with fail
  refine (all_num (n := n) (m := (s : Int)) _ (by rw [Hhs.out])).mono ?_
  rintro e w' ⟨rfl, rfl⟩
  go_wp2_with fail
  go_loop [5] (fun i => ∃ k : Nat, k ≤ 64 ∧ i = .int .i64 k) (fun i => 64 - (intOf i).toNat)
  case atStart => exact ⟨0, Nat.zero_le _, rfl⟩
  case round =>
    obtain ⟨k, hk, rfl⟩ := hrel
    by_cases hlt : k < 64
    · have hlt' : (k : Int) < 64 := by omega
      go_wp2_with fail
      refine (has_eq hs64 (Hhhas.out k hlt) _).mono ?_
      rintro e w' ⟨rfl, rfl⟩
      go_wp2_with fail
      all_goals go_round
      all_goals (first | (case rel => exact ⟨k + 1, by omega, by go_num⟩) | (case measure => simp [intOf]; omega))
    · obtain rfl : k = 64 := by omega
      clear hlt
      go_wp2_with fail
      refine (size_eq hs64 Hhsz.out _).mono ?_
      rintro e w' ⟨rfl, rfl⟩
      go_wp2_with fail
      refine (all_num (n := 64) (m := (s : Int)) _ (by rw [Hhs.out, Hhn.out])).mono ?_
      rintro e w' ⟨rfl, rfl⟩
      go_wp2_with fail
      go_ret
      exact ⟨rfl, HB.out⟩
set_option maxRecDepth 20000 in
set_option maxHeartbeats 400000 in
theorem setAll_eq (w : World) :
    Calls Tryd.prog 6 #[.int .i64 64] w fun e w' => e = .returned (.bool true) ∧ Below w.heap.size w w' := by
  obtain ⟨s, hs⟩ : ∃ s : Nat, s = sall 64 := ⟨_, rfl⟩
  have hs64 : S64 s := by rw [hs]; exact S64.all 64
  have hn : sall 64 = sall (64) := by first | rfl | (rfl)
  have hsz : ((ssize s : Nat) : Int) = (64) := by rw [hs, size_all]; decide
  have hhas : ∀ p : Nat, p < 64 → shas s p = decide ((p : Int) < (64)) := by
    intro p hp; rw [hs, has_all 64 p hp]; exact decide_eq_decide.2 (by omega)
  have Hhs := Lib.hid hs
  have Hhn := Lib.hid hn
  have Hhsz := Lib.hid hsz
  have Hhhas := Lib.hid hhas
  clear hs hn hsz hhas
  go_enter Tryd.func6, Tryd.ntmps6
  go_wp2_with fail
  refine (awake02 _).mono ?_
  rintro e w1 ⟨rfl, hb1⟩
  have HB := Lib.hid hb1
  clear hb1
  go_wp2_with fail
  refine (all_num (n := 64) (m := (s : Int)) _ (by rw [Hhs.out])).mono ?_
  rintro e w' ⟨rfl, rfl⟩
  go_wp2_with fail
  go_loop [5] (fun i => ∃ k : Nat, k ≤ 64 ∧ i = .int .i64 k) (fun i => 64 - (intOf i).toNat)
  case atStart => exact ⟨0, Nat.zero_le _, rfl⟩
  case round =>
    obtain ⟨k, hk, rfl⟩ := hrel
    by_cases hlt : k < 64
    · have hlt' : (k : Int) < 64 := by omega
      go_wp2_with fail
      refine (has_eq hs64 (Hhhas.out k hlt) _).mono ?_
      rintro e w' ⟨rfl, rfl⟩
      go_wp2_with fail
      all_goals go_round
      all_goals (first | (case rel => exact ⟨k + 1, by omega, by go_num⟩) | (case measure => simp [intOf]; omega))
    · obtain rfl : k = 64 := by omega
      clear hlt
      go_wp2_with fail
      refine (size_eq hs64 Hhsz.out _).mono ?_
      rintro e w' ⟨rfl, rfl⟩
      go_wp2_with fail
      refine (all_num (n := 64) (m := (s : Int)) _ (by rw [Hhs.out])).mono ?_
      rintro e w' ⟨rfl, rfl⟩
      go_wp2_with fail
      go_ret
      exact ⟨rfl, HB.out⟩
theorem setAll_law (n : Int) (w : World) :
    Calls Tryd.prog 6 #[.int .i64 n] w fun e w' => e = .returned (.bool true) ∧ Below w.heap.size w w' := by
  by_cases h : n ≤ 0
  · exact setAll_lo n h w
  · by_cases h1 : n < 64
    · exact setAll_mid n (by omega) h1 w
    · by_cases h2 : n = 64
      · subst h2; exact setAll_eq w
      · exact setAll_hi n (by omega) w
end Go.Proofs.YtheeclmpkddgjaaDoor
