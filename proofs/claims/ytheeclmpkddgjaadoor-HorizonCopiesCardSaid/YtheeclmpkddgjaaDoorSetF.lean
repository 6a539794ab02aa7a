import Derived.Test.YtheeclmpkddgjaaDoorSetE
import Derived.Test.YtheeclmpkddgjaaDoorPureC
namespace Go.Proofs.YtheeclmpkddgjaaDoor
set_option linter.unusedVariables false
set_option linter.unusedSimpArgs false
open Go.RowKit
theorem any_eq {s t r : Nat} (hs : S64 s) (ht : S64 t) (he : sany s t = r) (w : World) :
    Calls Tryd.prog 29 #[.int .u64 (s : Int), .int .u64 (t : Int)] w fun e w' => e = .returned (.int .u64 (r : Int)) ∧ w = w' := by
  subst he; exact any_any hs ht w
theorem both_eq {s t r : Nat} (hs : S64 s) (ht : S64 t) (he : sboth s t = r) (w : World) :
    Calls Tryd.prog 27 #[.int .u64 (s : Int), .int .u64 (t : Int)] w fun e w' => e = .returned (.int .u64 (r : Int)) ∧ w = w' := by
  subst he; exact both_any hs ht w
theorem but_eq {s t r : Nat} (hs : S64 s) (ht : S64 t) (he : sbut s t = r) (w : World) :
    Calls Tryd.prog 30 #[.int .u64 (s : Int), .int .u64 (t : Int)] w fun e w' => e = .returned (.int .u64 (r : Int)) ∧ w = w' := by
  subst he; exact but_any hs ht w
theorem in_eq {s t : Nat} {r : Bool} (hs : S64 s) (ht : S64 t) (he : sin s t = r) (w : World) :
    Calls Tryd.prog 31 #[.int .u64 (s : Int), .int .u64 (t : Int)] w fun e w' => e = .returned (.bool r) ∧ w = w' := by
  subst he; exact in_any hs ht w
theorem most_eq {s t : Nat} {r : Bool} (hs : S64 s) (ht : S64 t) (he : smost s t = r) (w : World) :
    Calls Tryd.prog 26 #[.int .u64 (s : Int), .int .u64 (t : Int)] w fun e w' => e = .returned (.bool r) ∧ w = w' := by
  subst he; exact most_any hs ht w
theorem size_eq {s : Nat} {n : Int} (hs : S64 s) (he : ((ssize s : Nat) : Int) = n) (w : World) :
    Calls Tryd.prog 28 #[.int .u64 (s : Int)] w fun e w' => e = .returned (.int .i64 n) ∧ w = w' := by
  subst he; exact size_any hs w
theorem has_eq {s : Nat} {p : Int} {r : Bool} (hs : S64 s) (he : shas s p = r) (w : World) :
    Calls Tryd.prog 33 #[.int .u64 (s : Int), .int .i64 p] w fun e w' => e = .returned (.bool r) ∧ w = w' := by
  subst he; exact has_any hs p w
theorem neq_false (b : Bool) : (b == b) = true := by cases b <;> rfl
theorem cast_pos (n : Nat) : decide ((0 : Int) < (n : Int)) = decide (0 < n) := decide_eq_decide.2 (by omega)
set_option maxRecDepth 20000 in
set_option maxHeartbeats 400000 in
theorem setMost_tt {s t u : Nat} (hs : S64 s) (ht : S64 t) (hu : S64 u) (ha : smost s u = true) (hb : smost t u = true) (w : World) :
    Calls Tryd.prog 4 #[.int .u64 (s : Int), .int .u64 (t : Int), .int .u64 (u : Int)] w fun e w' => e = .returned (.bool true) ∧ Below w.heap.size w w' := by
  obtain ⟨n, hn⟩ : ∃ n : Nat, n = ssize (sboth (sboth s t) u) := ⟨_, rfl⟩
  obtain ⟨k, hk⟩ : ∃ k : Nat, k = ssize u := ⟨_, rfl⟩
  have hn1 : ¬ (n : Int) < 1 := by
    have := most_meet ha hb
    omega
  have hx := Lib.hid (most_more (t := t) ha)
  have hp := Lib.hid (most_part hs ha)
  have hself := Lib.hid (most_self u)
  have hbo := Lib.hid ((most_both s u).trans ha)
  have Hn := Lib.hid (hn)
  have Hk := Lib.hid (hk)
  have Ha := Lib.hid (ha)
  have Hb := Lib.hid (hb)
  clear ha hb hn hk
  go_enter Tryd.func4, Tryd.ntmps4
  go_wp2_with fail
  refine (awake02 _).mono ?_
  rintro e w1 ⟨rfl, hb1⟩
  have HB := Lib.hid hb1
  clear hb1
  go_wp2_with fail
  refine (most_eq hs hu Ha.out _).mono ?_
  rintro e w' ⟨rfl, rfl⟩
  go_wp2_with fail
  refine (most_eq ht hu Hb.out _).mono ?_
  rintro e w' ⟨rfl, rfl⟩
  go_wp2_with fail
  refine (both_any hs ht _).mono ?_
  rintro e w' ⟨rfl, rfl⟩
  go_wp2_with fail
  refine (both_any hs.both hu _).mono ?_
  rintro e w' ⟨rfl, rfl⟩
  go_wp2_with fail
  refine (size_eq (hs.both.both) (n := n) (by rw [Hn.out]) _).mono ?_
  rintro e w' ⟨rfl, rfl⟩
  go_wp2_with fail
  refine (most_eq hs hu Ha.out _).mono ?_
  rintro e w' ⟨rfl, rfl⟩
  go_wp2_with fail
  refine (any_any hs ht _).mono ?_
  rintro e w' ⟨rfl, rfl⟩
  go_wp2_with fail
  refine (most_eq (hs.any ht) hu hx.out _).mono ?_
  rintro e w' ⟨rfl, rfl⟩
  go_wp2_with fail
  refine (but_any hu hs _).mono ?_
  rintro e w' ⟨rfl, rfl⟩
  go_wp2_with fail
  refine (most_eq hu.but hu hp.out _).mono ?_
  rintro e w' ⟨rfl, rfl⟩
  go_wp2_with fail
  refine (most_eq (r := decide ((0 : Int) < (k : Int))) hu hu (by rw [hself.out, cast_pos, Hk.out]) _).mono ?_
  rintro e w' ⟨rfl, rfl⟩
  go_wp2_with fail
  refine (size_eq hu (n := k) (by rw [Hk.out]) _).mono ?_
  rintro e w' ⟨rfl, rfl⟩
  go_wp2_with fail
  refine (both_any hs hu _).mono ?_
  rintro e w' ⟨rfl, rfl⟩
  go_wp2_with fail
  refine (most_eq hs.both hu hbo.out _).mono ?_
  rintro e w' ⟨rfl, rfl⟩
  go_wp2_with fail
  refine (most_eq hs hu Ha.out _).mono ?_
  rintro e w' ⟨rfl, rfl⟩
  go_wp2_with fail
  go_ret
  exact ⟨rfl, HB.out⟩
set_option maxRecDepth 20000 in
set_option maxHeartbeats 400000 in
theorem setMost_tf {s t u : Nat} (hs : S64 s) (ht : S64 t) (hu : S64 u) (ha : smost s u = true) (hb : smost t u = false) (w : World) :
    Calls Tryd.prog 4 #[.int .u64 (s : Int), .int .u64 (t : Int), .int .u64 (u : Int)] w fun e w' => e = .returned (.bool true) ∧ Below w.heap.size w w' := by
  obtain ⟨k, hk⟩ : ∃ k : Nat, k = ssize u := ⟨_, rfl⟩
  have hx := Lib.hid (most_more (t := t) ha)
  have hp := Lib.hid (most_part hs ha)
  have hself := Lib.hid (most_self u)
  have hbo := Lib.hid ((most_both s u).trans ha)
  have Hk := Lib.hid (hk)
  have Ha := Lib.hid (ha)
  have Hb := Lib.hid (hb)
  clear ha hb hk
  go_enter Tryd.func4, Tryd.ntmps4
  go_wp2_with fail
  refine (awake02 _).mono ?_
  rintro e w1 ⟨rfl, hb1⟩
  have HB := Lib.hid hb1
  clear hb1
  go_wp2_with fail
  refine (most_eq hs hu Ha.out _).mono ?_
  rintro e w' ⟨rfl, rfl⟩
  go_wp2_with fail
  refine (most_eq ht hu Hb.out _).mono ?_
  rintro e w' ⟨rfl, rfl⟩
  go_wp2_with fail
  refine (most_eq hs hu Ha.out _).mono ?_
  rintro e w' ⟨rfl, rfl⟩
  go_wp2_with fail
  refine (any_any hs ht _).mono ?_
  rintro e w' ⟨rfl, rfl⟩
  go_wp2_with fail
  refine (most_eq (hs.any ht) hu hx.out _).mono ?_
  rintro e w' ⟨rfl, rfl⟩
  go_wp2_with fail
  refine (but_any hu hs _).mono ?_
  rintro e w' ⟨rfl, rfl⟩
  go_wp2_with fail
  refine (most_eq hu.but hu hp.out _).mono ?_
  rintro e w' ⟨rfl, rfl⟩
  go_wp2_with fail
  refine (most_eq (r := decide ((0 : Int) < (k : Int))) hu hu (by rw [hself.out, cast_pos, Hk.out]) _).mono ?_
  rintro e w' ⟨rfl, rfl⟩
  go_wp2_with fail
  refine (size_eq hu (n := k) (by rw [Hk.out]) _).mono ?_
  rintro e w' ⟨rfl, rfl⟩
  go_wp2_with fail
  refine (both_any hs hu _).mono ?_
  rintro e w' ⟨rfl, rfl⟩
  go_wp2_with fail
  refine (most_eq hs.both hu hbo.out _).mono ?_
  rintro e w' ⟨rfl, rfl⟩
  go_wp2_with fail
  refine (most_eq hs hu Ha.out _).mono ?_
  rintro e w' ⟨rfl, rfl⟩
  go_wp2_with fail
  go_ret
  exact ⟨rfl, HB.out⟩
set_option maxRecDepth 20000 in
set_option maxHeartbeats 400000 in
theorem setMost_f {s t u : Nat} (hs : S64 s) (ht : S64 t) (hu : S64 u) (ha : smost s u = false) (w : World) :
    Calls Tryd.prog 4 #[.int .u64 (s : Int), .int .u64 (t : Int), .int .u64 (u : Int)] w fun e w' => e = .returned (.bool true) ∧ Below w.heap.size w w' := by
  obtain ⟨k, hk⟩ : ∃ k : Nat, k = ssize u := ⟨_, rfl⟩
  have hself := Lib.hid (most_self u)
  have hbo := Lib.hid ((most_both s u).trans ha)
  have Hk := Lib.hid (hk)
  have Ha := Lib.hid (ha)
  clear ha hk
  go_enter Tryd.func4, Tryd.ntmps4
  go_wp2_with fail
  refine (awake02 _).mono ?_
  rintro e w1 ⟨rfl, hb1⟩
  have HB := Lib.hid hb1
  clear hb1
  go_wp2_with fail
  refine (most_eq hs hu Ha.out _).mono ?_
  rintro e w' ⟨rfl, rfl⟩
  go_wp2_with fail
  refine (most_eq hs hu Ha.out _).mono ?_
  rintro e w' ⟨rfl, rfl⟩
  go_wp2_with fail
  refine (most_eq (r := decide ((0 : Int) < (k : Int))) hu hu (by rw [hself.out, cast_pos, Hk.out]) _).mono ?_
  rintro e w' ⟨rfl, rfl⟩
  go_wp2_with fail
  refine (size_eq hu (n := k) (by rw [Hk.out]) _).mono ?_
  rintro e w' ⟨rfl, rfl⟩
  go_wp2_with fail
  refine (both_any hs hu _).mono ?_
  rintro e w' ⟨rfl, rfl⟩
  go_wp2_with fail
  refine (most_eq hs.both hu hbo.out _).mono ?_
  rintro e w' ⟨rfl, rfl⟩
  go_wp2_with fail
  refine (most_eq hs hu Ha.out _).mono ?_
  rintro e w' ⟨rfl, rfl⟩
  go_wp2_with fail
  go_ret
  exact ⟨rfl, HB.out⟩
theorem setMost_law {s t u : Nat} (hs : S64 s) (ht : S64 t) (hu : S64 u) (w : World) :
    Calls Tryd.prog 4 #[.int .u64 (s : Int), .int .u64 (t : Int), .int .u64 (u : Int)] w fun e w' => e = .returned (.bool true) ∧ Below w.heap.size w w' := by
  cases ha : smost s u
  · exact setMost_f hs ht hu ha w
  · cases hb : smost t u
    · exact setMost_tf hs ht hu ha hb w
    · exact setMost_tt hs ht hu ha hb w
set_option maxRecDepth 20000 in
set_option maxHeartbeats 400000 in
theorem setParts_law {s t : Nat} (hs : S64 s) (ht : S64 t) (w : World) :
    Calls Tryd.prog 5 #[.int .u64 (s : Int), .int .u64 (t : Int)] w fun e w' => e = .returned (.bool true) ∧ Below w.heap.size w w' := by
  obtain ⟨a, ha⟩ : ∃ n : Nat, n = ssize s := ⟨_, rfl⟩
  obtain ⟨b, hb⟩ : ∃ n : Nat, n = ssize t := ⟨_, rfl⟩
  obtain ⟨c, hc⟩ : ∃ n : Nat, n = ssize (sboth s t) := ⟨_, rfl⟩
  have la := ssize_le s
  have lb := ssize_le t
  have h1 := size_any_both s t
  have h2 := size_but (s := s) ht
  obtain ⟨x, hx⟩ : ∃ x : Nat, x = sboth s t := ⟨_, rfl⟩
  obtain ⟨y, hy⟩ : ∃ x : Nat, x = sbut s t := ⟨_, rfl⟩
  have hx64 : S64 x := by rw [hx]; exact hs.both
  have hy64 : S64 y := by rw [hy]; exact hs.but
  have sx : ((ssize x : Nat) : Int) = (c : Int) := by rw [hc, hx]
  have sy : ((ssize y : Nat) : Int) = (a : Int) - c := by rw [hy]; omega
  have sany' : ((ssize (sany s t) : Nat) : Int) = (a : Int) + b - c := by omega
  have ssa : ((ssize s : Nat) : Int) = (a : Int) := by omega
  have ssb : ((ssize t : Nat) : Int) = (b : Int) := by omega
  have p1 : sany x y = s := by rw [hx, hy]; exact parts_any hs ht
  have p2 : sboth x y = 0 := by rw [hx, hy]; exact parts_both hs ht
  have p3 : sin x s = true := by rw [hx]; exact sin_of_both hs
  have p4 : sin x t = true := by rw [hx]; exact sin_of_both' hs ht
  have p5 := sin_of_any hs ht
  have p6 : sin s t = ((x : Int) == (s : Int)) := by rw [hx, cast_beq]; exact sin_both_eq hs ht
  have lc : (c : Int) ≤ a := by omega
  have la' : (a : Int) ≤ 64 := by omega
  have lb' : (b : Int) ≤ 64 := by omega
  have e1 : ((c : Int) + (a - c) == a) = true := by rw [beq_iff_eq]; omega
  have e2 : (a : Int) + b - c + c = a + b := by omega
  have ex := hx.symm
  have ey := hy.symm
  have He2 := Lib.hid e2
  have Hsx := Lib.hid sx
  have Hsy := Lib.hid sy
  have Hsany := Lib.hid sany'
  have Hssa := Lib.hid ssa
  have Hssb := Lib.hid ssb
  have Hp1 := Lib.hid p1
  have Hp2 := Lib.hid p2
  have Hp3 := Lib.hid p3
  have Hp4 := Lib.hid p4
  have Hp5 := Lib.hid p5
  have Hp6 := Lib.hid p6
  have Hex := Lib.hid ex
  have Hey := Lib.hid ey
  clear la lb h1 h2 hx hy sx sy sany' ssa ssb p1 p2 p3 p4 p5 p6 ha hb hc e2 ex ey
  go_enter Tryd.func5, Tryd.ntmps5
  go_wp2_with fail
  refine (awake02 _).mono ?_
  rintro e w1 ⟨rfl, hb1⟩
  have HB := Lib.hid hb1
  clear hb1
  go_wp2_with fail
  refine (both_eq hs ht Hex.out _).mono ?_
  rintro e w' ⟨rfl, rfl⟩
  go_wp2_with fail
  refine (but_eq hs ht Hey.out _).mono ?_
  rintro e w' ⟨rfl, rfl⟩
  go_wp2_with fail
  refine (any_eq hx64 hy64 Hp1.out _).mono ?_
  rintro e w' ⟨rfl, rfl⟩
  go_wp2_with fail
  refine (both_eq hx64 hy64 Hp2.out _).mono ?_
  rintro e w' ⟨rfl, rfl⟩
  go_wp2_with fail
  refine (size_eq hx64 Hsx.out _).mono ?_
  rintro e w' ⟨rfl, rfl⟩
  go_wp2_with fail
  refine (size_eq hy64 Hsy.out _).mono ?_
  rintro e w' ⟨rfl, rfl⟩
  go_wp2_with fail
  refine (size_eq hs Hssa.out _).mono ?_
  rintro e w' ⟨rfl, rfl⟩
  go_wp2_with fail
  refine (any_any hs ht _).mono ?_
  rintro e w' ⟨rfl, rfl⟩
  go_wp2_with fail
  refine (size_eq (hs.any ht) Hsany.out _).mono ?_
  rintro e w' ⟨rfl, rfl⟩
  go_wp2_with fail
  refine (size_eq hx64 Hsx.out _).mono ?_
  rintro e w' ⟨rfl, rfl⟩
  go_wp2_with fail
  refine (size_eq hs Hssa.out _).mono ?_
  rintro e w' ⟨rfl, rfl⟩
  go_wp2_with fail
  refine (size_eq ht Hssb.out _).mono ?_
  rintro e w' ⟨rfl, rfl⟩
  go_wp2_with fail
  refine (in_eq hx64 hs Hp3.out _).mono ?_
  rintro e w' ⟨rfl, rfl⟩
  go_wp2_with fail
  refine (in_eq hx64 ht Hp4.out _).mono ?_
  rintro e w' ⟨rfl, rfl⟩
  go_wp2_with fail
  refine (any_any hs ht _).mono ?_
  rintro e w' ⟨rfl, rfl⟩
  go_wp2_with fail
  refine (in_eq hs (hs.any ht) Hp5.out _).mono ?_
  rintro e w' ⟨rfl, rfl⟩
  go_wp2_with fail
  refine (in_eq hs ht Hp6.out _).mono ?_
  rintro e w' ⟨rfl, rfl⟩
  go_wp2_with fail
  go_ret
  exact ⟨rfl, HB.out⟩
end Go.Proofs.YtheeclmpkddgjaaDoor
