import Derived.Test.YtalcoodidcehnaaDoorSetD
import Derived.Test.YtalcoodidcehnaaDoorPureC
namespace Go.Proofs.YtalcoodidcehnaaDoor
set_option linter.unusedVariables false
set_option linter.unusedSimpArgs false
open Go.RowKit
/-- a slice that is laid as a literal -/
theorem Ints.lit (w : World) (T : TypeId) (fz : Nat × Nat) (cs : Array Value) (xs : List Int) (n : Nat) {g : Nat} (hg : g = w.heap.size) (h : cs.toList = xs.map encI) (hn : n = xs.length) : Ints (w.alloc (.cells cs T fz)) (.slice (some ⟨g, 0, none⟩) n n) xs := by
  subst hn; subst hg
  refine ⟨_, _, rfl, Nat.le_refl _, fun i x hx => ⟨_, _, [encI x], rfl, rfl, rfl, fun j u hu => ?_⟩⟩
  cases j with
  | zero =>
    have hu : u = encI x := by simpa using hu.symm
    subst hu
    have : cs[i]? = some (encI x) := by rw [← Array.getElem?_toList, h, List.getElem?_map, hx]; rfl
    show (match (w.heap.push (.cells cs T fz))[w.heap.size]? with | some (.cells c _ _) => if (none : Option Nat).isSome then none else c[0 + (i * 1 + 0)]? | _ => none) = _
    rw [Array.getElem?_push_size]
    simpa using this
  | succ j => simp at hu
theorem most_num {a b : Int} {s t : Nat} (ha : a = (s : Int)) (hb : b = (t : Int)) (hs : S64 s) (ht : S64 t) (w : World) {r : Bool} (hr : smost s t = r) :
    Calls Tryd.prog 32 #[.int .u64 a, .int .u64 b] w fun e w' => e = .returned (.bool r) ∧ w = w' := by
  subst ha; subst hb; subst hr; exact most_any hs ht w
theorem all_num {n : Int} (w : World) {m : Int} (he : ((sall n : Nat) : Int) = m) :
    Calls Tryd.prog 8 #[.int .i64 n] w fun e w' => e = .returned (.int .u64 m) ∧ w = w' := by
  subst he; exact all_any n w
theorem e_1 : ((sof [0, 2, 99] : Nat) : Int) = 5 := by decide
theorem e_2 : ((sof [1, 2] : Nat) : Int) = 6 := by decide
theorem e_3 : ((sof [1, 2, 3] : Nat) : Int) = 14 := by decide
theorem e_4 : ((sof [1] : Nat) : Int) = 2 := by decide
theorem e_5 : ((sall 3 : Nat) : Int) = 7 := by decide
theorem e_6 : smost 6 14 = true := by decide
theorem e_7 : smost 2 6 = false := by decide
end Go.Proofs.YtalcoodidcehnaaDoor
namespace Go.Proofs.YtalcoodidcehnaaDoor
set_option linter.unusedVariables false
set_option linter.unusedSimpArgs false
open Go.RowKit
theorem both_eq {s t r : Nat} (hs : S64 s) (ht : S64 t) (he : sboth s t = r) (w : World) :
    Calls Tryd.prog 47 #[.int .u64 (s : Int), .int .u64 (t : Int)] w fun e w' => e = .returned (.int .u64 (r : Int)) ∧ w = w' := by
  subst he; exact both_any hs ht w
theorem most_eq {s t : Nat} {r : Bool} (hs : S64 s) (ht : S64 t) (he : smost s t = r) (w : World) :
    Calls Tryd.prog 32 #[.int .u64 (s : Int), .int .u64 (t : Int)] w fun e w' => e = .returned (.bool r) ∧ w = w' := by
  subst he; exact most_any hs ht w
theorem size_eq {s : Nat} {n : Int} (hs : S64 s) (he : ((ssize s : Nat) : Int) = n) (w : World) :
    Calls Tryd.prog 27 #[.int .u64 (s : Int)] w fun e w' => e = .returned (.int .i64 n) ∧ w = w' := by
  subst he; exact size_any hs w
theorem has_eq {s : Nat} {p : Int} {r : Bool} (hs : S64 s) (he : shas s p = r) (w : World) :
    Calls Tryd.prog 26 #[.int .u64 (s : Int), .int .i64 p] w fun e w' => e = .returned (.bool r) ∧ w = w' := by
  subst he; exact has_any hs p w
theorem neq_false (b : Bool) : (b == b) = true := by cases b <;> rfl
theorem cast_pos (n : Nat) : decide ((0 : Int) < (n : Int)) = decide (0 < n) := decide_eq_decide.2 (by omega)
end Go.Proofs.YtalcoodidcehnaaDoor
