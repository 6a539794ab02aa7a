import Derived.Test.YtheeclmpkddgjaaSetE
import Derived.Test.YtheeclmpkddgjaaPureC
namespace Go.Proofs.Ytheeclmpkddgjaa
set_option linter.unusedVariables false
set_option linter.unusedSimpArgs false
open Go.RowKit
theorem any_eq {s t r : Nat} (hs : S64 s) (ht : S64 t) (he : sany s t = r) (w : World) :
    Calls Try.prog 24 #[.int .u64 (s : Int), .int .u64 (t : Int)] w fun e w' => e = .returned (.int .u64 (r : Int)) ∧ w = w' := by
  subst he; exact any_any hs ht w
theorem both_eq {s t r : Nat} (hs : S64 s) (ht : S64 t) (he : sboth s t = r) (w : World) :
    Calls Try.prog 25 #[.int .u64 (s : Int), .int .u64 (t : Int)] w fun e w' => e = .returned (.int .u64 (r : Int)) ∧ w = w' := by
  subst he; exact both_any hs ht w
theorem most_eq {s t : Nat} {r : Bool} (hs : S64 s) (ht : S64 t) (he : smost s t = r) (w : World) :
    Calls Try.prog 23 #[.int .u64 (s : Int), .int .u64 (t : Int)] w fun e w' => e = .returned (.bool r) ∧ w = w' := by
  subst he; exact most_any hs ht w
theorem size_eq {s : Nat} {n : Int} (hs : S64 s) (he : ((ssize s : Nat) : Int) = n) (w : World) :
    Calls Try.prog 36 #[.int .u64 (s : Int)] w fun e w' => e = .returned (.int .i64 n) ∧ w = w' := by
  subst he; exact size_any hs w
theorem has_eq {s : Nat} {p : Int} {r : Bool} (hs : S64 s) (he : shas s p = r) (w : World) :
    Calls Try.prog 26 #[.int .u64 (s : Int), .int .i64 p] w fun e w' => e = .returned (.bool r) ∧ w = w' := by
  subst he; exact has_any hs p w
theorem neq_false (b : Bool) : (b == b) = true := by cases b <;> rfl
theorem cast_pos (n : Nat) : decide ((0 : Int) < (n : Int)) = decide (0 < n) := decide_eq_decide.2 (by omega)
end Go.Proofs.Ytheeclmpkddgjaa
