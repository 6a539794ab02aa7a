import Derived.Test.YtheeclmpkddgjaaSetC
namespace Go.Proofs.Ytheeclmpkddgjaa
set_option linter.unusedVariables false
set_option linter.unusedSimpArgs false
open Go.RowKit
theorem info_int : (Try.prog.info? 3).map (fun i => (i.zero, i.size, i.bytes)) = some (some (.int .i64 0), 1, 8) := by kernel_rfl
theorem step_and {t : Nat} (ht : S64 t) (h0 : t ≠ 0) : Go.bits .and .u64 (t : Int) (IntKind.u64.wrap ((t : Int) - 1)) = ((t &&& (t - 1) : Nat) : Int) ∧ S64 (t &&& (t - 1)) := by
  have h1 := ht.lt
  have e : IntKind.u64.wrap ((t : Int) - 1) = ((t - 1 : Nat) : Int) := by rw [IntKind.wrap_u64]; omega
  rw [e]
  exact ⟨u64_and_nat _ _ h1 (by omega), ⟨Nat.lt_of_le_of_lt Nat.and_le_left h1⟩⟩
def encN (p : Nat) : Value := .int .i64 (p : Int)
theorem slist_le (t : Nat) : (slist t).length ≤ 64 := ssize_le t
/-- a list of processes: its numbers as Nat -/
abbrev Nats (w : World) (v : Value) (xs : List Nat) : Prop := Sl (one encN) 1 w v xs
end Go.Proofs.Ytheeclmpkddgjaa
