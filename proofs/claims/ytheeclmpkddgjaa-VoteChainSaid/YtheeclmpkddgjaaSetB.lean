import Derived.Test.YtheeclmpkddgjaaSet
import Derived.Test.YtheeclmpkddgjaaMem
namespace Go.Proofs.Ytheeclmpkddgjaa
set_option linter.unusedVariables false
set_option linter.unusedSimpArgs false
open Go.RowKit
theorem ret_int {k : IntKind} {a b : Int} (h : a = b) : Ending.returned (.int k a) = .returned (.int k b) := by rw [h]
theorem swith_take (s : Nat) (l : List Int) (k : Nat) (hk : k < l.length) : swith s (l.take (k + 1)) = sany (swith s (l.take k)) (sbit l[k]) := by
  unfold swith
  rw [List.take_succ_eq_append_getElem hk, List.foldl_append]
  rfl
end Go.Proofs.Ytheeclmpkddgjaa
