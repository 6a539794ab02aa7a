import Derived.Test.YtheeclmpkddgjaaDoorRead
import Derived.Test.YtheeclmpkddgjaaDoorHzS
namespace Go.Proofs.YtheeclmpkddgjaaDoor
set_option linter.unusedVariables false
set_option linter.unusedSimpArgs false
open Go.ChangeShapes Go.WideShapes Go.ChangeAt Go.RowKit
section
variable {H : Type} {enc : TypeId × Value → H} {w : World} {base : Nat} {spare : Nat → Bool} {held : Bool}
theorem u32s_of_trod {v : Value} {d : DataW H} {ps : List MemPlace} (h : DataW.Trod enc Tryd.prog w base spare held 79 v d ps) (hc : ∃ A len cap, v = .slice A len cap) : ∃ xs, U32s w v xs :=
  sl_of_trod Tryd.underlying79 cU32 (by decide) (fun _ cs _ hl h => by
    obtain ⟨k, e, _⟩ := u32_of_trod Tryd.underlying49 h
    exact ⟨k, e⟩) hc h
theorem u32_nat {x : Int} (h : (Lit.int .u32 x).wf = true) : ∃ n : Nat, x = (n : Int) := by
  have := bounds_u32 h
  exact ⟨x.toNat, by omega⟩
end
end Go.Proofs.YtheeclmpkddgjaaDoor
