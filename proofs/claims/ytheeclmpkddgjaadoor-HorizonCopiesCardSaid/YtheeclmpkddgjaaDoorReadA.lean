import Derived.Test.YtheeclmpkddgjaaDoorRead
import Derived.Test.YtheeclmpkddgjaaDoorHzK
namespace Go.Proofs.YtheeclmpkddgjaaDoor
set_option linter.unusedVariables false
set_option linter.unusedSimpArgs false
open Go.ChangeShapes Go.WideShapes Go.ChangeAt Go.RowKit
section
variable {H : Type} {enc : TypeId × Value → H} {w : World} {base : Nat} {spare : Nat → Bool} {held : Bool}
theorem cAct : Tryd.prog.cellsOf 77 = 4 := by kernel_rfl
set_option maxRecDepth 20000 in
theorem act_of_trod {fuel : Nat} {cs : List Value} {x : DataW H × List MemPlace} (h : DataW.trod enc Tryd.prog w base spare held fuel 77 cs = some x) : ∃ a, KAc w a cs := by
  obtain ⟨hl, n, hf⟩ := trod_fields Tryd.underlying77 h
  rw [cAct] at hl
  match cs, hl with
  | [c0, c1, c2, c3], _ =>
    obtain ⟨_, h0⟩ := hf 0 _ rfl
    obtain ⟨_, h1⟩ := hf 1 _ rfl
    obtain ⟨_, h2⟩ := hf 2 _ rfl
    obtain ⟨_, h3⟩ := hf 3 _ rfl
    simp [cU64, cU32, cI64] at h0 h1 h2 h3
    obtain ⟨k, e0⟩ := i64_of_trod Tryd.underlying3 h0
    obtain ⟨p, e1⟩ := i64_of_trod Tryd.underlying3 h1
    obtain ⟨sq, e2, k2⟩ := u32_of_trod Tryd.underlying49 h2
    obtain ⟨st, e3, k3⟩ := u64_of_trod Tryd.underlying22 h3
    simp at e0 e1 e2 e3
    subst e0 e1 e2 e3
    exact ⟨⟨k, p, sq, st⟩, rfl, k2, k3⟩
theorem acs_of_trod {v : Value} {d : DataW H} {ps : List MemPlace} (h : DataW.Trod enc Tryd.prog w base spare held 71 v d ps) (hc : ∃ A len cap, v = .slice A len cap) : ∃ xs, Acs w v xs :=
  sl_of_trod Tryd.underlying71 cAct (by decide) (fun _ _ _ _ h => act_of_trod h) hc h
end
end Go.Proofs.YtheeclmpkddgjaaDoor
