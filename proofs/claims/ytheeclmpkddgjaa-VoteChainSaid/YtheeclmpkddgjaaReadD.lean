import Derived.Test.YtheeclmpkddgjaaRead
import Derived.Test.YtheeclmpkddgjaaVtX
namespace Go.Proofs.Ytheeclmpkddgjaa
set_option linter.unusedVariables false
set_option linter.unusedSimpArgs false
open Go.ChangeShapes Go.WideShapes Go.ChangeAt Go.RowKit
section
variable {H : Type} {enc : TypeId × Value → H} {w : World} {base : Nat} {spare : Nat → Bool} {held : Bool}
theorem cRound : Try.prog.cellsOf 58 = 3 := by kernel_rfl
set_option maxRecDepth 20000 in
theorem round_of_trod {fuel : Nat} {cs : List Value} {x : DataW H × List MemPlace} (h : DataW.trod enc Try.prog w base spare held fuel 58 cs = some x) : ∃ a, KRnd w a cs := by
  obtain ⟨hl, n, hf⟩ := trod_fields Try.underlying58 h
  rw [cRound] at hl
  match cs, hl with
  | [c0, c1, c2], _ =>
    obtain ⟨_, h0⟩ := hf 0 _ rfl
    obtain ⟨_, h1⟩ := hf 1 _ rfl
    obtain ⟨_, h2⟩ := hf 2 _ rfl
    simp [cU64] at h0 h1 h2
    obtain ⟨m, e0, k0⟩ := u64_of_trod Try.underlying23 h0
    obtain ⟨wr, e1, k1⟩ := u64_of_trod Try.underlying23 h1
    obtain ⟨fo, e2, k2⟩ := u64_of_trod Try.underlying23 h2
    simp at e0 e1 e2
    subst e0 e1 e2
    exact ⟨⟨m, wr, fo⟩, rfl, ⟨k0, k1, k2⟩⟩
theorem rounds_of_trod {v : Value} {d : DataW H} {ps : List MemPlace} (h : DataW.Trod enc Try.prog w base spare held 55 v d ps) (hc : ∃ A len cap, v = .slice A len cap) : ∃ xs, Rnds w v xs :=
  sl_of_trod Try.underlying55 cRound (by decide) (fun _ _ _ _ h => round_of_trod h) hc h
end
end Go.Proofs.Ytheeclmpkddgjaa
