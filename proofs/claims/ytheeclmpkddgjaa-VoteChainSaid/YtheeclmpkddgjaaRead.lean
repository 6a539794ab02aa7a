import Derived.Test.YtheeclmpkddgjaaProg
import Derived.Test.YtheeclmpkddgjaaItem
import Derived.Test.YtheeclmpkddgjaaLaw
namespace Go.Proofs.Ytheeclmpkddgjaa
set_option linter.unusedVariables false
set_option linter.unusedSimpArgs false
open Go.ChangeShapes Go.WideShapes Go.ChangeAt Go.RowKit
/-! what is read as data, read as views, records, items, names -/
section
variable {H : Type} {enc : TypeId × Value → H} {w : World} {base : Nat} {spare : Nat → Bool} {held : Bool}
theorem trod_fields {P : Program} {t : TypeId} {fs : Array Field} {fuel : Nat} {cs : List Value} {x : DataW H × List MemPlace} (ht : P.underlying t = some (.struct fs)) (h : DataW.trod enc P w base spare held fuel t cs = some x) :
    cs.length = P.cellsOf t ∧ ∃ n, ∀ (i : Nat) (f : Field), fs[i]? = some f → ∃ y, DataW.trod enc P w base spare held n f.type ((cs.drop f.offset).take (P.cellsOf f.type)) = some y := by
  obtain ⟨xs, n, _, _, hl, hlen, hf⟩ := DataW.trod_struct ht h
  refine ⟨hl, n, fun i f hi => ?_⟩
  have hi' : i < xs.length := by rw [hlen]; exact (Array.getElem?_eq_some_iff.1 hi).1
  exact ⟨xs[i], by rw [hf i f hi]; simp [hi']⟩
theorem u64_of_trod {P : Program} {t : TypeId} {fuel : Nat} {cs : List Value} {x : DataW H × List MemPlace} (ht : P.underlying t = some (.int .u64)) (h : DataW.trod enc P w base spare held fuel t cs = some x) : ∃ k : Nat, cs = [.int .u64 (k : Int)] ∧ S64 k := by
  obtain ⟨n, rfl, _, hw⟩ := DataW.trod_int ht h
  obtain ⟨k, rfl, hk⟩ := u64_nat hw
  exact ⟨k, rfl, hk⟩
theorem u32_of_trod {P : Program} {t : TypeId} {fuel : Nat} {cs : List Value} {x : DataW H × List MemPlace} (ht : P.underlying t = some (.int .u32)) (h : DataW.trod enc P w base spare held fuel t cs = some x) : ∃ k : Nat, cs = [.int .u32 (k : Int)] ∧ k < 4294967296 := by
  obtain ⟨n, rfl, _, hw⟩ := DataW.trod_int ht h
  have := bounds_u32 hw
  exact ⟨n.toNat, by rw [show ((n.toNat : Nat) : Int) = n by omega], by omega⟩
theorem i64_of_trod {P : Program} {t : TypeId} {fuel : Nat} {cs : List Value} {x : DataW H × List MemPlace} (ht : P.underlying t = some (.int .i64)) (h : DataW.trod enc P w base spare held fuel t cs = some x) : ∃ k : Int, cs = [.int .i64 k] := by
  obtain ⟨n, rfl, _, hw⟩ := DataW.trod_int ht h
  exact ⟨n, rfl⟩
theorem cU64 : Try.prog.cellsOf 23 = 1 := by kernel_rfl
theorem cU32 : Try.prog.cellsOf 85 = 1 := by kernel_rfl
theorem cI64 : Try.prog.cellsOf 3 = 1 := by kernel_rfl
theorem cBool : Try.prog.cellsOf 4 = 1 := by kernel_rfl
theorem cStr : Try.prog.cellsOf 9 = 1 := by kernel_rfl
theorem cConf : Try.prog.cellsOf 29 = 2 := by kernel_rfl
theorem cView : Try.prog.cellsOf 31 = 4 := by kernel_rfl
theorem cViews : Try.prog.cellsOf 32 = 1 := by kernel_rfl
theorem cRec : Try.prog.cellsOf 34 = 5 := by kernel_rfl
set_option maxRecDepth 20000 in
theorem view_of_trod {fuel : Nat} {cs : List Value} {x : DataW H × List MemPlace} (h : DataW.trod enc Try.prog w base spare held fuel 31 cs = some x) : ∃ a, KView w a cs := by
  obtain ⟨hl, n, hf⟩ := trod_fields Try.underlying31 h
  rw [cView] at hl
  match cs, hl with
  | [c0, c1, c2, c3], _ =>
    obtain ⟨_, h0⟩ := hf 0 _ rfl
    obtain ⟨_, h1⟩ := hf 1 _ rfl
    obtain ⟨_, h2⟩ := hf 2 _ rfl
    simp [cU64, cConf] at h0 h1 h2
    obtain ⟨k, e0, k0⟩ := u64_of_trod Try.underlying23 h0
    obtain ⟨m, e3, k3⟩ := u64_of_trod Try.underlying23 h2
    obtain ⟨_, n', hf'⟩ := trod_fields Try.underlying29 h1
    obtain ⟨_, g0⟩ := hf' 0 _ rfl
    obtain ⟨_, g1⟩ := hf' 1 _ rfl
    simp [cU64, cI64] at g0 g1
    obtain ⟨e, e1, k1⟩ := u64_of_trod Try.underlying23 g0
    obtain ⟨r, e2⟩ := i64_of_trod Try.underlying3 g1
    simp at e0 e1 e2 e3
    subst e0 e1 e2 e3
    exact ⟨⟨k, e, r, m⟩, rfl, k0, k1, k3⟩
theorem sl_of_cells {P : Program} {α : Type} {K : World → α → List Value → Prop} {sz : Nat} {t e : TypeId} {fuel : Nat} {cs : List Value} {x : DataW H × List MemPlace}
    (ht : P.underlying t = some (.slice e)) (he : P.cellsOf e = sz) (hsz : 0 < sz)
    (hK : ∀ (fuel : Nat) (cs : List Value) (x : DataW H × List MemPlace), cs.length = sz → DataW.trod enc P w base spare held fuel e cs = some x → ∃ a, K w a cs)
    (h : DataW.trod enc P w base spare held fuel t cs = some x) : ∃ v xs, cs = [v] ∧ Sl K sz w v xs := by
  have hs : ∃ A len cap, cs = [.slice A len cap] := by
    rcases Go.Deep.open_slice ht h with ⟨rfl, _⟩ | ⟨a, len, cap, _, _, _, _, rfl, _⟩
    · exact ⟨_, _, _, rfl⟩
    · exact ⟨_, _, _, rfl⟩
  obtain ⟨A, len, cap, rfl⟩ := hs
  obtain ⟨xs, hx⟩ := sl_of_trod (v := .slice A len cap) (d := x.1) (ps := x.2) ht he hsz hK ⟨_, _, _, rfl⟩ ⟨fuel, h⟩
  exact ⟨_, xs, rfl, hx⟩
theorem views_of_trod {fuel : Nat} {cs : List Value} {x : DataW H × List MemPlace} (h : DataW.trod enc Try.prog w base spare held fuel 32 cs = some x) : ∃ v xs, cs = [v] ∧ Views w v xs :=
  sl_of_cells Try.underlying32 cView (by decide) (fun _ _ _ _ h => view_of_trod h) h
set_option maxRecDepth 20000 in
theorem rec_of_trod {fuel : Nat} {cs : List Value} {x : DataW H × List MemPlace} (h : DataW.trod enc Try.prog w base spare held fuel 34 cs = some x) : ∃ a, KRec w a cs := by
  obtain ⟨hl, n, hf⟩ := trod_fields Try.underlying34 h
  rw [cRec] at hl
  match cs, hl with
  | [c0, c1, c2, c3, c4], _ =>
    obtain ⟨_, h0⟩ := hf 0 _ rfl
    obtain ⟨_, h1⟩ := hf 1 _ rfl
    simp [cView, cViews] at h0 h1
    obtain ⟨a, e0, ha⟩ := view_of_trod h0
    obtain ⟨v, xs, e1, hv⟩ := views_of_trod h1
    simp [viewCells] at e0 e1
    obtain ⟨rfl, rfl, rfl, rfl⟩ := e0
    subst e1
    exact ⟨⟨a, xs⟩, _, rfl, ha, hv⟩
end
end Go.Proofs.Ytheeclmpkddgjaa
