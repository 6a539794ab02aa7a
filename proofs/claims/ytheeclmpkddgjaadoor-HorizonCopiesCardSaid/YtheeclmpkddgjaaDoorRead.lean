import Derived.Test.YtheeclmpkddgjaaDoorProg
import Derived.Test.YtheeclmpkddgjaaDoorItem
import Derived.Test.YtheeclmpkddgjaaDoorLaw
namespace Go.Proofs.YtheeclmpkddgjaaDoor
set_option linter.unusedVariables false
set_option linter.unusedSimpArgs false
open Go.ChangeShapes Go.WideShapes Go.ChangeAt Go.RowKit
/-! what is read as data, read as views, records, items, names -/
section
variable {H : Type} {enc : TypeId × Value → H} {w : World} {base : Nat} {spare : Nat → Bool} {held : Bool}
theorem trod_fields {P : Program} {t : TypeId} {fs : Array Field} {fuel : Nat} {cs : List Value} {x : DataW H × List MemPlace} (ht : P.underlying t = some (.struct fs)) (h : DataW.trod enc P w base spare held fuel t cs = some x) :
    cs.length = P.cellsOf t ∧ ∃ n, ∀ (i : Nat) (f : Field), fs[i]? = some f → ∃ y, DataW.trod enc P w base spare held n f.type ((cs.drop f.offset).take (P.cellsOf f.type)) = some y := by
  obtain ⟨xs, n, _, _, hl, hlen, hf⟩ := DataW.trod_struct ht h
  refine ⟨hl, n, fun i f hi => ?_⟩
  have hi' : i < xs.length := by rw [hlen]; exact (Array.getElem?_eq_some_iff.1 hi).1
  exact ⟨xs[i], by rw [hf i f hi]; simp [hi']⟩
theorem u64_of_trod {P : Program} {t : TypeId} {fuel : Nat} {cs : List Value} {x : DataW H × List MemPlace} (ht : P.underlying t = some (.int .u64)) (h : DataW.trod enc P w base spare held fuel t cs = some x) : ∃ k : Nat, cs = [.int .u64 (k : Int)] ∧ S64 k := by
  obtain ⟨n, rfl, _, hw⟩ := DataW.trod_int ht h
  obtain ⟨k, rfl, hk⟩ := u64_nat hw
  exact ⟨k, rfl, hk⟩
theorem u32_of_trod {P : Program} {t : TypeId} {fuel : Nat} {cs : List Value} {x : DataW H × List MemPlace} (ht : P.underlying t = some (.int .u32)) (h : DataW.trod enc P w base spare held fuel t cs = some x) : ∃ k : Nat, cs = [.int .u32 (k : Int)] ∧ k < 4294967296 := by
  obtain ⟨n, rfl, _, hw⟩ := DataW.trod_int ht h
  have := bounds_u32 hw
  exact ⟨n.toNat, by rw [show ((n.toNat : Nat) : Int) = n by omega], by omega⟩
theorem i64_of_trod {P : Program} {t : TypeId} {fuel : Nat} {cs : List Value} {x : DataW H × List MemPlace} (ht : P.underlying t = some (.int .i64)) (h : DataW.trod enc P w base spare held fuel t cs = some x) : ∃ k : Int, cs = [.int .i64 k] := by
  obtain ⟨n, rfl, _, hw⟩ := DataW.trod_int ht h
  exact ⟨n, rfl⟩
theorem cU64 : Tryd.prog.cellsOf 22 = 1 := by kernel_rfl
theorem cU32 : Tryd.prog.cellsOf 49 = 1 := by kernel_rfl
theorem cI64 : Tryd.prog.cellsOf 3 = 1 := by kernel_rfl
theorem cBool : Tryd.prog.cellsOf 4 = 1 := by kernel_rfl
theorem cStr : Tryd.prog.cellsOf 9 = 1 := by kernel_rfl
theorem cConf : Tryd.prog.cellsOf 61 = 2 := by kernel_rfl
theorem cView : Tryd.prog.cellsOf 63 = 4 := by kernel_rfl
theorem cViews : Tryd.prog.cellsOf 64 = 1 := by kernel_rfl
theorem cRec : Tryd.prog.cellsOf 66 = 5 := by kernel_rfl
theorem cItem : Tryd.prog.cellsOf 68 = 18 := by kernel_rfl
theorem cName : Tryd.prog.cellsOf 51 = 2 := by kernel_rfl
set_option maxRecDepth 20000 in
theorem name_of_trod {fuel : Nat} {cs : List Value} {x : DataW H × List MemPlace} (h : DataW.trod enc Tryd.prog w base spare held fuel 51 cs = some x) : ∃ a, KName w a cs := by
  obtain ⟨hl, n, hf⟩ := trod_fields Tryd.underlying51 h
  rw [cName] at hl
  match cs, hl with
  | [c0, c1], _ =>
    obtain ⟨_, h0⟩ := hf 0 _ rfl
    obtain ⟨_, h1⟩ := hf 1 _ rfl
    simp [cU32, cI64] at h0 h1
    obtain ⟨p, e0⟩ := i64_of_trod Tryd.underlying3 h0
    obtain ⟨i, e1, hi⟩ := u32_of_trod Tryd.underlying49 h1
    simp at e0 e1
    subst e0 e1
    exact ⟨⟨p, i⟩, rfl, hi⟩
set_option maxRecDepth 20000 in
theorem view_of_trod {fuel : Nat} {cs : List Value} {x : DataW H × List MemPlace} (h : DataW.trod enc Tryd.prog w base spare held fuel 63 cs = some x) : ∃ a, KView w a cs := by
  obtain ⟨hl, n, hf⟩ := trod_fields Tryd.underlying63 h
  rw [cView] at hl
  match cs, hl with
  | [c0, c1, c2, c3], _ =>
    obtain ⟨_, h0⟩ := hf 0 _ rfl
    obtain ⟨_, h1⟩ := hf 1 _ rfl
    obtain ⟨_, h2⟩ := hf 2 _ rfl
    simp [cU64, cConf] at h0 h1 h2
    obtain ⟨k, e0, k0⟩ := u64_of_trod Tryd.underlying22 h0
    obtain ⟨m, e3, k3⟩ := u64_of_trod Tryd.underlying22 h2
    obtain ⟨_, n', hf'⟩ := trod_fields Tryd.underlying61 h1
    obtain ⟨_, g0⟩ := hf' 0 _ rfl
    obtain ⟨_, g1⟩ := hf' 1 _ rfl
    simp [cU64, cI64] at g0 g1
    obtain ⟨e, e1, k1⟩ := u64_of_trod Tryd.underlying22 g0
    obtain ⟨r, e2⟩ := i64_of_trod Tryd.underlying3 g1
    simp at e0 e1 e2 e3
    subst e0 e1 e2 e3
    exact ⟨⟨k, e, r, m⟩, rfl, k0, k1, k3⟩
theorem sl_of_cells {P : Program} {α : Type} {K : World → α → List Value → Prop} {sz : Nat} {t e : TypeId} {fuel : Nat} {cs : List Value} {x : DataW H × List MemPlace}
    (ht : P.underlying t = some (.slice e)) (he : P.cellsOf e = sz) (hsz : 0 < sz)
    (hK : ∀ (fuel : Nat) (cs : List Value) (x : DataW H × List MemPlace), cs.length = sz → DataW.trod enc P w base spare held fuel e cs = some x → ∃ a, K w a cs)
    (h : DataW.trod enc P w base spare held fuel t cs = some x) : ∃ v xs, cs = [v] ∧ Sl K sz w v xs := by
  have hs : ∃ A len cap, cs = [.slice A len cap] := by
    rcases Go.Deep.open_slice ht h with ⟨rfl, _⟩ | ⟨a, len, cap, _, _, _, _, rfl, _⟩
    · exact ⟨_, _, _, rfl⟩
    · exact ⟨_, _, _, rfl⟩
  obtain ⟨A, len, cap, rfl⟩ := hs
  obtain ⟨xs, hx⟩ := sl_of_trod (v := .slice A len cap) (d := x.1) (ps := x.2) ht he hsz hK ⟨_, _, _, rfl⟩ ⟨fuel, h⟩
  exact ⟨_, xs, rfl, hx⟩
theorem views_of_trod {fuel : Nat} {cs : List Value} {x : DataW H × List MemPlace} (h : DataW.trod enc Tryd.prog w base spare held fuel 64 cs = some x) : ∃ v xs, cs = [v] ∧ Views w v xs :=
  sl_of_cells Tryd.underlying64 cView (by decide) (fun _ _ _ _ h => view_of_trod h) h
set_option maxRecDepth 20000 in
theorem rec_of_trod {fuel : Nat} {cs : List Value} {x : DataW H × List MemPlace} (h : DataW.trod enc Tryd.prog w base spare held fuel 66 cs = some x) : ∃ a, KRec w a cs := by
  obtain ⟨hl, n, hf⟩ := trod_fields Tryd.underlying66 h
  rw [cRec] at hl
  match cs, hl with
  | [c0, c1, c2, c3, c4], _ =>
    obtain ⟨_, h0⟩ := hf 0 _ rfl
    obtain ⟨_, h1⟩ := hf 1 _ rfl
    simp [cView, cViews] at h0 h1
    obtain ⟨a, e0, ha⟩ := view_of_trod h0
    obtain ⟨v, xs, e1, hv⟩ := views_of_trod h1
    simp [viewCells] at e0 e1
    obtain ⟨rfl, rfl, rfl, rfl⟩ := e0
    subst e1
    exact ⟨⟨a, xs⟩, _, rfl, ha, hv⟩
set_option maxRecDepth 20000 in
theorem item_of_trod {fuel : Nat} {cs : List Value} {x : DataW H × List MemPlace} (h : DataW.trod enc Tryd.prog w base spare held fuel 68 cs = some x) : ∃ a, KItem w a cs := by
  obtain ⟨hl, n, hf⟩ := trod_fields Tryd.underlying68 h
  rw [cItem] at hl
  match cs, hl with
  | [c0, c1, c2, c3, c4, c5, c6, c7, c8, c9, c10, c11, c12, c13, c14, c15, c16, c17], _ =>
    obtain ⟨_, h0⟩ := hf 0 _ rfl
    obtain ⟨_, h1⟩ := hf 1 _ rfl
    obtain ⟨_, h2⟩ := hf 2 _ rfl
    obtain ⟨_, h3⟩ := hf 3 _ rfl
    obtain ⟨_, h4⟩ := hf 4 _ rfl
    obtain ⟨_, h5⟩ := hf 5 _ rfl
    obtain ⟨_, h6⟩ := hf 6 _ rfl
    obtain ⟨_, h7⟩ := hf 7 _ rfl
    obtain ⟨_, h8⟩ := hf 8 _ rfl
    obtain ⟨_, h9⟩ := hf 9 _ rfl
    obtain ⟨_, h10⟩ := hf 10 _ rfl
    simp [cU64, cU32, cI64, cBool, cStr, cRec, cView] at h0 h1 h2 h3 h4 h5 h6 h7 h8 h9 h10
    obtain ⟨kd, e0⟩ := i64_of_trod Tryd.underlying3 h0
    obtain ⟨dt, e1, _⟩ := DataW.trod_string Tryd.underlying9 h1
    obtain ⟨ic, e2, k2⟩ := u32_of_trod Tryd.underlying49 h2
    obtain ⟨ho, e3, k3⟩ := u64_of_trod Tryd.underlying22 h3
    obtain ⟨ha, e4, _⟩ := DataW.trod_bool Tryd.underlying4 h4
    obtain ⟨di, e5, _⟩ := DataW.trod_bool Tryd.underlying4 h5
    obtain ⟨rc, v, e6, k6, k6'⟩ := rec_of_trod h6
    obtain ⟨vw, e7, k7⟩ := view_of_trod h7
    obtain ⟨nu, e8, k8⟩ := u64_of_trod Tryd.underlying22 h8
    obtain ⟨ix, e9⟩ := i64_of_trod Tryd.underlying3 h9
    obtain ⟨to, e10⟩ := i64_of_trod Tryd.underlying3 h10
    simp [viewCells, recCells] at e0 e1 e2 e3 e4 e5 e6 e7 e8 e9 e10
    obtain ⟨rfl, rfl, rfl, rfl, rfl⟩ := e6
    obtain ⟨rfl, rfl, rfl, rfl⟩ := e7
    subst e0 e1 e2 e3 e4 e5 e8 e9 e10
    exact ⟨⟨kd, dt, ic, ho, ha, di, rc, vw, nu, ix, to⟩, _, rfl, ⟨k2, k3, k6, k7, k8⟩, k6'⟩
theorem items_of_trod {v : Value} {d : DataW H} {ps : List MemPlace} (h : DataW.Trod enc Tryd.prog w base spare held 45 v d ps) (hc : ∃ A len cap, v = .slice A len cap) : ∃ xs, Items w v xs :=
  sl_of_trod Tryd.underlying45 cItem (by decide) (fun _ _ _ _ h => item_of_trod h) hc h
theorem names_of_trod {v : Value} {d : DataW H} {ps : List MemPlace} (h : DataW.Trod enc Tryd.prog w base spare held 46 v d ps) (hc : ∃ A len cap, v = .slice A len cap) : ∃ xs, Names w v xs :=
  sl_of_trod Tryd.underlying46 cName (by decide) (fun _ _ _ _ h => name_of_trod h) hc h
end
end Go.Proofs.YtheeclmpkddgjaaDoor
