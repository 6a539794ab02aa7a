import Derived.Test.YtalcoodidcehnaaDoorPureC
import Derived.Test.YtalcoodidcehnaaDoorMem
import Derived.Test.YtalcoodidcehnaaDoorWp
import Derived.Deep.MidRow
namespace Go.Proofs.YtalcoodidcehnaaDoor
set_option linter.unusedVariables false
set_option linter.unusedSimpArgs false
open Go.RowKit
/-! views, records, items, names: what they are, and how they lie in cells -/
structure Vw where
  number : Nat
  epoch : Nat
  rep : Int
  members : Nat
  deriving DecidableEq
structure Vw.Ok (v : Vw) : Prop where
  number : S64 v.number
  epoch : S64 v.epoch
  members : S64 v.members
def viewCells (v : Vw) : List Value := [.int .u64 (v.number : Int), .int .u64 (v.epoch : Int), .int .i64 v.rep, .int .u64 (v.members : Int)]
def KView : World → Vw → List Value → Prop := fun _ v cs => cs = viewCells v ∧ v.Ok
theorem KView.stays : Stays KView := fun _ _ _ _ h _ => h
abbrev Views (w : World) (v : Value) (xs : List Vw) : Prop := Sl KView 4 w v xs
theorem Views.below {w w' : World} {v : Value} {xs : List Vw} (h : Views w v xs) (hb : Below w.heap.size w w') : Views w' v xs := Sl.below KView.stays (by decide) h hb
structure Rcd where
  last : Vw
  pend : List Vw
def recCells (last : Vw) (v : Value) : List Value := [.int .u64 (last.number : Int), .int .u64 (last.epoch : Int), .int .i64 last.rep, .int .u64 (last.members : Int), v]
def KRec : World → Rcd → List Value → Prop := fun w r cs => ∃ v, cs = recCells r.last v ∧ r.last.Ok ∧ Views w v r.pend
theorem KRec.stays : Stays KRec := fun _ _ _ _ ⟨v, h1, h2, h3⟩ hb => ⟨v, h1, h2, h3.below hb⟩
structure Itm where
  kind : Int
  data : ByteArray
  inc : Nat
  holds : Nat
  has : Bool
  direct : Bool
  rc : Rcd
  view : Vw
  number : Nat
  index : Int
  total : Int
structure Itm.Ok (x : Itm) : Prop where
  inc : x.inc < 4294967296
  holds : S64 x.holds
  last : x.rc.last.Ok
  view : x.view.Ok
  number : S64 x.number
def itemCells (x : Itm) (v : Value) : List Value :=
  [.int .i64 x.kind, .string x.data, .int .u32 (x.inc : Int), .int .u64 (x.holds : Int), .bool x.has, .bool x.direct,
   .int .u64 (x.rc.last.number : Int), .int .u64 (x.rc.last.epoch : Int), .int .i64 x.rc.last.rep, .int .u64 (x.rc.last.members : Int), v,
   .int .u64 (x.view.number : Int), .int .u64 (x.view.epoch : Int), .int .i64 x.view.rep, .int .u64 (x.view.members : Int),
   .int .u64 (x.number : Int), .int .i64 x.index, .int .i64 x.total]
def KItem : World → Itm → List Value → Prop := fun w x cs => ∃ v, cs = itemCells x v ∧ x.Ok ∧ Views w v x.rc.pend
theorem KItem.stays : Stays KItem := fun _ _ _ _ ⟨v, h1, h2, h3⟩ hb => ⟨v, h1, h2, h3.below hb⟩
abbrev Items (w : World) (v : Value) (xs : List Itm) : Prop := Sl KItem 18 w v xs
theorem Items.below {w w' : World} {v : Value} {xs : List Itm} (h : Items w v xs) (hb : Below w.heap.size w w') : Items w' v xs := Sl.below KItem.stays (by decide) h hb
structure Nm where
  proc : Int
  inc : Nat
  deriving DecidableEq
def nameCells (x : Nm) : List Value := [.int .i64 x.proc, .int .u32 (x.inc : Int)]
def KName : World → Nm → List Value → Prop := fun _ x cs => cs = nameCells x ∧ x.inc < 4294967296
theorem KName.stays : Stays KName := fun _ _ _ _ h _ => h
abbrev Names (w : World) (v : Value) (xs : List Nm) : Prop := Sl KName 2 w v xs
theorem Names.below {w w' : World} {v : Value} {xs : List Nm} (h : Names w v xs) (hb : Below w.heap.size w w') : Names w' v xs := Sl.below KName.stays (by decide) h hb
/-- an element of a slice, as a range of cells -/
theorem Sl.at {α : Type} {K : World → α → List Value → Prop} {sz : Nat} {w : World} {A : Option Addr} {n c : Nat} {xs : List α} (h : Sl K sz w (.slice A n c) xs) (k : Nat) (hk : k < xs.length) :
    ∃ b off cs, A = some (⟨b, off, none⟩ : Addr) ∧ K w xs[k] cs ∧ cs.length = sz ∧ w.rangeAt b (off + k * sz) cs := by
  obtain ⟨A', c', hv, hc, h⟩ := h
  injection hv with hA hn hcc
  subst hA
  obtain ⟨b, off, cs, hA, hK, hl, hcell⟩ := h k xs[k] (by simp [hk])
  exact ⟨b, off, cs, hA, hK, hl, fun j u hu => by rw [Nat.add_assoc]; exact hcell j u hu⟩
theorem flatten_get {css : List (List Value)} {sz : Nat} (h : ∀ cs, cs ∈ css → cs.length = sz) (i j : Nat) (hj : j < sz) : css.flatten[i * sz + j]? = (css[i]?).bind fun cs => cs[j]? := by
  induction css generalizing i with
  | nil => simp
  | cons cs css ih =>
    have hl := h cs (by simp)
    cases i with
    | zero =>
      rw [List.flatten_cons, List.getElem?_append_left (by omega)]
      simp
    | succ i =>
      rw [List.flatten_cons, List.getElem?_append_right (by rw [hl, Nat.succ_mul]; omega), hl, show (i + 1) * sz + j - sz = i * sz + j by rw [Nat.succ_mul]; omega, ih (fun c hc => h c (by simp [hc]))]
      simp
/-- a row that the call owns reads as a slice of elements of more cells -/
theorem Sl.of_flat {α : Type} {K : World → α → List Value → Prop} {sz : Nat} {w : World} {base : Nat} {e : TypeId} {v : Value} {n : Nat} {xs : List α} {css : List (List Value)}
    (h : w.ownsRow base e sz v n css.flatten) (hn : n = xs.length) (hK : ∀ (i : Nat) x, xs[i]? = some x → ∃ cs, css[i]? = some cs ∧ K w x cs) (hsz : ∀ cs, cs ∈ css → cs.length = sz) : Sl K sz w v xs := by
  subst hn
  refine Sl.of_own h (fun i x hx => ?_)
  obtain ⟨cs, hc, hk⟩ := hK i x hx
  have hl := hsz cs (List.mem_of_getElem? hc)
  refine ⟨cs, hk, hl, fun j u hu => ?_⟩
  rw [flatten_get hsz i j (by rw [← hl]; exact (List.getElem?_eq_some_iff.1 hu).1), hc]
  exact hu
end Go.Proofs.YtalcoodidcehnaaDoor
