import Derived.Test.YtalcoodidcehnaaDoorFlC
import Derived.Maps.OwnSet
import Derived.Test.YtalcoodidcehnaaDoorSetD
import Derived.Test.YtalcoodidcehnaaDoorVtH
namespace Go.Proofs.YtalcoodidcehnaaDoor
set_option linter.unusedVariables false
set_option linter.unusedSimpArgs false
open Go.RowKit
/-! what stays: blocks of cells of any type but a filter's -/
structure Kept (w w' : World) : Prop where
  os : w'.os = w.os
  tape : w'.tape = w.tape
  output : w'.output = w.output
  size : w.heap.size ≤ w'.heap.size
  block : ∀ (k : Nat) (cur : Array Value) (t : TypeId), w.heap[k]? = some (Obj.cells cur t (0, 0)) → t ≠ 71 → w'.heap[k]? = w.heap[k]?
theorem Kept.refl (w : World) : Kept w w := ⟨rfl, rfl, rfl, Nat.le_refl _, fun _ _ _ _ _ => rfl⟩
theorem Kept.trans {w w' w'' : World} (h : Kept w w') (k : Kept w' w'') : Kept w w'' :=
  ⟨k.os.trans h.os, k.tape.trans h.tape, k.output.trans h.output, Nat.le_trans h.size k.size, fun b cur t hb hne => by
    have h1 := h.block b cur t hb hne
    exact (k.block b cur t (h1.trans hb) hne).trans h1⟩
theorem Kept.of_below {w w' : World} (h : Below w.heap.size w w') : Kept w w' :=
  ⟨h.os, h.tape, h.output, h.size, fun k cur t hk _ => h.block k (Array.getElem?_eq_some_iff.1 hk).1⟩
theorem Kept.blk {w w' : World} (h : Kept w w') {g : Nat} {t : TypeId} {cs : Array Value} (hb : Blk w g t cs) (ht : t ≠ 71) : Blk w' g t cs := (h.block g cs t hb ht).trans hb
/-- nothing turns but some blocks, and what is new -/
structure ExP (P : Nat → Prop) (w w' : World) : Prop where
  os : w'.os = w.os
  tape : w'.tape = w.tape
  output : w'.output = w.output
  size : w.heap.size ≤ w'.heap.size
  block : ∀ k, k < w.heap.size → ¬ P k → w'.heap[k]? = w.heap[k]?
theorem ExP.refl (P : Nat → Prop) (w : World) : ExP P w w := ⟨rfl, rfl, rfl, Nat.le_refl _, fun _ _ _ => rfl⟩
theorem ExP.trans {P : Nat → Prop} {w w' w'' : World} (h : ExP P w w') (k : ExP P w' w'') : ExP P w w'' :=
  ⟨k.os.trans h.os, k.tape.trans h.tape, k.output.trans h.output, Nat.le_trans h.size k.size, fun b hb hne => (k.block b (Nat.lt_of_lt_of_le hb h.size) hne).trans (h.block b hb hne)⟩
theorem ExP.of_below {w w' : World} (h : Below w.heap.size w w') (P : Nat → Prop) : ExP P w w' := ⟨h.os, h.tape, h.output, h.size, fun b hb _ => h.block b hb⟩
theorem ExP.of_ex {g : Nat} {w w' : World} (h : Ex g w w') {P : Nat → Prop} (hP : P g) : ExP P w w' := ⟨h.os, h.tape, h.output, h.size, fun b hb hn => h.block b hb (fun e => hn (e ▸ hP))⟩
theorem ExP.then {P : Nat → Prop} {w w' w'' : World} (h : ExP P w w') (k : Below w'.heap.size w' w'') : ExP P w w'' := h.trans (.of_below k P)
theorem ExP.mono {P Q : Nat → Prop} {w w' : World} (h : ExP P w w') (hq : ∀ k, k < w.heap.size → P k → Q k) : ExP Q w w' := ⟨h.os, h.tape, h.output, h.size, fun b hb hn => h.block b hb (fun hp => hn (hq b hb hp))⟩
theorem ExP.below {P : Nat → Prop} {B : Nat} {a w w' : World} (h : Below B a w) (k : ExP P w w') (hP : ∀ x, P x → B ≤ x) (hB : B ≤ w.heap.size) : Below B a w' :=
  h.trans ⟨k.os, k.tape, k.output, k.size, fun b hb => k.block b (by omega) (fun hp => by have := hP b hp; omega)⟩
theorem ExP.blk {P : Nat → Prop} {b : Nat} {w w' : World} {t : TypeId} {cs : Array Value} (h : ExP P w w') (hb : Blk w b t cs) (hne : ¬ P b) : Blk w' b t cs := (h.block b hb.lt hne).trans hb
theorem ExP.kept {P : Nat → Prop} {w w' : World} (h : ExP P w w') (hP : ∀ k, P k → ∀ (cur : Array Value) (t : TypeId), w.heap[k]? = some (Obj.cells cur t (0, 0)) → t = 71) : Kept w w' :=
  ⟨h.os, h.tape, h.output, h.size, fun k cur t hk hne => h.block k (Array.getElem?_eq_some_iff.1 hk).1 (fun hp => hne (hP k hp cur t hk))⟩
/-! slices whose block bears their elements' type -/
structure SlT {α : Type} (K : World → α → List Value → Prop) (sz : Nat) (t : TypeId) (w : World) (v : Value) (xs : List α) : Prop where
  sl : Sl K sz w v xs
  typ : ∀ b, vblk v = some b → ∃ cur, w.heap[b]? = some (.cells cur t (0, 0))
def StaysK {α : Type} (K : World → α → List Value → Prop) : Prop := ∀ w w' x cs, K w x cs → Kept w w' → K w' x cs
theorem Sl.move {α : Type} {K : World → α → List Value → Prop} {sz : Nat} {w w' : World} {v : Value} {xs : List α} (h : Sl K sz w v xs) (hK : ∀ x cs, K w x cs → K w' x cs) (hb : ∀ b, vblk v = some b → b < w.heap.size → w'.heap[b]? = w.heap[b]?) : Sl K sz w' v xs := by
  obtain ⟨A, c, rfl, hc, h⟩ := h
  refine ⟨A, c, rfl, hc, fun i x hx => ?_⟩
  obtain ⟨b, off, cs, hA, hk, hl, hg⟩ := h i x hx
  refine ⟨b, off, cs, hA, hK _ _ hk, hl, fun j u hu => ?_⟩
  have hcell := hg j u hu
  have hlt := World.block_lt_of_cell? w _ hcell
  have hbe := hb b (by rw [hA]; rfl) hlt
  rw [← hcell]
  show (match w'.heap[b]? with | some (.cells c _ _) => if (none : Option Nat).isSome then none else c[off + (i * sz + j)]? | _ => none) = (match w.heap[b]? with | some (.cells c _ _) => if (none : Option Nat).isSome then none else c[off + (i * sz + j)]? | _ => none)
  rw [hbe]
theorem SlT.kept {α : Type} {K : World → α → List Value → Prop} {sz : Nat} {t : TypeId} {w w' : World} {v : Value} {xs : List α} (h : SlT K sz t w v xs) (hK : StaysK K) (ht : t ≠ 71) (hb : Kept w w') : SlT K sz t w' v xs :=
  ⟨h.sl.move (fun x cs hk => hK _ _ _ _ hk hb) (fun b he hlt => by
    obtain ⟨cur, hc⟩ := h.typ b he
    exact hb.block b cur t hc ht), fun b he => by
    obtain ⟨cur, hc⟩ := h.typ b he
    exact ⟨cur, (hb.block b cur t hc ht).trans hc⟩⟩
theorem SlT.nil {α : Type} (K : World → α → List Value → Prop) (sz : Nat) (t : TypeId) (w : World) : SlT K sz t w (.slice none 0 0) [] := ⟨Sl.nil K sz w, fun b he => by cases he⟩
theorem SlT.of_flat {α : Type} {K : World → α → List Value → Prop} {sz : Nat} {w : World} {base : Nat} {e : TypeId} {v : Value} {n : Nat} {xs : List α} {css : List (List Value)}
    (h : w.ownsRow base e sz v n css.flatten) (hn : n = xs.length) (hK : ∀ (i : Nat) x, xs[i]? = some x → ∃ cs, css[i]? = some cs ∧ K w x cs) (hsz : ∀ cs, cs ∈ css → cs.length = sz) : SlT K sz e w v xs :=
  ⟨Sl.of_flat h hn hK hsz, fun b he => by
    rcases h.2 with ⟨rfl, _⟩ | ⟨g, cap, cur, rfl, _, hg, _⟩
    · cases he
    · injection he with he
      subst he
      exact ⟨cur, hg⟩⟩
theorem ViewsT.slt {w : World} {v : Value} {L : List Vw} (h : ViewsT w v L) : SlT KView 4 35 w v L := ⟨h.views, h.typ⟩
theorem SlT.viewsT {w : World} {v : Value} {L : List Vw} (h : SlT KView 4 35 w v L) : ViewsT w v L := ⟨h.sl, h.typ⟩
theorem KView.staysK : StaysK KView := fun _ _ _ _ h _ => h
theorem ViewsT.kept {w w' : World} {v : Value} {L : List Vw} (h : ViewsT w v L) (hb : Kept w w') : ViewsT w' v L := (h.slt.kept KView.staysK (by decide) hb).viewsT
/-- an item, its views in blocks of views -/
def KItemT : World → Itm → List Value → Prop := fun w x cs => ∃ v, cs = itemCells x v ∧ x.Ok ∧ ViewsT w v x.rc.pend
theorem KItemT.staysK : StaysK KItemT := fun _ _ _ _ ⟨v, h1, h2, h3⟩ hb => ⟨v, h1, h2, h3.kept hb⟩
theorem KItemT.stays : Stays KItemT := fun _ _ _ _ ⟨v, h1, h2, h3⟩ hb => ⟨v, h1, h2, h3.below hb⟩
theorem KItemT.item {w : World} {x : Itm} {cs : List Value} (h : KItemT w x cs) : KItem w x cs := by
  obtain ⟨v, h1, h2, h3⟩ := h
  exact ⟨v, h1, h2, h3.views⟩
abbrev ItemsT (w : World) (v : Value) (xs : List Itm) : Prop := SlT KItemT 18 45 w v xs
theorem ItemsT.kept {w w' : World} {v : Value} {xs : List Itm} (h : ItemsT w v xs) (hb : Kept w w') : ItemsT w' v xs := SlT.kept h KItemT.staysK (by decide) hb
/-! the map of what was told -/
def telem (v : Value) : Option (DataW Value × List MemPlace) := some (.held v, [])
def tkey (p : Nat) : Lit := .int .i64 (p : Int)
def tcount (told : Nat → Option Itm) : Nat := ((List.range 64).filter fun p => (told p).isSome).length
def Itm.zero : Itm := ⟨0, ⟨#[]⟩, 0, 0, false, false, ⟨Vw.none, []⟩, Vw.none, 0, 0, 0⟩
theorem Itm.zero_ok : Itm.zero.Ok := ⟨by decide, ⟨by decide⟩, ⟨⟨by decide⟩, ⟨by decide⟩, ⟨by decide⟩⟩, ⟨⟨by decide⟩, ⟨by decide⟩, ⟨by decide⟩⟩, ⟨by decide⟩⟩
def tput (told : Nat → Option Itm) (p : Nat) (x : Itm) : Nat → Option Itm := fun q => if q = p then some x else told q
structure ToldIs (w : World) (bm : Nat) (told : Nat → Option Itm) (D : DataW Value) : Prop where
  own : w.ownsMap Tryd.prog 3 telem bm (tcount told) D
  size : Maps.size D = tcount told
  nil : ∀ p, p < 64 → told p = none → Maps.has D (tkey p) = false
  val : ∀ p, p < 64 → ∀ x, told p = some x → Maps.has D (tkey p) = true ∧ ∃ v, (∀ zd, D.atKey (tkey p) zd = .held (.agg (itemCells x v).toArray)) ∧ ViewsT w v x.rc.pend ∧ x.Ok ∧ x.rc.pend.length ≤ 1000
theorem ownsMap_exact {w : World} {P : Program} {k : TypeId} {R : Value → Option (DataW Value × List MemPlace)} {b n : Nat} {D : DataW Value} (h : w.ownsMap P k R b n D) : w.ownsMap P k R b (Maps.size D) D := by
  obtain ⟨es, clock, hb, F, _, hD⟩ := h
  refine ⟨es, clock, hb, F, ?_, hD⟩
  rw [hD]
  simp [Maps.size, length_sorted]
theorem ownsMap_block {w w' : World} {P : Program} {k : TypeId} {R : Value → Option (DataW Value × List MemPlace)} {b n : Nat} {D : DataW Value} (h : w.ownsMap P k R b n D) (he : w'.heap[b]? = w.heap[b]?) : w'.ownsMap P k R b n D := by
  obtain ⟨es, clock, hb, r⟩ := h
  exact ⟨es, clock, he.trans hb, r⟩
theorem ToldIs.lt {w : World} {bm : Nat} {told : Nat → Option Itm} {D : DataW Value} (h : ToldIs w bm told D) : bm < w.heap.size := h.own.lt
theorem ToldIs.nocells {w : World} {bm : Nat} {told : Nat → Option Itm} {D : DataW Value} (h : ToldIs w bm told D) {cur : Array Value} {t : TypeId} {fr : Nat × Nat} : w.heap[bm]? ≠ Option.some (.cells cur t fr) := by
  obtain ⟨es, clock, hb, _⟩ := h.own
  rw [hb]
  intro e
  cases e
theorem ToldIs.move {w w' : World} {bm : Nat} {told : Nat → Option Itm} {D : DataW Value} (h : ToldIs w bm told D) (hk : Kept w w') (he : w'.heap[bm]? = w.heap[bm]?) : ToldIs w' bm told D :=
  ⟨ownsMap_block h.own he, h.size, h.nil, fun p hp x hx => by
    obtain ⟨h1, v, h2, h3, h4, h5⟩ := h.val p hp x hx
    exact ⟨h1, v, h2, h3.kept hk, h4, h5⟩⟩
theorem ToldIs.below {w w' : World} {bm : Nat} {told : Nat → Option Itm} {D : DataW Value} (h : ToldIs w bm told D) (hb : Below w.heap.size w w') : ToldIs w' bm told D :=
  h.move (.of_below hb) (hb.block bm h.lt)
theorem tcount_le (told : Nat → Option Itm) : tcount told ≤ 64 := by
  unfold tcount
  have := List.length_filter_le (fun p => (told p).isSome) (List.range 64)
  simpa using this
theorem filter_put_length (l : List Nat) (hl : l.Nodup) (told : Nat → Option Itm) (p : Nat) (x : Itm) (h0 : told p = none) : (l.filter fun q => (tput told p x q).isSome).length = (l.filter fun q => (told q).isSome).length + if p ∈ l then 1 else 0 := by
  induction l with
  | nil => simp
  | cons a l ih =>
    obtain ⟨h1, h2⟩ := List.nodup_cons.1 hl
    have ih := ih h2
    by_cases ha : a = p
    · subst ha
      have e1 : (tput told a x a).isSome = true := by simp [tput]
      have e2 : (told a).isSome = false := by simp [h0]
      rw [List.filter_cons_of_pos (by exact e1), List.filter_cons_of_neg (by rw [e2]; decide), List.length_cons, ih, if_neg h1, if_pos (by simp)]
    · have e1 : (tput told p x a).isSome = (told a).isSome := by simp [tput, ha]
      have e2 : (p ∈ a :: l) ↔ p ∈ l := by simp [Ne.symm ha]
      cases e : (told a).isSome
      · rw [List.filter_cons_of_neg (by rw [e1, e]; decide), List.filter_cons_of_neg (by rw [e]; decide), ih]
        simp only [e2]
      · rw [List.filter_cons_of_pos (by rw [e1, e]), List.filter_cons_of_pos (by rw [e]), List.length_cons, List.length_cons, ih]
        simp only [e2]
        omega
theorem tcount_put (told : Nat → Option Itm) (p : Nat) (x : Itm) (h0 : told p = none) (hp : p < 64) : tcount (tput told p x) = tcount told + 1 := by
  unfold tcount
  rw [filter_put_length _ List.nodup_range told p x h0, if_pos (List.mem_range.2 hp)]
theorem tkey_wf (p : Nat) (hp : p < 64) : (Lit.int .i64 (p : Int)).wf = true := by
  simp [Lit.wf, IntKind.min, IntKind.max, IntKind.signed, IntKind.bits]
  omega
theorem tkey_of (p : Nat) (hp : p < 64) : keyOf Tryd.prog 3 (.int .i64 (p : Int)) = some (tkey p) := Maps.keyOf_int_mk Tryd.underlying3 (tkey_wf p hp)
theorem tkey_ne {p q : Nat} (h : p ≠ q) : tkey p ≠ tkey q := by
  intro e
  injection e with _ e
  omega
end Go.Proofs.YtalcoodidcehnaaDoor
namespace Go.Proofs.YtalcoodidcehnaaDoor
set_option linter.unusedVariables false
set_option linter.unusedSimpArgs false
open Go.RowKit
theorem int_law : Maps.Keyed Tryd.prog 3 := Maps.int_keyed Tryd.underlying3
theorem item_info : (Tryd.prog.info? 45).map (fun i => (i.zero, i.size, i.bytes)) = some (some (.agg (itemCells Itm.zero (.slice none 0 0)).toArray), 18, 160) := by kernel_rfl
theorem item_zero (w : World) : (zeroValue 45).run Tryd.prog w = .ok (.agg (itemCells Itm.zero (.slice none 0 0)).toArray) w := by
  obtain ⟨i0, hi, hz0, _⟩ := info_parts item_info
  simp [zeroValue, typeInfo, hi, hz0]
theorem telem_zero : telem (.agg (itemCells Itm.zero (.slice none 0 0)).toArray) = some (.held (.agg (itemCells Itm.zero (.slice none 0 0)).toArray), []) := rfl
theorem ToldIs.look {w : World} {bm : Nat} {told : Nat → Option Itm} {D : DataW Value} (h : ToldIs w bm told D) (p : Nat) (hp : p < 64) :
    ∃ A c, (Instr.lookup 68 (.map (some bm)) (.int .i64 (p : Int)) true).run Tryd.prog w = .ok (.tuple #[.agg (itemCells ((told p).getD Itm.zero) (.slice A ((told p).getD Itm.zero).rc.pend.length c)).toArray, .bool (told p).isSome]) w ∧
      (Instr.lookup 68 (.map (some bm)) (.int .i64 (p : Int)) false).run Tryd.prog w = .ok (.agg (itemCells ((told p).getD Itm.zero) (.slice A ((told p).getD Itm.zero).rc.pend.length c)).toArray) w ∧
      ViewsT w (.slice A ((told p).getD Itm.zero).rc.pend.length c) ((told p).getD Itm.zero).rc.pend ∧ ((told p).getD Itm.zero).Ok ∧ ((told p).getD Itm.zero).rc.pend.length ≤ 1000 := by
  obtain ⟨v1, p1, hr1, hv1⟩ := h.own.look_ok int_law Tryd.underlying68 (item_zero w) telem_zero (tkey_of p hp)
  obtain ⟨v2, p2, hr2, hv2⟩ := h.own.lookup int_law Tryd.underlying68 (item_zero w) telem_zero (tkey_of p hp)
  have e1 : DataW.held v1 = D.atKey (tkey p) (.held (.agg (itemCells Itm.zero (.slice none 0 0)).toArray)) := congrArg Prod.fst (Option.some.inj hv1)
  have e2 : DataW.held v2 = D.atKey (tkey p) (.held (.agg (itemCells Itm.zero (.slice none 0 0)).toArray)) := congrArg Prod.fst (Option.some.inj hv2)
  cases ht : told p with
  | none =>
    have hn := h.nil p hp ht
    rw [Maps.atKey_of_not_has hn] at e1 e2
    injection e1 with e1
    injection e2 with e2
    rw [hn, e1] at hr1
    rw [e2] at hr2
    exact ⟨none, 0, hr1, hr2, ⟨Sl.nil _ _ _, fun b he => by cases he⟩, Itm.zero_ok, Nat.zero_le _⟩
  | some x =>
    obtain ⟨h1, v, h2, h3, h4, h5⟩ := h.val p hp x ht
    rw [h2] at e1 e2
    injection e1 with e1
    injection e2 with e2
    obtain ⟨A, c, rfl, _⟩ := h3.views.slice
    rw [h1, e1] at hr1
    rw [e2] at hr2
    exact ⟨A, c, hr1, hr2, h3, h4, h5⟩
theorem ToldIs.store {w : World} {bm : Nat} {told : Nat → Option Itm} {D : DataW Value} (h : ToldIs w bm told D) (p : Nat) (hp : p < 64) (h0 : told p = none) {x : Itm} {v : Value} (hv : ViewsT w v x.rc.pend) (hx : x.Ok) (hl : x.rc.pend.length ≤ 1000) :
    ∃ w' D', (Instr.mapUpdate 68 (.map (some bm)) (.int .i64 (p : Int)) (.agg (itemCells x v).toArray)).run Tryd.prog w = .ok () w' ∧ ToldIs w' bm (tput told p x) D' ∧ ExP (fun k => k = bm) w w' := by
  obtain ⟨w', hr, ho, hm⟩ := h.own.store int_law Tryd.underlying68 (by have := tcount_le told; unfold maxLen; omega) (tkey_of p hp) (show telem (.agg (itemCells x v).toArray) = some (.held (.agg (itemCells x v).toArray), []) from rfl)
  have hx' : ExP (fun k => k = bm) w w' := ⟨hm.grown.os, hm.grown.tape, hm.grown.output, hm.grown.size, fun k hk hn => hm.grown.block k hk (fun e => hn (Option.some.inj e))⟩
  have hk : Kept w w' := hx'.kept (fun k e cur t hc => absurd hc (by subst e; exact h.nocells))
  have hD := h.own.tidy int_law
  have hkl : WideAt.IsKeyLit (tkey p) := trivial
  have hs : Maps.size (D.put (tkey p) (.held (.agg (itemCells x v).toArray))) = tcount (tput told p x) := by
    rw [tcount_put told p x h0 hp, ← h.size]
    have := Maps.size_put (k := tkey p) hD (.held (.agg (itemCells x v).toArray))
    rw [this, h.nil p hp h0]
    rfl
  refine ⟨w', _, hr, ⟨?_, hs, fun q hq hn => ?_, fun q hq y hy => ?_⟩, hx'⟩
  · have := ownsMap_exact ho
    rw [hs] at this
    exact this
  · have hqp : q ≠ p := by
      rintro rfl
      simp [tput] at hn
    rw [Maps.has_put_other (tkey_ne hqp)]
    exact h.nil q hq (by simpa [tput, hqp] using hn)
  · by_cases hqp : q = p
    · subst hqp
      obtain rfl : x = y := by simpa [tput] using hy
      exact ⟨Maps.has_put_same hD.isMap hkl _, v, fun zd => Maps.atKey_put_same hD.isMap hkl _ _, hv.kept hk, hx, hl⟩
    · obtain ⟨h1, v', h2, h3, h4, h5⟩ := h.val q hq y (by simpa [tput, hqp] using hy)
      refine ⟨?_, v', fun zd => ?_, h3.kept hk, h4, h5⟩
      · rw [Maps.has_put_other (tkey_ne hqp)]
        exact h1
      · rw [Maps.atKey_put_other (tkey_ne hqp)]
        exact h2 zd
theorem ToldIs.len {w : World} {bm : Nat} {told : Nat → Option Itm} {D : DataW Value} (h : ToldIs w bm told D) (ty : TypeId) :
    (Builtin.len_ #[68] ty #[.map (some bm)]).run Tryd.prog w = .ok (.int .i64 ((tcount told : Nat) : Int)) w := by
  have := h.own.len (t := 68) Tryd.underlying68 ty
  rw [h.size] at this
  exact this
theorem ToldIs.made (w : World) {w' : World} {bm : Nat} (h : w'.heap[bm]? = some (.map #[] 0)) : ToldIs w' bm (fun _ => none) (.map []) := by
  have e : tcount (fun _ => none) = 0 := by simp [tcount]
  refine ⟨?_, ?_, fun p hp _ => rfl, fun p hp x hx => by cases hx⟩
  · rw [e]
    exact ⟨#[], 0, h, ⟨by simp, MapKept.stamped_empty 0, by simp⟩, Nat.le_refl _, rfl⟩
  · rw [e]
    rfl
/-! a filter, as it lies -/
def TriedAt (w : World) (tv : Value) : Option Vw → Prop
  | none => tv = .pointer none
  | some v => ∃ b, tv = .pointer (some ⟨b, 0, none⟩) ∧ Blk w b 35 (vwA v) ∧ v.Ok
theorem TriedAt.kept {w w' : World} {tv : Value} {o : Option Vw} (h : TriedAt w tv o) (hk : Kept w w') : TriedAt w' tv o := by
  cases o with
  | none => exact h
  | some v =>
    obtain ⟨b, h1, h2, h3⟩ := h
    exact ⟨b, h1, hk.blk h2 (by decide), h3⟩
def ToldAt (w : World) (mv : Value) (live : Bool) (told : Nat → Option Itm) : Prop :=
  (mv = .map none ∧ live = false ∧ told = fun _ => none) ∨ ∃ bm D, mv = .map (some bm) ∧ ToldIs w bm told D
structure FlAt (w : World) (g : Nat) (S : Fl) (pv mv tv : Value) : Prop where
  blk : Blk w g 71 (flCells S pv mv tv)
  views : ViewsT w pv S.rc.pend
  last : S.rc.last.Ok
  few : S.rc.pend.length ≤ 1000
  cep : S64 S.cep
  mem : S64 S.mem
  agree : S64 S.agree
  told : ToldAt w mv S.live S.told
  tried : TriedAt w tv S.tried
/-- the blocks that a filter's calls turn -/
def Turns (g : Nat) (mv : Value) (k : Nat) : Prop := k = g ∨ mv = .map (some k)
theorem FlAt.move {w w' : World} {g : Nat} {S : Fl} {pv mv tv : Value} (h : FlAt w g S pv mv tv) (hk : Kept w w') (hg : w'.heap[g]? = w.heap[g]?) (hm : ∀ bm, mv = .map (some bm) → w'.heap[bm]? = w.heap[bm]?) : FlAt w' g S pv mv tv :=
  ⟨hg.trans h.blk, h.views.kept hk, h.last, h.few, h.cep, h.mem, h.agree, by
    rcases h.told with h1 | ⟨bm, D, h1, h2⟩
    · exact .inl h1
    · exact .inr ⟨bm, D, h1, h2.move hk (hm bm h1)⟩, h.tried.kept hk⟩
theorem FlAt.lt {w : World} {g : Nat} {S : Fl} {pv mv tv : Value} (h : FlAt w g S pv mv tv) {k : Nat} (hk : Turns g mv k) : k < w.heap.size := by
  rcases hk with rfl | hk
  · exact h.blk.lt
  · rcases h.told with ⟨h1, _⟩ | ⟨bm, D, h1, h2⟩
    · rw [h1] at hk; cases hk
    · rw [h1] at hk
      injection hk with hk
      injection hk with hk
      subst hk
      exact h2.lt
theorem FlAt.below {w w' : World} {g : Nat} {S : Fl} {pv mv tv : Value} (h : FlAt w g S pv mv tv) (hb : Below w.heap.size w w') : FlAt w' g S pv mv tv :=
  h.move (.of_below hb) (hb.block g h.blk.lt) (fun bm e => hb.block bm (h.lt (.inr e)))
/-- what a filter's call leaves as it was -/
theorem FlAt.kept {w w' : World} {g : Nat} {S : Fl} {pv mv tv : Value} (h : FlAt w g S pv mv tv) (hx : ExP (Turns g mv) w w') : Kept w w' :=
  hx.kept fun k hk cur t hc => by
    rcases hk with rfl | hk
    · have := hc.symm.trans h.blk
      injection this with this
      injection this with _ h3 _
    · rcases h.told with ⟨h1, _⟩ | ⟨bm, D, h1, h2⟩
      · rw [h1] at hk; cases hk
      · rw [h1] at hk
        injection hk with hk
        injection hk with hk
        subst hk
        exact absurd hc h2.nocells
end Go.Proofs.YtalcoodidcehnaaDoor
