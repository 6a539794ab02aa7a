import Derived.Test.YtalcoodidcehnaaDoorFlF
import Derived.Test.YtalcoodidcehnaaDoorVtM
import Derived.Test.YtalcoodidcehnaaDoorVtE
namespace Go.Proofs.YtalcoodidcehnaaDoor
set_option linter.unusedVariables false
set_option linter.unusedSimpArgs false
open Go.RowKit
/-! rows of the call's own, of elements of more cells -/
def RowT {α : Type} (K : World → α → List Value → Prop) (sz : Nat) (t : TypeId) (w : World) (base : Nat) (a : Value) (L : List α) : Prop := ∃ css, Css K sz w L css ∧ w.ownsRow base t sz a L.length css.flatten
theorem RowT.nil {α : Type} (K : World → α → List Value → Prop) (sz : Nat) (t : TypeId) (w : World) (base : Nat) : RowT K sz t w base (.slice none 0 0) [] := ⟨[], ⟨rfl, fun i x hx => by simp at hx, fun cs h => by simp at h⟩, World.ownsRow_nil _ _ _ _⟩
theorem RowT.stay {α : Type} {K : World → α → List Value → Prop} (hK : Stays K) {sz : Nat} {t : TypeId} {w w' : World} {base : Nat} {a : Value} {L : List α} (h : RowT K sz t w base a L) (hb : Below w.heap.size w w') : RowT K sz t w' base a L := by
  obtain ⟨css, hc, ho⟩ := h
  exact ⟨css, ⟨hc.len, fun i x hx => by
    obtain ⟨cs, h1, h2⟩ := hc.each i x hx
    exact ⟨cs, h1, hK _ _ _ _ h2 hb⟩, hc.size⟩, own_stay ho hb⟩
theorem RowT.snoc {α : Type} {K : World → α → List Value → Prop} {sz : Nat} {t : TypeId} {w w' : World} {base : Nat} {a' : Value} {L : List α} {css : List (List Value)} (hk : ∀ y cs, K w y cs → K w' y cs) (hc : Css K sz w L css) {x : α} {cs : List Value} (hx : K w x cs) (hl : cs.length = sz)
    (ho' : w'.ownsRow base t sz a' (L.length + 1) (css.flatten ++ cs)) : RowT K sz t w' base a' (L ++ [x]) := by
  refine ⟨css ++ [cs], ⟨by simp [hc.len], fun i y hy => ?_, fun cs' h => ?_⟩, by simpa using ho'⟩
  · by_cases hi : i < L.length
    · rw [List.getElem?_append_left hi] at hy
      obtain ⟨cs', h1, h2⟩ := hc.each i y hy
      exact ⟨cs', by rw [List.getElem?_append_left (by rw [hc.len]; exact hi)]; exact h1, hk _ _ h2⟩
    · have hi' : i = L.length := by
        have := (List.getElem?_eq_some_iff.1 hy).1
        simp at this
        omega
      subst hi'
      have e : x = y := by simpa using hy
      subst e
      exact ⟨cs, by rw [← hc.len]; simp, hk _ _ hx⟩
  · rcases List.mem_append.1 h with h | h
    · exact hc.size cs' h
    · rw [List.mem_singleton.1 h]; exact hl
theorem RowT.slt {α : Type} {K : World → α → List Value → Prop} {sz : Nat} {t : TypeId} {w : World} {base : Nat} {a : Value} {L : List α} (h : RowT K sz t w base a L) : SlT K sz t w a L := by
  obtain ⟨css, hc, ho⟩ := h
  exact SlT.of_flat ho rfl hc.each hc.size
theorem SlT.grown {α : Type} {K : World → α → List Value → Prop} {sz : Nat} {t : TypeId} {w w' : World} {v : Value} {L : List α} {row : Option Nat} {e : TypeId} (h : SlT K sz t w v L) (hK : ∀ x cs, K w x cs → K w' x cs) (hg : w.grownBy w' row) (hr : ∀ b, row = some b → ∃ cur, w.heap[b]? = some (.cells cur e (0, 0))) (he : t ≠ e) : SlT K sz t w' v L := by
  have hk : ∀ b cur, w.heap[b]? = some (Obj.cells cur t (0, 0)) → w'.heap[b]? = w.heap[b]? := fun b cur hc => hg.block b (Array.getElem?_eq_some_iff.1 hc).1 (fun e' => by
    obtain ⟨cur', hc'⟩ := hr b e'.symm
    have := hc.symm.trans hc'
    injection this with this
    injection this with _ h3 _
    exact he h3)
  exact ⟨h.sl.move hK fun b hv hlt => by
    obtain ⟨cur, hc⟩ := h.typ b hv
    exact hk b cur hc, fun b hv => by
    obtain ⟨cur, hc⟩ := h.typ b hv
    exact ⟨cur, (hk b cur hc).trans hc⟩⟩
/-- a record, its views in a block of views -/
def KRecT : World → Rcd → List Value → Prop := fun w r cs => ∃ v, cs = recCells r.last v ∧ r.last.Ok ∧ ViewsT w v r.pend
theorem KRecT.stays : Stays KRecT := fun _ _ _ _ ⟨v, h1, h2, h3⟩ hb => ⟨v, h1, h2, h3.below hb⟩
theorem Sl.imp {α : Type} {K K' : World → α → List Value → Prop} {sz : Nat} {w : World} {v : Value} {xs : List α} (h : Sl K sz w v xs) (hK : ∀ x cs, K w x cs → K' w x cs) : Sl K' sz w v xs := by
  obtain ⟨A, c, rfl, hc, h⟩ := h
  refine ⟨A, c, rfl, hc, fun i x hx => ?_⟩
  obtain ⟨b, off, cs, hA, hk, hl, hg⟩ := h i x hx
  exact ⟨b, off, cs, hA, hK _ _ hk, hl, hg⟩
theorem KRecT.rec {w : World} {r : Rcd} {cs : List Value} (h : KRecT w r cs) : KRec w r cs := by
  obtain ⟨v, h1, h2, h3⟩ := h
  exact ⟨v, h1, h2, h3.views⟩
theorem KRecT.grown {w w' : World} {row : Option Nat} (hg : w.grownBy w' row) (hr : ∀ b, row = some b → ∃ cur, w.heap[b]? = some (.cells cur 38 (0, 0))) : ∀ y cs, KRecT w y cs → KRecT w' y cs :=
  fun y cs ⟨u, h1, h2, h3⟩ => ⟨u, h1, h2, h3.grown hg hr (by decide)⟩
/-! outs -/
structure Ot where
  kind : Int
  item : Itm
  rc : Rcd
  view : Vw
  claims : List Itm
def outCells (o : Ot) (iv rv cv : Value) : List Value :=
  [.int .i64 o.kind,
   .int .i64 o.item.kind, .string o.item.data, .int .u32 (o.item.inc : Int), .int .u64 (o.item.holds : Int), .bool o.item.has, .bool o.item.direct,
   .int .u64 (o.item.rc.last.number : Int), .int .u64 (o.item.rc.last.epoch : Int), .int .i64 o.item.rc.last.rep, .int .u64 (o.item.rc.last.members : Int), iv,
   .int .u64 (o.item.view.number : Int), .int .u64 (o.item.view.epoch : Int), .int .i64 o.item.view.rep, .int .u64 (o.item.view.members : Int),
   .int .u64 (o.item.number : Int), .int .i64 o.item.index, .int .i64 o.item.total,
   .int .u64 (o.rc.last.number : Int), .int .u64 (o.rc.last.epoch : Int), .int .i64 o.rc.last.rep, .int .u64 (o.rc.last.members : Int), rv,
   .int .u64 (o.view.number : Int), .int .u64 (o.view.epoch : Int), .int .i64 o.view.rep, .int .u64 (o.view.members : Int), cv]
structure Ot.Ok (o : Ot) : Prop where
  item : o.item.Ok
  last : o.rc.last.Ok
  view : o.view.Ok
def KOutT : World → Ot → List Value → Prop := fun w o cs => ∃ iv rv cv, cs = outCells o iv rv cv ∧ o.Ok ∧ ViewsT w iv o.item.rc.pend ∧ ViewsT w rv o.rc.pend ∧ ItemsT w cv o.claims
theorem KOutT.staysK : StaysK KOutT := fun _ _ _ _ ⟨iv, rv, cv, h1, h2, h3, h4, h5⟩ hb => ⟨iv, rv, cv, h1, h2, h3.kept hb, h4.kept hb, h5.kept hb⟩
theorem KOutT.stays : Stays KOutT := fun _ _ _ _ h hb => KOutT.staysK _ _ _ _ h (.of_below hb)
abbrev OutsT (w : World) (v : Value) (l : List Ot) : Prop := SlT KOutT 29 47 w v l
theorem OutsT.kept {w w' : World} {v : Value} {l : List Ot} (h : OutsT w v l) (hb : Kept w w') : OutsT w' v l := SlT.kept h KOutT.staysK (by decide) hb
theorem OutsT.of_blk {w : World} {b : Nat} {cs : Array Value} {css : List (List Value)} {l : List Ot} (hb : Blk w b 47 cs) (he : cs.toList = css.flatten) (hl : css.length = l.length) (h1 : l.length ≤ 2) (hK : ∀ (i : Nat) x, l[i]? = some x → ∃ c, css[i]? = some c ∧ KOutT w x c) (hsz : ∀ c, c ∈ css → c.length = 29) :
    OutsT w (.slice (some ⟨b, 0, none⟩) l.length l.length) l := by
  have hfl : css.flatten.length = l.length * 29 := by
    rw [← hl]
    clear hl hK he
    induction css with
    | nil => simp
    | cons a css ih =>
      rw [List.flatten_cons, List.length_append, hsz a (by simp), ih (fun cs h => hsz cs (by simp [h])), List.length_cons, Nat.succ_mul]
      omega
  have hcs : cs.size = l.length * 29 := by rw [← Array.length_toList, he, hfl]
  refine SlT.of_flat (base := 0) (n := l.length) (css := css) ⟨hfl, .inr ⟨b, l.length, cs, rfl, Nat.zero_le _, hb, Nat.le_refl _, by unfold maxLen; omega, hcs, ?_⟩⟩ rfl hK hsz
  rw [List.take_of_length_le (by rw [Array.length_toList, hcs]; exact Nat.le_refl _), he]
theorem OutsT.one {w : World} {b : Nat} {o : Ot} {iv rv cv : Value} (hb : Blk w b 47 (outCells o iv rv cv).toArray) (ho : o.Ok) (h1 : ViewsT w iv o.item.rc.pend) (h2 : ViewsT w rv o.rc.pend) (h3 : ItemsT w cv o.claims) : OutsT w (.slice (some ⟨b, 0, none⟩) 1 1) [o] := by
  refine OutsT.of_blk (l := [o]) (css := [outCells o iv rv cv]) hb (by simp) rfl (by simp) (fun i x hx => ?_) (fun c hc => ?_)
  · cases i with
    | zero =>
      have e : o = x := by simpa using hx
      subst e
      exact ⟨_, rfl, iv, rv, cv, rfl, ho, h1, h2, h3⟩
    | succ i => simp at hx
  · rw [List.mem_singleton.1 hc]
    rfl
theorem OutsT.two {w : World} {b : Nat} {o o' : Ot} {iv rv cv iv' rv' cv' : Value} (hb : Blk w b 47 (outCells o iv rv cv ++ outCells o' iv' rv' cv').toArray) (ho : o.Ok) (h1 : ViewsT w iv o.item.rc.pend) (h2 : ViewsT w rv o.rc.pend) (h3 : ItemsT w cv o.claims)
    (ho' : o'.Ok) (h1' : ViewsT w iv' o'.item.rc.pend) (h2' : ViewsT w rv' o'.rc.pend) (h3' : ItemsT w cv' o'.claims) : OutsT w (.slice (some ⟨b, 0, none⟩) 2 2) [o, o'] := by
  refine OutsT.of_blk (l := [o, o']) (css := [outCells o iv rv cv, outCells o' iv' rv' cv']) hb (by simp) rfl (by simp) (fun i x hx => ?_) (fun c hc => ?_)
  · match i, hx with
    | 0, hx =>
      have e : o = x := by simpa using hx
      subst e
      exact ⟨_, rfl, iv, rv, cv, rfl, ho, h1, h2, h3⟩
    | 1, hx =>
      have e : o' = x := by simpa using hx
      subst e
      exact ⟨_, rfl, iv', rv', cv', rfl, ho', h1', h2', h3'⟩
    | i + 2, hx => simp at hx
  · rcases List.mem_cons.1 hc with rfl | hc
    · rfl
    · rw [List.mem_singleton.1 hc]
      rfl
theorem ItemsT.nil (w : World) : ItemsT w (.slice none 0 0) [] := SlT.nil _ _ _ _
theorem ViewsT.nil (w : World) : ViewsT w (.slice none 0 0) [] := (SlT.nil _ _ _ _).viewsT
theorem OutsT.nil (w : World) : OutsT w (.slice none 0 0) [] := SlT.nil _ _ _ _
theorem vaddT_any {w : World} {v0 v1 v2 v3 : Value} {A : Option Addr} {q c : Nat} {L : List Vw} (hv : ViewsT w (.slice A q c) L) (f : Vw) (hf : f.Ok) (h4 : #[v0, v1, v2, v3].all (·.oneCell') = true) {r : Rcd} (hr : r.pend = L) :
    Calls Tryd.prog 43 #[.agg #[v0, v1, v2, v3, .slice A q c], .agg #[.int .u64 (f.number : Int), .int .u64 (f.epoch : Int), .int .i64 f.rep, .int .u64 (f.members : Int)]] w fun e w' =>
      ∃ A' q' c', e = .returned (.tuple #[.agg #[v0, v1, v2, v3, .slice A' q' c'], .bool (vok r)]) ∧ Below w.heap.size w w' ∧ ViewsT w' (.slice A' q' c') (vadd r f).pend := by
  have hql : q = L.length := by
    obtain ⟨A', c', h, _⟩ := hv.views.slice
    injection h
  by_cases h : q < 32
  · have hk : vok r = true := by unfold vok; rw [hr, ← hql]; exact decide_eq_true h
    have hp : (vadd r f).pend = L ++ [f] := by unfold vadd; rw [if_pos hk, ← hr]
    refine (vaddYes_any hv.views h f h4).mono ?_
    rintro e w' ⟨A', c', rfl, hb, ho⟩
    refine ⟨A', q + 1, c', by rw [hk], hb, ?_⟩
    rw [hp]
    refine ViewsT.of_own ho (by rw [List.length_append, hql]; rfl) (fun x hx => ?_)
    rcases List.mem_append.1 hx with hx | hx
    · exact hv.views.ok x hx
    · rw [List.mem_singleton.1 hx]; exact hf
  · have hk : vok r = false := by unfold vok; rw [hr, ← hql]; exact decide_eq_false h
    have hp : (vadd r f).pend = L := by unfold vadd; rw [hk, ← hr]; rfl
    refine (vaddNo_any (by omega) f h4).mono ?_
    rintro e w' ⟨rfl, hb⟩
    refine ⟨A, q, c, by rw [hk], hb, ?_⟩
    rw [hp]
    exact hv.below hb
end Go.Proofs.YtalcoodidcehnaaDoor
