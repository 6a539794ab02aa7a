import Derived.Test.YtalcoodidcehnaaDoorItem
import Derived.Test.YtalcoodidcehnaaDoorLaw
import Derived.Laws.AppendOwnNone
import Derived.Deep.AppendLies
namespace Go.Proofs.YtalcoodidcehnaaDoor
set_option linter.unusedVariables false
set_option linter.unusedSimpArgs false
open Go.RowKit
structure Css {α : Type} (K : World → α → List Value → Prop) (sz : Nat) (w : World) (xs : List α) (css : List (List Value)) : Prop where
  len : css.length = xs.length
  each : ∀ (i : Nat) x, xs[i]? = some x → ∃ cs, css[i]? = some cs ∧ K w x cs
  size : ∀ cs, cs ∈ css → cs.length = sz
/-! append of what a slice reads -/
theorem Sl.css {α : Type} {K : World → α → List Value → Prop} {sz : Nat} (hsz : 0 < sz) {w : World} {A : Option Addr} {n c : Nat} {xs : List α} (h : Sl K sz w (.slice A n c) xs) :
    n = xs.length ∧ ∃ css, Css K sz w xs css ∧ css.flatten.length = n * sz ∧ (A = none → xs = []) ∧ ∀ ad, A = some ad → ∀ (j : Nat) u, css.flatten[j]? = some u → w.cell? (ad.add j) = some u := by
  obtain ⟨A', c', hv, hc, h⟩ := h
  injection hv with hA hn hcc
  subst hA; subst hn; subst hcc
  obtain ⟨css, hl, hq⟩ := list_of (fun i (cs : List Value) => ∃ b off x, A = some (⟨b, off, none⟩ : Addr) ∧ xs[i]? = some x ∧ K w x cs ∧ cs.length = sz ∧ ∀ (j : Nat) u, cs[j]? = some u → w.cell? ⟨b, off + (i * sz + j), none⟩ = some u) xs.length (fun i hi => by
    obtain ⟨b, off, cs, hA, hK, hl, hr⟩ := h i xs[i] (by simp [hi])
    exact ⟨cs, b, off, xs[i], hA, by simp [hi], hK, hl, hr⟩)
  have hs : ∀ cs, cs ∈ css → cs.length = sz := fun cs hcs => by
    obtain ⟨i, hi, rfl⟩ := List.getElem_of_mem hcs
    obtain ⟨_, _, _, _, _, _, h1, _⟩ := hq i css[i] (by simp [hi])
    exact h1
  have hfl : css.flatten.length = xs.length * sz := by
    rw [← hl]
    clear hq hl
    induction css with
    | nil => simp
    | cons a css ih =>
      rw [List.flatten_cons, List.length_append, hs a (by simp), ih (fun cs h => hs cs (by simp [h])), List.length_cons, Nat.succ_mul]
      omega
  refine ⟨rfl, css, ⟨hl, fun i x hi => ?_, hs⟩, hfl, fun hA => ?_, fun ad hA j u hu => ?_⟩
  · have hi' : i < css.length := by rw [hl]; exact (List.getElem?_eq_some_iff.1 hi).1
    obtain ⟨_, _, y, _, hy, hk, _, _⟩ := hq i css[i] (by simp [hi'])
    rw [hi] at hy
    obtain rfl : x = y := by simpa using hy
    exact ⟨css[i], by simp [hi'], hk⟩
  · cases xs with
    | nil => rfl
    | cons x xs =>
      obtain ⟨_, _, _, hA', _⟩ := h 0 x rfl
      rw [hA] at hA'
      cases hA'
  · have hj : j < css.flatten.length := (List.getElem?_eq_some_iff.1 hu).1
    rw [hfl] at hj
    have hi : j / sz < css.length := by rw [hl]; exact Nat.div_lt_of_lt_mul (by rw [Nat.mul_comm]; exact hj)
    have hd : j = j / sz * sz + j % sz := by rw [Nat.mul_comm]; exact (Nat.div_add_mod _ _).symm
    rw [hd, flatten_get hs _ _ (Nat.mod_lt _ hsz)] at hu
    obtain ⟨b, off, x, hA', _, _, _, hr⟩ := hq (j / sz) css[j / sz] (by simp [hi])
    rw [hA] at hA'
    obtain rfl : ad = ⟨b, off, none⟩ := by simpa using hA'
    have := hr (j % sz) u (by simpa [hi] using hu)
    rw [← hd] at this
    rw [Addr.add_mid]
    exact this
theorem run_append_of_nil {P : Program} (w : World) (base : Nat) (t ty e : TypeId) (i : TypeInfo) (size : Nat) (ht : P.underlying t = some (.slice e)) (hi : P.info? e = some i)
    (v : Value) (n : Nat) (xs : List Value) (hown : w.ownsRow base e size v n xs) (c : Nat) : (Builtin.append_ #[t, t] ty #[v, .slice none 0 c]).run P w = .ok v w := by
  rcases hown.2 with ⟨rfl, rfl⟩ | ⟨g, cap, cur, rfl, _, _, hnc, _⟩
  · simp [Builtin.append_, run_underlying ht, sizeOf, typeInfo, hi, Builtin.lenOf, Builtin.firstCells]
  · simp [Builtin.append_, run_underlying ht, sizeOf, typeInfo, hi, Builtin.lenOf, Builtin.firstCells, hnc, storeCells]
theorem wpList_append_sl {P : Program} {w w0 : World} {ops : Array Oper} {rest : List Oper} {o : Oper} {a : Act} {Q : Exit → Act → World → Prop} (hgd : o.guard = none) (s x : Operand) (t : TypeId)
    (ho : o.op = .call { callee := .builtin .append, args := #[s, x], argTypes := #[t, t] })
    (base : Nat) (e : TypeId) (i : TypeInfo) (z : Value) (size bytes : Nat) (ht : P.underlying t = some (.slice e)) (hi : P.info? e = some i) (hz : i.zero = some z)
    (hsize : i.size = size) (hby : i.bytes = bytes) (hzs : z.cells.size = size) (hsz : 0 < size)
    (v : Value) (n : Nat) (xs : List Value) (hs : a.eval s = v) (hown : w.ownsRow base e size v n xs)
    {α : Type} {K : World → α → List Value → Prop} (A : Option Addr) (m c : Nat) (ys : List α) (hx : a.eval x = .slice A m c) (hr : Sl K size w0 (.slice A m c) ys) (hb0 : Below w0.heap.size w0 w) (h1 : ∀ y cs, K w0 y cs → ∀ u ∈ cs, u.oneCell' = true)
    (h63 : n + m ≤ maxLen) (hbytes : (n + m) * bytes ≤ 140737488355328) (hbase : base ≤ w.heap.size)
    (h : ∀ css v' w', Css K size w0 ys css → w'.ownsRow base e size v' (n + m) (xs ++ css.flatten) → w.grownBy w' v.ownBlock → wpList P ops Q rest (a.put o.dst v') w') : wpList P ops Q (o :: rest) a w := by
  obtain ⟨hm, css, hc, hl, hn, hnews⟩ := Sl.css hsz hr
  have hone : ∀ u ∈ css.flatten, u.oneCell' = true := by
    intro u hu
    obtain ⟨cs, hcs, hu⟩ := List.mem_flatten.1 hu
    obtain ⟨k, hk, rfl⟩ := List.getElem_of_mem hcs
    have hk' : k < ys.length := by rw [← hc.len]; exact hk
    obtain ⟨cs', h2, h3⟩ := hc.each k ys[k] (by simp [hk'])
    have : css[k] = cs' := by simpa [hk] using h2
    rw [this] at hu
    exact h1 _ _ h3 u hu
  cases A with
  | none =>
    obtain rfl := hn rfl
    have hcn : css = [] := List.eq_nil_of_length_eq_zero hc.len
    subst hcn
    have hm0 : m = 0 := hm
    subst hm0
    refine wpList_plain hgd fun K' hK => ?_
    have hrun := run_append_of_nil (P := P) w base t o.type e i size ht hi v n xs hown c
    unfold Oper.wp
    simp [execOp, ho, resolve, invoke, builtin, hs, hx, hrun, Result.andThen]
    exact hK _ _ (h [] v w hc (by simpa using hown) ⟨rfl, rfl, rfl, Nat.le_refl _, fun _ _ _ => rfl⟩)
  | some ad => exact wpList_append_own _ hgd s x t ho base e i z size bytes ht hi hz hsize hby hzs hsz v n xs hs hown ad m c css.flatten hx hl (fun j u hu => (hb0.cell (World.block_lt_of_cell? w0 _ (hnews ad rfl j u hu))).trans (hnews ad rfl j u hu)) hone h63 hbytes hbase fun v' w' h2 h3 _ => h css v' w' hc h2 h3
theorem own_zero (w : World) (e : TypeId) (sz : Nat) : (w.alloc (.cells #[] e)).ownsRow w.heap.size e sz (.slice (some ⟨w.heap.size, 0, none⟩) 0 0) 0 [] :=
  ⟨by simp, .inr ⟨w.heap.size, 0, #[], rfl, Nat.le_refl _, heap_alloc_new w _, Nat.le_refl _, Nat.zero_le _, by simp, by simp⟩⟩
end Go.Proofs.YtalcoodidcehnaaDoor
