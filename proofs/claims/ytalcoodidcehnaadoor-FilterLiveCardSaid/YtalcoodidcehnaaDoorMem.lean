import Derived.WalkKit
import Derived.WalkSmall
import Derived.Lib.Hide
namespace Go.Proofs.YtalcoodidcehnaaDoor
set_option linter.unusedVariables false
set_option linter.unusedSimpArgs false
open Go.RowKit
theorem bal {w W : World} (h : Below w.heap.size w W) (o : Obj) : Below w.heap.size w (W.alloc o) := h.alloc h.size o
theorem btr {w W W' : World} (h : Below w.heap.size w W) (k : Below W.heap.size W W') : Below w.heap.size w W' := h.trans (k.mono h.size)
/-! how slices read: element by element, of 'sz' cells each, by a relation K -/
def Sl {α : Type} (K : World → α → List Value → Prop) (sz : Nat) (w : World) (v : Value) (xs : List α) : Prop :=
  ∃ A c, v = .slice A xs.length c ∧ xs.length ≤ c ∧ ∀ (i : Nat) x, xs[i]? = some x → ∃ b off cs, A = some (⟨b, off, none⟩ : Addr) ∧ K w x cs ∧ cs.length = sz ∧ ∀ (j : Nat) u, cs[j]? = some u → w.cell? ⟨b, off + (i * sz + j), none⟩ = some u
/-- a relation that holds on while old blocks stay as they are -/
def Stays {α : Type} (K : World → α → List Value → Prop) : Prop := ∀ w w' x cs, K w x cs → Below w.heap.size w w' → K w' x cs
theorem Sl.below {α : Type} {K : World → α → List Value → Prop} {sz : Nat} (hK : Stays K) (hsz : 0 < sz) {w w' : World} {v : Value} {xs : List α} (h : Sl K sz w v xs) (hb : Below w.heap.size w w') : Sl K sz w' v xs := by
  obtain ⟨A, c, rfl, hc, h⟩ := h
  refine ⟨A, c, rfl, hc, fun i x hx => ?_⟩
  obtain ⟨b, off, cs, hA, hk, hl, hcell⟩ := h i x hx
  exact ⟨b, off, cs, hA, hK _ _ _ _ hk hb, hl, fun j u hu => (hb.cell (p := ⟨b, off + (i * sz + j), none⟩) (World.block_lt_of_cell? w _ (hcell j u hu))).trans (hcell j u hu)⟩
/-- elements of one cell -/
def one {α : Type} (enc : α → Value) : World → α → List Value → Prop := fun _ x cs => cs = [enc x]
theorem one_stays {α : Type} (enc : α → Value) : Stays (one enc) := fun _ _ _ _ h _ => h
def encI (x : Int) : Value := .int .i64 x
abbrev Ints (w : World) (v : Value) (xs : List Int) : Prop := Sl (one encI) 1 w v xs
theorem Sl.slice {α : Type} {K : World → α → List Value → Prop} {sz : Nat} {w : World} {v : Value} {xs : List α} (h : Sl K sz w v xs) : ∃ A c, v = .slice A xs.length c ∧ xs.length ≤ c := by
  obtain ⟨A, c, rfl, hc, h⟩ := h
  exact ⟨A, c, rfl, hc⟩
theorem Sl.nil {α : Type} (K : World → α → List Value → Prop) (sz : Nat) (w : World) : Sl K sz w (.slice none 0 0) [] :=
  ⟨none, 0, rfl, Nat.le_refl _, fun i x hx => by simp at hx⟩
theorem Ints.at {w : World} {A : Option Addr} {n c : Nat} {xs : List Int} (h : Ints w (.slice A n c) xs) (k : Nat) (hk : k < xs.length) : ∃ b off, A = some (⟨b, off, none⟩ : Addr) ∧ w.cell? ⟨b, off + k, none⟩ = some (.int .i64 xs[k]) := by
  obtain ⟨A', c', hv, hc, h⟩ := h
  injection hv with hA hn hcc
  subst hA
  obtain ⟨b, off, cs, hA, rfl, hl, hcell⟩ := h k xs[k] (by simp [hk])
  exact ⟨b, off, hA, by simpa [encI] using hcell 0 _ rfl⟩
theorem cells_new (w : World) (cs : Array Value) (T : TypeId) (news : List Value) {g : Nat} (hg : g = w.heap.size) (hc : cs.toList = news) : ∀ (j : Nat) u, news[j]? = some u → (w.alloc (.cells cs T)).cell? ((⟨g, 0, none⟩ : Addr).add j) = some u := by
  intro j u hu
  subst hg
  rw [← hc, Array.getElem?_toList] at hu
  have ha : (⟨w.heap.size, 0, none⟩ : Addr).add j = ⟨w.heap.size, j, none⟩ := by unfold Addr.add; split <;> simp_all
  rw [ha]
  show (match (w.heap.push (.cells cs T))[w.heap.size]? with | some (.cells c _ _) => if (none : Option Nat).isSome then none else c[j]? | _ => none) = _
  rw [Array.getElem?_push_size]
  simpa using hu
/-- a row that the call owns reads as a slice: elements of 'sz' cells -/
theorem Sl.of_own {α : Type} {K : World → α → List Value → Prop} {sz : Nat} {w : World} {base : Nat} {e : TypeId} {v : Value} {xs : List α} {cells : List Value}
    (h : w.ownsRow base e sz v xs.length cells) (hK : ∀ (i : Nat) x, xs[i]? = some x → ∃ cs, K w x cs ∧ cs.length = sz ∧ ∀ (j : Nat) u, cs[j]? = some u → cells[i * sz + j]? = some u) : Sl K sz w v xs := by
  obtain ⟨hl, h⟩ := h
  rcases h with ⟨rfl, h0⟩ | ⟨g, cap, cur, rfl, hg, hh, hn, hm, hs, ht⟩
  · obtain rfl : xs = [] := List.eq_nil_of_length_eq_zero h0
    exact Sl.nil K sz w
  · refine ⟨some ⟨g, 0, none⟩, cap, rfl, hn, fun i x hx => ?_⟩
    obtain ⟨cs, hk, hcl, hc⟩ := hK i x hx
    refine ⟨g, 0, cs, rfl, hk, hcl, fun j u hu => ?_⟩
    have := hc j u hu
    rw [← ht] at this
    rw [List.getElem?_take] at this
    split at this
    · rw [Array.getElem?_toList] at this
      show (match w.heap[g]? with | some (.cells c _ _) => if (none : Option Nat).isSome then none else c[0 + (i * sz + j)]? | _ => none) = some u
      rw [hh, Nat.zero_add]
      simpa using this
    · cases this
theorem Sl.of_own1 {α : Type} {enc : α → Value} {w : World} {base : Nat} {e : TypeId} {v : Value} {n : Nat} {xs : List α} (h : w.ownsRow base e 1 v n (xs.map enc)) (hn : n = xs.length) : Sl (one enc) 1 w v xs := by
  subst hn
  refine Sl.of_own h (fun i x hx => ⟨[enc x], rfl, rfl, fun j u hu => ?_⟩)
  cases j with
  | zero =>
    rw [Nat.mul_one, Nat.add_zero, List.getElem?_map, hx]
    exact hu
  | succ j => simp at hu
end Go.Proofs.YtalcoodidcehnaaDoor
