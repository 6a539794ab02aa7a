import Derived.Test.YtalcoodidcehnaaDoorPureC
import Derived.Test.YtalcoodidcehnaaDoorMem
import Derived.Deep.Slices
import Derived.Deep.MidRow
import Derived.ProofKit
import Derived.Carry
import Derived.OpenShut
import Derived.Deep.DeepHandedRow
namespace Go.Proofs.YtalcoodidcehnaaDoor
set_option linter.unusedVariables false
set_option linter.unusedSimpArgs false
open Go.ChangeShapes Go.WideShapes Go.ChangeAt Go.RowKit
/-- what was read before the call reads so behind it, if old blocks stay as they were -/
theorem trodAll_below {H : Type} {enc : TypeId × Value → H} {P : Program} (hl : laidOutB P = true) {W W' : World} (hb : Below W.heap.size W W') :
    ∀ (ts : List TypeId) (vs : List Value) (ds : List (DataW H)) (ps : List MemPlace), (∀ t, t ∈ ts → P.readableRec t = true ∧ t < P.types.size) → (∀ x ∈ ps, x.block < W.heap.size) →
      DataW.TrodAll enc P W 0 (fun _ => true) true ts vs ds ps → DataW.TrodAll enc P W' 0 (fun b => decide (b < W.heap.size)) true ts vs ds ps
  | [], [], [], _, _, _, h => h
  | t :: ts, v :: vs, d :: ds, ps, ht, hp, h => by
    obtain ⟨p, q, h1, h2, rfl⟩ := h
    exact ⟨p, q, Below.trod hl (ht t (by simp)).1 (ht t (by simp)).2 h1 hb (fun x hx => hp x (List.mem_append_left _ hx)),
      trodAll_below hl hb ts vs ds q (fun t h => ht t (by simp [h])) (fun x hx => hp x (List.mem_append_right _ hx)) h2, rfl⟩
  | [], _ :: _, _, _, _, _, h => by cases h
  | [], [], _ :: _, _, _, _, h => by cases h
  | _ :: _, [], _, _, _, _, h => by cases h
  | _ :: _, _ :: _, [], _, _, _, h => by cases h
/-- a law that answers true and leaves old blocks as they were meets its row -/
theorem law_post {H : Type} {enc : TypeId × Value → H} {P : Program} {f : Func} {s : ChangeSpec} {W W' : World} {args : Array Value} {ds gs : List (DataW H)} {before : List MemPlace} {tb : TypeId}
    (hl : laidOutB P = true) (ht : ∀ t, t ∈ f.params.toList → P.readableRec t = true ∧ t < P.types.size) (hres : f.resultTypes = #[tb]) (hbool : P.underlying tb = some .bool) (hvars : s.vars = [])
    (hfn : (s.fn H (ds ++ gs)).results = [.lit (.bool true)] ∧ (s.fn H (ds ++ gs)).args = ds ∧ (s.fn H (ds ++ gs)).vars = [])
    (hW : DataW.Whole enc P f.params.toList s.vars false W args.toList ds gs before) (hb : Below W.heap.size W W') : s.post enc P f false true false false W args (.bool true) W' := by
  have hlt := hW.lt
  have hW0 := hW
  obtain ⟨p, q, hA, hV, rfl, _, _⟩ := hW0
  obtain ⟨e1, e2, e3⟩ := hfn
  refine ⟨ds, gs, p ++ q, [], p, [], hW, ?_, ?_, ?_, hb.frame _, fun h => by cases h⟩
  · rw [e1, hres]
    exact trodAll_mk1 (shut_bool hbool _)
  · rw [e2]
    exact trodAll_below hl hb _ _ _ _ ht (fun x hx => by simpa using hlt x (List.mem_append_left _ hx)) hA
  · rw [e3, hvars]
    rfl
theorem list_of {α : Type} (Q : Nat → α → Prop) : ∀ n, (∀ i, i < n → ∃ x, Q i x) → ∃ xs : List α, xs.length = n ∧ ∀ (i : Nat) x, xs[i]? = some x → Q i x
  | 0, _ => ⟨[], rfl, fun i x h => by simp at h⟩
  | n + 1, h => by
    obtain ⟨xs, hl, hx⟩ := list_of Q n (fun i hi => h i (by omega))
    obtain ⟨x, hq⟩ := h n (by omega)
    refine ⟨xs ++ [x], by simp [hl], fun i y hy => ?_⟩
    by_cases hi : i < n
    · rw [List.getElem?_append_left (by omega)] at hy
      exact hx i y hy
    · rw [List.getElem?_append_right (by omega)] at hy
      cases hd : i - xs.length with
      | zero =>
        rw [hd] at hy
        obtain rfl : x = y := by simpa using hy
        obtain rfl : i = n := by omega
        exact hq
      | succ k =>
        rw [hd] at hy
        simp at hy
theorem cell_spot {w : World} {a : Addr} {v : Value} (h : w.cell? a = some v) : a = ⟨a.block, a.off, none⟩ := by
  obtain ⟨b, o, s⟩ := a
  cases s with
  | none => rfl
  | some s =>
    simp only [World.cell?] at h
    split at h <;> simp at h
/-- a slice that is read as data reads as a list, if its elements do -/
theorem sl_of_trod {H : Type} {enc : TypeId × Value → H} {P : Program} {α : Type} {K : World → α → List Value → Prop} {sz : Nat} {t e : TypeId} {w : World} {base : Nat} {spare : Nat → Bool} {held : Bool} {v : Value} {d : DataW H} {ps : List MemPlace}
    (ht : P.underlying t = some (.slice e)) (he : P.cellsOf e = sz) (hsz : 0 < sz)
    (hK : ∀ (fuel : Nat) (cs : List Value) (x : DataW H × List MemPlace), cs.length = sz → DataW.trod enc P w base spare held fuel e cs = some x → ∃ a, K w a cs)
    (hc1 : ∃ A len cap, v = .slice A len cap) (h : DataW.Trod enc P w base spare held t v d ps) : ∃ xs : List α, Sl K sz w v xs := by
  obtain ⟨A, len, cap, rfl⟩ := hc1
  obtain ⟨fuel, hf⟩ := h
  have hf : DataW.trod enc P w base spare held fuel t [.slice A len cap] = some (d, ps) := hf
  rcases Go.Deep.open_slice ht hf with ⟨hcs, _⟩ | ⟨a, len', cap', m, n, D, Pl, hcs, _, hl, _, hm, _, hel⟩
  · simp only [List.cons.injEq, Value.slice.injEq, and_true] at hcs
    obtain ⟨rfl, rfl, rfl⟩ := hcs
    exact ⟨[], Sl.nil K sz w⟩
  · simp only [List.cons.injEq, Value.slice.injEq, and_true] at hcs
    obtain ⟨rfl, rfl, rfl⟩ := hcs
    have hlm : len ≤ m := by rw [hm]; split <;> omega
    rw [he] at hel
    obtain ⟨xs, hxl, hxs⟩ := list_of (fun i x => ∃ cs, K w x cs ∧ cs.length = sz ∧ ∀ (j : Nat) u, cs[j]? = some u → w.cell? ((a.add (i * sz)).add j) = some u) len (fun i hi => by
      obtain ⟨cs', h1, h2⟩ := hel i (by omega)
      obtain ⟨_, hcl, hget⟩ := World.cells?_some h1
      obtain ⟨x, hx⟩ := hK n cs' _ hcl h2
      refine ⟨x, cs', hx, hcl, fun j u hu => ?_⟩
      have hj : j < sz := by rw [← hcl]; exact (List.getElem?_eq_some_iff.1 hu).1
      rw [← hu]
      exact hget j hj)
    refine ⟨xs, some a, cap, by rw [hxl], by omega, fun i x hx => ?_⟩
    have hi : i < len := by rw [← hxl]; exact (List.getElem?_eq_some_iff.1 hx).1
    have h0 : 0 < xs.length := by omega
    obtain ⟨cs0, _, hl0, hg0⟩ := hxs 0 xs[0] (by simp [h0])
    have ha : a = ⟨a.block, a.off, none⟩ := by
      have hc0 : cs0[0]? = some cs0[0] := by simp
      have := hg0 0 _ hc0
      rw [Nat.zero_mul] at this
      exact cell_spot (by simpa [Addr.add] using this)
    obtain ⟨cs, hk, hcl, hg⟩ := hxs i x hx
    refine ⟨a.block, a.off, cs, by rw [← ha], hk, hcl, fun j u hu => ?_⟩
    have := hg j u hu
    rw [ha, Addr.add_mid, Addr.add_mid] at this
    rw [← Nat.add_assoc]
    exact this
theorem ints_of_trod {H : Type} {enc : TypeId × Value → H} {P : Program} {t e : TypeId} {w : World} {base : Nat} {spare : Nat → Bool} {held : Bool} {v : Value} {d : DataW H} {ps : List MemPlace}
    (ht : P.underlying t = some (.slice e)) (hi : P.underlying e = some (.int .i64)) (he : P.cellsOf e = 1) (hc1 : ∃ A len cap, v = .slice A len cap) (h : DataW.Trod enc P w base spare held t v d ps) : ∃ xs : List Int, Ints w v xs := by
  refine sl_of_trod ht he (by decide) (fun fuel cs x hl hx => ?_) hc1 h
  match cs, hl with
  | [c], _ =>
    obtain ⟨k, e1, _, _⟩ := DataW.trod_int hi hx
    exact ⟨k, by simpa [one, encI] using e1⟩
theorem u64_nat {x : Int} (h : (Lit.int .u64 x).wf = true) : ∃ n : Nat, x = (n : Int) ∧ S64 n := by
  have := bounds_u64 h
  exact ⟨x.toNat, by omega, ⟨by omega⟩⟩
end Go.Proofs.YtalcoodidcehnaaDoor
