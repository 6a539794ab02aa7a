import Derived.Test.YtalcoodidcehnaaDoorItem
namespace Go.Proofs.YtalcoodidcehnaaDoor
set_option linter.unusedVariables false
set_option linter.unusedSimpArgs false
/-! votes: what is computed -/
def Vw.none : Vw := ⟨0, 0, 0, 0⟩
def vlstep (b : Option Vw) (r : Rcd) : Option Vw := match b with
  | .none => some r.last
  | some b => if b.number < r.last.number then some r.last else some b
def vlast (l : List Rcd) : Vw := (l.foldl vlstep Option.none).getD Vw.none
def vpadd (n : Nat) (out : List Vw) (v : Vw) : List Vw := if n < v.number ∧ v ∉ out then out ++ [v] else out
def vpends (l : List Rcd) : List Vw := (l.map (·.pend)).flatten
def vpend (l : List Rcd) : List Vw := (vpends l).foldl (vpadd (vlast l).number) []
def vmay (m : Nat) (l : List Rcd) : Bool := !l.isEmpty && smost m (vlast l).members && (vpend l).all fun v => smost m v.members
def rmax (n : Nat) (r : Rcd) : Nat := r.pend.foldl (fun n v => max n v.number) (max n r.last.number)
def vmax (l : List Rcd) : Nat := l.foldl rmax 0
def vnext (l : List Rcd) : Nat := if vmax l < 18446744073709551615 then vmax l + 1 else vmax l
def vok (r : Rcd) : Bool := decide (r.pend.length < 32)
def vadd (r : Rcd) (v : Vw) : Rcd := if vok r then { r with pend := r.pend ++ [v] } else r
def vform (r : Rcd) (v : Vw) : Rcd := ⟨v, r.pend.filter fun x => decide (v.number < x.number)⟩
/-! laws of these -/
theorem vlast_aux : ∀ (l : List Rcd) (b : Vw), ∃ x, l.foldl vlstep (some b) = some x ∧ (x = b ∨ ∃ r, r ∈ l ∧ x = r.last) ∧ b.number ≤ x.number ∧ ∀ r, r ∈ l → r.last.number ≤ x.number
  | [], b => ⟨b, rfl, .inl rfl, Nat.le_refl _, fun r h => by cases h⟩
  | r :: l, b => by
    rw [List.foldl_cons]
    by_cases h : b.number < r.last.number
    · rw [show vlstep (some b) r = some r.last from if_pos h]
      obtain ⟨x, h1, h2, h3, h4⟩ := vlast_aux l r.last
      refine ⟨x, h1, .inr ?_, by omega, fun q hq => ?_⟩
      · rcases h2 with rfl | ⟨q, hq, rfl⟩
        · exact ⟨r, by simp, rfl⟩
        · exact ⟨q, by simp [hq], rfl⟩
      · rcases List.mem_cons.1 hq with rfl | hq
        · exact h3
        · exact h4 q hq
    · rw [show vlstep (some b) r = some b from if_neg h]
      obtain ⟨x, h1, h2, h3, h4⟩ := vlast_aux l b
      refine ⟨x, h1, ?_, h3, fun q hq => ?_⟩
      · rcases h2 with rfl | ⟨q, hq, rfl⟩
        · exact .inl rfl
        · exact .inr ⟨q, by simp [hq], rfl⟩
      · rcases List.mem_cons.1 hq with rfl | hq
        · omega
        · exact h4 q hq
theorem vlast_spec {l : List Rcd} (h : l ≠ []) : (∃ r, r ∈ l ∧ vlast l = r.last) ∧ ∀ r, r ∈ l → r.last.number ≤ (vlast l).number := by
  cases l with
  | nil => exact absurd rfl h
  | cons r l =>
    obtain ⟨x, h1, h2, h3, h4⟩ := vlast_aux l r.last
    have e : vlast (r :: l) = x := by unfold vlast; rw [List.foldl_cons, show vlstep Option.none r = some r.last from rfl, h1]; rfl
    rw [e]
    refine ⟨?_, fun q hq => ?_⟩
    · rcases h2 with rfl | ⟨q, hq, rfl⟩
      · exact ⟨r, by simp, rfl⟩
      · exact ⟨q, by simp [hq], rfl⟩
    · rcases List.mem_cons.1 hq with rfl | hq
      · exact h3
      · exact h4 q hq
theorem vpadd_mem (n : Nat) (out : List Vw) (v x : Vw) : x ∈ vpadd n out v ↔ x ∈ out ∨ (x = v ∧ n < v.number) := by
  unfold vpadd
  by_cases h : n < v.number ∧ v ∉ out
  · rw [if_pos h, List.mem_append, List.mem_singleton]
    exact ⟨fun k => k.imp id (fun e => ⟨e, h.1⟩), fun k => k.imp id (fun e => e.1)⟩
  · rw [if_neg h]
    refine ⟨.inl, fun k => ?_⟩
    rcases k with k | ⟨rfl, k⟩
    · exact k
    · by_cases hx : x ∈ out
      · exact hx
      · exact absurd ⟨k, hx⟩ h
theorem vpadds_mem (n : Nat) : ∀ (l : List Vw) (out : List Vw) (x : Vw), x ∈ l.foldl (vpadd n) out ↔ x ∈ out ∨ (x ∈ l ∧ n < x.number)
  | [], out, x => by simp
  | v :: l, out, x => by
    rw [List.foldl_cons, vpadds_mem n l, vpadd_mem, List.mem_cons]
    constructor
    · rintro ((h | ⟨rfl, h⟩) | ⟨h, k⟩)
      · exact .inl h
      · exact .inr ⟨.inl rfl, h⟩
      · exact .inr ⟨.inr h, k⟩
    · rintro (h | ⟨rfl | h, k⟩)
      · exact .inl (.inl h)
      · exact .inl (.inr ⟨rfl, k⟩)
      · exact .inr ⟨h, k⟩
theorem mem_vpends {l : List Rcd} {x : Vw} : x ∈ vpends l ↔ ∃ r, r ∈ l ∧ x ∈ r.pend := by
  unfold vpends
  rw [List.mem_flatten]
  constructor
  · rintro ⟨p, hp, hx⟩
    obtain ⟨r, hr, rfl⟩ := List.mem_map.1 hp
    exact ⟨r, hr, hx⟩
  · rintro ⟨r, hr, hx⟩
    exact ⟨r.pend, List.mem_map_of_mem hr, hx⟩
theorem mem_vpend {l : List Rcd} {x : Vw} : x ∈ vpend l ↔ (∃ r, r ∈ l ∧ x ∈ r.pend) ∧ (vlast l).number < x.number := by
  unfold vpend
  rw [vpadds_mem, mem_vpends]
  simp
theorem vmay_iff {m : Nat} {l : List Rcd} : vmay m l = true ↔ l ≠ [] ∧ smost m (vlast l).members = true ∧ ∀ v, v ∈ vpend l → smost m v.members = true := by
  unfold vmay
  simp [List.all_eq_true, and_assoc]
theorem rmax_ge (n : Nat) (r : Rcd) : n ≤ rmax n r ∧ r.last.number ≤ rmax n r ∧ ∀ v, v ∈ r.pend → v.number ≤ rmax n r := by
  unfold rmax
  have : ∀ (l : List Vw) (k : Nat), k ≤ l.foldl (fun n v => max n v.number) k ∧ ∀ v, v ∈ l → v.number ≤ l.foldl (fun n v => max n v.number) k := by
    intro l
    induction l with
    | nil => intro k; exact ⟨Nat.le_refl _, fun v h => by cases h⟩
    | cons a l ih =>
      intro k
      rw [List.foldl_cons]
      obtain ⟨h1, h2⟩ := ih (max k a.number)
      refine ⟨by omega, fun v hv => ?_⟩
      rcases List.mem_cons.1 hv with rfl | hv
      · omega
      · exact h2 v hv
  obtain ⟨h1, h2⟩ := this r.pend (max n r.last.number)
  exact ⟨by omega, by omega, h2⟩
theorem rmax_le {n k : Nat} {r : Rcd} (h : n ≤ k) (h1 : r.last.number ≤ k) (h2 : ∀ v, v ∈ r.pend → v.number ≤ k) : rmax n r ≤ k := by
  unfold rmax
  have : ∀ (l : List Vw) (a : Nat), a ≤ k → (∀ v, v ∈ l → v.number ≤ k) → l.foldl (fun n v => max n v.number) a ≤ k := by
    intro l
    induction l with
    | nil => intro a ha _; exact ha
    | cons b l ih =>
      intro a ha hl
      rw [List.foldl_cons]
      exact ih _ (by have := hl b (by simp); omega) (fun v hv => hl v (by simp [hv]))
  exact this _ _ (by omega) h2
theorem vmax_ge : ∀ (l : List Rcd) (n : Nat), n ≤ l.foldl rmax n ∧ ∀ r, r ∈ l → r.last.number ≤ l.foldl rmax n ∧ ∀ v, v ∈ r.pend → v.number ≤ l.foldl rmax n
  | [], n => ⟨Nat.le_refl _, fun r h => by cases h⟩
  | a :: l, n => by
    rw [List.foldl_cons]
    obtain ⟨h1, h2⟩ := vmax_ge l (rmax n a)
    obtain ⟨k1, k2, k3⟩ := rmax_ge n a
    refine ⟨by omega, fun r hr => ?_⟩
    rcases List.mem_cons.1 hr with rfl | hr
    · exact ⟨by omega, fun v hv => by have := k3 v hv; omega⟩
    · exact h2 r hr
theorem vmax_le {k : Nat} : ∀ (l : List Rcd) (n : Nat), n ≤ k → (∀ r, r ∈ l → r.last.number ≤ k ∧ ∀ v, v ∈ r.pend → v.number ≤ k) → l.foldl rmax n ≤ k
  | [], n, h, _ => h
  | a :: l, n, h, hl => by
    rw [List.foldl_cons]
    obtain ⟨k1, k2⟩ := hl a (by simp)
    exact vmax_le l _ (rmax_le h k1 k2) (fun r hr => hl r (by simp [hr]))
theorem vnext_gt {l : List Rcd} (h : vnext l ≠ 18446744073709551615) (hs : vmax l < 18446744073709551616) {r : Rcd} (hr : r ∈ l) : r.last.number < vnext l ∧ ∀ v, v ∈ r.pend → v.number < vnext l := by
  obtain ⟨k1, k2⟩ := (vmax_ge l 0).2 r hr
  have e : vmax l = l.foldl rmax 0 := rfl
  unfold vnext at h ⊢
  split
  · exact ⟨by omega, fun v hv => by have := k2 v hv; omega⟩
  · rename_i hn
    rw [if_neg hn] at h
    omega
theorem vnext_le {l : List Rcd} {k : Nat} (h : ∀ r, r ∈ l → r.last.number ≤ k ∧ ∀ v, v ∈ r.pend → v.number ≤ k) : vnext l ≤ k + 1 := by
  have := vmax_le (k := k) l 0 (Nat.zero_le _) h
  have e : vmax l = l.foldl rmax 0 := rfl
  unfold vnext
  split <;> omega
/-- two sets that may, by the same records, have a member in common of the last one, and of each that is pending -/
theorem vmay_meet {a b : Nat} {l : List Rcd} (ha : vmay a l = true) (hb : vmay b l = true) : 1 ≤ ssize (sboth (sboth a b) (vlast l).members) ∧ ∀ v, v ∈ vpend l → 1 ≤ ssize (sboth (sboth a b) v.members) := by
  obtain ⟨_, a1, a2⟩ := vmay_iff.1 ha
  obtain ⟨_, b1, b2⟩ := vmay_iff.1 hb
  exact ⟨most_meet a1 b1, fun v hv => most_meet (a2 v hv) (b2 v hv)⟩
theorem vmay_more {a b : Nat} {l : List Rcd} (ha : vmay a l = true) : vmay (sany a b) l = true := by
  obtain ⟨h, a1, a2⟩ := vmay_iff.1 ha
  exact vmay_iff.2 ⟨h, most_more a1, fun v hv => most_more (a2 v hv)⟩
theorem ssize_pos {s : Nat} (h : 1 ≤ ssize s) : ∃ p, p < 64 ∧ s.testBit p = true := by
  unfold ssize at h
  cases hs : slist s with
  | nil => rw [hs] at h; simp at h
  | cons p l =>
    have : p ∈ slist s := by rw [hs]; simp
    exact ⟨p, mem_slist.1 this⟩
theorem ssize_ne {s : Nat} (h : 1 ≤ ssize s) : s ≠ 0 := by
  rintro rfl
  obtain ⟨p, _, hp⟩ := ssize_pos h
  simp at hp
/-! one record -/
theorem vlast_one (r : Rcd) : vlast [r] = r.last := rfl
theorem vadd_last (r : Rcd) (v : Vw) : (vadd r v).last = r.last := by unfold vadd; split <;> rfl
theorem vadd_more {r : Rcd} {v : Vw} {m : Nat} (h : vmay m [vadd r v] = true) : vmay m [r] = true := by
  obtain ⟨_, h1, h2⟩ := vmay_iff.1 h
  rw [vlast_one, vadd_last] at h1
  refine vmay_iff.2 ⟨by simp, h1, fun x hxv => h2 x ?_⟩
  obtain ⟨⟨q, hq, hx⟩, hn⟩ := mem_vpend.1 hxv
  obtain rfl : q = r := by simpa using hq
  refine mem_vpend.2 ⟨⟨vadd q v, by simp, ?_⟩, ?_⟩
  · unfold vadd
    split
    · simp [hx]
    · exact hx
  · rw [vlast_one, vadd_last]
    exact hn
theorem vform_may (r : Rcd) (v : Vw) (m : Nat) (h : (vform r v).pend = []) : vmay m [vform r v] = smost m v.members := by
  have : vpend [vform r v] = [] := by
    unfold vpend vpends
    simp [h]
  unfold vmay
  rw [this, vlast_one]
  simp [vform]
theorem vform_pend {r : Rcd} {v x : Vw} (h : x ∈ (vform r v).pend) : v.number < x.number := by
  simpa using (List.mem_filter.1 h).2
end Go.Proofs.YtalcoodidcehnaaDoor
