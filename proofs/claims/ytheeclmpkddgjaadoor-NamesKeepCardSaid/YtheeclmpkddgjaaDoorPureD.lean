import Derived.Test.YtheeclmpkddgjaaDoorNamesC
namespace Go.Proofs.YtheeclmpkddgjaaDoor
set_option linter.unusedVariables false
set_option linter.unusedSimpArgs false
theorem filter_sorted : ∀ (n a : Nat) (L : List Nat), L.Pairwise (· < ·) → (∀ p, p ∈ L → a ≤ p ∧ p < a + n) → (List.range' a n).filter (fun p => decide (p ∈ L)) = L
  | 0, a, L, _, h => by
    cases L with
    | nil => rfl
    | cons p L => have := h p (by simp); omega
  | n + 1, a, L, hs, h => by
    rw [List.range'_succ, List.filter_cons]
    by_cases ha : a ∈ L
    · rw [if_pos (by simpa using ha)]
      cases L with
      | nil => simp at ha
      | cons p L =>
        have hp : a = p := by
          rcases List.mem_cons.1 ha with h1 | h1
          · exact h1
          · have h2 := (List.pairwise_cons.1 hs).1 a h1
            have h3 := (h p (by simp)).1
            omega
        subst hp
        have h2 := List.pairwise_cons.1 hs
        congr 1
        have hc : (List.range' (a + 1) n).filter (fun p => decide (p ∈ a :: L)) = (List.range' (a + 1) n).filter (fun p => decide (p ∈ L)) := by
          apply List.filter_congr
          intro q hq
          rw [List.mem_range'_1] at hq
          apply decide_eq_decide.2
          rw [List.mem_cons]
          constructor
          · rintro (h | h)
            · omega
            · exact h
          · exact .inr
        rw [hc]
        exact filter_sorted n (a + 1) L h2.2 (fun q hq => ⟨h2.1 q hq, by have := (h q (by simp [hq])).2; omega⟩)
    · rw [if_neg (by simpa using ha)]
      exact filter_sorted n (a + 1) L hs (fun q hq => ⟨by have := (h q hq).1; have : a ≠ q := fun e => ha (e ▸ hq); omega, by have := (h q hq).2; omega⟩)
theorem slist_sof (L : List Nat) (hs : L.Pairwise (· < ·)) (h : ∀ p, p ∈ L → p < 64) : slist (sof (L.map Int.ofNat)) = L := by
  have e : slist (sof (L.map Int.ofNat)) = (List.range' 0 64).filter (fun p => decide (p ∈ L)) := by
    unfold slist
    rw [List.range_eq_range']
    apply List.filter_congr
    intro p hp
    rw [List.mem_range'_1] at hp
    rw [tb_of _ _ (by omega)]
    apply decide_eq_decide.2
    rw [List.mem_map]
    constructor
    · rintro ⟨q, hq, h⟩
      have h : (q : Int) = p := h
      obtain rfl : q = p := by omega
      exact hq
    · intro h
      exact ⟨p, h, rfl⟩
  rw [e]
  exact filter_sorted 64 0 L hs (fun p hp => ⟨Nat.zero_le _, by have := h p hp; omega⟩)
theorem thoseL_sub (claims : List Itm) (p : Itm → Bool) : ∀ (l : List Nat) , (thoseL l claims p).Sublist l := by
  intro l
  unfold thoseL
  induction l generalizing claims with
  | nil => simp
  | cons a l ih =>
    cases claims with
    | nil => simp
    | cons c claims =>
      rw [List.zip_cons_cons, List.filterMap_cons]
      cases p c <;> simp [ih]
theorem slist_those (s : Nat) (claims : List Itm) (p : Itm → Bool) : slist (sthose s claims p) = thoseL (slist s) claims p := by
  unfold sthose
  refine slist_sof _ ((slist_rises s).sublist (thoseL_sub claims p _)) (fun q hq => ?_)
  exact (mem_slist.1 ((thoseL_sub claims p _).subset hq)).1
def stfirst (l : List Nat) : Nat := match l with
  | [] => 0
  | p :: _ => 2 ^ p
theorem first_min (s : Nat) (claims : List Itm) (p : Itm → Bool) : sof [smin (sthose s claims p)] = stfirst (thoseL (slist s) claims p) := by
  unfold smin
  rw [slist_those]
  cases h : thoseL (slist s) claims p with
  | nil => decide
  | cons q L =>
    have hq : q < 64 := (mem_slist.1 ((thoseL_sub claims p _).subset (by rw [h]; simp))).1
    show swith 0 [(q : Int)] = 2 ^ q
    unfold swith sany sbit
    simp [show (q : Int) < 64 by omega]
theorem thoseL_prefix (claims : List Itm) (p : Itm → Bool) (l : List Nat) (k : Nat) : thoseL (l.take k) claims p <+: thoseL l claims p := by
  unfold thoseL
  have h1 : (l.take k).zip claims <+: l.zip claims := by
    induction l generalizing k claims with
    | nil => simp
    | cons a l ih =>
      cases k with
      | zero => simp
      | succ k =>
        cases claims with
        | nil => simp
        | cons c claims =>
          rw [List.take_succ_cons, List.zip_cons_cons, List.zip_cons_cons]
          exact List.cons_prefix_cons.2 ⟨rfl, ih _ _⟩
  exact h1.filterMap _
theorem sof_zero (l : List Nat) (h : ∀ p, p ∈ l → p < 64) : sof (l.map Int.ofNat) = 0 ↔ l = [] := by
  constructor
  · intro h0
    cases l with
    | nil => rfl
    | cons p l =>
      have := tb_of ((p :: l).map Int.ofNat) p (h p (by simp))
      rw [h0, Nat.zero_testBit] at this
      have hm : (p : Int) ∈ (p :: l).map Int.ofNat := by simp
      rw [decide_eq_true hm] at this
      cases this
  · rintro rfl
    decide
end Go.Proofs.YtheeclmpkddgjaaDoor
