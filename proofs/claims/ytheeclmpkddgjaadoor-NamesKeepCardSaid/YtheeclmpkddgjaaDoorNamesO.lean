import Derived.Test.YtheeclmpkddgjaaDoorNamesM
import Derived.Test.YtheeclmpkddgjaaDoorPureD
namespace Go.Proofs.YtheeclmpkddgjaaDoor
set_option linter.unusedVariables false
set_option linter.unusedSimpArgs false
open Go.RowKit
/-! whoever stays: what is known of its claim -/
theorem thoseL_cons (a : Nat) (l : List Nat) (c : Itm) (cs : List Itm) (p : Itm → Bool) : thoseL (a :: l) (c :: cs) p = (if p c then [a] else []) ++ thoseL l cs p := by
  unfold thoseL
  rw [List.zip_cons_cons, List.filterMap_cons]
  cases hp : p c <;> simp [hp]
theorem mem_those (claims : List Itm) (p : Itm → Bool) : ∀ (l : List Nat) (cl : List Itm) (k : Nat) (_ : l.Pairwise (· < ·)) (hk : k < l.length), l[k] ∈ thoseL l cl p ↔ ∃ x, cl[k]? = some x ∧ p x = true := by
  intro l
  induction l with
  | nil => intro cl k _ hk; simp at hk
  | cons a l ih =>
    intro cl k hp hk
    obtain ⟨h1, h2⟩ := List.pairwise_cons.1 hp
    cases cl with
    | nil => simp [thoseL]
    | cons c cl =>
      rw [thoseL_cons]
      cases k with
      | zero =>
        have hno : a ∉ thoseL l cl p := fun h => Nat.lt_irrefl a (h1 a ((thoseL_sub cl p l).subset h))
        cases hc : p c <;> simp [hc, hno]
      | succ k =>
        have hlt : a < l[k]'(by simpa using hk) := h1 _ (List.getElem_mem _)
        rw [List.getElem_cons_succ, List.mem_append, ih cl k h2 (by simpa using hk), List.getElem?_cons_succ]
        constructor
        · rintro (h | h)
          · split at h
            · rw [List.mem_singleton] at h; omega
            · cases h
          · exact h
        · exact Or.inr
theorem slist_first (a : Nat) (t : List Nat) (ha : a < 64) : slist (stfirst (a :: t)) = [a] := by
  have e : stfirst (a :: t) = sof ([a].map Int.ofNat) := by
    show 2 ^ a = swith 0 [(a : Int)]
    unfold swith sany sbit
    simp [show (a : Int) < 64 by omega]
  rw [e]
  exact slist_sof [a] (List.pairwise_singleton _ _) (fun p hp => by rw [List.mem_singleton] at hp; subst hp; exact ha)
theorem stay_list (n s : Nat) (claims : List Itm) : (thoseL (slist s) claims (fun x => ihold n x && x.direct) = [] ∧ sstay n s claims = stfirst (thoseL (slist s) claims (ihold n))) ∨
    (thoseL (slist s) claims (fun x => ihold n x && x.direct) ≠ [] ∧ slist (sstay n s claims) = thoseL (slist s) claims (fun x => ihold n x && x.direct) ∧ sstay n s claims ≠ 0) := by
  have hlt : ∀ p, p ∈ thoseL (slist s) claims (fun x => ihold n x && x.direct) → p < 64 := fun p hp => (mem_slist.1 ((thoseL_sub claims _ (slist s)).subset hp)).1
  by_cases h : sthose s claims (fun x => ihold n x && x.direct) = 0
  · refine .inl ⟨?_, ?_⟩
    · exact (sof_zero _ hlt).1 h
    · unfold sstay
      rw [if_pos h, first_min]
  · have e : sstay n s claims = sthose s claims (fun x => ihold n x && x.direct) := by unfold sstay; rw [if_neg h]
    refine .inr ⟨fun h2 => h ?_, ?_, ?_⟩
    · unfold sthose; rw [h2]; rfl
    · rw [e, slist_those]
    · rw [e]; exact h
theorem stay_member {n s : Nat} {claims : List Itm} {k : Nat} (hk : k < (slist s).length) (h : shas (sstay n s claims) ((slist s)[k] : Nat) = true) :
    ∃ x, claims[k]? = some x ∧ ihold n x = true ∧ (1 < ssize (sstay n s claims) → x.direct = true) := by
  have hq : (slist s)[k] < 64 := (mem_slist.1 (List.getElem_mem hk)).1
  have hm : (slist s)[k] ∈ slist (sstay n s claims) := mem_slist.2 ⟨hq, by rw [← shas_nat _ _ hq]; exact h⟩
  rcases stay_list n s claims with ⟨h0, e⟩ | ⟨_, e, _⟩
  · rw [e] at hm
    have hl : ∀ a, a ∈ thoseL (slist s) claims (ihold n) → a < 64 := fun p hp => (mem_slist.1 ((thoseL_sub claims _ (slist s)).subset hp)).1
    cases hc : thoseL (slist s) claims (ihold n) with
    | nil =>
      rw [hc] at hm
      have : slist (stfirst []) = [] := (slist_nil S64.zero).2 rfl
      rw [this] at hm
      cases hm
    | cons a t =>
      have hs : slist (stfirst (a :: t)) = [a] := slist_first a t (hl _ (by rw [hc]; simp))
      rw [hc, hs, List.mem_singleton] at hm
      have hm2 : (slist s)[k] ∈ thoseL (slist s) claims (ihold n) := by rw [hc, hm]; simp
      obtain ⟨x, hx, hp⟩ := (mem_those claims (ihold n) (slist s) claims k (slist_rises s) hk).1 hm2
      refine ⟨x, hx, hp, fun h1 => ?_⟩
      have : ssize (sstay n s claims) = 1 := by unfold ssize; rw [e, hc, hs]; rfl
      omega
  · rw [e] at hm
    obtain ⟨x, hx, hp⟩ := (mem_those claims _ (slist s) claims k (slist_rises s) hk).1 hm
    rw [Bool.and_eq_true] at hp
    exact ⟨x, hx, hp.1, fun _ => hp.2⟩
theorem stay_claim {n s : Nat} {claims : List Itm} {k : Nat} (hk : k < (slist s).length) {x : Itm} (hx : claims[k]? = some x) (hh : ihold n x = true) :
    (x.direct = true → shas (sstay n s claims) ((slist s)[k] : Nat) = true) ∧ sstay n s claims ≠ 0 := by
  have hq : (slist s)[k] < 64 := (mem_slist.1 (List.getElem_mem hk)).1
  have hmem := (mem_those claims (ihold n) (slist s) claims k (slist_rises s) hk).2 ⟨x, hx, hh⟩
  rcases stay_list n s claims with ⟨h0, e⟩ | ⟨_, e, hne⟩
  · refine ⟨fun hd => ?_, fun hz => ?_⟩
    · have := (mem_those claims (fun x => ihold n x && x.direct) (slist s) claims k (slist_rises s) hk).2 ⟨x, hx, by simp [hh, hd]⟩
      rw [h0] at this
      cases this
    · rw [e] at hz
      cases hc : thoseL (slist s) claims (ihold n) with
      | nil => rw [hc] at hmem; cases hmem
      | cons a t =>
        rw [hc] at hz
        have ha : a < 64 := (mem_slist.1 ((thoseL_sub claims _ (slist s)).subset (by rw [hc]; simp))).1
        have : 0 < 2 ^ a := Nat.pow_pos (by decide)
        have hz : 2 ^ a = 0 := hz
        omega
  · refine ⟨fun hd => ?_, hne⟩
    rw [shas_nat _ _ hq]
    refine (mem_slist.1 ?_).2
    rw [e]
    exact (mem_those claims _ (slist s) claims k (slist_rises s) hk).2 ⟨x, hx, by simp [hh, hd]⟩
theorem stay_in {n s : Nat} (hs : S64 s) (claims : List Itm) : sin (sstay n s claims) s = true := by
  refine (sin_iff (S64.stay _ _ _) hs).2 fun p hp hb => ?_
  have hm : p ∈ slist (sstay n s claims) := mem_slist.2 ⟨hp, hb⟩
  rcases stay_list n s claims with ⟨_, e⟩ | ⟨_, e, _⟩
  · cases hc : thoseL (slist s) claims (ihold n) with
    | nil =>
      rw [e, hc] at hm
      have : slist (stfirst []) = [] := (slist_nil S64.zero).2 rfl
      rw [this] at hm
      cases hm
    | cons a t =>
      have ha := (thoseL_sub claims (ihold n) (slist s)).subset (show a ∈ _ by rw [hc]; simp)
      have hs' : slist (stfirst (a :: t)) = [a] := slist_first a t (mem_slist.1 ha).1
      rw [e, hc, hs', List.mem_singleton] at hm
      subst hm
      exact (mem_slist.1 ha).2
  · rw [e] at hm
    exact (mem_slist.1 ((thoseL_sub claims _ (slist s)).subset hm)).2
theorem but_join {s t : Nat} (hs : S64 s) (ht : S64 t) (h : sin t s = true) : sany (sbut s t) t = s :=
  S64.ext (hs.but.any ht) hs fun p hp => by
    have := (sin_iff ht hs).1 h p hp
    rw [tb_any, tb_but ht p hp]
    cases h1 : s.testBit p <;> cases h2 : t.testBit p <;> simp_all
theorem but_both {s t : Nat} (hs : S64 s) (ht : S64 t) : sboth (sbut s t) t = 0 :=
  S64.ext hs.but.both S64.zero fun p hp => by
    rw [tb_both, tb_but ht p hp]
    simp
theorem namesL_get {st : Nat} {claims : List Itm} {sure : Bool} {l : List Nat} {k : Nat} (hk : k < l.length) : (namesL st claims sure l)[k]'(by rw [namesL_length]; exact hk) = ⟨(l[k] : Int), bump st sure l[k] (incAt claims k)⟩ := by
  simp [namesL]
theorem ofName_names {st : Nat} {claims : List Itm} {sure : Bool} {l : List Nat} (hl : l.Pairwise (· < ·)) {k : Nat} (hk : k < l.length) :
    ofName (namesL st claims sure l) (l[k] : Nat) = (⟨(l[k] : Int), bump st sure l[k] (incAt claims k)⟩, true) := by
  have hk' : k < (namesL st claims sure l).length := by rw [namesL_length]; exact hk
  rw [ofName_hit (k := k) hk' (by rw [namesL_get hk]) (fun j hj => ?_), namesL_get hk]
  have hj' : j < l.length := by omega
  rw [namesL_get hj']
  have := List.pairwise_iff_getElem.1 hl j k hj' hk hj
  show (l[j] : Int) ≠ (l[k] : Int)
  omega
end Go.Proofs.YtheeclmpkddgjaaDoor
