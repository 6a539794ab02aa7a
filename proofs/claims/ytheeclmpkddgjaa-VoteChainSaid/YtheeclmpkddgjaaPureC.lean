import Derived.Test.YtheeclmpkddgjaaPureB
namespace Go.Proofs.Ytheeclmpkddgjaa
set_option linter.unusedVariables false
set_option linter.unusedSimpArgs false
/-! sizes of sets -/
def cnt (f : Nat → Bool) : Nat := ((List.range 64).filter f).length
theorem cnt_size (s : Nat) : ssize s = cnt fun p => s.testBit p := rfl
theorem filter_or_and (f g : Nat → Bool) (l : List Nat) : (l.filter fun p => f p || g p).length + (l.filter fun p => f p && g p).length = (l.filter f).length + (l.filter g).length := by
  induction l with
  | nil => rfl
  | cons p l ih =>
    simp only [List.filter_cons]
    cases f p <;> cases g p <;> simp <;> omega
theorem filter_and_not (f g : Nat → Bool) (l : List Nat) : (l.filter fun p => f p && g p).length + (l.filter fun p => f p && !g p).length = (l.filter f).length := by
  induction l with
  | nil => rfl
  | cons p l ih =>
    simp only [List.filter_cons]
    cases f p <;> cases g p <;> simp <;> omega
theorem filter_sub (f g : Nat → Bool) (l : List Nat) (h : ∀ p, p ∈ l → f p = true → g p = true) : (l.filter f).length ≤ (l.filter g).length := by
  induction l with
  | nil => exact Nat.le_refl _
  | cons p l ih =>
    have ih := ih (fun q hq => h q (by simp [hq]))
    have hp := h p (by simp)
    simp only [List.filter_cons]
    cases hf : f p
    · cases g p <;> simp <;> omega
    · rw [hp hf]; simp; omega
theorem cnt_congr {f g : Nat → Bool} (h : ∀ p, p < 64 → f p = g p) : cnt f = cnt g := by
  unfold cnt
  rw [List.filter_congr (fun p hp => h p (List.mem_range.1 hp))]
theorem size_both (s t : Nat) : ssize (sboth s t) = cnt fun p => s.testBit p && t.testBit p := cnt_congr fun p _ => tb_both s t p
theorem size_any_both (s t : Nat) : ssize (sany s t) + ssize (sboth s t) = ssize s + ssize t := by
  rw [size_both, show ssize (sany s t) = cnt fun p => s.testBit p || t.testBit p from cnt_congr fun p _ => tb_any s t p]
  exact filter_or_and _ _ _
theorem size_but {s t : Nat} (ht : S64 t) : ssize (sboth s t) + ssize (sbut s t) = ssize s := by
  rw [size_both, show ssize (sbut s t) = cnt fun p => s.testBit p && !t.testBit p from cnt_congr fun p hp => tb_but ht p hp]
  exact filter_and_not _ _ _
theorem size_mono {s t : Nat} (h : ∀ p, p < 64 → s.testBit p = true → t.testBit p = true) : ssize s ≤ ssize t :=
  filter_sub _ _ _ fun p hp => h p (List.mem_range.1 hp)
theorem both_both_tb (s t u p : Nat) : (sboth (sboth s t) u).testBit p = (s.testBit p && t.testBit p && u.testBit p) := by rw [tb_both, tb_both]
theorem size_congr {s t : Nat} (h : ∀ p, p < 64 → s.testBit p = t.testBit p) : ssize s = ssize t := cnt_congr h
/-! the plain laws -/
theorem most_meet {s t u : Nat} (hs : smost s u = true) (ht : smost t u = true) : 1 ≤ ssize (sboth (sboth s t) u) := by
  have hs : ssize u < 2 * ssize (sboth s u) := of_decide_eq_true hs
  have ht : ssize u < 2 * ssize (sboth t u) := of_decide_eq_true ht
  have h1 := size_any_both (sboth s u) (sboth t u)
  have h2 : ssize (sany (sboth s u) (sboth t u)) ≤ ssize u := size_mono fun p _ hp => by
    rw [tb_any, tb_both, tb_both] at hp
    cases hu : u.testBit p
    · rw [hu] at hp; simp at hp
    · rfl
  have h3 : ssize (sboth (sboth s u) (sboth t u)) = ssize (sboth (sboth s t) u) := size_congr fun p _ => by
    rw [tb_both, tb_both, tb_both, both_both_tb]
    cases s.testBit p <;> cases t.testBit p <;> cases u.testBit p <;> rfl
  omega
theorem most_more {s t u : Nat} (hs : smost s u = true) : smost (sany s t) u = true := by
  have hs : ssize u < 2 * ssize (sboth s u) := of_decide_eq_true hs
  have h : ssize (sboth s u) ≤ ssize (sboth (sany s t) u) := size_mono fun p _ hp => by
    rw [tb_both] at hp
    rw [tb_both, tb_any]
    cases hb : s.testBit p
    · rw [hb] at hp; simp at hp
    · rw [hb] at hp; simpa using hp
  exact decide_eq_true (by omega)
theorem most_part {s u : Nat} (hs64 : S64 s) (hs : smost s u = true) : smost (sbut u s) u = false := by
  have hs : ssize u < 2 * ssize (sboth s u) := of_decide_eq_true hs
  have h1 := size_but (s := u) hs64
  have h2 : ssize (sboth u s) = ssize (sboth s u) := size_congr fun p _ => by rw [tb_both, tb_both, Bool.and_comm]
  have h3 : ssize (sboth (sbut u s) u) = ssize (sbut u s) := size_congr fun p hp => by
    rw [tb_both, tb_but hs64 p hp]
    cases s.testBit p <;> cases u.testBit p <;> rfl
  exact decide_eq_false (by omega)
theorem most_self (u : Nat) : smost u u = decide (0 < ssize u) := by
  have h : ssize (sboth u u) = ssize u := size_congr fun p _ => by rw [tb_both, Bool.and_self]
  unfold smost
  rw [h]
  exact decide_eq_decide.2 (by omega)
theorem most_both (s u : Nat) : smost (sboth s u) u = smost s u := by
  have h : ssize (sboth (sboth s u) u) = ssize (sboth s u) := size_congr fun p _ => by
    rw [both_both_tb, tb_both, Bool.and_assoc, Bool.and_self]
  unfold smost
  rw [h]
theorem parts_any {s t : Nat} (hs : S64 s) (ht : S64 t) : sany (sboth s t) (sbut s t) = s :=
  S64.ext (hs.both.any hs.but) hs fun p hp => by
    rw [tb_any, tb_both, tb_but ht p hp]
    cases s.testBit p <;> cases t.testBit p <;> rfl
theorem parts_both {s t : Nat} (hs : S64 s) (ht : S64 t) : sboth (sboth s t) (sbut s t) = 0 :=
  S64.ext hs.both.both S64.zero fun p hp => by
    rw [tb_both, tb_both, tb_but ht p hp, Nat.zero_testBit]
    cases s.testBit p <;> cases t.testBit p <;> rfl
theorem sin_of_both {s t : Nat} (hs : S64 s) : sin (sboth s t) s = true := (sin_iff hs.both hs).2 fun p _ h => by
  rw [tb_both] at h
  cases hb : s.testBit p
  · rw [hb] at h; simp at h
  · rfl
theorem sin_of_both' {s t : Nat} (hs : S64 s) (ht : S64 t) : sin (sboth s t) t = true := (sin_iff hs.both ht).2 fun p _ h => by
  rw [tb_both] at h
  cases hb : t.testBit p
  · rw [hb] at h; simp at h
  · rfl
theorem sin_of_but {s t : Nat} (hs : S64 s) (ht : S64 t) : sin (sbut s t) s = true := (sin_iff hs.but hs).2 fun p hp h => by
  rw [tb_but ht p hp] at h
  cases hb : s.testBit p
  · rw [hb] at h; simp at h
  · rfl
theorem sin_of_any {s t : Nat} (hs : S64 s) (ht : S64 t) : sin s (sany s t) = true := (sin_iff hs (hs.any ht)).2 fun p _ h => by
  rw [tb_any, h]; rfl
theorem sin_both_eq {s t : Nat} (hs : S64 s) (ht : S64 t) : sin s t = (sboth s t == s) := by
  rw [Bool.eq_iff_iff, sin_iff hs ht, beq_iff_eq]
  constructor
  · intro h
    refine S64.ext hs.both hs fun p hp => ?_
    rw [tb_both]
    cases hb : s.testBit p
    · rfl
    · rw [h p hp hb]; rfl
  · intro h p _ hb
    have : (sboth s t).testBit p = true := by rw [h]; exact hb
    rw [tb_both, hb] at this
    simpa using this
theorem has_all (n : Int) (p : Nat) (hp : p < 64) : shas (sall n) p = decide ((p : Int) < max 0 (min n 64)) := by
  rw [shas_nat _ _ hp, tb_all n p hp]
  exact decide_eq_decide.2 (by omega)
theorem filter_lt (k : Nat) (hk : k ≤ 64) : ((List.range 64).filter fun p => decide (p < k)).length = k := by
  have : ∀ k, k ≤ 64 → ((List.range 64).filter fun p => decide (p < k)).length = k := by decide +kernel
  exact this k hk
theorem size_all (n : Int) : (ssize (sall n) : Int) = max 0 (min n 64) := by
  have h : ssize (sall n) = ((List.range 64).filter fun p => decide (p < (max 0 (min n 64)).toNat)).length := cnt_congr fun p hp => by
    rw [tb_all n p hp]; exact decide_eq_decide.2 (by omega)
  rw [h, filter_lt _ (by omega)]
  omega
theorem all_max (n : Int) : sall n = sall (max 0 (min n 64)) :=
  S64.ext (S64.all n) (S64.all _) fun p hp => by
    rw [tb_all _ _ hp, tb_all _ _ hp]; exact decide_eq_decide.2 (by omega)
theorem sin_all {n m : Int} (h : n ≤ m) : sin (sall n) (sall m) = true := (sin_iff (S64.all n) (S64.all m)).2 fun p hp hb => by
  rw [tb_all _ _ hp] at hb ⊢
  have := of_decide_eq_true hb
  exact decide_eq_true (by omega)
theorem all_but {k : Int} (h0 : 0 ≤ k) (h1 : k < 64) {n : Int} (hn : sall n = sall k) : sbut (sall (k + 1)) (sall n) = sof [k] := by
  rw [hn]
  refine S64.ext (S64.all _).but (S64.of _) fun p hp => ?_
  rw [tb_but (S64.all _) p hp, tb_all _ _ hp, tb_all _ _ hp, tb_of _ _ hp, Bool.eq_iff_iff]
  simp only [Bool.and_eq_true, Bool.not_eq_true', decide_eq_true_eq, decide_eq_false_iff_not, List.mem_cons, List.not_mem_nil, or_false]
  omega
/-! a set's list -/
theorem of_list {s : Nat} (hs : S64 s) : sof ((slist s).map Int.ofNat) = s :=
  S64.ext (S64.of _) hs fun p hp => by
    rw [tb_of _ _ hp, Bool.eq_iff_iff, decide_eq_true_eq, List.mem_map]
    constructor
    · rintro ⟨q, hq, h⟩
      have h : (q : Int) = p := h
      obtain rfl : q = p := by omega
      exact (mem_slist.1 hq).2
    · intro h
      exact ⟨p, mem_slist.2 ⟨hp, h⟩, rfl⟩
theorem slist_rises (s : Nat) : (slist s).Pairwise (· < ·) := List.Pairwise.filter _ List.pairwise_lt_range
theorem slist_lt {s i j : Nat} (hj : j < (slist s).length) (hi : i < j) : (slist s)[i] < (slist s)[j] := List.pairwise_iff_getElem.1 (slist_rises s) i j (by omega) hj hi
end Go.Proofs.Ytheeclmpkddgjaa
