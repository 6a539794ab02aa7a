import Derived.Test.YtheeclmpkddgjaaDoorHzL
namespace Go.Proofs.YtheeclmpkddgjaaDoor
set_option linter.unusedVariables false
set_option linter.unusedSimpArgs false
/-! no mark falls -/
structure Rise (H K : Hz) : Prop where
  others : K.others = H.others
  clock : H.clock ≤ K.clock
  heard : ∀ q, q < 64 → (H.l q).heard ≤ (K.l q).heard
  reached : ∀ q, q < 64 → (H.l q).reached ≤ (K.l q).reached
theorem take1_heard (m : Mk) (x : Pr) : m.heard ≤ (m.take1 x).heard := by unfold Mk.take1; split <;> simp <;> omega
theorem takes_heard (m : Mk) (l : List Pr) : m.heard ≤ (m.takes l).heard := by
  unfold Mk.takes
  induction l generalizing m with
  | nil => exact Nat.le_refl _
  | cons x l ih => rw [List.foldl_cons]; exact Nat.le_trans (take1_heard m x) (ih _)
theorem takes_reached (m : Mk) (l : List Pr) : (m.takes l).reached = m.reached := by
  unfold Mk.takes
  induction l generalizing m with
  | nil => rfl
  | cons x l ih => rw [List.foldl_cons, ih, Mk.take1_reached]
theorem count_heard (m : Mk) : m.heard ≤ m.count.heard := takes_heard m _
theorem count_reached (m : Mk) : m.count.reached = m.reached := takes_reached m _
theorem inc1_ge (a : Nat) : a ≤ inc1 a := by unfold inc1; split <;> omega
theorem Rise.refl (H : Hz) : Rise H H := ⟨rfl, Nat.le_refl _, fun _ _ => Nat.le_refl _, fun _ _ => Nat.le_refl _⟩
theorem rise_up (H S : Hz) (p : Nat) (m : Mk) (ho : S.others = H.others) (hc : H.clock ≤ S.clock) (hS : ∀ q, S.l q = H.l q) (h1 : (H.l p).heard ≤ m.heard) (h2 : (H.l p).reached ≤ m.reached) : Rise H (S.up p m) := by
  refine ⟨ho, hc, fun q _ => ?_, fun q _ => ?_⟩
  all_goals by_cases e : q = p
  · subst e; rw [Hz.up_same]; exact h1
  · rw [Hz.up_other _ _ e, hS]; exact Nat.le_refl _
  · subst e; rw [Hz.up_same]; exact h2
  · rw [Hz.up_other _ _ e, hS]; exact Nat.le_refl _
theorem do_rise (H : Hz) (a : Ac) : Rise H (H.do a) := by
  unfold Hz.do
  split
  · unfold Hz.come
    split
    · refine rise_up _ _ _ _ rfl (Nat.le_max_left _ _) (fun _ => rfl) (Nat.le_trans (Nat.le_max_left (H.l a.p.toNat).heard a.stamp) (count_heard { H.l a.p.toNat with came := a.seq, heard := max (H.l a.p.toNat).heard a.stamp })) ?_
      rw [count_reached]; exact Nat.le_refl _
    · exact Rise.refl H
  split
  · unfold Hz.promise
    split
    · refine rise_up _ _ _ _ rfl (Nat.le_max_left _ _) (fun _ => rfl) (count_heard { H.l a.p.toNat with waits := (H.l a.p.toNat).waits ++ [⟨a.stamp, a.seq⟩] }) ?_
      rw [count_reached]; exact Nat.le_refl _
    · exact Rise.refl H
  split
  · unfold Hz.reach
    split
    · exact rise_up _ _ _ _ rfl (Nat.le_refl _) (fun _ => rfl) (Nat.le_refl _) (Nat.le_max_left _ _)
    · exact Rise.refl H
  split
  · exact ⟨rfl, inc1_ge _, fun _ _ => Nat.le_refl _, fun _ _ => Nat.le_refl _⟩
  split
  · exact ⟨rfl, Nat.le_max_left _ _, fun _ _ => Nat.le_refl _, fun _ _ => Nat.le_refl _⟩
  · exact Rise.refl H
theorem fold_le (f : Nat → Nat) (l : List Nat) (c : Nat) : l.foldl (fun a p => min a (f p)) c ≤ c := by
  induction l generalizing c with
  | nil => exact Nat.le_refl _
  | cons x l ih => rw [List.foldl_cons]; exact Nat.le_trans (ih _) (Nat.min_le_left _ _)
theorem fold_mono (f g : Nat → Nat) (l : List Nat) (h : ∀ p, p ∈ l → f p ≤ g p) (c d : Nat) (hc : c ≤ d) : l.foldl (fun a p => min a (f p)) c ≤ l.foldl (fun a p => min a (g p)) d := by
  induction l generalizing c d with
  | nil => exact hc
  | cons x l ih =>
    rw [List.foldl_cons, List.foldl_cons]
    refine ih (fun p hp => h p (by simp [hp])) _ _ ?_
    have := h x (by simp)
    omega
theorem all_le (H : Hz) : H.all ≤ H.clock := fold_le _ _ _
theorem safe_le (H : Hz) : H.safe ≤ H.all := fold_le _ _ _
theorem all_rise {H K : Hz} (h : Rise H K) : H.all ≤ K.all := by
  unfold Hz.all lowH
  rw [h.others]
  exact fold_mono _ _ _ (fun p hp => h.heard p (mem_slist.1 hp).1) _ _ h.clock
theorem safe_rise {H K : Hz} (h : Rise H K) : H.safe ≤ K.safe := by
  unfold Hz.safe lowR
  rw [h.others]
  exact fold_mono _ _ _ (fun p hp => h.reached p (mem_slist.1 hp).1) _ _ (all_rise h)
theorem all_none {H : Hz} (h : H.others = 0) : H.all = H.clock := by
  unfold Hz.all lowH
  rw [h, (slist_nil S64.zero).2 rfl]
  rfl
theorem safe_none {H : Hz} (h : H.others = 0) : H.safe = H.clock := by
  unfold Hz.safe lowR
  rw [h, (slist_nil S64.zero).2 rfl]
  exact all_none h
theorem ans_up (H : Hz) (a : Ac) (hk : a.kind = 3) (hc : H.clock < 18446744073709551615) : H.clock < H.ans a := by
  unfold Hz.ans
  rw [if_pos hk]
  show H.clock < inc1 H.clock
  unfold inc1
  rw [if_pos hc]
  omega
end Go.Proofs.YtheeclmpkddgjaaDoor
