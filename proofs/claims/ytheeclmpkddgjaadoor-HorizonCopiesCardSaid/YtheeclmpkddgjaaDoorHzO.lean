import Derived.Test.YtheeclmpkddgjaaDoorHzM
namespace Go.Proofs.YtheeclmpkddgjaaDoor
set_option linter.unusedVariables false
set_option linter.unusedSimpArgs false
/-! where more must be heard of -/
structure More (H G : Hz) (x : Nat) : Prop where
  sub : ∀ p, p < 64 → H.others.testBit p = true → G.others.testBit p = true
  out : ∀ p, p < 64 → G.others.testBit p = true → H.others.testBit p = true ∨ x.testBit p = true
  clock : G.clock = H.clock
  marks : ∀ p, p < 64 → H.others.testBit p = true → G.l p = H.l p
theorem le_fold (f : Nat → Nat) (l : List Nat) (c d : Nat) (hc : d ≤ c) (h : ∀ p, p ∈ l → d ≤ f p) : d ≤ l.foldl (fun a p => min a (f p)) c := by
  induction l generalizing c with
  | nil => exact hc
  | cons x l ih =>
    rw [List.foldl_cons]
    exact ih _ (by have := h x (by simp); omega) (fun p hp => h p (by simp [hp]))
theorem fold_le_mem (f : Nat → Nat) (l : List Nat) (c : Nat) (p : Nat) (hp : p ∈ l) : l.foldl (fun a p => min a (f p)) c ≤ f p := by
  induction l generalizing c with
  | nil => cases hp
  | cons x l ih =>
    rw [List.foldl_cons]
    rcases List.mem_cons.1 hp with rfl | hp
    · exact Nat.le_trans (fold_le f l _) (Nat.min_le_right _ _)
    · exact ih _ hp
theorem More.all {H G : Hz} {x : Nat} (h : More H G x) : G.all ≤ H.all := by
  refine le_fold _ _ _ _ (by rw [← h.clock]; exact all_le G) (fun p hp => ?_)
  obtain ⟨hp, hb⟩ := mem_slist.1 hp
  rw [← h.marks p hp hb]
  exact fold_le_mem _ _ _ p (mem_slist.2 ⟨hp, h.sub p hp hb⟩)
theorem More.safe {H G : Hz} {x : Nat} (h : More H G x) : G.safe ≤ H.safe := by
  refine le_fold _ _ _ _ (Nat.le_trans (safe_le G) h.all) (fun p hp => ?_)
  obtain ⟨hp, hb⟩ := mem_slist.1 hp
  rw [← h.marks p hp hb]
  exact fold_le_mem _ _ _ p (mem_slist.2 ⟨hp, h.sub p hp hb⟩)
theorem More.up {H G S T : Hz} {x : Nat} (h : More H G x) (hS : S.others = H.others) (hT : T.others = G.others) (hc : T.clock = S.clock) (hSl : ∀ q, S.l q = H.l q) (hTl : ∀ q, T.l q = G.l q) (p : Nat) {m m' : Mk} (hm : m' = m) : More (S.up p m) (T.up p m') x := by
  subst hm
  refine ⟨fun q hq hb => ?_, fun q hq hb => ?_, hc, fun q hq hb => ?_⟩
  · rw [up_others, hT]; rw [up_others, hS] at hb; exact h.sub q hq hb
  · rw [up_others, hS]; rw [up_others, hT] at hb; exact h.out q hq hb
  · rw [up_others, hS] at hb
    by_cases e : q = p
    · subst e; rw [Hz.up_same, Hz.up_same]
    · rw [Hz.up_other _ _ e, Hz.up_other _ _ e, hSl, hTl]; exact h.marks q hq hb
theorem More.has {H G : Hz} {x : Nat} (h : More H G x) {p : Int} (hx : shas x p = false) : shas G.others p = shas H.others p := by
  by_cases hr : 0 ≤ p ∧ p < 64
  · obtain ⟨q, rfl⟩ : ∃ q : Nat, p = (q : Int) := ⟨p.toNat, by omega⟩
    have hq : q < 64 := by omega
    rw [shas_nat _ _ hq] at hx ⊢
    rw [shas_nat _ _ hq]
    cases h1 : H.others.testBit q
    · cases h2 : G.others.testBit q
      · rfl
      · rcases h.out q hq h2 with h3 | h3
        · rw [h1] at h3; cases h3
        · rw [hx] at h3; cases h3
    · exact h.sub q hq h1
  · have e : ∀ s, shas s p = false := fun s => by unfold shas; rw [decide_eq_false hr]; rfl
    rw [e, e]
theorem More.step {H G : Hz} {x : Nat} (h : More H G x) (a : Ac) (ha : a.kind < 3 → shas x a.p = false) : More (H.do a) (G.do a) x := by
  have hmark : ∀ p : Int, shas H.others p = true → G.l p.toNat = H.l p.toNat := fun p hp => by
    obtain ⟨q, rfl, hq⟩ := has_range hp
    rw [shas_nat _ _ hq] at hp
    exact h.marks q hq hp
  unfold Hz.do
  split
  · rename_i hk
    have hh := h.has (ha (by omega))
    unfold Hz.come
    rw [hh]
    by_cases hp : shas H.others a.p = true
    · rw [if_pos hp, if_pos hp]
      refine h.up (S := H.see a.stamp) (T := G.see a.stamp) rfl rfl ?_ (fun _ => rfl) (fun _ => rfl) _ ?_
      · show max G.clock a.stamp = max H.clock a.stamp
        rw [h.clock]
      · rw [hmark _ hp]
    · rw [if_neg hp, if_neg hp]
      exact h
  split
  · have hh := h.has (ha (by omega))
    unfold Hz.promise
    rw [hh]
    by_cases hp : shas H.others a.p = true
    · rw [if_pos hp, if_pos hp]
      refine h.up (S := H.see a.stamp) (T := G.see a.stamp) rfl rfl ?_ (fun _ => rfl) (fun _ => rfl) _ ?_
      · show max G.clock a.stamp = max H.clock a.stamp
        rw [h.clock]
      · rw [hmark _ hp]
    · rw [if_neg hp, if_neg hp]
      exact h
  split
  · have hh := h.has (ha (by omega))
    unfold Hz.reach
    rw [hh]
    by_cases hp : shas H.others a.p = true
    · rw [if_pos hp, if_pos hp]
      refine h.up (S := H) (T := G) rfl rfl h.clock (fun _ => rfl) (fun _ => rfl) _ ?_
      rw [hmark _ hp]
    · rw [if_neg hp, if_neg hp]
      exact h
  split
  · exact ⟨h.sub, h.out, by show inc1 G.clock = inc1 H.clock; rw [h.clock], h.marks⟩
  split
  · exact ⟨h.sub, h.out, by show max G.clock a.stamp = max H.clock a.stamp; rw [h.clock], h.marks⟩
  · exact h
theorem more_new {s t : Nat} (hs : S64 s) (ht : S64 t) (l : List Int) : More (Hz.new (sless s l)) (Hz.new (sless (sany s t) l)) (sbut t s) := by
  have hl : S64 (sof l) := S64.of l
  refine ⟨fun p hp hb => ?_, fun p hp hb => ?_, rfl, fun _ _ _ => rfl⟩
  · show (sbut (sany s t) (sof l)).testBit p = true
    have hb : (sbut s (sof l)).testBit p = true := hb
    rw [tb_but hl p hp] at hb ⊢
    rw [tb_any]
    cases h1 : s.testBit p <;> simp_all
  · show (sbut s (sof l)).testBit p = true ∨ (sbut t s).testBit p = true
    have hb : (sbut (sany s t) (sof l)).testBit p = true := hb
    rw [tb_but hl p hp, tb_any] at hb
    rw [tb_but hl p hp, tb_but hs p hp]
    cases h1 : s.testBit p <;> cases h2 : t.testBit p <;> simp_all
end Go.Proofs.YtheeclmpkddgjaaDoor
