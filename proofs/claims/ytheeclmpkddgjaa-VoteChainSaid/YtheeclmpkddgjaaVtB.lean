import Derived.Test.YtheeclmpkddgjaaVtA
namespace Go.Proofs.Ytheeclmpkddgjaa
set_option linter.unusedVariables false
set_option linter.unusedSimpArgs false
/-! the chain of views: what is computed, and why each has most of the one ahead -/
structure Rnd where
  members : Nat
  wrote : Nat
  form : Nat
structure Chn where
  recs : Nat → Rcd
  formed : List Vw
def F0 : Vw := ⟨0, 0, 0, 31⟩
def told (recs : Nat → Rcd) (m : Nat) : Nat → List Rcd
  | 0 => []
  | k + 1 => if m.testBit k then told recs m k ++ [recs k] else told recs m k
def tryv (recs : Nat → Rcd) (m i : Nat) : Vw := ⟨vnext (told recs m 5), i + 1, 0, m⟩
/-- behind the loop in which members write, up to process k -/
def wrec (recs : Nat → Rcd) (m wrote : Nat) (v : Vw) (k : Nat) : Nat → Rcd := fun p => if p < k ∧ m.testBit p = true ∧ wrote.testBit p = true then vadd (recs p) v else recs p
def wall (recs : Nat → Rcd) (m wrote : Nat) (k : Nat) : Bool := (List.range k).all fun p => !m.testBit p || (wrote.testBit p && vok (recs p))
def frec (recs : Nat → Rcd) (m form : Nat) (v : Vw) (all : Bool) (k : Nat) : Nat → Rcd := fun p => if p < k ∧ all = true ∧ m.testBit p = true ∧ form.testBit p = true then vform (recs p) v else recs p
def fany (m form : Nat) (all : Bool) (k : Nat) : Bool := (List.range k).any fun p => all && m.testBit p && form.testBit p
def Chn.step (S : Chn) (i : Nat) (x : Rnd) : Chn :=
  let m := sboth x.members 31
  if vmay m (told S.recs m 5) then
    let v := tryv S.recs m i
    let all := wall S.recs m x.wrote 5
    ⟨frec (wrec S.recs m x.wrote v 5) m x.form v all 5, if fany m x.form all 5 then S.formed ++ [v] else S.formed⟩
  else S
def Chn.steps (S : Chn) (i : Nat) : List Rnd → Chn
  | [] => S
  | x :: l => (S.step i x).steps (i + 1) l
def Chn.new : Chn := ⟨fun _ => ⟨F0, []⟩, []⟩
def Chn.upto (l : List Rnd) (k : Nat) : Chn := (l.take k).zipIdx.foldl (fun S x => S.step x.2 x.1) Chn.new
theorem Chn.upto_succ (l : List Rnd) (k : Nat) (h : k < l.length) : Chn.upto l (k + 1) = (Chn.upto l k).step k l[k] := by
  unfold Chn.upto
  rw [List.take_succ_eq_append_getElem h, List.zipIdx_append, List.foldl_append]
  simp [Nat.min_eq_left (Nat.le_of_lt h)]
theorem mem_told {recs : Nat → Rcd} {m : Nat} : ∀ {k : Nat} {r : Rcd}, r ∈ told recs m k ↔ ∃ p, p < k ∧ m.testBit p = true ∧ r = recs p
  | 0, r => by simp [told]
  | k + 1, r => by
    unfold told
    by_cases h : m.testBit k = true
    · rw [if_pos h, List.mem_append, mem_told, List.mem_singleton]
      constructor
      · rintro (⟨p, h1, h2, h3⟩ | rfl)
        · exact ⟨p, by omega, h2, h3⟩
        · exact ⟨k, by omega, h, rfl⟩
      · rintro ⟨p, h1, h2, h3⟩
        by_cases e : p = k
        · subst e; exact .inr h3
        · exact .inl ⟨p, by omega, h2, h3⟩
    · rw [if_neg h, mem_told]
      constructor
      · rintro ⟨p, h1, h2, h3⟩
        exact ⟨p, by omega, h2, h3⟩
      · rintro ⟨p, h1, h2, h3⟩
        by_cases e : p = k
        · subst e; exact absurd h2 h
        · exact ⟨p, by omega, h2, h3⟩
def Next (a b : Vw) : Prop := a.number < b.number ∧ smost b.members a.members = true
inductive Chain : Vw → List Vw → Prop
  | nil (a) : Chain a []
  | cons {a b l} : Next a b → Chain b l → Chain a (b :: l)
def lastv : Vw → List Vw → Vw
  | a, [] => a
  | _, b :: l => lastv b l
theorem lastv_mem : ∀ (l : List Vw) (a : Vw), lastv a l ∈ a :: l
  | [], a => by simp [lastv]
  | b :: l, a => by
    have := lastv_mem l b
    unfold lastv
    exact List.mem_cons_of_mem _ this
theorem lastv_snoc : ∀ (l : List Vw) (a v : Vw), lastv a (l ++ [v]) = v
  | [], a, v => rfl
  | b :: l, a, v => lastv_snoc l b v
theorem Chain.ge {a : Vw} {l : List Vw} (h : Chain a l) : ∀ f, f ∈ a :: l → a.number ≤ f.number := by
  induction h with
  | nil a => intro f hf; obtain rfl : f = a := (by simpa using hf); exact Nat.le_refl _
  | cons h _ ih =>
    intro f hf
    rcases List.mem_cons.1 hf with rfl | hf
    · exact Nat.le_refl _
    · have := ih f hf; have := h.1; omega
theorem Chain.snoc {a : Vw} {l : List Vw} (h : Chain a l) {v : Vw} (hv : Next (lastv a l) v) : Chain a (l ++ [v]) := by
  induction h with
  | nil a => exact .cons hv (.nil _)
  | cons h _ ih => exact .cons h (ih hv)
/-- whoever has most of one in the chain has most of the last one, if it meets no later one without having most of it -/
theorem Chain.climb {a : Vw} {l : List Vw} (h : Chain a l) {m L : Nat} (hc : ∀ f, f ∈ a :: l → L < f.number → (∃ p, p < 64 ∧ m.testBit p = true ∧ f.members.testBit p = true) → smost m f.members = true) :
    ∀ f, f ∈ a :: l → f.number = L → smost m f.members = true → smost m (lastv a l).members = true := by
  have main : ∀ {a : Vw} {l : List Vw}, Chain a l → (∀ f, f ∈ a :: l → L < f.number → (∃ p, p < 64 ∧ m.testBit p = true ∧ f.members.testBit p = true) → smost m f.members = true) → L ≤ a.number → smost m a.members = true → smost m (lastv a l).members = true := by
    intro a l h
    induction h with
    | nil a => intro _ _ h; exact h
    | @cons a b l h _ ih =>
      intro hc ha hm
      refine ih (fun f hf => hc f (List.mem_cons_of_mem _ hf)) (by have := h.1; omega) ?_
      refine hc b (by simp) (by have := h.1; omega) ?_
      obtain ⟨p, hp, hb⟩ := ssize_pos (most_meet hm h.2)
      rw [tb_both, tb_both, Bool.and_eq_true, Bool.and_eq_true] at hb
      exact ⟨p, hp, hb.1.1, hb.1.2⟩
  induction h with
  | nil a => intro f hf hn hm; obtain rfl : f = a := (by simpa using hf); exact hm
  | @cons a b l h k ih =>
    intro f hf hn hm
    rcases List.mem_cons.1 hf with rfl | hf
    · exact main (.cons h k) hc (by omega) hm
    · exact ih (fun f hf => hc f (List.mem_cons_of_mem _ hf)) f hf hn hm
structure Chn.Inv (S : Chn) (i : Nat) : Prop where
  chain : Chain F0 S.formed
  last : ∀ p, p < 5 → (S.recs p).last ∈ F0 :: S.formed
  cover : ∀ f, f ∈ F0 :: S.formed → ∀ p, p < 5 → f.members.testBit p = true → f.number ≤ (S.recs p).last.number ∨ f ∈ (S.recs p).pend
  small : ∀ p, p < 5 → (S.recs p).last.number ≤ i ∧ ∀ v, v ∈ (S.recs p).pend → v.number ≤ i
theorem Chn.Inv.new : Chn.new.Inv 0 :=
  ⟨.nil _, fun p _ => List.mem_cons_self .., fun f hf p _ _ => by
    obtain rfl : f = F0 := by simpa [Chn.new] using hf
    exact .inl (Nat.le_refl _), fun p _ => ⟨Nat.le_refl _, fun v hv => by cases hv⟩⟩
theorem bits31 {x p : Nat} (h : (sboth x 31).testBit p = true) : p < 5 := by
  rw [tb_both, Bool.and_eq_true] at h
  have h := h.2
  by_cases hp : p < 5
  · exact hp
  · have : Nat.testBit 31 p = false := Nat.testBit_lt_two_pow (Nat.lt_of_lt_of_le (by decide : 31 < 2 ^ 5) (Nat.pow_le_pow_right (by decide) (by omega)))
    rw [this] at h
    cases h
theorem vadd_mem {r : Rcd} {v x : Vw} (h : x ∈ r.pend) : x ∈ (vadd r v).pend := by
  unfold vadd
  split
  · simp [h]
  · exact h
theorem vadd_sub {r : Rcd} {v x : Vw} (h : x ∈ (vadd r v).pend) : x ∈ r.pend ∨ x = v := by
  unfold vadd at h
  split at h
  · simpa using h
  · exact .inl h
theorem Chn.Inv.next {S : Chn} {i : Nat} (h : S.Inv i) (x : Rnd) (hi : i < 1000) (hm : vmay (sboth x.members 31) (told S.recs (sboth x.members 31) 5) = true) :
    Next (lastv F0 S.formed) (tryv S.recs (sboth x.members 31) i) ∧ (tryv S.recs (sboth x.members 31) i).number ≤ i + 1 := by
  have hb := @bits31 x.members
  generalize sboth x.members 31 = m at hm hb
  obtain ⟨h0, h1, h2⟩ := vmay_iff.1 hm
  obtain ⟨⟨r, hr, he⟩, hmax⟩ := vlast_spec h0
  obtain ⟨p0, hp0, hm0, rfl⟩ := mem_told.1 hr
  have hlast : smost m (lastv F0 S.formed).members = true := by
    refine h.chain.climb (m := m) (L := (vlast (told S.recs m 5)).number) ?_ (S.recs p0).last (h.last p0 hp0) (by rw [he]) (by rw [← he]; exact h1)
    rintro f hf hL ⟨p, _, hpm, hpf⟩
    have hp5 := hb hpm
    have hin : S.recs p ∈ told S.recs m 5 := mem_told.2 ⟨p, hp5, hpm, rfl⟩
    rcases h.cover f hf p hp5 hpf with k | k
    · have := hmax _ hin
      omega
    · exact h2 f (mem_vpend.2 ⟨⟨_, hin, k⟩, hL⟩)
  have hall : ∀ r, r ∈ told S.recs m 5 → r.last.number ≤ i ∧ ∀ v, v ∈ r.pend → v.number ≤ i := by
    intro r hr
    obtain ⟨p, hp, _, rfl⟩ := mem_told.1 hr
    exact h.small p hp
  have hle := vnext_le hall
  have hvm : vmax (told S.recs m 5) ≤ i := vmax_le _ 0 (Nat.zero_le _) hall
  refine ⟨⟨?_, hlast⟩, hle⟩
  have hmeet : 1 ≤ ssize (sboth (sboth m m) (lastv F0 S.formed).members) := most_meet hlast hlast
  obtain ⟨p, hp, hpb⟩ := ssize_pos hmeet
  rw [tb_both, tb_both, Bool.and_eq_true, Bool.and_eq_true] at hpb
  have hp5 := hb hpb.1.1
  have hin : S.recs p ∈ told S.recs m 5 := mem_told.2 ⟨p, hp5, hpb.1.1, rfl⟩
  obtain ⟨g1, g2⟩ := vnext_gt (by omega) (by omega) hin
  show (lastv F0 S.formed).number < vnext (told S.recs m 5)
  rcases h.cover _ (lastv_mem _ _) p hp5 hpb.2 with k | k
  · omega
  · exact g2 _ k
theorem Chn.Inv.step {S : Chn} {i : Nat} (h : S.Inv i) (x : Rnd) (hi : i < 1000) : (S.step i x).Inv (i + 1) := by
  unfold Chn.step
  by_cases hm : vmay (sboth x.members 31) (told S.recs (sboth x.members 31) 5) = true
  · obtain ⟨hn, hle⟩ := h.next x hi hm
    have hb := @bits31 x.members
    simp only [hm, if_true]
    generalize sboth x.members 31 = m at hn hle hb
    obtain ⟨v, hv⟩ : ∃ v, v = tryv S.recs m i := ⟨_, rfl⟩
    have hvm : v.members = m := by rw [hv]; rfl
    rw [← hv] at hn hle ⊢
    have hallI : wall S.recs m x.wrote 5 = true → ∀ p, p < 5 → m.testBit p = true → x.wrote.testBit p = true ∧ vok (S.recs p) = true := by
      intro h p hp hmp
      unfold wall at h
      rw [List.all_eq_true] at h
      have := h p (List.mem_range.2 hp)
      simpa [hmp] using this
    generalize wall S.recs m x.wrote 5 = all at hallI
    -- records in between
    have hw : ∀ p, p < 5 → (wrec S.recs m x.wrote v 5 p).last = (S.recs p).last ∧ (∀ f, f ∈ (S.recs p).pend → f ∈ (wrec S.recs m x.wrote v 5 p).pend) ∧ (∀ f, f ∈ (wrec S.recs m x.wrote v 5 p).pend → f ∈ (S.recs p).pend ∨ f = v) := by
      intro p hp
      unfold wrec
      split
      · exact ⟨vadd_last _ _, fun f hf => vadd_mem hf, fun f hf => vadd_sub hf⟩
      · exact ⟨rfl, fun f hf => hf, fun f hf => .inl hf⟩
    have hwv : all = true → ∀ p, p < 5 → m.testBit p = true → v ∈ (wrec S.recs m x.wrote v 5 p).pend := by
      intro ha p hp hmp
      obtain ⟨k1, k2⟩ := hallI ha p hp hmp
      unfold wrec
      rw [if_pos ⟨hp, hmp, k1⟩]
      unfold vadd
      rw [k2]
      simp
    generalize wrec S.recs m x.wrote v 5 = R at hw hwv
    have hF : ∀ f, f ∈ F0 :: S.formed → f.number < v.number := by
      intro f hf
      have : ∀ {a : Vw} {l : List Vw}, Chain a l → ∀ f, f ∈ a :: l → f.number ≤ (lastv a l).number := by
        intro a l hc
        induction hc with
        | nil a => intro f hf; obtain rfl : f = a := (by simpa using hf); exact Nat.le_refl _
        | @cons a b l h k ih =>
          intro f hf
          rcases List.mem_cons.1 hf with rfl | hf
          · have := ih b (by simp); have := h.1; unfold lastv; omega
          · exact ih f hf
      have := this h.chain f hf
      have := hn.1
      omega
    by_cases hany : fany m x.form all 5 = true
    · simp only [hany, if_true]
      have hfa : all = true := by
        unfold fany at hany
        rw [List.any_eq_true] at hany
        obtain ⟨p, _, hp⟩ := hany
        rw [Bool.and_eq_true, Bool.and_eq_true] at hp
        exact hp.1.1
      refine ⟨h.chain.snoc hn, fun p hp => ?_, fun f hf p hp hfp => ?_, fun p hp => ?_⟩
      · show (frec R m x.form v all 5 p).last ∈ _
        unfold frec
        split
        · show v ∈ _
          simp
        · rw [(hw p hp).1]
          have := h.last p hp
          rcases List.mem_cons.1 this with k | k
          · rw [k]; simp
          · exact List.mem_cons_of_mem _ (List.mem_append_left _ k)
      · show f.number ≤ (frec R m x.form v all 5 p).last.number ∨ f ∈ (frec R m x.form v all 5 p).pend
        have hf' : f ∈ F0 :: S.formed ∨ f = v := by
          rcases List.mem_cons.1 hf with k | k
          · exact .inl (by rw [k]; simp)
          · rcases List.mem_append.1 k with k | k
            · exact .inl (List.mem_cons_of_mem _ k)
            · exact .inr (by simpa using k)
        unfold frec
        split
        · left
          show f.number ≤ v.number
          rcases hf' with k | rfl
          · exact Nat.le_of_lt (hF f k)
          · exact Nat.le_refl _
        · rcases hf' with k | rfl
          · rw [(hw p hp).1]
            exact (h.cover f k p hp hfp).imp id (fun k => (hw p hp).2.1 f k)
          · right
            rw [hvm] at hfp
            exact hwv hfa p hp hfp
      · show (frec R m x.form v all 5 p).last.number ≤ i + 1 ∧ ∀ v', v' ∈ (frec R m x.form v all 5 p).pend → v'.number ≤ i + 1
        obtain ⟨s1, s2⟩ := h.small p hp
        have hR : ∀ f, f ∈ (R p).pend → f.number ≤ i + 1 := by
          intro f hf
          rcases (hw p hp).2.2 f hf with k | rfl
          · have := s2 f k; omega
          · exact hle
        unfold frec
        split
        · exact ⟨hle, fun f hf => hR f (List.mem_filter.1 hf).1⟩
        · rw [(hw p hp).1]
          exact ⟨by omega, hR⟩
    · have hany : fany m x.form all 5 = false := by simpa using hany
      simp only [hany]
      have hsame : ∀ p, p < 5 → frec R m x.form v all 5 p = R p := by
        intro p hp
        unfold frec
        split
        · rename_i hc
          unfold fany at hany
          rw [List.any_eq_false] at hany
          have := hany p (List.mem_range.2 hp)
          simp [hc.2.1, hc.2.2.1, hc.2.2.2] at this
        · rfl
      refine ⟨h.chain, fun p hp => ?_, fun f hf p hp hfp => ?_, fun p hp => ?_⟩
      · show (frec R m x.form v all 5 p).last ∈ _
        rw [hsame p hp, (hw p hp).1]
        exact h.last p hp
      · show f.number ≤ (frec R m x.form v all 5 p).last.number ∨ f ∈ (frec R m x.form v all 5 p).pend
        rw [hsame p hp, (hw p hp).1]
        exact (h.cover f hf p hp hfp).imp id (fun k => (hw p hp).2.1 f k)
      · show (frec R m x.form v all 5 p).last.number ≤ i + 1 ∧ ∀ v', v' ∈ (frec R m x.form v all 5 p).pend → v'.number ≤ i + 1
        obtain ⟨s1, s2⟩ := h.small p hp
        rw [hsame p hp, (hw p hp).1]
        refine ⟨by omega, fun f hf => ?_⟩
        rcases (hw p hp).2.2 f hf with k | rfl
        · have := s2 f k; omega
        · exact hle
  · rw [if_neg hm]
    exact ⟨h.chain, h.last, h.cover, fun p hp => ⟨by have := (h.small p hp).1; omega, fun v hv => by have := (h.small p hp).2 v hv; omega⟩⟩
theorem Chn.upto_inv (l : List Rnd) (h : l.length ≤ 60) : ∀ k, k ≤ l.length → (Chn.upto l k).Inv k
  | 0, _ => Chn.Inv.new
  | k + 1, hk => by
    rw [Chn.upto_succ l k (by omega)]
    exact (Chn.upto_inv l h k (by omega)).step _ (by omega)
/-- what is formed: each has most of the one ahead, and a greater number -/
theorem Chain.at {a : Vw} {l : List Vw} (h : Chain a l) : ∀ (k : Nat) (hk : k < l.length), Next (if h0 : 0 < k then l[k - 1] else a) l[k] := by
  induction h with
  | nil a => intro k hk; simp at hk
  | @cons a b l h k ih =>
    intro j hj
    cases j with
    | zero => simpa using h
    | succ j =>
      have := ih j (by simpa using hj)
      rw [dif_pos (by omega)]
      cases j with
      | zero => simpa using this
      | succ j => rw [dif_pos (by omega)] at this; simpa using this
end Go.Proofs.Ytheeclmpkddgjaa
