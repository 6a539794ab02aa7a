import Derived.Test.YtheeclmpkddgjaaDoorHzG
namespace Go.Proofs.YtheeclmpkddgjaaDoor
set_option linter.unusedVariables false
set_option linter.unusedSimpArgs false
open Go.RowKit
theorem HzAt.putWaits {base g : Nat} {w : World} {H : Hz} {vs : Nat → Value} (h : HzAt base w g H vs) {p : Nat} (hp : p < 64) (v : Value) (L : List Pr) (hown : w.ownsRow base 134 2 v L.length (L.map prCells).flatten)
    (hob : v.ownBlock = (vs p).ownBlock ∨ ∀ b, v.ownBlock = some b → ∀ q, q < 64 → (vs q).ownBlock ≠ some b) : HzAt base (w.setCell ⟨g, 2 + p * 4 + 3, none⟩ v) g (H.up p { H.l p with waits := L }) (vput vs p v) := by
  obtain ⟨cs, h1, h2⟩ := h.blk
  have hother : ∀ b, b ≠ g → (w.setCell ⟨g, 2 + p * 4 + 3, none⟩ v).heap[b]? = w.heap[b]? := fun b hb => heap_setCell_other w ⟨g, _, none⟩ b v hb
  have hnew : ∀ b, v.ownBlock = some b → ∀ q, q < 64 → q ≠ p → (vs q).ownBlock ≠ some b := fun b hb q hq hne he => by
    rcases hob with h0 | h0
    · exact h.sep q p b hq hp hne he (by rw [← h0]; exact hb)
    · exact h0 b hb q hq he
  have hg : v.ownBlock ≠ some g := fun he => by
    obtain ⟨_, _, cur, hc⟩ := own_base hown he
    unfold Blk at h1
    rw [h1] at hc
    injection hc with hc
    injection hc with _ ht
    exact absurd ht (by decide)
  refine ⟨h.at', ⟨_, h1.set _ v, h2.setWaits hp v L⟩, fun q hq => ?_, fun q r b hq hr hne hb => ?_, h.clk⟩
  · by_cases e : q = p
    · subst e
      rw [Hz.up_same]
      simp only [vput, if_pos]
      exact own_move hown (fun b he => hother b (fun e2 => hg (by rw [he, e2])))
    · rw [Hz.up_other _ _ e]
      simp only [vput, if_neg e]
      exact own_move (h.own q hq) (fun b he => hother b (fun e2 => h.own_ne q hq (by rw [he, e2])))
  · by_cases e : q = p
    · subst e
      have e2 : r ≠ q := fun e2 => hne e2.symm
      simp only [vput, if_pos] at hb
      simp only [vput, if_neg e2]
      exact hnew b hb r hr e2
    · simp only [vput, if_neg e] at hb
      by_cases e2 : r = p
      · subst e2
        simp only [vput, if_pos]
        exact fun he => hnew b he q hq e hb
      · simp only [vput, if_neg e2]
        exact h.sep q r b hq hr hne hb
theorem Fr.put {w w' : World} {g p : Nat} {vs vs' : Nat → Value} (h : Fr w w' g vs vs') (i : Nat) (v : Value) (hob : ∀ b, v.ownBlock = some b → (vs p).ownBlock = some b ∨ w.heap.size ≤ b) : Fr w (w'.setCell ⟨g, i, none⟩ v) g vs (vput vs' p v) := by
  refine ⟨h.os, h.tape, h.output, by simpa using h.size, fun b hb hg ho => ?_, fun q b hq hb => ?_⟩
  · exact (heap_setCell_other w' ⟨g, i, none⟩ b v hg).trans (h.block b hb hg ho)
  · by_cases e : q = p
    · subst e
      simp only [vput, if_pos] at hb
      exact hob b hb
    · simp only [vput, if_neg e] at hb
      exact h.own q b hq hb
theorem own_slice {w : World} {base : Nat} {e : TypeId} {sz n : Nat} {v : Value} {xs : List Value} (h : w.ownsRow base e sz v n xs) : ∃ A l c, v = .slice A l c := by
  rcases h.2 with ⟨rfl, _⟩ | ⟨_, _, _, rfl, _⟩
  · exact ⟨_, _, _, rfl⟩
  · exact ⟨_, _, _, rfl⟩
theorem own_keep {w : World} {base : Nat} {e : TypeId} {sz n : Nat} {v : Value} {xs : List Value} (h : w.ownsRow base e sz v n xs) : v.oneCell' = true := by
  rcases h.2 with ⟨rfl, _⟩ | ⟨_, _, _, rfl, _⟩ <;> rfl
set_option maxRecDepth 20000 in
set_option maxHeartbeats 4000000 in
theorem hcount_any {base g p : Nat} {w : World} {H : Hz} {vs : Nat → Value} (h : HzAt base w g H vs) (hp : p < 64) (hl : (H.l p).waits.length ≤ 1000000) :
    Calls Tryd.prog 94 #[.pointer (some ⟨g, 2 + p * 4, none⟩)] w fun e w' => ∃ vs', (∃ v, e = .returned v) ∧ HzAt base w' g (H.up p (H.l p).count) vs' ∧ Fr w w' g vs vs' := by
  have HH := Lib.hid h
  have HP := Lib.hid hp
  have HL := Lib.hid hl
  have hgl := h.lt
  have hbal : Below w.heap.size w (w.alloc (.cells #[.pointer (some ⟨g, 2 + p * 4, none⟩)] 132)) := bal (Below.refl _ _) _
  have hA := h.stay hbal
  have hbm : Blk (w.alloc (.cells #[.pointer (some ⟨g, 2 + p * 4, none⟩)] 132)) w.heap.size 132 #[.pointer (some ⟨g, 2 + p * 4, none⟩)] := Blk.new _ _ _ rfl
  have c0 := hbm.cell 0
  have c1 := (hA.mark hp).2.2.2
  have c2 := hA.free (2 + p * 4 + 3)
  have HA := Lib.hid hA
  have HBM := Lib.hid hbm
  have HBAL := Lib.hid hbal
  clear h hp hl hbal hA hbm
  go_enter Tryd.func94, Tryd.ntmps94
  go_wp2_with fail
  have hne : ¬ w.heap.size = g := by omega
  have hne' : ¬ g = w.heap.size := by omega
  go_region_with
    (first | (go_at_call 110; refine (hdelete_any (bm := w.heap.size) (by first | exact HA.out | exact HA.out.stay (drew_below _)) HP.out (by first | exact HBM.out | exact HBM.out.stay (drew_below _)) HL.out).mono ?_; rintro e w3 ⟨v', C, rfl, hz3, hf3, hob3, hown3⟩; obtain ⟨A', n', c', rfl⟩ := own_slice hown3; have hkeep : w3.cell? ⟨w.heap.size, 0, none⟩ = some (.pointer (some ⟨g, 2 + p * 4, none⟩)) := ((by first | exact HBM.out | exact HBM.out.stay (drew_below _) : Blk _ _ _ _).fr (by first | exact HA.out | exact HA.out.stay (drew_below _)) (by decide) (by decide) hf3).cell 0; have hw3 := (hz3.mark HP.out).2.2.2; have hfr3 := hz3.free (2 + p * 4 + 3)))
  all_goals
    have hput := hz3.putWaits HP.out (.slice A' n' c') ((H.l p).keep (H.l p).waits) hown3 (.inl hob3)
    rw [Hz.up_same, Hz.up_up] at hput
    refine bodyPost_end (results_none rfl _ _ _) rfl ⟨vput vs p (.slice A' n' c'), ⟨_, rfl⟩, hput, ?_⟩
    refine Fr.put (p := p) ((Fr.of_below HBAL.out g vs).trans (by first | exact hf3 | exact (Fr.of_below (drew_below _) g vs).trans hf3)) _ _ (fun b hb => .inl (by rw [← hob3]; exact hb))
end Go.Proofs.YtheeclmpkddgjaaDoor
