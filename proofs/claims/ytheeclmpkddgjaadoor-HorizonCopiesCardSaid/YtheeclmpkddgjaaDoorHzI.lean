import Derived.Test.YtheeclmpkddgjaaDoorHzH
import Derived.Maps.AppendAt
namespace Go.Proofs.YtheeclmpkddgjaaDoor
set_option linter.unusedVariables false
set_option linter.unusedSimpArgs false
open Go.RowKit
theorem has_range {s : Nat} {p : Int} (h : shas s p = true) : ∃ q : Nat, p = (q : Int) ∧ q < 64 := by
  unfold shas at h
  rw [Bool.and_eq_true] at h
  have := h.1
  simp at this
  exact ⟨p.toNat, by omega, by omega⟩
theorem HzAt.regrow {base g : Nat} {w w2 : World} {S : Hz} {vs : Nat → Value} (h : HzAt base w g S vs) {p : Nat} (hp : p < 64) {v : Value} {L : List Pr} (hgrow : w.grownBy w2 (vs p).ownBlock) (hown : w2.ownsRow base 134 2 v L.length (L.map prCells).flatten)
    (hob : v.ownBlock = (vs p).ownBlock ∨ v.ownBlock = some w.heap.size) :
    HzAt base (w2.setCell ⟨g, 2 + p * 4 + 3, none⟩ v) g (S.up p { S.l p with waits := L }) (vput vs p v) ∧ Fr w (w2.setCell ⟨g, 2 + p * 4 + 3, none⟩ v) g vs (vput vs p v) := by
  obtain ⟨cs, h1, h2⟩ := h.blk
  have hgl := h.lt
  have hg1 : Blk w2 g 130 cs := (hgrow.block g hgl (fun e => h.own_ne p hp e.symm)).trans h1
  have hother : ∀ b, b ≠ g → (w2.setCell ⟨g, 2 + p * 4 + 3, none⟩ v).heap[b]? = w2.heap[b]? := fun b hb => heap_setCell_other w2 ⟨g, _, none⟩ b v hb
  have hnew : ∀ b, v.ownBlock = some b → ∀ q, q < 64 → q ≠ p → (vs q).ownBlock ≠ some b := fun b hb q hq hne he => by
    rcases hob with h0 | h0
    · exact h.sep q p b hq hp hne he (by rw [← h0]; exact hb)
    · have := (own_base (h.own q hq) he).2.1
      rw [h0] at hb
      injection hb with hb
      omega
  have hg : v.ownBlock ≠ some g := fun he => by
    rcases hob with h0 | h0
    · exact h.own_ne p hp (by rw [← h0]; exact he)
    · rw [h0] at he
      injection he with he
      omega
  refine ⟨⟨h.at', ⟨_, hg1.set _ v, h2.setWaits hp v L⟩, fun q hq => ?_, fun q r b hq hr hne hb => ?_, h.clk⟩, ⟨hgrow.os, hgrow.tape, hgrow.output, by simpa using hgrow.size, fun b hb hbg hbo => ?_, fun q b hq hb => ?_⟩⟩
  · by_cases e : q = p
    · subst e
      rw [Hz.up_same]
      simp only [vput, if_pos]
      exact own_move hown (fun b he => hother b (fun e2 => hg (by rw [he, e2])))
    · rw [Hz.up_other _ _ e]
      simp only [vput, if_neg e]
      exact own_move (h.own q hq) (fun b he => (hother b (fun e2 => h.own_ne q hq (by rw [he, e2]))).trans (hgrow.block b (own_base (h.own q hq) he).2.1 (fun e2 => h.sep q p b hq hp e he e2.symm)))
  · by_cases e : q = p
    · subst e
      have e2 : r ≠ q := fun e2 => hne e2.symm
      simp only [vput, if_pos] at hb
      simp only [vput, if_neg e2]
      exact hnew b hb r hr e2
    · simp only [vput, if_neg e] at hb
      by_cases e2 : r = p
      · subst e2
        simp only [vput, if_pos]
        exact fun he => hnew b he q hq e hb
      · simp only [vput, if_neg e2]
        exact h.sep q r b hq hr hne hb
  · exact (hother b hbg).trans (hgrow.block b hb (fun e => hbo p hp e.symm))
  · by_cases e : q = p
    · subst e
      simp only [vput, if_pos] at hb
      rcases hob with h0 | h0
      · exact .inl (by rw [← h0]; exact hb)
      · rw [h0] at hb
        injection hb with hb
        exact .inr (by omega)
    · simp only [vput, if_neg e] at hb
      exact .inl hb
def Hz.come (H : Hz) (p : Int) (seq stamp : Nat) : Hz :=
  if shas H.others p then (H.see stamp).up p.toNat (Mk.count { H.l p.toNat with came := seq, heard := max (H.l p.toNat).heard stamp }) else H
def Hz.promise (H : Hz) (p : Int) (stamp sent : Nat) : Hz :=
  if shas H.others p then (H.see stamp).up p.toNat (Mk.count { H.l p.toNat with waits := (H.l p.toNat).waits ++ [⟨stamp, sent⟩] }) else H
set_option maxRecDepth 20000 in
set_option maxHeartbeats 4000000 in
theorem come_any {base g : Nat} {w : World} {H : Hz} {vs : Nat → Value} (h : HzAt base w g H vs) (ho : S64 H.others) (p : Int) (seq : Nat) {stamp : Nat} (hs : S64 stamp) (hl : ∀ q, q < 64 → (H.l q).waits.length ≤ 1000000) :
    Calls Tryd.prog 62 #[.pointer (some ⟨g, 0, none⟩), .int .i64 p, .int .u32 (seq : Int), .int .u64 (stamp : Int)] w fun e w' => ∃ vs', (∃ v, e = .returned v) ∧ HzAt base w' g (H.come p seq stamp) vs' ∧ Fr w w' g vs vs' := by
  obtain ⟨h0, h1⟩ := h.cell
  have HH := Lib.hid h
  have HO := Lib.hid ho
  have HL := Lib.hid hl
  have HS := Lib.hid hs
  clear hl hs ho
  rcases Bool.eq_false_or_eq_true (shas H.others p) with hp | hp
  · obtain ⟨q, rfl, hq⟩ := has_range hp
    have e : H.come (q : Int) seq stamp = (H.see stamp).up q (Mk.count { (H.see stamp).l q with came := seq, heard := max ((H.see stamp).l q).heard stamp }) := by unfold Hz.come; rw [hp]; rfl
    rw [e]
    obtain ⟨S, hS⟩ : ∃ S, S = H.see stamp := ⟨_, rfl⟩
    rw [← hS]
    have HSE := Lib.hid hS
    clear hS
    have HP := Lib.hid hp
    have HQ := Lib.hid hq
    have hq0 : (0 : Int) ≤ (q : Int) := Int.natCast_nonneg _
    have hq1 : (q : Int) < 64 := by omega
    clear hp h e hq
    go_enter Tryd.func62, Tryd.ntmps62
    go_wp2_with fail
    refine (has_eq HO.out HP.out _).mono ?_
    rintro e w' ⟨rfl, rfl⟩
    go_wp2_with fail
    refine (see_any HH.out HS.out).mono ?_
    rintro e w1 ⟨⟨_, rfl⟩, hz1, hf1⟩
    have hl1 : (S.l q).waits.length ≤ 1000000 := by rw [HSE.out]; exact HL.out q HQ.out
    rw [← HSE.out] at hz1
    obtain ⟨m0, m1, m2, m3⟩ := hz1.mark HQ.out
    have f0 := hz1.free (2 + q * 4)
    have f2 := hz1.free (2 + q * 4 + 2)
    have k1 := hz1.setCame HQ.out seq
    have k2 := k1.1.setHeard HQ.out (max (S.l q).heard stamp)
    rw [Hz.up_same, Hz.up_up] at k2
    have hmx := max_if (S.l q).heard stamp
    rw [← hmx] at k2
    by_cases hlt : (S.l q).heard < stamp
    all_goals
      first | rw [if_pos hlt] at k2 | rw [if_neg hlt] at k2
      have HK := Lib.hid k2.1
      have HF := Lib.hid (hf1.trans (k1.2.trans k2.2))
      have HL1 := Lib.hid hl1
      have HMX := Lib.hid hmx
      clear hz1 hf1 k1 k2 hl1 m1 m3 hmx h0 h1
      go_wp2_with fail
      refine (hcount_any HK.out HQ.out (by rw [Hz.up_same]; exact HL1.out)).mono ?_
      rintro e w2 ⟨vs', ⟨_, rfl⟩, hz2, hf2⟩
      rw [Hz.up_same, Hz.up_up] at hz2
      have HZ2 := Lib.hid hz2
      have HF2 := Lib.hid (HF.out.trans hf2)
      clear hz2 hf2
      go_wp2_with fail
      exact bodyPost_end (results_none rfl _ _ _) rfl ⟨vs', ⟨_, rfl⟩, HZ2.out, HF2.out⟩
  · have e : H.come p seq stamp = H := by unfold Hz.come; rw [hp]; rfl
    rw [e]
    have HP := Lib.hid hp
    clear hp h e
    go_enter Tryd.func62, Tryd.ntmps62
    go_wp2_with fail
    refine (has_eq HO.out HP.out _).mono ?_
    rintro e w' ⟨rfl, rfl⟩
    go_wp2_with fail
    exact bodyPost_ret (results_none rfl _ _ _) rfl ⟨vs, ⟨_, rfl⟩, HH.out, Fr.refl _ _ _⟩
set_option maxRecDepth 20000 in
set_option maxHeartbeats 4000000 in
theorem promise_any {base g : Nat} {w : World} {H : Hz} {vs : Nat → Value} (h : HzAt base w g H vs) (ho : S64 H.others) (p : Int) {stamp : Nat} (hs : S64 stamp) (sent : Nat) (hl : ∀ q, q < 64 → (H.l q).waits.length ≤ 900000) :
    Calls Tryd.prog 61 #[.pointer (some ⟨g, 0, none⟩), .int .i64 p, .int .u64 (stamp : Int), .int .u32 (sent : Int)] w fun e w' => ∃ vs', (∃ v, e = .returned v) ∧ HzAt base w' g (H.promise p stamp sent) vs' ∧ Fr w w' g vs vs' := by
  obtain ⟨h0, h1⟩ := h.cell
  have HH := Lib.hid h
  have HO := Lib.hid ho
  have HL := Lib.hid hl
  have HS := Lib.hid hs
  clear hl hs ho
  rcases Bool.eq_false_or_eq_true (shas H.others p) with hp | hp
  · obtain ⟨q, rfl, hq⟩ := has_range hp
    have e : H.promise (q : Int) stamp sent = (H.see stamp).up q (Mk.count { (H.see stamp).l q with waits := ((H.see stamp).l q).waits ++ [⟨stamp, sent⟩] }) := by unfold Hz.promise; rw [hp]; rfl
    rw [e]
    obtain ⟨S, hS⟩ : ∃ S, S = H.see stamp := ⟨_, rfl⟩
    rw [← hS]
    have HSE := Lib.hid hS
    clear hS
    have HP := Lib.hid hp
    have HQ := Lib.hid hq
    have hq0 : (0 : Int) ≤ (q : Int) := Int.natCast_nonneg _
    have hq1 : (q : Int) < 64 := by omega
    obtain ⟨i0, hi, hz0, hz1', hz2'⟩ := info_parts pr_info
    clear hp h e hq
    go_enter Tryd.func61, Tryd.ntmps61
    go_wp2_with fail
    refine (has_eq HO.out HP.out _).mono ?_
    rintro e w' ⟨rfl, rfl⟩
    go_wp2_with fail
    refine (see_any HH.out HS.out).mono ?_
    rintro e w1 ⟨⟨_, rfl⟩, hz1, hf1⟩
    have hl1 : (S.l q).waits.length ≤ 900000 := by rw [HSE.out]; exact HL.out q HQ.out
    rw [← HSE.out] at hz1
    obtain ⟨n, hn⟩ : ∃ n, n = (S.l q).waits.length := ⟨_, rfl⟩
    have hn9 : n ≤ 900000 := by omega
    obtain ⟨m0, m1, m2, m3⟩ := hz1.mark HQ.out
    have hbal : Below w1.heap.size w1 (w1.alloc (.cells #[.int .u64 (stamp : Int), .int .u32 (sent : Int)] 134)) := bal (Below.refl _ _) _
    have hown := (hz1.stay hbal).own q HQ.out
    rw [← hn] at hown
    have HZ1 := Lib.hid hz1
    have HF1 := Lib.hid hf1
    have HBAL := Lib.hid hbal
    have HN := Lib.hid hn
    have HOWN := Lib.hid hown
    have HG := Lib.hid hz1.lt
    have HBS := Lib.hid hz1.at'
    have f3 := hz1.free (2 + q * 4 + 3)
    have hgl := hz1.lt
    obtain ⟨A0, l0, c0, hv0⟩ := own_slice hown
    rw [hv0] at m3
    have HV0 := Lib.hid hv0
    clear hz1 hf1 hbal hown hl1 hn m0 m1 m2 h0 h1 hv0
    go_wp2_with (at_builtin; refine wpList_append_own_at _ rfl _ _ 125 rfl base 134 i0 zpr 2 16 Tryd.underlying125 hi hz0 hz1' hz2' rfl (by decide) _ _ _ rfl (by rw [← HV0.out]; exact HOWN.out) ⟨w1.heap.size, 0, none⟩ 1 1 [.int .u64 (stamp : Int), .int .u32 (sent : Int)] rfl rfl ?c1 ?c2 ?c3 ?c4 ?c5 ?_)
    try (case c1 => exact cells_new _ _ _ _ (by simp) rfl)
    case c2 => simp [Value.oneCell']
    case c3 => unfold maxLen; omega
    case c4 => omega
    case c5 => have := HG.out; have := HBS.out; simp; omega
    intro v' w2 hown' hgrow _ hob
    obtain ⟨A', l', c', rfl⟩ := own_slice hown'
    rw [← HV0.out] at hgrow hob
    have hflat : ((S.l q).waits.map prCells).flatten ++ [.int .u64 (stamp : Int), .int .u32 (sent : Int)] = (((S.l q).waits ++ [(⟨stamp, sent⟩ : Pr)]).map prCells).flatten := by simp [prCells]
    have hlen : n + 1 = ((S.l q).waits ++ [(⟨stamp, sent⟩ : Pr)]).length := by rw [List.length_append, ← HN.out]; rfl
    rw [hflat, hlen] at hown'
    have hre := (HZ1.out.stay HBAL.out).regrow HQ.out hgrow hown' (by simpa using hob)
    have hgw : g < w2.heap.size := by have h5 := hgrow.size; have h6 := HG.out; simp at h5; omega
    have hc2 : w2.cell? ⟨g, 2 + q * 4 + 3, none⟩ = some (.slice A0 l0 c0) := by
      rw [hgrow.cell_far ⟨g, 2 + q * 4 + 3, none⟩ (by have := HG.out; simp; omega) (fun e => HZ1.out.own_ne q HQ.out e.symm), ← HV0.out]
      exact ((HZ1.out.stay HBAL.out).mark HQ.out).2.2.2
    have hf2 : w2.frozen? ⟨g, 2 + q * 4 + 3, none⟩ = false := by
      rw [hgrow.frozen_far ⟨g, 2 + q * 4 + 3, none⟩ (by have := HG.out; simp; omega) (fun e => HZ1.out.own_ne q HQ.out e.symm)]
      exact (HZ1.out.stay HBAL.out).free _
    have HRE := Lib.hid hre.1
    have HFE := Lib.hid (HF1.out.trans ((Fr.of_below HBAL.out g vs).trans hre.2))
    have HLN := Lib.hid hlen
    clear hown' hgrow hob hre hflat hlen f3 m3
    go_wp2_with fail
    refine (hcount_any HRE.out HQ.out (by rw [Hz.up_same, ← HLN.out]; omega)).mono ?_
    rintro e w4 ⟨vs', ⟨_, rfl⟩, hz4, hf4⟩
    rw [Hz.up_same, Hz.up_up] at hz4
    have HZ4 := Lib.hid hz4
    have HF4 := Lib.hid (HFE.out.trans hf4)
    clear hz4 hf4
    go_wp2_with fail
    exact bodyPost_end (results_none rfl _ _ _) rfl ⟨vs', ⟨_, rfl⟩, HZ4.out, HF4.out⟩
  · have e : H.promise p stamp sent = H := by unfold Hz.promise; rw [hp]; rfl
    rw [e]
    have HP := Lib.hid hp
    clear hp h e
    go_enter Tryd.func61, Tryd.ntmps61
    go_wp2_with fail
    refine (has_eq HO.out HP.out _).mono ?_
    rintro e w' ⟨rfl, rfl⟩
    go_wp2_with fail
    exact bodyPost_ret (results_none rfl _ _ _) rfl ⟨vs, ⟨_, rfl⟩, HH.out, Fr.refl _ _ _⟩
end Go.Proofs.YtheeclmpkddgjaaDoor
