import Derived.Test.YtheeclmpkddgjaaDoorHzD
namespace Go.Proofs.YtheeclmpkddgjaaDoor
set_option linter.unusedVariables false
set_option linter.unusedSimpArgs false
open Go.RowKit
def KPr : World → Pr → List Value → Prop := fun _ x cs => cs = prCells x
theorem KPr.stays : Stays KPr := fun _ _ _ _ h _ => h
theorem HzAt.reads {base g : Nat} {w : World} {H : Hz} {vs : Nat → Value} (h : HzAt base w g H vs) {p : Nat} (hp : p < 64) : Sl KPr 2 w (vs p) (H.l p).waits :=
  Sl.of_flat (h.own p hp) rfl (fun i x hi => ⟨prCells x, by rw [List.getElem?_map, hi]; rfl, rfl⟩) (fun cs hc => by
    obtain ⟨x, _, rfl⟩ := List.mem_map.1 hc
    rfl)
theorem HzAt.wait {base g : Nat} {w : World} {H : Hz} {vs : Nat → Value} (h : HzAt base w g H vs) {p : Nat} (hp : p < 64) (k : Nat) (hk : k < (H.l p).waits.length) {A : Option Addr} {n c : Nat} (hv : vs p = .slice A n c) :
    ∃ b off, A = some (⟨b, off, none⟩ : Addr) ∧ w.cell? ⟨b, off + k * 2, none⟩ = some (.int .u64 ((H.l p).waits[k].stamp : Int)) ∧ w.cell? ⟨b, off + k * 2 + 1, none⟩ = some (.int .u32 ((H.l p).waits[k].sent : Int)) ∧ b < w.heap.size := by
  have hr := h.reads hp
  rw [hv] at hr
  obtain ⟨b, off, cs, hA, hK, hl, hg⟩ := Sl.at hr k hk
  obtain rfl : cs = prCells (H.l p).waits[k] := hK
  have h0 := hg 0 _ rfl
  exact ⟨b, off, hA, h0, hg 1 _ rfl, World.block_lt_of_cell? w _ h0⟩
set_option maxRecDepth 20000 in
set_option maxHeartbeats 1000000 in
theorem hindex_any {base g bm p : Nat} {w : World} {H : Hz} {vs : Nat → Value} (h : HzAt base w g H vs) (hp : p < 64) (hm : Blk w bm 132 #[.pointer (some ⟨g, 2 + p * 4, none⟩)]) (hl : (H.l p).waits.length ≤ 1000000) :
    Calls Tryd.prog 119 #[vs p, .func (.func 111) #[] #[.pointer (some ⟨bm, 0, none⟩)]] w fun e w' =>
      ((∃ (k : Nat) (x : Pr), (H.l p).waits[k]? = some x ∧ e = .returned (.int .i64 (k : Nat)) ∧ (H.l p).now x = true ∧ (∀ j y, j < k → (H.l p).waits[j]? = some y → (H.l p).now y = false) ∧ HzAt base w' g (H.up p ((H.l p).take1 x)) vs) ∨
        (e = .returned (.int .i64 (-1)) ∧ (∀ y, y ∈ (H.l p).waits → (H.l p).now y = false) ∧ HzAt base w' g H vs)) ∧ Fr w w' g vs vs := by
  obtain ⟨A, c, hv, _⟩ := (h.reads hp).slice
  have HV := Lib.hid hv
  rw [hv]
  have HH := Lib.hid h
  have HP := Lib.hid hp
  have HBM := Lib.hid hm
  obtain ⟨m, hm'⟩ : ∃ m, m = (H.l p).waits.length := ⟨_, rfl⟩
  have hm6 : m ≤ 1000000 := by omega
  have HM := Lib.hid hm'
  rw [← hm']
  rw [← hm'] at hv
  have HV2 := Lib.hid hv
  clear h hp hm hv hl hm'
  go_enter Tryd.func119, Tryd.ntmps119
  go_wp2_with fail
  go_loopw [8] (fun i wr => ∃ k : Nat, k ≤ m ∧ i = .int .i64 k ∧ Hid (∀ j y, j < k → (H.l p).waits[j]? = some y → (H.l p).now y = false) ∧ Hid (HzAt base wr g H vs) ∧ Hid (Fr w wr g vs vs)) (fun i _ => m - (intOf i).toNat)
  case atStart => exact ⟨0, by omega, rfl, fun j y hj => by omega, HH.out, Fr.refl _ _ _⟩
  case round =>
    obtain ⟨k, hk, rfl, HJ, HR, HF⟩ := hrel
    by_cases hlt : k < m
    · have hlt2 : k < (H.l p).waits.length := by rw [← HM.out]; exact hlt
      obtain ⟨b, off, rfl, h0, h1, hb⟩ := HR.out.wait HP.out k hlt2 HV2.out
      have hget : (H.l p).waits[k]? = some (H.l p).waits[k] := by simp [hlt2]
      obtain ⟨x, hx⟩ : ∃ x, x = (H.l p).waits[k] := ⟨_, rfl⟩
      rw [← hx] at h0 h1 hget
      have HG := Lib.hid hget
      have HMR := Lib.hid (HBM.out.fr HH.out (by decide) (by decide) HF.out)
      clear hx hget hlt2
      rcases Bool.eq_false_or_eq_true ((H.l p).now x) with hn | hn
      · have HN := Lib.hid hn
        clear hn
        go_wp2_with fail
        refine (count1_any HR.out HP.out HMR.out x HN.out).mono ?_
        rintro e w2 ⟨rfl, hz2, hf2⟩
        have HZ2 := Lib.hid hz2
        have HF2 := Lib.hid (HF.out.trans hf2)
        clear hz2 hf2
        go_wp2_with fail
        go_ret
        exact ⟨.inl ⟨k, x, HG.out, rfl, HN.out, HJ.out, HZ2.out⟩, HF2.out⟩
      · have HN := Lib.hid hn
        have e2 : H.up p ((H.l p).take1 x) = H := by unfold Mk.take1; rw [hn]; exact Hz.up_self H p
        have HE2 := Lib.hid e2
        clear hn e2
        go_wp2_with fail
        refine (count1_any HR.out HP.out HMR.out x HN.out).mono ?_
        rintro e w2 ⟨rfl, hz2, hf2⟩
        rw [HE2.out] at hz2
        have HZ2 := Lib.hid hz2
        have HF2 := Lib.hid (HF.out.trans hf2)
        clear hz2 hf2
        go_wp2_with fail
        go_roundw
        case rel =>
          refine ⟨k + 1, by omega, by go_num, fun j y hj hy => ?_, HZ2, HF2⟩
          by_cases e : j = k
          · subst e
            have := HG.out
            rw [hy] at this
            obtain rfl : y = x := by simpa using this
            exact HN.out
          · exact HJ.out j y (by omega) hy
        case measure => simp [intOf] <;> omega
    · obtain rfl : k = m := by omega
      clear hlt hk
      go_wp2_with fail
      go_ret
      refine ⟨.inr ⟨rfl, fun y hy => ?_, HR.out⟩, HF.out⟩
      obtain ⟨j, hj, rfl⟩ := List.getElem_of_mem hy
      exact HJ.out j _ (by rw [HM.out]; exact hj) (by simp [hj])
/-! the row of a mark is written -/
structure OnlyRow (w w' : World) (b : Nat) : Prop where
  os : w'.os = w.os
  tape : w'.tape = w.tape
  output : w'.output = w.output
  size : w'.heap.size = w.heap.size
  other : ∀ k, k ≠ b → w'.heap[k]? = w.heap[k]?
theorem HzAt.row {base g : Nat} {w w' : World} {H : Hz} {vs : Nat → Value} (h : HzAt base w g H vs) {p : Nat} (hp : p < 64) {b n cap : Nat} (hv : vs p = .slice (some ⟨b, 0, none⟩) n cap) (ho : OnlyRow w w' b) {cur cur' : Array Value}
    (hc : w.heap[b]? = some (.cells cur 134 (0, 0))) (hc' : w'.heap[b]? = some (.cells cur' 134 (0, 0))) (hsz : cur'.size = cur.size) {C : List Pr} (hC : C.length = n) (ht : cur'.toList.take (n * 2) = (C.map prCells).flatten) :
    HzAt base w' g (H.up p { H.l p with waits := C }) vs ∧ Fr w w' g vs vs := by
  obtain ⟨cs, h1, h2⟩ := h.blk
  have hgb : g ≠ b := fun e => h.own_ne p hp (by rw [hv, e]; rfl)
  have hob : (vs p).ownBlock = some b := by rw [hv]; rfl
  refine ⟨⟨h.at', ⟨cs, (ho.other g hgb).trans h1, h2.sameWaits p C⟩, fun q hq => ?_, h.sep, h.clk⟩, ⟨ho.os, ho.tape, ho.output, by rw [ho.size]; exact Nat.le_refl _, fun k _ hkg hko => ho.other k (fun e => hko p hp (by rw [e]; exact hob)), fun _ _ _ h => .inl h⟩⟩
  by_cases e : q = p
  · subst e
    rw [Hz.up_same]
    have hown := h.own q hq
    rw [hv] at hown ⊢
    have hn : (H.l q).waits.length = n := by
      rcases hown.2 with ⟨h0, _⟩ | ⟨_, _, _, h0, _⟩
      · cases h0
      · injection h0 with _ h0 _; exact h0.symm
    rcases hown.2 with ⟨h0, _⟩ | ⟨g', cap', cur0, h0, k1, k2, k3, k4, k5, k6⟩
    · cases h0
    · injection h0 with a1 a2 a3
      injection a1 with a1
      injection a1 with a1
      subst a1 a3
      rw [hc] at k2
      injection k2 with k2
      injection k2 with k2
      subst k2
      refine ⟨?_, .inr ⟨_, _, cur', by rw [hC], k1, hc', by rw [hC, ← hn]; exact k3, k4, by rw [hsz]; exact k5, by rw [hC]; exact ht⟩⟩
      rw [← ht, List.length_take, Array.length_toList, hsz, k5, hC]
      have : n ≤ cap := by rw [← hn]; exact k3
      exact Nat.min_eq_left (Nat.mul_le_mul_right 2 this)
  · rw [Hz.up_other _ _ e]
    exact own_move (h.own q hq) (fun k he => ho.other k (fun e2 => h.sep q p b hq hp e (by rw [he, e2]) hob))
end Go.Proofs.YtheeclmpkddgjaaDoor
