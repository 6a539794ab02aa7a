import Derived.Test.YtheeclmpkddgjaaDoorHzT
namespace Go.Proofs.YtheeclmpkddgjaaDoor
set_option linter.unusedVariables false
set_option linter.unusedSimpArgs false
open Go.RowKit
theorem HzC.get {cs : Array Value} {H : Hz} {vs : Nat → Value} (h : HzC cs H vs) (i : Nat) (hi : i < 258) : i = 0 ∨ i = 1 ∨ ∃ p, p < 64 ∧ (i = 2 + p * 4 ∨ i = 2 + p * 4 + 1 ∨ i = 2 + p * 4 + 2 ∨ i = 2 + p * 4 + 3) := by
  by_cases h0 : i = 0
  · exact .inl h0
  by_cases h1 : i = 1
  · exact .inr (.inl h1)
  refine .inr (.inr ⟨(i - 2) / 4, by omega, by omega⟩)
theorem HzC.one {cs : Array Value} {H : Hz} {vs : Nat → Value} (h : HzC cs H vs) (hv : ∀ p, p < 64 → (vs p).oneCell' = true) : cs.all (·.oneCell') = true := by
  rw [Array.all_eq_true_iff_forall_mem]
  intro v hm
  obtain ⟨i, hi, he⟩ := Array.mem_iff_getElem.1 hm
  have hg : cs[i]? = some v := by rw [Array.getElem?_eq_getElem hi, he]
  rw [h.size] at hi
  rcases h.get i hi with rfl | rfl | ⟨p, hp, rfl | rfl | rfl | rfl⟩
  · rw [h.clock] at hg; injection hg with hg; rw [← hg]; rfl
  · rw [h.others] at hg; injection hg with hg; rw [← hg]; rfl
  · rw [h.heard p hp] at hg; injection hg with hg; rw [← hg]; rfl
  · rw [h.reached p hp] at hg; injection hg with hg; rw [← hg]; rfl
  · rw [h.came p hp] at hg; injection hg with hg; rw [← hg]; rfl
  · rw [h.waits p hp] at hg; injection hg with hg; rw [← hg]; exact hv p hp
theorem mark_index {P : Program} {t e : TypeId} (ht : P.underlying t = some (.array 64 e)) (hg : ∀ w, (isAgg e).run P w = .ok true w) (hs : ∀ w, (Go.sizeOf e).run P w = .ok 4 w) {A : Array Value} {k : Nat} (hk : k < 64) {a b c d : Value}
    (h0 : A[k * 4]? = some a) (h1 : A[k * 4 + 1]? = some b) (h2 : A[k * 4 + 2]? = some c) (h3 : A[k * 4 + 3]? = some d) (w : World) :
    (Instr.index t (.agg A) (.int .i64 (k : Int))).run P w = .ok (.agg #[a, b, c, d]) w := by
  have hn : 0 ≤ (k : Int) ∧ (k : Int) < 64 := by omega
  have e1 : A.extract (k * 4) (k * 4 + 4) = #[a, b, c, d] := by
    have hsz : k * 4 + 3 < A.size := (Array.getElem?_eq_some_iff.1 h3).1
    apply Array.ext_getElem?
    intro j
    by_cases hj : j < 4
    · have hx : (A.extract (k * 4) (k * 4 + 4))[j]? = A[k * 4 + j]? := by
        rw [Array.getElem?_extract, if_pos (by omega)]
      rw [hx]
      match j, hj with
      | 0, _ => rw [Nat.add_zero, h0]; rfl
      | 1, _ => rw [h1]; rfl
      | 2, _ => rw [h2]; rfl
      | 3, _ => rw [h3]; rfl
    · rw [Array.getElem?_eq_none (by rw [Array.size_extract]; omega), Array.getElem?_eq_none (by simp; omega)]
  have hn2 : ¬ 64 ≤ k := by omega
  simp [Instr.index, run_underlying ht, asIntOf, hn, hn2, part, hg, hs, go_sem, e1]
/-- a copy that is made as far as the k-th mark -/
structure Cp (base : Nat) (w wr : World) (g2 : Nat) (H : Hz) (vs vs' : Nat → Value) (k : Nat) : Prop where
  blk : ∃ cs, Blk wr g2 130 cs ∧ HzC cs H vs'
  own : ∀ p, p < k → wr.ownsRow base 134 2 (vs' p) (H.l p).waits.length ((H.l p).waits.map prCells).flatten
  new : ∀ p b, p < k → (vs' p).ownBlock = some b → w.heap.size ≤ b
  sep : ∀ p q b, p < k → q < k → p ≠ q → (vs' p).ownBlock = some b → (vs' q).ownBlock ≠ some b
  below : Below w.heap.size w wr
theorem Cp.step {base g2 k : Nat} {w wr w2 : World} {H : Hz} {vs vs' : Nat → Value} (h : Cp base w wr g2 H vs vs' k) (hk : k < 64) (hg2 : w.heap.size ≤ g2) {v : Value} (hb : Below wr.heap.size wr w2)
    (ho : w2.ownsRow base 134 2 v (H.l k).waits.length ((H.l k).waits.map prCells).flatten) (hn : ∀ b, v.ownBlock = some b → wr.heap.size ≤ b) : Cp base w (w2.setCell ⟨g2, 2 + k * 4 + 3, none⟩ v) g2 H vs (vput vs' k v) (k + 1) := by
  obtain ⟨cs, h1, h2⟩ := h.blk
  have hgl := h1.lt
  have hother : ∀ b, b ≠ g2 → (w2.setCell ⟨g2, 2 + k * 4 + 3, none⟩ v).heap[b]? = w2.heap[b]? := fun b hb => heap_setCell_other w2 ⟨g2, _, none⟩ b v hb
  have hset := h2.setWaits hk v (H.l k).waits
  have e : H.up k { H.l k with waits := (H.l k).waits } = H := Hz.up_self H k
  rw [e] at hset
  have hlt : ∀ p b, p < k → (vs' p).ownBlock = some b → b < wr.heap.size := fun p b hp hb => (own_base (h.own p hp) hb).2.1
  have hneg : ∀ p, p < k → (vs' p).ownBlock ≠ some g2 := fun p hp he => by
    obtain ⟨_, _, cur, hc⟩ := own_base (h.own p hp) he
    unfold Blk at h1
    rw [h1] at hc
    injection hc with hc
    injection hc with _ ht
    exact absurd ht (by decide)
  refine ⟨⟨_, (h1.stay hb).set _ v, hset⟩, fun p hp => ?_, fun p b hp hpb => ?_, fun p q b hp hq hne hpb => ?_, ?_⟩
  · by_cases e : p = k
    · subst e
      simp only [vput, if_pos]
      exact own_move ho (fun b he => hother b (by have := hn b he; omega))
    · simp only [vput, if_neg e]
      have hp : p < k := by omega
      exact own_move (h.own p hp) (fun b he => (hother b (fun e2 => hneg p hp (by rw [he, e2]))).trans (hb.block b (hlt p b hp he)))
  · by_cases e : p = k
    · subst e
      simp only [vput, if_pos] at hpb
      have := hn b hpb
      have := h.below.size
      omega
    · simp only [vput, if_neg e] at hpb
      exact h.new p b (by omega) hpb
  · by_cases e : p = k
    · subst e
      have e2 : q ≠ p := fun e2 => hne e2.symm
      simp only [vput, if_pos] at hpb
      simp only [vput, if_neg e2]
      intro hq2
      have := hlt q b (by omega) hq2
      have := hn b hpb
      omega
    · simp only [vput, if_neg e] at hpb
      by_cases e2 : q = k
      · subst e2
        simp only [vput, if_pos]
        intro hq2
        have := hlt p b (by omega) hpb
        have := hn b hq2
        omega
      · simp only [vput, if_neg e2]
        exact h.sep p q b (by omega) (by omega) hne hpb
  · refine (h.below.trans (hb.mono h.below.size)).trans ⟨rfl, rfl, rfl, by simp, fun b hb => hother b (by omega)⟩
set_option maxRecDepth 100000 in
theorem hz_zsize : Tryd.zeroCells130.size = 258 := by kernel_rfl
theorem hz_isize : (Tryd.prog.info? 130).map (·.size) = some 258 := by kernel_rfl
theorem marks_isize : (Tryd.prog.info? 128).map (·.size) = some 256 := by kernel_rfl
theorem mark_agg (w : World) : (isAgg 127).run Tryd.prog w = .ok true w := by kernel_rfl
theorem mark_size (w : World) : (Go.sizeOf 127).run Tryd.prog w = .ok 4 w := by kernel_rfl
set_option maxRecDepth 100000 in
set_option maxHeartbeats 4000000 in
theorem hcopy_any {base g : Nat} {w : World} {H : Hz} {vs : Nat → Value} (h : HzAt base w g H vs) (hbs : base ≤ w.heap.size) (hl : ∀ q, q < 64 → (H.l q).waits.length ≤ 1000000) :
    Calls Tryd.prog 63 #[.pointer (some ⟨g, 0, none⟩)] w fun e w' => ∃ g2 vs2, e = .returned (.pointer (some ⟨g2, 0, none⟩)) ∧ HzAt base w' g2 H vs2 ∧ Apart g vs g2 vs2 ∧ Below w.heap.size w w' := by
  have HH := Lib.hid h
  have HBS := Lib.hid hbs
  have HL := Lib.hid hl
  obtain ⟨cs, hblk, hcs⟩ := h.blk
  have hcell := fun i => hblk.cell i
  have hone := hcs.one (fun p hp => own_keep (h.own p hp))
  have hlt := h.lt
  have hb1 : Blk w g 130 cs := hblk
  obtain ⟨L, hL⟩ : ∃ L, L = cs.toList.drop 2 := ⟨_, rfl⟩
  have hLl : L.length = 256 := by rw [hL, List.length_drop, Array.length_toList, hcs.size]
  have hLg : ∀ j, L[j]? = cs[2 + j]? := fun j => by rw [hL, List.getElem?_drop, Array.getElem?_toList]
  have hsz : cs.size = 258 := hcs.size
  have HCS := Lib.hid hcs
  have HBLK := Lib.hid hblk
  have HONE := Lib.hid hone
  have HLL := Lib.hid hLl
  have HLG := Lib.hid hLg
  have HSZ := Lib.hid hsz
  have HLT := Lib.hid hlt
  clear h hbs hl hblk hcs hone hL hLl hLg hsz hb1 hcell
  go_enter Tryd.func63, Tryd.ntmps63
  go_wp2_with (first
    | (refine wpList_load_row_g rfl 130 _ rfl g rfl _ cs (0, 0) _ HBLK.out Tryd.underlying130 rfl (by rw [HSZ.out]; exact hz_isize) ?_)
    | (refine wpList_store_row rfl 130 _ _ rfl w.heap.size rfl 130 Tryd.zeroCells130 cs rfl (Blk.new _ _ _ rfl) (by rw [HSZ.out]; exact hz_isize) (by rw [HSZ.out]; exact hz_zsize) HONE.out ?_)
    | (refine wpList_load_mid_g rfl 128 _ rfl g 2 rfl L _ ?c1 Tryd.underlying128 rfl (by rw [HLL.out]; exact marks_isize) ?_))
  case c1 =>
    intro j u hu
    rw [HLG.out] at hu
    have hbw : Blk w g 130 cs := HBLK.out
    have hb2 := ((hbw.old (.cells Tryd.zeroCells130 130)).rowOther (k := w.heap.size) (by have := HLT.out; omega) cs)
    exact (hb2.cell (2 + j)).trans hu
  have hblk2 : Blk ((w.alloc (.cells Tryd.zeroCells130 130)).setRow w.heap.size cs) w.heap.size 130 cs := (Blk.new _ _ _ rfl).row cs
  have hbel : Below w.heap.size w ((w.alloc (.cells Tryd.zeroCells130 130)).setRow w.heap.size cs) := bsetRow (bal (Below.refl _ _) _) (Nat.le_refl _) cs
  obtain ⟨g2, hg2⟩ : ∃ g2, g2 = w.heap.size := ⟨_, rfl⟩
  rw [← hg2] at hblk2 hbel ⊢
  have HG2 := Lib.hid hg2
  have HBLK2 := Lib.hid hblk2
  have HBEL := Lib.hid hbel
  clear hblk2 hbel hg2
  go_wp2_with fail
  go_loopw [13] (fun i wr => ∃ (k : Nat) (vs' : Nat → Value), k ≤ 64 ∧ i = .int .i64 k ∧ Hid (Cp base w wr g2 H vs vs' k)) (fun i _ => 64 - (intOf i).toNat)
  case atStart =>
    rw [HG2.out]
    refine ⟨0, vs, by omega, rfl, ⟨⟨cs, by rw [← HG2.out]; exact HBLK2.out, HCS.out⟩, fun p hp => absurd hp (Nat.not_lt_zero p), fun p b hp => absurd hp (Nat.not_lt_zero p), fun p q b hp => absurd hp (Nat.not_lt_zero p), ?_⟩⟩
    have := HBEL.out
    rw [HG2.out] at this
    exact this
  case round =>
    obtain ⟨k, vs', hk, rfl, HC⟩ := hrel
    by_cases hlt : k < 64
    · have hown := (HH.out.stay (HC.out.below)).own k hlt
      obtain ⟨A0, n0, c0, hv0⟩ := own_slice hown
      rw [hv0] at hown
      have hidx := fun w => mark_index (P := Tryd.prog) Tryd.underlying128 mark_agg mark_size hlt
        (show L.toArray[k * 4]? = some (.int .u64 ((H.l k).heard : Int)) by rw [List.getElem?_toArray, HLG.out]; exact HCS.out.heard k hlt)
        (show L.toArray[k * 4 + 1]? = some (.int .u64 ((H.l k).reached : Int)) by rw [List.getElem?_toArray, HLG.out]; exact HCS.out.reached k hlt)
        (show L.toArray[k * 4 + 2]? = some (.int .u32 ((H.l k).came : Int)) by rw [List.getElem?_toArray, HLG.out]; exact HCS.out.came k hlt)
        (show L.toArray[k * 4 + 3]? = some (.slice A0 n0 c0) by rw [List.getElem?_toArray, HLG.out, ← hv0]; exact HCS.out.waits k hlt) w
      obtain ⟨h1, h2⟩ : HzC _ H vs' ∧ True := ⟨(Classical.choose_spec HC.out.blk).2, trivial⟩
      have hgw : g2 < wr.heap.size := by
        obtain ⟨cs', hb', _⟩ := HC.out.blk
        exact hb'.lt
      have hbal : Below wr.heap.size wr (wr.alloc (.cells #[.int .u64 ((H.l k).heard : Int), .int .u64 ((H.l k).reached : Int), .int .u32 ((H.l k).came : Int), .slice A0 n0 c0] 127)) := bal (Below.refl _ _) _
      have hown2 := own_move (w' := wr.alloc (.cells #[.int .u64 ((H.l k).heard : Int), .int .u64 ((H.l k).reached : Int), .int .u32 ((H.l k).came : Int), .slice A0 n0 c0] 127)) hown (fun b hb => hbal.block b (own_base hown hb).2.1)
      have hk0 : (0 : Int) ≤ (k : Int) := Int.natCast_nonneg _
      have hk1 : (k : Int) < 64 := by omega
      have HOWN := Lib.hid hown2
      have HBAL := Lib.hid hbal
      have HGW := Lib.hid hgw
      have HK := Lib.hid hlt
      have hbs2 : base ≤ (wr.alloc (.cells #[.int .u64 ((H.l k).heard : Int), .int .u64 ((H.l k).reached : Int), .int .u32 ((H.l k).came : Int), .slice A0 n0 c0] 127)).heap.size := by
        have h5 := HBS.out; have h6 := HC.out.below.size; simp; omega
      have HBS2 := Lib.hid hbs2
      clear hown hown2 hbal h1 h2 hv0 hgw hbs2
      go_wp2_with fail
      refine (clone_any HBS2.out HOWN.out (HL.out k HK.out)).mono ?_
      rintro e w2 ⟨v', rfl, hb2, ho2, hn2⟩
      obtain ⟨A1, n1, c1, rfl⟩ := own_slice ho2
      have hbw2 : Below wr.heap.size wr w2 := HBAL.out.trans (hb2.mono (by simp))
      have hcell : ∃ u, w2.cell? ⟨g2, 2 + k * 4 + 3, none⟩ = some u := by
        obtain ⟨cs', hb', hc'⟩ := HC.out.blk
        exact ⟨_, ((hb'.stay hbw2).cell _).trans (hc'.waits k HK.out)⟩
      have hfz : w2.frozen? ⟨g2, 2 + k * 4 + 3, none⟩ = false := by
        obtain ⟨cs', hb', hc'⟩ := HC.out.blk
        exact (hb'.stay hbw2).free _
      obtain ⟨u, hu⟩ := hcell
      have hstep := HC.out.step HK.out (Nat.le_of_eq HG2.out.symm) (v := .slice A1 n1 c1) hbw2 ho2 (fun b hb => by have := hn2 b hb; simp at this; omega)
      have HST := Lib.hid hstep
      clear hb2 ho2 hn2 hbw2 hstep
      go_wp2_with fail
      go_roundw
      case rel => exact ⟨k + 1, _, by omega, by go_num, HST⟩
      case measure => simp [intOf] <;> omega
    · obtain rfl : k = 64 := by omega
      clear hlt hk
      go_wp2_with fail
      go_ret
      refine ⟨g2, vs', rfl, ⟨?_, HC.out.blk, HC.out.own, HC.out.sep, HH.out.clk⟩, ⟨?_, fun p q b hp hq hb he => ?_⟩, HC.out.below⟩
      · have := HBS.out; have := HG2.out; omega
      · have := HLT.out; have := HG2.out; omega
      · have h1 := (own_base (HH.out.own p hp) hb).2.1
        have h2 := HC.out.new q b hq he
        omega
end Go.Proofs.YtheeclmpkddgjaaDoor
