import Derived.Test.YtalcoodidcehnaaDoorFlS
import Derived.Deep.CutRange
namespace Go.Proofs.YtalcoodidcehnaaDoor
set_option linter.unusedVariables false
set_option linter.unusedSimpArgs false
open Go.RowKit
theorem flTry_still {S : Fl} (h : (flTry S).2 = []) : (flTry S).1 = S := by
  unfold flTry at h ⊢
  split at h
  · cases h
  · rename_i hn
    rw [if_neg hn]
theorem flDeliver_rc {S : Fl} {p : Int} {x : Itm} (h : (flDeliver S p x).2 = []) : (flDeliver S p x).1.rc = S.rc := by
  unfold flDeliver at h ⊢
  split
  · rename_i h1
    rw [if_pos h1] at h
    split
    · rename_i h2
      rw [if_pos h2] at h
      unfold flState at h ⊢
      split
      · rename_i h3
        rw [if_pos h3] at h
        rw [flTry_still h]
      · rfl
    · rename_i h2
      rw [if_neg h2] at h
      split
      · rename_i h3
        rw [if_pos h3] at h
        unfold flAgree at h ⊢
        split
        · rename_i h4
          rw [if_pos h4] at h
          cases h
        · rfl
      · rfl
  · rfl
theorem flDeliver_still {S : Fl} {p : Int} {x : Itm} (h : (!S.live || S.formed) = true) : flDeliver S p x = (S, []) := by
  unfold flDeliver
  have e : (S.live && !S.formed && shas S.mem p) = false := by
    cases hl : S.live
    · rfl
    · rw [hl] at h
      have hf : S.formed = true := h
      rw [hf]; rfl
  rw [e]; rfl
theorem flDeliver_live (S : Fl) (p : Int) (x : Itm) : (flDeliver S p x).1.live = S.live := by
  unfold flDeliver
  split
  · split
    · unfold flState
      split
      · unfold flTry
        split <;> rfl
      · rfl
    · split
      · unfold flAgree
        split <;> rfl
      · rfl
  · rfl
def Fa.zero : Fa := ⟨0, 0, 0, 0, 0, 0, Itm.zero⟩
theorem fa_info : (Tryd.prog.info? 58).map (fun i => (i.zero, i.size, i.bytes)) = some (some (.agg (faCells Fa.zero (.slice none 0 0)).toArray), 24, 208) := by kernel_rfl
theorem fa_zero (w : World) : (zeroValue 58).run Tryd.prog w = .ok (.agg (faCells Fa.zero (.slice none 0 0)).toArray) w := by
  obtain ⟨i0, hi, hz0, _⟩ := info_parts fa_info
  simp [zeroValue, typeInfo, hi, hz0]
theorem fa_isize : (Tryd.prog.info? 58).map (·.size) = some 24 := by kernel_rfl
theorem rangeAt_act {w : World} {b o : Nat} {a : Fa} {v : Value} (h : w.rangeAt b o (faCells a v)) : w.rangeAt b (o + 6) (itemCells a.x v) := by
  intro j u hu
  have hj : j < 18 := (List.getElem?_eq_some_iff.1 hu).1
  have e : (faCells a v)[6 + j]? = (itemCells a.x v)[j]? := by
    match j, hj with
    | 0, _ | 1, _ | 2, _ | 3, _ | 4, _ | 5, _ | 6, _ | 7, _ | 8, _ | 9, _ | 10, _ | 11, _ | 12, _ | 13, _ | 14, _ | 15, _ | 16, _ | 17, _ => rfl
  have := h (6 + j) u (by rw [e]; exact hu)
  rwa [← Nat.add_assoc] at this
theorem Blk.range {w : World} {g : Nat} {t : TypeId} {cs : List Value} (h : Blk w g t cs.toArray) : w.rangeAt g 0 cs := by
  intro j u hu
  rw [Nat.zero_add, h.cell]
  simpa using hu
def LivePost (W : World) (e : Ending) (w' : World) : Prop := e = .returned (.bool true) ∧ Below W.heap.size W w'
/-- the filter of the law, in the round's world -/
structure LiveAt (W wr : World) (g : Nat) (S : Fl) (A0 : Option Addr) (q0 k0 : Nat) (mv tv : Value) : Prop where
  fl : FlAt wr g S (.slice A0 q0 k0) mv tv
  own : ∀ k, Turns g mv k → W.heap.size ≤ k
  below : Below W.heap.size W wr
theorem LiveAt.stay {W wr w' : World} {g : Nat} {S : Fl} {A0 : Option Addr} {q0 k0 : Nat} {mv tv : Value} (h : LiveAt W wr g S A0 q0 k0 mv tv) (hb : Below wr.heap.size wr w') : LiveAt W w' g S A0 q0 k0 mv tv :=
  ⟨h.fl.below hb, h.own, h.below.trans (hb.mono h.below.size)⟩
set_option maxRecDepth 20000 in
set_option maxHeartbeats 8000000 in
theorem filterLive_law {W : World} {r : Rcd} {A : Option Addr} {q c : Nat} (hor : r.last.Ok) (hvr : Views W (.slice A q c) r.pend) {v : Value} {L : List Fa} (hL : Fas W v L) (hT : Tab W) :
    Calls Tryd.prog 4 #[.agg #[.int .u64 (r.last.number : Int), .int .u64 (r.last.epoch : Int), .int .i64 r.last.rep, .int .u64 (r.last.members : Int), .slice A q c], v] W (LivePost W) := by
  obtain ⟨AL, cL, rfl, _⟩ := hL.slice
  have hq : q = r.pend.length := by
    obtain ⟨A', c', h, _⟩ := hvr.slice
    injection h
  obtain ⟨n, hn⟩ : ∃ n, n = L.length := ⟨_, rfl⟩
  rw [← hn] at hL ⊢
  have hb1 : Below W.heap.size W (W.alloc (.cells #[.int .u64 (r.last.number : Int), .int .u64 (r.last.epoch : Int), .int .i64 r.last.rep, .int .u64 (r.last.members : Int), .slice A q c] 38)) := bal (Below.refl _ _) _
  have HN := Lib.hid hn
  have HQ := Lib.hid hq
  have HT := Lib.hid hT
  have HTL : Hid (0 < W.heap.size) := hT.lt
  have HT1 := Lib.hid (hT.below hb1)
  have HL := Lib.hid hL
  have HV := Lib.hid hvr
  have HO := Lib.hid hor
  have HB1 := Lib.hid hb1
  obtain ⟨w1, hw1⟩ : ∃ w1, w1 = W.alloc (.cells #[.int .u64 (r.last.number : Int), .int .u64 (r.last.epoch : Int), .int .i64 r.last.rep, .int .u64 (r.last.members : Int), .slice A q c] 38) := ⟨_, rfl⟩
  obtain ⟨gr, hgr⟩ : ∃ gr, gr = W.heap.size := ⟨_, rfl⟩
  have hr1 : Blk w1 gr 38 #[.int .u64 (r.last.number : Int), .int .u64 (r.last.epoch : Int), .int .i64 r.last.rep, .int .u64 (r.last.members : Int), .slice A q c] := by rw [hw1]; exact Blk.new _ _ _ hgr
  have HR1 := Lib.hid hr1
  have HW1 := Lib.hid hw1
  have HGR := Lib.hid hgr
  rw [← hw1] at HT1 HB1
  clear hL hvr hor hT hn hq hb1 hw1 hgr hr1
  go_enter Tryd.func4, Tryd.ntmps4
  go_upto_region 1 with fail
  rw [← HW1.out, ← HGR.out]
  go_wp2_with fail
  refine (awake20_any HT1.out).mono ?_
  rintro e w2 ⟨rfl, hb2⟩
  have HB2 := Lib.hid (btr HB1.out hb2)
  have HR2 := Lib.hid (HR1.out.stay hb2)
  clear hb2
  go_wp2_with fail
  refine (few20_any (HL.out.below HB2.out)).mono ?_
  rintro e w' ⟨bf, rfl, hbf, rfl⟩
  have HBF := Lib.hid hbf
  clear hbf
  rcases bf with _ | _
  · go_wp2_with fail
    go_ret
    exact ⟨rfl, HB2.out⟩
  have HFEW := Lib.hid (HBF.out rfl)
  have hn100 : n ≤ 100 := by rw [HN.out]; exact HFEW.out.len
  have r0 : w2.cell? ⟨gr, 0, none⟩ = some (.int .u64 (r.last.number : Int)) := HR2.out.cell 0
  have r1 : w2.cell? ⟨gr, 1, none⟩ = some (.int .u64 (r.last.epoch : Int)) := HR2.out.cell 1
  have r2 : w2.cell? ⟨gr, 2, none⟩ = some (.int .i64 r.last.rep) := HR2.out.cell 2
  have r3 : w2.cell? ⟨gr, 3, none⟩ = some (.int .u64 (r.last.members : Int)) := HR2.out.cell 3
  have r4 : w2.cell? ⟨gr, 4, none⟩ = some (.slice A q c) := HR2.out.cell 4
  have hrl := HR2.out.lt
  clear HBF
  by_cases hq100 : 100 < q
  · have hd : decide ((100 : Int) < (q : Int)) = true := decide_eq_true (by omega)
    have hd' : decide (100 < q) = true := decide_eq_true hq100
    go_wp2_with fail
    go_ret
    exact ⟨rfl, HB2.out⟩
  have hd : decide ((100 : Int) < (q : Int)) = false := decide_eq_false (by omega)
  have hd' : decide (100 < q) = false := decide_eq_false hq100
  go_wp2_with fail
  refine (flNewT_any (HV.out.below HB2.out) (by rw [← HQ.out]; omega) HO.out).mono ?_
  rintro e w3 ⟨g, A0, q0, k0, rfl, hg, hb3, hf3⟩
  have HLA : Hid (LiveAt W w3 g (flNew r) A0 q0 k0 (.map none) (.pointer none)) := ⟨hf3, (fun k hk => by
    rcases hk with rfl | hk
    · exact Nat.le_trans HB2.out.size hg
    · cases hk), btr HB2.out hb3⟩
  clear hg hb3 hf3 r0 r1 r2 r3 r4 hrl hd hd' hq100
  go_wp2_with fail
  go_loopw [6, 7] (fun lv i wr => ∃ (k : Nat) (S : Fl) (A0 : Option Addr) (q0 k0 : Nat) (mv tv : Value), k ≤ n ∧ i = .int .i64 k ∧ lv = .bool S.live ∧ Hid (LiveAt W wr g S A0 q0 k0 mv tv)) (fun _ i _ => n - (intOf i).toNat)
  case atStart => exact ⟨0, flNew r, A0, q0, k0, _, _, by omega, rfl, rfl, HLA⟩
  case round =>
    clear HLA
    obtain ⟨k, S, A0, q0, k0, mv, tv, hk, rfl, rfl, HLA⟩ := hrel
    by_cases hlt : k < n
    rotate_left
    · obtain rfl : k = n := by omega
      clear hlt hk
      go_wp2_with fail
      go_ret
      exact ⟨rfl, HLA.out.below⟩
    have hlt2 : k < L.length := by rw [← HN.out]; exact hlt
    obtain ⟨b, off, cs, rfl, ⟨va, rfl, hok, hva, -⟩, -, hrg⟩ := Sl.at (HL.out.below HLA.out.below) k hlt2
    have hfa := HFEW.out.pend L[k] (List.getElem_mem hlt2)
    obtain ⟨a, ha⟩ : ∃ a, a = L[k] := ⟨_, rfl⟩
    rw [← ha] at hok hva hrg hfa
    obtain ⟨Ax, cx, rfl, _⟩ := hva.slice
    obtain ⟨qx, hqx⟩ : ∃ qx, qx = a.x.rc.pend.length := ⟨_, rfl⟩
    rw [← hqx] at hva hrg
    have hbl : b < wr.heap.size := World.block_lt_of_cell? wr _ (hrg 0 _ rfl)
    obtain ⟨w5, hw5⟩ : ∃ w5, w5 = wr.alloc (.cells (faCells a (.slice Ax qx cx)).toArray 58) := ⟨_, rfl⟩
    obtain ⟨g5, hg5⟩ : ∃ g5, g5 = wr.heap.size := ⟨_, rfl⟩
    have hb5 : Below wr.heap.size wr w5 := by rw [hw5]; exact bal (Below.refl _ _) _
    have hi5 : Blk w5 g5 58 (faCells a (.slice Ax qx cx)).toArray := by rw [hw5]; exact Blk.new _ _ _ hg5
    have HW5 := Lib.hid hw5
    have HG5 := Lib.hid hg5
    have HI5 := Lib.hid hi5
    have HRG := Lib.hid hrg
    have HOK := Lib.hid hok
    have HVA := Lib.hid (hva.below hb5)
    have HFA := Lib.hid hfa
    have HL5 := Lib.hid (HLA.out.stay hb5)
    have HA1 : Hid ((faCells a (.slice Ax qx cx)).toArray.all (·.oneCell') = true) := by show _ = true; simp [faCells, Value.oneCell']
    clear hlt2 ha hok hva hrg hfa hqx hw5 hg5 hb5 hi5
    go_upto_region 11 with (first
      | (refine wpList_load_mid_g rfl 58 _ rfl b (off + k * 24) rfl _ _ HRG.out Tryd.underlying58 rfl fa_isize ?_)
      | (refine wpList_alloc_store rfl rfl 58 _ _ rfl rfl rfl fa_zero (faCells a (.slice Ax qx cx)).toArray rfl rfl fa_isize rfl HA1.out ?_))
    rw [← HW5.out, ← HG5.out]
    go_wp2_with fail
    refine (flRecordT_any HL5.out.fl).mono ?_
    rintro e w6 ⟨A6, c6, rfl, hb6, hv6⟩
    obtain ⟨w7, hw7⟩ : ∃ w7, w7 = w6.alloc (.cells #[.int .u64 (S.rc.last.number : Int), .int .u64 (S.rc.last.epoch : Int), .int .i64 S.rc.last.rep, .int .u64 (S.rc.last.members : Int), .slice A6 S.rc.pend.length c6] 38) := ⟨_, rfl⟩
    obtain ⟨g7, hg7⟩ : ∃ g7, g7 = w6.heap.size := ⟨_, rfl⟩
    have hb67 : Below w6.heap.size w6 w7 := by rw [hw7]; exact bal (Below.refl _ _) _
    have hb7 : Below w5.heap.size w5 w7 := btr hb6 hb67
    have hi7 := HI5.out.stay hb7
    have hr7 : Blk w7 g7 38 #[.int .u64 (S.rc.last.number : Int), .int .u64 (S.rc.last.epoch : Int), .int .i64 S.rc.last.rep, .int .u64 (S.rc.last.members : Int), .slice A6 S.rc.pend.length c6] := by rw [hw7]; exact Blk.new _ _ _ hg7
    have HW7 := Lib.hid hw7
    have HG7 := Lib.hid hg7
    have HI7 := Lib.hid hi7
    have HR7 := Lib.hid hr7
    have HV7 := Lib.hid (hv6.below hb67)
    have HVA7 := Lib.hid (HVA.out.below hb7)
    have HL7 := Lib.hid (HL5.out.stay hb7)
    clear hb6 hv6 hw7 hg7 hb67 hb7 hi7 hr7
    go_upto_region 12 with fail
    rw [← HW7.out, ← HG7.out]
    go_cut [6, 10] from 39 to 44 (fun x6 x wx => x6 = .bool S.live ∧ x = .bool (!S.live || S.formed) ∧ Hid (wx = w7))
    case first =>
      rcases hl : S.live with _ | _
      · go_wp2_with fail
        go_meet
        exact ⟨by first | rfl | rw [hl], by rw [hl]; rfl, rfl⟩
      · go_wp2_with fail
        refine (flFormed_any HL7.out.fl.blk).mono ?_
        rintro e w' ⟨rfl, rfl⟩
        go_wp2_with fail
        go_meet
        exact ⟨by first | rfl | rw [hl], by rw [hl]; rfl, rfl⟩
    case rest =>
      obtain ⟨rfl, rfl, HWC⟩ := hcut
      have hwc := HWC.out
      subst hwc
      have hri := rangeAt_act HI7.out.range
      rw [Nat.zero_add] at hri
      have HRI := Lib.hid hri
      have hil := HI7.out.lt
      clear hri HWC hbl
      by_cases hk0 : a.kind = 0
      · have z0 : wc.cell? ⟨g5, 0, none⟩ = some (.int .i64 0) := by rw [← hk0]; exact HI7.out.cell 0
        have z3 : wc.cell? ⟨g5, 3, none⟩ = some (.int .u64 (a.cep : Int)) := HI7.out.cell 3
        have z4 : wc.cell? ⟨g5, 4, none⟩ = some (.int .i64 a.crep) := HI7.out.cell 4
        have z5 : wc.cell? ⟨g5, 5, none⟩ = some (.int .u64 (a.mem : Int)) := HI7.out.cell 5
        generalize (!S.live || S.formed) = st
        clear hk0
        go_wp2_with (refine wpList_load_mid_g rfl 45 _ rfl g5 6 rfl _ _ HRI.out Tryd.underlying45 rfl item_isize ?_)
        refine (flRegularT_any HL7.out.fl HOK.out.cep a.crep HOK.out.mem a.x HOK.out.x Ax qx cx).mono ?_
        rintro e w8 ⟨A8, bm, rfl, hx8, hbm, hf8, -⟩
        have HLA8 : Hid (LiveAt W w8 g (flRegular S a.cep a.crep a.mem) A0 q0 k0 (.map (some bm)) (.pointer none)) := ⟨hf8, (fun k hk => by
          rcases hk with rfl | hk
          · exact HL7.out.own _ (.inl rfl)
          · injection hk with hk
            injection hk with hk
            subst hk
            exact Nat.le_trans HL7.out.below.size hbm), hx8.below HL7.out.below (HL7.out.own _ (.inl rfl)) HL7.out.below.size⟩
        have hff : (flRegular S a.cep a.crep a.mem).formed = false := rfl
        clear hx8 hbm hf8 z0 z3 z4 z5 hil
        go_wp2_with fail
        refine (flFormed_any HLA8.out.fl.blk).mono ?_
        rintro e w' ⟨rfl, rfl⟩
        go_wp2_with fail
        go_roundw
        case rel => exact ⟨k + 1, flRegular S a.cep a.crep a.mem, A0, q0, k0, _, _, by omega, by go_num, rfl, HLA8⟩
        case measure => simp [intOf] <;> omega
      by_cases hk1 : a.kind = 1
      · have z0 : wc.cell? ⟨g5, 0, none⟩ = some (.int .i64 1) := by rw [← hk1]; exact HI7.out.cell 0
        generalize (!S.live || S.formed) = st
        clear hk0 hk1
        go_wp2_with fail
        refine (flCloseT_any HL7.out.fl).mono ?_
        rintro e w8 ⟨rfl, hx8, hf8⟩
        have HLA8 : Hid (LiveAt W w8 g (flClose S) A0 q0 k0 mv tv) := ⟨hf8, HL7.out.own, hx8.below HL7.out.below (HL7.out.own _ (.inl rfl)) HL7.out.below.size⟩
        clear hx8 hf8 z0 hil
        go_wp2_with fail
        go_roundw
        case rel => exact ⟨k + 1, flClose S, A0, q0, k0, _, _, by omega, by go_num, rfl, HLA8⟩
        case measure => simp [intOf] <;> omega
      have z0 : wc.cell? ⟨g5, 0, none⟩ = some (.int .i64 a.kind) := HI7.out.cell 0
      have z1 : wc.cell? ⟨g5, 1, none⟩ = some (.int .i64 a.src) := HI7.out.cell 1
      have e0 : (a.kind == 0) = false := by simpa using hk0
      have e1 : (a.kind == 1) = false := by simpa using hk1
      obtain ⟨S', l, hR⟩ : ∃ S' l, flDeliver S a.src a.x = (S', l) := ⟨_, _, rfl⟩
      have hst1 : (!S.live || S.formed) = true → l = [] := fun h => by
        have := flDeliver_still (p := a.src) (x := a.x) h
        rw [hR] at this
        injection this
      have hst2 : l = [] → S'.rc = S.rc := fun h => by
        have := flDeliver_rc (S := S) (p := a.src) (x := a.x)
        rw [hR] at this
        exact this h
      have HLIVE : Hid ((Value.bool S.live) = .bool S'.live) := by
        have := flDeliver_live S a.src a.x
        rw [hR] at this
        show _ = _
        rw [← this]
      generalize (!S.live || S.formed) = st at hst1 ⊢
      have HST1 := Lib.hid hst1
      have HST2 := Lib.hid hst2
      have HR := Lib.hid hR
      clear hk0 hk1 hst1 hst2 hR
      go_wp2_with (refine wpList_load_mid_g rfl 45 _ rfl g5 6 rfl _ _ HRI.out Tryd.underlying45 rfl item_isize ?_)
      refine (flDeliverE HL7.out.fl a.src a.x rfl rfl HR.out HVA7.out HOK.out.x (Nat.le_trans HFA.out (by decide)) (HT.out.below HL7.out.below) (fun h => by have := HL7.out.own _ h; have := HTL.out; omega)).mono ?_
      rintro e w8 ⟨A8, k8, A9, q9, k9, tv8, rfl, hx8, hf8, -⟩
      have hk78 := HL7.out.fl.kept hx8
      have hr8 := hk78.blk HR7.out (by decide)
      have HLA8 : Hid (LiveAt W w8 g S' A9 q9 k9 mv tv8) := ⟨hf8, HL7.out.own, hx8.below HL7.out.below HL7.out.own HL7.out.below.size⟩
      have HV8 := Lib.hid (HV7.out.kept hk78)
      have HR8 := Lib.hid hr8
      have hrl := hr8.lt
      clear hx8 hf8 hk78 hr8 z0 z1 e0 e1 hil
      go_wp2_with fail
      refine (flRecordT_any HLA8.out.fl).mono ?_
      rintro e w9 ⟨A9', c9, rfl, hb9, hv9⟩
      have hba : Below w9.heap.size w9 (w9.alloc (.cells #[.int .u64 (S'.rc.last.number : Int), .int .u64 (S'.rc.last.epoch : Int), .int .i64 S'.rc.last.rep, .int .u64 (S'.rc.last.members : Int), .slice A9' S'.rc.pend.length c9] 38)) := bal (Below.refl _ _) _
      obtain ⟨w10, hw10⟩ : ∃ w10, w10 = w9.alloc (.cells #[.int .u64 (S'.rc.last.number : Int), .int .u64 (S'.rc.last.epoch : Int), .int .i64 S'.rc.last.rep, .int .u64 (S'.rc.last.members : Int), .slice A9' S'.rc.pend.length c9] 38) := ⟨_, rfl⟩
      obtain ⟨g10, hg10⟩ : ∃ g10, g10 = w9.heap.size := ⟨_, rfl⟩
      rw [← hw10] at hba
      have hn10 : Blk w10 g10 38 #[.int .u64 (S'.rc.last.number : Int), .int .u64 (S'.rc.last.epoch : Int), .int .i64 S'.rc.last.rep, .int .u64 (S'.rc.last.members : Int), .slice A9' S'.rc.pend.length c9] := by rw [hw10]; exact Blk.new _ _ _ hg10
      have hr10 := (HR8.out.stay hb9).stay hba
      have HW10 := Lib.hid hw10
      have HG10 := Lib.hid hg10
      have HLA10 := Lib.hid ((HLA8.out.stay hb9).stay hba)
      have HV10 := Lib.hid ((HV8.out.below hb9).below hba)
      have HV10' := Lib.hid (hv9.below hba)
      have hl9 := hn10.lt
      have hl10 := hr10.lt
      have x0 : w10.cell? ⟨g10, 0, none⟩ = some (.int .u64 (S'.rc.last.number : Int)) := hn10.cell 0
      have x1 : w10.cell? ⟨g10, 1, none⟩ = some (.int .u64 (S'.rc.last.epoch : Int)) := hn10.cell 1
      have x2 : w10.cell? ⟨g10, 2, none⟩ = some (.int .i64 S'.rc.last.rep) := hn10.cell 2
      have x3 : w10.cell? ⟨g10, 3, none⟩ = some (.int .u64 (S'.rc.last.members : Int)) := hn10.cell 3
      have x4 : w10.cell? ⟨g10, 4, none⟩ = some (.slice A9' S'.rc.pend.length c9) := hn10.cell 4
      have y0 : w10.cell? ⟨g7, 0, none⟩ = some (.int .u64 (S.rc.last.number : Int)) := hr10.cell 0
      have y1 : w10.cell? ⟨g7, 1, none⟩ = some (.int .u64 (S.rc.last.epoch : Int)) := hr10.cell 1
      have y2 : w10.cell? ⟨g7, 2, none⟩ = some (.int .i64 S.rc.last.rep) := hr10.cell 2
      have y3 : w10.cell? ⟨g7, 3, none⟩ = some (.int .u64 (S.rc.last.members : Int)) := hr10.cell 3
      have y4 : w10.cell? ⟨g7, 4, none⟩ = some (.slice A6 S.rc.pend.length c6) := hr10.cell 4
      have HFW := Lib.hid (show S.rc.pend.length ≤ 2000000 from Nat.le_trans HL7.out.fl.few (by decide))
      have HFW' := Lib.hid (show S'.rc.pend.length ≤ 2000000 from Nat.le_trans HLA8.out.fl.few (by decide))
      clear hb9 hv9 hba hw10 hg10 hn10 hr10 hrl
      rcases l with _ | ⟨o, l⟩
      · have HSM : Hid (decide (S'.rc = S.rc) = true) := decide_eq_true (HST2.out rfl)
        clear HST1 HST2
        go_upto_region 16 with fail
        rw [← HW10.out, ← HG10.out]
        go_wp2_with fail
        refine (refSameB_any HV10'.out.views HV10.out.views HFW'.out HFW.out HSM.out).mono ?_
        rintro e w11 ⟨rfl, hb11⟩
        have HLA11 := Lib.hid (HLA10.out.stay hb11)
        clear hb11 x0 x1 x2 x3 x4 y0 y1 y2 y3 y4
        rcases st with _ | _
        all_goals
          go_wp2_with fail
          go_roundw
          case rel => exact ⟨k + 1, S', A9, q9, k9, _, _, by omega, by go_num, HLIVE.out, HLA11⟩
          case measure => simp [intOf] <;> omega
      · have hsf : st = false := by
          cases st
          · rfl
          · have := HST1.out rfl; cases this
        subst hsf
        obtain ⟨m, hm⟩ : ∃ m, m = (o :: l).length := ⟨_, rfl⟩
        have hm0 : 0 < m := by rw [hm, List.length_cons]; omega
        have hm1 : ((m : Int) == 0) = false := by rw [beq_eq_false_iff_ne]; omega
        obtain ⟨bs, hbs⟩ : ∃ bs, decide (S'.rc = S.rc) = bs := ⟨_, rfl⟩
        have HBS := Lib.hid hbs
        rw [← hm]
        clear HST1 HST2 hbs hm
        go_upto_region 16 with fail
        rw [← HW10.out, ← HG10.out]
        go_wp2_with fail
        refine (refSameB_any HV10'.out.views HV10.out.views HFW'.out HFW.out HBS.out).mono ?_
        rintro e w11 ⟨rfl, hb11⟩
        have HLA11 := Lib.hid (HLA10.out.stay hb11)
        clear hb11 x0 x1 x2 x3 x4 y0 y1 y2 y3 y4
        go_wp2_with fail
        go_roundw
        case rel => exact ⟨k + 1, S', A9, q9, k9, _, _, by omega, by go_num, HLIVE.out, HLA11⟩
        case measure => simp [intOf] <;> omega
end Go.Proofs.YtalcoodidcehnaaDoor
