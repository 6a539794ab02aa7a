import Derived.Test.YtheeclmpkddgjaaDoorHzM
namespace Go.Proofs.YtheeclmpkddgjaaDoor
set_option linter.unusedVariables false
set_option linter.unusedSimpArgs false
open Go.RowKit
theorem Acs.cells {w : World} {A : Option Addr} {n c : Nat} {xs : List Ac} (h : Acs w (.slice A n c) xs) (k : Nat) (hk : k < xs.length) :
    ∃ b off, A = some (⟨b, off, none⟩ : Addr) ∧ w.cell? ⟨b, off + k * 4, none⟩ = some (.int .i64 xs[k].kind) ∧ w.cell? ⟨b, off + k * 4 + 1, none⟩ = some (.int .i64 xs[k].p) ∧ w.cell? ⟨b, off + k * 4 + 2, none⟩ = some (.int .u32 (xs[k].seq : Int)) ∧
      w.cell? ⟨b, off + k * 4 + 3, none⟩ = some (.int .u64 (xs[k].stamp : Int)) ∧ b < w.heap.size ∧ xs[k].Ok := by
  obtain ⟨b, off, cs, hA, ⟨rfl, hok⟩, _, hr⟩ := Sl.at h k hk
  have h0 := hr 0 _ rfl
  exact ⟨b, off, hA, h0, hr 1 _ rfl, hr 2 _ rfl, hr 3 _ rfl, World.block_lt_of_cell? w _ h0, hok⟩
theorem less_num {s : Nat} (hs : S64 s) {v : Value} {l : List Int} {w : World} (hv : Ints w v l) (hm : l.length ≤ 140737488351232) {m : Int} (he : ((sless s l : Nat) : Int) = m) :
    Calls Tryd.prog 24 #[.int .u64 (s : Int), v] w fun e w' => e = .returned (.int .u64 m) ∧ w = w' := by
  subst he; exact less_any hs hv hm
theorem S64.less {s : Nat} (hs : S64 s) (l : List Int) : S64 (sless s l) := hs.but
theorem do_num {base g : Nat} {w : World} {H : Hz} {vs : Nat → Value} (h : HzAt base w g H vs) (ho : S64 H.others) (a : Ac) (ha : a.Ok) (hl : ∀ q, q < 64 → (H.l q).waits.length ≤ 900000) {m : Int} (hm : ((H.ans a : Nat) : Int) = m) :
    Calls Tryd.prog 60 #[.pointer (some ⟨g, 0, none⟩), .agg #[.int .i64 a.kind, .int .i64 a.p, .int .u32 (a.seq : Int), .int .u64 (a.stamp : Int)]] w fun e w' => ∃ vs', e = .returned (.int .u64 m) ∧ HzAt base w' g (H.do a) vs' ∧ Fr w w' g vs vs' := by
  subst hm; exact do_any h ho a ha hl
set_option maxRecDepth 100000 in
set_option maxHeartbeats 8000000 in
theorem horizonRises_law {me : Int} {s : Nat} (hs : S64 s) {v : Value} {script : List Ac} {w : World} (hT : Tab w) (hv : Acs w v script) :
    Calls Tryd.prog 12 #[.int .i64 me, .int .u64 (s : Int), v] w fun e w' => e = .returned (.bool true) ∧ Below w.heap.size w w' := by
  obtain ⟨A, c, rfl, _⟩ := hv.slice
  have HT := Lib.hid hT
  have HV := Lib.hid hv
  clear hT hv
  go_enter Tryd.func12, Tryd.ntmps12
  go_wp2_with fail
  refine (awake13 HT.out).mono ?_
  rintro e w1 ⟨rfl, hb1⟩
  have HB1 := Lib.hid hb1
  clear hb1
  by_cases hc1 : script.length > 300
  · have h1 : decide (300 < (script.length : Int)) = true := decide_eq_true (by omega)
    clear hc1
    go_wp2_with fail
    go_ret
    exact ⟨rfl, HB1.out⟩
  have h1 : decide (300 < (script.length : Int)) = false := decide_eq_false (by omega)
  obtain ⟨m, hm⟩ : ∃ m, m = script.length := ⟨_, rfl⟩
  have hm3 : m ≤ 300 := by omega
  have HM := Lib.hid hm
  rw [← hm] at h1
  rw [← hm]
  have hvm := HV.out
  rw [← hm] at hvm
  have HVM := Lib.hid hvm
  clear hc1 hm hvm
  go_wp2_with fail
  refine (new_any (base := w1.heap.size) me hs (Nat.le_refl _)).mono ?_
  rintro e w2 ⟨g, rfl, hz2, hb2, hg2⟩
  obtain ⟨o, ho⟩ : ∃ o, o = sless s [me] := ⟨_, rfl⟩
  rw [← ho] at hz2
  have ho64 : S64 o := by rw [ho]; exact hs.less _
  have HO64 := Lib.hid ho64
  have HOL := Lib.hid ho
  have HZ2 := Lib.hid hz2
  have HB2 := Lib.hid hb2
  clear hz2 hb2 hg2 ho64 ho
  go_wp2_with fail
  go_loopw [8] (fun i wr => ∃ (k : Nat) (H : Hz) (vs : Nat → Value), k ≤ m ∧ i = .int .i64 k ∧ Hid (HzAt w1.heap.size wr g H vs) ∧ Hid (H.others = o ∧ ∀ q, q < 64 → (H.l q).waits.length ≤ k) ∧ Hid (Below w1.heap.size w1 wr)) (fun i _ => m - (intOf i).toNat)
  case atStart => exact ⟨0, _, _, by omega, rfl, HZ2.out, ⟨rfl, fun q _ => Nat.le_refl 0⟩, HB2.out⟩
  case round =>
    obtain ⟨k, H, vs, hk, rfl, HZ, HI, HB⟩ := hrel
    by_cases hlt : k < m
    · have hlt2 : k < script.length := by rw [← HM.out]; exact hlt
      have HBW := Lib.hid (btr HB1.out HB.out)
      have HOO : Hid (S64 H.others) := by show S64 H.others; rw [HI.out.1]; exact HO64.out
      obtain ⟨a0, ha0⟩ : ∃ a0 : Int, a0 = (H.all : Int) := ⟨_, rfl⟩
      obtain ⟨s0, hs0⟩ : ∃ s0 : Int, s0 = (H.safe : Int) := ⟨_, rfl⟩
      obtain ⟨c0, hc0⟩ : ∃ c0 : Int, c0 = (H.clock : Int) := ⟨_, rfl⟩
      have HA0 := Lib.hid ha0
      have HS0 := Lib.hid hs0
      have HC0 := Lib.hid hc0
      clear ha0 hs0 hc0
      go_wp2_with fail
      refine (hall_num HZ.out HOO.out (HT.out.below HBW.out) (m := a0) (by rw [HA0.out])).mono ?_
      rintro e w3 ⟨rfl, hb3⟩
      have HZ3 := Lib.hid (HZ.out.stay hb3)
      have HB3 := Lib.hid (btr HBW.out hb3)
      have HC3 := Lib.hid (HB.out.trans (hb3.mono HB.out.size))
      clear hb3
      go_wp2_with fail
      refine (hsafe_num HZ3.out HOO.out (HT.out.below HB3.out) (m := s0) (by rw [HS0.out])).mono ?_
      rintro e w4 ⟨rfl, hb4⟩
      have HZ4 := Lib.hid (HZ3.out.stay hb4)
      have HB4 := Lib.hid (btr HB3.out hb4)
      have HC4 := Lib.hid (HC3.out.trans (hb4.mono HC3.out.size))
      clear hb4
      go_wp2_with fail
      refine (hclock_num HZ4.out (m := c0) (by rw [HC0.out])).mono ?_
      rintro e w' ⟨rfl, rfl⟩
      obtain ⟨b, off, rfl, d0, d1, d2, d3, hbl, hok⟩ := Acs.cells (HVM.out.below HB4.out) k hlt2
      obtain ⟨a, ha⟩ : ∃ a, a = script[k] := ⟨_, rfl⟩
      rw [← ha] at d0 d1 d2 d3 hok
      have HD0 := Lib.hid d0
      have HOK := Lib.hid hok
      obtain ⟨K, hK⟩ : ∃ K, K = H.do a := ⟨_, rfl⟩
      obtain ⟨n, hn⟩ : ∃ n : Int, n = (H.ans a : Int) := ⟨_, rfl⟩
      have HK := Lib.hid hK
      have HN := Lib.hid hn
      have hbw : b < w.heap.size := by
        obtain ⟨b', off', hA', e0, _⟩ := Acs.cells HVM.out k hlt2
        injection hA' with hA'
        injection hA' with e1 _
        rw [e1]
        exact World.block_lt_of_cell? w _ e0
      have HBB := Lib.hid hbw
      clear hok hK hn ha hlt2 hbw
      go_wp2_with fail
      refine (do_num HZ4.out HOO.out a HOK.out (fun q hq => by have := HI.out.2 q hq; omega) (m := n) (by rw [HN.out])).mono ?_
      rintro e w5 ⟨vs5, rfl, hz5, hf5⟩
      rw [← HK.out] at hz5
      have hb5 := HZ4.out.below hf5 HC4.out.size
      have HZ5 := Lib.hid hz5
      have HC5 := Lib.hid (HC4.out.trans hb5)
      have HB5 := Lib.hid (btr HB1.out HC5.out)
      have HKO : Hid (S64 K.others) := by show S64 K.others; rw [HK.out, do_others]; exact HOO.out
      have hd0 : w5.cell? ⟨b, off + k * 4, none⟩ = some (.int .i64 a.kind) := (hb5.cell (p := ⟨b, _, none⟩) (Nat.lt_of_lt_of_le HBB.out HB1.out.size)).trans HD0.out
      have HD5 := Lib.hid hd0
      have hrise : Rise H K := by rw [HK.out]; exact do_rise H a
      obtain ⟨a1, ha1⟩ : ∃ a1 : Int, a1 = (K.all : Int) := ⟨_, rfl⟩
      obtain ⟨s1, hs1⟩ : ∃ s1 : Int, s1 = (K.safe : Int) := ⟨_, rfl⟩
      obtain ⟨c1, hc1⟩ : ∃ c1 : Int, c1 = (K.clock : Int) := ⟨_, rfl⟩
      have t1 : decide (a1 < a0) = false := decide_eq_false (by have := all_rise hrise; have := HA0.out; omega)
      have t2 : decide (s1 < s0) = false := decide_eq_false (by have := safe_rise hrise; have := HS0.out; omega)
      have t3 : decide (c1 < c0) = false := decide_eq_false (by have := hrise.clock; have := HC0.out; omega)
      have t4 : decide (a1 < s1) = false := decide_eq_false (by have := safe_le K; omega)
      have t5 : decide (c1 < a1) = false := decide_eq_false (by have := all_le K; omega)
      have HA1 := Lib.hid ha1
      have HS1 := Lib.hid hs1
      have HC1 := Lib.hid hc1
      clear ha1 hs1 hc1 hz5 hf5 hb5 hd0 hrise d0 d1 d2 d3 hbl
      go_wp2_with fail
      refine (hall_num HZ5.out HKO.out (HT.out.below HB5.out) (m := a1) (by rw [HA1.out])).mono ?_
      rintro e w6 ⟨rfl, hb6⟩
      have HZ6 := Lib.hid (HZ5.out.stay hb6)
      have HB6 := Lib.hid (btr HB5.out hb6)
      have HC6 := Lib.hid (HC5.out.trans (hb6.mono HC5.out.size))
      have HD6 := Lib.hid ((hb6.cell (p := ⟨b, off + k * 4, none⟩) (World.block_lt_of_cell? _ _ HD5.out)).trans HD5.out)
      clear hb6
      go_wp2_with fail
      refine (hsafe_num HZ6.out HKO.out (HT.out.below HB6.out) (m := s1) (by rw [HS1.out])).mono ?_
      rintro e w7 ⟨rfl, hb7⟩
      have HZ7 := Lib.hid (HZ6.out.stay hb7)
      have HB7 := Lib.hid (btr HB6.out hb7)
      have HC7 := Lib.hid (HC6.out.trans (hb7.mono HC6.out.size))
      have HD7 := Lib.hid ((hb7.cell (p := ⟨b, off + k * 4, none⟩) (World.block_lt_of_cell? _ _ HD6.out)).trans HD6.out)
      clear hb7
      go_wp2_with fail
      refine (hclock_num HZ7.out (m := c1) (by rw [HC1.out])).mono ?_
      rintro e w' ⟨rfl, rfl⟩
      go_wp2_with fail
      refine (hsafe_num HZ7.out HKO.out (HT.out.below HB7.out) (m := s1) (by rw [HS1.out])).mono ?_
      rintro e w8 ⟨rfl, hb8⟩
      have HZ8 := Lib.hid (HZ7.out.stay hb8)
      have HB8 := Lib.hid (btr HB7.out hb8)
      have HC8 := Lib.hid (HC7.out.trans (hb8.mono HC7.out.size))
      have HD8 := Lib.hid ((hb8.cell (p := ⟨b, off + k * 4, none⟩) (World.block_lt_of_cell? _ _ HD7.out)).trans HD7.out)
      clear hb8
      go_wp2_with fail
      refine (hall_num HZ8.out HKO.out (HT.out.below HB8.out) (m := a1) (by rw [HA1.out])).mono ?_
      rintro e w9 ⟨rfl, hb9⟩
      have HZ9 := Lib.hid (HZ8.out.stay hb9)
      have HB9 := Lib.hid (btr HB8.out hb9)
      have HC9 := Lib.hid (HC8.out.trans (hb9.mono HC8.out.size))
      have HD9 := Lib.hid ((hb9.cell (p := ⟨b, off + k * 4, none⟩) (World.block_lt_of_cell? _ _ HD8.out)).trans HD8.out)
      clear hb9
      go_wp2_with fail
      refine (hall_num HZ9.out HKO.out (HT.out.below HB9.out) (m := a1) (by rw [HA1.out])).mono ?_
      rintro e w10 ⟨rfl, hb10⟩
      have HZ10 := Lib.hid (HZ9.out.stay hb10)
      have HB10 := Lib.hid (btr HB9.out hb10)
      have HC10 := Lib.hid (HC9.out.trans (hb10.mono HC9.out.size))
      have HD10 := Lib.hid ((hb10.cell (p := ⟨b, off + k * 4, none⟩) (World.block_lt_of_cell? _ _ HD9.out)).trans HD9.out)
      clear hb10
      go_wp2_with fail
      refine (hclock_num HZ10.out (m := c1) (by rw [HC1.out])).mono ?_
      rintro e w' ⟨rfl, rfl⟩
      have hdk := HD10.out
      by_cases hk3 : a.kind = 3
      · by_cases hmax : c0 = 18446744073709551615
        · have hn0 : n = c0 := by
            rw [HN.out, HC0.out]
            unfold Hz.ans
            rw [if_pos hk3]
            show ((inc1 H.clock : Nat) : Int) = _
            unfold inc1
            rw [if_neg (by have := HC0.out; omega)]
          subst hmax
          rw [hk3] at hdk
          subst hn0
          clear hk3
          go_wp2_with fail
          refine (less_num hs (l := [me]) (by exact Ints.lit _ _ _ _ _ _ (by simp) rfl rfl) (by simp) (m := (o : Int)) (by rw [HOL.out])).mono ?_
          rintro e w' ⟨rfl, rfl⟩
          have HBL : Hid (Below w10.heap.size w10 (w10.alloc (.cells #[.int .i64 me] 3))) := bal (Below.refl _ _) _
          have HZl := Lib.hid (HZ10.out.stay HBL.out)
          have HBl := Lib.hid (btr HB10.out HBL.out)
          have HCl := Lib.hid (HC10.out.trans (HBL.out.mono HC10.out.size))
          by_cases ho0 : o = 0
          · have hz0 : K.others = 0 := by rw [HK.out, do_others, HI.out.1]; exact ho0
            have hz : ((o : Int) == 0) = true := by rw [beq_iff_eq]; omega
            have HZ0 := Lib.hid hz0
            have HO0 := Lib.hid ho0
            clear hz0 ho0
            go_wp2_with fail
            refine (hall_num HZl.out HKO.out (HT.out.below HBl.out) (m := c1) (by rw [HC1.out, all_none HZ0.out])).mono ?_
            rintro e wm ⟨rfl, hbm⟩
            have HZm := Lib.hid (HZl.out.stay hbm)
            have HBm := Lib.hid (btr HBl.out hbm)
            have HCm := Lib.hid (HCl.out.trans (hbm.mono HCl.out.size))
            clear hbm
            go_wp2_with fail
            refine (hclock_num HZm.out (m := c1) (by rw [HC1.out])).mono ?_
            rintro e w' ⟨rfl, rfl⟩
            go_wp2_with fail
            refine (hsafe_num HZm.out HKO.out (HT.out.below HBm.out) (m := c1) (by rw [HC1.out, safe_none HZ0.out])).mono ?_
            rintro e wn ⟨rfl, hbn⟩
            have HZn := Lib.hid (HZm.out.stay hbn)
            have HCn := Lib.hid (HCm.out.trans (hbn.mono HCm.out.size))
            clear hbn
            go_wp2_with fail
            refine (hclock_num HZn.out (m := c1) (by rw [HC1.out])).mono ?_
            rintro e w' ⟨rfl, rfl⟩
            go_wp2_with fail
            go_roundw
            case rel => exact ⟨k + 1, K, vs5, by omega, by go_num, HZn.out, ⟨by rw [HK.out, do_others]; exact HI.out.1, by rw [HK.out]; exact do_len H a HI.out.2⟩, HCn.out⟩
            case measure => simp [intOf] <;> omega
          · have hz : ((o : Int) == 0) = false := by rw [beq_eq_false_iff_ne]; omega
            clear ho0
            go_wp2_with fail
            go_roundw
            case rel => exact ⟨k + 1, K, vs5, by omega, by go_num, HZl.out, ⟨by rw [HK.out, do_others]; exact HI.out.1, by rw [HK.out]; exact do_len H a HI.out.2⟩, HCl.out⟩
            case measure => simp [intOf] <;> omega
        · have hn0 : decide (n ≤ c0) = false := decide_eq_false (by
            have := HZ4.out.clk.lt
            have h0 := HC0.out
            have h2 := ans_up H a hk3 (by omega)
            have h3 := HN.out
            omega)
          rw [hk3] at hdk
          clear hk3 hmax
          go_wp2_with fail
          refine (less_num hs (l := [me]) (by exact Ints.lit _ _ _ _ _ _ (by simp) rfl rfl) (by simp) (m := (o : Int)) (by rw [HOL.out])).mono ?_
          rintro e w' ⟨rfl, rfl⟩
          have HBL : Hid (Below w10.heap.size w10 (w10.alloc (.cells #[.int .i64 me] 3))) := bal (Below.refl _ _) _
          have HZl := Lib.hid (HZ10.out.stay HBL.out)
          have HBl := Lib.hid (btr HB10.out HBL.out)
          have HCl := Lib.hid (HC10.out.trans (HBL.out.mono HC10.out.size))
          by_cases ho0 : o = 0
          · have hz0 : K.others = 0 := by rw [HK.out, do_others, HI.out.1]; exact ho0
            have hz : ((o : Int) == 0) = true := by rw [beq_iff_eq]; omega
            have HZ0 := Lib.hid hz0
            have HO0 := Lib.hid ho0
            clear hz0 ho0
            go_wp2_with fail
            refine (hall_num HZl.out HKO.out (HT.out.below HBl.out) (m := c1) (by rw [HC1.out, all_none HZ0.out])).mono ?_
            rintro e wm ⟨rfl, hbm⟩
            have HZm := Lib.hid (HZl.out.stay hbm)
            have HBm := Lib.hid (btr HBl.out hbm)
            have HCm := Lib.hid (HCl.out.trans (hbm.mono HCl.out.size))
            clear hbm
            go_wp2_with fail
            refine (hclock_num HZm.out (m := c1) (by rw [HC1.out])).mono ?_
            rintro e w' ⟨rfl, rfl⟩
            go_wp2_with fail
            refine (hsafe_num HZm.out HKO.out (HT.out.below HBm.out) (m := c1) (by rw [HC1.out, safe_none HZ0.out])).mono ?_
            rintro e wn ⟨rfl, hbn⟩
            have HZn := Lib.hid (HZm.out.stay hbn)
            have HCn := Lib.hid (HCm.out.trans (hbn.mono HCm.out.size))
            clear hbn
            go_wp2_with fail
            refine (hclock_num HZn.out (m := c1) (by rw [HC1.out])).mono ?_
            rintro e w' ⟨rfl, rfl⟩
            go_wp2_with fail
            go_roundw
            case rel => exact ⟨k + 1, K, vs5, by omega, by go_num, HZn.out, ⟨by rw [HK.out, do_others]; exact HI.out.1, by rw [HK.out]; exact do_len H a HI.out.2⟩, HCn.out⟩
            case measure => simp [intOf] <;> omega
          · have hz : ((o : Int) == 0) = false := by rw [beq_eq_false_iff_ne]; omega
            clear ho0
            go_wp2_with fail
            go_roundw
            case rel => exact ⟨k + 1, K, vs5, by omega, by go_num, HZl.out, ⟨by rw [HK.out, do_others]; exact HI.out.1, by rw [HK.out]; exact do_len H a HI.out.2⟩, HCl.out⟩
            case measure => simp [intOf] <;> omega
      · have hk3' : (a.kind == 3) = false := beq_eq_false_iff_ne.2 hk3
        clear hk3
        go_wp2_with fail
        refine (less_num hs (l := [me]) (by exact Ints.lit _ _ _ _ _ _ (by simp) rfl rfl) (by simp) (m := (o : Int)) (by rw [HOL.out])).mono ?_
        rintro e w' ⟨rfl, rfl⟩
        have HBL : Hid (Below w10.heap.size w10 (w10.alloc (.cells #[.int .i64 me] 3))) := bal (Below.refl _ _) _
        have HZl := Lib.hid (HZ10.out.stay HBL.out)
        have HBl := Lib.hid (btr HB10.out HBL.out)
        have HCl := Lib.hid (HC10.out.trans (HBL.out.mono HC10.out.size))
        by_cases ho0 : o = 0
        · have hz0 : K.others = 0 := by rw [HK.out, do_others, HI.out.1]; exact ho0
          have hz : ((o : Int) == 0) = true := by rw [beq_iff_eq]; omega
          have HZ0 := Lib.hid hz0
          have HO0 := Lib.hid ho0
          clear hz0 ho0
          go_wp2_with fail
          refine (hall_num HZl.out HKO.out (HT.out.below HBl.out) (m := c1) (by rw [HC1.out, all_none HZ0.out])).mono ?_
          rintro e wm ⟨rfl, hbm⟩
          have HZm := Lib.hid (HZl.out.stay hbm)
          have HBm := Lib.hid (btr HBl.out hbm)
          have HCm := Lib.hid (HCl.out.trans (hbm.mono HCl.out.size))
          clear hbm
          go_wp2_with fail
          refine (hclock_num HZm.out (m := c1) (by rw [HC1.out])).mono ?_
          rintro e w' ⟨rfl, rfl⟩
          go_wp2_with fail
          refine (hsafe_num HZm.out HKO.out (HT.out.below HBm.out) (m := c1) (by rw [HC1.out, safe_none HZ0.out])).mono ?_
          rintro e wn ⟨rfl, hbn⟩
          have HZn := Lib.hid (HZm.out.stay hbn)
          have HCn := Lib.hid (HCm.out.trans (hbn.mono HCm.out.size))
          clear hbn
          go_wp2_with fail
          refine (hclock_num HZn.out (m := c1) (by rw [HC1.out])).mono ?_
          rintro e w' ⟨rfl, rfl⟩
          go_wp2_with fail
          go_roundw
          case rel => exact ⟨k + 1, K, vs5, by omega, by go_num, HZn.out, ⟨by rw [HK.out, do_others]; exact HI.out.1, by rw [HK.out]; exact do_len H a HI.out.2⟩, HCn.out⟩
          case measure => simp [intOf] <;> omega
        · have hz : ((o : Int) == 0) = false := by rw [beq_eq_false_iff_ne]; omega
          clear ho0
          go_wp2_with fail
          go_roundw
          case rel => exact ⟨k + 1, K, vs5, by omega, by go_num, HZl.out, ⟨by rw [HK.out, do_others]; exact HI.out.1, by rw [HK.out]; exact do_len H a HI.out.2⟩, HCl.out⟩
          case measure => simp [intOf] <;> omega
    · obtain rfl : k = m := by omega
      clear hlt hk
      go_wp2_with fail
      go_ret
      exact ⟨rfl, btr HB1.out HB.out⟩
end Go.Proofs.YtheeclmpkddgjaaDoor
