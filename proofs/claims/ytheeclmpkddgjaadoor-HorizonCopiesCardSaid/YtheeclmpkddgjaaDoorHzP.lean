import Derived.Test.YtheeclmpkddgjaaDoorHzN
import Derived.Test.YtheeclmpkddgjaaDoorHzO
namespace Go.Proofs.YtheeclmpkddgjaaDoor
set_option linter.unusedVariables false
set_option linter.unusedSimpArgs false
open Go.RowKit
/-- two horizons that share no block -/
structure Apart (g : Nat) (vs : Nat → Value) (g2 : Nat) (vs2 : Nat → Value) : Prop where
  ne : g ≠ g2
  rows : ∀ p q b, p < 64 → q < 64 → (vs p).ownBlock = some b → (vs2 q).ownBlock ≠ some b
theorem Apart.symm {g g2 : Nat} {vs vs2 : Nat → Value} (h : Apart g vs g2 vs2) : Apart g2 vs2 g vs :=
  ⟨fun e => h.ne e.symm, fun p q b hp hq hb he => h.rows q p b hq hp he hb⟩
theorem HzAt.keep {base g g2 : Nat} {w w' : World} {H G : Hz} {vs vs' vs2 : Nat → Value} (hG : HzAt base w g2 G vs2) (hH : HzAt base w g H vs) (hf : Fr w w' g vs vs') (ha : Apart g vs g2 vs2) : HzAt base w' g2 G vs2 ∧ Apart g vs' g2 vs2 := by
  obtain ⟨cs, h1, h2⟩ := hG.blk
  have hrow : ∀ q b, q < 64 → (vs2 q).ownBlock = some b → b < w.heap.size ∧ b ≠ g := fun q b hq hb => by
    obtain ⟨_, hlt, cur, hc⟩ := own_base (hG.own q hq) hb
    refine ⟨hlt, ?_⟩
    rintro rfl
    obtain ⟨cs', hb', _⟩ := hH.blk
    unfold Blk at hb'
    rw [hc] at hb'
    injection hb' with hb'
    injection hb' with _ ht
    exact absurd ht (by decide)
  have hg2 : ∀ p, p < 64 → (vs p).ownBlock ≠ some g2 := fun p hp he => by
    obtain ⟨_, _, cur, hc⟩ := own_base (hH.own p hp) he
    unfold Blk at h1
    rw [hc] at h1
    injection h1 with h1
    injection h1 with _ ht
    exact absurd ht (by decide)
  refine ⟨⟨hG.at', ⟨cs, (hf.block g2 h1.lt (fun e => ha.ne e.symm) hg2).trans h1, h2⟩, fun q hq => own_move (hG.own q hq) (fun b hb => ?_), hG.sep, hG.clk⟩, ⟨ha.ne, fun p q b hp hq hb he => ?_⟩⟩
  · obtain ⟨k1, k2⟩ := hrow q b hq hb
    exact hf.block b k1 k2 (fun p hp he => ha.rows p q b hp hq he hb)
  · rcases hf.own p b hp hb with h3 | h3
    · exact ha.rows p q b hp hq h3 he
    · have := (hrow q b hq he).1
      omega
set_option maxRecDepth 100000 in
set_option maxHeartbeats 8000000 in
theorem horizonMore_law {s t : Nat} (hs : S64 s) (ht : S64 t) {v : Value} {script : List Ac} {w : World} (hT : Tab w) (hv : Acs w v script) :
    Calls Tryd.prog 14 #[.int .u64 (s : Int), .int .u64 (t : Int), v] w fun e w' => e = .returned (.bool true) ∧ Below w.heap.size w w' := by
  obtain ⟨A, c, rfl, _⟩ := hv.slice
  have HT := Lib.hid hT
  have HV := Lib.hid hv
  clear hT hv
  have hor : Go.bits .or .u64 (s : Int) (t : Int) = ((sany s t : Nat) : Int) := or_nat hs ht
  have hnot : Go.bits .andNot .u64 (t : Int) (s : Int) = ((sbut t s : Nat) : Int) := andNot_nat ht hs
  have hx64 : S64 (sbut t s) := ht.but
  have hy64 : S64 (sany s t) := hs.any ht
  have HX64 := Lib.hid hx64
  have HY64 := Lib.hid hy64
  have hmo0 := more_new hs ht [0]
  have HMO0 := Lib.hid hmo0
  obtain ⟨xz, hxz⟩ : ∃ xz : Int, xz = ((sbut t s : Nat) : Int) := ⟨_, rfl⟩
  obtain ⟨yz, hyz⟩ : ∃ yz : Int, yz = ((sany s t : Nat) : Int) := ⟨_, rfl⟩
  rw [← hxz] at hnot
  rw [← hyz] at hor
  have HXZ := Lib.hid hxz
  have HYZ := Lib.hid hyz
  clear hx64 hy64 hmo0 hxz hyz
  go_enter Tryd.func14, Tryd.ntmps14
  go_wp2_with fail
  refine (awake13 HT.out).mono ?_
  rintro e w1 ⟨rfl, hb1⟩
  have HB1 := Lib.hid hb1
  clear hb1
  by_cases hc1 : script.length > 300
  · have h1 : decide (300 < (script.length : Int)) = true := decide_eq_true (by omega)
    clear hc1
    go_wp2_with fail
    go_ret
    exact ⟨rfl, HB1.out⟩
  have h1 : decide (300 < (script.length : Int)) = false := decide_eq_false (by omega)
  obtain ⟨m, hm⟩ : ∃ m, m = script.length := ⟨_, rfl⟩
  have hm3 : m ≤ 300 := by omega
  have HM := Lib.hid hm
  rw [← hm] at h1
  rw [← hm]
  have hvm := HV.out
  rw [← hm] at hvm
  have HVM := Lib.hid hvm
  clear hc1 hm hvm
  go_wp2_with fail
  refine (new_any (base := w1.heap.size) 0 hs (Nat.le_refl _)).mono ?_
  rintro e w2 ⟨g, rfl, hz2, hb2, hg2⟩
  obtain ⟨oh, hoh⟩ : ∃ oh, oh = sless s [0] := ⟨_, rfl⟩
  obtain ⟨og, hog⟩ : ∃ og, og = sless (sany s t) [0] := ⟨_, rfl⟩
  have hgl2 := hz2.lt
  have HZ2 := Lib.hid hz2
  have HB2 := Lib.hid hb2
  clear hz2 hg2
  go_wp2_with fail
  refine (new_num (base := w1.heap.size) (s := sany s t) HYZ.out HY64.out hb2.size).mono ?_
  rintro e w3 ⟨g2, rfl, hz3, hb3, hg3⟩
  have HZ3 := Lib.hid (HZ2.out.stay hb3)
  have HG3 := Lib.hid hz3
  have HC3 := Lib.hid (btr HB2.out hb3)
  have HAP3 : Hid (Apart g (fun _ => Value.slice none 0 0) g2 (fun _ => Value.slice none 0 0)) := ⟨by omega, fun p q b _ _ h => by cases h⟩
  have hmo := HMO0.out
  rw [← hoh] at HZ3 hmo
  rw [← hog] at HG3 hmo
  have HMO := Lib.hid hmo
  have HOH : Hid (S64 oh) := by show S64 oh; rw [hoh]; exact hs.less _
  have HOG : Hid (S64 og) := by show S64 og; rw [hog]; exact HY64.out.less _
  clear hz3 hb3 hg3 hmo hb2 hgl2 hoh hog
  go_wp2_with fail
  go_loopw [9] (fun i wr => ∃ (k : Nat) (H G : Hz) (vs vs2 : Nat → Value), k ≤ m ∧ i = .int .i64 k ∧ Hid (HzAt w1.heap.size wr g H vs) ∧ Hid (HzAt w1.heap.size wr g2 G vs2) ∧ Hid (Apart g vs g2 vs2) ∧ Hid (More H G (sbut t s)) ∧
    Hid (H.others = oh ∧ G.others = og ∧ (∀ q, q < 64 → (H.l q).waits.length ≤ k) ∧ ∀ q, q < 64 → (G.l q).waits.length ≤ k) ∧ Hid (Below w1.heap.size w1 wr)) (fun i _ => m - (intOf i).toNat)
  case atStart => exact ⟨0, _, _, _, _, by omega, rfl, HZ3.out, HG3.out, HAP3.out, HMO.out, ⟨rfl, rfl, fun q _ => Nat.le_refl 0, fun q _ => Nat.le_refl 0⟩, HC3.out⟩
  case round =>
    clear HMO
    obtain ⟨k, H, G, vs, vs2, hk, rfl, HZ, HG, HAP, HMO, HI, HC⟩ := hrel
    by_cases hlt : k < m
    · have hlt2 : k < script.length := by rw [← HM.out]; exact hlt
      obtain ⟨b, off, rfl, d0, d1, d2, d3, hbl, hok⟩ := Acs.cells (HVM.out.below (btr HB1.out HC.out)) k hlt2
      obtain ⟨a, ha⟩ : ∃ a, a = script[k] := ⟨_, rfl⟩
      rw [← ha] at d0 d1 d2 d3 hok
      have HOK := Lib.hid hok
      have HHO : Hid (S64 H.others) := by show S64 _; rw [HI.out.1]; exact HOH.out
      have HGO : Hid (S64 G.others) := by show S64 _; rw [HI.out.2.1]; exact HOG.out
      have hbal : Below wr.heap.size wr (wr.alloc (.cells #[.int .i64 a.kind, .int .i64 a.p, .int .u32 (a.seq : Int), .int .u64 (a.stamp : Int)] 77)) := bal (Below.refl _ _) _
      have HAx := Lib.hid (HZ.out.stay hbal)
      have HGx := Lib.hid (HG.out.stay hbal)
      have HBX := Lib.hid (Blk.new wr 77 #[.int .i64 a.kind, .int .i64 a.p, .int .u32 (a.seq : Int), .int .u64 (a.stamp : Int)] rfl)
      have HCx := Lib.hid (HC.out.trans (hbal.mono HC.out.size))
      clear ha hlt2 hok hbal
      by_cases hk3 : a.kind < 3
      · have hd3 : decide (a.kind < 3) = true := decide_eq_true hk3
        rcases Bool.eq_false_or_eq_true (shas (sbut t s) a.p) with hp | hp
        · have HP := Lib.hid hp
          clear hp hk3
          go_wp2_with fail
          rw [HXZ.out]
          refine (has_eq HX64.out HP.out _).mono ?_
          rintro e w' ⟨rfl, rfl⟩
          go_wp2_with fail
          go_roundw
          case rel => exact ⟨k + 1, H, G, vs, vs2, by omega, by go_num, HAx.out, HGx.out, HAP.out, HMO.out, ⟨HI.out.1, HI.out.2.1, fun q hq => Nat.le_succ_of_le (HI.out.2.2.1 q hq), fun q hq => Nat.le_succ_of_le (HI.out.2.2.2 q hq)⟩, HCx.out⟩
          case measure => simp [intOf] <;> omega
        · have HP := Lib.hid hp
          have HSK : Hid (a.kind < 3 → shas (sbut t s) a.p = false) := fun _ => hp
          clear hp hk3
          go_wp2_with fail
          rw [HXZ.out]
          refine (has_eq HX64.out HP.out _).mono ?_
          rintro e w' ⟨rfl, rfl⟩
          go_wp2_with fail
          refine (do_any HAx.out HHO.out a HOK.out (fun q hq => by have := HI.out.2.2.1 q hq; omega)).mono ?_
          rintro e w5 ⟨vs5, rfl, hz5, hf5⟩
          have hkg := HGx.out.keep HAx.out hf5 HAP.out
          have hbx5 := HBX.out.fr HAx.out (by decide) (by decide) hf5
          have HZ5 := Lib.hid hz5
          have HG5 := Lib.hid hkg.1
          have HAP5 := Lib.hid hkg.2.symm
          have HC5 := Lib.hid (HCx.out.trans (HAx.out.below hf5 HCx.out.size))
          have e0 := hbx5.cell 0
          have e1 := hbx5.cell 1
          have e2 := hbx5.cell 2
          have e3 := hbx5.cell 3
          clear hz5 hf5 hkg hbx5
          go_wp2_with fail
          refine (do_any HG5.out HGO.out a HOK.out (fun q hq => by have := HI.out.2.2.2 q hq; omega)).mono ?_
          rintro e w6 ⟨vs6, rfl, hz6, hf6⟩
          have hkh := HZ5.out.keep HG5.out hf6 HAP5.out
          have HG6 := Lib.hid hz6
          have HZ6 := Lib.hid hkh.1
          have HAP6 := Lib.hid hkh.2.symm
          have HC6 := Lib.hid (HC5.out.trans (HG5.out.below hf6 HC5.out.size))
          have HB6 := Lib.hid (btr HB1.out HC6.out)
          have HMO6 : Hid (More (H.do a) (G.do a) (sbut t s)) := HMO.out.step a HSK.out
          have HHO6 : Hid (S64 (H.do a).others) := by show S64 _; rw [do_others]; exact HHO.out
          have HGO6 : Hid (S64 (G.do a).others) := by show S64 _; rw [do_others]; exact HGO.out
          have HL6 : Hid ((H.do a).others = oh ∧ (G.do a).others = og ∧ (∀ q, q < 64 → ((H.do a).l q).waits.length ≤ k + 1) ∧ ∀ q, q < 64 → ((G.do a).l q).waits.length ≤ k + 1) :=
            ⟨by rw [do_others]; exact HI.out.1, by rw [do_others]; exact HI.out.2.1, do_len H a HI.out.2.2.1, do_len G a HI.out.2.2.2⟩
          clear hz6 hf6 hkh e0 e1 e2 e3
          generalize H.do a = H' at *
          generalize G.do a = G' at *
          obtain ⟨ah, hah⟩ : ∃ ah : Int, ah = (H'.all : Int) := ⟨_, rfl⟩
          obtain ⟨ag, hag⟩ : ∃ ag : Int, ag = (G'.all : Int) := ⟨_, rfl⟩
          obtain ⟨sh, hsh⟩ : ∃ sh : Int, sh = (H'.safe : Int) := ⟨_, rfl⟩
          obtain ⟨sg, hsg⟩ : ∃ sg : Int, sg = (G'.safe : Int) := ⟨_, rfl⟩
          obtain ⟨cc, hcc⟩ : ∃ cc : Int, cc = (H'.clock : Int) := ⟨_, rfl⟩
          have t1 : decide (ah < ag) = false := decide_eq_false (by have := HMO6.out.all; omega)
          have t2 : decide (sh < sg) = false := decide_eq_false (by have := HMO6.out.safe; omega)
          have HAH := Lib.hid hah
          have HAG := Lib.hid hag
          have HSH := Lib.hid hsh
          have HSG := Lib.hid hsg
          have HCC := Lib.hid hcc
          clear hah hag hsh hsg hcc
          go_wp2_with fail
          refine (hall_num HG6.out HGO6.out (HT.out.below HB6.out) (m := ag) (by rw [HAG.out])).mono ?_
          rintro e w7 ⟨rfl, hb7⟩
          have HG7 := Lib.hid (HG6.out.stay hb7)
          have HZ7 := Lib.hid (HZ6.out.stay hb7)
          have HB7 := Lib.hid (btr HB6.out hb7)
          have HC7 := Lib.hid (HC6.out.trans (hb7.mono HC6.out.size))
          clear hb7
          go_wp2_with fail
          refine (hall_num HZ7.out HHO6.out (HT.out.below HB7.out) (m := ah) (by rw [HAH.out])).mono ?_
          rintro e w8 ⟨rfl, hb8⟩
          have HG8 := Lib.hid (HG7.out.stay hb8)
          have HZ8 := Lib.hid (HZ7.out.stay hb8)
          have HB8 := Lib.hid (btr HB7.out hb8)
          have HC8 := Lib.hid (HC7.out.trans (hb8.mono HC7.out.size))
          clear hb8
          go_wp2_with fail
          refine (hsafe_num HG8.out HGO6.out (HT.out.below HB8.out) (m := sg) (by rw [HSG.out])).mono ?_
          rintro e w9 ⟨rfl, hb9⟩
          have HG9 := Lib.hid (HG8.out.stay hb9)
          have HZ9 := Lib.hid (HZ8.out.stay hb9)
          have HB9 := Lib.hid (btr HB8.out hb9)
          have HC9 := Lib.hid (HC8.out.trans (hb9.mono HC8.out.size))
          clear hb9
          go_wp2_with fail
          refine (hsafe_num HZ9.out HHO6.out (HT.out.below HB9.out) (m := sh) (by rw [HSH.out])).mono ?_
          rintro e w10 ⟨rfl, hb10⟩
          have HG10 := Lib.hid (HG9.out.stay hb10)
          have HZ10 := Lib.hid (HZ9.out.stay hb10)
          have HB10 := Lib.hid (btr HB9.out hb10)
          have HC10 := Lib.hid (HC9.out.trans (hb10.mono HC9.out.size))
          clear hb10
          go_wp2_with fail
          refine (hclock_num HG10.out (m := cc) (by rw [HCC.out, HMO6.out.clock])).mono ?_
          rintro e w' ⟨rfl, rfl⟩
          go_wp2_with fail
          refine (hclock_num HZ10.out (m := cc) (by rw [HCC.out])).mono ?_
          rintro e w' ⟨rfl, rfl⟩
          go_wp2_with fail
          go_roundw
          case rel => exact ⟨k + 1, H', G', vs5, vs6, by omega, by go_num, HZ10.out, HG10.out, HAP6.out, HMO6.out, HL6.out, HC10.out⟩
          case measure => simp [intOf] <;> omega
      · have hd3 : decide (a.kind < 3) = false := decide_eq_false hk3
        have HSK : Hid (a.kind < 3 → shas (sbut t s) a.p = false) := fun h => absurd h hk3
        clear hk3
        go_wp2_with fail
        refine (do_any HAx.out HHO.out a HOK.out (fun q hq => by have := HI.out.2.2.1 q hq; omega)).mono ?_
        rintro e w5 ⟨vs5, rfl, hz5, hf5⟩
        have hkg := HGx.out.keep HAx.out hf5 HAP.out
        have hbx5 := HBX.out.fr HAx.out (by decide) (by decide) hf5
        have HZ5 := Lib.hid hz5
        have HG5 := Lib.hid hkg.1
        have HAP5 := Lib.hid hkg.2.symm
        have HC5 := Lib.hid (HCx.out.trans (HAx.out.below hf5 HCx.out.size))
        have e0 := hbx5.cell 0
        have e1 := hbx5.cell 1
        have e2 := hbx5.cell 2
        have e3 := hbx5.cell 3
        clear hz5 hf5 hkg hbx5
        go_wp2_with fail
        refine (do_any HG5.out HGO.out a HOK.out (fun q hq => by have := HI.out.2.2.2 q hq; omega)).mono ?_
        rintro e w6 ⟨vs6, rfl, hz6, hf6⟩
        have hkh := HZ5.out.keep HG5.out hf6 HAP5.out
        have HG6 := Lib.hid hz6
        have HZ6 := Lib.hid hkh.1
        have HAP6 := Lib.hid hkh.2.symm
        have HC6 := Lib.hid (HC5.out.trans (HG5.out.below hf6 HC5.out.size))
        have HB6 := Lib.hid (btr HB1.out HC6.out)
        have HMO6 : Hid (More (H.do a) (G.do a) (sbut t s)) := HMO.out.step a HSK.out
        have HHO6 : Hid (S64 (H.do a).others) := by show S64 _; rw [do_others]; exact HHO.out
        have HGO6 : Hid (S64 (G.do a).others) := by show S64 _; rw [do_others]; exact HGO.out
        have HL6 : Hid ((H.do a).others = oh ∧ (G.do a).others = og ∧ (∀ q, q < 64 → ((H.do a).l q).waits.length ≤ k + 1) ∧ ∀ q, q < 64 → ((G.do a).l q).waits.length ≤ k + 1) :=
          ⟨by rw [do_others]; exact HI.out.1, by rw [do_others]; exact HI.out.2.1, do_len H a HI.out.2.2.1, do_len G a HI.out.2.2.2⟩
        clear hz6 hf6 hkh e0 e1 e2 e3
        generalize H.do a = H' at *
        generalize G.do a = G' at *
        obtain ⟨ah, hah⟩ : ∃ ah : Int, ah = (H'.all : Int) := ⟨_, rfl⟩
        obtain ⟨ag, hag⟩ : ∃ ag : Int, ag = (G'.all : Int) := ⟨_, rfl⟩
        obtain ⟨sh, hsh⟩ : ∃ sh : Int, sh = (H'.safe : Int) := ⟨_, rfl⟩
        obtain ⟨sg, hsg⟩ : ∃ sg : Int, sg = (G'.safe : Int) := ⟨_, rfl⟩
        obtain ⟨cc, hcc⟩ : ∃ cc : Int, cc = (H'.clock : Int) := ⟨_, rfl⟩
        have t1 : decide (ah < ag) = false := decide_eq_false (by have := HMO6.out.all; omega)
        have t2 : decide (sh < sg) = false := decide_eq_false (by have := HMO6.out.safe; omega)
        have HAH := Lib.hid hah
        have HAG := Lib.hid hag
        have HSH := Lib.hid hsh
        have HSG := Lib.hid hsg
        have HCC := Lib.hid hcc
        clear hah hag hsh hsg hcc
        go_wp2_with fail
        refine (hall_num HG6.out HGO6.out (HT.out.below HB6.out) (m := ag) (by rw [HAG.out])).mono ?_
        rintro e w7 ⟨rfl, hb7⟩
        have HG7 := Lib.hid (HG6.out.stay hb7)
        have HZ7 := Lib.hid (HZ6.out.stay hb7)
        have HB7 := Lib.hid (btr HB6.out hb7)
        have HC7 := Lib.hid (HC6.out.trans (hb7.mono HC6.out.size))
        clear hb7
        go_wp2_with fail
        refine (hall_num HZ7.out HHO6.out (HT.out.below HB7.out) (m := ah) (by rw [HAH.out])).mono ?_
        rintro e w8 ⟨rfl, hb8⟩
        have HG8 := Lib.hid (HG7.out.stay hb8)
        have HZ8 := Lib.hid (HZ7.out.stay hb8)
        have HB8 := Lib.hid (btr HB7.out hb8)
        have HC8 := Lib.hid (HC7.out.trans (hb8.mono HC7.out.size))
        clear hb8
        go_wp2_with fail
        refine (hsafe_num HG8.out HGO6.out (HT.out.below HB8.out) (m := sg) (by rw [HSG.out])).mono ?_
        rintro e w9 ⟨rfl, hb9⟩
        have HG9 := Lib.hid (HG8.out.stay hb9)
        have HZ9 := Lib.hid (HZ8.out.stay hb9)
        have HB9 := Lib.hid (btr HB8.out hb9)
        have HC9 := Lib.hid (HC8.out.trans (hb9.mono HC8.out.size))
        clear hb9
        go_wp2_with fail
        refine (hsafe_num HZ9.out HHO6.out (HT.out.below HB9.out) (m := sh) (by rw [HSH.out])).mono ?_
        rintro e w10 ⟨rfl, hb10⟩
        have HG10 := Lib.hid (HG9.out.stay hb10)
        have HZ10 := Lib.hid (HZ9.out.stay hb10)
        have HB10 := Lib.hid (btr HB9.out hb10)
        have HC10 := Lib.hid (HC9.out.trans (hb10.mono HC9.out.size))
        clear hb10
        go_wp2_with fail
        refine (hclock_num HG10.out (m := cc) (by rw [HCC.out, HMO6.out.clock])).mono ?_
        rintro e w' ⟨rfl, rfl⟩
        go_wp2_with fail
        refine (hclock_num HZ10.out (m := cc) (by rw [HCC.out])).mono ?_
        rintro e w' ⟨rfl, rfl⟩
        go_wp2_with fail
        go_roundw
        case rel => exact ⟨k + 1, H', G', vs5, vs6, by omega, by go_num, HZ10.out, HG10.out, HAP6.out, HMO6.out, HL6.out, HC10.out⟩
        case measure => simp [intOf] <;> omega
    · obtain rfl : k = m := by omega
      clear hlt hk
      go_wp2_with fail
      go_ret
      exact ⟨rfl, btr HB1.out HC.out⟩
end Go.Proofs.YtheeclmpkddgjaaDoor
