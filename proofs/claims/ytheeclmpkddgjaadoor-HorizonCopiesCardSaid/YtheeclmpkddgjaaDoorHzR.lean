import Derived.Test.YtheeclmpkddgjaaDoorHzU
namespace Go.Proofs.YtheeclmpkddgjaaDoor
set_option linter.unusedVariables false
set_option linter.unusedSimpArgs false
open Go.RowKit
/-- the horizon behind the first k calls -/
def Hz.run (H : Hz) (l : List Ac) (k : Nat) : Hz := (l.take k).foldl Hz.do H
theorem Hz.run_succ (H : Hz) (l : List Ac) (k : Nat) (h : k < l.length) : H.run l (k + 1) = (H.run l k).do l[k] := by
  unfold Hz.run
  rw [List.take_succ_eq_append_getElem h, List.foldl_append]
  rfl
theorem Hz.run_others (H : Hz) (l : List Ac) : ∀ k, (H.run l k).others = H.others := by
  unfold Hz.run
  intro k
  generalize l.take k = l
  induction l generalizing H with
  | nil => rfl
  | cons a l ih => rw [List.foldl_cons, ih, do_others]
theorem Hz.run_len (H : Hz) (l : List Ac) (h : ∀ q, q < 64 → (H.l q).waits.length ≤ 0) : ∀ k, k ≤ l.length → ∀ q, q < 64 → ((H.run l k).l q).waits.length ≤ k
  | 0, _ => fun q hq => by simpa [Hz.run] using h q hq
  | k + 1, hk => by
    rw [H.run_succ l k (by omega)]
    exact do_len _ _ (Hz.run_len H l h k (by omega))
set_option maxRecDepth 100000 in
set_option maxHeartbeats 8000000 in
theorem horizonCopies_law {s : Nat} (hs : S64 s) {v : Value} {script : List Ac} {w : World} (hT : Tab w) (hv : Acs w v script) (at' : Int) :
    Calls Tryd.prog 15 #[.int .u64 (s : Int), v, .int .i64 at'] w fun e w' => e = .returned (.bool true) ∧ Below w.heap.size w w' := by
  obtain ⟨A, c, rfl, _⟩ := hv.slice
  have HT := Lib.hid hT
  have HV := Lib.hid hv
  clear hT hv
  by_cases hc1 : script.length > 100
  · have h1 : decide (100 < (script.length : Int)) = true := decide_eq_true (by omega)
    clear hc1
    go_enter Tryd.func15, Tryd.ntmps15
    go_wp2_with fail
    refine (awake13 HT.out).mono ?_
    rintro e w1 ⟨rfl, hb1⟩
    have HB1 := Lib.hid hb1
    clear hb1
    go_wp2_with fail
    go_ret
    exact ⟨rfl, HB1.out⟩
  have h1 : decide (100 < (script.length : Int)) = false := decide_eq_false (by omega)
  by_cases hc2 : at' < 0
  · have h2 : decide (at' < 0) = true := decide_eq_true hc2
    clear hc2 hc1
    go_enter Tryd.func15, Tryd.ntmps15
    go_wp2_with fail
    refine (awake13 HT.out).mono ?_
    rintro e w1 ⟨rfl, hb1⟩
    have HB1 := Lib.hid hb1
    clear hb1
    go_wp2_with fail
    go_ret
    exact ⟨rfl, HB1.out⟩
  have h2 : decide (at' < 0) = false := decide_eq_false hc2
  by_cases hc3 : (script.length : Int) < at'
  · have h3 : decide ((script.length : Int) < at') = true := decide_eq_true hc3
    clear hc3 hc2 hc1
    go_enter Tryd.func15, Tryd.ntmps15
    go_wp2_with fail
    refine (awake13 HT.out).mono ?_
    rintro e w1 ⟨rfl, hb1⟩
    have HB1 := Lib.hid hb1
    clear hb1
    go_wp2_with fail
    go_ret
    exact ⟨rfl, HB1.out⟩
  have h3 : decide ((script.length : Int) < at') = false := decide_eq_false hc3
  obtain ⟨n, hn⟩ : ∃ n, n = script.length := ⟨_, rfl⟩
  have hn1 : n ≤ 100 := by omega
  have HN := Lib.hid hn
  obtain ⟨j, rfl⟩ : ∃ j : Nat, at' = (j : Int) := ⟨at'.toNat, by omega⟩
  have hj : j ≤ n := by omega
  have hvm := HV.out
  rw [← hn] at hvm h1 h3 ⊢
  have HVM := Lib.hid hvm
  clear hc1 hc2 hc3 hn hvm
  go_enter Tryd.func15, Tryd.ntmps15
  go_wp2_with fail
  refine (awake13 HT.out).mono ?_
  rintro e w1 ⟨rfl, hb1⟩
  have HB1 := Lib.hid hb1
  clear hb1
  go_wp2_with fail
  refine (new_any (base := w1.heap.size) 0 hs (Nat.le_refl _)).mono ?_
  rintro e w2 ⟨g, rfl, hz2, hb2, hg2⟩
  obtain ⟨H0, hH0⟩ : ∃ H0, H0 = Hz.new (sless s [0]) := ⟨_, rfl⟩
  rw [← hH0] at hz2
  have hro : ∀ k, S64 (H0.run script k).others := fun k => by rw [Hz.run_others, hH0]; exact hs.less _
  have hrl : ∀ k, k ≤ n → ∀ q, q < 64 → ((H0.run script k).l q).waits.length ≤ k := fun k hk => Hz.run_len H0 script (fun q _ => by rw [hH0]; exact Nat.le_refl 0) k (by rw [← HN.out]; exact hk)
  have HRO := Lib.hid hro
  have HRL := Lib.hid hrl
  have HZ2 := Lib.hid hz2
  have HB2 := Lib.hid hb2
  clear hz2 hb2 hro hrl hH0 hg2
  go_wp2_with fail
  go_loopw [8] (fun i wr => ∃ (k : Nat) (vs : Nat → Value), k ≤ j ∧ i = .int .i64 k ∧ Hid (HzAt w1.heap.size wr g (H0.run script k) vs) ∧ Hid (Below w1.heap.size w1 wr)) (fun i _ => j - (intOf i).toNat)
  case atStart => exact ⟨0, _, by omega, rfl, HZ2.out, HB2.out⟩
  case round =>
    obtain ⟨k, vs, hk, rfl, HZ, HC⟩ := hrel
    by_cases hlt : k < j
    · have hlt2 : k < script.length := by rw [← HN.out]; omega
      have hlt3 : k < n := by omega
      obtain ⟨b, off, rfl, d0, d1, d2, d3, hbl, hok⟩ := Acs.cells (HVM.out.below (btr HB1.out HC.out)) k hlt2
      have hsu := Hz.run_succ H0 script k hlt2
      obtain ⟨a, ha⟩ : ∃ a, a = script[k] := ⟨_, rfl⟩
      rw [← ha] at d0 d1 d2 d3 hok hsu
      have HOK := Lib.hid hok
      have HSU := Lib.hid hsu
      clear ha hlt2 hok hsu
      go_wp2_with fail
      refine (do_any HZ.out (HRO.out k) a HOK.out (fun q hq => by have := HRL.out k (by omega) q hq; omega)).mono ?_
      rintro e w5 ⟨vs5, rfl, hz5, hf5⟩
      rw [← HSU.out] at hz5
      have HZ5 := Lib.hid hz5
      have HC5 := Lib.hid (HC.out.trans (HZ.out.below hf5 HC.out.size))
      clear hz5 hf5
      go_wp2_with fail
      go_roundw
      case rel => exact ⟨k + 1, vs5, by omega, by go_num, HZ5, HC5⟩
      case measure => simp [intOf] <;> omega
    · obtain rfl : k = j := by omega
      clear hlt hk
      go_wp2_with fail
      refine (hcopy_any HZ.out HC.out.size (fun q hq => by have := HRL.out k (by omega) q hq; omega)).mono ?_
      rintro e w3 ⟨g2, vs2, rfl, hz3, hap3, hb3⟩
      have HA3 := Lib.hid (HZ.out.stay hb3)
      have HG3 := Lib.hid hz3
      have HP3 := Lib.hid hap3
      have HC3 := Lib.hid (btr HC.out hb3)
      have HT3 := Lib.hid (HT.out.below (btr HB1.out HC3.out))
      clear hz3 hap3 hb3
      obtain ⟨ah, hah⟩ : ∃ ah : Int, ah = ((H0.run script k).all : Int) := ⟨_, rfl⟩
      obtain ⟨sh, hsh⟩ : ∃ sh : Int, sh = ((H0.run script k).safe : Int) := ⟨_, rfl⟩
      obtain ⟨cc, hcc⟩ : ∃ cc : Int, cc = ((H0.run script k).clock : Int) := ⟨_, rfl⟩
      have HAH := Lib.hid hah
      have HSH := Lib.hid hsh
      have HCC := Lib.hid hcc
      clear hah hsh hcc
      go_wp2_with fail
      refine (hall_num HA3.out (HRO.out k) HT3.out (m := ah) HAH.out.symm).mono ?_
      rintro e w4 ⟨rfl, hb4⟩
      have HA4 := Lib.hid (HA3.out.stay hb4)
      have HG4 := Lib.hid (HG3.out.stay hb4)
      have HC4 := Lib.hid (btr HC3.out hb4)
      have HT4 := Lib.hid (HT3.out.below hb4)
      clear hb4
      go_wp2_with fail
      refine (hsafe_num HA4.out (HRO.out k) HT4.out (m := sh) HSH.out.symm).mono ?_
      rintro e w5 ⟨rfl, hb5⟩
      have HA5 := Lib.hid (HA4.out.stay hb5)
      have HG5 := Lib.hid (HG4.out.stay hb5)
      have HC5 := Lib.hid (btr HC4.out hb5)
      clear hb5
      go_wp2_with fail
      refine (hclock_num HA5.out (m := cc) HCC.out.symm).mono ?_
      rintro e w' ⟨rfl, rfl⟩
      clear HZ HC HA3 HG3 HC3 HT3 HA4 HG4 HC4 HT4
      go_wp2_with fail
      go_loopw [13] (fun i wr => ∃ (m : Nat) (vs3 : Nat → Value), m ≤ n ∧ i = .int .i64 m ∧ Hid (HzAt w1.heap.size wr g (H0.run script m) vs3) ∧ Hid (HzAt w1.heap.size wr g2 (H0.run script k) vs2) ∧ Hid (Apart g vs3 g2 vs2) ∧ Hid (Below w1.heap.size w1 wr)) (fun i _ => n - (intOf i).toNat)
      case atStart => exact ⟨k, vs, by omega, rfl, HA5.out, HG5.out, HP3.out, HC5.out⟩
      case round =>
        obtain ⟨m, vs3, hm, rfl, HZ, HG, HP, HC⟩ := hrel
        by_cases hlt : m < n
        · have hlt2 : m < script.length := by rw [← HN.out]; omega
          obtain ⟨b, off, rfl, d0, d1, d2, d3, hbl, hok⟩ := Acs.cells (HVM.out.below (btr HB1.out HC.out)) m hlt2
          have hsu := Hz.run_succ H0 script m hlt2
          obtain ⟨a, ha⟩ : ∃ a, a = script[m] := ⟨_, rfl⟩
          rw [← ha] at d0 d1 d2 d3 hok hsu
          have HOK := Lib.hid hok
          have HSU := Lib.hid hsu
          clear ha hlt2 hok hsu
          go_wp2_with fail
          refine (do_any HZ.out (HRO.out m) a HOK.out (fun q hq => by have := HRL.out m (by omega) q hq; omega)).mono ?_
          rintro e w6 ⟨vs6, rfl, hz6, hf6⟩
          have hkg := HG.out.keep HZ.out hf6 HP.out
          rw [← HSU.out] at hz6
          have HZ6 := Lib.hid hz6
          have HG6 := Lib.hid hkg.1
          have HP6 := Lib.hid hkg.2
          have HC6 := Lib.hid (HC.out.trans (HZ.out.below hf6 HC.out.size))
          clear hz6 hf6 hkg
          go_wp2_with fail
          go_roundw
          case rel => exact ⟨m + 1, vs6, by omega, by go_num, HZ6, HG6, HP6, HC6⟩
          case measure => simp [intOf] <;> omega
        · obtain rfl : m = n := by omega
          clear hlt hm
          have HTx := Lib.hid (HT.out.below (btr HB1.out HC.out))
          go_wp2_with fail
          refine (hall_num HG.out (HRO.out k) HTx.out (m := ah) HAH.out.symm).mono ?_
          rintro e w7 ⟨rfl, hb7⟩
          have HZ7 := Lib.hid (HZ.out.stay hb7)
          have HG7 := Lib.hid (HG.out.stay hb7)
          have HC7 := Lib.hid (btr HC.out hb7)
          have HT7 := Lib.hid (HTx.out.below hb7)
          clear hb7
          go_wp2_with fail
          refine (hsafe_num HG7.out (HRO.out k) HT7.out (m := sh) HSH.out.symm).mono ?_
          rintro e w8 ⟨rfl, hb8⟩
          have HZ8 := Lib.hid (HZ7.out.stay hb8)
          have HG8 := Lib.hid (HG7.out.stay hb8)
          have HC8 := Lib.hid (btr HC7.out hb8)
          clear hb8
          go_wp2_with fail
          refine (hclock_num HG8.out (m := cc) HCC.out.symm).mono ?_
          rintro e w' ⟨rfl, rfl⟩
          clear HZ HG HC HTx HZ7 HG7 HC7 HT7 HA5 HG5 HC5
          go_wp2_with fail
          go_loopw [14] (fun i wr => ∃ (q : Nat) (vs4 : Nat → Value), q ≤ m ∧ i = .int .i64 q ∧ Hid (HzAt w1.heap.size wr g2 (H0.run script q) vs4) ∧ Hid (HzAt w1.heap.size wr g (H0.run script m) vs3) ∧ Hid (Apart g2 vs4 g vs3) ∧ Hid (Below w1.heap.size w1 wr)) (fun i _ => m - (intOf i).toNat)
          case atStart => exact ⟨k, vs2, by omega, rfl, HG8.out, HZ8.out, HP.out.symm, HC8.out⟩
          case round =>
            obtain ⟨q, vs4, hq, rfl, HZ, HG, HP, HC⟩ := hrel
            by_cases hlt : q < m
            · have hlt2 : q < script.length := by rw [← HN.out]; omega
              obtain ⟨b, off, rfl, d0, d1, d2, d3, hbl, hok⟩ := Acs.cells (HVM.out.below (btr HB1.out HC.out)) q hlt2
              have hsu := Hz.run_succ H0 script q hlt2
              obtain ⟨a, ha⟩ : ∃ a, a = script[q] := ⟨_, rfl⟩
              rw [← ha] at d0 d1 d2 d3 hok hsu
              have HOK := Lib.hid hok
              have HSU := Lib.hid hsu
              clear ha hlt2 hok hsu
              go_wp2_with fail
              refine (do_any HZ.out (HRO.out q) a HOK.out (fun p hp => by have := HRL.out q (by omega) p hp; omega)).mono ?_
              rintro e w6 ⟨vs6, rfl, hz6, hf6⟩
              have hkg := HG.out.keep HZ.out hf6 HP.out
              rw [← HSU.out] at hz6
              have HZ6 := Lib.hid hz6
              have HG6 := Lib.hid hkg.1
              have HP6 := Lib.hid hkg.2
              have HC6 := Lib.hid (HC.out.trans (HZ.out.below hf6 HC.out.size))
              clear hz6 hf6 hkg
              go_wp2_with fail
              go_roundw
              case rel => exact ⟨q + 1, vs6, by omega, by go_num, HZ6, HG6, HP6, HC6⟩
              case measure => simp [intOf] <;> omega
            · obtain rfl : q = m := by omega
              clear hlt hq
              have HTx := Lib.hid (HT.out.below (btr HB1.out HC.out))
              obtain ⟨an, han⟩ : ∃ an : Int, an = ((H0.run script q).all : Int) := ⟨_, rfl⟩
              obtain ⟨sn, hsn⟩ : ∃ sn : Int, sn = ((H0.run script q).safe : Int) := ⟨_, rfl⟩
              obtain ⟨cn, hcn⟩ : ∃ cn : Int, cn = ((H0.run script q).clock : Int) := ⟨_, rfl⟩
              have HAN := Lib.hid han
              have HSN := Lib.hid hsn
              have HCN := Lib.hid hcn
              clear han hsn hcn
              go_wp2_with fail
              refine (hall_num HZ.out (HRO.out q) HTx.out (m := an) HAN.out.symm).mono ?_
              rintro e u1 ⟨rfl, c1⟩
              have HZ1 := Lib.hid (HZ.out.stay c1)
              have HG1 := Lib.hid (HG.out.stay c1)
              have HC1 := Lib.hid (btr HC.out c1)
              have HT1 := Lib.hid (HTx.out.below c1)
              clear c1
              go_wp2_with fail
              refine (hall_num HG1.out (HRO.out q) HT1.out (m := an) HAN.out.symm).mono ?_
              rintro e u2 ⟨rfl, c2⟩
              have HZ2' := Lib.hid (HZ1.out.stay c2)
              have HG2 := Lib.hid (HG1.out.stay c2)
              have HC2 := Lib.hid (btr HC1.out c2)
              have HT2 := Lib.hid (HT1.out.below c2)
              clear c2
              go_wp2_with fail
              refine (hsafe_num HZ2'.out (HRO.out q) HT2.out (m := sn) HSN.out.symm).mono ?_
              rintro e u3 ⟨rfl, c3⟩
              have HZ3 := Lib.hid (HZ2'.out.stay c3)
              have HG3 := Lib.hid (HG2.out.stay c3)
              have HC3 := Lib.hid (btr HC2.out c3)
              have HT3 := Lib.hid (HT2.out.below c3)
              clear c3
              go_wp2_with fail
              refine (hsafe_num HG3.out (HRO.out q) HT3.out (m := sn) HSN.out.symm).mono ?_
              rintro e u4 ⟨rfl, c4⟩
              have HZ4 := Lib.hid (HZ3.out.stay c4)
              have HG4 := Lib.hid (HG3.out.stay c4)
              have HC4 := Lib.hid (btr HC3.out c4)
              clear c4
              go_wp2_with fail
              refine (hclock_num HZ4.out (m := cn) HCN.out.symm).mono ?_
              rintro e w' ⟨rfl, rfl⟩
              go_wp2_with fail
              refine (hclock_num HG4.out (m := cn) HCN.out.symm).mono ?_
              rintro e w' ⟨rfl, rfl⟩
              go_wp2_with fail
              go_ret
              exact ⟨rfl, btr HB1.out HC4.out⟩
end Go.Proofs.YtheeclmpkddgjaaDoor
