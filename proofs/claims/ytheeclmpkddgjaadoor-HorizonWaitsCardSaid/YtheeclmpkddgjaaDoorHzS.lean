import Derived.Test.YtheeclmpkddgjaaDoorHzN
import Derived.Test.YtheeclmpkddgjaaDoorHzQ
namespace Go.Proofs.YtheeclmpkddgjaaDoor
set_option linter.unusedVariables false
set_option linter.unusedSimpArgs false
open Go.RowKit
def encW (x : Nat) : Value := .int .u32 (x : Int)
abbrev U32s (w : World) (v : Value) (xs : List Nat) : Prop := Sl (one encW) 1 w v xs
theorem U32s.at {w : World} {A : Option Addr} {n c : Nat} {xs : List Nat} (h : U32s w (.slice A n c) xs) (k : Nat) (hk : k < xs.length) : ∃ b off, A = some (⟨b, off, none⟩ : Addr) ∧ w.cell? ⟨b, off + k, none⟩ = some (.int .u32 (xs[k] : Int)) ∧ b < w.heap.size := by
  obtain ⟨b, off, cs, hA, rfl, _, hr⟩ := Sl.at h k hk
  have h0 := hr 0 _ rfl
  exact ⟨b, off, hA, by simpa [encW] using h0, World.block_lt_of_cell? w _ h0⟩
set_option maxRecDepth 100000 in
set_option maxHeartbeats 8000000 in
theorem horizonWaits_law {stamp sent : Nat} (hs : S64 stamp) {v : Value} {came : List Nat} {w : World} (hT : Tab w) (hv : U32s w v came) :
    Calls Tryd.prog 13 #[.int .u64 (stamp : Int), .int .u32 (sent : Int), v] w fun e w' => e = .returned (.bool true) ∧ Below w.heap.size w w' := by
  obtain ⟨A, c, rfl, _⟩ := hv.slice
  have HT := Lib.hid hT
  have HV := Lib.hid hv
  have HS := Lib.hid hs
  clear hT hv hs
  by_cases hst : stamp < 1
  · have hd : decide ((stamp : Int) < 1) = true := decide_eq_true (by omega)
    go_enter Tryd.func13, Tryd.ntmps13
    go_wp2_with fail
    refine (awake13 HT.out).mono ?_
    rintro e w1 ⟨rfl, hb1⟩
    have HB1 := Lib.hid hb1
    clear hb1
    go_wp2_with fail
    go_ret
    exact ⟨rfl, HB1.out⟩
  have hd : decide ((stamp : Int) < 1) = false := decide_eq_false (by omega)
  by_cases hc1 : came.length > 100
  · have h1 : decide (100 < (came.length : Int)) = true := decide_eq_true (by omega)
    clear hc1
    go_enter Tryd.func13, Tryd.ntmps13
    go_wp2_with fail
    refine (awake13 HT.out).mono ?_
    rintro e w1 ⟨rfl, hb1⟩
    have HB1 := Lib.hid hb1
    clear hb1
    go_wp2_with fail
    go_ret
    exact ⟨rfl, HB1.out⟩
  have h1 : decide (100 < (came.length : Int)) = false := decide_eq_false (by omega)
  obtain ⟨m, hm⟩ : ∃ m, m = came.length := ⟨_, rfl⟩
  have hm3 : m ≤ 100 := by omega
  have HM := Lib.hid hm
  rw [← hm] at h1
  rw [← hm]
  have hvm := HV.out
  rw [← hm] at hvm
  have HVM := Lib.hid hvm
  have HST := Lib.hid hst
  clear hc1 hm hvm
  go_enter Tryd.func13, Tryd.ntmps13
  go_wp2_with fail
  refine (awake13 HT.out).mono ?_
  rintro e w1 ⟨rfl, hb1⟩
  have HB1 := Lib.hid hb1
  clear hb1
  go_wp2_with fail
  refine (of_num (l := [0, 1]) (by exact Ints.lit _ _ _ _ _ _ (by simp) rfl rfl) (by simp) hs0).mono ?_
  rintro e w' ⟨rfl, rfl⟩
  go_wp2_with fail
  refine (new_num (base := w1.heap.size) (s := 3) rfl ⟨by decide⟩ (by simp)).mono ?_
  rintro e w2 ⟨g, rfl, hz2, hb2, _⟩
  rw [less_three] at hz2
  have HZ2 := Lib.hid hz2
  have HC2 : Hid (Below w1.heap.size w1 w2) := btr (bal (Below.refl _ _) _) hb2
  clear hz2 hb2
  go_wp2_with fail
  refine (promise_any HZ2.out ⟨by decide⟩ 1 HS.out sent (fun q hq => by show (0 : Nat) ≤ _; omega)).mono ?_
  rintro e w3 ⟨vs3, ⟨_, rfl⟩, hz3, hf3⟩
  have HZ3 := Lib.hid hz3
  have HC3 := Lib.hid (HC2.out.trans (HZ2.out.below hf3 HC2.out.size))
  clear hz3 hf3
  obtain ⟨c0, hc0⟩ : ∃ c0 : Bool, c0 = decide (sent = 0) := ⟨_, rfl⟩
  have hcz : ((sent : Int) == 0) = c0 := by
    rw [hc0]
    by_cases h : sent = 0
    · subst h; rfl
    · rw [decide_eq_false h, beq_eq_false_iff_ne]; omega
  have HW3 : Hid (Wt ((Hz.new 2).promise 1 stamp sent) stamp sent c0) := by show Wt _ _ _ c0; rw [hc0]; exact wt_start stamp sent
  have HL3 : Hid (∀ q, q < 64 → (((Hz.new 2).promise 1 stamp sent).l q).waits.length ≤ 1) := fun q hq => by
    have h := do_len (Hz.new 2) ⟨1, 1, sent, stamp⟩ (fun q _ => Nat.le_refl 0) q hq
    rw [show (Hz.new 2).do ⟨1, 1, sent, stamp⟩ = (Hz.new 2).promise 1 stamp sent from by unfold Hz.do; rw [if_neg (show ¬ (1 : Int) = 0 by decide), if_pos (show (1 : Int) = 1 from rfl)]] at h
    exact h
  clear hc0
  go_wp2_with fail
  go_loopw [8, 9, 10] (fun bz cz i wr => ∃ (k : Nat) (H : Hz) (vs : Nat → Value) (z : Int) (cn : Bool), k ≤ m ∧ i = .int .i64 k ∧ bz = .int .u64 z ∧ cz = .bool cn ∧ Hid (cn = false → z = 0) ∧ Hid (HzAt w1.heap.size wr g H vs) ∧ Hid (Wt H stamp sent cn) ∧ Hid (∀ q, q < 64 → (H.l q).waits.length ≤ k + 1) ∧ Hid (Below w1.heap.size w1 wr)) (fun _ _ i _ => m - (intOf i).toNat)
  case atStart => exact ⟨0, _, _, 0, c0, by omega, rfl, rfl, by first | rfl | rw [hcz], fun _ => rfl, HZ3.out, HW3.out, HL3.out, HC3.out⟩
  case round =>
    obtain ⟨k, H, vs, z, cn, hk, rfl, rfl, rfl, HBZ, HZ, HW, HL, HC⟩ := hrel
    by_cases hlt : k < m
    · have hlt2 : k < came.length := by rw [← HM.out]; exact hlt
      have HBW := Lib.hid (btr HB1.out HC.out)
      have HOO : Hid (S64 H.others) := by show S64 _; rw [HW.out.others]; exact ⟨by decide⟩
      have hst1 : ¬ stamp < 1 := HST.out
      obtain ⟨az, haz⟩ : ∃ az : Int, az = (H.all : Int) := ⟨_, rfl⟩
      have hcmp : (az == (stamp : Int)) = cn := by
        rw [haz, HW.out.all]
        cases cn
        · show (((0 : Nat) : Int) == (stamp : Int)) = false
          rw [beq_eq_false_iff_ne]; omega
        · show ((stamp : Int) == (stamp : Int)) = true
          rw [beq_self_eq_true]
      have HAZ := Lib.hid haz
      clear haz hst1
      go_wp2_with fail
      refine (hall_num HZ.out HOO.out (HT.out.below HBW.out) (m := az) (by rw [HAZ.out])).mono ?_
      rintro e w4 ⟨rfl, hb4⟩
      have HZ4 := Lib.hid (HZ.out.stay hb4)
      have HC4 := Lib.hid (HC.out.trans (hb4.mono HC.out.size))
      have HB4 := Lib.hid (btr HBW.out hb4)
      clear hb4
      go_wp2_with fail
      refine (hclock_num HZ4.out (m := (stamp : Int)) (by rw [HW.out.clock])).mono ?_
      rintro e w' ⟨rfl, rfl⟩
      obtain ⟨b, off, rfl, d0, hbl⟩ := U32s.at (HVM.out.below (one_stays _) (by decide) HB4.out) k hlt2
      generalize came[k] = x at *
      go_wp2_with fail
      refine (come_num HZ4.out HOO.out (p := 1) (seq := x) (stamp := 0) rfl rfl ⟨by decide⟩ (fun q hq => by have := HL.out q hq; omega)).mono ?_
      rintro e w5 ⟨vs5, ⟨_, rfl⟩, hz5, hf5⟩
      have hb5 := HZ4.out.below hf5 HC4.out.size
      have HC5 := Lib.hid (HC4.out.trans hb5)
      have HB5 := Lib.hid (btr HB1.out HC5.out)
      have hw5 := wt_step HW.out x
      have hl5 : ∀ q, q < 64 → ((H.come 1 x 0).l q).waits.length ≤ k + 1 + 1 := fun q hq => by
        have h := do_len H ⟨0, 1, x, 0⟩ HL.out q hq
        rw [show H.do ⟨0, 1, x, 0⟩ = H.come 1 x 0 from by unfold Hz.do; rw [if_pos (show (0 : Int) = 0 from rfl)]] at h
        exact h
      have HOO5 : Hid (S64 (H.come 1 x 0).others) := by show S64 _; rw [come_others]; exact HOO.out
      have d5 : w5.cell? ⟨b, off + k, none⟩ = some (.int .u32 (x : Int)) := by
        obtain ⟨b', off', hA', e0, hbl0⟩ := U32s.at HVM.out k hlt2
        injection hA' with hA'
        injection hA' with e1 e2
        exact (hb5.cell (p := ⟨b, _, none⟩) (Nat.lt_of_lt_of_le (by rw [e1]; exact hbl0) HB1.out.size)).trans d0
      have HZ5 := Lib.hid hz5
      generalize H.come 1 x 0 = H5 at *
      have HL5 := Lib.hid hl5
      clear hz5 hf5 hb5 hl5 d0 hbl hcmp hlt2
      cases cn
      · have hz0 : z = 0 := HBZ.out rfl
        subst hz0
        by_cases hsx : sent ≤ x
        · have hd5 : decide (sent ≤ x) = true := decide_eq_true hsx
          rw [hd5] at hw5
          have HW5 : Hid (Wt H5 stamp sent true) := hw5
          clear hw5
          have HALL : Hid (((H5.all : Nat) : Int) = (stamp : Int)) := by show _ = _; rw [HW5.out.all]; rfl
          go_wp2_with fail
          refine (hall_num HZ5.out HOO5.out (HT.out.below HB5.out) HALL.out).mono ?_
          rintro e w6 ⟨rfl, hb6⟩
          have HZ6 := Lib.hid (HZ5.out.stay hb6)
          have HC6 := Lib.hid (HC5.out.trans (hb6.mono HC5.out.size))
          clear hb6
          go_wp2_with fail
          go_roundw
          case rel => exact ⟨k + 1, H5, vs5, (stamp : Int), true, by omega, by go_num, rfl, rfl, (fun h => by cases h), HZ6.out, HW5.out, HL5.out, HC6.out⟩
          case measure => simp [intOf] <;> omega
        · have hd5 : decide (sent ≤ x) = false := decide_eq_false hsx
          rw [hd5] at hw5
          have HW5 : Hid (Wt H5 stamp sent false) := hw5
          clear hw5
          have HALL : Hid (((H5.all : Nat) : Int) = 0) := by show _ = _; rw [HW5.out.all]; rfl
          go_wp2_with fail
          refine (hall_num HZ5.out HOO5.out (HT.out.below HB5.out) HALL.out).mono ?_
          rintro e w6 ⟨rfl, hb6⟩
          have HZ6 := Lib.hid (HZ5.out.stay hb6)
          have HC6 := Lib.hid (HC5.out.trans (hb6.mono HC5.out.size))
          clear hb6
          go_wp2_with fail
          go_roundw
          case rel => exact ⟨k + 1, H5, vs5, 0, false, by omega, by go_num, rfl, rfl, fun _ => rfl, HZ6.out, HW5.out, HL5.out, HC6.out⟩
          case measure => simp [intOf] <;> omega
      · have HW5 : Hid (Wt H5 stamp sent true) := hw5
        clear hw5
        have HALL : Hid (((H5.all : Nat) : Int) = (stamp : Int)) := by show _ = _; rw [HW5.out.all]; rfl
        go_wp2_with fail
        refine (hall_num HZ5.out HOO5.out (HT.out.below HB5.out) HALL.out).mono ?_
        rintro e w6 ⟨rfl, hb6⟩
        have HZ6 := Lib.hid (HZ5.out.stay hb6)
        have HC6 := Lib.hid (HC5.out.trans (hb6.mono HC5.out.size))
        clear hb6
        go_wp2_with fail
        go_roundw
        case rel => exact ⟨k + 1, H5, vs5, (stamp : Int), true, by omega, by go_num, rfl, rfl, (fun h => by cases h), HZ6.out, HW5.out, HL5.out, HC6.out⟩
        case measure => simp [intOf] <;> omega
    · obtain rfl : k = m := by omega
      clear hlt hk
      go_wp2_with fail
      go_ret
      exact ⟨rfl, btr HB1.out HC.out⟩
end Go.Proofs.YtheeclmpkddgjaaDoor
