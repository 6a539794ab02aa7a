import Derived.Test.YtheeclmpkddgjaaVtO
import Derived.Test.YtheeclmpkddgjaaVtB
import Derived.Deep.Cut
import Derived.Deep.RegionHeld3
import Derived.BigQuiet
namespace Go.Proofs.Ytheeclmpkddgjaa
set_option linter.unusedVariables false
set_option linter.unusedSimpArgs false
open Go.RowKit
theorem vadd_any {w : World} {v0 v1 v2 v3 : Value} {A : Option Addr} {q c : Nat} {L : List Vw} (hv : Views w (.slice A q c) L) (f : Vw) (hf : f.Ok) (h4 : #[v0, v1, v2, v3].all (·.oneCell') = true) {r : Rcd} (hr : r.pend = L) :
    Calls Try.prog 21 #[.agg #[v0, v1, v2, v3, .slice A q c], .agg #[.int .u64 (f.number : Int), .int .u64 (f.epoch : Int), .int .i64 f.rep, .int .u64 (f.members : Int)]] w fun e w' =>
      ∃ A' q' c', e = .returned (.tuple #[.agg #[v0, v1, v2, v3, .slice A' q' c'], .bool (vok r)]) ∧ Below w.heap.size w w' ∧ Views w' (.slice A' q' c') (vadd r f).pend := by
  have hql : q = L.length := by
    obtain ⟨A', c', h, _⟩ := hv.slice
    injection h
  by_cases h : q < 32
  · have hk : vok r = true := by unfold vok; rw [hr, ← hql]; exact decide_eq_true h
    have hp : (vadd r f).pend = L ++ [f] := by unfold vadd; rw [if_pos hk, ← hr]
    rw [hk, hp]
    refine (vaddYes_any hv h f h4).mono ?_
    rintro e w' ⟨A', c', rfl, hb, ho⟩
    refine ⟨A', _, c', rfl, hb, Views.of_own ho (by rw [List.length_append, ← hql]; rfl) (fun x hx => ?_)⟩
    rcases List.mem_append.1 hx with hx | hx
    · exact hv.ok x hx
    · rw [List.mem_singleton.1 hx]; exact hf
  · have hk : vok r = false := by unfold vok; rw [hr, ← hql]; exact decide_eq_false h
    have hp : (vadd r f).pend = L := by unfold vadd; rw [if_neg (by rw [hk]; decide), ← hr]
    rw [hk, hp]
    refine (vaddNo_any (by omega) f h4).mono ?_
    rintro e w' ⟨rfl, hb⟩
    exact ⟨A, q, c, rfl, hb, hv.below hb⟩
theorem vadd_len (r : Rcd) (v : Vw) : (vadd r v).pend.length ≤ r.pend.length + 1 := by
  unfold vadd
  split
  · simp
  · omega
theorem vadd_snum {r : Rcd} {v : Vw} (h : r.last.Ok) (hp : ∀ x, x ∈ r.pend → x.Ok) (hv : v.Ok) : ∀ q, q ∈ [vadd r v] → S64 q.last.number ∧ ∀ x, x ∈ q.pend → S64 x.number := fun q hq => by
  rw [List.mem_singleton.1 hq, vadd_last]
  refine ⟨h.number, fun x hx => ?_⟩
  rcases vadd_sub hx with hx | rfl
  · exact (hp x hx).number
  · exact hv.number
theorem vmay_bare (v : Vw) (m : Nat) : vmay m [(⟨v, []⟩ : Rcd)] = smost m v.members := by
  have : vpend [(⟨v, []⟩ : Rcd)] = [] := rfl
  unfold vmay
  rw [this, vlast_one]
  simp
set_option maxRecDepth 20000 in
set_option maxHeartbeats 8000000 in
theorem voteMore_law {w : World} {r : Rcd} {A : Option Addr} {q c : Nat} (hl : r.last.Ok) (hv : Views w (.slice A q c) r.pend) {v : Vw} (hvo : v.Ok) {m : Nat} (hm : S64 m) :
    Calls Try.prog 4 #[.agg #[.int .u64 (r.last.number : Int), .int .u64 (r.last.epoch : Int), .int .i64 r.last.rep, .int .u64 (r.last.members : Int), .slice A q c], .agg #[.int .u64 (v.number : Int), .int .u64 (v.epoch : Int), .int .i64 v.rep, .int .u64 (v.members : Int)], .int .u64 (m : Int)] w fun e w' => e = .returned (.bool true) ∧ Below w.heap.size w w' := by
  have hql : q = r.pend.length := by
    obtain ⟨A', c', h, _⟩ := hv.slice
    injection h
  obtain ⟨w0, hw0⟩ : ∃ w0, w0 = (w.alloc (.cells #[.int .u64 (r.last.number : Int), .int .u64 (r.last.epoch : Int), .int .i64 r.last.rep, .int .u64 (r.last.members : Int), .slice A q c] 34)).alloc (.cells #[.int .u64 (v.number : Int), .int .u64 (v.epoch : Int), .int .i64 v.rep, .int .u64 (v.members : Int)] 31) := ⟨_, rfl⟩
  have hb0 : Below w.heap.size w w0 := by rw [hw0]; exact bal (bal (Below.refl _ _) _) _
  have hs0 : w0.heap.size = w.heap.size + 2 := by rw [hw0]; simp
  obtain ⟨g, hg⟩ : ∃ g, g = w.heap.size := ⟨_, rfl⟩
  have hp : Blk w0 g 34 #[.int .u64 (r.last.number : Int), .int .u64 (r.last.epoch : Int), .int .i64 r.last.rep, .int .u64 (r.last.members : Int), .slice A q c] := by rw [hw0]; exact (Blk.new _ _ _ hg).old _
  have hf : Blk w0 (g + 1) 31 (vwA v) := by rw [hw0]; exact Blk.new _ _ _ (by rw [hg]; simp)
  have HV := Lib.hid (hv.below hb0)
  have HB0 := Lib.hid hb0
  have HS0 := Lib.hid hs0
  have HP := Lib.hid hp
  have HF := Lib.hid hf
  have HL := Lib.hid hl
  have HVO := Lib.hid hvo
  have HM := Lib.hid hm
  have HQL := Lib.hid hql
  have HG := Lib.hid hg
  have HW0 := Lib.hid hw0
  clear hv hb0 hs0 hp hf hl hvo hm hql hg hw0
  by_cases hq : q > 300
  · have hd : decide ((300 : Int) < (q : Int)) = true := decide_eq_true (by omega)
    have p4 := HP.out.cell 4
    have hl0 := HP.out.lt
    clear hq
    go_enter Try.func4, Try.ntmps4
    go_wp2_with fail
    rw [← HW0.out, ← HG.out]
    refine awake18.mono ?_
    rintro e w1 ⟨rfl, hb1⟩
    have HB1 := Lib.hid (btr HB0.out (hb1.mono (Nat.le_refl _)))
    have p4' := (HP.out.stay hb1).cell 4
    clear hb1 p4
    go_wp2_with fail
    go_ret
    exact ⟨rfl, HB1.out⟩
  have hd : decide ((300 : Int) < (q : Int)) = false := decide_eq_false (by omega)
  have hq3 : q ≤ 300 := by omega
  clear hq
  go_enter Try.func4, Try.ntmps4
  go_wp2_with fail
  rw [← HW0.out, ← HG.out]
  refine awake18.mono ?_
  rintro e w1 ⟨rfl, hb1⟩
  have HB1 := Lib.hid (btr HB0.out hb1)
  have HP1 := Lib.hid (HP.out.stay hb1)
  have HF1 := Lib.hid (HF.out.stay hb1)
  have HV1 := Lib.hid (HV.out.below hb1)
  have p0 := HP1.out.cell 0
  have p1 := HP1.out.cell 1
  have p2 := HP1.out.cell 2
  have p3 := HP1.out.cell 3
  have p4 := HP1.out.cell 4
  have f0 := HF1.out.cell 0
  have f1 := HF1.out.cell 1
  have f2 := HF1.out.cell 2
  have f3 := HF1.out.cell 3
  simp only [vwA] at f0 f1 f2 f3
  clear hb1
  go_wp2_with fail
  refine (vadd_any HV1.out v HVO.out (by simp [Value.oneCell']) (r := r) rfl).mono ?_
  rintro e w2 ⟨A2, q2, c2, rfl, hb2, hv2⟩
  obtain ⟨ok, hok⟩ : ∃ ok, ok = vok r := ⟨_, rfl⟩
  rw [← hok]
  obtain ⟨S, hS⟩ : ∃ S, S = vadd r v := ⟨_, rfl⟩
  rw [← hS] at hv2
  have hSl : S.last = r.last := by rw [hS, vadd_last]
  obtain ⟨wz, hwz⟩ : ∃ wz, wz = w2.alloc (.cells #[.int .u64 (r.last.number : Int), .int .u64 (r.last.epoch : Int), .int .i64 r.last.rep, .int .u64 (r.last.members : Int), .slice A2 q2 c2] 34) := ⟨_, rfl⟩
  obtain ⟨g7, hg7⟩ : ∃ g7, g7 = w2.heap.size := ⟨_, rfl⟩
  have hbz : Below w1.heap.size w1 wz := by rw [hwz]; exact bal hb2 _
  have HPz := Lib.hid (HP1.out.stay hbz)
  have HFz := Lib.hid (HF1.out.stay hbz)
  have HSz : Hid (Blk wz g7 34 #[.int .u64 (r.last.number : Int), .int .u64 (r.last.epoch : Int), .int .i64 r.last.rep, .int .u64 (r.last.members : Int), .slice A2 q2 c2]) := by
    show Blk _ _ _ _
    rw [hwz]; exact Blk.new _ _ _ hg7
  have HVz : Hid (Views wz (.slice A2 q2 c2) S.pend) := by
    show Views _ _ _
    rw [hwz]; exact hv2.below (bal (Below.refl _ _) _)
  have HVRz := Lib.hid (HV1.out.below hbz)
  have HBz := Lib.hid (btr HB1.out hbz)
  have HOK := Lib.hid hok
  have HS := Lib.hid hS
  have HSL := Lib.hid hSl
  have HWZ := Lib.hid hwz
  have HG7 := Lib.hid hg7
  clear hb2 hv2 hok hS hSl hwz hbz hg7 p0 p1 p2 p3 p4 f0 f1 f2 f3
  go_upto_region 6 with fail
  rw [← HWZ.out, ← HG7.out]
  have HVOK := Lib.hid HVz.out.ok
  have HVRK := Lib.hid HVRz.out.ok
  have HSLN : Hid (S.pend.length ≤ 301) := by
    show _ ≤ _
    rw [HS.out]
    have h1 := vadd_len r v
    have h2 := HQL.out
    omega
  have HFS : Hid (FewR [S]) := FewR.one (by have := HSLN.out; omega)
  have HFR : Hid (FewR [r]) := FewR.one (by have := HQL.out; omega)
  have HSO : Hid (S.last.Ok) := by show Vw.Ok _; rw [HSL.out]; exact HL.out
  go_cut [37] from 12 (fun x wx => x = .bool false ∧ Hid (Below wz.heap.size wz wx))
  case first =>
      have s0 := HSz.out.cell 0
      have s1 := HSz.out.cell 1
      have s2 := HSz.out.cell 2
      have s3 := HSz.out.cell 3
      have s4 := HSz.out.cell 4
      have hgz := HSz.out.lt
      cases ok with
      | false =>
        go_wp2_with fail
        go_meet
        exact ⟨rfl, Below.refl _ _⟩
      | true =>
        rcases Bool.eq_false_or_eq_true (vmay m [S]) with h1 | h1
        rotate_left
        · have H1 := Lib.hid h1
          clear h1
          go_wp2_with fail
          refine (vmay_any (Recs.one HSO.out HVz.out (by simp) (by rw [HSL.out])) HFS.out HM.out H1.out).mono ?_
          rintro e w3 ⟨rfl, hb3⟩
          have HB3 := Lib.hid (btr (bal (Below.refl _ _) _) hb3)
          clear hb3
          go_wp2_with fail
          go_meet
          exact ⟨rfl, HB3.out⟩
        · have h2 : vmay m [r] = true := by rw [HS.out] at h1; exact vadd_more h1
          have H1 := Lib.hid h1
          have H2 := Lib.hid h2
          have p0 := HPz.out.cell 0
          have p1 := HPz.out.cell 1
          have p2 := HPz.out.cell 2
          have p3 := HPz.out.cell 3
          have p4 := HPz.out.cell 4
          clear h1 h2
          go_wp2_with fail
          refine (vmay_any (Recs.one HSO.out HVz.out (by simp) (by rw [HSL.out])) HFS.out HM.out H1.out).mono ?_
          rintro e w3 ⟨rfl, hb3⟩
          have hb33 := btr (bal (Below.refl _ _) _) hb3
          have HB3 := Lib.hid hb33
          have HP3 := Lib.hid (HPz.out.stay hb33)
          have HV3 := Lib.hid (HVRz.out.below hb33)
          have q0 := HP3.out.cell 0
          have q1 := HP3.out.cell 1
          have q2 := HP3.out.cell 2
          have q3 := HP3.out.cell 3
          have q4 := HP3.out.cell 4
          clear hb3 hb33
          go_wp2_with fail
          refine (vmay_any (Recs.one HL.out HV3.out (by simp) rfl) HFR.out HM.out H2.out).mono ?_
          rintro e w4 ⟨rfl, hb4⟩
          have HB4 := Lib.hid (btr (bal HB3.out _) hb4)
          clear hb4
          go_wp2_with fail
          go_meet
          exact ⟨rfl, HB4.out⟩
  case rest =>
    obtain ⟨rfl, HCB⟩ := hcut
    have HSc := Lib.hid (HSz.out.stay HCB.out)
    have HPc := Lib.hid (HPz.out.stay HCB.out)
    have HFc := Lib.hid (HFz.out.stay HCB.out)
    have HVc := Lib.hid (HVz.out.below HCB.out)
    have HBc := Lib.hid (btr HBz.out HCB.out)
    have s0 := HSc.out.cell 0
    have s1 := HSc.out.cell 1
    have s2 := HSc.out.cell 2
    have s3 := HSc.out.cell 3
    have s4 := HSc.out.cell 4
    have hgc := HSc.out.lt
    have f0 := HFc.out.cell 0
    simp only [vwA] at f0
    have hfc := HFc.out.lt
    clear HPz HFz HSz HVz HVRz
    obtain ⟨nx, hnx⟩ : ∃ nx, nx = vnext [S] := ⟨_, rfl⟩
    obtain ⟨z, hz⟩ : ∃ z : Int, z = (nx : Int) := ⟨_, rfl⟩
    have hgt : nx ≠ 18446744073709551615 → r.last.number < nx ∧ (ok = true → v.number < nx) := by
      intro hne
      have hv64 : vmax [S] < 18446744073709551616 := (S64.vmax (l := [S]) (fun q hq => by rw [List.mem_singleton.1 hq]; exact ⟨HSO.out.number, fun x hx => (HVOK.out x hx).number⟩)).lt
      have h1 := vnext_gt (l := [S]) (by rw [← hnx]; exact hne) hv64 (r := S) (by simp)
      rw [← hnx] at h1
      refine ⟨by rw [← HSL.out]; exact h1.1, fun ho => h1.2 v ?_⟩
      rw [HS.out]
      unfold vadd
      rw [← HOK.out, ho]
      simp
    have hnz : z ≠ 18446744073709551615 → ((r.last.number : Nat) : Int) < z ∧ (ok = true → ((v.number : Nat) : Int) < z) := by
      intro hne
      have h1 := hgt (by omega)
      exact ⟨by omega, fun ho => by have := h1.2 ho; omega⟩
    have HNZ := Lib.hid hnz
    have HZ : Hid (((vnext [S] : Nat) : Int) = z) := by show _ = _; rw [hz, hnx]
    clear hnx hgt hz hnz
    go_wp2_with fail
    refine (vnext_any (Recs.one HSO.out HVc.out (by simp) (by rw [HSL.out])) HFS.out HZ.out).mono ?_
    rintro e w3 ⟨rfl, hb3⟩
    have hb33 := btr (bal (Below.refl _ _) _) hb3
    have HSd := Lib.hid (HSc.out.stay hb33)
    have HPd := Lib.hid (HPc.out.stay hb33)
    have HFd := Lib.hid (HFc.out.stay hb33)
    have HVd := Lib.hid (HVc.out.below hb33)
    have HBd := Lib.hid (btr HBc.out hb33)
    clear hb3 hb33 s0 s1 s2 s3 s4 f0 hgc hfc HSc HPc HFc HVc
    go_upto_region 9 with fail
    go_cut [58] from 12 (fun x wx => x = .bool false ∧ w3 = wx)
    case first =>
        have s0 := HSd.out.cell 0
        have f0 := HFd.out.cell 0
        simp only [vwA] at f0
        by_cases hne : z = 18446744073709551615
        · have hb : (z != 18446744073709551615) = false := by simp [hne]
          clear hne
          go_wp2_with fail
          go_meet
          exact ⟨rfl, rfl⟩
        · have hb : (z != 18446744073709551615) = true := by simp [hne]
          obtain ⟨h1, h2⟩ := HNZ.out hne
          have hd1 : decide (z ≤ (r.last.number : Int)) = false := decide_eq_false (by omega)
          clear hne h1
          cases ok with
          | false =>
            clear h2
            go_wp2_with fail
            go_meet
            exact ⟨rfl, rfl⟩
          | true =>
            have h2 := h2 rfl
            have hd2 : decide (z ≤ (v.number : Int)) = false := decide_eq_false (by omega)
            clear h2
            go_wp2_with fail
            go_meet
            exact ⟨rfl, rfl⟩
    case rest =>
      obtain ⟨rfl, rfl⟩ := hcut
      have s0 := HSd.out.cell 0
      have s1 := HSd.out.cell 1
      have s2 := HSd.out.cell 2
      have s3 := HSd.out.cell 3
      have s4 := HSd.out.cell 4
      have f0 := HFd.out.cell 0
      have f1 := HFd.out.cell 1
      have f2 := HFd.out.cell 2
      have f3 := HFd.out.cell 3
      simp only [vwA] at f0 f1 f2 f3
      go_wp2_with fail
      refine (vformE HVd.out (by have := HSLN.out; omega) v rfl (a := .int .u64 (v.number : Int)) (b := .int .u64 (v.epoch : Int)) (c' := .int .i64 v.rep) (d := .int .u64 (v.members : Int)) rfl (by simp [Value.oneCell'])).mono ?_
      rintro e w4 ⟨A4, n4, c4, rfl, hb4, ho4, hn4⟩
      have hvf : ∀ x, x ∈ vkeep v S.pend → x.Ok := fun x hx => HVOK.out x (List.mem_filter.1 hx).1
      have hgt : ∀ x, x ∈ vkeep v S.pend → v.number < x.number := fun x hx => by simpa using (List.mem_filter.1 hx).2
      obtain ⟨F, hF⟩ : ∃ F, F = vkeep v S.pend := ⟨_, rfl⟩
      rw [← hF] at ho4 hn4 hvf hgt
      have hFl : F.length ≤ 301 := by
        rw [hF]
        exact Nat.le_trans (List.length_filter_le _ _) HSLN.out
      obtain ⟨w5, hw5⟩ : ∃ w5, w5 = w4.alloc (.cells #[.int .u64 (v.number : Int), .int .u64 (v.epoch : Int), .int .i64 v.rep, .int .u64 (v.members : Int), .slice A4 n4 c4] 34) := ⟨_, rfl⟩
      obtain ⟨g10, hg10⟩ : ∃ g10, g10 = w4.heap.size := ⟨_, rfl⟩
      have hb5 : Below w3.heap.size w3 w5 := by rw [hw5]; exact bal hb4 _
      have hR5 : Blk w5 g10 34 #[.int .u64 (v.number : Int), .int .u64 (v.epoch : Int), .int .i64 v.rep, .int .u64 (v.members : Int), .slice A4 n4 c4] := by rw [hw5]; exact Blk.new _ _ _ hg10
      have hV5 : Views w5 (.slice A4 n4 c4) F := by rw [hw5]; exact (Views.of_own ho4 rfl hvf).below (bal (Below.refl _ _) _)
      have HF5 := Lib.hid (HFd.out.stay hb5)
      have HB5 := Lib.hid (btr HBd.out hb5)
      have HR5 := Lib.hid hR5
      have HV5 := Lib.hid hV5
      have HGT := Lib.hid hgt
      have HN4 := Lib.hid hn4
      have HW5 := Lib.hid hw5
      have HG10 := Lib.hid hg10
      have HFF := Lib.hid hF
      have hn43 : n4 ≤ 301 := by omega
      clear hb4 ho4 hn4 hvf hgt hF hFl hw5 hg10 hb5 hR5 hV5 s0 s1 s2 s3 s4 f0 f1 f2 f3
      have r4 := HR5.out.cell 4
      have f0 := HF5.out.cell 0
      simp only [vwA] at f0
      have hr10 := HR5.out.lt
      have hf10 := HF5.out.lt
      go_upto_region 12 with fail
      rw [← HW5.out, ← HG10.out]
      go_wp2_with fail
      go_loopw [11] (fun i wr => ∃ k : Nat, k ≤ n4 ∧ i = .int .i64 k ∧ Hid (Below w5.heap.size w5 wr)) (fun i _ => n4 - (intOf i).toNat)
      case atStart => exact ⟨0, by omega, rfl, Below.refl _ _⟩
      case round =>
        obtain ⟨k, hk, rfl, HB⟩ := hrel
        clear r4 f0 hr10 hf10
        have HRr := Lib.hid (HR5.out.stay HB.out)
        have HFr := Lib.hid (HF5.out.stay HB.out)
        have r4 := HRr.out.cell 4
        have f0 := HFr.out.cell 0
        simp only [vwA] at f0
        have hr10 := HRr.out.lt
        have hf10 := HFr.out.lt
        by_cases hlt : k < n4
        · have hlt2 : k < F.length := by rw [← HN4.out]; exact hlt
          obtain ⟨b3, off3, rfl, e0, e1, e2, e3, hbl3, hok3⟩ := HV5.out.in HB.out k hlt2
          have hgt := HGT.out F[k] (List.getElem_mem hlt2)
          obtain ⟨y, hy⟩ : ∃ y, y = F[k] := ⟨_, rfl⟩
          rw [← hy] at e0 e1 e2 e3 hok3 hgt
          have hd1 : decide (y.number ≤ v.number) = false := decide_eq_false (by omega)
          have hkI0 : (0 : Int) ≤ (k : Int) := Int.natCast_nonneg _
          have hkI1 : (k : Int) < (n4 : Int) := by omega
          clear hy hlt2 hok3 hgt
          go_wp2_with fail
          go_quiet (fail)
          go_wp2_with fail
          go_roundw
          case rel => exact ⟨k + 1, by omega, by go_num, bdrewN HB.out _⟩
          case measure => simp [intOf] <;> omega
        · obtain rfl : k = n4 := by omega
          have r0 := HRr.out.cell 0
          have r1 := HRr.out.cell 1
          have r2 := HRr.out.cell 2
          have r3 := HRr.out.cell 3
          have f1 := HFr.out.cell 1
          have f2 := HFr.out.cell 2
          have f3 := HFr.out.cell 3
          simp only [vwA] at f1 f2 f3
          have heq := view_eql v v
          rw [decide_eq_true rfl] at heq
          have HBr := Lib.hid (btr HB5.out HB.out)
          clear hlt hk
          by_cases h0 : k = 0
          · have hd1 : decide (0 < k) = false := decide_eq_false (by omega)
            have hF0 : F = [] := List.eq_nil_of_length_eq_zero (by rw [← HN4.out]; exact h0)
            have hmay : vmay m [(⟨v, F⟩ : Rcd)] = smost m v.members := by rw [hF0]; exact vmay_bare v m
            obtain ⟨b, hb⟩ : ∃ b, b = smost m v.members := ⟨_, rfl⟩
            rw [← hb] at hmay
            have HMAY := Lib.hid hmay
            have HMO : Hid (smost m v.members = b) := hb.symm
            have HF1 : Hid (FewR [(⟨v, F⟩ : Rcd)]) := FewR.one (by rw [hF0]; simp)
            have hgw : g + 1 < wr.heap.size := hf10
            subst h0
            clear hF0 hmay hb hd1
            go_wp2_with fail
            have xr0 : wr.cell? ⟨g10, 0, none⟩ = some (.int .u64 (v.number : Int)) := r0
            have xr1 : wr.cell? ⟨g10, 1, none⟩ = some (.int .u64 (v.epoch : Int)) := r1
            have xr2 : wr.cell? ⟨g10, 2, none⟩ = some (.int .i64 v.rep) := r2
            have xr3 : wr.cell? ⟨g10, 3, none⟩ = some (.int .u64 (v.members : Int)) := r3
            have xr4 : wr.cell? ⟨g10, 4, none⟩ = some (.slice A4 0 c4) := r4
            have xf0 : wr.cell? ⟨g + 1, 0, none⟩ = some (.int .u64 (v.number : Int)) := f0
            have xf1 : wr.cell? ⟨g + 1, 1, none⟩ = some (.int .u64 (v.epoch : Int)) := f1
            have xf2 : wr.cell? ⟨g + 1, 2, none⟩ = some (.int .i64 v.rep) := f2
            have xf3 : wr.cell? ⟨g + 1, 3, none⟩ = some (.int .u64 (v.members : Int)) := f3
            clear r0 r1 r2 r3 r4 f0 f1 f2 f3
            go_region_held3 (fun w' => w'.cell? ⟨g10, 0, none⟩ = some (.int .u64 (v.number : Int)) ∧ w'.cell? ⟨g10, 1, none⟩ = some (.int .u64 (v.epoch : Int)) ∧ w'.cell? ⟨g10, 2, none⟩ = some (.int .i64 v.rep) ∧ w'.cell? ⟨g10, 3, none⟩ = some (.int .u64 (v.members : Int)) ∧ w'.cell? ⟨g10, 4, none⟩ = some (.slice A4 0 c4) ∧ w'.cell? ⟨g + 1, 0, none⟩ = some (.int .u64 (v.number : Int)) ∧ w'.cell? ⟨g + 1, 1, none⟩ = some (.int .u64 (v.epoch : Int)) ∧ w'.cell? ⟨g + 1, 2, none⟩ = some (.int .i64 v.rep) ∧ w'.cell? ⟨g + 1, 3, none⟩ = some (.int .u64 (v.members : Int)))
              (first
                | go_keep
                | (go_split_ands
                   refine ⟨?_, ?_, ?_, ?_, ?_, ?_, ?_, ?_, ?_⟩
                   · exact (hb9.cell (p := ⟨g10, 0, none⟩) (by simp; omega)).trans (by assumption)
                   · exact (hb9.cell (p := ⟨g10, 1, none⟩) (by simp; omega)).trans (by assumption)
                   · exact (hb9.cell (p := ⟨g10, 2, none⟩) (by simp; omega)).trans (by assumption)
                   · exact (hb9.cell (p := ⟨g10, 3, none⟩) (by simp; omega)).trans (by assumption)
                   · exact (hb9.cell (p := ⟨g10, 4, none⟩) (by simp; omega)).trans (by assumption)
                   · exact (hb9.cell (p := ⟨g + 1, 0, none⟩) (by simp; omega)).trans (by assumption)
                   · exact (hb9.cell (p := ⟨g + 1, 1, none⟩) (by simp; omega)).trans (by assumption)
                   · exact (hb9.cell (p := ⟨g + 1, 2, none⟩) (by simp; omega)).trans (by assumption)
                   · exact (hb9.cell (p := ⟨g + 1, 3, none⟩) (by simp; omega)).trans (by assumption)))
              ((first
                | (go_at_call 16; refine (vmay_any (by first | exact Recs.one (r := ⟨v, F⟩) HVO.out (HV5.out.below (by first | exact bdrew HB.out | exact HB.out)) (by simp) rfl | exact (Recs.one (r := ⟨v, F⟩) HVO.out (HV5.out.below HB.out) (by simp) rfl).below (vdrew_below _)) HF1.out HM.out HMAY.out).mono ?_; rintro e w9 ⟨rfl, hb9⟩)
                | (go_at_call 23; refine (most_eq HM.out HVO.out.members HMO.out _).mono ?_; rintro e w10 ⟨rfl, rfl⟩)))
            all_goals
              have HB9 : Hid (Below wr.heap.size wr w9) := (by first | exact btr (bal (bdrew (Below.refl _ _)) _) hb9 | exact btr (bdrew (bal (Below.refl _ _) _)) hb9)
              go_wp2_with fail
              go_ret
              exact ⟨by first | rfl | simp, btr HBr.out HB9.out⟩
          · have hd1 : decide (0 < k) = true := decide_eq_true (by omega)
            have hd2 : 0 < k := by omega
            go_wp2_with fail
            go_quiet (fail)
            go_wp2_with fail
            go_ret
            exact ⟨rfl, bdrewN HBr.out _⟩
end Go.Proofs.Ytheeclmpkddgjaa
