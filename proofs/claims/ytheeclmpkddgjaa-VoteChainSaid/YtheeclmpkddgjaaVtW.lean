import Derived.Test.YtheeclmpkddgjaaVtX
import Derived.Test.YtheeclmpkddgjaaVtS
import Derived.Maps.AppendAt
import Derived.Deep.CutRange
namespace Go.Proofs.Ytheeclmpkddgjaa
set_option linter.unusedVariables false
set_option linter.unusedSimpArgs false
open Go.RowKit
theorem told_len (R : Nat → Rcd) (m : Nat) : ∀ k, (told R m k).length ≤ k
  | 0 => Nat.le_refl _
  | k + 1 => by
    have := told_len R m k
    unfold told
    split
    · rw [List.length_append]; simp; omega
    · omega
theorem wrec_succ_yes {R : Nat → Rcd} {m wrote : Nat} {v : Vw} {p : Nat} (h1 : m.testBit p = true) (h2 : wrote.testBit p = true) (q : Nat) : wrec R m wrote v (p + 1) q = rput (wrec R m wrote v p) p (vadd (R p) v) q := by
  simp only [wrec, rput]
  by_cases e : q = p
  · subst e
    rw [if_pos ⟨by omega, h1, h2⟩, if_pos rfl]
  · rw [if_neg e]
    by_cases hq : q < p
    · by_cases hc : m.testBit q = true ∧ wrote.testBit q = true
      · rw [if_pos ⟨by omega, hc⟩, if_pos ⟨hq, hc⟩]
      · rw [if_neg (fun h => hc h.2), if_neg (fun h => hc h.2)]
    · rw [if_neg (fun h => by omega), if_neg (fun h => hq h.1)]
theorem wrec_succ_no {R : Nat → Rcd} {m wrote : Nat} {v : Vw} {p : Nat} (h : ¬ (m.testBit p = true ∧ wrote.testBit p = true)) (q : Nat) : wrec R m wrote v (p + 1) q = wrec R m wrote v p q := by
  simp only [wrec]
  by_cases e : q = p
  · subst e
    rw [if_neg (fun k => h k.2), if_neg (fun k => h k.2)]
  · by_cases hq : q < p
    · by_cases hc : m.testBit q = true ∧ wrote.testBit q = true
      · rw [if_pos ⟨by omega, hc⟩, if_pos ⟨hq, hc⟩]
      · rw [if_neg (fun h => hc h.2), if_neg (fun h => hc h.2)]
    · rw [if_neg (fun h => by omega), if_neg (fun h => hq h.1)]
theorem wrec_at {R : Nat → Rcd} {m wrote : Nat} {v : Vw} {p : Nat} : wrec R m wrote v p p = R p := by
  simp only [wrec]
  rw [if_neg (fun h => Nat.lt_irrefl _ h.1)]
theorem frec_succ_yes {R : Nat → Rcd} {m form : Nat} {v : Vw} {all : Bool} {p : Nat} (h0 : all = true) (h1 : m.testBit p = true) (h2 : form.testBit p = true) (q : Nat) : frec R m form v all (p + 1) q = rput (frec R m form v all p) p (vform (R p) v) q := by
  simp only [frec, rput]
  by_cases e : q = p
  · subst e
    rw [if_pos ⟨by omega, h0, h1, h2⟩, if_pos rfl]
  · rw [if_neg e]
    by_cases hq : q < p
    · by_cases hc : all = true ∧ m.testBit q = true ∧ form.testBit q = true
      · rw [if_pos ⟨by omega, hc⟩, if_pos ⟨hq, hc⟩]
      · rw [if_neg (fun h => hc h.2), if_neg (fun h => hc h.2)]
    · rw [if_neg (fun h => by omega), if_neg (fun h => hq h.1)]
theorem frec_succ_no {R : Nat → Rcd} {m form : Nat} {v : Vw} {all : Bool} {p : Nat} (h : ¬ (all = true ∧ m.testBit p = true ∧ form.testBit p = true)) (q : Nat) : frec R m form v all (p + 1) q = frec R m form v all p q := by
  simp only [frec]
  by_cases e : q = p
  · subst e
    rw [if_neg (fun k => h k.2), if_neg (fun k => h k.2)]
  · by_cases hq : q < p
    · by_cases hc : all = true ∧ m.testBit q = true ∧ form.testBit q = true
      · rw [if_pos ⟨by omega, hc⟩, if_pos ⟨hq, hc⟩]
      · rw [if_neg (fun h => hc h.2), if_neg (fun h => hc h.2)]
    · rw [if_neg (fun h => by omega), if_neg (fun h => hq h.1)]
theorem frec_at {R : Nat → Rcd} {m form : Nat} {v : Vw} {all : Bool} {p : Nat} : frec R m form v all p p = R p := by
  simp only [frec]
  rw [if_neg (fun h => Nat.lt_irrefl _ h.1)]
theorem wall_succ (R : Nat → Rcd) (m wrote p : Nat) : wall R m wrote (p + 1) = (wall R m wrote p && (!m.testBit p || (wrote.testBit p && vok (R p)))) := by
  unfold wall
  rw [List.range_succ, List.all_append]
  simp
theorem fany_succ (m form : Nat) (all : Bool) (p : Nat) : fany m form all (p + 1) = (fany m form all p || (all && m.testBit p && form.testBit p)) := by
  unfold fany
  rw [List.range_succ, List.any_append]
  simp
def RI (k : Nat) : Nat → Rcd := fun p => if p < k then ⟨F0, []⟩ else ⟨Vw.none, []⟩
theorem RI_succ (k q : Nat) : RI (k + 1) q = rput (RI k) k ⟨F0, []⟩ q := by
  simp only [RI, rput]
  by_cases e : q = k
  · subst e; rw [if_pos (by omega), if_pos rfl]
  · rw [if_neg e]
    by_cases h : q < k
    · rw [if_pos (by omega), if_pos h]
    · rw [if_neg (by omega), if_neg h]
theorem F0_ok : F0.Ok := ⟨⟨by decide⟩, ⟨by decide⟩, ⟨by decide⟩⟩
theorem none_ok : Vw.none.Ok := ⟨⟨by decide⟩, ⟨by decide⟩, ⟨by decide⟩⟩
theorem RA.zero {w : World} {g : Nat} (hb : Blk w g 56 #[.int .u64 0, .int .u64 0, .int .i64 0, .int .u64 0, .slice none 0 0, .int .u64 0, .int .u64 0, .int .i64 0, .int .u64 0, .slice none 0 0, .int .u64 0, .int .u64 0, .int .i64 0, .int .u64 0, .slice none 0 0, .int .u64 0, .int .u64 0, .int .i64 0, .int .u64 0, .slice none 0 0, .int .u64 0, .int .u64 0, .int .i64 0, .int .u64 0, .slice none 0 0]) : RA w g (RI 0) (fun _ => .slice none 0 0) := by
  refine ⟨⟨_, hb, rfl, fun p hp => ?_⟩, fun p _ => none_ok, fun p _ => Sl.nil _ _ _, fun p _ h => (by cases h), fun p _ => Nat.zero_le _⟩
  match p, hp with
  | 0, _ => exact ⟨rfl, rfl, rfl, rfl, rfl⟩
  | 1, _ => exact ⟨rfl, rfl, rfl, rfl, rfl⟩
  | 2, _ => exact ⟨rfl, rfl, rfl, rfl, rfl⟩
  | 3, _ => exact ⟨rfl, rfl, rfl, rfl, rfl⟩
  | 4, _ => exact ⟨rfl, rfl, rfl, rfl, rfl⟩
theorem qv {P : Program} {f : FuncId} {args : Array Value} {w : World} {n : Nat} {v : Value}
    (h : Calls P f args (w.drewN n) fun e w' => e = .returned v ∧ w.drewN n = w') : Calls P f args (w.drewN n) fun e w'' => e = .returned v ∧ ∃ m, w'' = w.drewN m :=
  Calls.quiet_of_same (h.mono fun _ _ ⟨he, hw⟩ => ⟨he, hw.symm⟩)
def zrec : Value := .agg #[.int .u64 0, .int .u64 0, .int .i64 0, .int .u64 0, .slice none 0 0]
theorem rec_info : (Try.prog.info? 34).map (fun i => (i.zero, i.size, i.bytes)) = some (some zrec, 5, 56) := by kernel_rfl
theorem Views.sl {w : World} {v : Value} {L : List Vw} (h : Views w v L) : ∃ A c, v = .slice A L.length c := by
  obtain ⟨A, c, rfl, _⟩ := h
  exact ⟨A, c, rfl⟩
theorem has_bit {m p : Nat} (hp : p < 5) : shas m (p : Int) = m.testBit p := shas_nat m p (by omega)
set_option maxRecDepth 20000 in
set_option maxHeartbeats 8000000 in
theorem voteChain_law {w : World} {v : Value} {l : List Rnd} (hv : Rnds w v l) :
    Calls Try.prog 6 #[v] w fun e w' => e = .returned (.bool true) ∧ Below w.heap.size w w' := by
  obtain ⟨i0, hi, hz0, hz1, hz2⟩ := info_parts vw_info
  obtain ⟨j0, ji, jz0, jz1, jz2⟩ := info_parts rec_info
  obtain ⟨A, c, rfl, _⟩ := hv.slice
  have HV := Lib.hid hv
  clear hv
  by_cases hc1 : l.length > 60
  · have h1 : decide (60 < (l.length : Int)) = true := decide_eq_true (by omega)
    clear hc1
    go_enter Try.func6, Try.ntmps6
    go_wp2_with fail
    refine awake18.mono ?_
    rintro e w1 ⟨rfl, hb1⟩
    have HB1 := Lib.hid hb1
    clear hb1
    go_wp2_with fail
    go_ret
    exact ⟨rfl, HB1.out⟩
  obtain ⟨n, hn⟩ : ∃ n, n = l.length := ⟨_, rfl⟩
  have hn6 : n ≤ 60 := by omega
  have h1 : decide (60 < (n : Int)) = false := decide_eq_false (by omega)
  have HN := Lib.hid hn
  rw [← hn] at HV ⊢
  clear hc1 hn
  go_enter Try.func6, Try.ntmps6
  go_wp2_with fail
  refine awake18.mono ?_
  rintro e w1 ⟨rfl, hb1⟩
  obtain ⟨w2, hw2⟩ : ∃ w2, w2 = w1.alloc (.cells #[.int .u64 0, .int .u64 0, .int .i64 0, .int .u64 0, .slice none 0 0, .int .u64 0, .int .u64 0, .int .i64 0, .int .u64 0, .slice none 0 0, .int .u64 0, .int .u64 0, .int .i64 0, .int .u64 0, .slice none 0 0, .int .u64 0, .int .u64 0, .int .i64 0, .int .u64 0, .slice none 0 0, .int .u64 0, .int .u64 0, .int .i64 0, .int .u64 0, .slice none 0 0] 56) := ⟨_, rfl⟩
  obtain ⟨g, hg⟩ : ∃ g, g = w1.heap.size := ⟨_, rfl⟩
  have HB2 : Hid (Below w.heap.size w w2) := by show Below _ _ _; rw [hw2]; exact bal hb1 _
  have HGW : Hid (w.heap.size ≤ g) := by show _ ≤ _; rw [hg]; exact hb1.size
  have HRA2 : Hid (RA w2 g (RI 0) (fun _ => .slice none 0 0)) := by show RA _ _ _ _; rw [hw2]; exact RA.zero (Blk.new _ _ _ hg)
  have HS2 : Hid (w2.heap.size = g + 1) := by show _ = _; rw [hw2, hg]; simp
  have HW2 := Lib.hid hw2
  have HG := Lib.hid hg
  clear hb1 hw2 hg
  go_upto_region 6 with fail
  rw [← HW2.out, ← HG.out]
  go_wp2_with fail
  go_loopw [4] (fun i wr => ∃ (k : Nat) (vs : Nat → Value), k ≤ 5 ∧ i = .int .i64 k ∧ Hid (RA wr g (RI k) vs) ∧ Hid (∀ p b, p < 5 → vblk (vs p) ≠ some b) ∧ Hid (Ex g w2 wr)) (fun i _ => 5 - (intOf i).toNat)
  case atStart => exact ⟨0, _, by omega, rfl, HRA2.out, fun p b _ h => (by cases h), Ex.refl _ _⟩
  case round =>
    obtain ⟨k, vs, hk, rfl, HR, HNB, HE⟩ := hrel
    by_cases hlt : k < 5
    · have hk0 : (0 : Int) ≤ (k : Int) := Int.natCast_nonneg _
      have hk1 : (k : Int) < 5 := by omega
      have HLT := Lib.hid hlt
      clear hlt
      go_wp2_with fail
      refine (first5 _).mono ?_
      rintro e w3 ⟨rfl, hb3⟩
      have hr3 := HR.out.stay hb3
      obtain ⟨c0, c1, c2, c3, c4⟩ := hr3.at HLT.out
      have f0 := hr3.free (k * 5)
      have f1 := hr3.free (k * 5 + 1)
      have f2 := hr3.free (k * 5 + 2)
      have f3 := hr3.free (k * 5 + 3)
      have f4 := hr3.free (k * 5 + 4)
      have HPUT := Lib.hid ((hr3.put HLT.out (r := ⟨F0, []⟩) (v := .slice none 0 0) F0_ok (Sl.nil _ _ _) (fun h => by cases h) (Nat.zero_le _)).congr (fun p _ => RI_succ k p))
      have HE3 := Lib.hid ((HE.out.then hb3).trans (put5_ex w3 g (k * 5) (.int .u64 ((F0.number : Nat) : Int)) (.int .u64 ((F0.epoch : Nat) : Int)) (.int .i64 F0.rep) (.int .u64 ((F0.members : Nat) : Int)) (.slice none 0 0)))
      have HNB3 : Hid (∀ p b, p < 5 → vblk (rvput vs k (.slice none 0 0) p) ≠ some b) := fun p b hp => by
        unfold rvput
        split
        · exact fun h => by cases h
        · exact HNB.out p b hp
      generalize vs k = vk at c4
      generalize RI k k = rk at c0 c1 c2 c3
      clear hb3 hr3
      go_wp2_with fail
      go_roundw
      case rel => exact ⟨k + 1, _, by omega, by go_num, HPUT, HNB3, HE3⟩
      case measure => simp [intOf] <;> omega
    · obtain rfl : k = 5 := by omega
      clear hlt hk
      have HR0 : Hid (RA wr g (Chn.upto l 0).recs vs) := HR.out.congr (fun p hp => by unfold RI; rw [if_pos hp]; rfl)
      have HBr : Hid (Below w.heap.size w wr) := HE.out.below HB2.out HGW.out (by rw [HS2.out]; have := HGW.out; omega)
      clear HRA2 HR
      go_wp2_with fail
      go_loopw [5, 6] (fun fv i wr => ∃ (k : Nat) (vs : Nat → Value), k ≤ n ∧ i = .int .i64 k ∧ Hid (RA wr g (Chn.upto l k).recs vs) ∧ Hid (Parted wr vs fv) ∧ Hid (wr.ownsRow (g + 1) 31 4 fv (Chn.upto l k).formed.length ((Chn.upto l k).formed.map viewCells).flatten) ∧ Hid (∀ x, x ∈ (Chn.upto l k).formed → x.Ok) ∧ Hid ((Chn.upto l k).formed.length ≤ k) ∧ Hid (Below w.heap.size w wr)) (fun _ i _ => n - (intOf i).toNat)
      case atStart => exact ⟨0, vs, by omega, rfl, HR0.out, fun p b hp h => absurd h (HNB.out p b hp), World.ownsRow_nil _ _ _ _, fun x hx => (by cases hx), Nat.le_refl _, HBr.out⟩
      case round =>
        clear HR0 HNB HE HBr
        obtain ⟨k, vs, hk, rfl, HR, HPT, HO, HFO, HFL, HB⟩ := hrel
        by_cases hlt : k < n
        · have hlt2 : k < l.length := by rw [← HN.out]; exact hlt
          obtain ⟨b, off, rfl, d0, d1, d2, hbl, hok⟩ := HV.out.in HB.out k hlt2
          have hsu := Chn.upto_succ l k hlt2
          obtain ⟨x, hx⟩ : ∃ x, x = l[k] := ⟨_, rfl⟩
          rw [← hx] at d0 d1 d2 hok hsu
          obtain ⟨S, hS⟩ : ∃ S, S = Chn.upto l k := ⟨_, rfl⟩
          rw [← hS] at HR HO HFO HFL hsu
          obtain ⟨m, hm⟩ : ∃ m, m = sboth x.members 31 := ⟨_, rfl⟩
          have HM : Hid (sboth x.members 31 = m) := hm.symm
          have HM64 : Hid (S64 m) := by show S64 m; rw [hm]; exact hok.members.both
          have HOK := Lib.hid hok
          have HSU := Lib.hid hsu
          have HSS := Lib.hid hS
          have HLX : Hid (∃ h : k < l.length, l[k]'h = x) := ⟨hlt2, hx.symm⟩
          have hk0 : (0 : Int) ≤ (k : Int) := Int.natCast_nonneg _
          have hk1 : (k : Int) < (n : Int) := by omega
          obtain ⟨A5, l5, c5, rfl⟩ := own_sl HO.out
          clear hlt2 hok hsu hx hS hm
          go_wp2_with fail
          go_quiet ((first | (go_at_call 20; exact qv (all5 _)) | (go_at_call 25; exact qv (both31 HOK.out.members HM.out _))))
          go_wp2_with fail
          obtain ⟨wd, hwd⟩ : ∃ wd, wd = wr.drewN nq := ⟨_, rfl⟩
          have hbd : Below wr.heap.size wr wd := by rw [hwd]; exact bdrewN (Below.refl _ _) nq
          rw [← hwd]
          have HRd := Lib.hid (HR.out.stay hbd)
          have HPTd := Lib.hid (HPT.out.mono hbd.size)
          have HOd := Lib.hid (own_stay HO.out hbd)
          have HBd := Lib.hid (btr HB.out hbd)
          have hgd := HRd.out.lt
          have HGD := Lib.hid hgd
          clear HR HO HB hbd hwd d0 d1 d2 hbl hgd
          go_loopw [8, 9] (fun u i wq => ∃ (j : Nat) (css : List (List Value)), j ≤ 5 ∧ i = .int .i64 j ∧ Hid (wq.ownsRow wd.heap.size 34 5 u (told S.recs m j).length css.flatten) ∧ Hid (Css KRec 5 wd (told S.recs m j) css) ∧ Hid (Below wd.heap.size wd wq)) (fun _ i _ => 5 - (intOf i).toNat)
          case atStart => exact ⟨0, [], by omega, rfl, World.ownsRow_nil _ _ _ _, Css.nil _ _ _, Below.refl _ _⟩
          case round =>
            obtain ⟨j, css, hj, rfl, HU, HC, HQ⟩ := hrel
            by_cases hjl : j < 5
            · have hj0 : (0 : Int) ≤ (j : Int) := Int.natCast_nonneg _
              have hj1 : (j : Int) < 5 := by omega
              have HJL := Lib.hid hjl
              have hul := told_len S.recs m j
              obtain ⟨Au, lu, cu, rfl⟩ := own_sl HU.out
              rcases Bool.eq_false_or_eq_true (m.testBit j) with hb | hb
              · have HBT : Hid (shas m (j : Int) = true) := (has_bit hjl).trans hb
                have htn : told S.recs m (j + 1) = told S.recs m j ++ [S.recs j] := by rw [told, if_pos hb]
                obtain ⟨Aj, cj, hvj⟩ := (HRd.out.views j hjl).sl
                have hrq := HRd.out.stay HQ.out
                obtain ⟨c0, c1, c2, c3, c4⟩ := hrq.at hjl
                rw [hvj] at c4
                have HCN : Hid (Css KRec 5 wd (told S.recs m (j + 1)) (css ++ [recCells (S.recs j).last (.slice Aj (S.recs j).pend.length cj)])) := by
                  show Css _ _ _ _ _
                  rw [htn]
                  exact HC.out.snoc ⟨_, rfl, HRd.out.ok j hjl, by rw [← hvj]; exact HRd.out.views j hjl⟩ rfl
                obtain ⟨r, hr⟩ : ∃ r, r = S.recs j := ⟨_, rfl⟩
                rw [← hr] at c0 c1 c2 c3 c4 HCN
                have htl : (told S.recs m (j + 1)).length = (told S.recs m j).length + 1 := by rw [htn, List.length_append]; rfl
                have HTL := Lib.hid htl
                obtain ⟨t, ht⟩ : ∃ t, t = (told S.recs m j).length := ⟨_, rfl⟩
                rw [← ht] at hul HU HTL
                obtain ⟨news, hnews⟩ : ∃ news : List Value, news = recCells r.last (.slice Aj r.pend.length cj) := ⟨_, rfl⟩
                have HNW := Lib.hid hnews
                have HON : Hid ((wr.alloc (.cells #[.int .u64 (r.last.number : Int), .int .u64 (r.last.epoch : Int), .int .i64 r.last.rep, .int .u64 (r.last.members : Int), .slice Aj r.pend.length cj] 34)).ownsRow wd.heap.size 34 5 (.slice Au lu cu) t css.flatten) := own_stay HU.out (bal (Below.refl _ _) _)
                have HBN : Hid (Below wd.heap.size wd (wr.alloc (.cells #[.int .u64 (r.last.number : Int), .int .u64 (r.last.epoch : Int), .int .i64 r.last.rep, .int .u64 (r.last.members : Int), .slice Aj r.pend.length cj] 34))) := HQ.out.alloc HQ.out.size _
                have hcl := cells_new wr #[.int .u64 (r.last.number : Int), .int .u64 (r.last.epoch : Int), .int .i64 r.last.rep, .int .u64 (r.last.members : Int), .slice Aj r.pend.length cj] 34 news (g := wr.heap.size) rfl hnews.symm
                have HCL := Lib.hid hcl
                have HN5 := Lib.hid (show news.length = 1 * 5 by rw [hnews]; rfl)
                have HN1 := Lib.hid (show ∀ u ∈ news, u.oneCell' = true by rw [hnews]; simp [recCells, Value.oneCell'])
                clear hb htn hvj hrq hr htl ht hnews hcl hjl
                go_wp2_with fail
                refine (has_eq HM64.out HBT.out _).mono ?_
                rintro e w' ⟨rfl, rfl⟩
                go_wp2_with (at_builtin; refine wpList_append_own_at _ rfl _ _ 22 rfl wd.heap.size 34 j0 zrec 5 56 Try.underlying22 ji jz0 jz1 jz2 rfl (by decide) _ _ _ rfl HON.out ⟨wr.heap.size, 0, none⟩ 1 1 news rfl HN5.out HCL.out HN1.out ?c3 ?c4 ?c5 ?_)
                case c3 => unfold maxLen; omega
                case c4 => omega
                case c5 => exact HBN.out.size
                intro v' w5 hown' hgrow _ hob
                have hbg := HBN.out.grown hgrow HBN.out.size (fun b hb => (HON.out.lt b hb).1)
                have hfl : css.flatten ++ news = (css ++ [recCells r.last (.slice Aj r.pend.length cj)]).flatten := by simp [HNW.out]
                rw [hfl, ← HTL.out] at hown'
                have HU5 := Lib.hid hown'
                have HB5 := Lib.hid hbg
                clear hown' hgrow hob hbg hfl
                go_wp2_with fail
                go_roundw
                case rel =>
                  first
                    | exact ⟨j + 1, _, by omega, by go_num, HU5, HCN, HB5⟩
                    | ((repeat apply Exists.intro); exact ⟨⟨j + 1, _, by omega, by go_num, HU5, HCN, HB5⟩, rfl⟩)
                case measure => simp [intOf] <;> omega
              · have HBT : Hid (shas m (j : Int) = false) := (has_bit hjl).trans hb
                have htn : told S.recs m (j + 1) = told S.recs m j := by rw [told, if_neg (by rw [hb]; decide)]
                have HTN := Lib.hid htn
                clear hb htn hjl
                go_wp2_with fail
                refine (has_eq HM64.out HBT.out _).mono ?_
                rintro e w' ⟨rfl, rfl⟩
                go_wp2_with fail
                go_roundw
                case rel =>
                  first
                    | exact ⟨j + 1, css, by omega, by go_num, by rw [HTN.out]; exact HU, by rw [HTN.out]; exact HC, HQ⟩
                    | ((repeat apply Exists.intro); exact ⟨⟨j + 1, css, by omega, by go_num, by rw [HTN.out]; exact HU, by rw [HTN.out]; exact HC, HQ⟩, rfl⟩)
                case measure => simp [intOf] <;> omega
            · obtain rfl : j = 5 := by omega
              obtain ⟨T, hT⟩ : ∃ T, T = told S.recs m 5 := ⟨_, rfl⟩
              rw [← hT] at HU HC
              obtain ⟨Au, lu, cu, rfl⟩ := own_sl HU.out
              have hlu := own_len HU.out
              have HTR : Hid (Recs wr (.slice Au lu cu) T) := Sl.of_flat HU.out rfl (fun i x hi => by
                obtain ⟨cs, h1, h2⟩ := HC.out.each i x hi
                exact ⟨cs, h1, KRec.stays _ _ _ _ h2 HQ.out⟩) HC.out.size
              have HTF : Hid (FewR T) := ⟨by rw [hT]; have := told_len S.recs m 5; omega, fun q hq => by
                rw [hT] at hq
                obtain ⟨p, hp, _, rfl⟩ := mem_told.1 hq
                have := HRd.out.len p hp; omega⟩
              have HRq := Lib.hid (HRd.out.stay HQ.out)
              have HPTq := Lib.hid (HPTd.out.mono HQ.out.size)
              have HOq := Lib.hid (own_stay HOd.out HQ.out)
              have HBq := Lib.hid (btr HBd.out HQ.out)
              have HTT := Lib.hid hT
              clear hjl hj hT hlu HRd HOd HBd HU HC HQ
              rcases Bool.eq_false_or_eq_true (vmay m T) with hmay | hmay
              rotate_left
              · have hst : S.step k x = S := by
                  unfold Chn.step
                  simp only [HM.out, ← HTT.out]
                  rw [if_neg (by rw [hmay]; decide)]
                have hsu := HSU.out
                rw [hst] at hsu
                have HSN := Lib.hid hsu
                have HMAY := Lib.hid hmay
                clear hst hsu hmay
                go_wp2_with fail
                refine (vmay_any HTR.out HTF.out HM64.out HMAY.out).mono ?_
                rintro e w6 ⟨rfl, hb6⟩
                have HR6 := Lib.hid (HRq.out.stay hb6)
                have HPT6 := Lib.hid (HPTq.out.mono hb6.size)
                have HO6 := Lib.hid (own_stay HOq.out hb6)
                have HB6 := Lib.hid (btr HBq.out hb6)
                clear hb6
                go_wp2_with fail
                go_roundw
                case rel =>
                  first
                    | exact ⟨k + 1, vs, by omega, by go_num, by rw [HSN.out]; exact HR6, HPT6, by rw [HSN.out]; exact HO6, by rw [HSN.out]; exact HFO, by rw [HSN.out]; exact Nat.le_succ_of_le HFL.out, HB6⟩
                    | ((repeat apply Exists.intro); exact ⟨⟨k + 1, vs, by omega, by go_num, by rw [HSN.out]; exact HR6, HPT6, by rw [HSN.out]; exact HO6, by rw [HSN.out]; exact HFO, by rw [HSN.out]; exact Nat.le_succ_of_le HFL.out, HB6⟩, rfl⟩)
                case measure => simp [intOf] <;> omega
              · have hinv : S.Inv k := by rw [HSS.out]; exact Chn.upto_inv l (by rw [← HN.out]; exact hn6) k (by rw [← HN.out]; omega)
                have hnx := hinv.next x (by omega) (by rw [HM.out, ← HTT.out]; exact hmay)
                rw [HM.out] at hnx
                obtain ⟨tv, htv⟩ : ∃ tv, tv = tryv S.recs m k := ⟨_, rfl⟩
                rw [← htv] at hnx
                have htn : tv.number = vnext T := by rw [htv, HTT.out]; rfl
                have hte : tv.epoch = k + 1 := by rw [htv]; rfl
                have htr : tv.rep = 0 := by rw [htv]; rfl
                have htm : tv.members = m := by rw [htv]; rfl
                have HTO : Hid tv.Ok := ⟨⟨by have := hnx.2; omega⟩, ⟨by rw [hte]; omega⟩, by rw [htm]; exact HM64.out⟩
                have hst : S.step k x = ⟨frec (wrec S.recs m x.wrote tv 5) m x.form tv (wall S.recs m x.wrote 5) 5, if fany m x.form (wall S.recs m x.wrote 5) 5 then S.formed ++ [tv] else S.formed⟩ := by
                  unfold Chn.step
                  simp only [HM.out, ← HTT.out]
                  rw [if_pos hmay, ← htv]
                have hsu := HSU.out
                rw [hst] at hsu
                have HSN := Lib.hid hsu
                have HMAY := Lib.hid hmay
                have HTN : Hid (((vnext T : Nat) : Int) = (tv.number : Int)) := by show _ = _; rw [htn]
                have HVW : Hid (#[Value.int .u64 (tv.number : Int), .int .u64 ((k : Int) + 1), .int .i64 0, .int .u64 (m : Int)] = vwA tv) := by show _ = _; simp [vwA, hte, htr, htm]
                have hwr : IntKind.u64.wrap ((k : Int) + 1) = (k : Int) + 1 := by rw [IntKind.wrap_u64]; omega
                clear hinv hnx htv htn hte htr htm hst hsu hmay
                go_wp2_with fail
                refine (vmay_any HTR.out HTF.out HM64.out HMAY.out).mono ?_
                rintro e w6 ⟨rfl, hb6⟩
                have HR6 := Lib.hid (HRq.out.stay hb6)
                have HPT6 := Lib.hid (HPTq.out.mono hb6.size)
                have HO6 := Lib.hid (own_stay HOq.out hb6)
                have HB6 := Lib.hid (btr HBq.out hb6)
                have HT6 := Lib.hid (HTR.out.below hb6)
                clear hb6 HRq HOq HBq HTR
                go_wp2_with fail
                refine (vnext_any HT6.out HTF.out HTN.out).mono ?_
                rintro e w7 ⟨rfl, hb7⟩
                obtain ⟨wv, hwv⟩ : ∃ wv, wv = w7.alloc (.cells #[.int .u64 (tv.number : Int), .int .u64 ((k : Int) + 1), .int .i64 0, .int .u64 (m : Int)] 31) := ⟨_, rfl⟩
                obtain ⟨g10, hg10⟩ : ∃ g10, g10 = w7.heap.size := ⟨_, rfl⟩
                have hbv : Below w6.heap.size w6 wv := by rw [hwv]; exact bal hb7 _
                have HRv := Lib.hid (HR6.out.stay hbv)
                have HPTv := Lib.hid (HPT6.out.mono hbv.size)
                have HOv := Lib.hid (own_stay HO6.out hbv)
                have HBv := Lib.hid (btr HB6.out hbv)
                have HVB : Hid (Blk wv g10 31 (vwA tv)) := by
                  show Blk _ _ _ _
                  rw [hwv, ← HVW.out]
                  exact Blk.new _ _ _ hg10
                have HGN : Hid (g10 ≠ g) := by
                  show g10 ≠ g
                  have := HR6.out.lt
                  have := hb7.size
                  omega
                have HWV := Lib.hid hwv
                have HG10 := Lib.hid hg10
                clear hb7 hwv hg10 hbv HR6 HO6 HB6 HT6
                go_upto_region 23 with fail
                rw [← HWV.out, ← HG10.out]
                go_wp2_with fail
                go_loopw [11, 12] (fun al i wq => ∃ (p : Nat) (vs' : Nat → Value), p ≤ 5 ∧ i = .int .i64 p ∧ al = .bool (wall S.recs m x.wrote p) ∧ Hid (RA wq g (wrec S.recs m x.wrote tv p) vs') ∧ Hid (Parted wq vs' (.slice A5 l5 c5)) ∧ Hid (Ex g wv wq)) (fun _ i _ => 5 - (intOf i).toNat)
                case atStart => exact ⟨0, vs, by omega, rfl, rfl, HRv.out.congr (fun p hp => by simp [wrec]), HPTv.out, Ex.refl _ _⟩
                case round =>
                  obtain ⟨p, vs', hp, rfl, rfl, HR, HPT2, HE⟩ := hrel
                  by_cases hpl : p < 5
                  · have hp0 : (0 : Int) ≤ (p : Int) := Int.natCast_nonneg _
                    have hp1 : (p : Int) < 5 := by omega
                    have hw := wall_succ S.recs m x.wrote p
                    rcases Bool.eq_false_or_eq_true (m.testBit p) with hb | hb
                    rotate_left
                    · have HBT : Hid (shas m (p : Int) = false) := (has_bit hpl).trans hb
                      have HWN : Hid (wall S.recs m x.wrote (p + 1) = wall S.recs m x.wrote p) := by show _ = _; rw [hw, hb]; simp
                      have HRN := Lib.hid (HR.out.congr (fun q _ => wrec_succ_no (fun h => by rw [hb] at h; cases h.1) q))
                      clear hb hw hpl
                      go_wp2_with fail
                      refine (has_eq HM64.out HBT.out _).mono ?_
                      rintro e w' ⟨rfl, rfl⟩
                      go_wp2_with fail
                      go_roundw
                      case rel =>
                        first
                          | exact ⟨p + 1, vs', by omega, by go_num, by rw [HWN.out], HRN, HPT2, HE⟩
                          | ((repeat apply Exists.intro); exact ⟨⟨p + 1, vs', by omega, by go_num, by rw [HWN.out], HRN, HPT2, HE⟩, rfl⟩)
                      case measure => simp [intOf] <;> omega
                    · have HBT : Hid (shas m (p : Int) = true) := (has_bit hpl).trans hb
                      obtain ⟨hlk, hle⟩ := HLX.out
                      obtain ⟨b6, off6, hA6, d0, d1, d2, hbl, -⟩ := HV.out.in (HE.out.below HBv.out HGW.out HBv.out.size) k hlk
                      injection hA6 with hA6
                      injection hA6 with hA61 hA62
                      subst hA61 hA62
                      rw [hle] at d0 d1 d2
                      clear hlk hle
                      rcases Bool.eq_false_or_eq_true (x.wrote.testBit p) with hwb | hwb
                      rotate_left
                      · have hz := shr_zero HOK.out.wrote hwb
                        have HWN : Hid (wall S.recs m x.wrote (p + 1) = false) := by show _ = _; rw [hw, hb, hwb]; simp
                        have HRN := Lib.hid (HR.out.congr (fun q _ => wrec_succ_no (fun h => by rw [hwb] at h; cases h.2) q))
                        clear hb hw hpl hwb
                        go_wp2_with fail
                        refine (has_eq HM64.out HBT.out _).mono ?_
                        rintro e w' ⟨rfl, rfl⟩
                        go_wp2_with fail
                        go_roundw
                        case rel =>
                          first
                            | exact ⟨p + 1, vs', by omega, by go_num, by rw [HWN.out], HRN, HPT2, HE⟩
                            | ((repeat apply Exists.intro); exact ⟨⟨p + 1, vs', by omega, by go_num, by rw [HWN.out], HRN, HPT2, HE⟩, rfl⟩)
                        case measure => simp [intOf] <;> omega
                      · have hz := shr_zero HOK.out.wrote hwb
                        have HWN : Hid (wall S.recs m x.wrote (p + 1) = (wall S.recs m x.wrote p && vok (S.recs p))) := by show _ = _; rw [hw, hb, hwb]; simp
                        have HWB : Hid (x.wrote.testBit p = true) := hwb
                        have HMB : Hid (m.testBit p = true) := hb
                        obtain ⟨Ap, cp, hvp⟩ := (HR.out.views p hpl).sl
                        have hbx := HE.out.blk HVB.out HGN.out
                        have z0 := hbx.cell 0
                        have z1 := hbx.cell 1
                        have z2 := hbx.cell 2
                        have z3 := hbx.cell 3
                        simp only [vwA] at z0 z1 z2 z3
                        have hgl := hbx.lt
                        have hrl := HR.out.lt
                        obtain ⟨c0, c1, c2, c3, c4⟩ := HR.out.at hpl
                        rw [hvp] at c4
                        rw [wrec_at] at c0 c1 c2 c3
                        have HVP : Hid (Views wr (.slice Ap (wrec S.recs m x.wrote tv p p).pend.length cp) (S.recs p).pend) := by
                          have h := HR.out.views p hpl
                          rw [hvp] at h
                          show Views _ _ _
                          rw [wrec_at] at h ⊢
                          exact h
                        have HPE : Hid (vs' p = .slice Ap (wrec S.recs m x.wrote tv p p).pend.length cp) := hvp
                        obtain ⟨q, hq⟩ : ∃ q, q = (wrec S.recs m x.wrote tv p p).pend.length := ⟨_, rfl⟩
                        rw [← hq] at c4 HVP HPE
                        obtain ⟨r, hr⟩ : ∃ r, r = S.recs p := ⟨_, rfl⟩
                        rw [← hr] at c0 c1 c2 c3 HWN HVP
                        have HRR := Lib.hid hr
                        have HPL := Lib.hid hpl
                        clear hb hw hpl hwb hvp hbx hq hr
                        go_wp2_with fail
                        refine (has_eq HM64.out HBT.out _).mono ?_
                        rintro e w' ⟨rfl, rfl⟩
                        go_wp2_with fail
                        go_upto_region 30 with fail
                        go_cut [13, 14] from 69 to 100 (fun x13 x14 wx => ∃ A8 q8 c8 bx, x13 = .pointer (some ⟨bx, 0, none⟩) ∧ x14 = .bool (vok r) ∧ Hid (wr.heap.size ≤ bx) ∧ Hid (Blk wx bx 34 #[.int .u64 (r.last.number : Int), .int .u64 (r.last.epoch : Int), .int .i64 r.last.rep, .int .u64 (r.last.members : Int), .slice A8 q8 c8]) ∧ Hid (Below wr.heap.size wr wx) ∧ Hid (Views wx (.slice A8 q8 c8) (vadd r tv).pend) ∧ Hid (∀ b, vblk (.slice A8 q8 c8) = some b → vblk (.slice Ap q cp) = some b ∨ (wr.heap.size ≤ b ∧ b < wx.heap.size)))
                        case first =>
                          first
                            | (go_region_with
                                (first
                                  | (go_at_call 21; refine (vaddL_any (r := r) (by first | exact HVP.out.below (vdrew_below _) | exact HVP.out.below (btr (bal (Below.refl _ _) _) (vdrew_below _))) tv HTO.out (by simp [Value.oneCell']) (by rfl)).mono ?_; rintro e w8 ⟨A8, q8, c8, rfl, hb8, hv8, ho8⟩; (first | (have hbz := ((Blk.new wr 34 #[.int .u64 0, .int .u64 0, .int .i64 0, .int .u64 0, .slice none 0 0] rfl).stay (vdrew_below _)).stay hb8; have k0 : w8.cell? ⟨wr.heap.size, 0, none⟩ = some (.int .u64 0) := hbz.cell 0; have k1 : w8.cell? ⟨wr.heap.size, 1, none⟩ = some (.int .u64 0) := hbz.cell 1; have k2 : w8.cell? ⟨wr.heap.size, 2, none⟩ = some (.int .i64 0) := hbz.cell 2; have k3 : w8.cell? ⟨wr.heap.size, 3, none⟩ = some (.int .u64 0) := hbz.cell 3; have k4 : w8.cell? ⟨wr.heap.size, 4, none⟩ = some (.slice none 0 0) := hbz.cell 4; have f0 := hbz.free 0; have f1 := hbz.free 1; have f2 := hbz.free 2; have f3 := hbz.free 3; have f4 := hbz.free 4; have HBZ := Lib.hid hbz; clear hbz; have HB8 : Hid (Below wr.heap.size wr w8) := btr (btr (bal (Below.refl _ _) _) (vdrew_below _)) hb8; have HS8 : Hid (wr.heap.size + 1 ≤ w8.heap.size) := (by show _ ≤ _; have := hb8.size; simpa using this); have HO8 : Hid (∀ b, vblk (.slice A8 q8 c8) = some b → vblk (.slice Ap q cp) = some b ∨ (wr.heap.size + 1 ≤ b ∧ b < w8.heap.size)) := (fun b hb => by have := ho8 b hb; simpa using this)) | (have HB8 : Hid (Below wr.heap.size wr w8) := btr (vdrew_below _) hb8; have HO8 : Hid (∀ b, vblk (.slice A8 q8 c8) = some b → vblk (.slice Ap q cp) = some b ∨ (wr.heap.size ≤ b ∧ b < w8.heap.size)) := ho8)); have HV8 := Lib.hid hv8; clear hb8 hv8 ho8)))
                            | fail
                          all_goals
                            go_wp2_with fail
                            go_meet
                            first
                              | (obtain ⟨h1, h2, h3⟩ := box_new (v0 := .int .u64 (r.last.number : Int)) (v1 := .int .u64 (r.last.epoch : Int)) (v2 := .int .i64 r.last.rep) (v3 := .int .u64 (r.last.members : Int)) (v4 := .slice A8 q8 c8) HB8.out HV8.out; exact ⟨A8, q8, c8, _, rfl, rfl, HB8.out.size, h1, h2, h3, fun b hb => (HO8.out b hb).imp id (fun h => ⟨h.1, by have := h.2; simp; omega⟩)⟩)
                              | (obtain ⟨h1, h2, h3⟩ := box_old (v0 := .int .u64 (r.last.number : Int)) (v1 := .int .u64 (r.last.epoch : Int)) (v2 := .int .i64 r.last.rep) (v3 := .int .u64 (r.last.members : Int)) (v4 := .slice A8 q8 c8) HBZ.out HB8.out HV8.out (fun e => (HO8.out _ e).elim (fun h => by have := (HPT2.out p _ HPL.out (by rw [HPE.out]; exact h)).2; omega) (fun h => by omega)); exact ⟨A8, q8, c8, _, rfl, rfl, Nat.le_refl _, h1, h2, h3, fun b hb => (HO8.out b hb).imp id (fun h => ⟨by omega, by have := h.2; simp; omega⟩)⟩)
                        case rest =>
                          obtain ⟨A8, q8, c8, bx, rfl, rfl, HBX, HXB, HBc, HVc, HOc⟩ := hcut
                          have hrc := HR.out.stay HBc.out
                          obtain ⟨c0, c1, c2, c3, c4⟩ := hrc.at HPL.out
                          have f0 := hrc.free (p * 5)
                          have f1 := hrc.free (p * 5 + 1)
                          have f2 := hrc.free (p * 5 + 2)
                          have f3 := hrc.free (p * 5 + 3)
                          have f4 := hrc.free (p * 5 + 4)
                          have x0 : wc.cell? ⟨bx, 0, none⟩ = some (.int .u64 (r.last.number : Int)) := HXB.out.cell 0
                          have x1 : wc.cell? ⟨bx, 1, none⟩ = some (.int .u64 (r.last.epoch : Int)) := HXB.out.cell 1
                          have x2 : wc.cell? ⟨bx, 2, none⟩ = some (.int .i64 r.last.rep) := HXB.out.cell 2
                          have x3 : wc.cell? ⟨bx, 3, none⟩ = some (.int .u64 (r.last.members : Int)) := HXB.out.cell 3
                          have x4 : wc.cell? ⟨bx, 4, none⟩ = some (.slice A8 q8 c8) := HXB.out.cell 4
                          have hlen : (vadd r tv).pend.length ≤ 32 := by
                            have h := HR.out.len p HPL.out
                            rw [wrec_at, ← HRR.out] at h
                            by_cases hk : vok r = true
                            · have h2 : r.pend.length < 32 := of_decide_eq_true hk
                              unfold vadd
                              rw [if_pos hk]
                              show (r.pend ++ [tv]).length ≤ 32
                              rw [List.length_append]
                              simp
                              omega
                            · unfold vadd
                              rw [if_neg hk]
                              exact h
                          have hok : (vadd r tv).last.Ok := by
                            rw [vadd_last, HRR.out]
                            have h := HR.out.ok p HPL.out
                            rw [wrec_at] at h
                            exact h
                          have hne : vblk (.slice A8 q8 c8) ≠ some g := fun e => by
                            rcases HOc.out g e with h | h
                            · exact HR.out.ne p HPL.out (by rw [HPE.out]; exact h)
                            · have := HR.out.lt
                              omega
                          have hput := (hrc.put HPL.out (r := vadd r tv) (v := .slice A8 q8 c8) hok HVc.out hne hlen).congr (R' := wrec S.recs m x.wrote tv (p + 1)) (fun q' _ => by rw [HRR.out]; exact wrec_succ_yes HMB.out HWB.out q')
                          rw [vadd_last] at hput
                          have hpe := put5_ex wc g (p * 5) (.int .u64 (r.last.number : Int)) (.int .u64 (r.last.epoch : Int)) (.int .i64 r.last.rep) (.int .u64 (r.last.members : Int)) (.slice A8 q8 c8)
                          have HEN := Lib.hid ((HE.out.then HBc.out).trans hpe)
                          have HPN := Lib.hid ((HPT2.out.put HBc.out.size (fun b hb => Nat.lt_of_lt_of_le (HOv.out.lt b hb).2 HE.out.size) HPL.out (v := .slice A8 q8 c8) (fun b hb => by rw [HPE.out]; exact HOc.out b hb)).mono hpe.size)
                          have HPUT := Lib.hid hput
                          have hgc := hrc.lt
                          generalize vs' p = vk at c4
                          generalize wrec S.recs m x.wrote tv p p = rk at c0 c1 c2 c3
                          clear hrc hlen hok hne hput hpe
                          rcases hab : wall S.recs m x.wrote p with _ | _
                          · have HWF : Hid (wall S.recs m x.wrote (p + 1) = false) := by show _ = _; rw [HWN.out, hab]; rfl
                            clear hab
                            go_wp2_with fail
                            go_roundw
                            case rel =>
                              first
                                | exact ⟨p + 1, _, by omega, by go_num, by rw [HWF.out], HPUT, HPN, HEN⟩
                                | ((repeat apply Exists.intro); exact ⟨⟨p + 1, _, by omega, by go_num, by rw [HWF.out], HPUT, HPN, HEN⟩, rfl⟩)
                            case measure => simp [intOf] <;> omega
                          · have HWF : Hid (wall S.recs m x.wrote (p + 1) = vok r) := by show _ = _; rw [HWN.out, hab]; rfl
                            clear hab
                            go_wp2_with fail
                            go_roundw
                            case rel =>
                              first
                                | exact ⟨p + 1, _, by omega, by go_num, by rw [HWF.out], HPUT, HPN, HEN⟩
                                | ((repeat apply Exists.intro); exact ⟨⟨p + 1, _, by omega, by go_num, by rw [HWF.out], HPUT, HPN, HEN⟩, rfl⟩)
                            case measure => simp [intOf] <;> omega
                  · obtain rfl : p = 5 := by omega
                    obtain ⟨R5, hR5⟩ : ∃ R5, R5 = wrec S.recs m x.wrote tv 5 := ⟨_, rfl⟩
                    obtain ⟨all, hall⟩ : ∃ all, all = wall S.recs m x.wrote 5 := ⟨_, rfl⟩
                    rw [← hR5] at HR
                    rw [← hall]
                    have hsn := HSN.out
                    rw [← hR5, ← hall] at hsn
                    have HSN2 := Lib.hid hsn
                    have HVBr := Lib.hid (HE.out.blk HVB.out HGN.out)
                    have HOr := Lib.hid (HE.out.own HOv.out (fun e => by have := (HOv.out.lt g e).1; omega))
                    have HBr := Lib.hid (HE.out.below HBv.out HGW.out HBv.out.size)
                    have HRr : Hid (RA wr g (frec R5 m x.form tv all 0) vs') := HR.out.congr (fun p hp => by simp [frec])
                    have HPTr := HPT2
                    clear hpl hp hR5 hall hsn HR HPT2 HE HRv HOv HBv HVB
                    go_wp2_with fail
                    go_loopw [15, 16] (fun an i wq => ∃ (p : Nat) (vs'' : Nat → Value), p ≤ 5 ∧ i = .int .i64 p ∧ an = .bool (fany m x.form all p) ∧ Hid (RA wq g (frec R5 m x.form tv all p) vs'') ∧ Hid (Parted wq vs'' (.slice A5 l5 c5)) ∧ Hid (Ex g wr wq)) (fun _ i _ => 5 - (intOf i).toNat)
                    case atStart => exact ⟨0, vs', by omega, rfl, rfl, HRr.out, HPTr.out, Ex.refl _ _⟩
                    case round =>
                      obtain ⟨p, vs'', hp, rfl, rfl, HR, HPT2, HE⟩ := hrel
                      by_cases hpl : p < 5
                      · have hp0 : (0 : Int) ≤ (p : Int) := Int.natCast_nonneg _
                        have hp1 : (p : Int) < 5 := by omega
                        cases all with
                        | false =>
                          have HFN : Hid (fany m x.form false (p + 1) = fany m x.form false p) := by show _ = _; rw [fany_succ]; simp
                          have HRN := Lib.hid (HR.out.congr (R' := frec R5 m x.form tv false (p + 1)) (fun q _ => frec_succ_no (fun h => by cases h.1) q))
                          clear hpl
                          go_wp2_with fail
                          go_roundw
                          case rel =>
                            first
                              | exact ⟨p + 1, vs'', by omega, by go_num, by rw [HFN.out], HRN, HPT2, HE⟩
                              | ((repeat apply Exists.intro); exact ⟨⟨p + 1, vs'', by omega, by go_num, by rw [HFN.out], HRN, HPT2, HE⟩, rfl⟩)
                          case measure => simp [intOf] <;> omega
                        | true =>
                          rcases Bool.eq_false_or_eq_true (m.testBit p) with hb | hb
                          rotate_left
                          · have HBT : Hid (shas m (p : Int) = false) := (has_bit hpl).trans hb
                            have HFN : Hid (fany m x.form true (p + 1) = fany m x.form true p) := by show _ = _; rw [fany_succ, hb]; simp
                            have HRN := Lib.hid (HR.out.congr (R' := frec R5 m x.form tv true (p + 1)) (fun q _ => frec_succ_no (fun h => by rw [hb] at h; cases h.2.1) q))
                            clear hb hpl
                            go_wp2_with fail
                            refine (has_eq HM64.out HBT.out _).mono ?_
                            rintro e w' ⟨rfl, rfl⟩
                            go_wp2_with fail
                            go_roundw
                            case rel =>
                              first
                                | exact ⟨p + 1, vs'', by omega, by go_num, by rw [HFN.out], HRN, HPT2, HE⟩
                                | ((repeat apply Exists.intro); exact ⟨⟨p + 1, vs'', by omega, by go_num, by rw [HFN.out], HRN, HPT2, HE⟩, rfl⟩)
                            case measure => simp [intOf] <;> omega
                          · have HBT : Hid (shas m (p : Int) = true) := (has_bit hpl).trans hb
                            obtain ⟨hlk, hle⟩ := HLX.out
                            obtain ⟨b6, off6, hA6, d0, d1, d2, hbl, -⟩ := HV.out.in (HE.out.below HBr.out HGW.out HBr.out.size) k hlk
                            injection hA6 with hA6
                            injection hA6 with hA61 hA62
                            subst hA61 hA62
                            rw [hle] at d0 d1 d2
                            clear hlk hle
                            rcases Bool.eq_false_or_eq_true (x.form.testBit p) with hwb | hwb
                            rotate_left
                            · have hz := shr_one HOK.out.form hwb
                              have HFN : Hid (fany m x.form true (p + 1) = fany m x.form true p) := by show _ = _; rw [fany_succ, hwb]; simp
                              have HRN := Lib.hid (HR.out.congr (R' := frec R5 m x.form tv true (p + 1)) (fun q _ => frec_succ_no (fun h => by rw [hwb] at h; cases h.2.2) q))
                              clear hb hpl hwb
                              go_wp2_with fail
                              refine (has_eq HM64.out HBT.out _).mono ?_
                              rintro e w' ⟨rfl, rfl⟩
                              go_wp2_with fail
                              go_roundw
                              case rel =>
                                first
                                  | exact ⟨p + 1, vs'', by omega, by go_num, by rw [HFN.out], HRN, HPT2, HE⟩
                                  | ((repeat apply Exists.intro); exact ⟨⟨p + 1, vs'', by omega, by go_num, by rw [HFN.out], HRN, HPT2, HE⟩, rfl⟩)
                              case measure => simp [intOf] <;> omega
                            · have hz := shr_one HOK.out.form hwb
                              have HFN : Hid (fany m x.form true (p + 1) = true) := by show _ = _; rw [fany_succ, hb, hwb]; simp
                              have HWB : Hid (x.form.testBit p = true) := hwb
                              have HMB : Hid (m.testBit p = true) := hb
                              obtain ⟨Ap, cp, hvp⟩ := (HR.out.views p hpl).sl
                              have hbx := HE.out.blk HVBr.out HGN.out
                              have z0 := hbx.cell 0
                              have z1 := hbx.cell 1
                              have z2 := hbx.cell 2
                              have z3 := hbx.cell 3
                              simp only [vwA] at z0 z1 z2 z3
                              have hgl := hbx.lt
                              have hrl := HR.out.lt
                              obtain ⟨c0, c1, c2, c3, c4⟩ := HR.out.at hpl
                              rw [hvp] at c4
                              rw [frec_at] at c0 c1 c2 c3
                              have HVP : Hid (Views wr (.slice Ap (frec R5 m x.form tv true p p).pend.length cp) (R5 p).pend) := by
                                have h := HR.out.views p hpl
                                rw [hvp] at h
                                show Views _ _ _
                                rw [frec_at] at h ⊢
                                exact h
                              have HPE : Hid (vs'' p = .slice Ap (frec R5 m x.form tv true p p).pend.length cp) := hvp
                              obtain ⟨q, hq⟩ : ∃ q, q = (frec R5 m x.form tv true p p).pend.length := ⟨_, rfl⟩
                              rw [← hq] at c4 HVP HPE
                              have hql := HR.out.len p hpl
                              rw [frec_at] at hql
                              obtain ⟨r, hr⟩ : ∃ r, r = R5 p := ⟨_, rfl⟩
                              rw [← hr] at c0 c1 c2 c3 HVP hql
                              have HRR := Lib.hid hr
                              have HPL := Lib.hid hpl
                              have HQL := Lib.hid hql
                              clear hb hpl hwb hvp hbx hq hr hql
                              go_wp2_with fail
                              refine (has_eq HM64.out HBT.out _).mono ?_
                              rintro e w' ⟨rfl, rfl⟩
                              go_wp2_with fail
                              first
                                | (go_region_with
                                    (first
                                      | (go_at_call 22; refine (vform_any (HVP.out.below (vdrew_below _)) (by have := HQL.out; omega) tv (by simp [Value.oneCell'])).mono ?_; rintro e w8 ⟨A8, q8, c8, rfl, hb8, ho8⟩; have HB8 : Hid (Below wr.heap.size wr w8) := btr (vdrew_below _) hb8; have hrc := HR.out.stay HB8.out; obtain ⟨k0, k1, k2, k3, k4⟩ := hrc.at HPL.out; generalize vs'' p = vk at k4; generalize frec R5 m x.form tv true p p = rk at k0 k1 k2 k3; have f0 := hrc.free (p * 5); have f1 := hrc.free (p * 5 + 1); have f2 := hrc.free (p * 5 + 2); have f3 := hrc.free (p * 5 + 3); have f4 := hrc.free (p * 5 + 4); have HRC := Lib.hid hrc; have HO8 := Lib.hid ho8; clear hb8 ho8 hrc)))
                                | fail
                              all_goals
                                have hne : vblk (.slice A8 q8 c8) ≠ some g := fun e => by
                                  rw [own_vblk HO8.out] at e
                                  have h1 := (HO8.out.lt g e).1
                                  have h2 := HR.out.lt
                                  have h3 : wr.drew.heap.size = wr.heap.size := rfl
                                  omega
                                have hvv : Views w8 (.slice A8 q8 c8) (vform r tv).pend := Views.of_own HO8.out rfl (fun y hy => HVP.out.ok y (List.mem_filter.1 hy).1)
                                have hput := (HRC.out.put HPL.out (r := vform r tv) (v := .slice A8 q8 c8) HTO.out hvv hne (Nat.le_trans (List.length_filter_le _ _) HQL.out)).congr (R' := frec R5 m x.form tv true (p + 1)) (fun q' _ => by rw [HRR.out]; exact frec_succ_yes rfl HMB.out HWB.out q')
                                have hpe := put5_ex w8 g (p * 5) (.int .u64 (tv.number : Int)) (.int .u64 (tv.epoch : Int)) (.int .i64 tv.rep) (.int .u64 (tv.members : Int)) (.slice A8 q8 c8)
                                have HEN := Lib.hid ((HE.out.then HB8.out).trans hpe)
                                have HPN := Lib.hid ((HPT2.out.put HB8.out.size (fun b hb => Nat.lt_of_lt_of_le (HOr.out.lt b hb).2 HE.out.size) HPL.out (v := .slice A8 q8 c8) (fun b hb => by rw [own_vblk HO8.out] at hb; exact .inr (HO8.out.lt b hb))).mono hpe.size)
                                have HPUT := Lib.hid hput
                                clear hne hvv hput hpe
                                go_wp2_with fail
                                go_roundw
                                case rel =>
                                  first
                                    | exact ⟨p + 1, _, by omega, by go_num, by rw [HFN.out], HPUT, HPN, HEN⟩
                                    | ((repeat apply Exists.intro); exact ⟨⟨p + 1, _, by omega, by go_num, by rw [HFN.out], HPUT, HPN, HEN⟩, rfl⟩)
                                case measure => simp [intOf] <;> omega
                      · obtain rfl : p = 5 := by omega
                        have HOe := Lib.hid (HE.out.own HOr.out (fun e => by have := (HOr.out.lt g e).1; omega))
                        have HBe := Lib.hid (HE.out.below HBr.out HGW.out HBr.out.size)
                        have HVe := Lib.hid (HE.out.blk HVBr.out HGN.out)
                        clear hpl hp HE HOr HBr HVBr HRr HPTr
                        rcases hfa : fany m x.form all 5 with _ | _
                        · have hsn := HSN2.out
                          rw [hfa] at hsn
                          have HSN3 : Hid (Chn.upto l (k + 1) = ⟨frec R5 m x.form tv all 5, S.formed⟩) := by show _ = _; rw [hsn]; rfl
                          clear hfa hsn
                          go_wp2_with fail
                          go_roundw
                          case rel =>
                            first
                              | exact ⟨k + 1, vs'', by omega, by go_num, by rw [HSN3.out]; exact HR, HPT2, by rw [HSN3.out]; exact HOe, by rw [HSN3.out]; exact HFO, by rw [HSN3.out]; exact Nat.le_succ_of_le HFL.out, HBe⟩
                              | ((repeat apply Exists.intro); exact ⟨⟨k + 1, vs'', by omega, by go_num, by rw [HSN3.out]; exact HR, HPT2, by rw [HSN3.out]; exact HOe, by rw [HSN3.out]; exact HFO, by rw [HSN3.out]; exact Nat.le_succ_of_le HFL.out, HBe⟩, rfl⟩)
                          case measure => simp [intOf] <;> omega
                        · have hsn := HSN2.out
                          rw [hfa] at hsn
                          have HSN3 : Hid (Chn.upto l (k + 1) = ⟨frec R5 m x.form tv all 5, S.formed ++ [tv]⟩) := by show _ = _; rw [hsn]; rfl
                          have y0 := HVe.out.cell 0
                          have y1 := HVe.out.cell 1
                          have y2 := HVe.out.cell 2
                          have y3 := HVe.out.cell 3
                          simp only [vwA] at y0 y1 y2 y3
                          have hgl := HVe.out.lt
                          have hrl := HR.out.lt
                          obtain ⟨news, hnews⟩ : ∃ news : List Value, news = [.int .u64 (tv.number : Int), .int .u64 (tv.epoch : Int), .int .i64 tv.rep, .int .u64 (tv.members : Int)] := ⟨_, rfl⟩
                          obtain ⟨wa, hwa⟩ : ∃ wa, wa = wr.alloc (.cells #[.int .u64 (tv.number : Int), .int .u64 (tv.epoch : Int), .int .i64 tv.rep, .int .u64 (tv.members : Int)] 31) := ⟨_, rfl⟩
                          have hba : Below wr.heap.size wr wa := by rw [hwa]; exact bal (Below.refl _ _) _
                          have HON := Lib.hid (own_stay HOe.out hba)
                          have HRA := Lib.hid (HR.out.stay hba)
                          have HPA := Lib.hid (HPT2.out.mono hba.size)
                          have HBA := Lib.hid (btr HBe.out hba)
                          have HNW := Lib.hid (show viewCells tv = news by rw [hnews]; rfl)
                          have hcl := cells_new wr #[.int .u64 (tv.number : Int), .int .u64 (tv.epoch : Int), .int .i64 tv.rep, .int .u64 (tv.members : Int)] 31 news (g := wr.heap.size) rfl hnews.symm
                          rw [← hwa] at hcl
                          have HCL := Lib.hid hcl
                          have HN4 := Lib.hid (show news.length = 1 * 4 by rw [hnews]; rfl)
                          have HN1 := Lib.hid (show ∀ u ∈ news, u.oneCell' = true by rw [hnews]; simp [Value.oneCell'])
                          have HWA := Lib.hid hwa
                          have hfl0 := HFL.out
                          clear hfa hsn hnews hba hcl hwa
                          go_wp2_with (at_builtin; rw [← HWA.out]; refine wpList_append_own_at _ rfl _ _ 32 rfl (g + 1) 31 i0 zvw 4 32 Try.underlying32 hi hz0 hz1 hz2 rfl (by decide) _ _ _ rfl HON.out ⟨wr.heap.size, 0, none⟩ 1 1 news rfl HN4.out HCL.out HN1.out ?c3 ?c4 ?c5 ?_)
                          case c3 => unfold maxLen; omega
                          case c4 => omega
                          case c5 => exact HRA.out.lt
                          intro v' w5 hown' hgrow _ hob
                          have hbg := HBA.out.grown hgrow HBA.out.size (fun b hb => by have h1 := (HON.out.lt b hb).1; have h2 := HGW.out; omega)
                          have hra := HRA.out.grow HPA.out hgrow (fun e => by have := (HON.out.lt g e).1; omega)
                          have hpa := HPA.out.grow hgrow.size hob
                          have hfl : (S.formed.map viewCells).flatten ++ news = ((S.formed ++ [tv]).map viewCells).flatten := by simp [HNW.out]
                          have hle : S.formed.length + 1 = (S.formed ++ [tv]).length := by rw [List.length_append]; rfl
                          rw [hfl, hle] at hown'
                          have HO5 := Lib.hid hown'
                          have HB5 := Lib.hid hbg
                          have HR5 := Lib.hid hra
                          have HP5 := Lib.hid hpa
                          have HF5 : Hid (∀ y, y ∈ S.formed ++ [tv] → y.Ok) := fun y hy => by
                            rcases List.mem_append.1 hy with h | h
                            · exact HFO.out y h
                            · rw [List.mem_singleton.1 h]; exact HTO.out
                          have HL5 : Hid ((S.formed ++ [tv]).length ≤ k + 1) := by show _ ≤ _; rw [← hle]; omega
                          clear hown' hgrow hob hbg hfl hle hra hpa y0 y1 y2 y3
                          go_wp2_with fail
                          go_roundw
                          case rel =>
                            first
                              | exact ⟨k + 1, vs'', by omega, by go_num, by rw [HSN3.out]; exact HR5, HP5, by rw [HSN3.out]; exact HO5, by rw [HSN3.out]; exact HF5, by rw [HSN3.out]; exact HL5, HB5⟩
                              | ((repeat apply Exists.intro); exact ⟨⟨k + 1, vs'', by omega, by go_num, by rw [HSN3.out]; exact HR5, HP5, by rw [HSN3.out]; exact HO5, by rw [HSN3.out]; exact HF5, by rw [HSN3.out]; exact HL5, HB5⟩, rfl⟩)
                          case measure => simp [intOf] <;> omega
        · obtain rfl : k = n := by omega
          have hi2 := (Chn.upto_inv l (by rw [← HN.out]; exact hn6) k (by rw [← HN.out]; exact Nat.le_refl _)).chain
          obtain ⟨F, hF⟩ : ∃ F, F = (Chn.upto l k).formed := ⟨_, rfl⟩
          rw [← hF] at HO HFO HFL hi2
          have HCH := Lib.hid hi2
          obtain ⟨A5, l5, c5, rfl⟩ := own_sl HO.out
          have hl5 := own_len HO.out
          have HL5 := Lib.hid hl5
          have HVW := Lib.hid (Views.of_own HO.out rfl HFO.out)
          have hl6 : l5 ≤ 60 := by have := HFL.out; omega
          clear hi2 hF HO HFL HR HPT hlt hl5
          go_wp2_with fail
          refine (all5 _).mono ?_
          rintro e w9 ⟨rfl, rfl⟩
          go_wp2_with fail
          go_loopw [17, 18] (fun a i wq => ∃ (j : Nat), j ≤ l5 ∧ i = .int .i64 j ∧ a = .int .u64 (((if h : 0 < j ∧ j - 1 < F.length then F[j - 1]'h.2 else F0).members : Nat) : Int) ∧ Hid (Below wr.heap.size wr wq)) (fun _ i _ => l5 - (intOf i).toNat)
          case atStart => exact ⟨0, by omega, rfl, rfl, Below.refl _ _⟩
          case round =>
            obtain ⟨j, hj, rfl, rfl, HQ⟩ := hrel
            by_cases hjl : j < l5
            · have hj2 : j < F.length := by rw [← HL5.out]; exact hjl
              have hj0 : (0 : Int) ≤ (j : Int) := Int.natCast_nonneg _
              have hj1 : (j : Int) < (l5 : Int) := by omega
              obtain ⟨b3, off3, rfl, e0, -, -, e3, hbl3, hok3⟩ := HVW.out.in HQ.out j hj2
              have hat := HCH.out.at j hj2
              have HAN : Hid ((if h : 0 < j + 1 ∧ j + 1 - 1 < F.length then F[j + 1 - 1]'h.2 else F0).members = F[j].members) := by show _ = _; rw [dif_pos ⟨by omega, by simpa using hj2⟩]; rfl
              obtain ⟨y, hy⟩ : ∃ y, y = F[j] := ⟨_, rfl⟩
              rw [← hy] at e0 e3 hok3 hat HAN
              cases j with
              | zero =>
                have HMO : Hid (smost y.members F0.members = true) := hat.2
                have hif : (if h : 0 < 0 ∧ 0 - 1 < F.length then F[0 - 1]'h.2 else F0) = F0 := dif_neg (fun h => by omega)
                rw [hif]
                have HYO := Lib.hid hok3
                clear hat hy hj2 hif hok3 hjl
                go_wp2_with fail
                go_quiet ((go_at_call 23; exact qv (most_eq HYO.out.members F0_ok.members HMO.out _)))
                go_wp2_with fail
                go_roundw
                case rel =>
                  first
                    | exact ⟨0 + 1, by omega, by go_num, by rw [HAN.out], bdrewN HQ.out nq⟩
                    | ((repeat apply Exists.intro); exact ⟨⟨0 + 1, by omega, by go_num, by rw [HAN.out], bdrewN HQ.out nq⟩, rfl⟩)
                case measure => simp [intOf] <;> omega
              | succ j =>
                have hj3 : j < F.length := by omega
                obtain ⟨b4, off4, hA4, g0, -, -, -, -, hok4⟩ := HVW.out.in HQ.out j hj3
                injection hA4 with hA4
                injection hA4 with hA41 hA42
                subst hA41 hA42
                have hif : (if h : 0 < j + 1 ∧ j + 1 - 1 < F.length then F[j + 1 - 1]'h.2 else F0) = F[j] := dif_pos ⟨by omega, by simpa using hj3⟩
                rw [hif]
                have hat2 : Next F[j] y := by
                  rw [dif_pos (by omega)] at hat
                  exact hat
                obtain ⟨z, hz⟩ : ∃ z, z = F[j] := ⟨_, rfl⟩
                rw [← hz] at g0 hok4 hat2
                rw [← hz]
                have HMO : Hid (smost y.members z.members = true) := hat2.2
                have hlt2 : decide ((y.number : Int) ≤ (z.number : Int)) = false := decide_eq_false (by have := hat2.1; omega)
                have hpos : decide (0 < (j : Int) + 1) = true := decide_eq_true (by omega)
                have HYO := Lib.hid hok3
                have HZO := Lib.hid hok4
                have hj4 : (0 : Int) ≤ (j : Int) := Int.natCast_nonneg _
                have hj5 : (j : Int) < (l5 : Int) := by omega
                have hlt3 : decide (y.number ≤ z.number) = false := decide_eq_false (by have := hat2.1; omega)
                have hwm : IntKind.i64.wrap ((j : Int) + 1 - 1) = (j : Int) := by rw [IntKind.wrap_i64]; omega
                clear hat hat2 hy hz hj2 hif hok3 hok4 hjl hj3
                go_wp2_with fail
                go_quiet ((go_at_call 23; exact qv (most_eq HYO.out.members HZO.out.members HMO.out _)))
                go_wp2_with fail
                go_roundw
                case rel =>
                  first
                    | exact ⟨j + 1 + 1, by omega, by go_num, by rw [HAN.out], bdrewN HQ.out nq⟩
                    | ((repeat apply Exists.intro); exact ⟨⟨j + 1 + 1, by omega, by go_num, by rw [HAN.out], bdrewN HQ.out nq⟩, rfl⟩)
                case measure => simp [intOf] <;> omega
            · obtain rfl : j = l5 := by omega
              generalize (if h : 0 < j ∧ j - 1 < F.length then F[j - 1]'h.2 else F0).members = am
              clear hjl hj
              go_wp2_with fail
              go_ret
              exact ⟨rfl, HB.out.trans (HQ.out.mono HB.out.size)⟩
end Go.Proofs.Ytheeclmpkddgjaa
