import Derived.Test.YtheeclmpkddgjaaVtS
import Derived.Test.YtheeclmpkddgjaaVtN
namespace Go.Proofs.Ytheeclmpkddgjaa
set_option linter.unusedVariables false
set_option linter.unusedSimpArgs false
open Go.RowKit
set_option maxRecDepth 20000 in
set_option maxHeartbeats 8000000 in
theorem refPending_any {w : World} {v : Value} {L : List Rcd} (hv : Recs w v L) (hl : FewR L) :
    Calls Try.prog 15 #[v] w fun e w' => ∃ v', e = .returned v' ∧ Below w.heap.size w w' ∧ Views w' v' (vpend L) := by
  obtain ⟨i0, hi, hz0, hz1, hz2⟩ := info_parts vw_info
  have hok0 := hv.ok
  have hpo := vpend_ok hv
  obtain ⟨A, c, rfl, _⟩ := hv.slice
  obtain ⟨n, hn⟩ : ∃ n, n = L.length := ⟨_, rfl⟩
  have hn6 : n ≤ 1000 := by have := hl.len; omega
  have HN := Lib.hid hn
  have HP := Lib.hid hl.pend
  have HFW := Lib.hid hl
  have hpok : ∀ k, k ≤ n → ∀ j (hk : k < L.length), ∀ x, x ∈ vpends (L.take k) ++ L[k].pend.take j → x.Ok := fun k hk j hkl x hx => by
    rcases List.mem_append.1 hx with hx | hx
    · obtain ⟨r, hr, hx⟩ := mem_vpends.1 hx
      exact (hok0 r (List.mem_of_mem_take hr)).2 x hx
    · exact (hok0 L[k] (List.getElem_mem hkl)).2 x (List.mem_of_mem_take hx)
  have HPOK := Lib.hid hpok
  rw [← hn] at hv ⊢
  have HV := Lib.hid hv
  obtain ⟨la, hla⟩ : ∃ la, la = vlast L := ⟨_, rfl⟩
  have HLA := Lib.hid hla
  have HPO := Lib.hid hpo
  have hfld := view_number la
  clear hv hl hn hok0 hpok hla hpo
  go_enter Try.func15, Try.ntmps15
  go_wp2_with fail
  go_loopw [3, 4] (fun a i wr => ∃ (k : Nat), k ≤ n ∧ i = .int .i64 k ∧ Hid (wr.ownsRow w.heap.size 31 4 a (pout la.number (vpends (L.take k))).length ((pout la.number (vpends (L.take k))).map viewCells).flatten) ∧ Hid (Below w.heap.size w wr)) (fun _ i _ => n - (intOf i).toNat)
  case atStart => exact ⟨0, by omega, rfl, World.ownsRow_nil _ _ _ _, Below.refl _ _⟩
  case round =>
    obtain ⟨k, hk, rfl, HO, HB⟩ := hrel
    by_cases hlt : k < n
    · have hlt2 : k < L.length := by rw [← HN.out]; exact hlt
      obtain ⟨b, off, A2, c2, rfl, -, -, -, -, d4, hbl, -, hpv⟩ := Recs.at HV.out k hlt2
      have htk := vpends_take L k hlt2
      have hpl := HP.out L[k] (List.getElem_mem hlt2)
      have hpo := fun j => HPOK.out k hk j hlt2
      have hPl : (vpends (L.take k)).length ≤ 1000 * n := by
        have h1 := vpends_len (l := L.take k) (fun r hr => HP.out r (List.mem_of_mem_take hr))
        rw [List.length_take] at h1
        omega
      obtain ⟨r, hr⟩ : ∃ r, r = L[k] := ⟨_, rfl⟩
      rw [← hr] at d4 htk hpv hpl hpo
      obtain ⟨P, hP⟩ : ∃ P, P = vpends (L.take k) := ⟨_, rfl⟩
      rw [← hP] at htk HO hPl hpo
      obtain ⟨q, hq⟩ : ∃ q, q = r.pend.length := ⟨_, rfl⟩
      rw [← hq] at d4 hpv hpl
      have HPV := Lib.hid hpv
      have HTK := Lib.hid htk
      have HPO2 := Lib.hid hpo
      have HPL := Lib.hid hPl
      have HQ := Lib.hid hq
      have HD4 : Hid (w.cell? ⟨b, off + k * 5 + 4, none⟩ = some (.slice A2 q c2)) := d4
      have HBL : Hid (b < w.heap.size) := hbl
      clear hr hlt2 hpv htk hq hpo hP hPl d4 hbl
      go_wp2_with fail
      go_loopw [3, 5] (fun a i wq => ∃ j : Nat, j ≤ q ∧ i = .int .i64 j ∧ Hid (wq.ownsRow w.heap.size 31 4 a (pout la.number (P ++ r.pend.take j)).length ((pout la.number (P ++ r.pend.take j)).map viewCells).flatten) ∧ Hid (Below w.heap.size w wq)) (fun _ i _ => q - (intOf i).toNat)
      case atStart => exact ⟨0, by omega, rfl, by rw [List.take_zero, List.append_nil]; exact HO, HB⟩
      case round =>
        clear HO HB
        obtain ⟨j, hj, rfl, HO, HB⟩ := hrel
        have d4 := (HB.out.cell (p := ⟨b, off + k * 5 + 4, none⟩) HBL.out).trans HD4.out
        have hbl : b < wr.heap.size := Nat.lt_of_lt_of_le HBL.out HB.out.size
        by_cases hjl : j < q
        · have hjl2 : j < r.pend.length := by rw [← HQ.out]; exact hjl
          obtain ⟨b3, off3, rfl, e0, e1, e2, e3, hbl3, hok3⟩ := HPV.out.in HB.out j hjl2
          have hpt : P ++ r.pend.take (j + 1) = (P ++ r.pend.take j) ++ [r.pend[j]] := by rw [List.take_succ_eq_append_getElem hjl2, List.append_assoc]
          obtain ⟨y, hy⟩ : ∃ y, y = r.pend[j] := ⟨_, rfl⟩
          rw [← hy] at e0 e1 e2 e3 hpt hok3
          have hst := pout_snoc la.number (P ++ r.pend.take j) y
          rw [← hpt] at hst
          have hol : (pout la.number (P ++ r.pend.take j)).length ≤ 1100000 := by
            have h1 := pout_len la.number (P ++ r.pend.take j) []
            rw [List.length_append, List.length_take] at h1
            have := HPL.out
            unfold pout
            simp only [List.length_nil] at h1
            omega
          have hook := pout_ok (n := la.number) (HPO2.out j)
          obtain ⟨O, hO⟩ : ∃ O, O = pout la.number (P ++ r.pend.take j) := ⟨_, rfl⟩
          rw [← hO] at hst hol HO hook
          obtain ⟨A5, l5, c5, rfl⟩ := own_sl HO.out
          have hl5 := own_len HO.out
          obtain ⟨wy, hwy⟩ : ∃ wy, wy = wr.alloc (.cells #[.int .u64 (y.number : Int), .int .u64 (y.epoch : Int), .int .i64 y.rep, .int .u64 (y.members : Int)] 31) := ⟨_, rfl⟩
          obtain ⟨gy, hgy⟩ : ∃ gy, gy = wr.heap.size := ⟨_, rfl⟩
          have HBY : Hid (Below w.heap.size w wy) := by show Below _ _ _; rw [hwy]; exact HB.out.alloc HB.out.size _
          have HYB : Hid (Blk wy gy 31 (vwA y)) := by show Blk _ _ _ _; rw [hwy]; exact Blk.new wr _ _ hgy
          have HOY : Hid (wy.ownsRow w.heap.size 31 4 (.slice A5 l5 c5) O.length (O.map viewCells).flatten) := by show World.ownsRow _ _ _ _ _ _ _; rw [hwy]; exact own_stay HO.out (bal (Below.refl _ _) _)
          have HOK := Lib.hid hook
          have HYO := Lib.hid hok3
          have HWY := Lib.hid hwy
          have HGY := Lib.hid hgy
          have HL5 := Lib.hid hl5
          have hol5 : l5 ≤ 1100000 := by omega
          have HST := Lib.hid hst
          have HVO := Lib.hid (Views.of_own HOY.out rfl hook)
          have hkI0 : (0 : Int) ≤ (k : Int) := Int.natCast_nonneg _
          have hkI1 : (k : Int) < (n : Int) := by omega
          clear hjl2 hook hok3 hpt hy hO HO HB hol hwy hgy hl5 hst
          go_upto_region 9 with fail
          rw [← HWY.out, ← HGY.out]
          go_wp2_with fail
          go_loopw [7, 8] (fun t i wq => ∃ s : Nat, s ≤ l5 ∧ i = .int .i64 s ∧ t = .bool (decide (y ∈ O.take s)) ∧ Hid (Below wy.heap.size wy wq)) (fun _ i _ => l5 - (intOf i).toNat)
          case atStart => exact ⟨0, by omega, rfl, by simp, Below.refl _ _⟩
          case round =>
            obtain ⟨s, hs, rfl, rfl, HS⟩ := hrel
            clear d4 e0 e1 e2 e3 hbl hbl3
            have HYr := Lib.hid (HYB.out.stay HS.out)
            by_cases hsl : s < l5
            · have hsl2 : s < O.length := by rw [← HL5.out]; exact hsl
              obtain ⟨b6, off6, rfl, o0, o1, o2, o3, hbl6, -⟩ := HVO.out.in HS.out s hsl2
              have htk : O.take (s + 1) = O.take s ++ [O[s]] := List.take_succ_eq_append_getElem hsl2
              obtain ⟨z, hz⟩ : ∃ z, z = O[s] := ⟨_, rfl⟩
              rw [← hz] at o0 o1 o2 o3 htk
              have y0 := HYr.out.cell 0
              have y1 := HYr.out.cell 1
              have y2 := HYr.out.cell 2
              have y3 := HYr.out.cell 3
              simp only [vwA] at y0 y1 y2 y3
              have hgl := HYr.out.lt
              have hsI0 : (0 : Int) ≤ (s : Int) := Int.natCast_nonneg _
              have hsI1 : (s : Int) < (l5 : Int) := by omega
              have heq := view_eql z y
              have HT := Lib.hid htk
              clear hz hsl2 htk
              by_cases hin : y ∈ O.take s
              · have hn : decide (y ∈ O.take (s + 1)) = true := decide_eq_true (by rw [HT.out]; exact List.mem_append_left _ hin)
                rw [decide_eq_true hin]
                have HNX := Lib.hid hn
                clear hn hin
                go_wp2_with fail
                go_quiet (fail)
                go_wp2_with fail
                go_roundw
                case rel => exact ⟨s + 1, by omega, by go_num, by rw [HNX.out], bdrewN HS.out _⟩
                case measure => simp [intOf] <;> omega
              · by_cases hzy : z = y
                · have hn : decide (y ∈ O.take (s + 1)) = true := decide_eq_true (by rw [HT.out]; exact List.mem_append_right _ (by rw [hzy]; simp))
                  rw [decide_eq_false hin]
                  rw [decide_eq_true hzy] at heq
                  have HNX := Lib.hid hn
                  clear hn hin hzy
                  go_wp2_with fail
                  go_quiet (fail)
                  go_wp2_with fail
                  go_roundw
                  case rel => exact ⟨s + 1, by omega, by go_num, by rw [HNX.out], bdrewN HS.out _⟩
                  case measure => simp [intOf] <;> omega
                · have hn : decide (y ∈ O.take (s + 1)) = false := decide_eq_false (by
                    rw [HT.out, List.mem_append, List.mem_singleton]
                    rintro (h | h)
                    · exact hin h
                    · exact hzy h.symm)
                  rw [decide_eq_false hin]
                  rw [decide_eq_false hzy] at heq
                  have HNX := Lib.hid hn
                  clear hn hin hzy
                  go_wp2_with fail
                  go_quiet (fail)
                  go_wp2_with fail
                  go_roundw
                  case rel => exact ⟨s + 1, by omega, by go_num, by rw [HNX.out], bdrewN HS.out _⟩
                  case measure => simp [intOf] <;> omega
            · obtain rfl : s = l5 := by omega
              clear hsl hs
              have e : O.take s = O := List.take_of_length_le (by rw [HL5.out]; exact Nat.le_refl _)
              rw [e]
              clear e
              have y0 := HYr.out.cell 0
              simp only [vwA] at y0
              have hgl := HYr.out.lt
              have HBW := Lib.hid (HBY.out.trans (HS.out.mono HBY.out.size))
              obtain ⟨T, hT⟩ : ∃ T, T = decide (y ∈ O) := ⟨_, rfl⟩
              rw [← hT]
              have HTT := Lib.hid hT
              obtain ⟨bb, hbb⟩ : ∃ bb, bb = (decide (la.number < y.number) && !T) := ⟨_, rfl⟩
              have HBB := Lib.hid hbb
              clear hT hbb
              have HVW := Lib.hid (HV.out.below HBW.out)
              go_upto_region 14 with fail
              go_cut [57] from 15 to 61 (fun x wx => x = .bool bb ∧ Hid (Below wr.heap.size wr wx))
              case first =>
                by_cases hc : la.number < y.number
                all_goals
                  first
                    | (have hd : decide (la.number < y.number) = true := decide_eq_true hc)
                    | (have hd : decide (la.number < y.number) = false := decide_eq_false hc)
                  first
                    | (have hdI : decide ((la.number : Int) < (y.number : Int)) = true := decide_eq_true (by omega))
                    | (have hdI : decide ((la.number : Int) < (y.number : Int)) = false := decide_eq_false (by omega))
                  have hbb := HBB.out
                  rw [hd] at hbb
                  have HB2 := Lib.hid hbb
                  clear hc hbb
                  first
                    | (go_region_with
                        (first
                          | (go_at_call 12; refine (refLast_any (x := la) (by first | exact HVW.out | exact HVW.out.below (vdrew_below _)) (by rw [← HN.out]; exact hn6) HLA.out.symm).mono ?_; rintro e w9 ⟨rfl, hb9⟩; have HB9 : Hid (Below wr.heap.size wr w9) := (by first | exact hb9 | exact btr (vdrew_below _) hb9); have z0 := (HYr.out.stay HB9.out).cell 0; simp only [vwA] at z0)))
                    | fail
                  all_goals
                    go_wp2_with fail
                    go_meet
                    exact ⟨by rw [HB2.out]; rfl, HB9.out⟩
              case rest =>
                obtain ⟨rfl, HCB⟩ := hcut
                have HYc := Lib.hid (HYr.out.stay HCB.out)
                have HBc := Lib.hid (btr HBW.out HCB.out)
                have HOc := Lib.hid (own_stay (own_stay HOY.out HS.out) HCB.out)
                cases bb with
                | false =>
                  have hst := HST.out
                  rw [if_neg (fun h => by
                    have h2 := HBB.out
                    rw [HTT.out, decide_eq_true h.1, decide_eq_false h.2] at h2
                    cases h2)] at hst
                  have HSTN := Lib.hid hst
                  clear hst
                  go_wp2_with fail
                  go_roundw
                  case rel =>
                    refine ⟨j + 1, by omega, by go_num, ?_, HBc⟩
                    rw [HSTN.out]
                    exact HOc
                  case measure => simp [intOf] <;> omega
                | true =>
                  have hst := HST.out
                  have hboth : la.number < y.number ∧ y ∉ O := by
                    have h2 := HBB.out
                    rw [HTT.out] at h2
                    by_cases h3 : la.number < y.number
                    · refine ⟨h3, fun h4 => ?_⟩
                      rw [decide_eq_true h4, Bool.not_true, Bool.and_false] at h2
                      cases h2
                    · rw [decide_eq_false h3, Bool.false_and] at h2
                      cases h2
                  rw [if_pos hboth] at hst
                  have HSTN := Lib.hid hst
                  clear hst hboth
                  have y0 := HYc.out.cell 0
                  have y1 := HYc.out.cell 1
                  have y2 := HYc.out.cell 2
                  have y3 := HYc.out.cell 3
                  simp only [vwA] at y0 y1 y2 y3
                  have hgl := HYc.out.lt
                  obtain ⟨news, hnews⟩ : ∃ news : List Value, news = [.int .u64 (y.number : Int), .int .u64 (y.epoch : Int), .int .i64 y.rep, .int .u64 (y.members : Int)] := ⟨_, rfl⟩
                  have HON := Lib.hid (own_stay HOc.out (bal (Below.refl _ _) (.cells #[.int .u64 (y.number : Int), .int .u64 (y.epoch : Int), .int .i64 y.rep, .int .u64 (y.members : Int)] 31)))
                  have HBN := Lib.hid (HBc.out.alloc HBc.out.size (.cells #[.int .u64 (y.number : Int), .int .u64 (y.epoch : Int), .int .i64 y.rep, .int .u64 (y.members : Int)] 31))
                  have HNW := Lib.hid (show viewCells y = news by rw [hnews]; rfl)
                  have hcl := cells_new wc #[.int .u64 (y.number : Int), .int .u64 (y.epoch : Int), .int .i64 y.rep, .int .u64 (y.members : Int)] 31 news (g := wc.heap.size) rfl hnews.symm
                  have HCL := Lib.hid hcl
                  have HN4 := Lib.hid (show news.length = 1 * 4 by rw [hnews]; rfl)
                  have HN1 := Lib.hid (show ∀ u ∈ news, u.oneCell' = true by rw [hnews]; simp [Value.oneCell'])
                  clear hnews hcl
                  rw [← HL5.out] at HON
                  go_wp2_with (at_builtin; refine wpList_append_own_at _ rfl _ _ 32 rfl w.heap.size 31 i0 zvw 4 32 Try.underlying32 hi hz0 hz1 hz2 rfl (by decide) _ _ _ rfl HON.out ⟨wc.heap.size, 0, none⟩ 1 1 news rfl HN4.out HCL.out HN1.out ?c3 ?c4 ?c5 ?_)
                  case c3 => unfold maxLen; omega
                  case c4 => omega
                  case c5 => exact HBN.out.size
                  intro v' w5 hown' hgrow _ hob
                  have hbg := HBN.out.grown hgrow HBN.out.size (fun b hb => (HON.out.lt b hb).1)
                  have hfl : (O.map viewCells).flatten ++ news = ((O ++ [y]).map viewCells).flatten := by simp [HNW.out]
                  have hle : s + 1 = (O ++ [y]).length := by rw [List.length_append, ← HL5.out]; rfl
                  rw [hfl, hle] at hown'
                  have HO5 := Lib.hid hown'
                  have HB5 := Lib.hid hbg
                  clear hown' hgrow hob hbg hfl hle y0 y1 y2 y3
                  go_wp2_with fail
                  go_roundw
                  case rel =>
                    refine ⟨j + 1, by omega, by go_num, ?_, HB5⟩
                    rw [HSTN.out]
                    exact HO5
                  case measure => simp [intOf] <;> omega
        · obtain rfl : j = q := by omega
          have e : P ++ r.pend.take j = vpends (L.take (k + 1)) := by rw [List.take_of_length_le (by rw [HQ.out]; exact Nat.le_refl _), HTK.out]
          rw [e] at HO
          have hkI0 : (0 : Int) ≤ (k : Int) := Int.natCast_nonneg _
          have hkI1 : (k : Int) < (n : Int) := by omega
          clear e hjl hj
          go_wp2_with fail
          go_roundw
          case rel => exact ⟨k + 1, by omega, by go_num, HO, HB⟩
          case measure => simp [intOf] <;> omega
    · obtain rfl : k = n := by omega
      have e : pout la.number (vpends (L.take k)) = vpend L := by
        rw [List.take_of_length_le (by rw [HN.out]; exact Nat.le_refl _), HLA.out]; rfl
      rw [e] at HO
      obtain ⟨A5, l5, c5, rfl⟩ := own_sl HO.out
      have HFI := Lib.hid (Views.of_own HO.out rfl HPO.out)
      clear e hlt hk
      go_wp2_with fail
      go_ret
      exact ⟨_, rfl, HB.out, HFI.out⟩
end Go.Proofs.Ytheeclmpkddgjaa
