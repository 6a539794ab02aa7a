import Derived.Test.YtalcoodidcehnaaDoorVtJ
namespace Go.Proofs.YtalcoodidcehnaaDoor
set_option linter.unusedVariables false
set_option linter.unusedSimpArgs false
open Go.RowKit
set_option maxRecDepth 20000 in
set_option maxHeartbeats 4000000 in
theorem vdelete_any {w : World} {base : Nat} {v : Value} {L : List Vw} (ho : w.ownsRow base 35 4 v L.length (L.map viewCells).flatten) (hok : ∀ x, x ∈ L → x.Ok) (hbw : base ≤ w.heap.size) (hl : L.length ≤ 1000000) {bm : Nat} {f : Vw} (hm : Blk w bm 35 (vwA f)) (hbm : bm < base) :
    Calls Tryd.prog 44 #[v, .func (.func 45) #[] #[.pointer (some ⟨bm, 0, none⟩)]] w fun e w' =>
      ∃ v', e = .returned v' ∧ Below base w w' ∧ w'.ownsRow base 35 4 v' (vkeep f L).length ((vkeep f L).map viewCells).flatten := by
  have HV := Lib.hid (Views.of_own ho rfl hok)
  have HO := Lib.hid ho
  have HBM := Lib.hid hm
  have HL := Lib.hid hl
  have HBB := Lib.hid hbm
  have HBW := Lib.hid hbw
  obtain ⟨A0, l0, c0, hv0⟩ := own_sl ho
  rw [hv0]
  have HV0 := Lib.hid hv0
  clear ho hm hl hok hbm hv0 hbw
  rw [HV0.out] at HV
  go_enter Tryd.func44, Tryd.ntmps44
  go_wp2_with fail
  refine (vindexF_any HV.out (by have := HL.out; omega) HBM.out).mono ?_
  rintro e w1 ⟨h1, hb1⟩
  rcases h1 with ⟨k, x, hx, rfl, hn, hj⟩ | ⟨rfl, hall⟩
  · have hkl : k < L.length := (List.getElem?_eq_some_iff.1 hx).1
    have hxe : L[k] = x := (List.getElem?_eq_some_iff.1 hx).2
    obtain ⟨n, hnn⟩ : ∃ n, n = L.length := ⟨_, rfl⟩
    have hn6 : n ≤ 1000000 := by rw [hnn]; exact HL.out
    have hkn : k < n := by omega
    obtain ⟨b, cap, hv, hbb, hrow⟩ := RowV.of_own HO.out (by rintro rfl; simp at hkl)
    have s1 : L.take k = vkeep f (L.take (k + 1)) := by
      rw [vkeep_succ f L k hkl, hxe, if_pos hn, List.append_nil]
      exact (List.filter_eq_self.2 fun y hy => by rw [decide_eq_true (hj y hy)]).symm
    have hv2 := HV0.out.symm.trans hv
    injection hv2 with a1 a2 a3
    subst a1 a2 a3
    rw [← hnn]
    have hrow1 := hrow.stay hb1
    have HR := Lib.hid hrow1
    have HBBB := Lib.hid hbb
    have HB1 := Lib.hid (hb1.mono HBW.out)
    have HNN := Lib.hid hnn
    have HS1 := Lib.hid s1
    have hcapI : (n : Int) ≤ (c0 : Int) := by have := hrow.le; omega
    clear hj hn s1 hv hx hxe hkl hnn hrow hrow1 hbb hb1
    have hne1 : ((k : Int) == -1) = false := by rw [beq_eq_false_iff_ne]; omega
    go_wp2_with fail
    go_loopw [5, 6] (fun ai aj wr => ∃ (i j : Nat) (C : List Vw), i < j ∧ j ≤ n ∧ ai = .int .i64 i ∧ aj = .int .i64 j ∧ Hid (C.length = n ∧ C.take i = vkeep f (L.take j) ∧ C.drop j = L.drop j) ∧ Hid (RowV wr b c0 C) ∧ Hid (Below base w wr)) (fun _ aj _ => n - (intOf aj).toNat)
    case atStart => exact ⟨k, k + 1, L, by omega, by omega, rfl, by go_num, ⟨HNN.out.symm, HS1.out, rfl⟩, HR.out, HB1.out⟩
    case round =>
      clear HR HB1
      obtain ⟨i, j, C, hij, hjn, rfl, rfl, HC, HR, HB⟩ := hrel
      have HMR := Lib.hid (HBM.out.below HB.out HBB.out)
      by_cases hlt : j < n
      · have hjl : j < L.length := by rw [← HNN.out]; exact hlt
        have hjC : j < C.length := by rw [HC.out.1]; exact hlt
        have hCj : C[j] = L[j] := by
          have h1 : (C.drop j)[0]? = (L.drop j)[0]? := by rw [HC.out.2.2]
          rw [List.getElem?_drop, List.getElem?_drop, Nat.add_zero, List.getElem?_eq_getElem hjC, List.getElem?_eq_getElem hjl] at h1
          simpa using h1
        obtain ⟨d0, d1, d2, d3⟩ := HR.out.at j hjC
        rw [hCj] at d0 d1 d2 d3
        have hks := vkeep_succ f L j hjl
        obtain ⟨y, hy⟩ : ∃ y, y = L[j] := ⟨_, rfl⟩
        rw [← hy] at d0 d1 d2 d3 hks
        have hdrop : C.drop (j + 1) = L.drop (j + 1) := by
          have h1 : (C.drop j).drop 1 = (L.drop j).drop 1 := by rw [HC.out.2.2]
          rw [List.drop_drop, List.drop_drop] at h1
          exact h1
        have hblt := HR.out.lt
        have HDR := Lib.hid hdrop
        have HKS := Lib.hid hks
        have hbal : Below wr.heap.size wr (wr.alloc (.cells #[.int .u64 (y.number : Int), .int .u64 (y.epoch : Int), .int .i64 y.rep, .int .u64 (y.members : Int)] 35)) := bal (Below.refl _ _) _
        have HRA := Lib.hid (HR.out.stay hbal)
        have HMA := Lib.hid (HMR.out.stay hbal)
        have HBA := Lib.hid (HB.out.trans (hbal.mono (Nat.le_trans HBW.out HB.out.size)))
        have HYB := Lib.hid (Blk.new wr 35 #[.int .u64 (y.number : Int), .int .u64 (y.epoch : Int), .int .i64 y.rep, .int .u64 (y.members : Int)] rfl)
        have hiI : (i : Int) < (n : Int) := by omega
        clear hks hCj hbal hjC hy hjl hdrop
        by_cases hn : y.number ≤ f.number
        · have HN := Lib.hid hn
          clear hn
          go_wp2_with fail
          refine (form1_any HMA.out y (decide_eq_true HN.out)).mono ?_
          rintro e w3 ⟨rfl, hb3⟩
          have HR3 := Lib.hid (HRA.out.stay hb3)
          have HB3 := Lib.hid (HBA.out.trans (hb3.mono (Nat.le_trans HBW.out HBA.out.size)))
          clear hb3
          go_wp2_with fail
          go_roundw
          case rel =>
            refine ⟨i, j + 1, C, by omega, by omega, rfl, by go_num, ⟨HC.out.1, ?_, HDR.out⟩, HR3, HB3⟩
            rw [HKS.out, if_pos HN.out, HC.out.2.1, List.append_nil]
          case measure => simp [intOf] <;> omega
        · have HN := Lib.hid hn
          clear hn
          go_wp2_with fail
          refine (form1_any HMA.out y (decide_eq_false HN.out)).mono ?_
          rintro e w3 ⟨rfl, hb3⟩
          have hr3 := HRA.out.stay hb3
          have hiC : i < C.length := by rw [HC.out.1]; omega
          obtain ⟨g0, g1, g2, g3⟩ := hr3.at i hiC
          have f0 := hr3.free (i * 4)
          have f1 := hr3.free (i * 4 + 1)
          have f2 := hr3.free (i * 4 + 2)
          have f3 := hr3.free (i * 4 + 3)
          have hbx3 := HYB.out.stay hb3
          have x0 := hbx3.cell 0
          have x1 := hbx3.cell 1
          have x2 := hbx3.cell 2
          have x3 := hbx3.cell 3
          have HPUT := Lib.hid (hr3.put i hiC y)
          have HB3 := Lib.hid (HBA.out.trans (hb3.mono (Nat.le_trans HBW.out HBA.out.size)))
          generalize C[i] = z0 at g0 g1 g2 g3
          clear hb3 hr3 hbx3 hiC d0 d1 d2 d3
          go_wp2_with fail
          go_roundw
          case rel =>
            refine ⟨i + 1, j + 1, C.set i y, by omega, by omega, by go_num, by go_num, ⟨by rw [List.length_set]; exact HC.out.1, ?_, ?_⟩, HPUT, HB3.out.trans (put_below HBBB.out _ _ _ _ _ _ _ _)⟩
            · have hi : i < C.length := by rw [HC.out.1]; omega
              rw [HKS.out, if_neg HN.out, ← HC.out.2.1, List.take_succ_eq_append_getElem (by rw [List.length_set]; exact hi), List.take_set_of_le (Nat.le_refl _), List.getElem_set_self]
            · rw [List.drop_set_of_lt (by omega)]; exact HDR.out
          case measure => simp [intOf] <;> omega
      · obtain rfl : j = n := by omega
        obtain ⟨cur4, hcl, hown⟩ := HR.out.clear HBBB.out i j HC.out.1.symm hij
        have hall : L.take j = L := List.take_of_length_le (by rw [HNN.out]; exact Nat.le_refl _)
        have hkeep : vkeep f L = C.take i := by rw [HC.out.2.1, hall]
        have hki : (vkeep f L).length = i := by rw [hkeep, List.length_take, HC.out.1]; omega
        have HOWN := Lib.hid hown
        have HKEEP := Lib.hid hkeep
        have HKI := Lib.hid hki
        have HB5 := Lib.hid (bsetRow HB.out HBBB.out cur4)
        have hiI : (i : Int) ≤ (j : Int) := by omega
        clear hown hall hkeep hki
        go_wp2_with fail
        go_ret
        refine ⟨_, rfl, HB5.out, ?_⟩
        rw [HKI.out, HKEEP.out]
        exact HOWN.out
  · have HB := Lib.hid (hb1.mono HBW.out)
    have HO1 := Lib.hid (own_stay HO.out hb1)
    have HA := Lib.hid hall
    rw [HV0.out] at HO1
    clear hb1 hall
    go_wp2_with fail
    go_ret
    have e2 : vkeep f L = L := List.filter_eq_self.2 fun y hy => by rw [decide_eq_true (HA.out y hy)]
    refine ⟨_, rfl, HB.out, ?_⟩
    rw [e2]
    exact HO1.out
end Go.Proofs.YtalcoodidcehnaaDoor
