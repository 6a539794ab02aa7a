import Derived.Test.YtheeclmpkddgjaaDoorHzF
import Derived.Lib.SliceRun
import Derived.Laws.CopyRow
namespace Go.Proofs.YtheeclmpkddgjaaDoor
set_option linter.unusedVariables false
set_option linter.unusedSimpArgs false
open Go.RowKit
theorem zeroCells_len (cs : Array Value) (n : Nat) : (Builtin.zeroCells cs n).toList.length = n * cs.size := by
  simp [Builtin.zeroCells]
theorem zeroCells_mem (cs : Array Value) (n : Nat) (v : Value) (h : v ∈ (Builtin.zeroCells cs n).toList) (h1 : ∀ u ∈ cs, u.oneCell' = true) : v.oneCell' = true := by
  obtain ⟨i, hi, rfl⟩ := List.getElem_of_mem h
  rw [zeroCells_len] at hi
  have hc : 0 < cs.size := by
    rcases Nat.eq_zero_or_pos cs.size with h0 | h0
    · rw [h0] at hi; omega
    · exact h0
  simp [Builtin.zeroCells]
  have hlt : i % cs.size < cs.size := Nat.mod_lt _ hc
  rw [getElem!_pos cs _ hlt]
  exact h1 _ (Array.getElem_mem hlt)
/-- 'clear(s)' on a row that is known whole, elements of more cells -/
theorem run_clear_row {P : Program} (w : World) (t e ty : TypeId) (z : Value) (ht : P.underlying t = some (.slice e)) (hv : ∀ w, (zeroValue e).run P w = .ok z w) (h1 : ∀ v ∈ z.cells, v.oneCell' = true) (b o n c : Nat) (hn : 0 < n) {t' : TypeId} {cur : Array Value}
    (hb : w.heap[b]? = some (.cells cur t' (0, 0))) (hl : o + n * z.cells.size ≤ cur.size) :
    (Builtin.clear_ #[t] ty #[.slice (some ⟨b, o, none⟩) n c]).run P w = .ok (.tuple #[]) (w.setRow b (cur.toList.take o ++ (Builtin.zeroCells z.cells n).toList ++ cur.toList.drop (o + (Builtin.zeroCells z.cells n).toList.length)).toArray) := by
  have hst := run_storeCells_at P b o t' (Builtin.zeroCells z.cells n).toList 0 cur w hb (by rw [zeroCells_len, Nat.add_zero]; exact hl) (fun v h => zeroCells_mem _ _ _ h h1)
  simp only [Nat.add_zero] at hst
  obtain ⟨m, rfl⟩ : ∃ m, n = m + 1 := ⟨n - 1, by omega⟩
  simp [Builtin.clear_, run_underlying ht, hv, hst]
def zpr : Value := .agg #[.int .u64 0, .int .u32 0]
theorem pr_info : (Tryd.prog.info? 134).map (fun i => (i.zero, i.size, i.bytes)) = some (some zpr, 2, 16) := by kernel_rfl
theorem zpr_zero : ∀ w, (zeroValue 134).run Tryd.prog w = .ok zpr w := by
  intro w
  obtain ⟨i0, hi, hz0, _⟩ := info_parts pr_info
  simp [zeroValue, typeInfo, hi, hz0]
theorem flat_len (C : List Pr) : (C.map prCells).flatten.length = C.length * 2 := by
  induction C with
  | nil => rfl
  | cons c C ih => rw [List.map_cons, List.flatten_cons, List.length_append, ih, List.length_cons]; simp [prCells]; omega
theorem flat_take (C : List Pr) (i : Nat) : (C.map prCells).flatten.take (i * 2) = ((C.take i).map prCells).flatten := by
  induction C generalizing i with
  | nil => simp
  | cons c C ih =>
    cases i with
    | zero => simp
    | succ i =>
      rw [List.map_cons, List.flatten_cons, List.take_succ_cons, List.map_cons, List.flatten_cons, ← ih i, Nat.succ_mul]
      simp [prCells]
theorem zeros_flat (n : Nat) : (Builtin.zeroCells zpr.cells n).toList = ((List.replicate n (⟨0, 0⟩ : Pr)).map prCells).flatten := by
  apply List.ext_getElem?
  intro k
  have hl : (Builtin.zeroCells zpr.cells n).toList.length = n * 2 := zeroCells_len _ _
  by_cases hk : k < n * 2
  · have hd : k = k / 2 * 2 + k % 2 := by omega
    have h2 : k / 2 < n := by omega
    have hm : k % 2 < 2 := Nat.mod_lt _ (by decide)
    have e2 : ((List.replicate n (⟨0, 0⟩ : Pr)).map prCells).flatten[k]? = (prCells ⟨0, 0⟩)[k % 2]? := by
      rw [hd, flatten_get (sz := 2) (fun cs hc => by obtain ⟨x, _, rfl⟩ := List.mem_map.1 hc; rfl) _ _ hm, ← hd]
      simp [h2]
    rw [e2, List.getElem?_eq_getElem (by rw [hl]; exact hk)]
    simp [Builtin.zeroCells, zpr, Value.cells]
    rcases Nat.mod_two_eq_zero_or_one k with h | h <;> rw [h] <;> rfl
  · rw [List.getElem?_eq_none (by omega), List.getElem?_eq_none (by rw [flat_len]; simp; omega)]
set_option maxRecDepth 20000 in
set_option maxHeartbeats 4000000 in
theorem hdelete_any {base g bm p : Nat} {w : World} {H : Hz} {vs : Nat → Value} (h : HzAt base w g H vs) (hp : p < 64) (hm : Blk w bm 132 #[.pointer (some ⟨g, 2 + p * 4, none⟩)]) (hl : (H.l p).waits.length ≤ 1000000) :
    Calls Tryd.prog 110 #[vs p, .func (.func 111) #[] #[.pointer (some ⟨bm, 0, none⟩)]] w fun e w' =>
      ∃ v' C, e = .returned v' ∧ HzAt base w' g (H.up p { (H.l p).takes (H.l p).waits with waits := C }) vs ∧ Fr w w' g vs vs ∧ v'.ownBlock = (vs p).ownBlock ∧
        w'.ownsRow base 134 2 v' ((H.l p).keep (H.l p).waits).length (((H.l p).keep (H.l p).waits).map prCells).flatten := by
  have HH := Lib.hid h
  have HP := Lib.hid hp
  have HBM := Lib.hid hm
  have HL := Lib.hid hl
  clear h hp hm hl
  obtain ⟨m, hm'⟩ : ∃ m, m = H.l p := ⟨_, rfl⟩
  rw [← hm'] at HL ⊢
  have HM := Lib.hid hm'
  clear hm'
  go_enter Tryd.func110, Tryd.ntmps110
  go_wp2_with fail
  refine (hindex_any HH.out HP.out HBM.out (by rw [← HM.out]; exact HL.out)).mono ?_
  rw [← HM.out]
  rintro e w1 ⟨h1, hf1⟩
  rcases h1 with ⟨k, x, hx, rfl, hn, hj, hz⟩ | ⟨rfl, hall, hz⟩
  · have hkl : k < m.waits.length := (List.getElem?_eq_some_iff.1 hx).1
    have hxe : m.waits[k] = x := (List.getElem?_eq_some_iff.1 hx).2
    obtain ⟨n, hnn⟩ : ∃ n, n = m.waits.length := ⟨_, rfl⟩
    obtain ⟨b, cap, cur0, hv, hcap, _, _, _, _, hcm⟩ := HH.out.rowOf HP.out (by rw [← HM.out]; omega)
    rw [← HM.out, ← hnn] at hv hcap
    have hn6 : n ≤ 1000000 := by rw [hnn]; exact HL.out
    have hkn : k < n := by omega
    have s0 : H.up p (m.take1 x) = H.up p { m.takes (m.waits.take (k + 1)) with waits := m.waits } := by
      rw [Mk.takes_succ m m.waits k hkl, hxe, Mk.takes_none m _ (fun y hy => by
        obtain ⟨j, hjl, rfl⟩ := List.getElem_of_mem hy
        have hjk : j < k := by rw [List.length_take] at hjl; omega
        exact hj j _ hjk (by rw [List.getElem_take]; simp [show j < m.waits.length by omega]))]
      congr 1
      have := Mk.take1_waits m x
      cases hq : m.take1 x
      rw [hq] at this
      simp_all
    have s1 : m.waits.take k = m.keep (m.waits.take (k + 1)) := by
      rw [Mk.keep_succ m m.waits k hkl, hxe, hn]
      have : m.keep (m.waits.take k) = m.waits.take k := List.filter_eq_self.2 fun y hy => by
        obtain ⟨j, hjl, rfl⟩ := List.getElem_of_mem hy
        have hjk : j < k := by rw [List.length_take] at hjl; omega
        rw [List.getElem_take, hj j _ hjk (by simp [show j < m.waits.length by omega])]
        rfl
      rw [this]
      simp
    rw [s0] at hz
    rw [hv]
    have HV := Lib.hid hv
    have HZ := Lib.hid hz
    have HF := Lib.hid hf1
    have HNN := Lib.hid hnn
    have HS1 := Lib.hid s1
    have HCM := Lib.hid hcm
    have hcapI : (n : Int) ≤ (cap : Int) := by omega
    clear hz hf1 hj hn s0 s1 hv hx hxe hkl hnn hcm
    have hne1 : ((k : Int) == -1) = false := by rw [beq_eq_false_iff_ne]; omega
    go_wp2_with fail
    go_loopw [5, 6] (fun ai aj wr => ∃ (i j : Nat) (C : List Pr), i < j ∧ j ≤ n ∧ ai = .int .i64 i ∧ aj = .int .i64 j ∧ Hid (C.length = n ∧ C.take i = m.keep (m.waits.take j) ∧ C.drop j = m.waits.drop j) ∧ Hid (HzAt base wr g (H.up p { m.takes (m.waits.take j) with waits := C }) vs) ∧ Hid (Fr w wr g vs vs)) (fun _ aj _ => n - (intOf aj).toNat)
    case atStart => exact ⟨k, k + 1, m.waits, by omega, by omega, rfl, by go_num, ⟨HNN.out.symm, HS1.out, rfl⟩, HZ.out, HF.out⟩
    case round =>
      obtain ⟨i, j, C, hij, hjn, rfl, rfl, HC, HR, HFR⟩ := hrel
      by_cases hlt : j < n
      · have hjl : j < m.waits.length := by rw [← HNN.out]; exact hlt
        have hjC : j < C.length := by rw [HC.out.1]; exact hlt
        have hCj : C[j] = m.waits[j] := by
          have h1 : (C.drop j)[0]? = (m.waits.drop j)[0]? := by rw [HC.out.2.2]
          rw [List.getElem?_drop, List.getElem?_drop, Nat.add_zero, List.getElem?_eq_getElem hjC, List.getElem?_eq_getElem hjl] at h1
          simpa using h1
        obtain ⟨S, hS⟩ : ∃ S, S = H.up p { m.takes (m.waits.take j) with waits := C } := ⟨_, rfl⟩
        rw [← hS] at HR
        have hSl : S.l p = { m.takes (m.waits.take j) with waits := C } := by rw [hS, Hz.up_same]
        have hSw : (S.l p).waits = C := by rw [hSl]
        obtain ⟨b', off', hA, h0, h1, hb⟩ := HR.out.wait HP.out j (by rw [hSw]; exact hjC) HV.out
        injection hA with hA
        injection hA with hA1 hA2
        subst hA1 hA2
        have hwj : (S.l p).waits[j]'(by rw [hSw]; exact hjC) = m.waits[j] := by
          simp only [hSw]; exact hCj
        rw [hwj] at h0 h1
        have htk := Mk.takes_succ m m.waits j hjl
        have hks := Mk.keep_succ m m.waits j hjl
        obtain ⟨y, hy⟩ : ∃ y, y = m.waits[j] := ⟨_, rfl⟩
        rw [← hy] at h0 h1 htk hks
        have hnow : (S.l p).now y = m.now y := by
          rw [hSl]; exact Mk.takes_now m _ y
        have hup : S.up p ((S.l p).take1 y) = H.up p { m.takes (m.waits.take (j + 1)) with waits := C } := by
          rw [hSl, Mk.take1_put, hS, Hz.up_up, htk]
        have hdrop : C.drop (j + 1) = m.waits.drop (j + 1) := by
          have h1 : (C.drop j).drop 1 = (m.waits.drop j).drop 1 := by rw [HC.out.2.2]
          rw [List.drop_drop, List.drop_drop] at h1
          exact h1
        have HS := Lib.hid hS
        have HSL := Lib.hid hSl
        have HSW := Lib.hid hSw
        have HNOW := Lib.hid hnow
        have HUP := Lib.hid hup
        have HDR := Lib.hid hdrop
        have HKS := Lib.hid hks
        have HTK := Lib.hid htk
        have HMR := Lib.hid (HBM.out.fr HH.out (by decide) (by decide) HFR.out)
        have hbal : Below wr.heap.size wr (wr.alloc (.cells #[.int .u64 (y.stamp : Int), .int .u32 (y.sent : Int)] 134)) := bal (Below.refl _ _) _
        have HA := Lib.hid (HR.out.stay hbal)
        have HMA := Lib.hid (HMR.out.stay hbal)
        have HBAL := Lib.hid hbal
        have HBX := Lib.hid (Blk.new wr 134 #[.int .u64 (y.stamp : Int), .int .u32 (y.sent : Int)] rfl)
        have hgx : g < wr.heap.size := HR.out.lt
        have hox : ∀ q, q < 64 → (vs q).ownBlock ≠ some wr.heap.size := fun q hq he => by
          have := (own_base (HR.out.own q hq) he).2.1
          omega
        have HOX := Lib.hid hox
        rw [Nat.zero_add] at h0 h1
        clear hS hSl hSw hnow hup hdrop hks htk hCj hwj hbal hox hjC hy hjl
        rcases Bool.eq_false_or_eq_true (m.now y) with hn | hn
        · have HN := Lib.hid hn
          clear hn
          go_wp2_with fail
          refine (count1_any HA.out HP.out HMA.out y (r := true) (by rw [HNOW.out, HN.out])).mono ?_
          rintro e w3 ⟨rfl, hz3, hf3⟩
          rw [HUP.out] at hz3
          have HZ3 := Lib.hid hz3
          have HF3 := Lib.hid (HFR.out.trans ((Fr.of_below HBAL.out g vs).trans hf3))
          clear hz3 hf3
          go_wp2_with fail
          go_roundw
          case rel =>
            refine ⟨i, j + 1, C, by omega, by omega, rfl, by go_num, ⟨HC.out.1, ?_, HDR.out⟩, HZ3, HF3⟩
            rw [HKS.out, HN.out, HC.out.2.1]
            simp
          case measure => simp [intOf] <;> omega
        · have HN := Lib.hid hn
          have hself : (S.l p).take1 y = S.l p := by unfold Mk.take1; rw [HNOW.out, hn]; rfl
          have HSELF := Lib.hid hself
          clear hn hself
          go_wp2_with fail
          refine (count1_any HA.out HP.out HMA.out y (r := false) (by rw [HNOW.out, HN.out])).mono ?_
          rintro e w3 ⟨rfl, hz3, hf3⟩
          rw [HSELF.out, Hz.up_self] at hz3
          have hiC : i < (S.l p).waits.length := by rw [HSW.out, HC.out.1]; omega
          obtain ⟨b2, off2, hA2, g0, g1, hb2⟩ := hz3.wait HP.out i hiC HV.out
          rw [show off2 = 0 from by injection hA2 with hA2; injection hA2 with _ hA22; exact hA22.symm, Nat.zero_add] at g0 g1
          generalize (S.l p).waits[i] = z0 at g0 g1
          injection hA2 with hA2
          injection hA2 with hA21 hA22
          subst hA21 hA22
          obtain ⟨b3, cap3, cur3, hv3, _, hrow3, _⟩ := hz3.rowOf HP.out (by omega)
          have hbb : b3 = b := by
            have := HV.out.symm.trans hv3
            injection this with a1 a2 a3
            injection a1 with a1
            injection a1 with a1
            exact a1.symm
          subst hbb
          have hfr0 : w3.frozen? ⟨b3, i * 2, none⟩ = false := Blk.free (t := 134) (cs := cur3) hrow3 _
          have hfr1 : w3.frozen? ⟨b3, i * 2 + 1, none⟩ = false := Blk.free (t := 134) (cs := cur3) hrow3 _
          have hbx3 : Blk w3 wr.heap.size 134 #[.int .u64 (y.stamp : Int), .int .u32 (y.sent : Int)] :=
            (hf3.block wr.heap.size (by simp) (by omega) HOX.out).trans HBX.out
          have x0 := hbx3.cell 0
          have x1 := hbx3.cell 1
          have hset := hz3.setWait HP.out HV.out i hiC y
          have HSET := Lib.hid hset
          have HF3 := Lib.hid (HFR.out.trans ((Fr.of_below HBAL.out g vs).trans hf3))
          clear hz3 hf3 hset hv3 hrow3 hbx3 hiC h0 h1
          go_wp2_with fail
          go_roundw
          case rel =>
            have hset := HSET.out.1
            have hst : S.up p { S.l p with waits := (S.l p).waits.set i y } = H.up p { m.takes (m.waits.take (j + 1)) with waits := C.set i y } := by
              have hfix : (m.takes (m.waits.take j)).take1 y = m.takes (m.waits.take j) := by
                unfold Mk.take1; rw [Mk.takes_now, HN.out]; rfl
              rw [HSL.out, HTK.out, hfix, HS.out, Hz.up_up]
            rw [hst] at hset
            refine ⟨i + 1, j + 1, C.set i y, by omega, by omega, by go_num, by go_num, ⟨by rw [List.length_set]; exact HC.out.1, ?_, ?_⟩, hset, HF3.out.trans HSET.out.2⟩
            · have hi : i < C.length := by rw [HC.out.1]; omega
              rw [HKS.out, HN.out, ← HC.out.2.1, List.take_succ_eq_append_getElem (by rw [List.length_set]; exact hi), List.take_set_of_le (Nat.le_refl _), List.getElem_set_self]
              rfl
            · rw [List.drop_set_of_lt (by omega)]; exact HDR.out
          case measure => simp [intOf] <;> omega
      · obtain rfl : j = n := by omega
        obtain ⟨S, hS⟩ : ∃ S, S = H.up p { m.takes (m.waits.take j) with waits := C } := ⟨_, rfl⟩
        rw [← hS] at HR
        have hSl : S.l p = { m.takes (m.waits.take j) with waits := C } := by rw [hS, Hz.up_same]
        have hSw : (S.l p).waits = C := by rw [hSl]
        have hall : m.waits.take j = m.waits := List.take_of_length_le (by rw [HNN.out]; exact Nat.le_refl _)
        obtain ⟨b3, cap3, cur3, hv3, hcap3, hrow3, hsz3, htk3, hbase3, hcm3⟩ := HR.out.rowOf HP.out (by rw [hSw, HC.out.1]; omega)
        have hbb : b3 = b ∧ cap3 = cap := by
          have := HV.out.symm.trans hv3
          injection this with a1 a2 a3
          injection a1 with a1
          injection a1 with a1
          exact ⟨a1.symm, a3.symm⟩
        obtain ⟨rfl, rfl⟩ := hbb
        rw [hSw, HC.out.1] at htk3
        obtain ⟨vs0, hvs0⟩ : ∃ vs0, vs0 = (Builtin.zeroCells zpr.cells (j - i)).toList := ⟨_, rfl⟩
        have hlen0 : vs0.length = (j - i) * 2 := by rw [hvs0]; exact zeroCells_len _ _
        have hfit : i * 2 + (j - i) * 2 ≤ cur3.size := by rw [hsz3]; omega
        obtain ⟨cur4, hcur4⟩ : ∃ cur4, cur4 = (cur3.toList.take (i * 2) ++ vs0 ++ cur3.toList.drop (i * 2 + vs0.length)).toArray := ⟨_, rfl⟩
        have hcl : ∀ ty, (Builtin.clear_ #[125] ty #[.slice (some ⟨b3, i * 2, none⟩) (j - i) (cap3 - i)]).run Tryd.prog wr = .ok (.tuple #[]) (wr.setRow b3 cur4) := fun ty => by
          rw [hcur4, hvs0]
          exact run_clear_row wr _ _ ty zpr Tryd.underlying125 zpr_zero (by simp [zpr, Value.cells, Value.oneCell']) b3 (i * 2) (j - i) (cap3 - i) (by omega) hrow3 hfit
        have hsz4 : cur4.size = cur3.size := by
          rw [hcur4, List.size_toArray, List.length_append, List.length_append, List.length_take, List.length_drop, Array.length_toList, hlen0]
          omega
        have ho : OnlyRow wr (wr.setRow b3 cur4) b3 := ⟨rfl, rfl, rfl, by simp, fun k hk => heap_setRow_other wr b3 k cur4 hk⟩
        have hb4 : Blk (wr.setRow b3 cur4) b3 134 cur4 := Blk.row (show Blk wr b3 134 cur3 from hrow3) cur4
        have hown : (wr.setRow b3 cur4).ownsRow base 134 2 (.slice (some ⟨b3, 0, none⟩) i cap3) i ((C.take i).map prCells).flatten := by
          refine ⟨?_, .inr ⟨b3, cap3, cur4, rfl, hbase3, hb4, by omega, hcm3, by rw [hsz4]; exact hsz3, ?_⟩⟩
          · rw [flat_len, List.length_take, HC.out.1, Nat.min_eq_left (by omega)]
          · rw [hcur4, List.append_assoc, List.take_append_of_le_length (by rw [List.length_take, Array.length_toList]; omega), List.take_take, Nat.min_self]
            have : cur3.toList.take (i * 2) = ((C.map prCells).flatten).take (i * 2) := by rw [← htk3, List.take_take, Nat.min_eq_left (by omega)]
            rw [this, flat_take]
        have hcells4 : cur4.toList.take (j * 2) = ((C.take i ++ List.replicate (j - i) (⟨0, 0⟩ : Pr)).map prCells).flatten := by
          have hz0 : vs0 = ((List.replicate (j - i) (⟨0, 0⟩ : Pr)).map prCells).flatten := by rw [hvs0]; exact zeros_flat _
          have hc : cur3.toList.take (i * 2) = ((C.take i).map prCells).flatten := by
            rw [← flat_take, ← htk3, List.take_take, Nat.min_eq_left (by omega)]
          rw [hcur4, List.map_append, List.flatten_append, ← hz0, ← hc]
          have hl : (cur3.toList.take (i * 2) ++ vs0).length = j * 2 := by rw [List.length_append, List.length_take, Array.length_toList, hlen0]; omega
          rw [List.take_append_of_le_length (by omega), List.take_of_length_le (by omega)]
        have hrow := HR.out.row HP.out HV.out ho hrow3 hb4 hsz4 (C := C.take i ++ List.replicate (j - i) (⟨0, 0⟩ : Pr)) (by rw [List.length_append, List.length_take, List.length_replicate, HC.out.1]; omega) hcells4
        have hst : S.up p { S.l p with waits := C.take i ++ List.replicate (j - i) (⟨0, 0⟩ : Pr) } = H.up p { m.takes m.waits with waits := C.take i ++ List.replicate (j - i) (⟨0, 0⟩ : Pr) } := by
          rw [hSl, hS, Hz.up_up, hall]
        rw [hst] at hrow
        have hkeep : m.keep m.waits = C.take i := by rw [HC.out.2.1, hall]
        have hki : (m.keep m.waits).length = i := by rw [hkeep, List.length_take, HC.out.1]; omega
        have HOWN := Lib.hid hown
        have HROW := Lib.hid hrow
        have HKEEP := Lib.hid hkeep
        have HKI := Lib.hid hki
        have hiI : (i : Int) ≤ (j : Int) := by omega
        clear hS hSl hSw hall hv3 hcap3 hrow3 hsz3 htk3 hbase3 hcm3 hvs0 hlen0 hfit hcur4 hsz4 ho hb4 hown hcells4 hrow hst hkeep hki
        go_wp2_with fail
        go_ret
        refine ⟨_, rfl, ⟨_, HROW.out.1⟩, HFR.out.trans HROW.out.2, by rw [HV.out]; rfl, ?_⟩
        rw [HKI.out, HKEEP.out]
        exact HOWN.out
  · have HZ := Lib.hid hz
    have HF := Lib.hid hf1
    have HA := Lib.hid hall
    clear hz hf1 hall
    go_wp2_with fail
    go_ret
    have e1 : m.takes m.waits = m := Mk.takes_none m _ HA.out
    have e2 : m.keep m.waits = m.waits := by unfold Mk.keep; exact List.filter_eq_self.2 fun y hy => by rw [HA.out y hy]; rfl
    refine ⟨_, m.waits, rfl, ?_, HF.out, rfl, ?_⟩
    · rw [e1, HM.out, show ({ H.l p with waits := (H.l p).waits } : Mk) = H.l p from rfl, Hz.up_self]
      exact HZ.out
    · rw [e2, HM.out]
      exact HZ.out.own p HP.out
end Go.Proofs.YtheeclmpkddgjaaDoor
