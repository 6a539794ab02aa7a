import Derived.Test.YtalcoodidcehnaaDoorVtG
import Derived.Deep.RegionHeld3
import Derived.BigQuiet
namespace Go.Proofs.YtalcoodidcehnaaDoor
set_option linter.unusedVariables false
set_option linter.unusedSimpArgs false
open Go.RowKit
theorem vdrew_below (w : World) : Below w.heap.size w w.drew := ⟨rfl, rfl, rfl, Nat.le_refl _, fun _ _ => rfl⟩
set_option maxRecDepth 20000 in
set_option maxHeartbeats 1000000 in
theorem may1_any {w : World} {bm m : Nat} (hm : Blk w bm 27 #[.int .u64 (m : Int)]) (hm64 : S64 m) (x : Vw) (hx : x.Ok) {r : Bool} (hr : smost m x.members = r) :
    Calls Tryd.prog 36 #[.agg #[.int .u64 (x.number : Int), .int .u64 (x.epoch : Int), .int .i64 x.rep, .int .u64 (x.members : Int)], .pointer (some ⟨bm, 0, none⟩)] w fun e w' => e = .returned (.bool !r) ∧ Below w.heap.size w w' := by
  have hc := hm.cell 0
  have hl := hm.lt
  have HM := Lib.hid hm64
  have HX := Lib.hid hx
  have HR := Lib.hid hr
  have HB : Hid (Below w.heap.size w (w.alloc (.cells #[.int .u64 (x.number : Int), .int .u64 (x.epoch : Int), .int .i64 x.rep, .int .u64 (x.members : Int)] 35))) := bal (Below.refl _ _) _
  clear hm hm64 hx hr
  go_enter Tryd.func36, Tryd.ntmps36
  go_wp2_with fail
  refine (most_eq HM.out HX.out.members HR.out _).mono ?_
  rintro e w' ⟨rfl, rfl⟩
  go_wp2_with fail
  go_ret
  exact ⟨rfl, HB.out⟩
set_option maxRecDepth 20000 in
set_option maxHeartbeats 4000000 in
theorem vindexM_any {w : World} {v : Value} {L : List Vw} (hv : Views w v L) (hl : L.length ≤ 2000000) {bm m : Nat} (hm : Blk w bm 27 #[.int .u64 (m : Int)]) (hm64 : S64 m) :
    Calls Tryd.prog 48 #[v, .func (.func 36) #[] #[.pointer (some ⟨bm, 0, none⟩)]] w fun e w' => ∃ z : Int, e = .returned (.int .i64 z) ∧ decide (0 ≤ z) = !(L.all fun x => smost m x.members) ∧ Below w.heap.size w w' := by
  obtain ⟨A, c, rfl, _⟩ := hv.slice
  obtain ⟨n, hn⟩ : ∃ n, n = L.length := ⟨_, rfl⟩
  have hn6 : n ≤ 2000000 := by omega
  have HN := Lib.hid hn
  have hv2 := hv
  rw [← hn] at hv2 ⊢
  have HV := Lib.hid hv2
  have HM := Lib.hid hm
  have HM64 := Lib.hid hm64
  clear hv hv2 hl hn hm hm64
  go_enter Tryd.func48, Tryd.ntmps48
  go_wp2_with fail
  go_loopw [8] (fun i wr => ∃ k : Nat, k ≤ n ∧ i = .int .i64 k ∧ Hid (((L.take k).all fun x => smost m x.members) = true) ∧ Hid (Below w.heap.size w wr)) (fun i _ => n - (intOf i).toNat)
  case atStart => exact ⟨0, by omega, rfl, rfl, Below.refl _ _⟩
  case round =>
    obtain ⟨k, hk, rfl, HJ, HB⟩ := hrel
    by_cases hlt : k < n
    · have hlt2 : k < L.length := by rw [← HN.out]; exact hlt
      obtain ⟨b, off, rfl, c0, c1, c2, c3, hbl, hok⟩ := HV.out.in HB.out k hlt2
      have htk : L.take (k + 1) = L.take k ++ [L[k]] := List.take_succ_eq_append_getElem hlt2
      have hmem : L[k] ∈ L := List.getElem_mem hlt2
      obtain ⟨y, hy⟩ : ∃ y, y = L[k] := ⟨_, rfl⟩
      rw [← hy] at c0 c1 c2 c3 htk hmem hok
      have HTK := Lib.hid htk
      have HMEM := Lib.hid hmem
      have HOK := Lib.hid hok
      have HMR := Lib.hid (HM.out.below HB.out HM.out.lt)
      clear hy htk hmem hlt2 hok
      rcases Bool.eq_false_or_eq_true (smost m y.members) with hr | hr
      · have HR := Lib.hid hr
        clear hr
        go_wp2_with fail
        refine (may1_any HMR.out HM64.out y HOK.out HR.out).mono ?_
        rintro e w2 ⟨rfl, hb2⟩
        have HB2 := Lib.hid (btr HB.out hb2)
        clear hb2
        go_wp2_with fail
        go_roundw
        case rel =>
          refine ⟨k + 1, by omega, by go_num, ?_, HB2⟩
          show _ = true
          rw [HTK.out, List.all_append, HJ.out, List.all_cons, HR.out]
          rfl
        case measure => simp [intOf] <;> omega
      · have HR := Lib.hid hr
        clear hr
        go_wp2_with fail
        refine (may1_any HMR.out HM64.out y HOK.out HR.out).mono ?_
        rintro e w2 ⟨rfl, hb2⟩
        have HB2 := Lib.hid (btr HB.out hb2)
        clear hb2
        go_wp2_with fail
        go_ret
        refine ⟨k, rfl, ?_, HB2.out⟩
        have : (L.all fun x => smost m x.members) = false := by
          rw [List.all_eq_false]
          exact ⟨y, HMEM.out, by rw [HR.out]; decide⟩
        rw [this, decide_eq_true (by omega)]
        rfl
    · obtain rfl : k = n := by omega
      clear hlt hk
      go_wp2_with fail
      go_ret
      refine ⟨-1, rfl, ?_, HB.out⟩
      have := HJ.out
      rw [List.take_of_length_le (by rw [HN.out]; exact Nat.le_refl _)] at this
      rw [this]
      rfl
set_option maxRecDepth 20000 in
set_option maxHeartbeats 4000000 in
theorem vcontainsM_any {w : World} {v : Value} {L : List Vw} (hv : Views w v L) (hl : L.length ≤ 2000000) {bm m : Nat} (hm : Blk w bm 27 #[.int .u64 (m : Int)]) (hm64 : S64 m) {r : Bool} (hr : (L.all fun x => smost m x.members) = r) :
    Calls Tryd.prog 34 #[v, .func (.func 36) #[] #[.pointer (some ⟨bm, 0, none⟩)]] w fun e w' => e = .returned (.bool !r) ∧ Below w.heap.size w w' := by
  obtain ⟨A, c, rfl, _⟩ := hv.slice
  have HV := Lib.hid hv
  have HR := Lib.hid hr
  clear hv hr
  go_enter Tryd.func34, Tryd.ntmps34
  go_wp2_with fail
  refine (vindexM_any HV.out hl hm hm64).mono ?_
  rintro e w2 ⟨z, rfl, hz, hb2⟩
  rw [HR.out] at hz
  have HB2 := Lib.hid hb2
  clear hb2
  go_wp2_with fail
  go_ret
  exact ⟨rfl, HB2.out⟩
theorem vpend_len {L : List Rcd} (h : FewR L) : (vpend L).length ≤ 1000000 := by
  have h1 := pout_len (vlast L).number (vpends L) []
  have h2 := vpends_len h.pend
  have h3 := h.len
  have e : vpend L = (vpends L).foldl (vpadd (vlast L).number) [] := rfl
  rw [← e] at h1
  simp only [List.length_nil] at h1
  omega
theorem vpend_ok {w : World} {v : Value} {L : List Rcd} (hv : Recs w v L) : ∀ x, x ∈ vpend L → x.Ok := fun x hx => by
  obtain ⟨⟨r, hr, hx⟩, _⟩ := mem_vpend.1 hx
  exact (hv.ok r hr).2 x hx
theorem vlast_ok {w : World} {v : Value} {L : List Rcd} (hv : Recs w v L) : (vlast L).Ok := by
  cases L with
  | nil => exact ⟨⟨by decide⟩, ⟨by decide⟩, ⟨by decide⟩⟩
  | cons r l =>
    obtain ⟨⟨q, hq, he⟩, _⟩ := vlast_spec (l := r :: l) (by simp)
    rw [he]
    exact (hv.ok q hq).1
theorem view_members (x : Vw) (w : World) : (Instr.field 35 (.agg #[.int .u64 (x.number : Int), .int .u64 (x.epoch : Int), .int .i64 x.rep, .int .u64 (x.members : Int)]) 2).run Tryd.prog w = .ok (.int .u64 (x.members : Int)) w := by kernel_rfl
theorem view_number (x : Vw) (w : World) : (Instr.field 35 (.agg #[.int .u64 (x.number : Int), .int .u64 (x.epoch : Int), .int .i64 x.rep, .int .u64 (x.members : Int)]) 0).run Tryd.prog w = .ok (.int .u64 (x.number : Int)) w := by kernel_rfl
set_option maxRecDepth 20000 in
set_option maxHeartbeats 4000000 in
theorem vmay_any {w : World} {v : Value} {L : List Rcd} (hv : Recs w v L) (hl : FewR L) {m : Nat} (hm : S64 m) {r : Bool} (hr : vmay m L = r) :
    Calls Tryd.prog 13 #[.int .u64 (m : Int), v] w fun e w' => e = .returned (.bool r) ∧ Below w.heap.size w w' := by
  have hlo := vlast_ok hv
  have hpo := vpend_ok hv
  have hll := vpend_len hl
  obtain ⟨A, c, rfl, _⟩ := hv.slice
  obtain ⟨n, hn⟩ : ∃ n, n = L.length := ⟨_, rfl⟩
  have hn6 : n ≤ 1000 := by have := hl.len; omega
  have HN := Lib.hid hn
  rw [← hn] at hv ⊢
  have hbal : Below w.heap.size w (w.alloc (.cells #[.int .u64 (m : Int)] 27)) := bal (Below.refl _ _) _
  have hbm : Blk (w.alloc (.cells #[.int .u64 (m : Int)] 27)) w.heap.size 27 #[.int .u64 (m : Int)] := Blk.new _ _ _ rfl
  have HBM := Lib.hid hbm
  have HBAL := Lib.hid hbal
  have HV := Lib.hid (hv.below hbal)
  have HL := Lib.hid hl
  have HM := Lib.hid hm
  have HLO := Lib.hid hlo
  have HPO := Lib.hid hpo
  have HLL := Lib.hid hll
  obtain ⟨la, hla⟩ : ∃ la, la = vlast L := ⟨_, rfl⟩
  have HLA := Lib.hid hla
  have hfld := view_members la
  clear hv hl hn hm hlo hpo hll hbal hbm hla
  by_cases h0 : n = 0
  · have h1 : ((n : Int) == 0) = true := by simp [h0]
    have hL : L = [] := List.eq_nil_of_length_eq_zero (by rw [← HN.out]; exact h0)
    have e : r = false := by rw [← hr, hL]; rfl
    subst e
    clear h0 hL hr
    go_enter Tryd.func13, Tryd.ntmps13
    go_wp2_with fail
    go_quiet (fail)
    go_wp2_with fail
    go_ret
    exact ⟨rfl, bdrewN HBAL.out _⟩
  have h1 : ((n : Int) == 0) = false := by rw [beq_eq_false_iff_ne]; omega
  have hne : L ≠ [] := by rintro rfl; exact h0 HN.out
  rcases Bool.eq_false_or_eq_true (smost m la.members) with hq | hq
  · have HQ := Lib.hid hq
    have e : (vpend L).all (fun v => smost m v.members) = r := by
      rw [← hr]
      unfold vmay
      rw [← HLA.out, hq]
      simp [hne]
    have HE := Lib.hid e
    clear h0 hq hne e hr
    go_enter Tryd.func13, Tryd.ntmps13
    go_wp2_with fail
    go_region_with
      (first
        | (go_at_call 33; refine (vlast_any (by first | exact HV.out | exact HV.out.below (vdrew_below _)) (by rw [← HN.out]; omega)).mono ?_; rintro e w3 ⟨rfl, hb3⟩; rw [← HLA.out]; have hw3 := (((by first | exact HBM.out | exact HBM.out.stay (vdrew_below _) : Blk _ _ _ _)).stay hb3).cell 0)
        | (go_at_call 32; refine (most_eq HM.out (by rw [HLA.out]; exact HLO.out.members) HQ.out _).mono ?_; rintro e w4 ⟨rfl, rfl⟩))
    all_goals
      have hb4 : Below (w.alloc (.cells #[.int .u64 (m : Int)] 27)).heap.size (w.alloc (.cells #[.int .u64 (m : Int)] 27)) w3 := by first | exact hb3 | exact btr (vdrew_below _) hb3
      have HB4 := Lib.hid hb4
      clear hb3 hb4
      go_wp2_with fail
      refine (vpend_any (HV.out.below HB4.out) HL.out).mono ?_
      rintro e w5 ⟨v5, rfl, hb5, ho5⟩
      obtain ⟨A5, l5, c5, rfl⟩ := own_sl ho5
      have HV5 := Lib.hid (Views.of_own ho5 rfl HPO.out)
      have HB5 := Lib.hid (btr HB4.out hb5)
      have HM5 := Lib.hid ((HBM.out.stay HB4.out).stay hb5)
      clear hb5 ho5
      go_wp2_with fail
      refine (vcontainsM_any HV5.out (by have := HLL.out; omega) HM5.out HM.out HE.out).mono ?_
      rintro e w6 ⟨rfl, hb6⟩
      have HB6 := Lib.hid (btr HB5.out hb6)
      clear hb6
      go_wp2_with fail
      go_ret
      exact ⟨by simp, HBAL.out.trans (HB6.out.mono HBAL.out.size)⟩
  · have HQ := Lib.hid hq
    have e : r = false := by
      rw [← hr]
      unfold vmay
      rw [← HLA.out, hq]
      simp
    subst e
    clear h0 hq hne hr
    go_enter Tryd.func13, Tryd.ntmps13
    go_wp2_with fail
    go_region_with
      (first
        | (go_at_call 33; refine (vlast_any (by first | exact HV.out | exact HV.out.below (vdrew_below _)) (by rw [← HN.out]; omega)).mono ?_; rintro e w3 ⟨rfl, hb3⟩; rw [← HLA.out]; have hw3 := (((by first | exact HBM.out | exact HBM.out.stay (vdrew_below _) : Blk _ _ _ _)).stay hb3).cell 0)
        | (go_at_call 32; refine (most_eq HM.out (by rw [HLA.out]; exact HLO.out.members) HQ.out _).mono ?_; rintro e w4 ⟨rfl, rfl⟩))
    all_goals
      have hb4 : Below (w.alloc (.cells #[.int .u64 (m : Int)] 27)).heap.size (w.alloc (.cells #[.int .u64 (m : Int)] 27)) w3 := by first | exact hb3 | exact btr (vdrew_below _) hb3
      have HB4 := Lib.hid hb4
      clear hb3 hb4
      go_wp2_with fail
      go_ret
      exact ⟨rfl, HBAL.out.trans (HB4.out.mono HBAL.out.size)⟩
end Go.Proofs.YtalcoodidcehnaaDoor
