import Derived.Test.YtheeclmpkddgjaaDoorNamesM
import Derived.Deep.RegionHeld3
import Derived.Deep.AppendLies
namespace Go.Proofs.YtheeclmpkddgjaaDoor
set_option linter.unusedVariables false
set_option linter.unusedSimpArgs false
open Go.RowKit
def bareCells (x : Itm) : List Value := itemCells (bareOf x) (.slice none 0 0)
theorem Items.ok {w : World} {v : Value} {claims : List Itm} (h : Items w v claims) (x : Itm) (hx : x ∈ claims) : x.Ok := by
  obtain ⟨i, hi, rfl⟩ := List.getElem_of_mem hx
  obtain ⟨A, c, _, _, h⟩ := h
  obtain ⟨_, _, _, _, ⟨_, _, ho, _⟩, _⟩ := h i claims[i] (by simp [hi])
  exact ho
theorem Items.of_bare {w : World} {base : Nat} {e : TypeId} {v : Value} {n : Nat} {claims : List Itm} (h : w.ownsRow base e 18 v n (claims.map bareCells).flatten) (hn : n = claims.length) (hok : ∀ x, x ∈ claims → x.Ok) : Items w v (claims.map bareOf) := by
  refine Sl.of_flat h (by simpa using hn) (fun i x hi => ?_) (fun cs hc => ?_)
  · rw [List.getElem?_map] at hi
    cases hx : claims[i]? with
    | none => rw [hx] at hi; cases hi
    | some y =>
      rw [hx] at hi
      obtain rfl : bareOf y = x := by simpa using hi
      have hy := hok y (List.mem_of_getElem? hx)
      exact ⟨bareCells y, by rw [List.getElem?_map, hx]; rfl, KItem.bare hy.inc hy.holds⟩
  · obtain ⟨x, _, rfl⟩ := List.mem_map.1 hc
    rfl
theorem bdrew {B : Nat} {w W : World} (h : Below B w W) : Below B w W.drew := ⟨h.os, h.tape, h.output, h.size, h.block⟩
theorem Css.append {α : Type} {K : World → α → List Value → Prop} {sz : Nat} {w : World} {xs ys : List α} {css css' : List (List Value)} (h : Css K sz w xs css) (h' : Css K sz w ys css') : Css K sz w (xs ++ ys) (css ++ css') := by
  refine ⟨by simp [h.len, h'.len], fun i y hy => ?_, fun c hc => ?_⟩
  · by_cases hi : i < xs.length
    · rw [List.getElem?_append_left hi] at hy
      obtain ⟨c, h1, h2⟩ := h.each i y hy
      exact ⟨c, by rw [List.getElem?_append_left (by rw [h.len]; exact hi)]; exact h1, h2⟩
    · rw [List.getElem?_append_right (by omega)] at hy
      obtain ⟨c, h1, h2⟩ := h'.each _ y hy
      exact ⟨c, by rw [List.getElem?_append_right (by rw [h.len]; omega), h.len]; exact h1, h2⟩
  · rw [List.mem_append] at hc
    rcases hc with hc | hc
    · exact h.size c hc
    · exact h'.size c hc
theorem own_zero (w : World) (e : TypeId) (sz : Nat) : (w.alloc (.cells #[] e)).ownsRow w.heap.size e sz (.slice (some ⟨w.heap.size, 0, none⟩) 0 0) 0 [] :=
  ⟨by simp, .inr ⟨w.heap.size, 0, #[], rfl, Nat.le_refl _, heap_alloc_new w _, Nat.le_refl _, Nat.zero_le _, by simp, by simp⟩⟩
theorem bare_snoc (xs : List Itm) (x : Itm) : (xs.map bareCells).flatten ++ bareCells x = ((xs ++ [x]).map bareCells).flatten := by simp
set_option maxRecDepth 100000 in
set_option maxHeartbeats 4000000 in
theorem namesOne_law {n s : Nat} (hn : S64 n) (hs : S64 s) {v : Value} {claims : List Itm} {w : World} (hT : Tab w) (hv : Items w v claims) (sure : Bool) {v2 : Value} {more : List Itm} (hmo : Items w v2 more) :
    Calls Tryd.prog 10 #[.int .u64 (n : Int), .int .u64 (s : Int), v, .bool sure, v2] w fun e w' => e = .returned (.bool true) ∧ Below w.heap.size w w' := by
  obtain ⟨A, c, rfl, _⟩ := hv.slice
  obtain ⟨A2, c2, rfl, _⟩ := hmo.slice
  have HT := Lib.hid hT
  have HV := Lib.hid hv
  have HM := Lib.hid hmo
  have HINC := Lib.hid hv.inc
  obtain ⟨i0, hi, hz0, hz1, hz2⟩ := info_parts litem_info
  clear hT hv hmo
  go_enter Tryd.func10, Tryd.ntmps10
  go_wp2_with fail
  refine (awake21 HT.out).mono ?_
  rintro e w1 ⟨rfl, hb1⟩
  have HB1 := Lib.hid hb1
  clear hb1
  by_cases hc1 : claims.length > 100
  · have h1 : decide (100 < (claims.length : Int)) = true := decide_eq_true (by omega)
    clear hc1
    go_wp2_with fail
    go_ret
    exact ⟨rfl, HB1.out⟩
  by_cases hc2 : more.length > 100
  · have h1 : decide (100 < (claims.length : Int)) = false := decide_eq_false (by omega)
    have h2 : decide (100 < (more.length : Int)) = true := decide_eq_true (by omega)
    clear hc1 hc2
    go_wp2_with fail
    go_ret
    exact ⟨rfl, HB1.out⟩
  have hcl : claims.length ≤ 100 := by omega
  have hll : more.length ≤ 100 := by omega
  have h1 : decide (100 < (claims.length : Int)) = false := decide_eq_false (by omega)
  have h2 : decide (100 < (more.length : Int)) = false := decide_eq_false (by omega)
  have HLL := Lib.hid hll
  obtain ⟨m, hm⟩ : ∃ m, m = claims.length := ⟨_, rfl⟩
  have hm100 : m ≤ 100 := by omega
  have HMM := Lib.hid hm
  rw [← hm] at h1
  rw [← hm]
  have hvm := HV.out
  rw [← hm] at hvm
  have HVM := Lib.hid hvm
  clear hvm
  clear hc1 hc2 hcl hll hm
  go_wp2_with fail
  go_loopw [12, 13] (fun u i wr => ∃ k : Nat, k ≤ m ∧ i = .int .i64 k ∧ Hid (wr.ownsRow w1.heap.size 68 18 u k ((claims.take k).map bareCells).flatten) ∧ Hid (Below w1.heap.size w1 wr)) (fun _ i _ => m - (intOf i).toNat)
  case atStart => exact ⟨0, by omega, rfl, World.ownsRow_nil _ _ _ _, Below.refl _ _⟩
  case round =>
    obtain ⟨k, hk, rfl, HO, HB⟩ := hrel
    by_cases hlt : k < m
    · have hlt2 : k < claims.length := by rw [← HMM.out]; exact hlt
      have htk : claims.take (k + 1) = claims.take k ++ [claims[k]] := List.take_succ_eq_append_getElem hlt2
      obtain ⟨b2, off2, cs, rfl, hK, hcl, hrange⟩ := Sl.at (HV.out.below HB1.out) k hlt2
      obtain ⟨x, hx⟩ : ∃ x, x = claims[k] := ⟨_, rfl⟩
      rw [← hx] at hK htk
      have HTK := Lib.hid htk
      obtain ⟨vv, rfl, _, _⟩ := hK
      have d2 := hrange 2 _ rfl
      have d3 := hrange 3 _ rfl
      have d4 := hrange 4 _ rfl
      have d5 := hrange 5 _ rfl
      have hb2 : b2 < w1.heap.size := World.block_lt_of_cell? w1 _ d2
      have e2 : wr.cell? ⟨b2, off2 + k * 18 + 2, none⟩ = some (.int .u32 (x.inc : Int)) := (HB.out.cell (p := ⟨b2, _, none⟩) hb2).trans d2
      have e3 : wr.cell? ⟨b2, off2 + k * 18 + 3, none⟩ = some (.int .u64 (x.holds : Int)) := (HB.out.cell (p := ⟨b2, _, none⟩) hb2).trans d3
      have e4 : wr.cell? ⟨b2, off2 + k * 18 + 4, none⟩ = some (.bool x.has) := (HB.out.cell (p := ⟨b2, _, none⟩) hb2).trans d4
      have e5 : wr.cell? ⟨b2, off2 + k * 18 + 5, none⟩ = some (.bool x.direct) := (HB.out.cell (p := ⟨b2, _, none⟩) hb2).trans d5
      have hle : w1.heap.size ≤ wr.heap.size := HB.out.size
      have hbr : b2 < wr.heap.size := by omega
      have hne : u12.ownBlock ≠ some b2 := fun h => by have := (HO.out.lt b2 h).1; omega
      have hk0 : (0 : Int) ≤ (k : Int) := Int.natCast_nonneg _
      have hk1 : (k : Int) < (m : Int) := by omega
      clear d2 d3 d4 d5 hrange hcl htk hx hlt2
      go_wp2_with fail
      go_region_held3 (fun w' => w'.cell? ⟨b2, off2 + k * 18 + 2, none⟩ = some (.int .u32 (x.inc : Int)) ∧ w'.cell? ⟨b2, off2 + k * 18 + 3, none⟩ = some (.int .u64 (x.holds : Int)) ∧ w'.cell? ⟨b2, off2 + k * 18 + 4, none⟩ = some (.bool x.has) ∧ w'.cell? ⟨b2, off2 + k * 18 + 5, none⟩ = some (.bool x.direct))
        (first
          | go_keep
          | (go_split_ands
             refine ⟨?_, ?_, ?_, ?_⟩
             · (rw [hgrow.cell_far ⟨b2, off2 + k * 18 + 2, none⟩ (by simp; omega) (Ne.symm hne)]; assumption)
             · (rw [hgrow.cell_far ⟨b2, off2 + k * 18 + 3, none⟩ (by simp; omega) (Ne.symm hne)]; assumption)
             · (rw [hgrow.cell_far ⟨b2, off2 + k * 18 + 4, none⟩ (by simp; omega) (Ne.symm hne)]; assumption)
             · (rw [hgrow.cell_far ⟨b2, off2 + k * 18 + 5, none⟩ (by simp; omega) (Ne.symm hne)]; assumption)))
        ((refine step_append_lies _ (by rfl) _ _ _ (by rfl) w1.heap.size 68 i0 zitem 18 160 Tryd.underlying45 hi hz0 hz1 hz2 rfl (by omega) u12 k ((claims.take k).map bareCells).flatten (by rfl) (by first | exact (HO.out.alloc _).drew | exact HO.out.drew.alloc _ | exact HO.out.alloc _)
            ⟨wr.heap.size, 0, none⟩ 1 1 (bareCells x) (by rfl) (by rfl) (World.news_of_block (cs := (bareCells x).toArray) (t := 68) (fr := (0, 0)) (heap_alloc_new wr _)) (by simp [Value.oneCell', bareCells, bareOf, bareI, itemCells])
            (by omega) (by unfold maxLen; omega) (by omega) (by simp; omega) (wr.heap.size + 1) (by simp) ?_; intro gg cap w3 hown3 hgrow hat hlt3))
      have hb3 : Below w1.heap.size w1 w3 := (bdrew (bal HB.out _)).grown hgrow (by simp; omega) (fun g hg => (HO.out.lt g hg).1)
      have HB3 := Lib.hid hb3
      have HO3 := Lib.hid hown3
      clear hown3 hgrow hb3
      go_wp2_with fail
      go_roundw
      case rel =>
        refine ⟨k + 1, by omega, by go_num, ?_, HB3⟩
        rw [HTK.out, ← bare_snoc]
        exact HO3.out
      case measure => simp [intOf] <;> omega
    · obtain rfl : k = m := by omega
      clear hlt hk
      have hlm : (claims.map bareOf).length = k := by rw [List.length_map]; exact HMM.out.symm
      have hu : Items wr u12 (claims.map bareOf) := by
        have ho := HO.out
        rw [List.take_of_length_le (by rw [← HMM.out]; omega)] at ho
        exact Items.of_bare ho HMM.out HV.out.ok
      obtain ⟨A3, c3, rfl, _⟩ := hu.slice
      rw [hlm] at hu
      rw [hlm]
      have HU := Lib.hid hu
      have HBR := Lib.hid (btr HB1.out HB.out)
      clear hu hlm
      obtain ⟨st, hst⟩ : ∃ st, st = sstay n s claims := ⟨_, rfl⟩
      have hst64 : S64 st := by rw [hst]; exact S64.stay _ _ _
      have HST := Lib.hid hst
      have HST2 : Hid (st = sstay n s (claims.map bareOf)) := by show st = _; rw [hst, sstay_bare]
      have HS64 := Lib.hid hst64
      clear hst hst64
      have hmc : claims.length ≤ 9223372036854775807 := by rw [← HMM.out]; omega
      have HMC := Lib.hid hmc
      have HMC2 : Hid ((claims.map bareOf).length ≤ 9223372036854775807) := by show _ ≤ _; rw [List.length_map]; exact hmc
      clear hmc
      go_wp2_with fail
      refine (names_any hs (HT.out.below HBR.out) (HVM.out.below HBR.out) HMC.out HINC.out sure).mono ?_
      rintro e w4 ⟨u1, rfl, hb4, hu1⟩
      obtain ⟨A4, c4, rfl, _⟩ := hu1.slice
      have HB4 := Lib.hid (btr HBR.out hb4)
      have HU4 := Lib.hid (HU.out.below hb4)
      have HN4 := Lib.hid hu1
      clear hb4 hu1
      go_wp2_with fail
      refine (names_any hs (HT.out.below HB4.out) HU4.out HMC2.out HU4.out.inc sure).mono ?_
      rw [snames_bare]
      rintro e w5 ⟨u2, rfl, hb5, hu2⟩
      obtain ⟨A5, c5, rfl, _⟩ := hu2.slice
      have HB5 := Lib.hid (btr HB4.out hb5)
      have HU5 := Lib.hid (HU4.out.below hb5)
      have HN5 := Lib.hid (HN4.out.below hb5)
      have HM5 := Lib.hid hu2
      clear hb5 hu2
      go_wp2_with fail
      refine (refNamesEq_true HN5.out HM5.out (by have := snames_len n s claims sure; omega)).mono ?_
      rintro e w6 ⟨rfl, hb6⟩
      have HB6 := Lib.hid (btr HB5.out hb6)
      have HU6 := Lib.hid (HU5.out.below hb6)
      clear hb6
      go_wp2_with fail
      refine (stay_num hs (HT.out.below HB6.out) (HVM.out.below HB6.out) HMC.out (n := n) rfl rfl (m := (st : Int)) (by rw [← HST.out])).mono ?_
      rintro e w7 ⟨rfl, hb7⟩
      have HB7 := Lib.hid (btr HB6.out hb7)
      have HU7 := Lib.hid (HU6.out.below hb7)
      clear hb7
      go_wp2_with fail
      refine (stay_num hs (HT.out.below HB7.out) HU7.out HMC2.out (n := n) rfl rfl (m := (st : Int)) (by rw [← HST2.out])).mono ?_
      rintro e w8 ⟨rfl, hb8⟩
      have HB8 := Lib.hid (btr HB7.out hb8)
      clear hb8
      obtain ⟨z, hz⟩ : ∃ z, z = ssize s := ⟨_, rfl⟩
      have HZ := Lib.hid hz
      clear hz
      go_wp2_with fail
      refine (size_eq hs (n := (z : Int)) (by rw [HZ.out]) _).mono ?_
      rintro e w9 ⟨rfl, rfl⟩
      by_cases hsz : k < z
      · have hd : decide ((k : Int) < (z : Int)) = true := decide_eq_true (by omega)
        go_wp2_with fail
        go_ret
        exact ⟨rfl, HB8.out⟩
      · have hd : decide ((k : Int) < (z : Int)) = false := decide_eq_false (by omega)
        have hd2 : (k < z) = False := eq_false hsz
        have HZK : Hid (ssize s ≤ claims.length) := by show _ ≤ _; rw [← HZ.out, ← HMM.out]; omega
        clear hsz
        have HO0 := Lib.hid (own_zero w8 68 18)
        go_wp2_with (at_builtin; refine wpList_append_sl rfl _ _ 45 rfl w8.heap.size 68 i0 zitem 18 160 Tryd.underlying45 hi hz0 hz1 hz2 rfl (by decide) (.slice (some ⟨w8.heap.size, 0, none⟩) 0 0) 0 [] rfl HO0.out A k c claims rfl HVM.out (bal HB8.out _) (fun y cs h => (item_one h).2) (by unfold maxLen; omega) (by omega) (by simp) ?_)
        intro css v' w' hcss hown hgrow
        try simp only [Nat.zero_add, List.nil_append] at hown
        have hba : Below w.heap.size w w' := (bal HB8.out _).grown hgrow (by have := HB8.out.size; simp; omega) (fun g hg => Nat.le_trans HB8.out.size (HO0.out.lt g hg).1)
        have hwa : w8.heap.size ≤ w'.heap.size := by have := hgrow.size; simp at this; omega
        have HWA := Lib.hid hwa
        have HCA := Lib.hid hcss
        have HOA := Lib.hid hown
        have HBA := Lib.hid hba
        have hmore := HLL.out
        clear hcss hown hgrow hba hwa
        go_wp2_with (at_builtin; refine wpList_append_sl rfl _ _ 45 rfl w8.heap.size 68 i0 zitem 18 160 Tryd.underlying45 hi hz0 hz1 hz2 rfl (by decide) v' k css.flatten rfl HOA.out A2 more.length c2 more rfl HM.out HBA.out (fun y cs h => (item_one h).2) (by unfold maxLen; omega) (by omega) HWA.out ?_)
        intro css2 v3 w'' hcss2 hown2 hgrow2
        have hba : Below w.heap.size w w'' := HBA.out.grown hgrow2 HBA.out.size (fun g hg => Nat.le_trans HB8.out.size (HOA.out.lt g hg).1)
        have hall : Items w'' v3 (claims ++ more) := by
          refine Css.sl ((HCA.out.append hcss2).move KItem.stays hba) (by rw [List.flatten_append]; simpa using hown2) ?_
          rw [List.length_append, ← HMM.out]
        obtain ⟨A6, c6, rfl, _⟩ := hall.slice
        have hla : (claims ++ more).length ≤ 9223372036854775807 := by rw [List.length_append, ← HMM.out]; omega
        have HALL := Lib.hid hall
        have HLA := Lib.hid hla
        have HB9 := Lib.hid hba
        have HMN : Hid (snames n s (claims ++ more) sure = snames n s claims sure) := snames_more n s claims more sure HZK.out
        have HMS : Hid (sstay n s (claims ++ more) = sstay n s claims) := sstay_more n s claims more HZK.out
        clear hcss2 hown2 hgrow2 hall hla hba
        generalize claims ++ more = all at *
        go_wp2_with fail
        refine (names_any hs (HT.out.below HB9.out) HALL.out HLA.out HALL.out.inc sure).mono ?_
        rw [HMN.out]
        rintro e wa ⟨u5, rfl, hb5, hu5⟩
        obtain ⟨A7, c7, rfl, _⟩ := hu5.slice
        have HBa := Lib.hid (btr HB9.out hb5)
        have HALLa := Lib.hid (HALL.out.below hb5)
        have HNa := Lib.hid hu5
        clear hb5 hu5
        go_wp2_with fail
        refine (names_any hs (HT.out.below HBa.out) (HVM.out.below HBa.out) HMC.out HINC.out sure).mono ?_
        rintro e wb ⟨u6, rfl, hb6, hu6⟩
        obtain ⟨A8, c8, rfl, _⟩ := hu6.slice
        have HBb := Lib.hid (btr HBa.out hb6)
        have HALLb := Lib.hid (HALLa.out.below hb6)
        have HNb := Lib.hid (HNa.out.below hb6)
        have HMb := Lib.hid hu6
        clear hb6 hu6
        go_wp2_with fail
        refine (refNamesEq_true HNb.out HMb.out (by have := snames_len n s claims sure; omega)).mono ?_
        rintro e wc ⟨rfl, hb7⟩
        have HBc := Lib.hid (btr HBb.out hb7)
        have HALLc := Lib.hid (HALLb.out.below hb7)
        clear hb7
        obtain ⟨j, hj⟩ : ∃ j : Int, j = ((sbut s (sstay n s claims) : Nat) : Int) := ⟨_, rfl⟩
        have HJ := Lib.hid hj
        clear hj
        go_wp2_with fail
        refine (joins_num hs (HT.out.below HBc.out) HALLc.out HLA.out (n := n) rfl rfl (m := j) (by rw [HMS.out, HJ.out])).mono ?_
        rintro e wd ⟨rfl, hb8⟩
        have HBd := Lib.hid (btr HBc.out hb8)
        clear hb8
        go_wp2_with fail
        refine (joins_num hs (HT.out.below HBd.out) (HVM.out.below HBd.out) HMC.out (n := n) rfl rfl (m := j) (by rw [HJ.out])).mono ?_
        rintro e we ⟨rfl, hb9⟩
        have HBe := Lib.hid (btr HBd.out hb9)
        clear hb9
        go_wp2_with fail
        go_ret
        exact ⟨rfl, HBe.out⟩
end Go.Proofs.YtheeclmpkddgjaaDoor
