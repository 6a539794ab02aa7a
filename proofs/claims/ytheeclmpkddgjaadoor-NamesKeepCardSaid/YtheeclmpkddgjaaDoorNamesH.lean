import Derived.Test.YtheeclmpkddgjaaDoorNamesG
namespace Go.Proofs.YtheeclmpkddgjaaDoor
set_option linter.unusedVariables false
set_option linter.unusedSimpArgs false
open Go.RowKit
theorem shr_has (st q : Nat) (hst : S64 st) (hq : q < 64) : (Go.bits .and .u64 ((st : Int) / 2 ^ q) 1 == 0) = !shas st q := by
  have h1 := hst.lt
  have hle : st / 2 ^ q ≤ st := Nat.div_le_self _ _
  have e : (st : Int) / 2 ^ q = ((st / 2 ^ q : Nat) : Int) := by simp
  rw [e, show (1 : Int) = ((1 : Nat) : Int) from rfl, u64_and_nat _ _ (by omega) (by omega), shas_nat _ _ hq, Nat.testBit_eq_decide_div_mod_eq]
  rw [show st / 2 ^ q &&& 1 = st / 2 ^ q % 2 from Nat.and_two_pow_sub_one_eq_mod _ 1]
  rcases (show st / 2 ^ q % 2 = 0 ∨ st / 2 ^ q % 2 = 1 by omega) with h | h <;> rw [h] <;> decide
set_option maxRecDepth 20000 in
set_option maxHeartbeats 4000000 in
theorem refNames_own {n s : Nat} (hs : S64 s) {v : Value} {claims : List Itm} {w : World} (hv : Items w v claims) (hm : claims.length ≤ 9223372036854775807) (hinc : ∀ k, incAt claims k < 4294967296) (sure : Bool) :
    Calls Tryd.prog 54 #[.int .u64 (n : Int), .int .u64 (s : Int), v, .bool sure] w fun e w' => ∃ u, e = .returned u ∧ Below w.heap.size w w' ∧ w'.ownsRow w.heap.size 51 2 u (snames n s claims sure).length ((snames n s claims sure).map nameCells).flatten := by
  obtain ⟨A, c, rfl, _⟩ := hv.slice
  have HV := Lib.hid hv
  have HINC := Lib.hid hinc
  obtain ⟨i0, hi, hz0, hz1, hz2⟩ := info_parts name_info
  obtain ⟨l, hl⟩ : ∃ l, l = slist s := ⟨_, rfl⟩
  have hlen : l.length ≤ 64 := by rw [hl]; exact slist_le s
  have hl64 : ∀ q, q ∈ l → q < 64 := fun q hq => (mem_slist.1 (by rw [← hl]; exact hq)).1
  have HL64 := Lib.hid hl64
  have HL := Lib.hid hl
  clear hv hl hinc hl64
  obtain ⟨m, hm'⟩ : ∃ m, m = l.length := ⟨_, rfl⟩
  have hm64 : m ≤ 64 := by omega
  have HM := Lib.hid hm'
  clear hm' hlen
  obtain ⟨st, hst⟩ : ∃ st, st = sstay n s claims := ⟨_, rfl⟩
  have hst64 : S64 st := by rw [hst]; exact S64.stay _ _ _
  have HST := Lib.hid hst
  clear hst
  go_enter Tryd.func54, Tryd.ntmps54
  go_wp2_with fail
  refine (refList_any hs _).mono ?_
  rintro e w0 ⟨vl, rfl, hb0, hvl⟩
  rw [← HL.out] at hvl
  obtain ⟨A1, c1, rfl, _⟩ := hvl.slice
  have HB0 := Lib.hid hb0
  have HVL0 := Lib.hid hvl
  clear hb0 hvl
  rw [← HM.out]
  go_wp2_with fail
  refine (refStay_any hs (HV.out.below HB0.out) hm).mono ?_
  rintro e w1 ⟨rfl, hb1⟩
  rw [← HST.out]
  have HB1 := Lib.hid (btr HB0.out hb1)
  have HVL := Lib.hid (HVL0.out.below (one_stays _) (by decide) hb1)
  clear hb1 HVL0
  go_wp2_with fail
  go_loopw [11, 12] (fun u i wr => ∃ k : Nat, k ≤ m ∧ i = .int .i64 k ∧ Hid (wr.ownsRow w1.heap.size 51 2 u k ((namesL st claims sure (l.take k)).map nameCells).flatten) ∧ Hid (Below w1.heap.size w1 wr)) (fun _ i _ => m - (intOf i).toNat)
  case atStart => exact ⟨0, by omega, rfl, World.ownsRow_nil _ _ _ _, Below.refl _ _⟩
  case round =>
    obtain ⟨k, hk, rfl, HO, HB2⟩ := hrel
    by_cases hlt : k < m
    · have hlt2 : k < l.length := by rw [← HM.out]; exact hlt
      have hl2 := HVL.out.below (one_stays _) (by decide) HB2.out
      rw [← HM.out] at hl2
      obtain ⟨b, off, rfl, hcell⟩ := Nats.at hl2 k hlt2
      have htk := namesL_take st claims sure l k hlt2
      obtain ⟨q, hq⟩ : ∃ q, q = l[k] := ⟨_, rfl⟩
      have hq64 : q < 64 := HL64.out q (by rw [hq]; exact List.getElem_mem hlt2)
      have hshr := shr_has st q hst64 hq64
      rw [← hq] at hcell htk
      clear hq hl2 hlt2
      have HTK := Lib.hid htk
      clear htk
      have HBR := Lib.hid (btr HB1.out HB2.out)
      obtain ⟨inc, hincq⟩ : ∃ inc, inc = incAt claims k := ⟨_, rfl⟩
      rw [← hincq] at HTK
      by_cases hkc : k < claims.length
      · have hkc' : (k : Int) < (claims.length : Int) := by omega
        have hib : inc < 4294967296 := by rw [hincq]; exact HINC.out k
        have HIB := Lib.hid hib
        clear hib
        obtain ⟨b2, off2, cs, rfl, hK, hcl, hrange⟩ := Sl.at (HV.out.below HBR.out) k hkc
        have hix : incAt claims k = claims[k].inc := by unfold incAt; simp [hkc]
        have hic : wr.cell? ⟨b2, off2 + k * 18 + 2, none⟩ = some (.int .u32 (inc : Int)) := by
          rw [hincq, hix]
          obtain ⟨vv, rfl, _, _⟩ := hK
          exact hrange 2 _ rfl
        obtain ⟨z, hz⟩ : ∃ z : Int, z = (inc : Int) := ⟨_, rfl⟩
        rw [← hz] at hic
        have HZ := Lib.hid hz
        clear hz
        have HIQ := Lib.hid hincq
        clear hK hcl hrange hix hincq hkc
        cases hhas : shas st q
        · rw [hhas] at hshr
          simp only [Bool.not_false] at hshr
          cases sure
          · by_cases hmax : inc < 4294967295
            · have HBP : Hid (bump st false q inc = inc + 1) := by show bump st false q inc = _; unfold bump; simp [hmax]
              have hd1 : (z != 4294967295) = true := by rw [bne_iff_ne]; have := HZ.out; omega
              have hwr : IntKind.u32.wrap (z + 1) = z + 1 := by rw [IntKind.wrap_u32']; have := HZ.out; omega
              have HHAS := Lib.hid hhas
              clear hmax hhas
              go_wp2_with (at_builtin; refine wpList_append_own _ rfl _ _ 46 rfl w1.heap.size 51 i0 (.agg #[.int .i64 0, .int .u32 0]) 2 16 Tryd.underlying46 hi hz0 hz1 hz2 rfl (by decide) _ _ _ rfl (HO.out.alloc _) ⟨wr.heap.size, 0, none⟩ 1 1 [.int .i64 (q : Int), .int .u32 (z + 1)] rfl rfl ?c1_1 ?c2_1 ?c3_1 ?c4_1 ?c5_1 ?_)
              try (case c1_1 => exact cells_new _ _ _ _ rfl rfl)
              case c2_1 => simp [Value.oneCell']
              case c3_1 => unfold maxLen; omega
              case c4_1 => omega
              case c5_1 => have := HB2.out.size; simp; omega
              intro v' w2 hown' hgrow _
              have hb3 : Below w1.heap.size w1 w2 := ((bal HB2.out _).grown hgrow (by have := HB2.out.size; simp; omega) (fun g hg => (HO.out.lt g hg).1))
              have HB3 := Lib.hid hb3
              have HO3 := Lib.hid hown'
              clear hown' hgrow hb3
              go_wp2_with fail
              go_roundw
              case rel =>
                refine ⟨k + 1, by omega, by go_num, ?_, HB3⟩
                rw [HTK.out, show bump st false q inc = inc + 1 from HBP.out, ← flat_snoc]
                have hz3 := HO3.out
                rw [HZ.out] at hz3
                exact hz3
              case measure => simp [intOf] <;> omega
            · have HBP : Hid (bump st false q inc = inc) := by show bump st false q inc = _; unfold bump; simp [hmax]
              have hd1 : (z != 4294967295) = false := by rw [bne_eq_false_iff_eq]; have := HZ.out; have := HIB.out; omega
              have HHAS := Lib.hid hhas
              clear hmax hhas
              go_wp2_with (at_builtin; refine wpList_append_own _ rfl _ _ 46 rfl w1.heap.size 51 i0 (.agg #[.int .i64 0, .int .u32 0]) 2 16 Tryd.underlying46 hi hz0 hz1 hz2 rfl (by decide) _ _ _ rfl (HO.out.alloc _) ⟨wr.heap.size, 0, none⟩ 1 1 [.int .i64 (q : Int), .int .u32 (z)] rfl rfl ?c1_2 ?c2_2 ?c3_2 ?c4_2 ?c5_2 ?_)
              try (case c1_2 => exact cells_new _ _ _ _ rfl rfl)
              case c2_2 => simp [Value.oneCell']
              case c3_2 => unfold maxLen; omega
              case c4_2 => omega
              case c5_2 => have := HB2.out.size; simp; omega
              intro v' w2 hown' hgrow _
              have hb3 : Below w1.heap.size w1 w2 := ((bal HB2.out _).grown hgrow (by have := HB2.out.size; simp; omega) (fun g hg => (HO.out.lt g hg).1))
              have HB3 := Lib.hid hb3
              have HO3 := Lib.hid hown'
              clear hown' hgrow hb3
              go_wp2_with fail
              go_roundw
              case rel =>
                refine ⟨k + 1, by omega, by go_num, ?_, HB3⟩
                rw [HTK.out, show bump st false q inc = inc from HBP.out, ← flat_snoc]
                have hz3 := HO3.out
                rw [HZ.out] at hz3
                exact hz3
              case measure => simp [intOf] <;> omega
          · by_cases hmax : inc < 4294967295
            · have HBP : Hid (bump st true q inc = inc + 1) := by show bump st true q inc = _; unfold bump; simp [hmax, hhas]
              have hd1 : (z != 4294967295) = true := by rw [bne_iff_ne]; have := HZ.out; omega
              have hwr : IntKind.u32.wrap (z + 1) = z + 1 := by rw [IntKind.wrap_u32']; have := HZ.out; omega
              have HHAS := Lib.hid hhas
              clear hmax hhas
              go_wp2_with (at_builtin; refine wpList_append_own _ rfl _ _ 46 rfl w1.heap.size 51 i0 (.agg #[.int .i64 0, .int .u32 0]) 2 16 Tryd.underlying46 hi hz0 hz1 hz2 rfl (by decide) _ _ _ rfl (HO.out.alloc _) ⟨wr.heap.size, 0, none⟩ 1 1 [.int .i64 (q : Int), .int .u32 (z + 1)] rfl rfl ?c1_3 ?c2_3 ?c3_3 ?c4_3 ?c5_3 ?_)
              try (case c1_3 => exact cells_new _ _ _ _ rfl rfl)
              case c2_3 => simp [Value.oneCell']
              case c3_3 => unfold maxLen; omega
              case c4_3 => omega
              case c5_3 => have := HB2.out.size; simp; omega
              intro v' w2 hown' hgrow _
              have hb3 : Below w1.heap.size w1 w2 := ((bal HB2.out _).grown hgrow (by have := HB2.out.size; simp; omega) (fun g hg => (HO.out.lt g hg).1))
              have HB3 := Lib.hid hb3
              have HO3 := Lib.hid hown'
              clear hown' hgrow hb3
              go_wp2_with fail
              go_roundw
              case rel =>
                refine ⟨k + 1, by omega, by go_num, ?_, HB3⟩
                rw [HTK.out, show bump st true q inc = inc + 1 from HBP.out, ← flat_snoc]
                have hz3 := HO3.out
                rw [HZ.out] at hz3
                exact hz3
              case measure => simp [intOf] <;> omega
            · have HBP : Hid (bump st true q inc = inc) := by show bump st true q inc = _; unfold bump; simp [hmax, hhas]
              have hd1 : (z != 4294967295) = false := by rw [bne_eq_false_iff_eq]; have := HZ.out; have := HIB.out; omega
              have HHAS := Lib.hid hhas
              clear hmax hhas
              go_wp2_with (at_builtin; refine wpList_append_own _ rfl _ _ 46 rfl w1.heap.size 51 i0 (.agg #[.int .i64 0, .int .u32 0]) 2 16 Tryd.underlying46 hi hz0 hz1 hz2 rfl (by decide) _ _ _ rfl (HO.out.alloc _) ⟨wr.heap.size, 0, none⟩ 1 1 [.int .i64 (q : Int), .int .u32 (z)] rfl rfl ?c1_4 ?c2_4 ?c3_4 ?c4_4 ?c5_4 ?_)
              try (case c1_4 => exact cells_new _ _ _ _ rfl rfl)
              case c2_4 => simp [Value.oneCell']
              case c3_4 => unfold maxLen; omega
              case c4_4 => omega
              case c5_4 => have := HB2.out.size; simp; omega
              intro v' w2 hown' hgrow _
              have hb3 : Below w1.heap.size w1 w2 := ((bal HB2.out _).grown hgrow (by have := HB2.out.size; simp; omega) (fun g hg => (HO.out.lt g hg).1))
              have HB3 := Lib.hid hb3
              have HO3 := Lib.hid hown'
              clear hown' hgrow hb3
              go_wp2_with fail
              go_roundw
              case rel =>
                refine ⟨k + 1, by omega, by go_num, ?_, HB3⟩
                rw [HTK.out, show bump st true q inc = inc from HBP.out, ← flat_snoc]
                have hz3 := HO3.out
                rw [HZ.out] at hz3
                exact hz3
              case measure => simp [intOf] <;> omega
        · rw [hhas] at hshr
          simp only [Bool.not_true] at hshr
          cases sure
          · by_cases hmax : inc < 4294967295
            · have HBP : Hid (bump st false q inc = inc + 1) := by show bump st false q inc = _; unfold bump; simp [hmax]
              have hd1 : (z != 4294967295) = true := by rw [bne_iff_ne]; have := HZ.out; omega
              have hwr : IntKind.u32.wrap (z + 1) = z + 1 := by rw [IntKind.wrap_u32']; have := HZ.out; omega
              have HHAS := Lib.hid hhas
              clear hmax hhas
              go_wp2_with (at_builtin; refine wpList_append_own _ rfl _ _ 46 rfl w1.heap.size 51 i0 (.agg #[.int .i64 0, .int .u32 0]) 2 16 Tryd.underlying46 hi hz0 hz1 hz2 rfl (by decide) _ _ _ rfl (HO.out.alloc _) ⟨wr.heap.size, 0, none⟩ 1 1 [.int .i64 (q : Int), .int .u32 (z + 1)] rfl rfl ?c1_5 ?c2_5 ?c3_5 ?c4_5 ?c5_5 ?_)
              try (case c1_5 => exact cells_new _ _ _ _ rfl rfl)
              case c2_5 => simp [Value.oneCell']
              case c3_5 => unfold maxLen; omega
              case c4_5 => omega
              case c5_5 => have := HB2.out.size; simp; omega
              intro v' w2 hown' hgrow _
              have hb3 : Below w1.heap.size w1 w2 := ((bal HB2.out _).grown hgrow (by have := HB2.out.size; simp; omega) (fun g hg => (HO.out.lt g hg).1))
              have HB3 := Lib.hid hb3
              have HO3 := Lib.hid hown'
              clear hown' hgrow hb3
              go_wp2_with fail
              go_roundw
              case rel =>
                refine ⟨k + 1, by omega, by go_num, ?_, HB3⟩
                rw [HTK.out, show bump st false q inc = inc + 1 from HBP.out, ← flat_snoc]
                have hz3 := HO3.out
                rw [HZ.out] at hz3
                exact hz3
              case measure => simp [intOf] <;> omega
            · have HBP : Hid (bump st false q inc = inc) := by show bump st false q inc = _; unfold bump; simp [hmax]
              have hd1 : (z != 4294967295) = false := by rw [bne_eq_false_iff_eq]; have := HZ.out; have := HIB.out; omega
              have HHAS := Lib.hid hhas
              clear hmax hhas
              go_wp2_with (at_builtin; refine wpList_append_own _ rfl _ _ 46 rfl w1.heap.size 51 i0 (.agg #[.int .i64 0, .int .u32 0]) 2 16 Tryd.underlying46 hi hz0 hz1 hz2 rfl (by decide) _ _ _ rfl (HO.out.alloc _) ⟨wr.heap.size, 0, none⟩ 1 1 [.int .i64 (q : Int), .int .u32 (z)] rfl rfl ?c1_6 ?c2_6 ?c3_6 ?c4_6 ?c5_6 ?_)
              try (case c1_6 => exact cells_new _ _ _ _ rfl rfl)
              case c2_6 => simp [Value.oneCell']
              case c3_6 => unfold maxLen; omega
              case c4_6 => omega
              case c5_6 => have := HB2.out.size; simp; omega
              intro v' w2 hown' hgrow _
              have hb3 : Below w1.heap.size w1 w2 := ((bal HB2.out _).grown hgrow (by have := HB2.out.size; simp; omega) (fun g hg => (HO.out.lt g hg).1))
              have HB3 := Lib.hid hb3
              have HO3 := Lib.hid hown'
              clear hown' hgrow hb3
              go_wp2_with fail
              go_roundw
              case rel =>
                refine ⟨k + 1, by omega, by go_num, ?_, HB3⟩
                rw [HTK.out, show bump st false q inc = inc from HBP.out, ← flat_snoc]
                have hz3 := HO3.out
                rw [HZ.out] at hz3
                exact hz3
              case measure => simp [intOf] <;> omega
          · have HBP : Hid (bump st true q inc = inc) := by show bump st true q inc = _; unfold bump; simp [hhas]
            have HHAS := Lib.hid hhas
            clear hhas
            go_wp2_with (at_builtin; refine wpList_append_own _ rfl _ _ 46 rfl w1.heap.size 51 i0 (.agg #[.int .i64 0, .int .u32 0]) 2 16 Tryd.underlying46 hi hz0 hz1 hz2 rfl (by decide) _ _ _ rfl (HO.out.alloc _) ⟨wr.heap.size, 0, none⟩ 1 1 [.int .i64 (q : Int), .int .u32 (z)] rfl rfl ?c1_7 ?c2_7 ?c3_7 ?c4_7 ?c5_7 ?_)
            try (case c1_7 => exact cells_new _ _ _ _ rfl rfl)
            case c2_7 => simp [Value.oneCell']
            case c3_7 => unfold maxLen; omega
            case c4_7 => omega
            case c5_7 => have := HB2.out.size; simp; omega
            intro v' w2 hown' hgrow _
            have hb3 : Below w1.heap.size w1 w2 := ((bal HB2.out _).grown hgrow (by have := HB2.out.size; simp; omega) (fun g hg => (HO.out.lt g hg).1))
            have HB3 := Lib.hid hb3
            have HO3 := Lib.hid hown'
            clear hown' hgrow hb3
            go_wp2_with fail
            go_roundw
            case rel =>
              refine ⟨k + 1, by omega, by go_num, ?_, HB3⟩
              rw [HTK.out, show bump st true q inc = inc from HBP.out, ← flat_snoc]
              have hz3 := HO3.out
              rw [HZ.out] at hz3
              exact hz3
            case measure => simp [intOf] <;> omega
      · have hkc' : ¬ (k : Int) < (claims.length : Int) := by omega
        obtain rfl : inc = 0 := by rw [hincq]; unfold incAt; simp [show claims[k]? = none by simp; omega]
        clear hincq
        cases hhas : shas st q
        · rw [hhas] at hshr
          simp only [Bool.not_false] at hshr
          cases sure
          · have HBP : Hid (bump st false q 0 = 0 + 1) := by show bump st false q 0 = _; unfold bump; simp []
            have HHAS := Lib.hid hhas
            clear hhas
            go_wp2_with (at_builtin; refine wpList_append_own _ rfl _ _ 46 rfl w1.heap.size 51 i0 (.agg #[.int .i64 0, .int .u32 0]) 2 16 Tryd.underlying46 hi hz0 hz1 hz2 rfl (by decide) _ _ _ rfl (HO.out.alloc _) ⟨wr.heap.size, 0, none⟩ 1 1 [.int .i64 (q : Int), .int .u32 (1)] rfl rfl ?c1_8 ?c2_8 ?c3_8 ?c4_8 ?c5_8 ?_)
            try (case c1_8 => exact cells_new _ _ _ _ rfl rfl)
            case c2_8 => simp [Value.oneCell']
            case c3_8 => unfold maxLen; omega
            case c4_8 => omega
            case c5_8 => have := HB2.out.size; simp; omega
            intro v' w2 hown' hgrow _
            have hb3 : Below w1.heap.size w1 w2 := ((bal HB2.out _).grown hgrow (by have := HB2.out.size; simp; omega) (fun g hg => (HO.out.lt g hg).1))
            have HB3 := Lib.hid hb3
            have HO3 := Lib.hid hown'
            clear hown' hgrow hb3
            go_wp2_with fail
            go_roundw
            case rel =>
              refine ⟨k + 1, by omega, by go_num, ?_, HB3⟩
              rw [HTK.out, show bump st false q 0 = 0 + 1 from HBP.out, ← flat_snoc]
              have hz3 := HO3.out
              exact hz3
            case measure => simp [intOf] <;> omega
          · have HBP : Hid (bump st true q 0 = 0 + 1) := by show bump st true q 0 = _; unfold bump; simp [hhas]
            have HHAS := Lib.hid hhas
            clear hhas
            go_wp2_with (at_builtin; refine wpList_append_own _ rfl _ _ 46 rfl w1.heap.size 51 i0 (.agg #[.int .i64 0, .int .u32 0]) 2 16 Tryd.underlying46 hi hz0 hz1 hz2 rfl (by decide) _ _ _ rfl (HO.out.alloc _) ⟨wr.heap.size, 0, none⟩ 1 1 [.int .i64 (q : Int), .int .u32 (1)] rfl rfl ?c1_9 ?c2_9 ?c3_9 ?c4_9 ?c5_9 ?_)
            try (case c1_9 => exact cells_new _ _ _ _ rfl rfl)
            case c2_9 => simp [Value.oneCell']
            case c3_9 => unfold maxLen; omega
            case c4_9 => omega
            case c5_9 => have := HB2.out.size; simp; omega
            intro v' w2 hown' hgrow _
            have hb3 : Below w1.heap.size w1 w2 := ((bal HB2.out _).grown hgrow (by have := HB2.out.size; simp; omega) (fun g hg => (HO.out.lt g hg).1))
            have HB3 := Lib.hid hb3
            have HO3 := Lib.hid hown'
            clear hown' hgrow hb3
            go_wp2_with fail
            go_roundw
            case rel =>
              refine ⟨k + 1, by omega, by go_num, ?_, HB3⟩
              rw [HTK.out, show bump st true q 0 = 0 + 1 from HBP.out, ← flat_snoc]
              have hz3 := HO3.out
              exact hz3
            case measure => simp [intOf] <;> omega
        · rw [hhas] at hshr
          simp only [Bool.not_true] at hshr
          cases sure
          · have HBP : Hid (bump st false q 0 = 0 + 1) := by show bump st false q 0 = _; unfold bump; simp []
            have HHAS := Lib.hid hhas
            clear hhas
            go_wp2_with (at_builtin; refine wpList_append_own _ rfl _ _ 46 rfl w1.heap.size 51 i0 (.agg #[.int .i64 0, .int .u32 0]) 2 16 Tryd.underlying46 hi hz0 hz1 hz2 rfl (by decide) _ _ _ rfl (HO.out.alloc _) ⟨wr.heap.size, 0, none⟩ 1 1 [.int .i64 (q : Int), .int .u32 (1)] rfl rfl ?c1_10 ?c2_10 ?c3_10 ?c4_10 ?c5_10 ?_)
            try (case c1_10 => exact cells_new _ _ _ _ rfl rfl)
            case c2_10 => simp [Value.oneCell']
            case c3_10 => unfold maxLen; omega
            case c4_10 => omega
            case c5_10 => have := HB2.out.size; simp; omega
            intro v' w2 hown' hgrow _
            have hb3 : Below w1.heap.size w1 w2 := ((bal HB2.out _).grown hgrow (by have := HB2.out.size; simp; omega) (fun g hg => (HO.out.lt g hg).1))
            have HB3 := Lib.hid hb3
            have HO3 := Lib.hid hown'
            clear hown' hgrow hb3
            go_wp2_with fail
            go_roundw
            case rel =>
              refine ⟨k + 1, by omega, by go_num, ?_, HB3⟩
              rw [HTK.out, show bump st false q 0 = 0 + 1 from HBP.out, ← flat_snoc]
              have hz3 := HO3.out
              exact hz3
            case measure => simp [intOf] <;> omega
          · have HBP : Hid (bump st true q 0 = 0) := by show bump st true q 0 = _; unfold bump; simp [hhas]
            have HHAS := Lib.hid hhas
            clear hhas
            go_wp2_with (at_builtin; refine wpList_append_own _ rfl _ _ 46 rfl w1.heap.size 51 i0 (.agg #[.int .i64 0, .int .u32 0]) 2 16 Tryd.underlying46 hi hz0 hz1 hz2 rfl (by decide) _ _ _ rfl (HO.out.alloc _) ⟨wr.heap.size, 0, none⟩ 1 1 [.int .i64 (q : Int), .int .u32 (0)] rfl rfl ?c1_11 ?c2_11 ?c3_11 ?c4_11 ?c5_11 ?_)
            try (case c1_11 => exact cells_new _ _ _ _ rfl rfl)
            case c2_11 => simp [Value.oneCell']
            case c3_11 => unfold maxLen; omega
            case c4_11 => omega
            case c5_11 => have := HB2.out.size; simp; omega
            intro v' w2 hown' hgrow _
            have hb3 : Below w1.heap.size w1 w2 := ((bal HB2.out _).grown hgrow (by have := HB2.out.size; simp; omega) (fun g hg => (HO.out.lt g hg).1))
            have HB3 := Lib.hid hb3
            have HO3 := Lib.hid hown'
            clear hown' hgrow hb3
            go_wp2_with fail
            go_roundw
            case rel =>
              refine ⟨k + 1, by omega, by go_num, ?_, HB3⟩
              rw [HTK.out, show bump st true q 0 = 0 from HBP.out, ← flat_snoc]
              have hz3 := HO3.out
              exact hz3
            case measure => simp [intOf] <;> omega
    · obtain rfl : k = m := by omega
      clear hlt hk
      go_wp2_with fail
      go_ret
      refine ⟨_, rfl, btr HB1.out HB2.out, ?_⟩
      have e : snames n s claims sure = namesL st claims sure (l.take k) := by
        rw [List.take_of_length_le (by rw [← HM.out]; omega)]
        unfold snames
        rw [← HL.out, ← HST.out]
      rw [e, namesL_length, List.length_take, ← HM.out, Nat.min_self]
      exact own_lower HO.out HB1.out.size
theorem refNames_any {n s : Nat} (hs : S64 s) {v : Value} {claims : List Itm} {w : World} (hv : Items w v claims) (hm : claims.length ≤ 9223372036854775807) (hinc : ∀ k, incAt claims k < 4294967296) (sure : Bool) :
    Calls Tryd.prog 54 #[.int .u64 (n : Int), .int .u64 (s : Int), v, .bool sure] w fun e w' => ∃ u, e = .returned u ∧ Below w.heap.size w w' ∧ Names w' u (snames n s claims sure) :=
  (refNames_own hs hv hm hinc sure).mono fun e w' ⟨u, he, hb, ho⟩ => ⟨u, he, hb, Names.of_own ho rfl (names_ok hinc)⟩
end Go.Proofs.YtheeclmpkddgjaaDoor
