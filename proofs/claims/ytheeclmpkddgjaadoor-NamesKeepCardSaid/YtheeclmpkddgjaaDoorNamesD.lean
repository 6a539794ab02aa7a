import Derived.Test.YtheeclmpkddgjaaDoorNamesC
import Derived.Laws.ResultCell
namespace Go.Proofs.YtheeclmpkddgjaaDoor
set_option linter.unusedVariables false
set_option linter.unusedSimpArgs false
open Go.RowKit
theorem name_info : (Tryd.prog.info? 51).map (fun i => (i.zero, i.size, i.bytes)) = some (some (.agg #[.int .i64 0, .int .u32 0]), 2, 16) := by kernel_rfl
theorem name_size : (Tryd.prog.info? 51).map (·.size) = some 2 := by kernel_rfl
def bump (st : Nat) (sure : Bool) (p inc : Nat) : Nat := if (!sure || !shas st p) && decide (inc < 4294967295) then inc + 1 else inc
def incAt (claims : List Itm) (k : Nat) : Nat := match claims[k]? with
  | some x => x.inc
  | none => 0
def namesL (st : Nat) (claims : List Itm) (sure : Bool) (l : List Nat) : List Nm := l.zipIdx.map fun q => ⟨(q.1 : Int), bump st sure q.1 (incAt claims q.2)⟩
theorem namesL_take (st : Nat) (claims : List Itm) (sure : Bool) (l : List Nat) (k : Nat) (hk : k < l.length) :
    namesL st claims sure (l.take (k + 1)) = namesL st claims sure (l.take k) ++ [⟨(l[k] : Int), bump st sure l[k] (incAt claims k)⟩] := by
  unfold namesL
  rw [List.take_succ_eq_append_getElem hk, List.zipIdx_append, List.map_append, List.length_take, Nat.min_eq_left (by omega)]
  simp
theorem namesL_length (st : Nat) (claims : List Itm) (sure : Bool) (l : List Nat) : (namesL st claims sure l).length = l.length := by
  unfold namesL; simp
theorem bump_lt (st : Nat) (sure : Bool) (p inc : Nat) (h : inc < 4294967296) : bump st sure p inc < 4294967296 := by
  unfold bump
  split
  · rename_i h2
    simp at h2
    omega
  · exact h
theorem names_ok {st : Nat} {claims : List Itm} {sure : Bool} {l : List Nat} (h : ∀ k, incAt claims k < 4294967296) : ∀ x, x ∈ namesL st claims sure l → x.inc < 4294967296 := by
  intro x hx
  unfold namesL at hx
  obtain ⟨q, _, rfl⟩ := List.mem_map.1 hx
  exact bump_lt _ _ _ _ (h _)
def snames (n s : Nat) (claims : List Itm) (sure : Bool) : List Nm := namesL (sstay n s claims) claims sure (slist s)
theorem Names.of_own {w : World} {base : Nat} {v : Value} {n : Nat} {xs : List Nm} (h : w.ownsRow base 51 2 v n (xs.map nameCells).flatten) (hn : n = xs.length) (hx : ∀ x, x ∈ xs → x.inc < 4294967296) : Names w v xs := by
  refine Sl.of_flat h hn (fun i x hi => ⟨nameCells x, by rw [List.getElem?_map, hi]; rfl, rfl, hx x (List.mem_of_getElem? hi)⟩) (fun cs hc => ?_)
  obtain ⟨x, _, rfl⟩ := List.mem_map.1 hc
  rfl
theorem flat_snoc (xs : List Nm) (x : Nm) : (xs.map nameCells).flatten ++ nameCells x = ((xs ++ [x]).map nameCells).flatten := by simp
set_option maxRecDepth 20000 in
set_option maxHeartbeats 2000000 in
theorem names_own {n s : Nat} (hs : S64 s) {v : Value} {claims : List Itm} {w : World} (hT : Tab w) (hv : Items w v claims) (hm : claims.length ≤ 9223372036854775807) (hinc : ∀ k, incAt claims k < 4294967296) (sure : Bool) :
    Calls Tryd.prog 53 #[.int .u64 (n : Int), .int .u64 (s : Int), v, .bool sure] w fun e w' => ∃ u, e = .returned u ∧ Below w.heap.size w w' ∧ w'.ownsRow w.heap.size 51 2 u (snames n s claims sure).length ((snames n s claims sure).map nameCells).flatten := by
  obtain ⟨A, c, rfl, _⟩ := hv.slice
  have HT := Lib.hid hT
  have HV := Lib.hid hv
  have HINC := Lib.hid hinc
  obtain ⟨i0, hi, hz0, hz1, hz2⟩ := info_parts name_info
  obtain ⟨l, hl⟩ : ∃ l, l = slist s := ⟨_, rfl⟩
  have hlen : l.length ≤ 64 := by rw [hl]; exact slist_le s
  have HL := Lib.hid hl
  clear hT hv hl hinc
  obtain ⟨m, hm'⟩ : ∃ m, m = l.length := ⟨_, rfl⟩
  have hm64 : m ≤ 64 := by omega
  have HM := Lib.hid hm'
  clear hm' hlen
  obtain ⟨st, hst⟩ : ∃ st, st = sstay n s claims := ⟨_, rfl⟩
  have hst64 : S64 st := by rw [hst]; exact S64.stay _ _ _
  have HST := Lib.hid hst
  clear hst
  go_enter Tryd.func53, Tryd.ntmps53
  go_wp2_with fail
  refine (stay_any hs HT.out HV.out hm).mono ?_
  rintro e w0 ⟨rfl, hb0⟩
  rw [← HST.out]
  have HB0 := Lib.hid hb0
  clear hb0
  go_wp2_with fail
  refine (list_any hs (HT.out.below HB0.out)).mono ?_
  rintro e w1 ⟨vl, rfl, hb1, hvl⟩
  rw [← HL.out] at hvl
  have HB1 := Lib.hid (btr HB0.out hb1)
  obtain ⟨A1, c1, rfl, _⟩ := hvl.slice
  have HVL := Lib.hid hvl
  clear hb1 hvl
  rw [← HM.out]
  go_wp2_with fail
  go_loopw [9, 21] (fun u i wr => ∃ k : Nat, k ≤ m ∧ i = .int .i64 k ∧ Hid (wr.ownsRow w1.heap.size 51 2 u k ((namesL st claims sure (l.take k)).map nameCells).flatten) ∧ Hid (Below w1.heap.size w1 wr)) (fun _ i _ => m - (intOf i).toNat)
  case atStart => exact ⟨0, by omega, rfl, World.ownsRow_nil _ _ _ _, Below.refl _ _⟩
  case round =>
    obtain ⟨k, hk, rfl, HO, HB2⟩ := hrel
    by_cases hlt : k < m
    · have hlt2 : k < l.length := by rw [← HM.out]; exact hlt
      have hl2 := HVL.out.below (one_stays _) (by decide) HB2.out
      rw [← HM.out] at hl2
      obtain ⟨b, off, rfl, hcell⟩ := Nats.at hl2 k hlt2
      have htk := namesL_take st claims sure l k hlt2
      obtain ⟨q, hq⟩ : ∃ q, q = l[k] := ⟨_, rfl⟩
      rw [← hq] at hcell htk
      clear hq hl2 hlt2
      have HTK := Lib.hid htk
      clear htk
      have HBR := Lib.hid (btr HB1.out HB2.out)
      obtain ⟨inc, hincq⟩ : ∃ inc, inc = incAt claims k := ⟨_, rfl⟩
      rw [← hincq] at HTK
      by_cases hkc : k < claims.length
      · have hkc' : (k : Int) < (claims.length : Int) := by omega
        obtain ⟨b2, off2, cs, rfl, hK, hcl, hrange⟩ := Sl.at (HV.out.below HBR.out) k hkc
        have hix : incAt claims k = claims[k].inc := by unfold incAt; simp [hkc]
        have hic : wr.cell? ⟨b2, off2 + k * 18 + 2, none⟩ = some (.int .u32 (inc : Int)) := by
          rw [hincq, hix]
          obtain ⟨vv, rfl, _, _⟩ := hK
          exact hrange 2 _ rfl
        obtain ⟨z, hz⟩ : ∃ z : Int, z = (inc : Int) := ⟨_, rfl⟩
        rw [← hz] at hic
        have HZ := Lib.hid hz
        clear hz
        have hb2lt : b2 < wr.heap.size := World.block_lt_of_cell? wr _ hic
        have HIQ := Lib.hid hincq
        clear hK hcl hrange hix hincq hkc
        cases hsure : sure
        · subst hsure
          by_cases hmax : inc < 4294967295
          · have HBP : Hid (bump st false q inc = inc + 1) := by show bump st false q inc = _; unfold bump; simp [hmax]
            have hd1 : decide (z < 4294967295) = true := decide_eq_true (by have := HZ.out; omega)
            have hwr : IntKind.u32.wrap (z + 1) = z + 1 := by rw [IntKind.wrap_u32']; have := HZ.out; omega
            clear hmax
            go_wp2_with (at_builtin; refine wpList_append_own _ rfl _ _ 46 rfl w1.heap.size 51 i0 (.agg #[.int .i64 0, .int .u32 0]) 2 16 Tryd.underlying46 hi hz0 hz1 hz2 rfl (by decide) _ _ _ rfl ((HO.out.alloc _).alloc _) ⟨wr.heap.size + 1, 0, none⟩ 1 1 [.int .i64 (q : Int), .int .u32 (z + 1)] rfl rfl ?c1_1 ?c2_1 ?c3_1 ?c4_1 ?c5_1 ?_)
            try (case c1_1 => exact cells_new _ _ _ _ (by simp) rfl)
            case c2_1 => simp [Value.oneCell']
            case c3_1 => unfold maxLen; omega
            case c4_1 => omega
            case c5_1 => have := HB2.out.size; simp; omega
            intro v' w2 hown' hgrow _
            have hb3 : Below w1.heap.size w1 w2 := ((bal (bal HB2.out _) _).grown hgrow (by have := HB2.out.size; simp; omega) (fun g hg => (HO.out.lt g hg).1))
            have HB3 := Lib.hid hb3
            have HO3 := Lib.hid hown'
            clear hown' hgrow hb3
            go_wp2_with fail
            go_roundw
            case rel =>
              refine ⟨k + 1, by omega, by go_num, ?_, HB3⟩
              rw [HTK.out, show bump st false q inc = inc + 1 from HBP.out, ← flat_snoc]
              have hz3 := HO3.out
              rw [HZ.out] at hz3
              exact hz3
            case measure => simp [intOf] <;> omega
          · have HBP : Hid (bump st false q inc = inc) := by show bump st false q inc = _; unfold bump; simp [hmax]
            have hd1 : decide (z < 4294967295) = false := decide_eq_false (by have := HZ.out; omega)
            clear hmax
            go_wp2_with (at_builtin; refine wpList_append_own _ rfl _ _ 46 rfl w1.heap.size 51 i0 (.agg #[.int .i64 0, .int .u32 0]) 2 16 Tryd.underlying46 hi hz0 hz1 hz2 rfl (by decide) _ _ _ rfl ((HO.out.alloc _).alloc _) ⟨wr.heap.size + 1, 0, none⟩ 1 1 [.int .i64 (q : Int), .int .u32 (z)] rfl rfl ?c1_2 ?c2_2 ?c3_2 ?c4_2 ?c5_2 ?_)
            try (case c1_2 => exact cells_new _ _ _ _ (by simp) rfl)
            case c2_2 => simp [Value.oneCell']
            case c3_2 => unfold maxLen; omega
            case c4_2 => omega
            case c5_2 => have := HB2.out.size; simp; omega
            intro v' w2 hown' hgrow _
            have hb3 : Below w1.heap.size w1 w2 := ((bal (bal HB2.out _) _).grown hgrow (by have := HB2.out.size; simp; omega) (fun g hg => (HO.out.lt g hg).1))
            have HB3 := Lib.hid hb3
            have HO3 := Lib.hid hown'
            clear hown' hgrow hb3
            go_wp2_with fail
            go_roundw
            case rel =>
              refine ⟨k + 1, by omega, by go_num, ?_, HB3⟩
              rw [HTK.out, show bump st false q inc = inc from HBP.out, ← flat_snoc]
              have hz3 := HO3.out
              rw [HZ.out] at hz3
              exact hz3
            case measure => simp [intOf] <;> omega
        · subst hsure
          cases hhas : shas st q
          · by_cases hmax : inc < 4294967295
            · have HBP : Hid (bump st true q inc = inc + 1) := by show bump st true q inc = _; unfold bump; simp [hmax, hhas]
              have hd1 : decide (z < 4294967295) = true := decide_eq_true (by have := HZ.out; omega)
              have hwr : IntKind.u32.wrap (z + 1) = z + 1 := by rw [IntKind.wrap_u32']; have := HZ.out; omega
              clear hmax
              have HHAS := Lib.hid hhas
              clear hhas
              go_wp2_with fail
              refine (has_eq hst64 HHAS.out _).mono ?_
              rintro e w2 ⟨rfl, rfl⟩
              go_wp2_with (at_builtin; refine wpList_append_own _ rfl _ _ 46 rfl w1.heap.size 51 i0 (.agg #[.int .i64 0, .int .u32 0]) 2 16 Tryd.underlying46 hi hz0 hz1 hz2 rfl (by decide) _ _ _ rfl ((HO.out.alloc _).alloc _) ⟨wr.heap.size + 1, 0, none⟩ 1 1 [.int .i64 (q : Int), .int .u32 (z + 1)] rfl rfl ?c1_3 ?c2_3 ?c3_3 ?c4_3 ?c5_3 ?_)
              try (case c1_3 => exact cells_new _ _ _ _ (by simp) rfl)
              case c2_3 => simp [Value.oneCell']
              case c3_3 => unfold maxLen; omega
              case c4_3 => omega
              case c5_3 => have := HB2.out.size; simp; omega
              intro v' w2 hown' hgrow _
              have hb3 : Below w1.heap.size w1 w2 := ((bal (bal HB2.out _) _).grown hgrow (by have := HB2.out.size; simp; omega) (fun g hg => (HO.out.lt g hg).1))
              have HB3 := Lib.hid hb3
              have HO3 := Lib.hid hown'
              clear hown' hgrow hb3
              go_wp2_with fail
              go_roundw
              case rel =>
                refine ⟨k + 1, by omega, by go_num, ?_, HB3⟩
                rw [HTK.out, show bump st true q inc = inc + 1 from HBP.out, ← flat_snoc]
                have hz3 := HO3.out
                rw [HZ.out] at hz3
                exact hz3
              case measure => simp [intOf] <;> omega
            · have HBP : Hid (bump st true q inc = inc) := by show bump st true q inc = _; unfold bump; simp [hmax, hhas]
              have hd1 : decide (z < 4294967295) = false := decide_eq_false (by have := HZ.out; omega)
              clear hmax
              have HHAS := Lib.hid hhas
              clear hhas
              go_wp2_with fail
              refine (has_eq hst64 HHAS.out _).mono ?_
              rintro e w2 ⟨rfl, rfl⟩
              go_wp2_with (at_builtin; refine wpList_append_own _ rfl _ _ 46 rfl w1.heap.size 51 i0 (.agg #[.int .i64 0, .int .u32 0]) 2 16 Tryd.underlying46 hi hz0 hz1 hz2 rfl (by decide) _ _ _ rfl ((HO.out.alloc _).alloc _) ⟨wr.heap.size + 1, 0, none⟩ 1 1 [.int .i64 (q : Int), .int .u32 (z)] rfl rfl ?c1_4 ?c2_4 ?c3_4 ?c4_4 ?c5_4 ?_)
              try (case c1_4 => exact cells_new _ _ _ _ (by simp) rfl)
              case c2_4 => simp [Value.oneCell']
              case c3_4 => unfold maxLen; omega
              case c4_4 => omega
              case c5_4 => have := HB2.out.size; simp; omega
              intro v' w2 hown' hgrow _
              have hb3 : Below w1.heap.size w1 w2 := ((bal (bal HB2.out _) _).grown hgrow (by have := HB2.out.size; simp; omega) (fun g hg => (HO.out.lt g hg).1))
              have HB3 := Lib.hid hb3
              have HO3 := Lib.hid hown'
              clear hown' hgrow hb3
              go_wp2_with fail
              go_roundw
              case rel =>
                refine ⟨k + 1, by omega, by go_num, ?_, HB3⟩
                rw [HTK.out, show bump st true q inc = inc from HBP.out, ← flat_snoc]
                have hz3 := HO3.out
                rw [HZ.out] at hz3
                exact hz3
              case measure => simp [intOf] <;> omega
          · have HBP : Hid (bump st true q inc = inc) := by show bump st true q inc = _; unfold bump; simp [hhas]
            have HHAS := Lib.hid hhas
            clear hhas
            go_wp2_with fail
            refine (has_eq hst64 HHAS.out _).mono ?_
            rintro e w2 ⟨rfl, rfl⟩
            go_wp2_with (at_builtin; refine wpList_append_own _ rfl _ _ 46 rfl w1.heap.size 51 i0 (.agg #[.int .i64 0, .int .u32 0]) 2 16 Tryd.underlying46 hi hz0 hz1 hz2 rfl (by decide) _ _ _ rfl ((HO.out.alloc _).alloc _) ⟨wr.heap.size + 1, 0, none⟩ 1 1 [.int .i64 (q : Int), .int .u32 (z)] rfl rfl ?c1_5 ?c2_5 ?c3_5 ?c4_5 ?c5_5 ?_)
            try (case c1_5 => exact cells_new _ _ _ _ (by simp) rfl)
            case c2_5 => simp [Value.oneCell']
            case c3_5 => unfold maxLen; omega
            case c4_5 => omega
            case c5_5 => have := HB2.out.size; simp; omega
            intro v' w2 hown' hgrow _
            have hb3 : Below w1.heap.size w1 w2 := ((bal (bal HB2.out _) _).grown hgrow (by have := HB2.out.size; simp; omega) (fun g hg => (HO.out.lt g hg).1))
            have HB3 := Lib.hid hb3
            have HO3 := Lib.hid hown'
            clear hown' hgrow hb3
            go_wp2_with fail
            go_roundw
            case rel =>
              refine ⟨k + 1, by omega, by go_num, ?_, HB3⟩
              rw [HTK.out, show bump st true q inc = inc from HBP.out, ← flat_snoc]
              have hz3 := HO3.out
              rw [HZ.out] at hz3
              exact hz3
            case measure => simp [intOf] <;> omega
      · have hkc' : ¬ (k : Int) < (claims.length : Int) := by omega
        obtain rfl : inc = 0 := by rw [hincq]; unfold incAt; simp [show claims[k]? = none by simp; omega]
        clear hincq
        cases hsure : sure
        · subst hsure
          have hmax : (0 : Nat) < 4294967295 := by decide
          have HBP : Hid (bump st false q 0 = 0 + 1) := by show bump st false q 0 = _; unfold bump; simp [hmax]
          clear hmax
          go_wp2_with (at_builtin; refine wpList_append_own _ rfl _ _ 46 rfl w1.heap.size 51 i0 (.agg #[.int .i64 0, .int .u32 0]) 2 16 Tryd.underlying46 hi hz0 hz1 hz2 rfl (by decide) _ _ _ rfl ((HO.out.alloc _).alloc _) ⟨wr.heap.size + 1, 0, none⟩ 1 1 [.int .i64 (q : Int), .int .u32 (1)] rfl rfl ?c1_6 ?c2_6 ?c3_6 ?c4_6 ?c5_6 ?_)
          try (case c1_6 => exact cells_new _ _ _ _ (by simp) rfl)
          case c2_6 => simp [Value.oneCell']
          case c3_6 => unfold maxLen; omega
          case c4_6 => omega
          case c5_6 => have := HB2.out.size; simp; omega
          intro v' w2 hown' hgrow _
          have hb3 : Below w1.heap.size w1 w2 := ((bal (bal HB2.out _) _).grown hgrow (by have := HB2.out.size; simp; omega) (fun g hg => (HO.out.lt g hg).1))
          have HB3 := Lib.hid hb3
          have HO3 := Lib.hid hown'
          clear hown' hgrow hb3
          go_wp2_with fail
          go_roundw
          case rel =>
            refine ⟨k + 1, by omega, by go_num, ?_, HB3⟩
            rw [HTK.out, show bump st false q 0 = 0 + 1 from HBP.out, ← flat_snoc]
            have hz3 := HO3.out
            exact hz3
          case measure => simp [intOf] <;> omega
        · subst hsure
          cases hhas : shas st q
          · have hmax : (0 : Nat) < 4294967295 := by decide
            have HBP : Hid (bump st true q 0 = 0 + 1) := by show bump st true q 0 = _; unfold bump; simp [hmax, hhas]
            clear hmax
            have HHAS := Lib.hid hhas
            clear hhas
            go_wp2_with fail
            refine (has_eq hst64 HHAS.out _).mono ?_
            rintro e w2 ⟨rfl, rfl⟩
            go_wp2_with (at_builtin; refine wpList_append_own _ rfl _ _ 46 rfl w1.heap.size 51 i0 (.agg #[.int .i64 0, .int .u32 0]) 2 16 Tryd.underlying46 hi hz0 hz1 hz2 rfl (by decide) _ _ _ rfl ((HO.out.alloc _).alloc _) ⟨wr.heap.size + 1, 0, none⟩ 1 1 [.int .i64 (q : Int), .int .u32 (1)] rfl rfl ?c1_7 ?c2_7 ?c3_7 ?c4_7 ?c5_7 ?_)
            try (case c1_7 => exact cells_new _ _ _ _ (by simp) rfl)
            case c2_7 => simp [Value.oneCell']
            case c3_7 => unfold maxLen; omega
            case c4_7 => omega
            case c5_7 => have := HB2.out.size; simp; omega
            intro v' w2 hown' hgrow _
            have hb3 : Below w1.heap.size w1 w2 := ((bal (bal HB2.out _) _).grown hgrow (by have := HB2.out.size; simp; omega) (fun g hg => (HO.out.lt g hg).1))
            have HB3 := Lib.hid hb3
            have HO3 := Lib.hid hown'
            clear hown' hgrow hb3
            go_wp2_with fail
            go_roundw
            case rel =>
              refine ⟨k + 1, by omega, by go_num, ?_, HB3⟩
              rw [HTK.out, show bump st true q 0 = 0 + 1 from HBP.out, ← flat_snoc]
              have hz3 := HO3.out
              exact hz3
            case measure => simp [intOf] <;> omega
          · have HBP : Hid (bump st true q 0 = 0) := by show bump st true q 0 = _; unfold bump; simp [hhas]
            have HHAS := Lib.hid hhas
            clear hhas
            go_wp2_with fail
            refine (has_eq hst64 HHAS.out _).mono ?_
            rintro e w2 ⟨rfl, rfl⟩
            go_wp2_with (at_builtin; refine wpList_append_own _ rfl _ _ 46 rfl w1.heap.size 51 i0 (.agg #[.int .i64 0, .int .u32 0]) 2 16 Tryd.underlying46 hi hz0 hz1 hz2 rfl (by decide) _ _ _ rfl ((HO.out.alloc _).alloc _) ⟨wr.heap.size + 1, 0, none⟩ 1 1 [.int .i64 (q : Int), .int .u32 (0)] rfl rfl ?c1_8 ?c2_8 ?c3_8 ?c4_8 ?c5_8 ?_)
            try (case c1_8 => exact cells_new _ _ _ _ (by simp) rfl)
            case c2_8 => simp [Value.oneCell']
            case c3_8 => unfold maxLen; omega
            case c4_8 => omega
            case c5_8 => have := HB2.out.size; simp; omega
            intro v' w2 hown' hgrow _
            have hb3 : Below w1.heap.size w1 w2 := ((bal (bal HB2.out _) _).grown hgrow (by have := HB2.out.size; simp; omega) (fun g hg => (HO.out.lt g hg).1))
            have HB3 := Lib.hid hb3
            have HO3 := Lib.hid hown'
            clear hown' hgrow hb3
            go_wp2_with fail
            go_roundw
            case rel =>
              refine ⟨k + 1, by omega, by go_num, ?_, HB3⟩
              rw [HTK.out, show bump st true q 0 = 0 from HBP.out, ← flat_snoc]
              have hz3 := HO3.out
              exact hz3
            case measure => simp [intOf] <;> omega
    · obtain rfl : k = m := by omega
      clear hlt hk
      go_wp2_with fail
      go_ret
      refine ⟨_, rfl, btr HB1.out HB2.out, ?_⟩
      have e : snames n s claims sure = namesL st claims sure (l.take k) := by
        rw [List.take_of_length_le (by rw [← HM.out]; omega)]
        unfold snames
        rw [← HL.out, ← HST.out]
      rw [e, namesL_length, List.length_take, ← HM.out, Nat.min_self]
      exact own_lower HO.out HB1.out.size
theorem names_any {n s : Nat} (hs : S64 s) {v : Value} {claims : List Itm} {w : World} (hT : Tab w) (hv : Items w v claims) (hm : claims.length ≤ 9223372036854775807) (hinc : ∀ k, incAt claims k < 4294967296) (sure : Bool) :
    Calls Tryd.prog 53 #[.int .u64 (n : Int), .int .u64 (s : Int), v, .bool sure] w fun e w' => ∃ u, e = .returned u ∧ Below w.heap.size w w' ∧ Names w' u (snames n s claims sure) :=
  (names_own hs hT hv hm hinc sure).mono fun e w' ⟨u, he, hb, ho⟩ => ⟨u, he, hb, Names.of_own ho rfl (names_ok hinc)⟩
end Go.Proofs.YtheeclmpkddgjaaDoor
