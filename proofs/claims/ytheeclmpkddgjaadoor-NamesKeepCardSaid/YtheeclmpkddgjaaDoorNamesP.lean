import Derived.Test.YtheeclmpkddgjaaDoorNamesN
import Derived.Test.YtheeclmpkddgjaaDoorNamesO
import Derived.Deep.CutRange
import Derived.Deep.DeepCutAuto
namespace Go.Proofs.YtheeclmpkddgjaaDoor
set_option linter.unusedVariables false
set_option linter.unusedSimpArgs false
open Go.RowKit
def xAt (claims : List Itm) (k : Nat) : Itm := (claims[k]?).getD (bareI 0 0 false false)
theorem incAt_x (claims : List Itm) (k : Nat) : incAt claims k = (xAt claims k).inc := by
  unfold incAt xAt
  cases claims[k]? <;> rfl
def zcells : Array Value := #[Value.int IntKind.i64 0, Value.string { data := #[] }, Value.int IntKind.u32 0, Value.int IntKind.u64 0, Value.bool false, Value.bool false, Value.int IntKind.u64 0, Value.int IntKind.u64 0, Value.int IntKind.i64 0, Value.int IntKind.u64 0, Value.slice none 0 0, Value.int IntKind.u64 0, Value.int IntKind.u64 0, Value.int IntKind.i64 0, Value.int IntKind.u64 0, Value.int IntKind.u64 0, Value.int IntKind.i64 0, Value.int IntKind.i64 0]
theorem zflags : Flags zcells (bareI 0 0 false false) := ⟨rfl, rfl, rfl, rfl, rfl⟩
/-- what is known of a member's claim -/
structure Kept (x : Itm) (n st q : Nat) : Prop where
  has : shas st (q : Int) = true → x.has = true ∧ x.holds = n ∧ (1 < ssize st → x.direct = true)
  holds : x.has = true → x.holds = n → (x.direct = true → shas st (q : Int) = true) ∧ st ≠ 0
theorem kept (n s : Nat) (claims : List Itm) (k : Nat) (hk : k < (slist s).length) : Kept (xAt claims k) n (sstay n s claims) (slist s)[k] := by
  refine ⟨fun h => ?_, fun h1 h2 => ?_⟩
  · obtain ⟨x, hx, hh, hd⟩ := stay_member hk h
    have e : xAt claims k = x := by unfold xAt; rw [hx]; rfl
    rw [e]
    unfold ihold at hh
    rw [Bool.and_eq_true, beq_iff_eq] at hh
    exact ⟨hh.1, hh.2, hd⟩
  · cases hx : claims[k]? with
    | none =>
      have e : xAt claims k = bareI 0 0 false false := by unfold xAt; rw [hx]; rfl
      rw [e] at h1
      cases h1
    | some x =>
      have e : xAt claims k = x := by unfold xAt; rw [hx]; rfl
      rw [e] at h1 h2 ⊢
      exact stay_claim hk hx (by unfold ihold; rw [h1, h2]; simp)
/-- the cells that a round reads -/
structure Here (w : World) (b off b1 off1 b0 off0 g k q j1 j0 : Nat) (x : Itm) : Prop where
  hq : w.cell? ⟨b, off + k, none⟩ = some (.int .i64 (q : Int))
  p1 : w.cell? ⟨b1, off1 + k * 2, none⟩ = some (.int .i64 (q : Int))
  i1 : w.cell? ⟨b1, off1 + k * 2 + 1, none⟩ = some (.int .u32 (j1 : Int))
  p0 : w.cell? ⟨b0, off0 + k * 2, none⟩ = some (.int .i64 (q : Int))
  i0 : w.cell? ⟨b0, off0 + k * 2 + 1, none⟩ = some (.int .u32 (j0 : Int))
  f3 : w.cell? ⟨g, 3, none⟩ = some (.int .u64 (x.holds : Int))
  f4 : w.cell? ⟨g, 4, none⟩ = some (.bool x.has)
  f5 : w.cell? ⟨g, 5, none⟩ = some (.bool x.direct)
theorem Here.drewN {w : World} {b off b1 off1 b0 off0 g k q j1 j0 : Nat} {x : Itm} (h : Here w b off b1 off1 b0 off0 g k q j1 j0 x) (d : Nat) : Here (w.drewN d) b off b1 off1 b0 off0 g k q j1 j0 x :=
  ⟨h.hq, h.p1, h.i1, h.p0, h.i0, h.f3, h.f4, h.f5⟩
theorem bump_has {st q i : Nat} (h : shas st (q : Int) = true) : bump st true q i = i := by unfold bump; simp [h]
theorem bump_up {st q i : Nat} (h : shas st (q : Int) = false) (hi : i < 4294967295) : bump st true q i = i + 1 := by unfold bump; simp [h, hi]
theorem bump_top {st q i : Nat} (hi : ¬ i < 4294967295) : bump st true q i = i := by unfold bump; simp [hi]
theorem bump_new {st q i : Nat} (hi : i < 4294967295) : bump st false q i = i + 1 := by unfold bump; simp [hi]
set_option maxRecDepth 100000 in
set_option maxHeartbeats 8000000 in
theorem namesKeep_law {n s : Nat} (hn : S64 n) (hs : S64 s) {v : Value} {claims : List Itm} {w : World} (hT : Tab w) (hv : Items w v claims) :
    Calls Tryd.prog 11 #[.int .u64 (n : Int), .int .u64 (s : Int), v] w fun e w' => e = .returned (.bool true) ∧ Below w.heap.size w w' := by
  obtain ⟨A, c, rfl, _⟩ := hv.slice
  have HT := Lib.hid hT
  have HV := Lib.hid hv
  have HINC := Lib.hid hv.inc
  clear hT hv
  go_enter Tryd.func11, Tryd.ntmps11
  go_wp2_with fail
  refine (awake21 HT.out).mono ?_
  rintro e w1 ⟨rfl, hb1⟩
  have HB1 := Lib.hid hb1
  clear hb1
  by_cases hc1 : claims.length > 200
  · have h1 : decide (200 < (claims.length : Int)) = true := decide_eq_true (by omega)
    clear hc1
    go_wp2_with fail
    go_ret
    exact ⟨rfl, HB1.out⟩
  have hcl : claims.length ≤ 9223372036854775807 := by omega
  have h1 : decide (200 < (claims.length : Int)) = false := decide_eq_false (by omega)
  have HCL := Lib.hid hcl
  clear hc1 hcl
  obtain ⟨st, hst⟩ : ∃ st, st = sstay n s claims := ⟨_, rfl⟩
  have hst64 : S64 st := by rw [hst]; exact S64.stay _ _ _
  have hin : sin st s = true := by rw [hst]; exact stay_in hs claims
  have HST := Lib.hid hst
  have HS64 := Lib.hid hst64
  have HIN := Lib.hid hin
  clear hst hst64 hin
  obtain ⟨m, hm⟩ : ∃ m, m = (slist s).length := ⟨_, rfl⟩
  have hl1 : (snames n s claims true).length = m := by rw [hm]; exact namesL_length _ _ _ _
  have hl0 : (snames n s claims false).length = m := by rw [hm]; exact namesL_length _ _ _ _
  have hm64 : m ≤ 64 := by rw [hm]; exact slist_le s
  have HM := Lib.hid hm
  have HL1 := Lib.hid hl1
  have HL0 := Lib.hid hl0
  clear hm hl1 hl0
  go_wp2_with fail
  refine (stay_num hs (HT.out.below HB1.out) (HV.out.below HB1.out) HCL.out (n := n) rfl rfl (m := (st : Int)) (by rw [HST.out])).mono ?_
  rintro e w2 ⟨rfl, hb2⟩
  have HB2 := Lib.hid (btr HB1.out hb2)
  clear hb2
  go_wp2_with fail
  refine (names_any hs (HT.out.below HB2.out) (HV.out.below HB2.out) HCL.out HINC.out true).mono ?_
  rintro e w3 ⟨u3, rfl, hb3, hu3⟩
  obtain ⟨A3, c3, rfl, _⟩ := hu3.slice
  rw [HL1.out] at hu3 ⊢
  have HB3 := Lib.hid (btr HB2.out hb3)
  have HN3 := Lib.hid hu3
  clear hb3 hu3
  go_wp2_with fail
  refine (names_any hs (HT.out.below HB3.out) (HV.out.below HB3.out) HCL.out HINC.out false).mono ?_
  rintro e w4 ⟨u4, rfl, hb4, hu4⟩
  obtain ⟨A4, c4, rfl, _⟩ := hu4.slice
  rw [HL0.out] at hu4 ⊢
  have HB4 := Lib.hid (btr HB3.out hb4)
  have HN4 := Lib.hid (HN3.out.below hb4)
  have HO4 := Lib.hid hu4
  clear hb4 hu4
  go_wp2_with fail
  refine (list_any hs (HT.out.below HB4.out)).mono ?_
  rintro e w5 ⟨u5, rfl, hb5, hu5⟩
  obtain ⟨A5, c5, rfl, _⟩ := hu5.slice
  rw [← HM.out] at hu5 ⊢
  have HB5 := Lib.hid (btr HB4.out hb5)
  have HN5 := Lib.hid (HN4.out.below hb5)
  have HO5 := Lib.hid (HO4.out.below hb5)
  have HQ5 := Lib.hid hu5
  clear hb5 hu5
  go_wp2_with fail
  refine (in_eq HS64.out hs HIN.out _).mono ?_
  rintro e w' ⟨rfl, rfl⟩
  obtain ⟨j, hj⟩ : ∃ j, j = sbut s st := ⟨_, rfl⟩
  have HJ64 : Hid (S64 j) := by show S64 j; rw [hj]; exact hs.but
  have HJA : Hid (sany j st = s) := by show _ = _; rw [hj]; exact but_join hs HS64.out HIN.out
  have HJB : Hid (sboth j st = 0) := by show _ = _; rw [hj]; exact but_both hs HS64.out
  have HJ := Lib.hid hj
  clear hj
  go_wp2_with fail
  refine (joins_num hs (HT.out.below HB5.out) (HV.out.below HB5.out) HCL.out (n := n) rfl rfl (m := (j : Int)) (by rw [← HST.out, HJ.out])).mono ?_
  rintro e w6 ⟨rfl, hb6⟩
  have HB6 := Lib.hid (btr HB5.out hb6)
  have HN6 := Lib.hid (HN5.out.below hb6)
  have HO6 := Lib.hid (HO5.out.below hb6)
  have HQ6 := Lib.hid (HQ5.out.below (one_stays _) (by decide) hb6)
  clear hb6
  go_wp2_with fail
  refine (any_eq HJ64.out HS64.out HJA.out _).mono ?_
  rintro e w' ⟨rfl, rfl⟩
  go_wp2_with fail
  refine (joins_num hs (HT.out.below HB6.out) (HV.out.below HB6.out) HCL.out (n := n) rfl rfl (m := (j : Int)) (by rw [← HST.out, HJ.out])).mono ?_
  rintro e w7 ⟨rfl, hb7⟩
  have HB7 := Lib.hid (btr HB6.out hb7)
  have HN7 := Lib.hid (HN6.out.below hb7)
  have HO7 := Lib.hid (HO6.out.below hb7)
  have HQ7 := Lib.hid (HQ6.out.below (one_stays _) (by decide) hb7)
  clear hb7
  go_wp2_with fail
  refine (both_eq HJ64.out HS64.out HJB.out _).mono ?_
  rintro e w' ⟨rfl, rfl⟩
  go_wp2_with fail
  go_loopw [12] (fun i wr => ∃ k : Nat, k ≤ m ∧ i = .int .i64 k ∧ Hid (Below w7.heap.size w7 wr)) (fun i _ => m - (intOf i).toNat)
  case atStart => exact ⟨0, by omega, rfl, Below.refl _ _⟩
  case round =>
    obtain ⟨k, hk, rfl, HB⟩ := hrel
    by_cases hlt : k < m
    · have hlt2 : k < (slist s).length := by rw [← HM.out]; exact hlt
      have hkept := kept n s claims k hlt2
      rw [← HST.out] at hkept
      have hq7 := HQ7.out.below (one_stays _) (by decide) HB.out
      have hn7 := HN7.out.below HB.out
      have ho7 := HO7.out.below HB.out
      obtain ⟨b, off, rfl, hqc⟩ := Nats.at hq7 k hlt2
      have hq64 : (slist s)[k] < 64 := (mem_slist.1 (List.getElem_mem hlt2)).1
      have hname : ofName (snames n s claims true) ((slist s)[k] : Nat) = (⟨((slist s)[k] : Int), bump st true (slist s)[k] (incAt claims k)⟩, true) := by
        unfold snames; rw [← HST.out]; exact ofName_names (slist_rises s) hlt2
      have g1 : (snames n s claims true)[k]'(by rw [HL1.out]; exact hlt) = ⟨((slist s)[k] : Int), bump st true (slist s)[k] (incAt claims k)⟩ := by
        unfold snames; rw [HST.out]; exact namesL_get hlt2
      have g0 : (snames n s claims false)[k]'(by rw [HL0.out]; exact hlt) = ⟨((slist s)[k] : Int), bump st false (slist s)[k] (incAt claims k)⟩ := by
        unfold snames; rw [HST.out]; exact namesL_get hlt2
      obtain ⟨b1, off1, rfl, hp1, hi1, hb1⟩ := Names.cells hn7 k (by rw [HL1.out]; exact hlt)
      obtain ⟨b0, off0, rfl, hp0, hi0, hb0⟩ := Names.cells ho7 k (by rw [HL0.out]; exact hlt)
      rw [g1] at hp1 hi1
      rw [g0] at hp0 hi0
      rw [incAt_x] at hname hi1 hi0
      have hxinc : (xAt claims k).inc < 4294967296 := by rw [← incAt_x]; exact HINC.out k
      have hxc : ∀ x, claims[k]? = some x → xAt claims k = x := fun x h => by unfold xAt; rw [h]; rfl
      have hxn : claims[k]? = none → xAt claims k = bareI 0 0 false false := fun h => by unfold xAt; rw [h]; rfl
      clear g1 g0 hq7 hn7 ho7
      generalize (slist s)[k] = q at *
      generalize xAt claims k = x at *
      clear hlt2
      have HKEPT := Lib.hid hkept
      have HNAME := Lib.hid hname
      have HXC := Lib.hid hxc
      have HXN := Lib.hid hxn
      have HXI := Lib.hid hxinc
      have HQ64 := Lib.hid hq64
      have HB1' := Lib.hid hb1
      have hbb : b < wr.heap.size := World.block_lt_of_cell? wr _ hqc
      clear hkept hname hxc hxn hxinc hq64
      go_upto_if 83 with fail
      have HRR : Hid (Below wr.heap.size wr wr) := Below.refl _ _
      go_cut [13] from 74 to 235 (fun a wx => ∃ cs, a = .int .u32 (x.inc : Int) ∧ Hid (Blk wx wr.heap.size 68 cs) ∧ Hid (Flags cs x) ∧ Hid (Below wr.heap.size wr wx))
      case first =>
        as_aux_lemma =>
          by_cases hkc : k < claims.length
          · obtain ⟨b2, off2, cs, rfl, hK, hcl, hrange⟩ := Sl.at (HV.out.below (bal (btr HB7.out HB.out) (.cells zcells 68))) k hkc
            have hx := HXC.out claims[k] (by simp [hkc])
            rw [← hx] at hK
            have HF := Lib.hid (Flags.of hK)
            have HK1 := Lib.hid (item_one hK).2
            have HRG := Lib.hid hrange
            have HCS := Lib.hid hcl
            have hB : Blk ((wr.alloc (.cells zcells 68)).setRow wr.heap.size cs.toArray) wr.heap.size 68 cs.toArray := (Blk.new wr 68 zcells rfl).row _
            have HBK := Lib.hid hB
            have hic : ((wr.alloc (.cells zcells 68)).setRow wr.heap.size cs.toArray).cell? ⟨wr.heap.size, 2, none⟩ = some (.int .u32 (x.inc : Int)) := (hB.cell 2).trans HF.out.inc
            have HBW : Hid (Below wr.heap.size wr ((wr.alloc (.cells zcells 68)).setRow wr.heap.size cs.toArray)) := bsetRow (bal (Below.refl _ _) _) (Nat.le_refl _) _
            have hkc' : (k : Int) < (claims.length : Int) := by omega
            clear hK hrange hcl hx hB hkc
            unfold zcells at hic
            go_wp2_with (first | (refine wpList_load_mid_g rfl 68 _ rfl b2 (off2 + k * 18) rfl cs _ HRG.out Tryd.underlying68 rfl (by rw [HCS.out]; exact item_info) ?_) | (refine wpList_store_row rfl 68 _ _ rfl wr.heap.size rfl 68 zcells cs.toArray rfl (Blk.new _ _ _ rfl) (by rw [show cs.toArray.size = 18 from HF.out.size]; exact item_info) (by rw [show cs.toArray.size = 18 from HF.out.size]; rfl) (by rw [Array.all_eq_true_iff_forall_mem]; exact fun u hu => HK1.out u (by simpa using hu)) ?_))
            go_meet
            exact ⟨_, rfl, HBK, HF, HBW⟩
          · have hx := HXN.out (by rw [List.getElem?_eq_none]; omega)
            subst hx
            have hkc' : ¬ (k : Int) < (claims.length : Int) := by omega
            clear hkc
            go_wp2_with fail
            go_meet
            exact ⟨zcells, rfl, Blk.new _ _ _ rfl, zflags, bal (Below.refl _ _) _⟩
      case rest =>
        obtain ⟨cs, rfl, HBK, HF, HBX⟩ := hcut
        have HBz := Lib.hid (btr HB.out HBX.out)
        have hbw : b < wc.heap.size := Nat.lt_of_lt_of_le hbb HBX.out.size
        have hb1w : b1 < wc.heap.size := Nat.lt_of_lt_of_le hb1 HBX.out.size
        have hb0w : b0 < wc.heap.size := Nat.lt_of_lt_of_le hb0 HBX.out.size
        have hqc' : wc.cell? ⟨b, off + k, none⟩ = some (.int .i64 (q : Int)) := (HBX.out.cell (p := ⟨b, _, none⟩) hbb).trans hqc
        have hp1' : wc.cell? ⟨b1, off1 + k * 2, none⟩ = some (.int .i64 (q : Int)) := (HBX.out.cell (p := ⟨b1, _, none⟩) hb1).trans hp1
        have hi1' : wc.cell? ⟨b1, off1 + k * 2 + 1, none⟩ = some (.int .u32 ((bump st true q x.inc : Nat) : Int)) := (HBX.out.cell (p := ⟨b1, _, none⟩) hb1).trans hi1
        have hp0' : wc.cell? ⟨b0, off0 + k * 2, none⟩ = some (.int .i64 (q : Int)) := (HBX.out.cell (p := ⟨b0, _, none⟩) hb0).trans hp0
        have hi0' : wc.cell? ⟨b0, off0 + k * 2 + 1, none⟩ = some (.int .u32 ((bump st false q x.inc : Nat) : Int)) := (HBX.out.cell (p := ⟨b0, _, none⟩) hb0).trans hi0
        have f3 : wc.cell? ⟨wr.heap.size, 3, none⟩ = some (.int .u64 (x.holds : Int)) := (HBK.out.cell 3).trans HF.out.holds
        have f4 : wc.cell? ⟨wr.heap.size, 4, none⟩ = some (.bool x.has) := (HBK.out.cell 4).trans HF.out.has
        have f5 : wc.cell? ⟨wr.heap.size, 5, none⟩ = some (.bool x.direct) := (HBK.out.cell 5).trans HF.out.direct
        have hgw : wr.heap.size < wc.heap.size := HBK.out.lt
        clear hqc hp1 hi1 hp0 hi0
        generalize wr.heap.size = g at *
        have HERE : Hid (Here wc b off b1 off1 b0 off0 g k q (bump st true q x.inc) (bump st false q x.inc) x) := ⟨hqc', hp1', hi1', hp0', hi0', f3, f4, f5⟩
        clear hqc' hp1' hi1' hp0' hi0' f3 f4 f5
        obtain ⟨z, hz⟩ : ∃ z : Int, z = (x.inc : Int) := ⟨_, rfl⟩
        rw [← hz]
        have HZ := Lib.hid hz
        clear hz
        go_upto_region 20 with fail
        go_cut [149] from 74 to 235 (fun c wx => c = .bool false ∧ ∃ d, wx = wc.drewN d)
        case first =>
          as_aux_lemma =>
            have hqc := HERE.out.hq
            have hp1 := HERE.out.p1
            have hi1 := HERE.out.i1
            by_cases hh : shas st (q : Int) = true
            · obtain ⟨hx1, hx2, _⟩ := HKEPT.out.has hh
              have f3 := HERE.out.f3
              have f4 := HERE.out.f4
              rw [hx1] at f4
              rw [hx2] at f3
              rw [bump_has hh, ← HZ.out] at hi1
              have HH := Lib.hid hh
              clear hx1 hx2 hh
              go_quiet ((first | (go_at_call 33; exact qs (has_eq HS64.out HH.out _))))
              go_wp2_with fail
              go_meet
              exact ⟨rfl, _, rfl⟩
            · have hh : shas st (q : Int) = false := by simpa using hh
              by_cases hmax : x.inc < 4294967295
              · rw [bump_up hh hmax, Int.natCast_add, ← HZ.out] at hi1
                have hd1 : decide (z < 4294967295) = true := decide_eq_true (by have := HZ.out; omega)
                have hd2 : decide (z + 1 ≤ z) = false := decide_eq_false (by omega)
                have HH := Lib.hid hh
                clear hmax hh
                go_quiet ((first | (go_at_call 33; exact qs (has_eq HS64.out HH.out _))))
                go_wp2_with fail
                go_meet
                exact ⟨rfl, _, rfl⟩
              · rw [bump_top hmax, ← HZ.out] at hi1
                have hd1 : decide (z < 4294967295) = false := decide_eq_false (by have := HZ.out; omega)
                have HH := Lib.hid hh
                clear hmax hh
                go_quiet ((first | (go_at_call 33; exact qs (has_eq HS64.out HH.out _))))
                go_wp2_with fail
                go_meet
                exact ⟨rfl, _, rfl⟩
        case rest =>
          obtain ⟨rfl, d1, rfl⟩ := hcut
          have HERE2 := Lib.hid (HERE.out.drewN d1)
          have HBz2 := Lib.hid (bdrewN HBz.out d1)
          have hb1w' : b1 < (wc.drewN d1).heap.size := hb1w
          clear HERE HBz HBX HBK hbw hb1w hb0w hgw
          generalize wc.drewN d1 = wd at *
          go_upto_region 22 with fail
          go_cut [165] from 74 to 235 (fun c wx => c = .bool false ∧ ∃ d, wx = wd.drewN d)
          case first =>
            as_aux_lemma =>
              have hqc := HERE2.out.hq
              have hp0 := HERE2.out.p0
              have hi0 := HERE2.out.i0
              by_cases hmax : x.inc < 4294967295
              · rw [bump_new hmax, Int.natCast_add, ← HZ.out] at hi0
                have hd1 : decide (z < 4294967295) = true := decide_eq_true (by have := HZ.out; omega)
                have hwr : IntKind.u32.wrap (z + 1) = z + 1 := by rw [IntKind.wrap_u32']; have := HZ.out; omega
                clear hmax
                go_quiet (fail)
                go_wp2_with fail
                go_meet
                exact ⟨rfl, _, rfl⟩
              · have hd1 : decide (z < 4294967295) = false := decide_eq_false (by have := HZ.out; omega)
                clear hmax
                go_quiet (fail)
                go_wp2_with fail
                go_meet
                exact ⟨rfl, _, rfl⟩
          case rest =>
            obtain ⟨rfl, d2, rfl⟩ := hcut
            have HERE3 := Lib.hid (HERE2.out.drewN d2)
            have HBz3 := Lib.hid (bdrewN HBz2.out d2)
            have hb1w3 : b1 < (wd.drewN d2).heap.size := hb1w'
            clear HERE2 HBz2 hb1w'
            generalize wd.drewN d2 = we at *
            obtain ⟨y, hy⟩ : ∃ y : Int, y = (ssize st : Nat) := ⟨_, rfl⟩
            have HY := Lib.hid hy
            clear hy
            go_upto_region 24 with fail
            go_cut [204] from 74 to 235 (fun c wx => c = .bool false ∧ we = wx)
            case first =>
              as_aux_lemma =>
                have hqc := HERE3.out.hq
                have f3 := HERE3.out.f3
                have f4 := HERE3.out.f4
                have f5 := HERE3.out.f5
                by_cases hh : shas st (q : Int) = true
                · obtain ⟨hx1, hx2, hx3⟩ := HKEPT.out.has hh
                  rw [hx1] at f4
                  rw [hx2] at f3
                  have HH := Lib.hid hh
                  by_cases hbig : 1 < y
                  · have hdir : x.direct = true := hx3 (by have := HY.out; omega)
                    rw [hdir] at f5
                    have hd : decide (1 < y) = true := decide_eq_true hbig
                    clear hx1 hx2 hx3 hh hdir
                    go_wp2_with fail
                    refine (size_eq HS64.out (n := y) (by rw [HY.out]) _).mono ?_
                    rintro e w' ⟨rfl, rfl⟩
                    repeat (go_wp2_with fail; refine (has_eq HS64.out HH.out _).mono ?_; rintro e w' ⟨rfl, rfl⟩)
                    go_wp2_with fail
                    go_meet
                    exact ⟨rfl, rfl⟩
                  · have hd : decide (1 < y) = false := decide_eq_false hbig
                    cases hdir : x.direct
                    all_goals
                      rw [hdir] at f5
                      clear hx1 hx2 hx3 hh hdir
                      go_wp2_with fail
                      refine (size_eq HS64.out (n := y) (by rw [HY.out]) _).mono ?_
                      rintro e w' ⟨rfl, rfl⟩
                      repeat (go_wp2_with fail; refine (has_eq HS64.out HH.out _).mono ?_; rintro e w' ⟨rfl, rfl⟩)
                      go_wp2_with fail
                      go_meet
                      exact ⟨rfl, rfl⟩
                · have hh : shas st (q : Int) = false := by simpa using hh
                  have HH := Lib.hid hh
                  by_cases hbig : 1 < y
                  · have hd : decide (1 < y) = true := decide_eq_true hbig
                    cases hx1 : x.has
                    · rw [hx1] at f4
                      clear hx1 hh
                      go_wp2_with fail
                      refine (size_eq HS64.out (n := y) (by rw [HY.out]) _).mono ?_
                      rintro e w' ⟨rfl, rfl⟩
                      repeat (go_wp2_with fail; refine (has_eq HS64.out HH.out _).mono ?_; rintro e w' ⟨rfl, rfl⟩)
                      go_wp2_with fail
                      go_meet
                      exact ⟨rfl, rfl⟩
                    · rw [hx1] at f4
                      by_cases hx2 : x.holds = n
                      · have hdir : x.direct = false := by
                          cases hdir : x.direct
                          · rfl
                          · have := (HKEPT.out.holds hx1 hx2).1 hdir
                            rw [hh] at this
                            cases this
                        rw [hx2] at f3
                        rw [hdir] at f5
                        clear hx1 hx2 hh hdir
                        go_wp2_with fail
                        refine (size_eq HS64.out (n := y) (by rw [HY.out]) _).mono ?_
                        rintro e w' ⟨rfl, rfl⟩
                        repeat (go_wp2_with fail; refine (has_eq HS64.out HH.out _).mono ?_; rintro e w' ⟨rfl, rfl⟩)
                        go_wp2_with fail
                        go_meet
                        exact ⟨rfl, rfl⟩
                      · have hne : ((x.holds : Int) == (n : Int)) = false := by rw [beq_eq_false_iff_ne]; omega
                        clear hx1 hx2 hh
                        go_wp2_with fail
                        refine (size_eq HS64.out (n := y) (by rw [HY.out]) _).mono ?_
                        rintro e w' ⟨rfl, rfl⟩
                        repeat (go_wp2_with fail; refine (has_eq HS64.out HH.out _).mono ?_; rintro e w' ⟨rfl, rfl⟩)
                        go_wp2_with fail
                        go_meet
                        exact ⟨rfl, rfl⟩
                  · have hd : decide (1 < y) = false := decide_eq_false hbig
                    cases hx1 : x.has
                    · rw [hx1] at f4
                      clear hx1 hh
                      go_wp2_with fail
                      refine (size_eq HS64.out (n := y) (by rw [HY.out]) _).mono ?_
                      rintro e w' ⟨rfl, rfl⟩
                      repeat (go_wp2_with fail; refine (has_eq HS64.out HH.out _).mono ?_; rintro e w' ⟨rfl, rfl⟩)
                      go_wp2_with fail
                      go_meet
                      exact ⟨rfl, rfl⟩
                    · rw [hx1] at f4
                      by_cases hx2 : x.holds = n
                      · have hdir : x.direct = false := by
                          cases hdir : x.direct
                          · rfl
                          · have := (HKEPT.out.holds hx1 hx2).1 hdir
                            rw [hh] at this
                            cases this
                        rw [hx2] at f3
                        rw [hdir] at f5
                        clear hx1 hx2 hh hdir
                        go_wp2_with fail
                        refine (size_eq HS64.out (n := y) (by rw [HY.out]) _).mono ?_
                        rintro e w' ⟨rfl, rfl⟩
                        repeat (go_wp2_with fail; refine (has_eq HS64.out HH.out _).mono ?_; rintro e w' ⟨rfl, rfl⟩)
                        go_wp2_with fail
                        go_meet
                        exact ⟨rfl, rfl⟩
                      · have hne : ((x.holds : Int) == (n : Int)) = false := by rw [beq_eq_false_iff_ne]; omega
                        clear hx1 hx2 hh
                        go_wp2_with fail
                        refine (size_eq HS64.out (n := y) (by rw [HY.out]) _).mono ?_
                        rintro e w' ⟨rfl, rfl⟩
                        repeat (go_wp2_with fail; refine (has_eq HS64.out HH.out _).mono ?_; rintro e w' ⟨rfl, rfl⟩)
                        go_wp2_with fail
                        go_meet
                        exact ⟨rfl, rfl⟩
            case rest =>
              obtain ⟨rfl, rfl⟩ := hcut
              go_upto_region 26 with fail
              go_cut [216] from 74 to 235 (fun c wx => c = .bool false ∧ we = wx)
              case first =>
                as_aux_lemma =>
                  have f3 := HERE3.out.f3
                  have f4 := HERE3.out.f4
                  cases hx1 : x.has
                  · rw [hx1] at f4
                    clear hx1
                    go_wp2_with fail
                    go_meet
                    exact ⟨rfl, rfl⟩
                  · rw [hx1] at f4
                    by_cases hx2 : x.holds = n
                    · have hst0 := (HKEPT.out.holds hx1 hx2).2
                      have hne : ((st : Int) == 0) = false := by rw [beq_eq_false_iff_ne]; omega
                      rw [hx2] at f3
                      clear hx1 hx2 hst0
                      go_wp2_with fail
                      go_meet
                      exact ⟨rfl, rfl⟩
                    · have hne : ((x.holds : Int) == (n : Int)) = false := by rw [beq_eq_false_iff_ne]; omega
                      clear hx1 hx2
                      go_wp2_with fail
                      go_meet
                      exact ⟨rfl, rfl⟩
              case rest =>
                obtain ⟨rfl, rfl⟩ := hcut
                have hqc := HERE3.out.hq
                have HNe := Lib.hid (HN7.out.below HBz3.out)
                generalize bump st true q x.inc = j1 at *
                go_wp2_with fail
                refine (ofName_num HNe.out (by rw [HL1.out]; omega) HNAME.out (z := (q : Int)) (i := (j1 : Int)) rfl rfl).mono ?_
                rintro e wf ⟨rfl, hbf⟩
                have k0 : wf.cell? ⟨b1, off1 + k * 2, none⟩ = some (.int .i64 (q : Int)) := (hbf.cell (p := ⟨b1, _, none⟩) hb1w3).trans HERE3.out.p1
                have k1 : wf.cell? ⟨b1, off1 + k * 2 + 1, none⟩ = some (.int .u32 (j1 : Int)) := (hbf.cell (p := ⟨b1, _, none⟩) hb1w3).trans HERE3.out.i1
                have hb1f : b1 < wf.heap.size := Nat.lt_of_lt_of_le hb1w3 hbf.size
                have HBf := Lib.hid (btr HBz3.out hbf)
                clear hbf
                go_wp2_with fail
                go_quiet (fail)
                go_wp2_with fail
                go_roundw
                case rel =>
                  exact ⟨k + 1, by omega, by go_num, bdrewN (bal HBf.out _) _⟩
                case measure => simp [intOf] <;> omega
    · obtain rfl : k = m := by omega
      clear hlt hk
      go_wp2_with fail
      go_ret
      exact ⟨rfl, btr HB7.out HB.out⟩
end Go.Proofs.YtheeclmpkddgjaaDoor
