import Derived.Test.YtheeclmpkddgjaaDoorNamesK
namespace Go.Proofs.YtheeclmpkddgjaaDoor
set_option linter.unusedVariables false
set_option linter.unusedSimpArgs false
open Go.RowKit
theorem snames_len (n s : Nat) (claims : List Itm) (sure : Bool) : (snames n s claims sure).length ≤ 64 := by
  unfold snames; rw [namesL_length]; exact slist_le s
set_option maxRecDepth 20000 in
set_option maxHeartbeats 2000000 in
theorem namesTell_law {n s : Nat} (hn : S64 n) (hs : S64 s) {v : Value} {claims : List Itm} {w : World} (hT : Tab w) (hv : Items w v claims) (sure : Bool) {v2 : Value} {l : List Nm} (hl : Names w v2 l) (p : Int) :
    Calls Tryd.prog 9 #[.int .u64 (n : Int), .int .u64 (s : Int), v, .bool sure, v2, .int .i64 p] w fun e w' => e = .returned (.bool true) ∧ Below w.heap.size w w' := by
  obtain ⟨A, c, rfl, _⟩ := hv.slice
  obtain ⟨A2, c2, rfl, _⟩ := hl.slice
  have HT := Lib.hid hT
  have HV := Lib.hid hv
  have HL := Lib.hid hl
  have HINC := Lib.hid hv.inc
  clear hT hv hl
  go_enter Tryd.func9, Tryd.ntmps9
  go_wp2_with fail
  refine (awake21 HT.out).mono ?_
  rintro e w1 ⟨rfl, hb1⟩
  have HB1 := Lib.hid hb1
  clear hb1
  by_cases hc1 : claims.length > 200
  · have h1 : decide (200 < (claims.length : Int)) = true := decide_eq_true (by omega)
    clear hc1
    go_wp2_with fail
    go_ret
    exact ⟨rfl, HB1.out⟩
  by_cases hc2 : l.length > 5000
  · have h1 : decide (200 < (claims.length : Int)) = false := decide_eq_false (by omega)
    have h2 : decide (5000 < (l.length : Int)) = true := decide_eq_true (by omega)
    clear hc1 hc2
    go_wp2_with fail
    go_ret
    exact ⟨rfl, HB1.out⟩
  have hcl : claims.length ≤ 200 := by omega
  have hll : l.length ≤ 5000 := by omega
  have h1 : decide (200 < (claims.length : Int)) = false := decide_eq_false (by omega)
  have h2 : decide (5000 < (l.length : Int)) = false := decide_eq_false (by omega)
  have HCL := Lib.hid hcl
  have HLL := Lib.hid hll
  clear hc1 hc2 hcl hll
  go_wp2_with fail
  refine (of21_any (HV.out.below HB1.out) (by have := HCL.out; omega)).mono ?_
  rintro e w2 ⟨u, rfl, hb2, hu⟩
  have HB2 := Lib.hid (btr HB1.out hb2)
  have HU2 := Lib.hid hu
  obtain ⟨A3, c3, rfl, _⟩ := hu.slice
  clear hb2 hu
  go_wp2_with fail
  refine (ofName_any (HL.out.below HB2.out) (by have := HLL.out; omega) p).mono ?_
  obtain ⟨x, ok, hx⟩ : ∃ x ok, ofName l p = (x, ok) := ⟨_, _, rfl⟩
  have HX := Lib.hid hx
  clear hx
  rw [HX.out]
  rintro e w3 ⟨rfl, hb3⟩
  have HB3 := Lib.hid (btr HB2.out hb3)
  have HU3 := Lib.hid (HU2.out.below hb3)
  clear hb3
  go_wp2_with fail
  have HBL3 := Lib.hid (Blk.new w3 51 #[Value.int IntKind.i64 x.proc, Value.int IntKind.u32 (x.inc : Int)] rfl)
  refine (refOfName_any (by exact HL.out.below (bal HB3.out _)) (by have := HLL.out; omega) p).mono ?_
  rw [HX.out]
  rintro e w4 ⟨rfl, hb4⟩
  have HB4 : Hid (Below w.heap.size w w4) := btr (bal HB3.out _) hb4
  have HU4 := Lib.hid ((HU3.out.below (bal (Below.refl _ _) (.cells #[Value.int IntKind.i64 x.proc, Value.int IntKind.u32 (x.inc : Int)] 51))).below hb4)
  have HBL4 := Lib.hid (HBL3.out.stay hb4)
  clear hb4
  go_wp2_with fail
  have HBM := Lib.hid (Blk.new w4 51 #[Value.int IntKind.i64 x.proc, Value.int IntKind.u32 (x.inc : Int)] rfl)
  have HBL5 := Lib.hid (HBL4.out.old (.cells #[Value.int IntKind.i64 x.proc, Value.int IntKind.u32 (x.inc : Int)] 51))
  have HU5 := Lib.hid (HU4.out.below (bal (Below.refl _ _) (.cells #[Value.int IntKind.i64 x.proc, Value.int IntKind.u32 (x.inc : Int)] 51)))
  have HB5 : Hid (Below w.heap.size w (w4.alloc (.cells #[Value.int IntKind.i64 x.proc, Value.int IntKind.u32 (x.inc : Int)] 51))) := bal HB4.out _
  obtain ⟨st, hst⟩ : ∃ st, st = sstay n s claims := ⟨_, rfl⟩
  have hst64 : S64 st := by rw [hst]; exact S64.stay _ _ _
  have HST := Lib.hid hst
  have HS := Lib.hid hst64
  clear hst hst64
  refine (refStay_any hs HU5.out (by have := HCL.out; omega)).mono ?_
  rw [← HST.out]
  rintro e w6 ⟨rfl, hb6⟩
  have HB6 := Lib.hid (btr HB5.out hb6)
  have HU6 := Lib.hid (HU5.out.below hb6)
  have HBL6 := Lib.hid (HBL5.out.stay hb6)
  have HBM6 := Lib.hid (HBM.out.stay hb6)
  clear hb6
  go_wp2_with fail
  refine (stay_num hs (HT.out.below HB6.out) (HV.out.below HB6.out) (by have := HCL.out; omega) (n := n) rfl rfl (m := (st : Int)) (by rw [HST.out])).mono ?_
  rintro e w7 ⟨rfl, hb7⟩
  have HB7 := Lib.hid (btr HB6.out hb7)
  have HU7 := Lib.hid (HU6.out.below hb7)
  have HBL7 := Lib.hid (HBL6.out.stay hb7)
  have HBM7 := Lib.hid (HBM6.out.stay hb7)
  clear hb7
  obtain ⟨j, hj⟩ : ∃ j : Int, j = ((sbut s st : Nat) : Int) := ⟨_, rfl⟩
  have hband : (Go.bits .andNot .u64 (s : Int) (st : Int)) = j := by rw [hj]; exact andNot_nat hs HS.out
  have HJ := Lib.hid hj
  have HBA := Lib.hid hband
  clear hj hband
  go_wp2_with fail
  refine (joins_num hs (HT.out.below HB7.out) (HV.out.below HB7.out) (by have := HCL.out; omega) (n := n) rfl rfl (m := j) (by rw [← HST.out, HJ.out])).mono ?_
  rintro e w8 ⟨rfl, hb8⟩
  have HB8 := Lib.hid (btr HB7.out hb8)
  have HU8 := Lib.hid (HU7.out.below hb8)
  have HBL8 := Lib.hid (HBL7.out.stay hb8)
  have HBM8 := Lib.hid (HBM7.out.stay hb8)
  clear hb8
  have hba := HBA.out
  go_wp2_with fail
  refine (names_any hs (HT.out.below HB8.out) (HV.out.below HB8.out) (by have := HCL.out; omega) HINC.out sure).mono ?_
  rintro e w9 ⟨u1, rfl, hb9, hu1⟩
  have HB9 := Lib.hid (btr HB8.out hb9)
  have HU9 := Lib.hid (HU8.out.below hb9)
  have HBL9 := Lib.hid (HBL8.out.stay hb9)
  have HBM9 := Lib.hid (HBM8.out.stay hb9)
  obtain ⟨A4, c4, rfl, _⟩ := hu1.slice
  have HN9 := Lib.hid hu1
  clear hb9 hu1
  go_wp2_with fail
  refine (refNames_any hs HU9.out (by have := HCL.out; omega) HINC.out sure).mono ?_
  rintro e wa ⟨u2, rfl, hba2, hu2⟩
  have HBa := Lib.hid (btr HB9.out hba2)
  have HBLa := Lib.hid (HBL9.out.stay hba2)
  have HBMa := Lib.hid (HBM9.out.stay hba2)
  have HNa := Lib.hid (HN9.out.below hba2)
  obtain ⟨A5, c5, rfl, _⟩ := hu2.slice
  have HM := Lib.hid hu2
  clear hba2 hu2
  go_wp2_with fail
  refine (refNamesEq_true HNa.out HM.out (by have := snames_len n s claims sure; omega)).mono ?_
  rintro e wb ⟨rfl, hbb⟩
  have HBb := Lib.hid (btr HBa.out hbb)
  have hblb := HBLa.out.stay hbb
  have hbmb := HBMa.out.stay hbb
  clear hbb
  have k0 := hblb.cell 0
  have k1 := hblb.cell 1
  have k2 := hbmb.cell 0
  have k3 := hbmb.cell 1
  have k4 := hblb.lt
  have k5 := hbmb.lt
  clear hblb hbmb
  go_wp2_with fail
  go_ret
  exact ⟨rfl, HBb.out⟩
end Go.Proofs.YtheeclmpkddgjaaDoor
