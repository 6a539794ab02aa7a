import Derived.Test.YtheeclmpkddgjaaDoorRefE
import Derived.Test.YtheeclmpkddgjaaDoorSetF
namespace Go.Proofs.YtheeclmpkddgjaaDoor
set_option linter.unusedVariables false
set_option linter.unusedSimpArgs false
open Go.RowKit
set_option maxRecDepth 20000 in
set_option maxHeartbeats 400000 in
theorem setLists_long {s : Nat} (hs : S64 s) {A : Option Addr} {n c : Nat} (w : World) (hl : 1000 < n) :
    Calls Tryd.prog 3 #[.int .u64 (s : Int), .slice A n c] w fun e w' => e = .returned (.bool true) ∧ Below w.heap.size w w' := by
  have hl' : (1000 : Int) < (n : Int) := by omega
  go_enter Tryd.func3, Tryd.ntmps3
  go_wp2_with fail
  refine (awake02 _).mono ?_
  rintro e w1 ⟨rfl, hb1⟩
  have HB := Lib.hid hb1
  clear hb1
  go_wp2_with fail
  go_ret
  exact ⟨rfl, HB.out⟩
set_option maxRecDepth 20000 in
set_option maxHeartbeats 400000 in
theorem setLists_short {s : Nat} (hs : S64 s) {v : Value} {l : List Int} {w : World} (hv : Ints w v l) (hl : l.length ≤ 1000) :
    Calls Tryd.prog 3 #[.int .u64 (s : Int), v] w fun e w' => e = .returned (.bool true) ∧ Below w.heap.size w w' := by
  obtain ⟨A, c, rfl, _⟩ := hv.slice
  have HV := Lib.hid hv
  clear hv
  have hl' : ¬ (1000 : Int) < (l.length : Int) := by omega
  obtain ⟨n, hn⟩ : ∃ n, n = l.length := ⟨_, rfl⟩
  have hm : l.length ≤ 140737488351232 := by omega
  have hless : sbut s (sof l) = sless s l := rfl
  have hany : sany s (sof l) = swith s l := S64.ext (hs.any (S64.of l)) (hs.with l) fun p hp => by rw [tb_any, tb_of _ _ hp, tb_with _ _ _ hp]
  have HM := Lib.hid hm
  have HL := Lib.hid hless
  have HA := Lib.hid hany
  clear hm hless hany hn
  go_enter Tryd.func3, Tryd.ntmps3
  go_wp2_with fail
  refine (awake02 _).mono ?_
  rintro e w1 ⟨rfl, hb1⟩
  have HB := Lib.hid hb1
  clear hb1
  go_wp2_with fail
  refine (refOf_any (HV.out.below (one_stays _) (by decide) HB.out) HM.out).mono ?_
  rintro e w2 ⟨rfl, hb2⟩
  have HB2 := Lib.hid (btr HB.out hb2)
  clear hb2
  go_wp2_with fail
  refine (of_any (HV.out.below (one_stays _) (by decide) HB2.out) HM.out).mono ?_
  rintro e w' ⟨rfl, rfl⟩
  go_wp2_with fail
  refine (with_any hs (HV.out.below (one_stays _) (by decide) HB2.out) HM.out).mono ?_
  rintro e w' ⟨rfl, rfl⟩
  go_wp2_with fail
  refine (refAny_any hs (S64.of l) _).mono ?_
  rintro e w3 ⟨rfl, hb3⟩
  rw [HA.out]
  have HB3 := Lib.hid (btr HB2.out hb3)
  clear hb3
  go_wp2_with fail
  refine (less_any hs (HV.out.below (one_stays _) (by decide) HB3.out) HM.out).mono ?_
  rintro e w' ⟨rfl, rfl⟩
  go_wp2_with fail
  refine (refBut_any hs (S64.of l) _).mono ?_
  rintro e w4 ⟨rfl, hb4⟩
  rw [HL.out]
  have HB4 := Lib.hid (btr HB3.out hb4)
  clear hb4
  go_wp2_with fail
  go_ret
  exact ⟨rfl, HB4.out⟩
theorem setLists_law {s : Nat} (hs : S64 s) {v : Value} {l : List Int} {w : World} (hv : Ints w v l) :
    Calls Tryd.prog 3 #[.int .u64 (s : Int), v] w fun e w' => e = .returned (.bool true) ∧ Below w.heap.size w w' := by
  by_cases h : l.length ≤ 1000
  · exact setLists_short hs hv h
  · obtain ⟨A, c, rfl, _⟩ := hv.slice
    exact setLists_long hs w (by omega)
set_option maxRecDepth 20000 in
set_option maxHeartbeats 400000 in
theorem setTells_law {s t : Nat} (hs : S64 s) (ht : S64 t) (p : Int) {w : World} (hT : Tab w) :
    Calls Tryd.prog 8 #[.int .u64 (s : Int), .int .u64 (t : Int), .int .i64 p] w fun e w' => e = .returned (.bool true) ∧ Below w.heap.size w w' := by
  have HT := Lib.hid hT
  clear hT
  go_enter Tryd.func8, Tryd.ntmps8
  go_wp2_with fail
  refine (awake02 _).mono ?_
  rintro e w1 ⟨rfl, hb1⟩
  have HB := Lib.hid hb1
  clear hb1
  go_wp2_with fail
  refine (has_any hs p _).mono ?_
  rintro e w' ⟨rfl, rfl⟩
  go_wp2_with fail
  refine (refHas_any hs p _).mono ?_
  rintro e w2 ⟨rfl, hb2⟩
  have HB2 := Lib.hid (btr HB.out hb2)
  clear hb2
  go_wp2_with fail
  refine (both_any hs ht _).mono ?_
  rintro e w' ⟨rfl, rfl⟩
  go_wp2_with fail
  refine (refBoth_any hs ht _).mono ?_
  rintro e w3 ⟨rfl, hb3⟩
  have HB3 := Lib.hid (btr HB2.out hb3)
  clear hb3
  go_wp2_with fail
  refine (any_any hs ht _).mono ?_
  rintro e w' ⟨rfl, rfl⟩
  go_wp2_with fail
  refine (refAny_any hs ht _).mono ?_
  rintro e w4 ⟨rfl, hb4⟩
  have HB4 := Lib.hid (btr HB3.out hb4)
  clear hb4
  go_wp2_with fail
  refine (but_any hs ht _).mono ?_
  rintro e w' ⟨rfl, rfl⟩
  go_wp2_with fail
  refine (refBut_any hs ht _).mono ?_
  rintro e w5 ⟨rfl, hb5⟩
  have HB5 := Lib.hid (btr HB4.out hb5)
  clear hb5
  go_wp2_with fail
  refine (in_any hs ht _).mono ?_
  rintro e w' ⟨rfl, rfl⟩
  go_wp2_with fail
  refine (refIn_any hs ht _).mono ?_
  rintro e w6 ⟨rfl, hb6⟩
  have HB6 := Lib.hid (btr HB5.out hb6)
  clear hb6
  go_wp2_with fail
  refine (size_any hs _).mono ?_
  rintro e w' ⟨rfl, rfl⟩
  go_wp2_with fail
  refine (refSize_any hs _).mono ?_
  rintro e w7 ⟨rfl, hb7⟩
  have HB7 := Lib.hid (btr HB6.out hb7)
  clear hb7
  go_wp2_with fail
  refine (min_any hs (HT.out.below HB7.out)).mono ?_
  rintro e w' ⟨rfl, rfl⟩
  go_wp2_with fail
  refine (refMin_any hs _).mono ?_
  rintro e w8 ⟨rfl, hb8⟩
  have HB8 := Lib.hid (btr HB7.out hb8)
  clear hb8
  go_wp2_with fail
  refine (list_any hs (HT.out.below HB8.out)).mono ?_
  rintro e w9 ⟨v9, rfl, hb9, hv9⟩
  have HB9 := Lib.hid (btr HB8.out hb9)
  have HV9 := Lib.hid hv9
  clear hb9 hv9
  go_wp2_with fail
  refine (refList_any hs _).mono ?_
  rintro e w10 ⟨v10, rfl, hb10, hv10⟩
  have HV9' := Lib.hid (HV9.out.below (one_stays _) (by decide) hb10)
  have HB10 := Lib.hid (btr HB9.out hb10)
  have HV10 := Lib.hid hv10
  clear hb10 hv10
  go_wp2_with fail
  refine (refSame_true HV9'.out HV10.out (by have := slist_le s; omega)).mono ?_
  rintro e w11 ⟨rfl, hb11⟩
  have HB11 := Lib.hid (btr HB10.out hb11)
  clear hb11
  go_wp2_with fail
  refine (most_any hs ht _).mono ?_
  rintro e w' ⟨rfl, rfl⟩
  go_wp2_with fail
  refine (refMost_any hs ht _).mono ?_
  rintro e w12 ⟨rfl, hb12⟩
  have HB12 := Lib.hid (btr HB11.out hb12)
  clear hb12
  go_wp2_with fail
  refine (all_any p _).mono ?_
  rintro e w' ⟨rfl, rfl⟩
  go_wp2_with fail
  refine (refAll_any p _).mono ?_
  rintro e w13 ⟨rfl, hb13⟩
  have HB13 := Lib.hid (btr HB12.out hb13)
  clear hb13
  go_wp2_with fail
  go_ret
  exact ⟨rfl, HB13.out⟩
end Go.Proofs.YtheeclmpkddgjaaDoor
