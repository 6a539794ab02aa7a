import Derived.Test.YtheeclmpkddgjaaDoorNamesB
import Derived.Laws.EntriesVeiled
namespace Go.Proofs.YtheeclmpkddgjaaDoor
set_option linter.unusedVariables false
set_option linter.unusedSimpArgs false
open Go.RowKit
def sstay (n s : Nat) (claims : List Itm) : Nat :=
  if sthose s claims (fun x => ihold n x && x.direct) = 0 then sof [smin (sthose s claims (ihold n))] else sthose s claims (fun x => ihold n x && x.direct)
theorem S64.those (s : Nat) (claims : List Itm) (p : Itm → Bool) : S64 (sthose s claims p) := S64.of _
theorem S64.stay (n s : Nat) (claims : List Itm) : S64 (sstay n s claims) := by
  unfold sstay
  split
  · exact S64.of _
  · exact S64.those _ _ _
set_option maxRecDepth 20000 in
set_option maxHeartbeats 400000 in
theorem stay_any {n s : Nat} (hs : S64 s) {v : Value} {claims : List Itm} {w : World} (hT : Tab w) (hv : Items w v claims) (hm : claims.length ≤ 9223372036854775807) :
    Calls Tryd.prog 50 #[.int .u64 (n : Int), .int .u64 (s : Int), v] w fun e w' => e = .returned (.int .u64 (sstay n s claims : Nat)) ∧ Below w.heap.size w w' := by
  have HT := Lib.hid hT
  obtain ⟨A, c, rfl, _⟩ := hv.slice
  have HV := Lib.hid hv
  clear hT hv
  obtain ⟨d, hd⟩ : ∃ d, d = sthose s claims (fun x => ihold n x && x.direct) := ⟨_, rfl⟩
  by_cases h0 : d = 0
  · have hx : ((d : Int) != 0) = false := by rw [bne_eq_false_iff_eq]; omega
    have e : sstay n s claims = sof [smin (sthose s claims (ihold n))] := by unfold sstay; rw [← hd, if_pos h0]
    have HE := Lib.hid e
    have HD := Lib.hid hd
    clear e hd h0
    go_enter Tryd.func50, Tryd.ntmps50
    go_wp2_with fail
    refine (those2_any hs (by exact HT.out.below (bal (bal (Below.refl _ _) _) _)) (by exact HV.out.below (bal (bal (Below.refl _ _) _) _)) hm (n := n) (bn := w.heap.size) (bh := w.heap.size + 1) (by go_simp) (by go_simp)).mono ?_
    rintro e w1 ⟨rfl, hb1⟩
    rw [← HD.out]
    have hc1 : w1.cell? ⟨w.heap.size, 0, none⟩ = some (.int .u64 (n : Int)) := (hb1.cell (p := ⟨w.heap.size, 0, none⟩) (by simp; omega)).trans (by go_simp)
    have hc2 : w1.cell? ⟨w.heap.size + 1, 0, none⟩ = some (.func (.func 88) #[] #[.pointer (some ⟨w.heap.size, 0, none⟩)]) := (hb1.cell (p := ⟨w.heap.size + 1, 0, none⟩) (by simp)).trans (by go_simp)
    have HC1 := Lib.hid hc1
    have HB1 : Hid (Below w.heap.size w w1) := btr (bal (bal (Below.refl _ _) _) _) hb1
    clear hc1 hb1
    go_wp2_with fail
    refine (those1_any hs (HT.out.below HB1.out) (HV.out.below HB1.out) hm (n := n) (bn := w.heap.size) HC1.out).mono ?_
    rintro e w2 ⟨rfl, hb2⟩
    have HB2 := Lib.hid (btr HB1.out hb2)
    clear hb2
    go_wp2_with fail
    refine (min_any (S64.those _ _ _) (HT.out.below HB2.out)).mono ?_
    rintro e w3 ⟨rfl, rfl⟩
    go_wp2_with fail
    refine (of_num (l := [smin (sthose s claims (ihold n))]) (m := ((sstay n s claims : Nat) : Int)) (by exact Ints.lit _ _ _ _ _ _ (by simp) rfl rfl) (by simp) (by rw [HE.out])).mono ?_
    rintro e w4 ⟨rfl, rfl⟩
    go_wp2_with fail
    go_ret
    exact ⟨rfl, bal HB2.out _⟩
  · have hx : ((d : Int) != 0) = true := by rw [bne_iff_ne]; omega
    have e : sstay n s claims = d := by unfold sstay; rw [← hd, if_neg h0]
    have HE := Lib.hid e
    have HD := Lib.hid hd
    clear e hd h0
    go_enter Tryd.func50, Tryd.ntmps50
    go_wp2_with fail
    refine (those2_any hs (by exact HT.out.below (bal (bal (Below.refl _ _) _) _)) (by exact HV.out.below (bal (bal (Below.refl _ _) _) _)) hm (n := n) (bn := w.heap.size) (bh := w.heap.size + 1) (by go_simp) (by go_simp)).mono ?_
    rintro e w1 ⟨rfl, hb1⟩
    rw [← HD.out]
    have HB1 : Hid (Below w.heap.size w w1) := btr (bal (bal (Below.refl _ _) _) _) hb1
    clear hb1
    go_wp2_with fail
    go_ret
    exact ⟨by rw [HE.out]; rfl, HB1.out⟩
set_option maxRecDepth 20000 in
set_option maxHeartbeats 400000 in
theorem joins_any {n s : Nat} (hs : S64 s) {v : Value} {claims : List Itm} {w : World} (hT : Tab w) (hv : Items w v claims) (hm : claims.length ≤ 9223372036854775807) :
    Calls Tryd.prog 51 #[.int .u64 (n : Int), .int .u64 (s : Int), v] w fun e w' => e = .returned (.int .u64 (sbut s (sstay n s claims) : Nat)) ∧ Below w.heap.size w w' := by
  obtain ⟨A, c, rfl, _⟩ := hv.slice
  have HT := Lib.hid hT
  have HV := Lib.hid hv
  clear hT hv
  go_enter Tryd.func51, Tryd.ntmps51
  go_wp2_with fail
  refine (stay_any hs HT.out HV.out hm).mono ?_
  rintro e w1 ⟨rfl, hb1⟩
  have HB1 := Lib.hid hb1
  clear hb1
  go_wp2_with fail
  refine (but_any hs (S64.stay _ _ _) _).mono ?_
  rintro e w2 ⟨rfl, rfl⟩
  go_wp2_with fail
  go_ret
  exact ⟨rfl, HB1.out⟩
end Go.Proofs.YtheeclmpkddgjaaDoor
