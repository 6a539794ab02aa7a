import Derived.Test.YtheeclmpkddgjaaDoorNamesA
import Derived.Test.YtheeclmpkddgjaaDoorRefE
namespace Go.Proofs.YtheeclmpkddgjaaDoor
set_option linter.unusedVariables false
set_option linter.unusedSimpArgs false
open Go.RowKit
theorem sof_snoc (l : List Nat) (p : Nat) : swith (sof (l.map Int.ofNat)) [(p : Int)] = sof ((l ++ [p]).map Int.ofNat) := by
  unfold sof swith
  rw [List.map_append, List.foldl_append]
  rfl
theorem with_lit {s : Nat} (hs : S64 s) (p : Nat) {r : Nat} (hr : swith s [(p : Int)] = r) {w : World} {v : Value} (hv : Ints w v [(p : Int)]) :
    Calls Tryd.prog 22 #[.int .u64 (s : Int), v] w fun e w' => e = .returned (.int .u64 (r : Int)) ∧ w = w' := by
  subst hr; exact with_any hs hv (by simp)
set_option maxRecDepth 20000 in
set_option maxHeartbeats 400000 in
theorem those1_any {s : Nat} (hs : S64 s) {v : Value} {claims : List Itm} {w : World} (hT : Tab w) (hv : Items w v claims) (hm : claims.length ≤ 9223372036854775807) {n bn : Nat} (hc : w.cell? ⟨bn, 0, none⟩ = some (.int .u64 (n : Int))) :
    Calls Tryd.prog 89 #[.int .u64 (s : Int), v, .func (.func 88) #[] #[.pointer (some ⟨bn, 0, none⟩)]] w fun e w' => e = .returned (.int .u64 (sthose s claims (ihold n) : Nat)) ∧ Below w.heap.size w w' := by
  have HT := Lib.hid hT
  have HBN := Lib.hid (World.block_lt_of_cell? w _ hc)
  have HC := Lib.hid hc
  obtain ⟨A, c, rfl, _⟩ := hv.slice
  have HV := Lib.hid hv
  clear hT hc hv
  obtain ⟨l, hl⟩ : ∃ l, l = slist s := ⟨_, rfl⟩
  obtain ⟨p, hp⟩ : ∃ p : Itm → Bool, p = (ihold n) := ⟨_, rfl⟩
  have hlen : l.length ≤ 64 := by rw [hl]; exact slist_le s
  have HL := Lib.hid hl
  have HP := Lib.hid hp
  clear hl hp
  obtain ⟨m, hm'⟩ : ∃ m, m = l.length := ⟨_, rfl⟩
  have hm64 : m ≤ 64 := by omega
  have HM := Lib.hid hm'
  clear hm' hlen
  go_enter Tryd.func89, Tryd.ntmps89
  go_wp2_with fail
  refine (list_any hs HT.out).mono ?_
  rintro e w1 ⟨vl, rfl, hb1, hvl⟩
  rw [← HL.out] at hvl
  have HB1 := Lib.hid hb1
  obtain ⟨A1, c1, rfl, _⟩ := hvl.slice
  have HVL := Lib.hid hvl
  clear hb1 hvl
  rw [← HM.out]
  go_wp2_with fail
  go_loopw [7, 13] (fun u i wr => ∃ k : Nat, k ≤ m ∧ i = .int .i64 k ∧ u = .int .u64 (sof ((thoseL (l.take k) claims p).map Int.ofNat) : Nat) ∧ Hid (Below w1.heap.size w1 wr)) (fun _ i _ => m - (intOf i).toNat)
  case atStart => exact ⟨0, by omega, rfl, rfl, Below.refl _ _⟩
  case round =>
    obtain ⟨k, hk, rfl, rfl, HB2⟩ := hrel
    by_cases hlt : k < m
    · have hlt2 : k < l.length := by rw [← HM.out]; exact hlt
      have hl2 := HVL.out.below (one_stays _) (by decide) HB2.out
      rw [← HM.out] at hl2
      obtain ⟨b, off, rfl, hcell⟩ := Nats.at hl2 k hlt2
      have htk := thoseL_take l claims p k hlt2
      obtain ⟨q, hq⟩ : ∃ q, q = l[k] := ⟨_, rfl⟩
      rw [← hq] at hcell htk
      clear hq hl2 hlt2
      have HTK := Lib.hid htk
      clear htk
      have HBR := Lib.hid (btr HB1.out HB2.out)
      by_cases hkc : k < claims.length
      · have hkc' : (k : Int) < (claims.length : Int) := by omega
        obtain ⟨b2, off2, cs, rfl, hK, hcl, hrange⟩ := Sl.at (HV.out.below HBR.out) k hkc
        have hget : claims[k]? = some claims[k] := by simp [hkc]
        rw [hget] at HTK
        obtain ⟨x, hx⟩ : ∃ x, x = claims[k] := ⟨_, rfl⟩
        rw [← hx] at hK HTK
        obtain ⟨r, hr⟩ : ∃ r, p x = r := ⟨_, rfl⟩
        have HR : Hid ((ihold n) x = r) := by rw [HP.out] at hr; exact hr
        simp only at HTK
        rw [hr] at HTK
        have HRG := Lib.hid hrange
        have HCL := Lib.hid hcl
        clear hrange hcl hget hx hr hkc
        cases r
        · go_wp2_with (refine wpList_load_mid_g rfl 68 _ rfl b2 (off2 + k * 18) rfl cs _ HRG.out Tryd.underlying68 rfl (by rw [HCL.out]; exact item_info) ?_)
          refine ((stay1_eq (Flags.of hK) (n := n) (bn := bn) ((HBR.out.cell (p := ⟨bn, 0, none⟩) HBN.out).trans HC.out) HR.out)).mono ?_
          rintro e w2 ⟨rfl, hb2⟩
          have HB3 := Lib.hid (btr HB2.out hb2)
          clear hb2 hK
          go_wp2_with fail
          go_roundw
          case rel =>
            refine ⟨k + 1, by omega, by go_num, ?_, HB3⟩
            rw [HTK.out]
            simp
          case measure => simp [intOf] <;> omega
        · go_wp2_with (refine wpList_load_mid_g rfl 68 _ rfl b2 (off2 + k * 18) rfl cs _ HRG.out Tryd.underlying68 rfl (by rw [HCL.out]; exact item_info) ?_)
          refine ((stay1_eq (Flags.of hK) (n := n) (bn := bn) ((HBR.out.cell (p := ⟨bn, 0, none⟩) HBN.out).trans HC.out) HR.out)).mono ?_
          rintro e w2 ⟨rfl, hb2⟩
          have HB3 := Lib.hid (btr HB2.out hb2)
          clear hb2 hK
          go_wp2_with fail
          refine (with_lit (S64.of _) q (sof_snoc _ _) (by exact Ints.lit _ _ _ _ _ _ (by simp) rfl rfl)).mono ?_
          rintro e w3 ⟨rfl, rfl⟩
          go_wp2_with fail
          go_roundw
          case rel =>
            refine ⟨k + 1, by omega, by go_num, ?_, bal HB3.out _⟩
            rw [HTK.out]
            simp
          case measure => simp [intOf] <;> omega
      · have hkc' : ¬ (k : Int) < (claims.length : Int) := by omega
        have hget : claims[k]? = none := by simp; omega
        rw [hget] at HTK
        clear hget
        go_wp2_with fail
        go_roundw
        case rel =>
          refine ⟨k + 1, by omega, by go_num, ?_, HB2⟩
          rw [HTK.out]
          simp
        case measure => simp [intOf] <;> omega
    · obtain rfl : k = m := by omega
      clear hlt hk
      go_wp2_with fail
      go_ret
      refine ⟨?_, btr HB1.out HB2.out⟩
      rw [List.take_of_length_le (by rw [← HM.out]; omega)]
      unfold sthose
      rw [← HL.out, HP.out]
      rfl
set_option maxRecDepth 20000 in
set_option maxHeartbeats 400000 in
theorem those2_any {s : Nat} (hs : S64 s) {v : Value} {claims : List Itm} {w : World} (hT : Tab w) (hv : Items w v claims) (hm : claims.length ≤ 9223372036854775807) {n bn bh : Nat} (hc : w.cell? ⟨bn, 0, none⟩ = some (.int .u64 (n : Int))) (hh : w.cell? ⟨bh, 0, none⟩ = some (.func (.func 88) #[] #[.pointer (some ⟨bn, 0, none⟩)])) :
    Calls Tryd.prog 89 #[.int .u64 (s : Int), v, .func (.func 90) #[] #[.pointer (some ⟨bh, 0, none⟩)]] w fun e w' => e = .returned (.int .u64 (sthose s claims (fun x => ihold n x && x.direct) : Nat)) ∧ Below w.heap.size w w' := by
  have HT := Lib.hid hT
  have HBN := Lib.hid (World.block_lt_of_cell? w _ hc)
  have HC := Lib.hid hc
  obtain ⟨A, c, rfl, _⟩ := hv.slice
  have HV := Lib.hid hv
  clear hT hc hv
  have HBH := Lib.hid (World.block_lt_of_cell? w _ hh)
  have HH := Lib.hid hh
  clear hh
  obtain ⟨l, hl⟩ : ∃ l, l = slist s := ⟨_, rfl⟩
  obtain ⟨p, hp⟩ : ∃ p : Itm → Bool, p = (fun x => ihold n x && x.direct) := ⟨_, rfl⟩
  have hlen : l.length ≤ 64 := by rw [hl]; exact slist_le s
  have HL := Lib.hid hl
  have HP := Lib.hid hp
  clear hl hp
  obtain ⟨m, hm'⟩ : ∃ m, m = l.length := ⟨_, rfl⟩
  have hm64 : m ≤ 64 := by omega
  have HM := Lib.hid hm'
  clear hm' hlen
  go_enter Tryd.func89, Tryd.ntmps89
  go_wp2_with fail
  refine (list_any hs HT.out).mono ?_
  rintro e w1 ⟨vl, rfl, hb1, hvl⟩
  rw [← HL.out] at hvl
  have HB1 := Lib.hid hb1
  obtain ⟨A1, c1, rfl, _⟩ := hvl.slice
  have HVL := Lib.hid hvl
  clear hb1 hvl
  rw [← HM.out]
  go_wp2_with fail
  go_loopw [7, 13] (fun u i wr => ∃ k : Nat, k ≤ m ∧ i = .int .i64 k ∧ u = .int .u64 (sof ((thoseL (l.take k) claims p).map Int.ofNat) : Nat) ∧ Hid (Below w1.heap.size w1 wr)) (fun _ i _ => m - (intOf i).toNat)
  case atStart => exact ⟨0, by omega, rfl, rfl, Below.refl _ _⟩
  case round =>
    obtain ⟨k, hk, rfl, rfl, HB2⟩ := hrel
    by_cases hlt : k < m
    · have hlt2 : k < l.length := by rw [← HM.out]; exact hlt
      have hl2 := HVL.out.below (one_stays _) (by decide) HB2.out
      rw [← HM.out] at hl2
      obtain ⟨b, off, rfl, hcell⟩ := Nats.at hl2 k hlt2
      have htk := thoseL_take l claims p k hlt2
      obtain ⟨q, hq⟩ : ∃ q, q = l[k] := ⟨_, rfl⟩
      rw [← hq] at hcell htk
      clear hq hl2 hlt2
      have HTK := Lib.hid htk
      clear htk
      have HBR := Lib.hid (btr HB1.out HB2.out)
      by_cases hkc : k < claims.length
      · have hkc' : (k : Int) < (claims.length : Int) := by omega
        obtain ⟨b2, off2, cs, rfl, hK, hcl, hrange⟩ := Sl.at (HV.out.below HBR.out) k hkc
        have hget : claims[k]? = some claims[k] := by simp [hkc]
        rw [hget] at HTK
        obtain ⟨x, hx⟩ : ∃ x, x = claims[k] := ⟨_, rfl⟩
        rw [← hx] at hK HTK
        obtain ⟨r, hr⟩ : ∃ r, p x = r := ⟨_, rfl⟩
        have HR : Hid ((fun x => ihold n x && x.direct) x = r) := by rw [HP.out] at hr; exact hr
        simp only at HTK
        rw [hr] at HTK
        have HRG := Lib.hid hrange
        have HCL := Lib.hid hcl
        clear hrange hcl hget hx hr hkc
        cases r
        · go_wp2_with (refine wpList_load_mid_g rfl 68 _ rfl b2 (off2 + k * 18) rfl cs _ HRG.out Tryd.underlying68 rfl (by rw [HCL.out]; exact item_info) ?_)
          refine ((stay2_eq (Flags.of hK) (n := n) (bn := bn) (bh := bh) ((HBR.out.cell (p := ⟨bn, 0, none⟩) HBN.out).trans HC.out) ((HBR.out.cell (p := ⟨bh, 0, none⟩) HBH.out).trans HH.out) HR.out)).mono ?_
          rintro e w2 ⟨rfl, hb2⟩
          have HB3 := Lib.hid (btr HB2.out hb2)
          clear hb2 hK
          go_wp2_with fail
          go_roundw
          case rel =>
            refine ⟨k + 1, by omega, by go_num, ?_, HB3⟩
            rw [HTK.out]
            simp
          case measure => simp [intOf] <;> omega
        · go_wp2_with (refine wpList_load_mid_g rfl 68 _ rfl b2 (off2 + k * 18) rfl cs _ HRG.out Tryd.underlying68 rfl (by rw [HCL.out]; exact item_info) ?_)
          refine ((stay2_eq (Flags.of hK) (n := n) (bn := bn) (bh := bh) ((HBR.out.cell (p := ⟨bn, 0, none⟩) HBN.out).trans HC.out) ((HBR.out.cell (p := ⟨bh, 0, none⟩) HBH.out).trans HH.out) HR.out)).mono ?_
          rintro e w2 ⟨rfl, hb2⟩
          have HB3 := Lib.hid (btr HB2.out hb2)
          clear hb2 hK
          go_wp2_with fail
          refine (with_lit (S64.of _) q (sof_snoc _ _) (by exact Ints.lit _ _ _ _ _ _ (by simp) rfl rfl)).mono ?_
          rintro e w3 ⟨rfl, rfl⟩
          go_wp2_with fail
          go_roundw
          case rel =>
            refine ⟨k + 1, by omega, by go_num, ?_, bal HB3.out _⟩
            rw [HTK.out]
            simp
          case measure => simp [intOf] <;> omega
      · have hkc' : ¬ (k : Int) < (claims.length : Int) := by omega
        have hget : claims[k]? = none := by simp; omega
        rw [hget] at HTK
        clear hget
        go_wp2_with fail
        go_roundw
        case rel =>
          refine ⟨k + 1, by omega, by go_num, ?_, HB2⟩
          rw [HTK.out]
          simp
        case measure => simp [intOf] <;> omega
    · obtain rfl : k = m := by omega
      clear hlt hk
      go_wp2_with fail
      go_ret
      refine ⟨?_, btr HB1.out HB2.out⟩
      rw [List.take_of_length_le (by rw [← HM.out]; omega)]
      unfold sthose
      rw [← HL.out, HP.out]
      rfl
end Go.Proofs.YtheeclmpkddgjaaDoor
