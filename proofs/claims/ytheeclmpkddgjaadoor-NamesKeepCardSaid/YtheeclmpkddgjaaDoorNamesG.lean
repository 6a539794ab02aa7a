import Derived.Test.YtheeclmpkddgjaaDoorPureD
import Derived.Test.YtheeclmpkddgjaaDoorNamesF
namespace Go.Proofs.YtheeclmpkddgjaaDoor
set_option linter.unusedVariables false
set_option linter.unusedSimpArgs false
open Go.RowKit
def holdAt (n : Nat) (claims : List Itm) (k : Nat) : Bool := match claims[k]? with
  | some x => ihold n x
  | none => false
theorem holdAt_some {n : Nat} {claims : List Itm} {k : Nat} (h : k < claims.length) : holdAt n claims k = ihold n claims[k] := by
  unfold holdAt; simp [h]
theorem holdAt_none {n : Nat} {claims : List Itm} {k : Nat} (h : ¬ k < claims.length) : holdAt n claims k = false := by
  unfold holdAt; rw [List.getElem?_eq_none (by omega)]
set_option maxRecDepth 20000 in
set_option maxHeartbeats 1000000 in
theorem holds_any {n : Nat} {v : Value} {claims : List Itm} {w : World} (hv : Items w v claims) (hm : claims.length ≤ 9223372036854775807) (k : Nat) {r : Bool} (hr : holdAt n claims k = r) :
    Calls Tryd.prog 87 #[.int .u64 (n : Int), v, .int .i64 (k : Int)] w fun e w' => e = .returned (.bool r) ∧ w = w' := by
  obtain ⟨A, c, rfl, _⟩ := hv.slice
  by_cases hk : k < claims.length
  · have hk' : (k : Int) < (claims.length : Int) := by omega
    obtain ⟨b, off, cs, rfl, hK, hcl, hrange⟩ := Sl.at hv k hk
    rw [holdAt_some hk] at hr
    obtain ⟨x, hx⟩ : ∃ x, x = claims[k] := ⟨_, rfl⟩
    rw [← hx] at hr hK
    have hF := Flags.of hK
    have h3 : w.cell? ⟨b, off + k * 18 + 3, none⟩ = some (.int .u64 (x.holds : Int)) := hrange 3 _ (by simpa using hF.holds)
    have h4 : w.cell? ⟨b, off + k * 18 + 4, none⟩ = some (.bool x.has) := hrange 4 _ (by simpa using hF.has)
    have e : r = (x.has && ((x.holds : Int) == (n : Int))) := by rw [← hr, cast_beq]; rfl
    rw [e]
    have HV := Lib.hid hv
    clear hv hcl hrange hK hx hF hr e hk
    cases hh : x.has
    all_goals
      rw [hh] at h4
      have HH := Lib.hid hh
      clear hh
      go_enter Tryd.func87, Tryd.ntmps87
      go_wp2_with fail
      go_ret
      exact ⟨rfl, rfl⟩
  · rw [holdAt_none hk] at hr
    have hk' : ¬ (k : Int) < (claims.length : Int) := by omega
    subst hr
    have HV := Lib.hid hv
    clear hv hk
    go_enter Tryd.func87, Tryd.ntmps87
    go_wp2_with fail
    go_ret
    exact ⟨rfl, rfl⟩
theorem wrap_pow {q : Nat} (hq : q < 64) : IntKind.u64.wrap ((2 : Int) ^ q) = ((sbit q : Nat) : Int) := by
  have e : ((2 : Int) ^ q) = ((sbit q : Nat) : Int) := by
    unfold sbit; rw [if_pos (by omega)]; simp
  rw [e]
  exact wrap_nat _ (S64.bit q).lt
theorem sof_or (l : List Nat) (q : Nat) : Go.bits .or .u64 ((sof (l.map Int.ofNat) : Nat) : Int) ((sbit q : Nat) : Int) = ((sof ((l ++ [q]).map Int.ofNat) : Nat) : Int) := by
  rw [or_nat (S64.of _) (S64.bit _)]
  congr 1
  unfold sof swith
  rw [List.map_append, List.foldl_append]
  rfl
set_option maxRecDepth 20000 in
set_option maxHeartbeats 2000000 in
theorem refStay_any {n s : Nat} (hs : S64 s) {v : Value} {claims : List Itm} {w : World} (hv : Items w v claims) (hm : claims.length ≤ 9223372036854775807) :
    Calls Tryd.prog 49 #[.int .u64 (n : Int), .int .u64 (s : Int), v] w fun e w' => e = .returned (.int .u64 (sstay n s claims : Nat)) ∧ Below w.heap.size w w' := by
  obtain ⟨A, c, rfl, _⟩ := hv.slice
  have HV := Lib.hid hv
  clear hv
  obtain ⟨l, hl⟩ : ∃ l, l = slist s := ⟨_, rfl⟩
  obtain ⟨p, hp⟩ : ∃ p : Itm → Bool, p = fun x => ihold n x && x.direct := ⟨_, rfl⟩
  have hlen : l.length ≤ 64 := by rw [hl]; exact slist_le s
  have hl64 : ∀ q, q ∈ l → q < 64 := fun q hq => (mem_slist.1 (by rw [← hl]; exact hq)).1
  have HL64 := Lib.hid hl64
  have HL := Lib.hid hl
  have HP := Lib.hid hp
  clear hl hp hl64
  obtain ⟨m, hm'⟩ : ∃ m, m = l.length := ⟨_, rfl⟩
  have hm64 : m ≤ 64 := by omega
  have HM := Lib.hid hm'
  clear hm' hlen
  go_enter Tryd.func49, Tryd.ntmps49
  go_wp2_with fail
  refine (refList_any hs _).mono ?_
  rintro e w1 ⟨vl, rfl, hb1, hvl⟩
  rw [← HL.out] at hvl
  have HB1 := Lib.hid hb1
  obtain ⟨A1, c1, rfl, _⟩ := hvl.slice
  have HVL := Lib.hid hvl
  have HV1 := Lib.hid (HV.out.below hb1)
  clear hb1 hvl
  rw [← HM.out]
  go_wp2_with fail
  go_loop [8, 9] (fun u i => ∃ k : Nat, k ≤ m ∧ i = .int .i64 k ∧ u = .int .u64 (sof ((thoseL (l.take k) claims p).map Int.ofNat) : Nat)) (fun _ i => m - (intOf i).toNat)
  case atStart => exact ⟨0, by omega, rfl, rfl⟩
  case round =>
    obtain ⟨k, hk, rfl, rfl⟩ := hrel
    by_cases hlt : k < m
    · have hlt2 : k < l.length := by rw [← HM.out]; exact hlt
      have hl2 := HVL.out
      rw [← HM.out] at hl2
      obtain ⟨b, off, rfl, hcell⟩ := Nats.at hl2 k hlt2
      have htk := thoseL_take l claims p k hlt2
      obtain ⟨q, hq⟩ : ∃ q, q = l[k] := ⟨_, rfl⟩
      have hq64 : q < 64 := HL64.out q (by rw [hq]; exact List.getElem_mem hlt2)
      rw [← hq] at hcell htk
      clear hq hl2 hlt2
      have HTK := Lib.hid htk
      clear htk
      by_cases hkc : k < claims.length
      · have hkc' : (k : Int) < (claims.length : Int) := by omega
        obtain ⟨b2, off2, cs, rfl, hK, hcl, hrange⟩ := Sl.at HV1.out k hkc
        have hget : claims[k]? = some claims[k] := by simp [hkc]
        rw [hget] at HTK
        have HHA := Lib.hid (holdAt_some (n := n) hkc)
        obtain ⟨x, hx⟩ : ∃ x, x = claims[k] := ⟨_, rfl⟩
        rw [← hx] at hK HTK HHA
        have hF := Flags.of hK
        have h5 : w1.cell? ⟨b2, off2 + k * 18 + 5, none⟩ = some (.bool x.direct) := hrange 5 _ (by simpa using hF.direct)
        clear hrange hcl hget hx hF hK hkc
        simp only at HTK
        have hpx : p x = (ihold n x && x.direct) := by rw [HP.out]
        rw [hpx] at HTK
        clear hpx
        cases hi : ihold n x
        · rw [hi] at HHA HTK
          clear hi
          go_wp2_with fail
          refine (holds_any HV1.out hm k HHA.out).mono ?_
          rintro e w2 ⟨rfl, rfl⟩
          go_wp2_with fail
          go_round
          case rel =>
            refine ⟨k + 1, by omega, by go_num, ?_⟩
            rw [HTK.out]
            simp
          case measure => simp [intOf] <;> omega
        · rw [hi] at HHA HTK
          clear hi
          cases hd : x.direct
          · rw [hd] at h5 HTK
            have HD := Lib.hid hd
            clear hd
            go_wp2_with fail
            refine (holds_any HV1.out hm k HHA.out).mono ?_
            rintro e w2 ⟨rfl, rfl⟩
            go_wp2_with fail
            go_round
            case rel =>
              refine ⟨k + 1, by omega, by go_num, ?_⟩
              rw [HTK.out]
              simp
            case measure => simp [intOf] <;> omega
          · rw [hd] at h5 HTK
            have HD := Lib.hid hd
            have hsh := wrap_pow hq64
            clear hd
            go_wp2_with fail
            refine (holds_any HV1.out hm k HHA.out).mono ?_
            rintro e w2 ⟨rfl, rfl⟩
            go_wp2_with fail
            go_round
            case rel =>
              refine ⟨k + 1, by omega, by go_num, ?_⟩
              rw [HTK.out]
              have := sof_or (thoseL (l.take k) claims p) q
              simp only [Bool.and_self, if_true]
              rw [← this]
            case measure => simp [intOf] <;> omega
      · have hget : claims[k]? = none := by simp; omega
        rw [hget] at HTK
        have HHA := Lib.hid (holdAt_none (n := n) hkc)
        clear hget hkc
        go_wp2_with fail
        refine (holds_any HV1.out hm k HHA.out).mono ?_
        rintro e w2 ⟨rfl, rfl⟩
        go_wp2_with fail
        go_round
        case rel =>
          refine ⟨k + 1, by omega, by go_num, ?_⟩
          rw [HTK.out]
          simp
        case measure => simp [intOf] <;> omega
    · obtain rfl : k = m := by omega
      clear hlt hk
      rw [List.take_of_length_le (by rw [← HM.out]; omega)]
      obtain ⟨d, hd⟩ : ∃ d, d = sof ((thoseL l claims p).map Int.ofNat) := ⟨_, rfl⟩
      have hst : sstay n s claims = if d = 0 then stfirst (thoseL l claims (ihold n)) else d := by
        unfold sstay
        rw [first_min, hd]
        unfold sthose
        rw [← HL.out, HP.out]
      have HST := Lib.hid hst
      rw [← hd]
      clear hst hd
      by_cases hd0 : d = 0
      · subst hd0
        have hst0 : sstay n s claims = stfirst (thoseL l claims (ihold n)) := HST.out
        have HST0 := Lib.hid hst0
        clear hst0
        go_wp2_with fail
        go_loop [8, 10] (fun u i => ∃ j : Nat, j ≤ k ∧ i = .int .i64 j ∧ u = .int .u64 (stfirst (thoseL (l.take j) claims (ihold n)) : Nat)) (fun _ i => k - (intOf i).toNat)
        case atStart => exact ⟨0, by omega, rfl, rfl⟩
        case round =>
          obtain ⟨j, hj, rfl, rfl⟩ := hrel
          have hpre := thoseL_prefix claims (ihold n) l j
          by_cases hjk : j < k
          · have hlt2 : j < l.length := by rw [← HM.out]; exact hjk
            have hl2 := HVL.out
            rw [← HM.out] at hl2
            obtain ⟨b, off, rfl, hcell⟩ := Nats.at hl2 j hlt2
            have htk := thoseL_take l claims (ihold n) j hlt2
            obtain ⟨q, hq⟩ : ∃ q, q = l[j] := ⟨_, rfl⟩
            have hq64 : q < 64 := HL64.out q (by rw [hq]; exact List.getElem_mem hlt2)
            rw [← hq] at hcell htk
            clear hq hl2 hlt2
            have htk2 : thoseL (l.take (j + 1)) claims (ihold n) = thoseL (l.take j) claims (ihold n) ++ (if holdAt n claims j then [q] else []) := by
              rw [htk]
              unfold holdAt
              cases claims[j]? <;> rfl
            have HTK := Lib.hid htk2
            clear htk htk2
            cases hL : thoseL (l.take j) claims (ihold n) with
            | nil =>
              rw [hL] at HTK
              rw [show stfirst [] = 0 from rfl]
              clear hpre
              cases hh : holdAt n claims j
              · rw [hh] at HTK
                have HH := Lib.hid hh
                have HLL := Lib.hid hL
                clear hh hL
                go_wp2_with fail
                refine (holds_any HV1.out hm j HH.out).mono ?_
                rintro e w2 ⟨rfl, rfl⟩
                go_wp2_with fail
                go_round
                case rel =>
                  refine ⟨j + 1, by omega, by go_num, ?_⟩
                  rw [HTK.out]
                  rfl
                case measure => simp [intOf] <;> omega
              · rw [hh] at HTK
                have HH := Lib.hid hh
                have HLL := Lib.hid hL
                have hsh := wrap_pow hq64
                clear hh hL
                go_wp2_with fail
                refine (holds_any HV1.out hm j HH.out).mono ?_
                rintro e w2 ⟨rfl, rfl⟩
                go_wp2_with fail
                go_round
                case rel =>
                  refine ⟨j + 1, by omega, by go_num, ?_⟩
                  rw [HTK.out]
                  show Value.int .u64 ((sbit q : Nat) : Int) = Value.int .u64 ((2 ^ q : Nat) : Int)
                  unfold sbit
                  rw [if_pos (by omega)]
                  simp
                case measure => simp [intOf] <;> omega
            | cons p0 L0 =>
              rw [hL] at hpre
              obtain ⟨t0, ht0⟩ := hpre
              have hfin : sstay n s claims = stfirst (p0 :: L0) := by rw [HST0.out, ← ht0]; rfl
              obtain ⟨d0, hd0⟩ : ∃ d0, d0 = stfirst (p0 :: L0) := ⟨_, rfl⟩
              have hne : ((d0 : Int) == 0) = false := by
                rw [beq_eq_false_iff_ne, hd0]
                have : 0 < 2 ^ p0 := Nat.two_pow_pos p0
                show ((2 ^ p0 : Nat) : Int) ≠ 0
                omega
              rw [← hd0] at hfin
              rw [← hd0]
              have HF := Lib.hid hfin
              have HLL := Lib.hid hL
              clear hfin hL ht0 hd0
              go_wp2_with fail
              go_ret
              exact ⟨by rw [HF.out]; rfl, HB1.out⟩
          · obtain rfl : j = k := by omega
            clear hjk hj hpre
            have hfin : sstay n s claims = stfirst (thoseL (l.take j) claims (ihold n)) := by rw [HST0.out, List.take_of_length_le (by rw [← HM.out]; omega)]
            have HF := Lib.hid hfin
            clear hfin
            go_wp2_with fail
            go_ret
            exact ⟨by rw [HF.out]; rfl, HB1.out⟩
      · have hst0 : sstay n s claims = d := by rw [HST.out, if_neg hd0]
        have hne : ((d : Int) == 0) = false := by rw [beq_eq_false_iff_ne]; omega
        have HF := Lib.hid hst0
        clear hst0 hd0
        go_wp2_with fail
        go_loop [8, 10] (fun u i => i = .int .i64 0 ∧ u = .int .u64 (d : Nat)) (fun _ i => 0)
        case atStart => exact ⟨rfl, rfl⟩
        case round =>
          obtain ⟨rfl, rfl⟩ := hrel
          by_cases hk0 : (0 : Int) < (k : Int)
          · go_wp2_with fail
            go_ret
            exact ⟨by rw [HF.out]; rfl, HB1.out⟩
          · obtain rfl : k = 0 := by omega
            go_wp2_with fail
            go_ret
            exact ⟨by rw [HF.out]; rfl, HB1.out⟩
end Go.Proofs.YtheeclmpkddgjaaDoor
