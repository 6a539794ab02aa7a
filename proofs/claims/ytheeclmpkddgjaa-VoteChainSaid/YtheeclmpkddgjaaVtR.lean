import Derived.Test.YtheeclmpkddgjaaVtH
namespace Go.Proofs.Ytheeclmpkddgjaa
set_option linter.unusedVariables false
set_option linter.unusedSimpArgs false
open Go.RowKit
theorem vlast_first (L : List Rcd) (i : Nat) (hi : i < L.length) (hmax : ∀ r, r ∈ L → r.last.number ≤ L[i].last.number) (hmin : ∀ j (hj : j < L.length), j < i → ∃ r, r ∈ L ∧ L[j].last.number < r.last.number) : vlast L = L[i].last := by
  have h1 : vlast (L.take (i + 1)) = L[i].last := by
    rw [vlast_take L i hi]
    by_cases h0 : i = 0
    · rw [if_pos (.inl h0)]
    · have hne : L.take i ≠ [] := by
        intro h
        have := congrArg List.length h
        rw [List.length_take] at this
        simp only [List.length_nil] at this
        omega
      obtain ⟨⟨r, hr, he⟩, _⟩ := vlast_spec hne
      obtain ⟨j, hj, rfl⟩ := List.getElem_of_mem hr
      rw [List.length_take] at hj
      obtain ⟨r', hr', hlt⟩ := hmin j (by omega) (by omega)
      have h3 := hmax r' hr'
      have h4 : (vlast (L.take i)).number < L[i].last.number := by rw [he, List.getElem_take]; omega
      rw [if_pos (.inr h4)]
  have h2 : ∀ d, i + 1 + d ≤ L.length → vlast (L.take (i + 1 + d)) = L[i].last := by
    intro d
    induction d with
    | zero => intro _; exact h1
    | succ d ih =>
      intro hd
      have ih := ih (by omega)
      rw [show i + 1 + (d + 1) = (i + 1 + d) + 1 by omega, vlast_take L _ (by omega), ih, if_neg]
      rintro (h | h)
      · omega
      · have := hmax L[i + 1 + d] (List.getElem_mem _)
        omega
  have := h2 (L.length - (i + 1)) (by omega)
  rwa [List.take_of_length_le (by omega)] at this
def allLe (L : List Rcd) (m k : Nat) : Bool := (L.take k).all fun r => decide (r.last.number ≤ m)
theorem allLe_succ (L : List Rcd) (m k : Nat) (hk : k < L.length) : allLe L m (k + 1) = (allLe L m k && decide (L[k].last.number ≤ m)) := by
  unfold allLe
  rw [List.take_succ_eq_append_getElem hk, List.all_append]
  simp
set_option maxRecDepth 20000 in
set_option maxHeartbeats 4000000 in
theorem refLast_any {w : World} {v : Value} {L : List Rcd} (hv : Recs w v L) (hl : L.length ≤ 1000) {x : Vw} (hx : vlast L = x) :
    Calls Try.prog 12 #[v] w fun e w' => e = .returned (.agg #[.int .u64 (x.number : Int), .int .u64 (x.epoch : Int), .int .i64 x.rep, .int .u64 (x.members : Int)]) ∧ Below w.heap.size w w' := by
  obtain ⟨A, c, rfl, _⟩ := hv.slice
  obtain ⟨n, hn⟩ : ∃ n, n = L.length := ⟨_, rfl⟩
  have hn6 : n ≤ 1000 := by omega
  have HN := Lib.hid hn
  rw [← hn] at hv ⊢
  have hbal : Below w.heap.size w (w.alloc (.cells #[.int .u64 0, .int .u64 0, .int .i64 0, .int .u64 0] 31)) := bal (Below.refl _ _) _
  obtain ⟨w1, hw1⟩ : ∃ w1, w1 = w.alloc (.cells #[.int .u64 0, .int .u64 0, .int .i64 0, .int .u64 0] 31) := ⟨_, rfl⟩
  have hblk : Blk w1 w.heap.size 31 (vwA Vw.none) := by rw [hw1]; exact Blk.new _ _ _ rfl
  rw [← hw1] at hbal
  have HV := Lib.hid (hv.below hbal)
  have HB0 := Lib.hid hbal
  have HBLK := Lib.hid hblk
  have HX := Lib.hid hx
  have HW1 := Lib.hid hw1
  obtain ⟨g, hg⟩ : ∃ g, g = w.heap.size := ⟨_, rfl⟩
  rw [← hg] at HBLK
  have HG := Lib.hid hg
  clear hv hl hn hbal hblk hx hw1
  go_enter Try.func12, Try.ntmps12
  go_wp2_with fail
  rw [← HW1.out, ← hg]
  clear hg
  go_loopw [3] (fun i wr => ∃ k : Nat, k ≤ n ∧ i = .int .i64 k ∧ Hid (∀ j (hj : j < L.length), j < k → ∃ r, r ∈ L ∧ L[j].last.number < r.last.number) ∧ Hid (Below w1.heap.size w1 wr)) (fun i _ => n - (intOf i).toNat)
  case atStart => exact ⟨0, by omega, rfl, fun j _ hj => by omega, Below.refl _ _⟩
  case round =>
    obtain ⟨k, hk, rfl, HJ, HB⟩ := hrel
    by_cases hlt : k < n
    · have hlt2 : k < L.length := by rw [← HN.out]; exact hlt
      obtain ⟨b, off, A2, c2, rfl, -⟩ := HV.out.in HB.out k hlt2
      obtain ⟨r, hr⟩ : ∃ r, r = L[k] := ⟨_, rfl⟩
      have HRK : Hid (∃ h : k < L.length, L[k]'h = r) := ⟨hlt2, hr.symm⟩
      clear hr hlt2
      go_wp2_with fail
      go_loopw [4, 5] (fun o i wr => ∃ j : Nat, j ≤ n ∧ i = .int .i64 j ∧ o = .bool (allLe L r.last.number j) ∧ Hid (Below w1.heap.size w1 wr)) (fun _ i _ => n - (intOf i).toNat)
      case atStart => exact ⟨0, by omega, rfl, rfl, HB.out⟩
      case round =>
        clear HB
        obtain ⟨j, hj, rfl, rfl, HB⟩ := hrel
        obtain ⟨hkl, hre⟩ := HRK.out
        obtain ⟨b4, off4, A4, c4, hA4, d0, d1, d2, d3, d4, hbl, hok, hpv⟩ := HV.out.in HB.out k hkl
        injection hA4 with hA4
        injection hA4 with hA41 hA42
        subst hA41 hA42
        rw [hre] at d0 d1 d2 d3
        clear d4 hok hpv
        by_cases hjl : j < n
        · have hjl2 : j < L.length := by rw [← HN.out]; exact hjl
          obtain ⟨b3, off3, A3, c3, hA3, e0, -, -, -, -, hbl3, -, -⟩ := HV.out.in HB.out j hjl2
          injection hA3 with hA3
          injection hA3 with hA31 hA32
          subst hA31 hA32
          have hsu := allLe_succ L r.last.number j hjl2
          obtain ⟨s, hs⟩ : ∃ s, s = L[j].last.number := ⟨_, rfl⟩
          rw [← hs] at e0 hsu
          have hjI0 : (0 : Int) ≤ (j : Int) := Int.natCast_nonneg _
          have hjI1 : (j : Int) < (n : Int) := by omega
          have hkI0 : (0 : Int) ≤ (k : Int) := Int.natCast_nonneg _
          have hkI1 : (k : Int) < (n : Int) := by omega
          clear hs hjl2
          rcases Bool.eq_false_or_eq_true (allLe L r.last.number j) with ho | ho
          · by_cases hsr : s ≤ r.last.number
            · have hd : decide (s ≤ r.last.number) = true := decide_eq_true hsr
              rw [ho, hd] at hsu
              have HSU := Lib.hid hsu
              rw [ho]
              clear hsu ho
              go_wp2_with fail
              go_quiet (fail)
              go_wp2_with fail
              go_roundw
              case rel => exact ⟨j + 1, by omega, by go_num, by rw [HSU.out]; rfl, bdrewN HB.out _⟩
              case measure => simp [intOf] <;> omega
            · have hd : decide (s ≤ r.last.number) = false := decide_eq_false hsr
              rw [ho, hd] at hsu
              have HSU := Lib.hid hsu
              rw [ho]
              clear hsu ho
              go_wp2_with fail
              go_quiet (fail)
              go_wp2_with fail
              go_roundw
              case rel => exact ⟨j + 1, by omega, by go_num, by rw [HSU.out]; rfl, bdrewN HB.out _⟩
              case measure => simp [intOf] <;> omega
          · rw [ho, Bool.false_and] at hsu
            have HSU := Lib.hid hsu
            rw [ho]
            clear hsu ho
            go_wp2_with fail
            go_quiet (fail)
            go_wp2_with fail
            go_roundw
            case rel => exact ⟨j + 1, by omega, by go_num, by rw [HSU.out], bdrewN HB.out _⟩
            case measure => simp [intOf] <;> omega
        · obtain rfl : j = n := by omega
          have HKL := Lib.hid hkl
          rcases Bool.eq_false_or_eq_true (allLe L r.last.number j) with ho | ho
          · have hxr : x = r.last := by
              rw [← HX.out, vlast_first L k hkl ?_ HJ.out, hre]
              intro q hq
              unfold allLe at ho
              rw [List.take_of_length_le (by rw [HN.out]; exact Nat.le_refl _), List.all_eq_true] at ho
              rw [hre]
              simpa using ho q hq
            have HXR := Lib.hid hxr
            have HBK := Lib.hid (HBLK.out.stay HB.out)
            rw [ho]
            clear hxr ho
            go_wp2_with (refine wpList_store_view rfl _ _ rfl g rfl Vw.none r.last rfl HBK.out ?_)
            refine bodyPost_ret (v := .agg (vwA r.last)) (by exact results_cell_row rfl _ _ g 31 _ (0, 0) _ rfl (HBK.out.row (vwA r.last)) Try.underlying31 rfl (by exact vw_isize)) rfl ⟨by rw [HXR.out]; rfl, ?_⟩
            exact bsetRow (HB0.out.trans (HB.out.mono HB0.out.size)) (by rw [HG.out]; exact Nat.le_refl _) _
          · have hex : ∃ q, q ∈ L ∧ r.last.number < q.last.number := by
              unfold allLe at ho
              rw [List.take_of_length_le (by rw [HN.out]; exact Nat.le_refl _), List.all_eq_false] at ho
              obtain ⟨q, hq, hh⟩ := ho
              exact ⟨q, hq, by simpa using hh⟩
            have HEX := Lib.hid hex
            rw [ho]
            clear hex ho
            go_wp2_with fail
            go_roundw
            case rel =>
              refine ⟨k + 1, by omega, by go_num, fun i hi hik => ?_, HB⟩
              by_cases e : i = k
              · subst e
                rw [hre]
                exact HEX.out
              · exact HJ.out i hi (by omega)
            case measure => simp [intOf] <;> omega
    · obtain rfl : k = n := by omega
      have hL : L = [] := by
        rcases L with _ | ⟨a, l⟩
        · rfl
        · exfalso
          obtain ⟨⟨r, hr, he⟩, hm⟩ := vlast_spec (l := a :: l) (by simp)
          obtain ⟨i, hi, hie⟩ := List.getElem_of_mem hr
          obtain ⟨q, hq, hlt⟩ := HJ.out i hi (by rw [HN.out]; exact hi)
          have := hm q hq
          rw [hie, ← he] at hlt
          omega
      have hxr : x = Vw.none := by rw [← HX.out, hL]; rfl
      have HXR := Lib.hid hxr
      have HBK := Lib.hid (HBLK.out.stay HB.out)
      clear hL hxr hlt hk
      go_wp2_with (refine wpList_store_view rfl _ _ rfl g rfl Vw.none Vw.none rfl HBK.out ?_)
      refine bodyPost_ret (v := .agg (vwA Vw.none)) (by exact results_cell_row rfl _ _ g 31 _ (0, 0) _ rfl (HBK.out.row (vwA Vw.none)) Try.underlying31 rfl (by exact vw_isize)) rfl ⟨by rw [HXR.out]; rfl, ?_⟩
      exact bsetRow (HB0.out.trans (HB.out.mono HB0.out.size)) (by rw [HG.out]; exact Nat.le_refl _) _
set_option maxRecDepth 20000 in
set_option maxHeartbeats 4000000 in
theorem refNext_any {w : World} {v : Value} {L : List Rcd} (hv : Recs w v L) (hl : FewR L) {x : Int} (hx : ((vnext L : Nat) : Int) = x) :
    Calls Try.prog 19 #[v] w fun e w' => e = .returned (.int .u64 x) ∧ w = w' := by
  subst hx
  have hm64 := (S64.vmax (fun r hr => ⟨(hv.ok r hr).1.number, fun v hx => ((hv.ok r hr).2 v hx).number⟩)).lt
  obtain ⟨A, c, rfl, _⟩ := hv.slice
  obtain ⟨n, hn⟩ : ∃ n, n = L.length := ⟨_, rfl⟩
  have hn6 : n ≤ 1000 := by have := hl.len; omega
  have HN := Lib.hid hn
  have HP := Lib.hid hl.pend
  have HM := Lib.hid hm64
  rw [← hn] at hv ⊢
  have HV := Lib.hid hv
  clear hv hl hn hm64
  go_enter Try.func19, Try.ntmps19
  go_wp2_with fail
  go_loopw [3, 4] (fun a i wr => ∃ k : Nat, k ≤ n ∧ i = .int .i64 k ∧ a = .int .u64 ((vmax (L.take k) : Nat) : Int) ∧ w = wr) (fun _ i _ => n - (intOf i).toNat)
  case atStart => exact ⟨0, by omega, rfl, rfl, rfl⟩
  case round =>
    obtain ⟨k, hk, rfl, rfl, rfl⟩ := hrel
    by_cases hlt : k < n
    · have hlt2 : k < L.length := by rw [← HN.out]; exact hlt
      obtain ⟨b, off, A2, c2, rfl, d0, d1, d2, d3, d4, hbl, hok, hpv⟩ := Recs.at HV.out k hlt2
      have htk := vmax_take L k hlt2
      have hpl := HP.out L[k] (List.getElem_mem hlt2)
      obtain ⟨r, hr⟩ : ∃ r, r = L[k] := ⟨_, rfl⟩
      rw [← hr] at d0 d1 d2 d3 d4 htk hpv hpl
      obtain ⟨m, hm⟩ : ∃ m, m = vmax (L.take k) := ⟨_, rfl⟩
      rw [← hm] at htk ⊢
      obtain ⟨q, hq⟩ : ∃ q, q = r.pend.length := ⟨_, rfl⟩
      rw [← hq] at d4 hpv hpl
      have HPV := Lib.hid hpv
      have HTK := Lib.hid htk
      have HQ := Lib.hid hq
      clear hr hlt2 hok hpv htk hq hm d1 d2 d3
      by_cases hmx : m < r.last.number
      all_goals
        obtain ⟨s0, hs0⟩ : ∃ s0, s0 = max m r.last.number := ⟨_, rfl⟩
        first
          | (rw [Nat.max_eq_right (Nat.le_of_lt hmx)] at hs0)
          | (rw [Nat.max_eq_left (Nat.le_of_not_lt hmx)] at hs0)
        have HS0 : Hid (vmax (L.take (k + 1)) = pmax s0 r.pend) := by
          show _ = _
          rw [HTK.out]
          congr 1
          rw [hs0]
          first | exact Nat.max_eq_right (Nat.le_of_lt hmx) | exact Nat.max_eq_left (Nat.le_of_not_lt hmx)
        have hdm : decide (m < r.last.number) = decide (m < r.last.number) := rfl
        first
          | (rw [decide_eq_true hmx] at hdm)
          | (rw [decide_eq_false hmx] at hdm)
        go_wp2_with fail
        go_loopw [3, 5] (fun a i wq => ∃ j : Nat, j ≤ q ∧ i = .int .i64 j ∧ a = .int .u64 ((pmax s0 (r.pend.take j) : Nat) : Int) ∧ w = wq) (fun _ i _ => q - (intOf i).toNat)
        case atStart => exact ⟨0, by omega, rfl, by rw [hs0]; rfl, rfl⟩
        case round =>
          obtain ⟨j, hj, rfl, rfl, rfl⟩ := hrel
          by_cases hjl : j < q
          · have hjl2 : j < r.pend.length := by rw [← HQ.out]; exact hjl
            obtain ⟨b3, off3, rfl, e0, e1, e2, e3, hbl3, hok3⟩ := Views.at HPV.out j hjl2
            have hpt := pmax_take s0 r.pend j hjl2
            obtain ⟨y, hy⟩ : ∃ y, y = r.pend[j] := ⟨_, rfl⟩
            rw [← hy] at e0 hpt
            obtain ⟨z, hz⟩ : ∃ z, z = pmax s0 (r.pend.take j) := ⟨_, rfl⟩
            rw [← hz] at hpt ⊢
            have HPT := Lib.hid hpt
            clear hy hz hpt hok3 hjl2 e1 e2 e3
            by_cases hyz : z < y.number
            all_goals
              first
                | (rw [Nat.max_eq_right (Nat.le_of_lt hyz)] at HPT)
                | (rw [Nat.max_eq_left (Nat.le_of_not_lt hyz)] at HPT)
              go_wp2_with fail
              go_roundw
              case rel => exact ⟨j + 1, by omega, by go_num, by rw [HPT.out], trivial⟩
              case measure => simp [intOf] <;> omega
          · obtain rfl : j = q := by omega
            have e : pmax s0 (r.pend.take j) = vmax (L.take (k + 1)) := by rw [List.take_of_length_le (by rw [HQ.out]; exact Nat.le_refl _), HS0.out]
            rw [e]
            clear e hjl hj
            go_wp2_with fail
            go_roundw
            case rel => exact ⟨k + 1, by omega, by go_num, rfl, trivial⟩
            case measure => simp [intOf] <;> omega
    · obtain rfl : k = n := by omega
      have e : vmax (L.take k) = vmax L := by rw [List.take_of_length_le (by rw [HN.out]; exact Nat.le_refl _)]
      rw [e]
      obtain ⟨m, hm⟩ : ∃ m, m = vmax L := ⟨_, rfl⟩
      have hm64 := HM.out
      rw [← hm] at hm64 ⊢
      by_cases hmx : m < 18446744073709551615
      · have hv : vnext L = m + 1 := by unfold vnext; rw [← hm, if_pos hmx]
        have hw : IntKind.u64.wrap ((m : Int) + 1) = ((m + 1 : Nat) : Int) := by rw [IntKind.wrap_u64]; omega
        have hd : ((m : Int) == 18446744073709551615) = false := by rw [beq_eq_false_iff_ne]; omega
        have HVN := Lib.hid hv
        clear e hlt hk hm hm64 hmx hv
        go_wp2_with fail
        go_ret
        exact ⟨by rw [HVN.out]; rfl, rfl⟩
      · have hv : vnext L = m := by unfold vnext; rw [← hm, if_neg hmx]
        have hme : m = 18446744073709551615 := by omega
        have hd : ((m : Int) == 18446744073709551615) = true := by rw [beq_iff_eq]; omega
        have HVN := Lib.hid hv
        clear e hlt hk hm hm64 hmx hv hme
        go_wp2_with fail
        go_ret
        exact ⟨by rw [HVN.out]; rfl, rfl⟩
end Go.Proofs.Ytheeclmpkddgjaa
