import Derived.Test.YtalcoodidcehnaaDoorVtE
namespace Go.Proofs.YtalcoodidcehnaaDoor
set_option linter.unusedVariables false
set_option linter.unusedSimpArgs false
open Go.RowKit
theorem imax_if (a b : Nat) : (if a < b then (b : Int) else (a : Int)) = ((max a b : Nat) : Int) := by split <;> omega
def pmax (n : Nat) (l : List Vw) : Nat := l.foldl (fun n v => max n v.number) n
theorem pmax_take (n : Nat) (l : List Vw) (k : Nat) (hk : k < l.length) : pmax n (l.take (k + 1)) = max (pmax n (l.take k)) l[k].number := by
  unfold pmax
  rw [List.take_succ_eq_append_getElem hk, List.foldl_append]
  rfl
theorem vmax_take (l : List Rcd) (k : Nat) (hk : k < l.length) : vmax (l.take (k + 1)) = pmax (max (vmax (l.take k)) l[k].last.number) l[k].pend := by
  unfold vmax
  rw [List.take_succ_eq_append_getElem hk, List.foldl_append]
  rfl
/-- records that are few: so are all that are pending -/
structure FewR (l : List Rcd) : Prop where
  len : l.length ≤ 1000
  pend : ∀ r, r ∈ l → r.pend.length ≤ 1000
theorem vsum1_any {z : Int} (h0 : 0 ≤ z) (h1 : z ≤ 18446744073709551615) {r : Int} (hr : r = if z < 18446744073709551615 then z + 1 else z) (w : World) :
    Calls Tryd.prog 23 #[.int .u64 z, .int .u64 1] w fun e w' => e = .returned (.int .u64 r) ∧ w = w' := by
  have hw : IntKind.u64.wrap (18446744073709551615 - z) = 18446744073709551615 - z := by rw [IntKind.wrap_u64]; omega
  by_cases h : z < 18446744073709551615
  · have hd : decide (18446744073709551615 - z < 1) = false := decide_eq_false (by omega)
    have hw2 : IntKind.u64.wrap (z + 1) = z + 1 := by rw [IntKind.wrap_u64]; omega
    rw [if_pos h] at hr
    subst hr
    clear h
    go_enter Tryd.func23, Tryd.ntmps23
    go_wp2_with fail
    go_ret
    exact ⟨rfl, rfl⟩
  · have hd : decide (18446744073709551615 - z < 1) = true := decide_eq_true (by omega)
    have hz : z = 18446744073709551615 := by omega
    rw [if_neg h] at hr
    subst hr
    subst hz
    clear h h0 h1 hw hd
    go_enter Tryd.func23, Tryd.ntmps23
    go_wp2_with fail
    go_ret
    exact ⟨rfl, rfl⟩
theorem S64.vmax {l : List Rcd} (h : ∀ r, r ∈ l → S64 r.last.number ∧ ∀ v, v ∈ r.pend → S64 v.number) : S64 (vmax l) := by
  refine ⟨?_⟩
  have : Go.Proofs.YtalcoodidcehnaaDoor.vmax l ≤ 18446744073709551615 := vmax_le l 0 (by decide) (fun r hr => ⟨by have := (h r hr).1.lt; omega, fun v hv => by have := ((h r hr).2 v hv).lt; omega⟩)
  omega
theorem Recs.ok {w : World} {v : Value} {l : List Rcd} (h : Recs w v l) : ∀ r, r ∈ l → r.last.Ok ∧ ∀ x, x ∈ r.pend → x.Ok := by
  intro r hr
  obtain ⟨i, hi, rfl⟩ := List.getElem_of_mem hr
  obtain ⟨A, c, _, _, h⟩ := h
  obtain ⟨_, _, _, _, ⟨_, _, ho, hv⟩, _⟩ := h i l[i] (by simp [hi])
  exact ⟨ho, hv.ok⟩
set_option maxRecDepth 20000 in
set_option maxHeartbeats 4000000 in
theorem vnext_any {w : World} {v : Value} {L : List Rcd} (hv : Recs w v L) (hl : FewR L) {x : Int} (hx : ((vnext L : Nat) : Int) = x) :
    Calls Tryd.prog 7 #[v] w fun e w' => e = .returned (.int .u64 x) ∧ Below w.heap.size w w' := by
  subst hx
  have hm64 := (S64.vmax (fun r hr => ⟨(hv.ok r hr).1.number, fun v hx => ((hv.ok r hr).2 v hx).number⟩)).lt
  obtain ⟨A, c, rfl, _⟩ := hv.slice
  obtain ⟨n, hn⟩ : ∃ n, n = L.length := ⟨_, rfl⟩
  have hn6 : n ≤ 1000 := by have := hl.len; omega
  have HN := Lib.hid hn
  have HP := Lib.hid hl.pend
  have HM := Lib.hid hm64
  rw [← hn] at hv ⊢
  have HV := Lib.hid hv
  clear hv hl hn hm64
  go_enter Tryd.func7, Tryd.ntmps7
  go_wp2_with fail
  go_loopw [3, 10] (fun a i wr => ∃ k : Nat, k ≤ n ∧ i = .int .i64 k ∧ a = .int .u64 ((vmax (L.take k) : Nat) : Int) ∧ Hid (Below w.heap.size w wr)) (fun _ i _ => n - (intOf i).toNat)
  case atStart => exact ⟨0, by omega, rfl, rfl, Below.refl _ _⟩
  case round =>
    obtain ⟨k, hk, rfl, rfl, HB⟩ := hrel
    by_cases hlt : k < n
    · have hlt2 : k < L.length := by rw [← HN.out]; exact hlt
      obtain ⟨b, off, A2, c2, rfl, d0, d1, d2, d3, d4, hbl, hok, hpv⟩ := Recs.at (HV.out.below HB.out) k hlt2
      have htk := vmax_take L k hlt2
      have hpl := HP.out L[k] (List.getElem_mem hlt2)
      obtain ⟨r, hr⟩ : ∃ r, r = L[k] := ⟨_, rfl⟩
      rw [← hr] at d0 d1 d2 d3 d4 htk hpv hpl
      obtain ⟨m, hm⟩ : ∃ m, m = vmax (L.take k) := ⟨_, rfl⟩
      rw [← hm] at htk ⊢
      obtain ⟨q, hq⟩ : ∃ q, q = r.pend.length := ⟨_, rfl⟩
      rw [← hq] at d4 hpv hpl
      have hbal : Below wr.heap.size wr (wr.alloc (.cells #[.int .u64 (r.last.number : Int), .int .u64 (r.last.epoch : Int), .int .i64 r.last.rep, .int .u64 (r.last.members : Int), .slice A2 q c2] 38)) := bal (Below.refl _ _) _
      have HBX := Lib.hid (btr HB.out hbal)
      have HPV := Lib.hid (hpv.below hbal)
      have HTK := Lib.hid htk
      have HQ := Lib.hid hq
      clear hr hlt2 hok hbal hpv htk hq hm
      by_cases hmx : m < r.last.number
      all_goals
        obtain ⟨s0, hs0⟩ : ∃ s0, s0 = max m r.last.number := ⟨_, rfl⟩
        first
          | (rw [Nat.max_eq_right (Nat.le_of_lt hmx)] at hs0)
          | (rw [Nat.max_eq_left (Nat.le_of_not_lt hmx)] at hs0)
        have HS0 : Hid (vmax (L.take (k + 1)) = pmax s0 r.pend) := by
          show _ = _
          rw [HTK.out]
          congr 1
          rw [hs0]
          first | exact Nat.max_eq_right (Nat.le_of_lt hmx) | exact Nat.max_eq_left (Nat.le_of_not_lt hmx)
        go_wp2_with fail
        go_loopw [3, 22] (fun a i wq => ∃ j : Nat, j ≤ q ∧ i = .int .i64 j ∧ a = .int .u64 ((pmax s0 (r.pend.take j) : Nat) : Int) ∧ Hid (Below (wr.heap.size + 1) (wr.alloc (.cells #[.int .u64 (r.last.number : Int), .int .u64 (r.last.epoch : Int), .int .i64 r.last.rep, .int .u64 (r.last.members : Int), .slice A2 q c2] 38)) wq)) (fun _ i _ => q - (intOf i).toNat)
        case atStart => exact ⟨0, by omega, rfl, by rw [hs0]; rfl, Below.refl _ _⟩
        case round =>
          obtain ⟨j, hj, rfl, rfl, HC⟩ := hrel
          by_cases hjl : j < q
          · have hjl2 : j < r.pend.length := by rw [← HQ.out]; exact hjl
            obtain ⟨b3, off3, rfl, e0, e1, e2, e3, hbl3, hok3⟩ := Views.at (HPV.out.below (HC.out.mono (by simp))) j hjl2
            have hpt := pmax_take s0 r.pend j hjl2
            obtain ⟨y, hy⟩ : ∃ y, y = r.pend[j] := ⟨_, rfl⟩
            rw [← hy] at e0 e1 e2 e3 hpt hok3
            obtain ⟨z, hz⟩ : ∃ z, z = pmax s0 (r.pend.take j) := ⟨_, rfl⟩
            rw [← hz] at hpt ⊢
            have hbal3 := HC.out.alloc (by have := HC.out.size; simpa using this) (.cells #[.int .u64 (y.number : Int), .int .u64 (y.epoch : Int), .int .i64 y.rep, .int .u64 (y.members : Int)] 35)
            have HB3 := Lib.hid hbal3
            have HPT := Lib.hid hpt
            clear hy hz hpt hok3 hjl2 hbal3
            by_cases hyz : z < y.number
            all_goals
              first
                | (rw [Nat.max_eq_right (Nat.le_of_lt hyz)] at HPT)
                | (rw [Nat.max_eq_left (Nat.le_of_not_lt hyz)] at HPT)
              go_wp2_with fail
              go_roundw
              case rel => exact ⟨j + 1, by omega, by go_num, by rw [HPT.out], HB3⟩
              case measure => simp [intOf] <;> omega
          · obtain rfl : j = q := by omega
            have e : pmax s0 (r.pend.take j) = vmax (L.take (k + 1)) := by rw [List.take_of_length_le (by rw [HQ.out]; exact Nat.le_refl _), HS0.out]
            rw [e]
            have HB4 := Lib.hid (HBX.out.trans (HC.out.mono (by have := HB.out.size; omega)))
            clear e hjl hj
            go_wp2_with fail
            go_roundw
            case rel => exact ⟨k + 1, by omega, by go_num, rfl, HB4⟩
            case measure => simp [intOf] <;> omega
    · obtain rfl : k = n := by omega
      have e : vmax (L.take k) = vmax L := by rw [List.take_of_length_le (by rw [HN.out]; exact Nat.le_refl _)]
      rw [e]
      clear e hlt hk
      go_wp2_with fail
      refine (vsum1_any (z := ((vmax L : Nat) : Int)) (by omega) (by have := HM.out; omega) (r := ((vnext L : Nat) : Int)) (by unfold vnext; split <;> split <;> omega) _).mono ?_
      rintro e w' ⟨rfl, rfl⟩
      go_wp2_with fail
      go_ret
      exact ⟨rfl, HB.out⟩
end Go.Proofs.YtalcoodidcehnaaDoor
