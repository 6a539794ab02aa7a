import Derived.Test.YtheeclmpkddgjaaVtN
import Derived.SizedLaws
namespace Go.Proofs.Ytheeclmpkddgjaa
set_option linter.unusedVariables false
set_option linter.unusedSimpArgs false
open Go.RowKit
def fsum (l : List Rcd) : Nat := (l.map fun r => 1 + r.pend.length).sum
theorem fsum_take (l : List Rcd) (k : Nat) (hk : k < l.length) : fsum (l.take (k + 1)) = fsum (l.take k) + (1 + l[k].pend.length) := by
  unfold fsum
  rw [List.take_succ_eq_append_getElem hk, List.map_append, List.sum_append]
  simp
theorem fsum_mono (l : List Rcd) (k : Nat) : fsum (l.take k) ≤ fsum l := by
  have h : fsum l = fsum (l.take k) + fsum (l.drop k) := by
    unfold fsum
    rw [← List.sum_append, ← List.map_append, List.take_append_drop]
  omega
theorem fsum_len (l : List Rcd) : l.length ≤ fsum l := by
  unfold fsum
  induction l with
  | nil => exact Nat.le_refl _
  | cons a l ih => rw [List.map_cons, List.sum_cons, List.length_cons]; omega
theorem fsum_mem {l : List Rcd} {r : Rcd} (h : r ∈ l) : r.pend.length ≤ fsum l := by
  unfold fsum
  induction l with
  | nil => cases h
  | cons a l ih =>
    rw [List.map_cons, List.sum_cons]
    rcases List.mem_cons.1 h with rfl | h
    · omega
    · have := ih h; omega
theorem FewR.of_sum {l : List Rcd} (h : fsum l ≤ 300) : FewR l := ⟨by have := fsum_len l; omega, fun r hr => by have := fsum_mem hr; omega⟩
set_option maxRecDepth 20000 in
set_option maxHeartbeats 4000000 in
theorem few18_any {w : World} {v : Value} {L : List Rcd} (hv : Recs w v L) (hr : ∀ r, r ∈ L → r.pend.length ≤ reachBytes) {b : Bool} (hb : decide (fsum L ≤ 300) = b) :
    Calls Try.prog 8 #[v] w fun e w' => e = .returned (.bool b) ∧ w = w' := by
  obtain ⟨A, c, rfl, _⟩ := hv.slice
  obtain ⟨n, hn⟩ : ∃ n, n = L.length := ⟨_, rfl⟩
  have HN := Lib.hid hn
  rw [← hn] at hv ⊢
  have HV := Lib.hid hv
  have HR := Lib.hid hr
  have HBB := Lib.hid hb
  clear hv hn hr hb
  go_enter Try.func8, Try.ntmps8
  go_wp2_with fail
  go_loopw [3, 4] (fun a i wr => ∃ k s : Nat, k ≤ n ∧ k ≤ s ∧ s ≤ 300 ∧ i = .int .i64 k ∧ a = .int .i64 (s : Nat) ∧ Hid (s = fsum (L.take k)) ∧ w = wr) (fun _ i _ => n - (intOf i).toNat)
  case atStart => exact ⟨0, 0, by omega, by omega, by omega, rfl, rfl, rfl, rfl⟩
  case round =>
    obtain ⟨k, s, hk, hks, hs, rfl, rfl, HS, rfl⟩ := hrel
    by_cases hlt : k < n
    · have hlt2 : k < L.length := by rw [← HN.out]; exact hlt
      obtain ⟨b1, off, A2, c2, rfl, d0, d1, d2, d3, d4, hbl, hok, hpv⟩ := Recs.at HV.out k hlt2
      have htk := fsum_take L k hlt2
      have hmn := fsum_mono L (k + 1)
      have hrr := HR.out L[k] (List.getElem_mem hlt2)
      obtain ⟨r, hr⟩ : ∃ r, r = L[k] := ⟨_, rfl⟩
      rw [← hr] at d4 htk hrr hpv
      obtain ⟨q, hq⟩ : ∃ q, q = r.pend.length := ⟨_, rfl⟩
      rw [← hq] at d4 htk hrr
      rw [← HS.out] at htk
      have hq2 : q ≤ 140737488351232 := hrr
      have HTK := Lib.hid htk
      clear d0 d1 d2 d3 hok hpv hr hrr hq hlt2 htk
      by_cases hc : s + 1 + q ≤ 300
      · have hd : decide ((300 : Int) < (s : Int) + 1 + (q : Int)) = false := decide_eq_false (by omega)
        clear hmn
        go_wp2_with fail
        go_roundw
        case rel => exact ⟨k + 1, s + 1 + q, by omega, by omega, hc, by go_num, by go_num, by rw [HTK.out]; show _ = _; omega, trivial⟩
        case measure => simp [intOf] <;> omega
      · have hd : decide ((300 : Int) < (s : Int) + 1 + (q : Int)) = true := decide_eq_true (by omega)
        have hb : b = false := by rw [← HBB.out]; exact decide_eq_false (by have := HTK.out; omega)
        have HB := Lib.hid hb
        clear hmn hb
        go_wp2_with fail
        go_ret
        exact ⟨by rw [HB.out]; rfl, rfl⟩
    · obtain rfl : k = n := by omega
      have hb : b = true := by
        rw [← HBB.out]
        refine decide_eq_true ?_
        have := HS.out
        rw [List.take_of_length_le (by rw [HN.out]; exact Nat.le_refl _)] at this
        omega
      have HB := Lib.hid hb
      clear hb hlt hk
      go_wp2_with fail
      go_ret
      exact ⟨by rw [HB.out]; rfl, rfl⟩
end Go.Proofs.Ytheeclmpkddgjaa
