import Derived.Test.YtheeclmpkddgjaaDoorRefD
import Derived.Deep.QuietTactic
import Derived.BigQuiet
namespace Go.Proofs.YtheeclmpkddgjaaDoor
set_option linter.unusedVariables false
set_option linter.unusedSimpArgs false
open Go.RowKit
theorem bdrewN {B : Nat} {w W : World} (h : Below B w W) (n : Nat) : Below B w (W.drewN n) := ⟨h.os, h.tape, h.output, h.size, h.block⟩
theorem refList_any {s : Nat} (hs : S64 s) (w : World) :
    Calls Tryd.prog 42 #[.int .u64 (s : Int)] w fun e w' => ∃ v, e = .returned v ∧ Below w.heap.size w w' ∧ Nats w' v (slist s) :=
  (refList_own hs w).mono fun e w' ⟨v, he, hb, ho⟩ => ⟨v, he, hb, Sl.of_own1 ho rfl⟩
theorem Nats.at {w : World} {A : Option Addr} {n c : Nat} {xs : List Nat} (h : Nats w (.slice A n c) xs) (k : Nat) (hk : k < xs.length) : ∃ b off, A = some (⟨b, off, none⟩ : Addr) ∧ w.cell? ⟨b, off + k, none⟩ = some (.int .i64 (xs[k] : Nat)) := by
  obtain ⟨A', c', hv, hc, h⟩ := h
  injection hv with hA hn hcc
  subst hA
  obtain ⟨b, off, cs, hA, rfl, hl, hcell⟩ := h k xs[k] (by simp [hk])
  exact ⟨b, off, hA, by simpa [encN] using hcell 0 _ rfl⟩
set_option maxRecDepth 20000 in
set_option maxHeartbeats 400000 in
theorem refSize_any {s : Nat} (hs : S64 s) (w : World) :
    Calls Tryd.prog 39 #[.int .u64 (s : Int)] w fun e w' => e = .returned (.int .i64 (ssize s : Nat)) ∧ Below w.heap.size w w' := by
  go_enter Tryd.func39, Tryd.ntmps39
  go_wp2_with fail
  refine (refList_any hs _).mono ?_
  rintro e w1 ⟨v, rfl, hb1, hv⟩
  obtain ⟨A, c, rfl, _⟩ := hv.slice
  have HB1 := Lib.hid hb1
  clear hb1 hv
  go_wp2_with fail
  go_ret
  exact ⟨rfl, HB1.out⟩
set_option maxRecDepth 20000 in
set_option maxHeartbeats 400000 in
theorem refMin_nil {s : Nat} (hs : S64 s) (h0 : slist s = []) (w : World) :
    Calls Tryd.prog 40 #[.int .u64 (s : Int)] w fun e w' => e = .returned (.int .i64 (-1)) ∧ Below w.heap.size w w' := by
  have H0 := Lib.hid h0
  clear h0
  go_enter Tryd.func40, Tryd.ntmps40
  go_wp2_with fail
  refine (refList_any hs _).mono ?_
  rintro e w1 ⟨v, rfl, hb1, hv⟩
  rw [H0.out] at hv
  obtain ⟨A, c, rfl, _⟩ := hv.slice
  have HB1 := Lib.hid hb1
  clear hb1 hv
  go_wp2_with fail
  go_ret
  exact ⟨rfl, HB1.out⟩
set_option maxRecDepth 20000 in
set_option maxHeartbeats 400000 in
theorem refMin_cons {s p : Nat} {l : List Nat} (hs : S64 s) (h0 : slist s = p :: l) (w : World) :
    Calls Tryd.prog 40 #[.int .u64 (s : Int)] w fun e w' => e = .returned (.int .i64 (p : Nat)) ∧ Below w.heap.size w w' := by
  have H0 := Lib.hid h0
  clear h0
  go_enter Tryd.func40, Tryd.ntmps40
  go_wp2_with fail
  refine (refList_any hs _).mono ?_
  rintro e w1 ⟨v, rfl, hb1, hv⟩
  rw [H0.out] at hv
  obtain ⟨A, c, rfl, _⟩ := hv.slice
  obtain ⟨b, off, rfl, hcell⟩ := Nats.at hv 0 (by simp)
  have HB1 := Lib.hid hb1
  clear hb1 hv
  obtain ⟨n, hn⟩ : ∃ n, n = (p :: l).length := ⟨_, rfl⟩
  have hn0 : 0 < n := by rw [hn]; simp
  have hn1 : ((n : Int) == 0) = false := by rw [beq_eq_false_iff_ne]; omega
  rw [← hn]
  clear hn
  simp only [Nat.add_zero, List.getElem_cons_zero] at hcell
  go_wp2_with fail
  go_ret
  exact ⟨rfl, HB1.out⟩
theorem refMin_any {s : Nat} (hs : S64 s) (w : World) :
    Calls Tryd.prog 40 #[.int .u64 (s : Int)] w fun e w' => e = .returned (.int .i64 (smin s)) ∧ Below w.heap.size w w' := by
  cases h : slist s with
  | nil =>
    rw [show smin s = -1 by unfold smin; rw [h]]
    exact refMin_nil hs h w
  | cons p l =>
    rw [show smin s = (p : Int) by unfold smin; rw [h]]
    exact refMin_cons hs h w
set_option maxRecDepth 20000 in
set_option maxHeartbeats 400000 in
theorem refMost_any {s t : Nat} (hs : S64 s) (ht : S64 t) (w : World) :
    Calls Tryd.prog 43 #[.int .u64 (s : Int), .int .u64 (t : Int)] w fun e w' => e = .returned (.bool (smost s t)) ∧ Below w.heap.size w w' := by
  have e : smost s t = decide ((ssize t : Int) < (ssize (sboth s t) : Int) * 2) := by
    unfold smost; exact decide_eq_decide.2 (by omega)
  rw [e]
  clear e
  have h1 := ssize_le t
  have h2 := ssize_le (sboth s t)
  go_enter Tryd.func43, Tryd.ntmps43
  go_wp2_with fail
  refine (refBoth_any hs ht _).mono ?_
  rintro e w1 ⟨rfl, hb1⟩
  have HB1 := Lib.hid hb1
  clear hb1
  go_wp2_with fail
  refine (refSize_any hs.both _).mono ?_
  rintro e w2 ⟨rfl, hb2⟩
  have HB2 := Lib.hid (btr HB1.out hb2)
  clear hb2
  go_wp2_with fail
  refine (refSize_any ht _).mono ?_
  rintro e w3 ⟨rfl, hb3⟩
  have HB3 := Lib.hid (btr HB2.out hb3)
  clear hb3
  go_wp2_with fail
  go_ret
  exact ⟨rfl, HB3.out⟩
set_option maxRecDepth 20000 in
set_option maxHeartbeats 400000 in
theorem refSame_true {v v' : Value} {xs : List Nat} {w : World} (hv : Nats w v xs) (hv' : Nats w v' xs) (hm : xs.length ≤ 140737488351232) :
    Calls Tryd.prog 41 #[v, v'] w fun e w' => e = .returned (.bool true) ∧ Below w.heap.size w w' := by
  obtain ⟨A, c, rfl, _⟩ := hv.slice
  obtain ⟨A', c', rfl, _⟩ := hv'.slice
  have HV := Lib.hid hv
  have HV' := Lib.hid hv'
  clear hv hv'
  go_enter Tryd.func41, Tryd.ntmps41
  go_wp2_with fail
  go_loopw [5] (fun i wr => ∃ k : Nat, k ≤ xs.length ∧ i = .int .i64 k ∧ Hid (Below w.heap.size w wr)) (fun i _ => xs.length - (intOf i).toNat)
  case atStart => exact ⟨0, by omega, rfl, Below.refl _ _⟩
  case round =>
    obtain ⟨k, hk, rfl, HB⟩ := hrel
    by_cases hlt : k < xs.length
    · obtain ⟨b, off, rfl, hcell⟩ := Nats.at (HV.out.below (one_stays _) (by decide) HB.out) k hlt
      obtain ⟨b', off', rfl, hcell'⟩ := Nats.at (HV'.out.below (one_stays _) (by decide) HB.out) k hlt
      go_wp2_with fail
      go_quiet (fail)
      go_wp2_with fail
      go_roundw
      case rel => exact ⟨k + 1, by omega, by go_num, bdrewN HB.out _⟩
      case measure => simp [intOf] <;> omega
    · go_wp2_with fail
      go_ret
      exact ⟨rfl, HB.out⟩
end Go.Proofs.YtheeclmpkddgjaaDoor
