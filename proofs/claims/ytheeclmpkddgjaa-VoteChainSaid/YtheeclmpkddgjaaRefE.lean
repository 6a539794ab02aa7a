import Derived.Test.YtheeclmpkddgjaaRefD
import Derived.Deep.QuietTactic
import Derived.BigQuiet
namespace Go.Proofs.Ytheeclmpkddgjaa
set_option linter.unusedVariables false
set_option linter.unusedSimpArgs false
open Go.RowKit
theorem bdrewN {B : Nat} {w W : World} (h : Below B w W) (n : Nat) : Below B w (W.drewN n) := ⟨h.os, h.tape, h.output, h.size, h.block⟩
theorem refList_any {s : Nat} (hs : S64 s) (w : World) :
    Calls Try.prog 42 #[.int .u64 (s : Int)] w fun e w' => ∃ v, e = .returned v ∧ Below w.heap.size w w' ∧ Nats w' v (slist s) :=
  (refList_own hs w).mono fun e w' ⟨v, he, hb, ho⟩ => ⟨v, he, hb, Sl.of_own1 ho rfl⟩
theorem Nats.at {w : World} {A : Option Addr} {n c : Nat} {xs : List Nat} (h : Nats w (.slice A n c) xs) (k : Nat) (hk : k < xs.length) : ∃ b off, A = some (⟨b, off, none⟩ : Addr) ∧ w.cell? ⟨b, off + k, none⟩ = some (.int .i64 (xs[k] : Nat)) := by
  obtain ⟨A', c', hv, hc, h⟩ := h
  injection hv with hA hn hcc
  subst hA
  obtain ⟨b, off, cs, hA, rfl, hl, hcell⟩ := h k xs[k] (by simp [hk])
  exact ⟨b, off, hA, by simpa [encN] using hcell 0 _ rfl⟩
set_option maxRecDepth 20000 in
set_option maxHeartbeats 400000 in
theorem refSize_any {s : Nat} (hs : S64 s) (w : World) :
    Calls Try.prog 39 #[.int .u64 (s : Int)] w fun e w' => e = .returned (.int .i64 (ssize s : Nat)) ∧ Below w.heap.size w w' := by
  go_enter Try.func39, Try.ntmps39
  go_wp2_with fail
  refine (refList_any hs _).mono ?_
  rintro e w1 ⟨v, rfl, hb1, hv⟩
  obtain ⟨A, c, rfl, _⟩ := hv.slice
  have HB1 := Lib.hid hb1
  clear hb1 hv
  go_wp2_with fail
  go_ret
  exact ⟨rfl, HB1.out⟩
set_option maxRecDepth 20000 in
set_option maxHeartbeats 400000 in
theorem refMost_any {s t : Nat} (hs : S64 s) (ht : S64 t) (w : World) :
    Calls Try.prog 30 #[.int .u64 (s : Int), .int .u64 (t : Int)] w fun e w' => e = .returned (.bool (smost s t)) ∧ Below w.heap.size w w' := by
  have e : smost s t = decide ((ssize t : Int) < (ssize (sboth s t) : Int) * 2) := by
    unfold smost; exact decide_eq_decide.2 (by omega)
  rw [e]
  clear e
  have h1 := ssize_le t
  have h2 := ssize_le (sboth s t)
  go_enter Try.func30, Try.ntmps30
  go_wp2_with fail
  refine (refBoth_any hs ht _).mono ?_
  rintro e w1 ⟨rfl, hb1⟩
  have HB1 := Lib.hid hb1
  clear hb1
  go_wp2_with fail
  refine (refSize_any hs.both _).mono ?_
  rintro e w2 ⟨rfl, hb2⟩
  have HB2 := Lib.hid (btr HB1.out hb2)
  clear hb2
  go_wp2_with fail
  refine (refSize_any ht _).mono ?_
  rintro e w3 ⟨rfl, hb3⟩
  have HB3 := Lib.hid (btr HB2.out hb3)
  clear hb3
  go_wp2_with fail
  go_ret
  exact ⟨rfl, HB3.out⟩
end Go.Proofs.Ytheeclmpkddgjaa
