import Derived.Test.YtheeclmpkddgjaaDoorHzA
import Derived.Deep.RegionHeld3
namespace Go.Proofs.YtheeclmpkddgjaaDoor
set_option linter.unusedVariables false
set_option linter.unusedSimpArgs false
open Go.RowKit
theorem max_if (a b : Nat) : (if a < b then (b : Int) else (a : Int)) = ((max a b : Nat) : Int) := by split <;> omega
theorem min_if (a b : Nat) : (if b < a then (b : Int) else (a : Int)) = ((min a b : Nat) : Int) := by split <;> omega
theorem HzAt.setClock {base g : Nat} {w : World} {H : Hz} {vs : Nat → Value} (h : HzAt base w g H vs) (c : Nat) (hc : S64 c) : HzAt base (w.setCell ⟨g, 0, none⟩ (.int .u64 (c : Int))) g { H with clock := c } vs ∧ Fr w (w.setCell ⟨g, 0, none⟩ (.int .u64 (c : Int))) g vs vs :=
  h.store (fun cs k => k.setClock c) (fun _ _ => rfl) hc
theorem up_waits (H : Hz) (p : Nat) (m : Mk) (hm : m.waits = (H.l p).waits) (q : Nat) : ((H.up p m).l q).waits = (H.l q).waits := by
  by_cases e : q = p
  · subst e; rw [Hz.up_same, hm]
  · rw [Hz.up_other _ _ e]
theorem HzAt.setHeard {base g : Nat} {w : World} {H : Hz} {vs : Nat → Value} (h : HzAt base w g H vs) {p : Nat} (hp : p < 64) (c : Nat) : HzAt base (w.setCell ⟨g, 2 + p * 4, none⟩ (.int .u64 (c : Int))) g (H.up p { H.l p with heard := c }) vs ∧ Fr w (w.setCell ⟨g, 2 + p * 4, none⟩ (.int .u64 (c : Int))) g vs vs :=
  h.store (fun cs k => k.setHeard hp c) (fun q _ => up_waits H p { H.l p with heard := c } rfl q) h.clk
theorem HzAt.setReached {base g : Nat} {w : World} {H : Hz} {vs : Nat → Value} (h : HzAt base w g H vs) {p : Nat} (hp : p < 64) (c : Nat) : HzAt base (w.setCell ⟨g, 2 + p * 4 + 1, none⟩ (.int .u64 (c : Int))) g (H.up p { H.l p with reached := c }) vs ∧ Fr w (w.setCell ⟨g, 2 + p * 4 + 1, none⟩ (.int .u64 (c : Int))) g vs vs :=
  h.store (fun cs k => k.setReached hp c) (fun q _ => up_waits H p { H.l p with reached := c } rfl q) h.clk
theorem HzAt.setCame {base g : Nat} {w : World} {H : Hz} {vs : Nat → Value} (h : HzAt base w g H vs) {p : Nat} (hp : p < 64) (c : Nat) : HzAt base (w.setCell ⟨g, 2 + p * 4 + 2, none⟩ (.int .u32 (c : Int))) g (H.up p { H.l p with came := c }) vs ∧ Fr w (w.setCell ⟨g, 2 + p * 4 + 2, none⟩ (.int .u32 (c : Int))) g vs vs :=
  h.store (fun cs k => k.setCame hp c) (fun q _ => up_waits H p { H.l p with came := c } rfl q) h.clk
theorem drew_below (w : World) : Below w.heap.size w w.drew := ⟨rfl, rfl, rfl, Nat.le_refl _, fun _ _ => rfl⟩
theorem drewN_below (w : World) (n : Nat) : Below w.heap.size w (w.drewN n) := ⟨rfl, rfl, rfl, Nat.le_refl _, fun _ _ => rfl⟩
theorem HzAt.then {base g : Nat} {w w' w'' : World} {H : Hz} {vs vs' : Nat → Value} (h : HzAt base w' g H vs' ∧ Fr w w' g vs vs') (hb : Below w'.heap.size w' w'') : HzAt base w'' g H vs' ∧ Fr w w'' g vs vs' :=
  ⟨h.1.stay hb, h.2.trans (Fr.of_below hb g vs')⟩
/-- stamps -/
def Hz.reach (H : Hz) (p : Int) (stamp : Nat) : Hz := if shas H.others p then H.up p.toNat { H.l p.toNat with reached := max (H.l p.toNat).reached stamp } else H
def Hz.see (H : Hz) (stamp : Nat) : Hz := { H with clock := max H.clock stamp }
theorem S64.max {a b : Nat} (ha : S64 a) (hb : S64 b) : S64 (max a b) := ⟨by have := ha.lt; have := hb.lt; omega⟩
set_option maxRecDepth 20000 in
set_option maxHeartbeats 1000000 in
theorem hclock_any {base g : Nat} {w : World} {H : Hz} {vs : Nat → Value} (h : HzAt base w g H vs) :
    Calls Tryd.prog 59 #[.pointer (some ⟨g, 0, none⟩)] w fun e w' => e = .returned (.int .u64 (H.clock : Int)) ∧ w = w' := by
  obtain ⟨h0, h1⟩ := h.cell
  clear h
  go_enter Tryd.func59, Tryd.ntmps59
  go_wp2_with fail
  go_ret
  exact ⟨rfl, rfl⟩
set_option maxRecDepth 20000 in
set_option maxHeartbeats 1000000 in
theorem see_any {base g : Nat} {w : World} {H : Hz} {vs : Nat → Value} (h : HzAt base w g H vs) {stamp : Nat} (hs : S64 stamp) :
    Calls Tryd.prog 93 #[.pointer (some ⟨g, 0, none⟩), .int .u64 (stamp : Int)] w fun e w' => (∃ v, e = .returned v) ∧ HzAt base w' g (H.see stamp) vs ∧ Fr w w' g vs vs := by
  obtain ⟨h0, h1⟩ := h.cell
  have hf := h.free 0
  have HH := Lib.hid h
  clear h
  have HS := Lib.hid hs
  have hk := (HH.out.clk)
  by_cases hlt : H.clock < stamp
  · have e : H.see stamp = { H with clock := stamp } := by unfold Hz.see; rw [Nat.max_eq_right (by omega)]
    rw [e]
    clear e
    go_enter Tryd.func93, Tryd.ntmps93
    go_wp2_with fail
    exact bodyPost_end (results_none rfl _ _ _) rfl ⟨⟨_, rfl⟩, HH.out.setClock stamp HS.out⟩
  · have e : H.see stamp = { H with clock := H.clock } := by unfold Hz.see; rw [Nat.max_eq_left (by omega)]
    rw [e]
    clear e
    go_enter Tryd.func93, Tryd.ntmps93
    go_wp2_with fail
    exact bodyPost_end (results_none rfl _ _ _) rfl ⟨⟨_, rfl⟩, HH.out.setClock H.clock HH.out.clk⟩
set_option maxRecDepth 20000 in
set_option maxHeartbeats 1000000 in
theorem reached_any {base g : Nat} {w : World} {H : Hz} {vs : Nat → Value} (h : HzAt base w g H vs) (p : Int) {stamp : Nat} (hs : S64 stamp) (ho : S64 H.others) :
    Calls Tryd.prog 91 #[.pointer (some ⟨g, 0, none⟩), .int .i64 p, .int .u64 (stamp : Int)] w fun e w' => (∃ v, e = .returned v) ∧ HzAt base w' g (H.reach p stamp) vs ∧ Fr w w' g vs vs := by
  obtain ⟨h0, h1⟩ := h.cell
  have HH := Lib.hid h
  rcases Bool.eq_false_or_eq_true (shas H.others p) with hp | hp
  rotate_left
  · have e : H.reach p stamp = H := by unfold Hz.reach; rw [hp]; rfl
    rw [e]
    have HP := Lib.hid hp
    clear hp h e
    go_enter Tryd.func91, Tryd.ntmps91
    go_wp2_with fail
    refine (has_eq ho HP.out _).mono ?_
    rintro e w' ⟨rfl, rfl⟩
    go_wp2_with fail
    exact bodyPost_end (results_none rfl _ _ _) rfl ⟨⟨_, rfl⟩, HH.out, Fr.refl _ _ _⟩
  · have hb : 0 ≤ p ∧ p < 64 := by
      unfold shas at hp
      rw [Bool.and_eq_true] at hp
      simpa using hp.1
    obtain ⟨q, rfl⟩ : ∃ q : Nat, p = (q : Int) := ⟨p.toNat, by omega⟩
    have hq : q < 64 := by omega
    have e : H.reach (q : Int) stamp = H.up q { H.l q with reached := max (H.l q).reached stamp } := by unfold Hz.reach; rw [hp]; rfl
    rw [e]
    obtain ⟨m0, m1, m2, m3⟩ := h.mark hq
    have hf := h.free (2 + q * 4 + 1)
    have HP := Lib.hid hp
    have hq0 : (0 : Int) ≤ (q : Int) := Int.natCast_nonneg _
    have hq1 : (q : Int) < 64 := by omega
    clear hp h hb e
    go_enter Tryd.func91, Tryd.ntmps91
    go_wp2_with fail
    refine (has_eq ho HP.out _).mono ?_
    rintro e w' ⟨rfl, rfl⟩
    go_wp2_with fail
    go_region
    rw [max_if]
    exact bodyPost_end (results_none rfl _ _ _) rfl ⟨⟨_, rfl⟩, HzAt.then (HH.out.setReached hq _) (drew_below _)⟩
end Go.Proofs.YtheeclmpkddgjaaDoor
