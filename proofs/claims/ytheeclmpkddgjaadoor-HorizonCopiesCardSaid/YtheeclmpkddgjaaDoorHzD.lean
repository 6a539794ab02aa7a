import Derived.Test.YtheeclmpkddgjaaDoorHzC
import Derived.Deep.RegionHeld3
import Derived.BigQuiet
namespace Go.Proofs.YtheeclmpkddgjaaDoor
set_option linter.unusedVariables false
set_option linter.unusedSimpArgs false
open Go.RowKit
/-- a promise counts now -/
def Mk.now (m : Mk) (x : Pr) : Bool := decide (x.sent ≤ m.came)
def Mk.take1 (m : Mk) (x : Pr) : Mk := if m.now x then { m with heard := max m.heard x.stamp } else m
set_option maxRecDepth 20000 in
set_option maxHeartbeats 1000000 in
theorem count1_any {base g bm p : Nat} {w : World} {H : Hz} {vs : Nat → Value} (h : HzAt base w g H vs) (hp : p < 64) (hm : Blk w bm 132 #[.pointer (some ⟨g, 2 + p * 4, none⟩)]) (x : Pr) {r : Bool} (hr : (H.l p).now x = r) :
    Calls Tryd.prog 111 #[.agg #[.int .u64 (x.stamp : Int), .int .u32 (x.sent : Int)], .pointer (some ⟨bm, 0, none⟩)] w fun e w' => e = .returned (.bool r) ∧ HzAt base w' g (H.up p ((H.l p).take1 x)) vs ∧ Fr w w' g vs vs := by
  obtain ⟨m0, m1, m2, m3⟩ := h.mark hp
  have hc := hm.cell 0
  have hbl := hm.lt
  have hgl := h.lt
  have hne := (h.far hm (by decide) (by decide)).1
  have hf := h.free (2 + p * 4)
  have HH := Lib.hid h
  have HB : Hid (Below w.heap.size w (w.alloc (.cells #[.int .u64 (x.stamp : Int), .int .u32 (x.sent : Int)] 134))) := bal (Below.refl _ _) _
  have HP := Lib.hid hp
  subst hr
  by_cases hlt : x.sent ≤ (H.l p).came
  · have e1 : (H.l p).now x = true := decide_eq_true hlt
    have e2 : (H.l p).take1 x = { H.l p with heard := max (H.l p).heard x.stamp } := by unfold Mk.take1; rw [e1]; rfl
    rw [e1, e2]
    have hd : decide ((H.l p).came < x.sent) = false := decide_eq_false (by omega)
    have hmx := max_if (H.l p).heard x.stamp
    have HMX := Lib.hid hmx
    have HBM := Lib.hid hm
    clear h hm hlt e1 e2 hp hmx
    go_enter Tryd.func111, Tryd.ntmps111
    go_wp2_with fail
    go_quiet (fail)
    go_wp2_with fail
    rename_i K0 hK0
    obtain ⟨bx, hbx⟩ : ∃ bx, bx = w.heap.size := ⟨_, rfl⟩
    have hbl2 : Below w.heap.size w ((w.alloc (.cells #[.int .u64 (x.stamp : Int), .int .u32 (x.sent : Int)] 134)).drewN nq) := bdrewN HB.out nq
    have hxx : Blk ((w.alloc (.cells #[.int .u64 (x.stamp : Int), .int .u32 (x.sent : Int)] 134)).drewN nq) bx 134 #[.int .u64 (x.stamp : Int), .int .u32 (x.sent : Int)] := (Blk.new w _ _ hbx).stay (drewN_below _ nq)
    rw [← hbx]
    generalize (w.alloc (.cells #[.int .u64 (x.stamp : Int), .int .u32 (x.sent : Int)] 134)).drewN nq = wz at *
    have hz := HH.out.stay hbl2
    obtain ⟨n0, n1, n2, n3⟩ := hz.mark HP.out
    have nf := hz.free (2 + p * 4)
    have nx := hxx.cell 0
    have nc := (HBM.out.stay hbl2).cell 0
    have HZ := Lib.hid hz
    have HB2 := Lib.hid hbl2
    clear m0 m1 m2 m3 hc hf hgl hbl hz hbl2 hxx hbx n1 n2 n3
    go_region
    rw [HMX.out]
    go_wp2_with fail
    go_ret
    have k := HZ.out.setHeard HP.out (max (H.l p).heard x.stamp)
    exact ⟨rfl, k.1.stay (drew_below _), ((Fr.of_below HB2.out g vs).trans k.2).trans (Fr.of_below (drew_below _) g vs)⟩
  · have e1 : (H.l p).now x = false := decide_eq_false hlt
    have e2 : (H.l p).take1 x = H.l p := by unfold Mk.take1; rw [e1]; rfl
    rw [e1, e2, Hz.up_self]
    have hd : decide ((H.l p).came < x.sent) = true := decide_eq_true (by omega)
    clear h hm hlt e1 e2 hp
    go_enter Tryd.func111, Tryd.ntmps111
    go_wp2_with fail
    go_quiet (fail)
    go_wp2_with fail
    go_ret
    exact ⟨rfl, HH.out.stay (bdrewN HB.out _), Fr.of_below (bdrewN HB.out _) _ _⟩
end Go.Proofs.YtheeclmpkddgjaaDoor
