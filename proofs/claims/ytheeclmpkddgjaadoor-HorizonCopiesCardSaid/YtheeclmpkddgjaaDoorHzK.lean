import Derived.Test.YtheeclmpkddgjaaDoorHzJ
namespace Go.Proofs.YtheeclmpkddgjaaDoor
set_option linter.unusedVariables false
set_option linter.unusedSimpArgs false
open Go.RowKit
/-! a call, by its kind -/
structure Ac where
  kind : Int
  p : Int
  seq : Nat
  stamp : Nat
structure Ac.Ok (a : Ac) : Prop where
  seq : a.seq < 4294967296
  stamp : S64 a.stamp
def acCells (a : Ac) : List Value := [.int .i64 a.kind, .int .i64 a.p, .int .u32 (a.seq : Int), .int .u64 (a.stamp : Int)]
def KAc : World → Ac → List Value → Prop := fun _ a cs => cs = acCells a ∧ a.Ok
theorem KAc.stays : Stays KAc := fun _ _ _ _ h _ => h
abbrev Acs (w : World) (v : Value) (xs : List Ac) : Prop := Sl KAc 4 w v xs
theorem Acs.below {w w' : World} {v : Value} {xs : List Ac} (h : Acs w v xs) (hb : Below w.heap.size w w') : Acs w' v xs := Sl.below KAc.stays (by decide) h hb
def Hz.do (H : Hz) (a : Ac) : Hz :=
  if a.kind = 0 then H.come a.p a.seq a.stamp else if a.kind = 1 then H.promise a.p a.stamp a.seq else if a.kind = 2 then H.reach a.p a.stamp else if a.kind = 3 then H.stamp else if a.kind = 4 then H.see a.stamp else H
/-- what a call answers -/
def Hz.ans (H : Hz) (a : Ac) : Nat := if a.kind = 3 then H.stamp.clock else 0
set_option maxRecDepth 20000 in
set_option maxHeartbeats 4000000 in
theorem do_any {base g : Nat} {w : World} {H : Hz} {vs : Nat → Value} (h : HzAt base w g H vs) (ho : S64 H.others) (a : Ac) (ha : a.Ok) (hl : ∀ q, q < 64 → (H.l q).waits.length ≤ 900000) :
    Calls Tryd.prog 60 #[.pointer (some ⟨g, 0, none⟩), .agg #[.int .i64 a.kind, .int .i64 a.p, .int .u32 (a.seq : Int), .int .u64 (a.stamp : Int)]] w fun e w' => ∃ vs', e = .returned (.int .u64 (H.ans a : Int)) ∧ HzAt base w' g (H.do a) vs' ∧ Fr w w' g vs vs' := by
  have hbal : Below w.heap.size w (w.alloc (.cells #[.int .i64 a.kind, .int .i64 a.p, .int .u32 (a.seq : Int), .int .u64 (a.stamp : Int)] 77)) := bal (Below.refl _ _) _
  have HA := Lib.hid (h.stay hbal)
  have HF := Lib.hid (Fr.of_below hbal g vs)
  have HO := Lib.hid ho
  have HL := Lib.hid hl
  have HOK := Lib.hid ha
  clear h hl ho ha hbal
  obtain ⟨k, hk⟩ : ∃ k, k = a.kind := ⟨_, rfl⟩
  rw [← hk] at HA HF ⊢
  by_cases k0 : k = 0
  · have e : H.do a = H.come a.p a.seq a.stamp := by unfold Hz.do; rw [← hk, if_pos k0]
    have e2 : H.ans a = 0 := by unfold Hz.ans; rw [← hk, if_neg (by omega)]
    rw [e, e2]
    subst k0
    clear e e2 hk
    go_enter Tryd.func60, Tryd.ntmps60
    go_wp2_with fail
    refine (come_any HA.out HO.out a.p a.seq HOK.out.stamp (fun q hq => by have := HL.out q hq; omega)).mono ?_
    rintro e w2 ⟨vs', ⟨_, rfl⟩, hz2, hf2⟩
    have HZ2 := Lib.hid hz2
    have HF2 := Lib.hid (HF.out.trans hf2)
    clear hz2 hf2
    go_wp2_with fail
    go_ret
    exact ⟨vs', rfl, HZ2.out, HF2.out⟩
  by_cases k1 : k = 1
  · have e : H.do a = H.promise a.p a.stamp a.seq := by unfold Hz.do; rw [← hk, if_neg k0, if_pos k1]
    have e2 : H.ans a = 0 := by unfold Hz.ans; rw [← hk, if_neg (by omega)]
    rw [e, e2]
    subst k1
    clear e e2 hk k0
    go_enter Tryd.func60, Tryd.ntmps60
    go_wp2_with fail
    refine (promise_any HA.out HO.out a.p HOK.out.stamp a.seq HL.out).mono ?_
    rintro e w2 ⟨vs', ⟨_, rfl⟩, hz2, hf2⟩
    have HZ2 := Lib.hid hz2
    have HF2 := Lib.hid (HF.out.trans hf2)
    clear hz2 hf2
    go_wp2_with fail
    go_ret
    exact ⟨vs', rfl, HZ2.out, HF2.out⟩
  by_cases k2 : k = 2
  · have e : H.do a = H.reach a.p a.stamp := by unfold Hz.do; rw [← hk, if_neg k0, if_neg k1, if_pos k2]
    have e2 : H.ans a = 0 := by unfold Hz.ans; rw [← hk, if_neg (by omega)]
    rw [e, e2]
    subst k2
    clear e e2 hk k0 k1
    go_enter Tryd.func60, Tryd.ntmps60
    go_wp2_with fail
    refine (reached_any HA.out a.p HOK.out.stamp HO.out).mono ?_
    rintro e w2 ⟨⟨_, rfl⟩, hz2, hf2⟩
    have HZ2 := Lib.hid hz2
    have HF2 := Lib.hid (HF.out.trans hf2)
    clear hz2 hf2
    go_wp2_with fail
    go_ret
    exact ⟨vs, rfl, HZ2.out, HF2.out⟩
  by_cases k3 : k = 3
  · have e : H.do a = H.stamp := by unfold Hz.do; rw [← hk, if_neg k0, if_neg k1, if_neg k2, if_pos k3]
    have e2 : H.ans a = H.stamp.clock := by unfold Hz.ans; rw [← hk, if_pos k3]
    rw [e, e2]
    subst k3
    clear e e2 hk k0 k1 k2
    go_enter Tryd.func60, Tryd.ntmps60
    go_wp2_with fail
    refine (stamp_any HA.out).mono ?_
    rintro e w2 ⟨rfl, hz2, hf2⟩
    have HZ2 := Lib.hid hz2
    have HF2 := Lib.hid (HF.out.trans hf2)
    clear hz2 hf2
    go_wp2_with fail
    go_ret
    exact ⟨vs, rfl, HZ2.out, HF2.out⟩
  by_cases k4 : k = 4
  · have e : H.do a = H.see a.stamp := by unfold Hz.do; rw [← hk, if_neg k0, if_neg k1, if_neg k2, if_neg k3, if_pos k4]
    have e2 : H.ans a = 0 := by unfold Hz.ans; rw [← hk, if_neg (by omega)]
    rw [e, e2]
    subst k4
    clear e e2 hk k0 k1 k2 k3
    go_enter Tryd.func60, Tryd.ntmps60
    go_wp2_with fail
    refine (see_any HA.out HOK.out.stamp).mono ?_
    rintro e w2 ⟨⟨_, rfl⟩, hz2, hf2⟩
    have HZ2 := Lib.hid hz2
    have HF2 := Lib.hid (HF.out.trans hf2)
    clear hz2 hf2
    go_wp2_with fail
    go_ret
    exact ⟨vs, rfl, HZ2.out, HF2.out⟩
  · have e : H.do a = H := by unfold Hz.do; rw [← hk, if_neg k0, if_neg k1, if_neg k2, if_neg k3, if_neg k4]
    have e2 : H.ans a = 0 := by unfold Hz.ans; rw [← hk, if_neg k3]
    rw [e, e2]
    have b0 : (k == 0) = false := beq_eq_false_iff_ne.2 k0
    have b1 : (k == 1) = false := beq_eq_false_iff_ne.2 k1
    have b2 : (k == 2) = false := beq_eq_false_iff_ne.2 k2
    have b3 : (k == 3) = false := beq_eq_false_iff_ne.2 k3
    have b4 : (k == 4) = false := beq_eq_false_iff_ne.2 k4
    clear e e2 hk k0 k1 k2 k3 k4
    go_enter Tryd.func60, Tryd.ntmps60
    go_wp2_with fail
    go_ret
    exact ⟨vs, rfl, HA.out, HF.out⟩
end Go.Proofs.YtheeclmpkddgjaaDoor
