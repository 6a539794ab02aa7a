import Derived.Test.YtheeclmpkddgjaaDoorHzK
namespace Go.Proofs.YtheeclmpkddgjaaDoor
set_option linter.unusedVariables false
set_option linter.unusedSimpArgs false
open Go.RowKit
theorem up_others (H : Hz) (p : Nat) (m : Mk) : (H.up p m).others = H.others := rfl
theorem come_others (H : Hz) (p : Int) (a b : Nat) : (H.come p a b).others = H.others := by unfold Hz.come; split <;> rfl
theorem promise_others (H : Hz) (p : Int) (a b : Nat) : (H.promise p a b).others = H.others := by unfold Hz.promise; split <;> rfl
theorem reach_others (H : Hz) (p : Int) (a : Nat) : (H.reach p a).others = H.others := by unfold Hz.reach; split <;> rfl
theorem do_others (H : Hz) (a : Ac) : (H.do a).others = H.others := by
  unfold Hz.do
  split
  · exact come_others _ _ _ _
  split
  · exact promise_others _ _ _ _
  split
  · exact reach_others _ _ _
  split
  · rfl
  split <;> rfl
def hw0 : Hz := Hz.new (sless 3 [0])
def hw1 : Hz := hw0.promise 1 6 2
def hw2 : Hz := hw1.come 1 1 4
def hw3 : Hz := hw2.reach 1 4
def hw4 : Hz := hw3.come 1 2 5
theorem hs0 : ((sof [0, 1] : Nat) : Int) = 3 := by decide
theorem hs1 : ((hw2.all : Nat) : Int) = 4 := by decide
theorem hs2 : ((hw2.safe : Nat) : Int) = 0 := by decide
theorem hs3 : ((hw3.safe : Nat) : Int) = 4 := by decide
theorem hs4 : ((hw4.all : Nat) : Int) = 6 := by decide
theorem hs5 : ((hw4.clock : Nat) : Int) = 6 := by decide
theorem hs6 : ((hw4.stamp.clock : Nat) : Int) = 7 := by decide
theorem hso : S64 (sless 3 [0]) := ⟨by decide⟩
theorem ho1 : hw1.others = sless 3 [0] := promise_others _ _ _ _
theorem ho2 : hw2.others = sless 3 [0] := (come_others _ _ _ _).trans ho1
theorem ho3 : hw3.others = sless 3 [0] := (reach_others _ _ _).trans ho2
theorem ho4 : hw4.others = sless 3 [0] := (come_others _ _ _ _).trans ho3
theorem takes_wlen (m : Mk) : m.count.waits.length ≤ m.waits.length := List.length_filter_le _ _
theorem do_len (H : Hz) (a : Ac) {n : Nat} (h : ∀ q, q < 64 → (H.l q).waits.length ≤ n) : ∀ q, q < 64 → ((H.do a).l q).waits.length ≤ n + 1 := by
  have hs : ∀ q, q < 64 → (H.l q).waits.length ≤ n + 1 := fun q hq => by have := h q hq; omega
  have hup : ∀ (S : Hz) (p : Nat) (m : Mk), (∀ q, S.l q = H.l q) → (p < 64 → m.waits.length ≤ n + 1) → ∀ q, q < 64 → ((S.up p m).l q).waits.length ≤ n + 1 := fun S p m hS hm q hq => by
    by_cases e : q = p
    · subst e; rw [Hz.up_same]; exact hm hq
    · rw [Hz.up_other _ _ e, hS]; exact hs q hq
  unfold Hz.do
  split
  · unfold Hz.come
    split
    · rename_i hp
      obtain ⟨q, hq, hq64⟩ := has_range hp
      rw [hq]
      refine hup _ _ _ (fun _ => rfl) (fun h64 => Nat.le_trans (takes_wlen _) (hs _ h64))
    · exact hs
  split
  · unfold Hz.promise
    split
    · refine hup _ _ _ (fun _ => rfl) (fun h64 => Nat.le_trans (takes_wlen _) ?_)
      rw [List.length_append]
      have := h _ h64
      simp
      omega
    · exact hs
  split
  · unfold Hz.reach
    split
    · exact hup _ _ _ (fun _ => rfl) (fun h64 => hs _ h64)
    · exact hs
  split
  · exact hs
  split
  · exact hs
  · exact hs
theorem hall_num {base g : Nat} {w : World} {H : Hz} {vs : Nat → Value} (h : HzAt base w g H vs) (ho : S64 H.others) (hT : Tab w) {m : Int} (hm : ((H.all : Nat) : Int) = m) :
    Calls Tryd.prog 57 #[.pointer (some ⟨g, 0, none⟩)] w fun e w' => e = .returned (.int .u64 m) ∧ Below w.heap.size w w' := by
  subst hm; exact all_of h ho hT
theorem hsafe_num {base g : Nat} {w : World} {H : Hz} {vs : Nat → Value} (h : HzAt base w g H vs) (ho : S64 H.others) (hT : Tab w) {m : Int} (hm : ((H.safe : Nat) : Int) = m) :
    Calls Tryd.prog 58 #[.pointer (some ⟨g, 0, none⟩)] w fun e w' => e = .returned (.int .u64 m) ∧ Below w.heap.size w w' := by
  subst hm; exact safe_of h ho hT
theorem hclock_num {base g : Nat} {w : World} {H : Hz} {vs : Nat → Value} (h : HzAt base w g H vs) {m : Int} (hm : ((H.clock : Nat) : Int) = m) :
    Calls Tryd.prog 59 #[.pointer (some ⟨g, 0, none⟩)] w fun e w' => e = .returned (.int .u64 m) ∧ w = w' := by
  subst hm; exact hclock_any h
theorem hstamp_num {base g : Nat} {w : World} {H : Hz} {vs : Nat → Value} (h : HzAt base w g H vs) {m : Int} (hm : ((H.stamp.clock : Nat) : Int) = m) :
    Calls Tryd.prog 92 #[.pointer (some ⟨g, 0, none⟩)] w fun e w' => e = .returned (.int .u64 m) ∧ HzAt base w' g H.stamp vs ∧ Fr w w' g vs vs := by
  subst hm; exact stamp_any h
theorem new_num {base : Nat} {w : World} {me : Int} {s : Nat} {z : Int} (hz : z = (s : Int)) (hs : S64 s) (hb : base ≤ w.heap.size) :
    Calls Tryd.prog 56 #[.int .i64 me, .int .u64 z] w fun e w' => ∃ g, e = .returned (.pointer (some ⟨g, 0, none⟩)) ∧ HzAt base w' g (Hz.new (sless s [me])) (fun _ => .slice none 0 0) ∧ Below w.heap.size w w' ∧ w.heap.size ≤ g := by
  subst hz; exact new_any me hs hb
theorem promise_num {base g : Nat} {w : World} {H : Hz} {vs : Nat → Value} (h : HzAt base w g H vs) (ho : S64 H.others) {p : Int} {stamp sent : Nat} {a b : Int} (ha : a = (stamp : Int)) (hb : b = (sent : Int)) (hs : S64 stamp) (hl : ∀ q, q < 64 → (H.l q).waits.length ≤ 900000) :
    Calls Tryd.prog 61 #[.pointer (some ⟨g, 0, none⟩), .int .i64 p, .int .u64 a, .int .u32 b] w fun e w' => ∃ vs', (∃ v, e = .returned v) ∧ HzAt base w' g (H.promise p stamp sent) vs' ∧ Fr w w' g vs vs' := by
  subst ha; subst hb; exact promise_any h ho p hs sent hl
theorem come_num {base g : Nat} {w : World} {H : Hz} {vs : Nat → Value} (h : HzAt base w g H vs) (ho : S64 H.others) {p : Int} {seq stamp : Nat} {a b : Int} (ha : a = (seq : Int)) (hb : b = (stamp : Int)) (hs : S64 stamp) (hl : ∀ q, q < 64 → (H.l q).waits.length ≤ 1000000) :
    Calls Tryd.prog 62 #[.pointer (some ⟨g, 0, none⟩), .int .i64 p, .int .u32 a, .int .u64 b] w fun e w' => ∃ vs', (∃ v, e = .returned v) ∧ HzAt base w' g (H.come p seq stamp) vs' ∧ Fr w w' g vs vs' := by
  subst ha; subst hb; exact come_any h ho p seq hs hl
theorem reach_num {base g : Nat} {w : World} {H : Hz} {vs : Nat → Value} (h : HzAt base w g H vs) {p : Int} {stamp : Nat} {a : Int} (ha : a = (stamp : Int)) (hs : S64 stamp) (ho : S64 H.others) :
    Calls Tryd.prog 91 #[.pointer (some ⟨g, 0, none⟩), .int .i64 p, .int .u64 a] w fun e w' => (∃ v, e = .returned v) ∧ HzAt base w' g (H.reach p stamp) vs ∧ Fr w w' g vs vs := by
  subst ha; exact reached_any h p hs ho
theorem lens0 : ∀ q, q < 64 → (hw0.l q).waits.length ≤ 0 := fun q _ => Nat.le_refl 0
theorem lens1 : ∀ q, q < 64 → (hw1.l q).waits.length ≤ 1 := fun q hq => do_len hw0 ⟨1, 1, 2, 6⟩ lens0 q hq
theorem lens2 : ∀ q, q < 64 → (hw2.l q).waits.length ≤ 2 := fun q hq => do_len hw1 ⟨0, 1, 1, 4⟩ lens1 q hq
theorem lens3 : ∀ q, q < 64 → (hw3.l q).waits.length ≤ 3 := fun q hq => do_len hw2 ⟨2, 1, 0, 4⟩ lens2 q hq
set_option maxRecDepth 20000 in
set_option maxHeartbeats 4000000 in
theorem awake13 {w : World} (hT : Tab w) :
    Calls Tryd.prog 55 #[] w fun e w' => e = .returned (.bool true) ∧ Below w.heap.size w w' := by
  have HT := Lib.hid hT
  clear hT
  go_enter Tryd.func55, Tryd.ntmps55
  go_wp2_with fail
  refine (of_num (l := [0, 1]) (by exact Ints.lit _ _ _ _ _ _ (by simp) rfl rfl) (by simp) hs0).mono ?_
  rintro e w' ⟨rfl, rfl⟩
  go_wp2_with fail
  refine (new_num (base := w.heap.size) (s := 3) rfl ⟨by decide⟩ (by simp)).mono ?_
  rintro e w1 ⟨g, rfl, hz1, hb1, _⟩
  have HZ1 : Hid (HzAt w.heap.size w1 g hw0 _) := hz1
  have HB1 : Hid (Below w.heap.size w w1) := btr (bal (Below.refl _ _) _) hb1
  clear hz1 hb1
  go_wp2_with fail
  refine (promise_num HZ1.out hso (stamp := 6) (sent := 2) rfl rfl ⟨by decide⟩ (fun q hq => by have := lens0 q hq; omega)).mono ?_
  rintro e w2 ⟨vs2, ⟨_, rfl⟩, hz2, hf2⟩
  have HZ2 : Hid (HzAt w.heap.size w2 g hw1 vs2) := hz2
  have HB2 := Lib.hid (HB1.out.trans (HZ1.out.below hf2 HB1.out.size))
  clear hz2 hf2
  go_wp2_with fail
  refine (come_num HZ2.out (by rw [ho1]; exact hso) (seq := 1) (stamp := 4) rfl rfl ⟨by decide⟩ (fun q hq => by have := lens1 q hq; omega)).mono ?_
  rintro e w3 ⟨vs3, ⟨_, rfl⟩, hz3, hf3⟩
  have HZ3 : Hid (HzAt w.heap.size w3 g hw2 vs3) := hz3
  have HB3 := Lib.hid (HB2.out.trans (HZ2.out.below hf3 HB2.out.size))
  clear hz3 hf3
  go_wp2_with fail
  refine (hall_num HZ3.out (by rw [ho2]; exact hso) (HT.out.below HB3.out) hs1).mono ?_
  rintro e w4 ⟨rfl, hb4⟩
  have HZ4 := Lib.hid (HZ3.out.stay hb4)
  have HB4 := Lib.hid (btr HB3.out hb4)
  clear hb4
  go_wp2_with fail
  refine (hsafe_num HZ4.out (by rw [ho2]; exact hso) (HT.out.below HB4.out) hs2).mono ?_
  rintro e w5 ⟨rfl, hb5⟩
  have HZ5 := Lib.hid (HZ4.out.stay hb5)
  have HB5 := Lib.hid (btr HB4.out hb5)
  clear hb5
  go_wp2_with fail
  refine (reach_num HZ5.out (stamp := 4) rfl ⟨by decide⟩ (by rw [ho2]; exact hso)).mono ?_
  rintro e w6 ⟨⟨_, rfl⟩, hz6, hf6⟩
  have HZ6 : Hid (HzAt w.heap.size w6 g hw3 vs3) := hz6
  have HB6 := Lib.hid (HB5.out.trans (HZ5.out.below hf6 HB5.out.size))
  clear hz6 hf6
  go_wp2_with fail
  refine (hsafe_num HZ6.out (by rw [ho3]; exact hso) (HT.out.below HB6.out) hs3).mono ?_
  rintro e w7 ⟨rfl, hb7⟩
  have HZ7 := Lib.hid (HZ6.out.stay hb7)
  have HB7 := Lib.hid (btr HB6.out hb7)
  clear hb7
  go_wp2_with fail
  refine (come_num HZ7.out (by rw [ho3]; exact hso) (seq := 2) (stamp := 5) rfl rfl ⟨by decide⟩ (fun q hq => by have := lens3 q hq; omega)).mono ?_
  rintro e w8 ⟨vs8, ⟨_, rfl⟩, hz8, hf8⟩
  have HZ8 : Hid (HzAt w.heap.size w8 g hw4 vs8) := hz8
  have HB8 := Lib.hid (HB7.out.trans (HZ7.out.below hf8 HB7.out.size))
  clear hz8 hf8
  go_wp2_with fail
  refine (hall_num HZ8.out (by rw [ho4]; exact hso) (HT.out.below HB8.out) hs4).mono ?_
  rintro e w9 ⟨rfl, hb9⟩
  have HZ9 := Lib.hid (HZ8.out.stay hb9)
  have HB9 := Lib.hid (btr HB8.out hb9)
  clear hb9
  go_wp2_with fail
  refine (hclock_num HZ9.out hs5).mono ?_
  rintro e w' ⟨rfl, rfl⟩
  go_wp2_with fail
  refine (hstamp_num HZ9.out hs6).mono ?_
  rintro e wa ⟨rfl, hza, hfa⟩
  have HBa := Lib.hid (HB9.out.trans (HZ9.out.below hfa HB9.out.size))
  clear hza hfa
  go_wp2_with fail
  go_ret
  exact ⟨rfl, HBa.out⟩
end Go.Proofs.YtheeclmpkddgjaaDoor
