import Derived.Test.YtheeclmpkddgjaaDoorHzL
namespace Go.Proofs.YtheeclmpkddgjaaDoor
set_option linter.unusedVariables false
set_option linter.unusedSimpArgs false
/-! a promise counts just when so many messages came -/
/-- the horizon of two, of whom one promised: counted, or waiting -/
structure Wt (H : Hz) (stamp sent : Nat) (counted : Bool) : Prop where
  others : H.others = 2
  clock : H.clock = stamp
  heard : (H.l 1).heard = if counted then stamp else 0
  waits : (H.l 1).waits = if counted then [] else [⟨stamp, sent⟩]
theorem less_three : sless 3 [0] = 2 := by decide
theorem list_two : slist 2 = [1] := by decide
theorem Wt.all {H : Hz} {stamp sent : Nat} {c : Bool} (h : Wt H stamp sent c) : H.all = if c then stamp else 0 := by
  unfold Hz.all lowH
  rw [h.others, list_two]
  show min H.clock (H.l 1).heard = _
  rw [h.clock, h.heard]
  cases c <;> simp
theorem has_two : shas 2 1 = true := by decide
theorem wt_start (stamp sent : Nat) : Wt ((Hz.new 2).promise 1 stamp sent) stamp sent (decide (sent = 0)) := by
  have e : (Hz.new 2).promise 1 stamp sent = ((Hz.new 2).see stamp).up 1 (Mk.count ⟨0, 0, 0, [⟨stamp, sent⟩]⟩) := by
    unfold Hz.promise
    rw [if_pos (show shas (Hz.new 2).others 1 = true from has_two)]
    rfl
  rw [e]
  by_cases h : sent = 0
  · subst h
    refine ⟨rfl, ?_, ?_, ?_⟩
    · show max 0 stamp = stamp; omega
    · rw [Hz.up_same]; simp [Mk.count, Mk.takes, Mk.take1, Mk.now]
    · rw [Hz.up_same]; simp [Mk.count, Mk.keep, Mk.now]
  · have h0 : ¬ sent ≤ 0 := by omega
    refine ⟨rfl, ?_, ?_, ?_⟩
    · show max 0 stamp = stamp; omega
    · rw [Hz.up_same]; simp [Mk.count, Mk.takes, Mk.take1, Mk.now, h]
    · rw [Hz.up_same]; simp [Mk.count, Mk.keep, Mk.now, h]
theorem wt_step {H : Hz} {stamp sent : Nat} {c : Bool} (h : Wt H stamp sent c) (seq : Nat) : Wt (H.come 1 seq 0) stamp sent (c || decide (sent ≤ seq)) := by
  have e : H.come 1 seq 0 = (H.see 0).up 1 (Mk.count { H.l 1 with came := seq, heard := max (H.l 1).heard 0 }) := by
    unfold Hz.come
    rw [if_pos (by rw [h.others]; exact has_two)]
    rfl
  rw [e]
  refine ⟨h.others, ?_, ?_, ?_⟩
  · show max H.clock 0 = stamp
    rw [h.clock]; omega
  · rw [Hz.up_same]
    cases hc : c
    · by_cases hs : sent ≤ seq <;> simp [Mk.count, Mk.takes, Mk.take1, Mk.now, h.waits, h.heard, hc, hs]
    · simp [Mk.count, Mk.takes, Mk.take1, Mk.now, h.waits, h.heard, hc]
  · rw [Hz.up_same]
    cases hc : c
    · by_cases hs : sent ≤ seq <;> simp [Mk.count, Mk.keep, Mk.now, h.waits, hc, hs]
    · simp [Mk.count, Mk.keep, Mk.now, h.waits, hc]
end Go.Proofs.YtheeclmpkddgjaaDoor
