import Derived.Test.YtheeclmpkddgjaaDoorSetH
import Derived.Test.YtheeclmpkddgjaaDoorSetI
import Derived.Test.YtheeclmpkddgjaaDoorItem
import Derived.Test.YtheeclmpkddgjaaDoorArr
import Derived.Deep.AppendLies
namespace Go.Proofs.YtheeclmpkddgjaaDoor
set_option linter.unusedVariables false
set_option linter.unusedSimpArgs false
open Go.RowKit
/-! the horizon: what it is, and how it lies in memory -/
structure Pr where
  stamp : Nat
  sent : Nat
structure Mk where
  heard : Nat
  reached : Nat
  came : Nat
  waits : List Pr
structure Hz where
  clock : Nat
  others : Nat
  l : Nat → Mk
def Hz.up (H : Hz) (p : Nat) (m : Mk) : Hz := { H with l := fun q => if q = p then m else H.l q }
theorem Hz.up_same (H : Hz) (p : Nat) (m : Mk) : (H.up p m).l p = m := by simp [Hz.up]
theorem Hz.up_other (H : Hz) {p q : Nat} (m : Mk) (h : q ≠ p) : (H.up p m).l q = H.l q := by simp [Hz.up, h]
theorem Hz.up_clock (H : Hz) (p : Nat) (m : Mk) : (H.up p m).clock = H.clock := rfl
theorem Hz.up_others (H : Hz) (p : Nat) (m : Mk) : (H.up p m).others = H.others := rfl
theorem Hz.up_up (H : Hz) (p : Nat) (m m' : Mk) : (H.up p m).up p m' = H.up p m' := by
  unfold Hz.up
  congr 1
  funext q
  by_cases h : q = p <;> simp [h]
theorem Hz.up_self (H : Hz) (p : Nat) : H.up p (H.l p) = H := by
  unfold Hz.up
  have : (fun q => if q = p then H.l p else H.l q) = H.l := by
    funext q
    by_cases h : q = p <;> simp [h]
  rw [this]
def prCells (x : Pr) : List Value := [.int .u64 (x.stamp : Int), .int .u32 (x.sent : Int)]
structure HzC (cs : Array Value) (H : Hz) (vs : Nat → Value) : Prop where
  size : cs.size = 258
  clock : cs[0]? = some (.int .u64 (H.clock : Int))
  others : cs[1]? = some (.int .u64 (H.others : Int))
  heard : ∀ p, p < 64 → cs[2 + p * 4]? = some (.int .u64 ((H.l p).heard : Int))
  reached : ∀ p, p < 64 → cs[2 + p * 4 + 1]? = some (.int .u64 ((H.l p).reached : Int))
  came : ∀ p, p < 64 → cs[2 + p * 4 + 2]? = some (.int .u32 ((H.l p).came : Int))
  waits : ∀ p, p < 64 → cs[2 + p * 4 + 3]? = some (vs p)
theorem set_far {cs : Array Value} {i j : Nat} {v u : Value} (h : cs[j]? = some u) (hn : i ≠ j) : (cs.setIfInBounds i v)[j]? = some u := by
  rw [Array.getElem?_setIfInBounds, if_neg hn]; exact h
theorem set_here {cs : Array Value} {i : Nat} {v : Value} (h : i < cs.size) : (cs.setIfInBounds i v)[i]? = some v := by
  rw [Array.getElem?_setIfInBounds, if_pos rfl, if_pos h]
theorem HzC.setClock {cs : Array Value} {H : Hz} {vs : Nat → Value} (h : HzC cs H vs) (c : Nat) : HzC (cs.setIfInBounds 0 (.int .u64 (c : Int))) { H with clock := c } vs :=
  ⟨by simp [h.size], set_here (by rw [h.size]; decide), set_far h.others (by decide), fun p hp => set_far (h.heard p hp) (by omega), fun p hp => set_far (h.reached p hp) (by omega), fun p hp => set_far (h.came p hp) (by omega), fun p hp => set_far (h.waits p hp) (by omega)⟩
theorem HzC.setHeard {cs : Array Value} {H : Hz} {vs : Nat → Value} (h : HzC cs H vs) {p : Nat} (hp : p < 64) (c : Nat) : HzC (cs.setIfInBounds (2 + p * 4) (.int .u64 (c : Int))) (H.up p { H.l p with heard := c }) vs := by
  refine ⟨by simp [h.size], set_far h.clock (by omega), set_far h.others (by omega), fun q hq => ?_, fun q hq => ?_, fun q hq => ?_, fun q hq => set_far (h.waits q hq) (by omega)⟩
  all_goals by_cases e : q = p
  · subst e; rw [Hz.up_same]; exact set_here (by rw [h.size]; omega)
  · rw [Hz.up_other _ _ e]; exact set_far (h.heard q hq) (by omega)
  · subst e; rw [Hz.up_same]; exact set_far (h.reached q hq) (by omega)
  · rw [Hz.up_other _ _ e]; exact set_far (h.reached q hq) (by omega)
  · subst e; rw [Hz.up_same]; exact set_far (h.came q hq) (by omega)
  · rw [Hz.up_other _ _ e]; exact set_far (h.came q hq) (by omega)
theorem HzC.setReached {cs : Array Value} {H : Hz} {vs : Nat → Value} (h : HzC cs H vs) {p : Nat} (hp : p < 64) (c : Nat) : HzC (cs.setIfInBounds (2 + p * 4 + 1) (.int .u64 (c : Int))) (H.up p { H.l p with reached := c }) vs := by
  refine ⟨by simp [h.size], set_far h.clock (by omega), set_far h.others (by omega), fun q hq => ?_, fun q hq => ?_, fun q hq => ?_, fun q hq => set_far (h.waits q hq) (by omega)⟩
  all_goals by_cases e : q = p
  · subst e; rw [Hz.up_same]; exact set_far (h.heard q hq) (by omega)
  · rw [Hz.up_other _ _ e]; exact set_far (h.heard q hq) (by omega)
  · subst e; rw [Hz.up_same]; exact set_here (by rw [h.size]; omega)
  · rw [Hz.up_other _ _ e]; exact set_far (h.reached q hq) (by omega)
  · subst e; rw [Hz.up_same]; exact set_far (h.came q hq) (by omega)
  · rw [Hz.up_other _ _ e]; exact set_far (h.came q hq) (by omega)
theorem HzC.setCame {cs : Array Value} {H : Hz} {vs : Nat → Value} (h : HzC cs H vs) {p : Nat} (hp : p < 64) (c : Nat) : HzC (cs.setIfInBounds (2 + p * 4 + 2) (.int .u32 (c : Int))) (H.up p { H.l p with came := c }) vs := by
  refine ⟨by simp [h.size], set_far h.clock (by omega), set_far h.others (by omega), fun q hq => ?_, fun q hq => ?_, fun q hq => ?_, fun q hq => set_far (h.waits q hq) (by omega)⟩
  all_goals by_cases e : q = p
  · subst e; rw [Hz.up_same]; exact set_far (h.heard q hq) (by omega)
  · rw [Hz.up_other _ _ e]; exact set_far (h.heard q hq) (by omega)
  · subst e; rw [Hz.up_same]; exact set_far (h.reached q hq) (by omega)
  · rw [Hz.up_other _ _ e]; exact set_far (h.reached q hq) (by omega)
  · subst e; rw [Hz.up_same]; exact set_here (by rw [h.size]; omega)
  · rw [Hz.up_other _ _ e]; exact set_far (h.came q hq) (by omega)
def vput (vs : Nat → Value) (p : Nat) (v : Value) : Nat → Value := fun q => if q = p then v else vs q
theorem HzC.setWaits {cs : Array Value} {H : Hz} {vs : Nat → Value} (h : HzC cs H vs) {p : Nat} (hp : p < 64) (v : Value) (L : List Pr) : HzC (cs.setIfInBounds (2 + p * 4 + 3) v) (H.up p { H.l p with waits := L }) (vput vs p v) := by
  refine ⟨by simp [h.size], set_far h.clock (by omega), set_far h.others (by omega), fun q hq => ?_, fun q hq => ?_, fun q hq => ?_, fun q hq => ?_⟩
  all_goals by_cases e : q = p
  · subst e; rw [Hz.up_same]; exact set_far (h.heard q hq) (by omega)
  · rw [Hz.up_other _ _ e]; exact set_far (h.heard q hq) (by omega)
  · subst e; rw [Hz.up_same]; exact set_far (h.reached q hq) (by omega)
  · rw [Hz.up_other _ _ e]; exact set_far (h.reached q hq) (by omega)
  · subst e; rw [Hz.up_same]; exact set_far (h.came q hq) (by omega)
  · rw [Hz.up_other _ _ e]; exact set_far (h.came q hq) (by omega)
  · subst e; simp only [vput, if_pos]; exact set_here (by rw [h.size]; omega)
  · simp only [vput, if_neg e]; exact set_far (h.waits q hq) (by omega)
theorem HzC.sameWaits {cs : Array Value} {H : Hz} {vs : Nat → Value} (h : HzC cs H vs) (p : Nat) (L : List Pr) : HzC cs (H.up p { H.l p with waits := L }) vs := by
  refine ⟨h.size, h.clock, h.others, fun q hq => ?_, fun q hq => ?_, fun q hq => ?_, h.waits⟩
  all_goals by_cases e : q = p
  · subst e; rw [Hz.up_same]; exact h.heard q hq
  · rw [Hz.up_other _ _ e]; exact h.heard q hq
  · subst e; rw [Hz.up_same]; exact h.reached q hq
  · rw [Hz.up_other _ _ e]; exact h.reached q hq
  · subst e; rw [Hz.up_same]; exact h.came q hq
  · rw [Hz.up_other _ _ e]; exact h.came q hq
structure HzAt (base : Nat) (w : World) (g : Nat) (H : Hz) (vs : Nat → Value) : Prop where
  at' : base ≤ g
  blk : ∃ cs, Blk w g 130 cs ∧ HzC cs H vs
  own : ∀ p, p < 64 → w.ownsRow base 134 2 (vs p) (H.l p).waits.length ((H.l p).waits.map prCells).flatten
  sep : ∀ p q b, p < 64 → q < 64 → p ≠ q → (vs p).ownBlock = some b → (vs q).ownBlock ≠ some b
  clk : S64 H.clock
/-- what a call on a horizon leaves as it was, and where its rows lie behind it -/
structure Fr (w w' : World) (g : Nat) (vs vs' : Nat → Value) : Prop where
  os : w'.os = w.os
  tape : w'.tape = w.tape
  output : w'.output = w.output
  size : w.heap.size ≤ w'.heap.size
  block : ∀ b, b < w.heap.size → b ≠ g → (∀ p, p < 64 → (vs p).ownBlock ≠ some b) → w'.heap[b]? = w.heap[b]?
  own : ∀ p b, p < 64 → (vs' p).ownBlock = some b → (vs p).ownBlock = some b ∨ w.heap.size ≤ b
theorem Fr.refl (w : World) (g : Nat) (vs : Nat → Value) : Fr w w g vs vs := ⟨rfl, rfl, rfl, Nat.le_refl _, fun _ _ _ _ => rfl, fun _ _ _ h => .inl h⟩
theorem Fr.of_below {w w' : World} (h : Below w.heap.size w w') (g : Nat) (vs : Nat → Value) : Fr w w' g vs vs := ⟨h.os, h.tape, h.output, h.size, fun b hb _ _ => h.block b hb, fun _ _ _ h => .inl h⟩
theorem Fr.trans {w w' w'' : World} {g : Nat} {vs vs' vs'' : Nat → Value} (h : Fr w w' g vs vs') (k : Fr w' w'' g vs' vs'') : Fr w w'' g vs vs'' := by
  refine ⟨k.os.trans h.os, k.tape.trans h.tape, k.output.trans h.output, Nat.le_trans h.size k.size, fun b hb hg ho => ?_, fun p b hp hb => ?_⟩
  · refine (k.block b (Nat.lt_of_lt_of_le hb h.size) hg (fun p hp he => ?_)).trans (h.block b hb hg ho)
    rcases h.own p b hp he with h1 | h1
    · exact ho p hp h1
    · omega
  · rcases k.own p b hp hb with h1 | h1
    · exact h.own p b hp h1
    · exact .inr (Nat.le_trans h.size h1)
theorem own_move {w w' : World} {base : Nat} {e : TypeId} {sz n : Nat} {v : Value} {xs : List Value} (h : w.ownsRow base e sz v n xs) (hb : ∀ b, v.ownBlock = some b → w'.heap[b]? = w.heap[b]?) : w'.ownsRow base e sz v n xs := by
  refine ⟨h.1, ?_⟩
  rcases h.2 with h0 | ⟨g, cap, cur, rfl, h1, h2, h3⟩
  · exact .inl h0
  · exact .inr ⟨g, cap, cur, rfl, h1, (hb g rfl).trans h2, h3⟩
theorem own_base {w : World} {base : Nat} {e : TypeId} {sz n : Nat} {v : Value} {xs : List Value} (h : w.ownsRow base e sz v n xs) {b : Nat} (hb : v.ownBlock = some b) : base ≤ b ∧ b < w.heap.size ∧ ∃ cur, w.heap[b]? = some (.cells cur e (0, 0)) := by
  rcases h.2 with ⟨rfl, _⟩ | ⟨g, cap, cur, rfl, h1, h2, h3⟩
  · cases hb
  · obtain rfl : g = b := by simpa [Value.ownBlock] using hb
    exact ⟨h1, (Array.getElem?_eq_some_iff.1 h2).1, cur, h2⟩
section
variable {base g : Nat} {w w' : World} {H : Hz} {vs vs' : Nat → Value}
theorem HzAt.lt (h : HzAt base w g H vs) : g < w.heap.size := by
  obtain ⟨cs, hb, _⟩ := h.blk
  exact hb.lt
/-- a block of another type is none of a horizon's -/
theorem HzAt.far (h : HzAt base w g H vs) {b : Nat} {t : TypeId} {cs : Array Value} (hb : Blk w b t cs) (h1 : t ≠ 130) (h2 : t ≠ 134) : b ≠ g ∧ ∀ p, p < 64 → (vs p).ownBlock ≠ some b := by
  refine ⟨?_, fun p hp he => ?_⟩
  · rintro rfl
    obtain ⟨cs', hb', _⟩ := h.blk
    unfold Blk at hb hb'
    rw [hb] at hb'
    injection hb' with hb'
    injection hb' with _ ht
    exact h1 ht
  · obtain ⟨_, _, cur, hc⟩ := own_base (h.own p hp) he
    unfold Blk at hb
    rw [hb] at hc
    injection hc with hc
    injection hc with _ ht
    exact h2 ht
theorem Blk.fr {b : Nat} {t : TypeId} {cs : Array Value} (hb : Blk w b t cs) (h : HzAt base w g H vs) (h1 : t ≠ 130) (h2 : t ≠ 134) (hf : Fr w w' g vs vs') : Blk w' b t cs := by
  obtain ⟨k1, k2⟩ := h.far hb h1 h2
  exact (hf.block b hb.lt k1 k2).trans hb
theorem HzAt.own_ne (h : HzAt base w g H vs) (p : Nat) (hp : p < 64) : (vs p).ownBlock ≠ some g := by
  intro he
  obtain ⟨_, _, cur, hc⟩ := own_base (h.own p hp) he
  obtain ⟨cs, hb, _⟩ := h.blk
  unfold Blk at hb
  rw [hb] at hc
  injection hc with hc
  injection hc with _ ht
  exact absurd ht (by decide)
theorem HzAt.stay (h : HzAt base w g H vs) (hb : Below w.heap.size w w') : HzAt base w' g H vs := by
  obtain ⟨cs, h1, h2⟩ := h.blk
  exact ⟨h.at', ⟨cs, h1.stay hb, h2⟩, fun p hp => own_move (h.own p hp) (fun b he => hb.block b (own_base (h.own p hp) he).2.1), h.sep, h.clk⟩
theorem HzAt.below (h : HzAt base w g H vs) (hf : Fr w w' g vs vs') (hw : base ≤ w.heap.size) : Below base w w' := by
  refine ⟨hf.os, hf.tape, hf.output, hf.size, fun b hb => ?_⟩
  refine hf.block b (by omega) (by have := h.at'; omega) (fun p hp he => ?_)
  have := (own_base (h.own p hp) he).1
  omega
/-- a cell of the horizon's own block is stored -/
theorem HzAt.store (h : HzAt base w g H vs) {i : Nat} {v : Value} {H' : Hz} (hc : ∀ cs, HzC cs H vs → HzC (cs.setIfInBounds i v) H' vs) (hw : ∀ p, p < 64 → (H'.l p).waits = (H.l p).waits) (hk : S64 H'.clock) :
    HzAt base (w.setCell ⟨g, i, none⟩ v) g H' vs ∧ Fr w (w.setCell ⟨g, i, none⟩ v) g vs vs := by
  obtain ⟨cs, h1, h2⟩ := h.blk
  have hother : ∀ b, b ≠ g → (w.setCell ⟨g, i, none⟩ v).heap[b]? = w.heap[b]? := fun b hb => heap_setCell_other w ⟨g, i, none⟩ b v hb
  refine ⟨⟨h.at', ⟨_, h1.set i v, hc cs h2⟩, fun p hp => ?_, h.sep, hk⟩, ⟨rfl, rfl, rfl, by simp, fun b _ hb _ => hother b hb, fun _ _ _ h => .inl h⟩⟩
  rw [hw p hp]
  exact own_move (h.own p hp) (fun b he => hother b (fun e => h.own_ne p hp (by rw [he, e])))
theorem HzAt.cell (h : HzAt base w g H vs) : w.cell? ⟨g, 0, none⟩ = some (.int .u64 (H.clock : Int)) ∧ w.cell? ⟨g, 1, none⟩ = some (.int .u64 (H.others : Int)) := by
  obtain ⟨cs, h1, h2⟩ := h.blk
  exact ⟨(h1.cell 0).trans h2.clock, (h1.cell 1).trans h2.others⟩
theorem HzAt.free (h : HzAt base w g H vs) (i : Nat) : w.frozen? ⟨g, i, none⟩ = false := by
  obtain ⟨cs, h1, h2⟩ := h.blk
  exact h1.free i
theorem HzAt.mark (h : HzAt base w g H vs) {p : Nat} (hp : p < 64) : w.cell? ⟨g, 2 + p * 4, none⟩ = some (.int .u64 ((H.l p).heard : Int)) ∧ w.cell? ⟨g, 2 + p * 4 + 1, none⟩ = some (.int .u64 ((H.l p).reached : Int)) ∧
    w.cell? ⟨g, 2 + p * 4 + 2, none⟩ = some (.int .u32 ((H.l p).came : Int)) ∧ w.cell? ⟨g, 2 + p * 4 + 3, none⟩ = some (vs p) := by
  obtain ⟨cs, h1, h2⟩ := h.blk
  exact ⟨(h1.cell _).trans (h2.heard p hp), (h1.cell _).trans (h2.reached p hp), (h1.cell _).trans (h2.came p hp), (h1.cell _).trans (h2.waits p hp)⟩
end
end Go.Proofs.YtheeclmpkddgjaaDoor
