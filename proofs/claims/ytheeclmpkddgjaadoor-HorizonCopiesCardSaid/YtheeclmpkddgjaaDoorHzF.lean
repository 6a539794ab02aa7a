import Derived.Test.YtheeclmpkddgjaaDoorHzE
namespace Go.Proofs.YtheeclmpkddgjaaDoor
set_option linter.unusedVariables false
set_option linter.unusedSimpArgs false
open Go.RowKit
/-! of the promises those that count are struck -/
theorem Mk.take1_now (m : Mk) (x y : Pr) : (m.take1 x).now y = m.now y := by unfold Mk.take1; split <;> rfl
theorem Mk.take1_waits (m : Mk) (x : Pr) : (m.take1 x).waits = m.waits := by unfold Mk.take1; split <;> rfl
theorem Mk.take1_came (m : Mk) (x : Pr) : (m.take1 x).came = m.came := by unfold Mk.take1; split <;> rfl
theorem Mk.take1_reached (m : Mk) (x : Pr) : (m.take1 x).reached = m.reached := by unfold Mk.take1; split <;> rfl
theorem Mk.take1_put (m : Mk) (x : Pr) (C : List Pr) : Mk.take1 { m with waits := C } x = { m.take1 x with waits := C } := by
  unfold Mk.take1 Mk.now
  by_cases h : x.sent ≤ m.came <;> simp [h]
def Mk.takes (m : Mk) (l : List Pr) : Mk := l.foldl Mk.take1 m
theorem Mk.takes_now (m : Mk) (l : List Pr) (y : Pr) : (m.takes l).now y = m.now y := by
  unfold Mk.takes
  induction l generalizing m with
  | nil => rfl
  | cons x l ih => rw [List.foldl_cons, ih, Mk.take1_now]
theorem Mk.takes_waits (m : Mk) (l : List Pr) : (m.takes l).waits = m.waits := by
  unfold Mk.takes
  induction l generalizing m with
  | nil => rfl
  | cons x l ih => rw [List.foldl_cons, ih, Mk.take1_waits]
theorem Mk.takes_none (m : Mk) (l : List Pr) (h : ∀ y, y ∈ l → m.now y = false) : m.takes l = m := by
  unfold Mk.takes
  induction l generalizing m with
  | nil => rfl
  | cons x l ih =>
    have hx : m.take1 x = m := by unfold Mk.take1; rw [h x (by simp)]; rfl
    rw [List.foldl_cons, hx]
    exact ih m (fun y hy => h y (by simp [hy]))
theorem Mk.takes_succ (m : Mk) (L : List Pr) (j : Nat) (hj : j < L.length) : m.takes (L.take (j + 1)) = (m.takes (L.take j)).take1 L[j] := by
  unfold Mk.takes
  rw [List.take_succ_eq_append_getElem hj, List.foldl_append]
  rfl
def Mk.keep (m : Mk) (l : List Pr) : List Pr := l.filter fun y => !m.now y
/-- what a count leaves -/
def Mk.count (m : Mk) : Mk := { m.takes m.waits with waits := m.keep m.waits }
theorem Mk.keep_succ (m : Mk) (L : List Pr) (j : Nat) (hj : j < L.length) : m.keep (L.take (j + 1)) = m.keep (L.take j) ++ (if m.now L[j] then [] else [L[j]]) := by
  unfold Mk.keep
  rw [List.take_succ_eq_append_getElem hj, List.filter_append]
  congr 1
  cases h : m.now L[j] <;> simp [h]
theorem HzAt.rowOf {base g : Nat} {w : World} {H : Hz} {vs : Nat → Value} (h : HzAt base w g H vs) {p : Nat} (hp : p < 64) (hn : 0 < (H.l p).waits.length) :
    ∃ b cap cur, vs p = .slice (some ⟨b, 0, none⟩) (H.l p).waits.length cap ∧ (H.l p).waits.length ≤ cap ∧ w.heap[b]? = some (.cells cur 134 (0, 0)) ∧ cur.size = cap * 2 ∧ cur.toList.take ((H.l p).waits.length * 2) = ((H.l p).waits.map prCells).flatten ∧ base ≤ b ∧ cap ≤ maxLen := by
  rcases (h.own p hp).2 with ⟨_, h0⟩ | ⟨b, cap, cur, h1, h2, h3, h4, h5, h6, h7⟩
  · omega
  · exact ⟨b, cap, cur, h1, h4, h3, h6, h7, h2, h5⟩
theorem flat_set (C : List Pr) (i : Nat) (x : Pr) (hi : i < C.length) : (((C.map prCells).flatten.set (i * 2) (.int .u64 (x.stamp : Int))).set (i * 2 + 1) (.int .u32 (x.sent : Int))) = ((C.set i x).map prCells).flatten := by
  induction C generalizing i with
  | nil => simp at hi
  | cons c C ih =>
    cases i with
    | zero => simp [prCells]
    | succ i =>
      have := ih i (by simpa using hi)
      rw [List.map_cons, List.flatten_cons, List.set_cons_succ, List.map_cons, List.flatten_cons, ← this]
      simp [prCells, Nat.succ_mul]
/-- an element of a mark's row is stored -/
theorem HzAt.setWait {base g : Nat} {w : World} {H : Hz} {vs : Nat → Value} (h : HzAt base w g H vs) {p : Nat} (hp : p < 64) {b n cap : Nat} (hv : vs p = .slice (some ⟨b, 0, none⟩) n cap) (i : Nat) (hi : i < (H.l p).waits.length) (x : Pr) :
    HzAt base ((w.setCell ⟨b, i * 2, none⟩ (.int .u64 (x.stamp : Int))).setCell ⟨b, i * 2 + 1, none⟩ (.int .u32 (x.sent : Int))) g (H.up p { H.l p with waits := (H.l p).waits.set i x }) vs ∧
      Fr w ((w.setCell ⟨b, i * 2, none⟩ (.int .u64 (x.stamp : Int))).setCell ⟨b, i * 2 + 1, none⟩ (.int .u32 (x.sent : Int))) g vs vs := by
  obtain ⟨b', cap', cur, k1, k2, k3, k4, k5, _⟩ := h.rowOf hp (by omega)
  have e := hv.symm.trans k1
  injection e with e1 e2 e3
  injection e1 with e1
  injection e1 with e1
  subst e1 e2 e3
  have hb : Blk w b 134 cur := k3
  have ho : OnlyRow w ((w.setCell ⟨b, i * 2, none⟩ (.int .u64 (x.stamp : Int))).setCell ⟨b, i * 2 + 1, none⟩ (.int .u32 (x.sent : Int))) b :=
    ⟨rfl, rfl, rfl, by simp, fun k hk => (heap_setCell_other _ ⟨b, _, none⟩ k _ hk).trans (heap_setCell_other _ ⟨b, _, none⟩ k _ hk)⟩
  refine h.row hp hv ho k3 ((hb.set _ _).set _ _) (by simp) (by simp) ?_
  rw [Array.toList_setIfInBounds, Array.toList_setIfInBounds, ← flat_set _ i x hi, ← k5, List.take_set, List.take_set]
end Go.Proofs.YtheeclmpkddgjaaDoor
