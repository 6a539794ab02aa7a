import Derived.Test.YtheeclmpkddgjaaDoorHzI
namespace Go.Proofs.YtheeclmpkddgjaaDoor
set_option linter.unusedVariables false
set_option linter.unusedSimpArgs false
open Go.RowKit
def Hz.new (o : Nat) : Hz := { clock := 0, others := o, l := fun _ => ⟨0, 0, 0, []⟩ }
def hzcells (o : Nat) : List Value := [.int .u64 0, .int .u64 (o : Int)] ++ (List.replicate 64 [Value.int .u64 0, .int .u64 0, .int .u32 0, .slice none 0 0]).flatten
theorem hzcells_get (o p j : Nat) (hp : p < 64) (hj : j < 4) : (hzcells o).toArray[2 + p * 4 + j]? = [Value.int .u64 0, .int .u64 0, .int .u32 0, .slice none 0 0][j]? := by
  unfold hzcells
  rw [List.getElem?_toArray, List.getElem?_append_right (by simp; omega)]
  rw [show 2 + p * 4 + j - [Value.int .u64 0, .int .u64 (o : Int)].length = p * 4 + j by simp; omega]
  rw [flatten_get (sz := 4) (fun cs hc => by rw [List.eq_of_mem_replicate hc]; rfl) p j hj]
  rw [List.getElem?_replicate, if_pos hp]
  rfl
set_option maxRecDepth 100000 in
theorem hzcells_ok (o : Nat) : HzC (hzcells o).toArray (Hz.new o) (fun _ => .slice none 0 0) := by
  refine ⟨by simp [hzcells], rfl, rfl, fun p hp => ?_, fun p hp => ?_, fun p hp => ?_, fun p hp => ?_⟩
  · exact hzcells_get o p 0 hp (by decide)
  · exact hzcells_get o p 1 hp (by decide)
  · exact hzcells_get o p 2 hp (by decide)
  · exact hzcells_get o p 3 hp (by decide)
set_option maxRecDepth 100000 in
theorem hz_zero (o : Nat) : Tryd.zeroCells130.setIfInBounds 1 (.int .u64 (o : Int)) = (hzcells o).toArray := by kernel_rfl
theorem HzAt.fresh {w : World} {g : Nat} (o : Nat) {cs : Array Value} (hg : g = w.heap.size) (hc : cs = (hzcells o).toArray) {base : Nat} (hb : base ≤ w.heap.size) : HzAt base (w.alloc (.cells cs 130)) g (Hz.new o) (fun _ => .slice none 0 0) := by
  subst hc; subst hg
  refine ⟨hb, ⟨_, Blk.new _ _ _ rfl, hzcells_ok o⟩, fun p hp => World.ownsRow_nil _ _ _ _, fun p q b _ _ _ h => ?_, ⟨?_⟩⟩
  · cases h
  · show (0 : Nat) < _
    decide
set_option maxRecDepth 100000 in
set_option maxHeartbeats 4000000 in
theorem new_any {base : Nat} {w : World} (me : Int) {s : Nat} (hs : S64 s) (hb : base ≤ w.heap.size) :
    Calls Tryd.prog 56 #[.int .i64 me, .int .u64 (s : Int)] w fun e w' => ∃ g, e = .returned (.pointer (some ⟨g, 0, none⟩)) ∧ HzAt base w' g (Hz.new (sless s [me])) (fun _ => .slice none 0 0) ∧ Below w.heap.size w w' ∧ w.heap.size ≤ g := by
  go_enter Tryd.func56, Tryd.ntmps56
  go_wp2_with fail
  refine (less_any (l := [me]) hs (by exact Ints.lit _ _ _ _ _ _ (by simp) rfl rfl) (by simp)).mono ?_
  rintro e w1 ⟨rfl, rfl⟩
  obtain ⟨o, ho⟩ : ∃ o, o = sless s [me] := ⟨_, rfl⟩
  rw [← ho]
  have HO := Lib.hid ho
  clear ho
  go_wp2_with fail
  go_ret
  rw [← HO.out]
  have hb1 : Below w.heap.size w (w.alloc (.cells #[.int .i64 me] 3)) := bal (Below.refl _ _) _
  exact ⟨_, rfl, HzAt.fresh o (by simp) (hz_zero o) (by simp; omega), bal hb1 _, by omega⟩
end Go.Proofs.YtheeclmpkddgjaaDoor
