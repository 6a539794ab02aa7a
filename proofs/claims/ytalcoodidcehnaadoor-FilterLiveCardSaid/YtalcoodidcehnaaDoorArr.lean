import Derived.Test.YtalcoodidcehnaaDoorPureC
import Derived.Test.YtalcoodidcehnaaDoorMem
import Derived.Deep.WholeRow
import Derived.Deep.MidRow
namespace Go.Proofs.YtalcoodidcehnaaDoor
set_option linter.unusedVariables false
set_option linter.unusedSimpArgs false
open Go.RowKit
/-! arrays of 64 truths, as functions -/
def arr (f : Nat → Bool) : Array Value := ((List.range 64).map fun p => Value.bool (f p)).toArray
theorem arr_size (f : Nat → Bool) : (arr f).size = 64 := by simp [arr]
theorem arr_get (f : Nat → Bool) (i : Nat) (hi : i < 64) : (arr f)[i]? = some (.bool (f i)) := by
  simp [arr, hi]
theorem arr_set (f : Nat → Bool) (i : Nat) (v : Bool) (hi : i < 64) : (arr f).setIfInBounds i (.bool v) = arr (fun p => if p = i then v else f p) := by
  apply Array.ext_getElem?
  intro j
  rw [Array.getElem?_setIfInBounds]
  by_cases h : i = j
  · subst h
    rw [if_pos rfl, if_pos (by rw [arr_size]; exact hi), arr_get _ _ hi, if_pos rfl]
  · rw [if_neg h]
    by_cases hj : j < 64
    · rw [arr_get _ _ hj, arr_get _ _ hj, if_neg (fun e => h e.symm)]
    · simp [arr, hj]
theorem arr_congr {f g : Nat → Bool} (h : ∀ p, p < 64 → f p = g p) : arr f = arr g := by
  unfold arr
  rw [List.map_congr_left (fun p hp => by rw [h p (List.mem_range.1 hp)])]
theorem arr_one (f : Nat → Bool) : (arr f).all (·.oneCell') = true := by
  rw [Array.all_eq_true_iff_forall_mem]
  intro v hv
  simp only [arr, List.mem_toArray, List.mem_map] at hv
  obtain ⟨p, _, rfl⟩ := hv
  rfl
/-- a block that holds cells, and may be written -/
def Blk (w : World) (g : Nat) (t : TypeId) (cs : Array Value) : Prop := w.heap[g]? = some (.cells cs t (0, 0))
theorem Blk.cell {w : World} {g : Nat} {t : TypeId} {cs : Array Value} (h : Blk w g t cs) (i : Nat) : w.cell? ⟨g, i, none⟩ = cs[i]? := cell_of_row w g i cs t (0, 0) h
theorem Blk.free {w : World} {g : Nat} {t : TypeId} {cs : Array Value} (h : Blk w g t cs) (i : Nat) : w.frozen? ⟨g, i, none⟩ = false := frozen_of_row w g i cs t h
theorem Blk.lt {w : World} {g : Nat} {t : TypeId} {cs : Array Value} (h : Blk w g t cs) : g < w.heap.size := (Array.getElem?_eq_some_iff.1 h).1
theorem Blk.set {w : World} {g : Nat} {t : TypeId} {cs : Array Value} (h : Blk w g t cs) (i : Nat) (v : Value) : Blk (w.setCell ⟨g, i, none⟩ v) g t (cs.setIfInBounds i v) := heap_setCell_same w g i cs t v h
theorem Blk.other {w : World} {g : Nat} {t : TypeId} {cs : Array Value} (h : Blk w g t cs) {a : Addr} (hn : g ≠ a.block) (v : Value) : Blk (w.setCell a v) g t cs := (heap_setCell_other w a g v hn).trans h
theorem Blk.below {w w' : World} {g : Nat} {t : TypeId} {cs : Array Value} (h : Blk w g t cs) {B : Nat} (hb : Below B w w') (hg : g < B) : Blk w' g t cs := (hb.block g hg).trans h
theorem Blk.stay {w w' : World} {g : Nat} {t : TypeId} {cs : Array Value} (h : Blk w g t cs) (hb : Below w.heap.size w w') : Blk w' g t cs := h.below hb h.lt
theorem Blk.new (w : World) (t : TypeId) (cs : Array Value) {g : Nat} (hg : g = w.heap.size) : Blk (w.alloc (.cells cs t)) g t cs := by subst hg; exact heap_alloc_new w _
theorem Blk.old {w : World} {g : Nat} {t : TypeId} {cs : Array Value} (h : Blk w g t cs) (o : Obj) : Blk (w.alloc o) g t cs := (Below.heap_alloc w o g h.lt).trans h
theorem Blk.row {w : World} {g : Nat} {t : TypeId} {cs : Array Value} (h : Blk w g t cs) (cs' : Array Value) : Blk (w.setRow g cs') g t cs' := setRow_heap w g cs cs' t (0, 0) h
theorem heap_setRow_other (w : World) (g k : Nat) (cs : Array Value) (h : k ≠ g) : (w.setRow g cs).heap[k]? = w.heap[k]? := by
  simp only [World.setRow, Array.getElem?_modify]
  rw [if_neg (fun e => h e.symm)]
theorem Blk.rowOther {w : World} {g : Nat} {t : TypeId} {cs : Array Value} (h : Blk w g t cs) {k : Nat} (hn : g ≠ k) (cs' : Array Value) : Blk (w.setRow k cs') g t cs := (heap_setRow_other w k g cs' hn).trans h
theorem bsetRow {B : Nat} {a w : World} (h : Below B a w) {g : Nat} (hg : B ≤ g) (cs : Array Value) : Below B a (w.setRow g cs) :=
  h.trans ⟨rfl, rfl, rfl, by simp, fun k hk => heap_setRow_other w g k cs (by omega)⟩
/-- a whole row is stored -/
theorem wpList_store_row {P : Program} {ops : Array Oper} {rest : List Oper} {o : Oper} {a : Act} {w : World} {Q : Exit → Act → World → Prop} (hgd : o.guard = none) (ty : TypeId) (x y : Operand) (ho : o.op = .store ty x y)
    (g : Nat) (hx : a.eval x = .pointer (some ⟨g, 0, none⟩)) (t : TypeId) (old cells : Array Value) (hy : a.eval y = .agg cells) (hg : Blk w g t old) (hi : (P.info? ty).map (·.size) = some cells.size)
    (hsz : old.size = cells.size) (h1 : cells.all (·.oneCell') = true) (h : wpList P ops Q rest (a.put o.dst undef) (w.setRow g cells)) : wpList P ops Q (o :: rest) a w :=
  wpList_plain hgd fun _ hK => by
    unfold Oper.wp execOp
    simp only [ho, hx, hy, Instr.storeAt, Instr.sureAddr, Sem.run_bind, Sem.run_pure, Result.andThen_ok, run_storeVar_row w g t ty old cells hg hi hsz h1]
    exact hK _ _ h
theorem arr_none : #[Value.bool false, Value.bool false, Value.bool false, Value.bool false, Value.bool false, Value.bool false, Value.bool false, Value.bool false, Value.bool false, Value.bool false, Value.bool false, Value.bool false, Value.bool false, Value.bool false, Value.bool false, Value.bool false, Value.bool false, Value.bool false, Value.bool false, Value.bool false, Value.bool false, Value.bool false, Value.bool false, Value.bool false, Value.bool false, Value.bool false, Value.bool false, Value.bool false, Value.bool false, Value.bool false, Value.bool false, Value.bool false, Value.bool false, Value.bool false, Value.bool false, Value.bool false, Value.bool false, Value.bool false, Value.bool false, Value.bool false, Value.bool false, Value.bool false, Value.bool false, Value.bool false, Value.bool false, Value.bool false, Value.bool false, Value.bool false, Value.bool false, Value.bool false, Value.bool false, Value.bool false, Value.bool false, Value.bool false, Value.bool false, Value.bool false, Value.bool false, Value.bool false, Value.bool false, Value.bool false, Value.bool false, Value.bool false, Value.bool false, Value.bool false] = arr (fun _ => false) := rfl
/-! the number of truths -/
def numFrom (f : Nat → Bool) : Nat → Nat
  | 0 => 0
  | n + 1 => 2 * numFrom f n + (if f (63 - n) then 1 else 0)
theorem numFrom_tb (f : Nat → Bool) : ∀ n, n ≤ 64 → ∀ q, (numFrom f n).testBit q = (decide (q < n) && f (64 - n + q))
  | 0, _, q => by simp [numFrom]
  | n + 1, hn, q => by
    have ih := numFrom_tb f n (by omega)
    rw [numFrom]
    cases q with
    | zero =>
      rw [Nat.testBit_zero]
      simp only [show 64 - (n + 1) + 0 = 63 - n by omega, Nat.zero_lt_succ, decide_true, Bool.true_and]
      split <;> rename_i h <;> simp [h] <;> omega
    | succ q =>
      rw [Nat.testBit_succ]
      have e : (2 * numFrom f n + if f (63 - n) = true then 1 else 0) / 2 = numFrom f n := by split <;> omega
      rw [e, ih, show 64 - (n + 1) + (q + 1) = 64 - n + q by omega]
      congr 1
      exact decide_eq_decide.2 (by omega)
theorem numFrom_lt (f : Nat → Bool) : ∀ n, numFrom f n < 2 ^ n
  | 0 => by simp [numFrom]
  | n + 1 => by
    have := numFrom_lt f n
    rw [numFrom, Nat.pow_succ]
    split <;> omega
def num (f : Nat → Bool) : Nat := numFrom f 64
theorem S64.num (f : Nat → Bool) : S64 (num f) := ⟨numFrom_lt f 64⟩
theorem tb_num (f : Nat → Bool) (q : Nat) (hq : q < 64) : (num f).testBit q = f q := by
  unfold Go.Proofs.YtalcoodidcehnaaDoor.num
  rw [numFrom_tb f 64 (by omega)]
  simp [hq]
theorem num_eq {f : Nat → Bool} {s : Nat} (hs : S64 s) (h : ∀ p, p < 64 → f p = s.testBit p) : num f = s :=
  S64.ext (S64.num f) hs fun p hp => by rw [tb_num f p hp, h p hp]
end Go.Proofs.YtalcoodidcehnaaDoor
