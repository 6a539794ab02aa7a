import Derived.Test.YtalcoodidcehnaaDoorArr
import Derived.Great.Walk
namespace Go.Proofs.YtalcoodidcehnaaDoor
set_option linter.unusedVariables false
set_option linter.unusedSimpArgs false
open Go.RowKit
/-! a new variable, and what is stored into it at once -/
theorem alloc_setRow (w : World) (old cells : Array Value) (t : TypeId) : (w.alloc (.cells old t)).setRow w.heap.size cells = w.alloc (.cells cells t) := by
  have h : (w.heap.push (Obj.cells old t)).modify w.heap.size (fun o => match o with | .cells _ t r => .cells cells t r | o => o) = w.heap.push (Obj.cells cells t) := by
    apply Array.ext_getElem?
    intro i
    rw [Array.getElem?_modify]
    by_cases hi : w.heap.size = i
    · subst hi
      simp
    · rw [if_neg hi]
      by_cases hlt : i < w.heap.size
      · rw [Array.getElem?_push_lt hlt, Array.getElem?_push_lt hlt]
      · rw [Array.getElem?_eq_none (by simp; omega), Array.getElem?_eq_none (by simp; omega)]
  show { w with heap := (w.heap.push (Obj.cells old t)).modify w.heap.size _ } = { w with heap := w.heap.push (Obj.cells cells t) }
  rw [← h]
  rfl
theorem wpList_alloc_store {P : Program} {ops : Array Oper} {rest : List Oper} {o1 o2 : Oper} {a : Act} {w : World} {Q : Exit → Act → World → Prop} (hg1 : o1.guard = none) (hg2 : o2.guard = none) (ty : TypeId) (d : Nat) (y : Operand) (ho1 : o1.op = .alloc ty) (hd : o1.dst = some d) (ho2 : o2.op = .store ty (.tmp d) y)
    {z : Value} (hz : ∀ w, (zeroValue ty).run P w = .ok z w) (cells : Array Value) (hx : (a.put (some d) (.pointer (some ⟨w.heap.size, 0, none⟩))).eval (.tmp d) = .pointer (some ⟨w.heap.size, 0, none⟩)) (hy : (a.put (some d) (.pointer (some ⟨w.heap.size, 0, none⟩))).eval y = .agg cells)
    (hi : (P.info? ty).map (·.size) = some cells.size) (hsz : z.cells.size = cells.size) (h1 : cells.all (·.oneCell') = true)
    (h : wpList P ops Q rest ((a.put (some d) (.pointer (some ⟨w.heap.size, 0, none⟩))).put o2.dst undef) (w.alloc (.cells cells ty))) : wpList P ops Q (o1 :: o2 :: rest) a w := by
  refine wpList_plain hg1 fun K hK => ?_
  unfold Oper.wp
  have hrun : (execOp a.eval o1).run P w = .ok (.value (.pointer (some ⟨w.heap.size, 0, none⟩))) (w.alloc (.cells z.cells ty)) := by
    simp [execOp, ho1, Instr.alloc, Sem.run_bind, hz w, newVar, newRow, run_newObj, Result.andThen]
  rw [hrun, Oper.upon_value, hd]
  refine hK _ _ ?_
  refine wpList_store_row hg2 ty (.tmp d) y ho2 w.heap.size hx ty z.cells cells hy (Blk.new _ _ _ rfl) hi hsz h1 ?_
  rw [alloc_setRow]
  exact h
end Go.Proofs.YtalcoodidcehnaaDoor
