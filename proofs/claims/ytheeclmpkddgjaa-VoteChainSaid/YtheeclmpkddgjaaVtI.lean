import Derived.Test.YtheeclmpkddgjaaVtH
import Derived.Lib.SliceRun
import Derived.Laws.CopyRow
import Derived.Laws.ResultCell
namespace Go.Proofs.Ytheeclmpkddgjaa
set_option linter.unusedVariables false
set_option linter.unusedSimpArgs false
open Go.RowKit
theorem rec_isize : (Try.prog.info? 34).map (·.size) = some 5 := by kernel_rfl
theorem wpList_store_rec {ops : Array Oper} {rest : List Oper} {o : Oper} {a : Act} {w : World} {Q : Exit → Act → World → Prop} (hgd : o.guard = none) (x y : Operand) (ho : o.op = .store 34 x y)
    (g : Nat) (hx : a.eval x = .pointer (some ⟨g, 0, none⟩)) (old : Array Value) (v0 v1 v2 v3 : Value) (A : Option Addr) (l c : Nat) (hy : a.eval y = .agg #[v0, v1, v2, v3, .slice A l c]) (hg : Blk w g 34 old) (hs : old.size = 5) (h1 : #[v0, v1, v2, v3].all (·.oneCell') = true)
    (h : wpList Try.prog ops Q rest (a.put o.dst undef) (w.setRow g #[v0, v1, v2, v3, .slice A l c])) : wpList Try.prog ops Q (o :: rest) a w :=
  wpList_store_row hgd _ x y ho g hx _ _ #[v0, v1, v2, v3, .slice A l c] hy hg (by kernel_rfl) (by rw [hs]; rfl) (by simp [Value.oneCell'] at h1 ⊢; exact h1) h
set_option maxRecDepth 20000 in
set_option maxHeartbeats 4000000 in
theorem vfirst_any (n : Int) (w : World) {x : Int} (hx : ((sall n : Nat) : Int) = x) :
    Calls Try.prog 10 #[.int .i64 n] w fun e w' => e = .returned (.agg #[.int .u64 0, .int .u64 0, .int .i64 0, .int .u64 x, .slice none 0 0]) ∧ Below w.heap.size w w' := by
  subst hx
  go_enter Try.func10, Try.ntmps10
  go_wp2_with fail
  refine (all_any n _).mono ?_
  rintro e w' ⟨rfl, rfl⟩
  have HB := Lib.hid (Blk.new w 34 #[.int .u64 0, .int .u64 0, .int .i64 0, .int .u64 0, .slice none 0 0] rfl)
  go_wp2_with (refine wpList_store_rec rfl _ _ rfl w.heap.size rfl _ _ _ _ _ _ _ _ rfl HB.out rfl (by simp [Value.oneCell']) ?_)
  exact bodyPost_ret (v := .agg #[.int .u64 0, .int .u64 0, .int .i64 0, .int .u64 ((sall n : Nat) : Int), .slice none 0 0]) (by exact results_cell_row rfl _ _ w.heap.size 34 _ (0, 0) _ rfl (HB.out.row _) Try.underlying34 rfl (by exact rec_isize)) rfl ⟨rfl, bsetRow (bal (Below.refl _ _) _) (Nat.le_refl _) _⟩
set_option maxRecDepth 20000 in
set_option maxHeartbeats 1000000 in
theorem form1_any {w : World} {bm : Nat} {f : Vw} (hm : Blk w bm 31 (vwA f)) (x : Vw) {r : Bool} (hr : decide (x.number ≤ f.number) = r) :
    Calls Try.prog 35 #[.agg #[.int .u64 (x.number : Int), .int .u64 (x.epoch : Int), .int .i64 x.rep, .int .u64 (x.members : Int)], .pointer (some ⟨bm, 0, none⟩)] w fun e w' => e = .returned (.bool r) ∧ Below w.heap.size w w' := by
  have hc := hm.cell 0
  simp only [vwA] at hc
  have hl := hm.lt
  have HB : Hid (Below w.heap.size w (w.alloc (.cells #[.int .u64 (x.number : Int), .int .u64 (x.epoch : Int), .int .i64 x.rep, .int .u64 (x.members : Int)] 31))) := bal (Below.refl _ _) _
  clear hm
  go_enter Try.func35, Try.ntmps35
  go_wp2_with fail
  go_ret
  exact ⟨rfl, HB.out⟩
end Go.Proofs.Ytheeclmpkddgjaa
