import Derived.Test.YtheeclmpkddgjaaDoorNamesD
import Derived.Test.YtheeclmpkddgjaaDoorArr
import Derived.Deep.RegionHeld3
namespace Go.Proofs.YtheeclmpkddgjaaDoor
set_option linter.unusedVariables false
set_option linter.unusedSimpArgs false
open Go.RowKit
theorem refRec_info : (Tryd.prog.info? 108).map (·.size) = some 5 := by kernel_rfl
set_option maxRecDepth 20000 in
set_option maxHeartbeats 400000 in
theorem rec_any (n e m : Int) (r : Int) (A : Option Addr) (l c : Nat) (w : World) :
    Calls Tryd.prog 109 #[.agg #[.int .u64 n, .int .u64 e, .int .i64 r, .int .u64 m, .slice A l c]] w fun en w' => en = .returned (.agg #[.int .u64 n, .int .u64 e, .int .i64 r, .int .u64 m, .slice A l c]) ∧
      (w.alloc (.cells #[.int .u64 n, .int .u64 e, .int .i64 r, .int .u64 m, .slice A l c] 66)).alloc (.cells #[.int .u64 n, .int .u64 e, .int .i64 r, .int .u64 m, .slice A l c] 108) = w' := by
  go_enter Tryd.func109, Tryd.ntmps109
  go_wp2_with fail
  refine bodyPost_ret (v := .agg #[.int .u64 n, .int .u64 e, .int .i64 r, .int .u64 m, .slice A l c]) (by exact results_cell_row rfl _ _ (w.heap.size + 1) 108 _ (0, 0) _ rfl (Blk.new _ _ _ (by simp)) Tryd.underlying108 rfl refRec_info) rfl ⟨rfl, rfl⟩
theorem refItem_info : (Tryd.prog.info? 117).map (·.size) = some 18 := by kernel_rfl
set_option maxRecDepth 20000 in
set_option maxHeartbeats 4000000 in
theorem item_raw (k0 k2 k3 k6 k7 k8 k9 k11 k12 k13 k14 k15 k16 k17 : Int) (k1 : ByteArray) (k4 k5 : Bool) (A : Option Addr) (l c : Nat) (w : World) :
    Calls Tryd.prog 84 #[.agg #[.int .i64 k0, .string k1, .int .u32 k2, .int .u64 k3, .bool k4, .bool k5, .int .u64 k6, .int .u64 k7, .int .i64 k8, .int .u64 k9, .slice A l c, .int .u64 k11, .int .u64 k12, .int .i64 k13, .int .u64 k14, .int .u64 k15, .int .i64 k16, .int .i64 k17]] w fun en w' => en = .returned (.agg #[.int .i64 k0, .string k1, .int .u32 k2, .int .u64 k3, .bool k4, .bool k5, .int .u64 k6, .int .u64 k7, .int .i64 k8, .int .u64 k9, .slice A l c, .int .u64 k11, .int .u64 k12, .int .i64 k13, .int .u64 k14, .int .u64 k15, .int .i64 k16, .int .i64 k17]) ∧ Below w.heap.size w w' := by
  go_enter Tryd.func84, Tryd.ntmps84
  go_wp2_with fail
  go_region_held3 (fun w' => (w'.cell? ⟨w.heap.size, 0, none⟩ = some (.int .i64 k0) ∧ w'.cell? ⟨w.heap.size, 1, none⟩ = some (.string k1) ∧ w'.cell? ⟨w.heap.size, 2, none⟩ = some (.int .u32 k2) ∧ w'.cell? ⟨w.heap.size, 3, none⟩ = some (.int .u64 k3) ∧ w'.cell? ⟨w.heap.size, 4, none⟩ = some (.bool k4) ∧ w'.cell? ⟨w.heap.size, 5, none⟩ = some (.bool k5) ∧ w'.cell? ⟨w.heap.size, 6, none⟩ = some (.int .u64 k6) ∧ w'.cell? ⟨w.heap.size, 7, none⟩ = some (.int .u64 k7) ∧ w'.cell? ⟨w.heap.size, 8, none⟩ = some (.int .i64 k8) ∧ w'.cell? ⟨w.heap.size, 9, none⟩ = some (.int .u64 k9) ∧ w'.cell? ⟨w.heap.size, 10, none⟩ = some (.slice A l c) ∧ w'.cell? ⟨w.heap.size, 11, none⟩ = some (.int .u64 k11) ∧ w'.cell? ⟨w.heap.size, 12, none⟩ = some (.int .u64 k12) ∧ w'.cell? ⟨w.heap.size, 13, none⟩ = some (.int .i64 k13) ∧ w'.cell? ⟨w.heap.size, 14, none⟩ = some (.int .u64 k14) ∧ w'.cell? ⟨w.heap.size, 15, none⟩ = some (.int .u64 k15) ∧ w'.cell? ⟨w.heap.size, 16, none⟩ = some (.int .i64 k16) ∧ w'.cell? ⟨w.heap.size, 17, none⟩ = some (.int .i64 k17))) (go_keep) (first | (go_at_call 109; refine (rec_any _ _ _ _ _ _ _ _).mono ?_; rintro e w2 ⟨rfl, rfl⟩))
  go_wp2_with fail
  refine bodyPost_ret (v := .agg #[.int .i64 k0, .string k1, .int .u32 k2, .int .u64 k3, .bool k4, .bool k5, .int .u64 k6, .int .u64 k7, .int .i64 k8, .int .u64 k9, .slice A l c, .int .u64 k11, .int .u64 k12, .int .i64 k13, .int .u64 k14, .int .u64 k15, .int .i64 k16, .int .i64 k17]) (by exact results_cell_row rfl _ _ (w.heap.size + 1) 117 _ (0, 0) _ rfl (by exact Blk.old (Blk.old (Blk.new _ _ _ (by simp)) _) _) Tryd.underlying117 rfl refItem_info) rfl ⟨rfl, ?_⟩
  repeat (first | exact Below.refl _ _ | refine bal ?_ _ | refine Below.drew ?_)
theorem item_any {x : Itm} {cs : List Value} {w w0 : World} (h : KItem w0 x cs) :
    Calls Tryd.prog 84 #[.agg cs.toArray] w fun en w' => en = .returned (.agg cs.toArray) ∧ Below w.heap.size w w' := by
  obtain ⟨v, rfl, _, hv⟩ := h
  obtain ⟨A, c, rfl, _⟩ := hv.slice
  exact item_raw _ _ _ _ _ _ _ _ _ _ _ _ _ _ _ _ _ _ _ _ w
end Go.Proofs.YtheeclmpkddgjaaDoor
