import Derived.Test.YtheeclmpkddgjaaSetE
import Derived.Test.YtheeclmpkddgjaaArr
namespace Go.Proofs.Ytheeclmpkddgjaa
set_option linter.unusedVariables false
set_option linter.unusedSimpArgs false
open Go.RowKit
theorem arr_info : (Try.prog.info? 75).map (·.size) = some 64 := by kernel_rfl
def shr (s k : Nat) : Nat := s / 2 ^ k
theorem shr_next (s k : Nat) : shr s (k + 1) = shr s k / 2 := by
  unfold shr
  rw [Nat.pow_succ, ← Nat.div_div_eq_div_mul]
theorem shr_half {s : Nat} (hs : S64 s) (k : Nat) : IntKind.u64.wrap (((shr s k : Nat) : Int) / 2) = ((shr s k / 2 : Nat) : Int) := by
  have h1 := hs.lt
  have h2 : shr s k ≤ s := Nat.div_le_self _ _
  rw [IntKind.wrap_u64]
  omega
theorem tb_mod (s k : Nat) : (((shr s k : Nat) : Int) % 2 == 1) = s.testBit k := by
  unfold shr
  rw [Nat.testBit_eq_decide_div_mod_eq, Bool.eq_iff_iff, beq_iff_eq, decide_eq_true_eq]
  omega
set_option maxRecDepth 20000 in
set_option maxHeartbeats 400000 in
theorem truths_any {s : Nat} (hs : S64 s) (w : World) :
    Calls Try.prog 43 #[.int .u64 (s : Int)] w fun e w' => e = .returned (.agg (arr fun p => s.testBit p)) ∧ Below w.heap.size w w' := by
  go_enter Try.func43, Try.ntmps43
  go_wp2_with fail
  go_loopw [0, 4] (fun v i wr => ∃ k : Nat, k ≤ 64 ∧ i = .int .i64 k ∧ v = .int .u64 (shr s k : Nat) ∧ Hid (Blk wr w.heap.size 75 (arr fun _ => false)) ∧ Hid (Blk wr (w.heap.size + 1) 75 (arr fun p => decide (p < k) && s.testBit p)) ∧ Hid (Below w.heap.size w wr)) (fun _ i _ => 64 - (intOf i).toNat)
  case atStart =>
    refine ⟨0, by omega, rfl, by simp [shr], ?_, ?_, ?_⟩
    · exact (Blk.new w _ _ rfl).old _
    · exact Blk.new _ _ _ (by simp)
    · exact bal (bal (Below.refl _ _) _) _
  case round =>
    obtain ⟨k, hk, rfl, rfl, H0, H1, HB⟩ := hrel
    by_cases hlt : k < 64
    · have hlt' : (k : Int) < 64 := by omega
      have hc : wr.cell? ⟨w.heap.size + 1, k, none⟩ = some (.bool (decide (k < k) && s.testBit k)) := (H1.out.cell k).trans (arr_get _ k hlt)
      have hf : wr.frozen? ⟨w.heap.size + 1, k, none⟩ = false := H1.out.free k
      go_wp2_with fail
      go_roundw
      case rel =>
        refine ⟨k + 1, by omega, by go_num, ?_, ?_, ?_, ?_⟩
        · rw [shr_next, shr_half hs]
        · exact H0.out.other (by simp) _
        · have := H1.out.set k (.bool (((shr s k : Nat) : Int) % 2 == 1))
          rw [tb_mod, arr_set _ _ _ hlt] at this
          have e : arr (fun p => decide (p < k + 1) && s.testBit p) = arr (fun p => if p = k then s.testBit k else decide (p < k) && s.testBit p) := arr_congr fun p hp => by
            by_cases h : p = k
            · subst h; simp
            · rw [if_neg h]; congr 1; exact decide_eq_decide.2 (by omega)
          rw [e]
          rw [tb_mod]
          exact this
        · exact HB.out.setCell (by simp) _
      case measure => simp [intOf]; omega
    · obtain rfl : k = 64 := by omega
      clear hlt
      go_wp2_with (first | refine wpList_load_row rfl 75 _ rfl (w.heap.size + 1) rfl 75 _ (0, 0) _ H1.out Try.underlying75 rfl (by rw [arr_size]; exact arr_info) ?_ | refine wpList_store_row rfl 75 _ _ rfl w.heap.size rfl 75 _ _ rfl H0.out (by rw [arr_size]; exact arr_info) (by rw [arr_size, arr_size]) (arr_one _) ?_)
      have e : arr (fun p => decide (p < 64) && s.testBit p) = arr (fun p => s.testBit p) := arr_congr fun p hp => by simp [hp]
      refine bodyPost_ret (v := .agg (arr fun p => s.testBit p)) (by rw [← e]; exact results_cell_row rfl _ _ w.heap.size 75 _ (0, 0) _ rfl (H0.out.row _) Try.underlying75 rfl (by rw [arr_size]; exact arr_info)) rfl ⟨rfl, ?_⟩
      exact bsetRow HB.out (Nat.le_refl _) _
end Go.Proofs.Ytheeclmpkddgjaa
