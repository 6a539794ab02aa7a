import Derived.Test.YtheeclmpkddgjaaRefC
namespace Go.Proofs.Ytheeclmpkddgjaa
set_option linter.unusedVariables false
set_option linter.unusedSimpArgs false
open Go.RowKit
theorem own_lower {w : World} {base base' : Nat} {e : TypeId} {size n : Nat} {v : Value} {xs : List Value} (h : w.ownsRow base e size v n xs) (hb : base' ≤ base) : w.ownsRow base' e size v n xs := by
  obtain ⟨h1, h2⟩ := h
  refine ⟨h1, ?_⟩
  rcases h2 with h2 | ⟨g, cap, cur, hv, hg, r⟩
  · exact .inl h2
  · exact .inr ⟨g, cap, cur, hv, by omega, r⟩
theorem size_bool : (sizeOf 4).run Try.prog = fun w => .ok 1 w := by kernel_rfl
theorem agg_bool : (isAgg 4).run Try.prog = fun w => .ok false w := by kernel_rfl
theorem idx_arr (f : Nat → Bool) (p : Nat) (hp : p < 64) (w : World) : (Instr.index 75 (.agg (arr f)) (.int .i64 (p : Int))).run Try.prog w = .ok (.bool (f p)) w := by
  have h := arr_get f p hp
  have h2 : (p : Int) < 64 := by omega
  simp [Instr.index, run_underlying Try.underlying75, asIntOf, Sem.run_bind, hp, h2, size_bool, agg_bool, part, h]
set_option maxRecDepth 20000 in
set_option maxHeartbeats 400000 in
theorem refList_own {s : Nat} (hs : S64 s) (w : World) :
    Calls Try.prog 42 #[.int .u64 (s : Int)] w fun e w' => ∃ v, e = .returned v ∧ Below w.heap.size w w' ∧ w'.ownsRow w.heap.size 3 1 v (slist s).length ((slist s).map encN) := by
  obtain ⟨i0, hi, hz0, hz1, hz2⟩ := info_parts info_int
  go_enter Try.func42, Try.ntmps42
  go_wp2_with fail
  refine (truths_any hs _).mono ?_
  rintro e w1 ⟨rfl, hb1⟩
  have HB1 := Lib.hid hb1
  clear hb1
  go_wp2_with (refine wpList_store_row rfl 75 _ _ rfl (w1.heap.size) rfl 75 _ (arr fun p => s.testBit p) rfl (Blk.new _ _ _ rfl) (by rw [arr_size]; exact arr_info) (by rw [arr_size]; rfl) (arr_one _) ?_)
  go_loopw [3, 5] (fun v i wr => ∃ k : Nat, k ≤ 64 ∧ i = .int .i64 k ∧ Hid (Blk wr w1.heap.size 75 (arr fun p => s.testBit p)) ∧ Hid (wr.ownsRow (w1.heap.size + 1) 3 1 v ((List.range k).filter fun p => s.testBit p).length (((List.range k).filter fun p => s.testBit p).map encN)) ∧ Hid (Below w.heap.size w wr) ∧ Hid (w1.heap.size + 1 ≤ wr.heap.size)) (fun _ i _ => 64 - (intOf i).toNat)
  case atStart =>
    have hsz := HB1.out.size
    refine ⟨0, by omega, rfl, ?_, World.ownsRow_nil _ _ _ _, ?_, ?_⟩
    · exact Blk.row (cs := arr fun _ => false) (Blk.new _ _ _ rfl) _
    · exact bsetRow (bal HB1.out _) (by omega) _
    · show _ ≤ (World.setRow _ _ _).heap.size
      rw [size_setRow]
      simp
  case round =>
    obtain ⟨k, hk, rfl, H0, HO, HB, HS⟩ := hrel
    by_cases hlt : k < 64
    · have hlt' : (k : Int) < 64 := by omega
      have hc2 : wr.cell? ⟨w1.heap.size, k, none⟩ = some (.bool (s.testBit k)) := (H0.out.cell k).trans (arr_get _ k hlt)
      have hlen : ((List.range k).filter fun p => s.testBit p).length ≤ 64 := by
        have := List.length_filter_le (fun p => s.testBit p) (List.range k)
        simp at this
        omega
      have hnext : (List.range (k + 1)).filter (fun p => s.testBit p) = (List.range k).filter (fun p => s.testBit p) ++ (if s.testBit k then [k] else []) := by
        rw [List.range_succ, List.filter_append, List.filter_cons]
        split <;> simp
      cases hb : s.testBit k
      · rw [hb] at hc2
        rw [hb] at hnext
        have HN := Lib.hid hnext
        clear hb hnext
        go_wp2_with fail
        go_roundw
        case rel =>
          refine ⟨k + 1, by omega, by go_num, H0, ?_, HB, HS⟩
          rw [HN.out]
          simp only [if_false, Bool.false_eq_true, List.append_nil]
          exact HO
        case measure => simp [intOf] <;> omega
      · rw [hb] at hc2
        rw [hb] at hnext
        have HN := Lib.hid hnext
        clear hb hnext
        obtain ⟨fr, hfr⟩ : ∃ fr, fr = (List.range k).filter fun p => s.testBit p := ⟨_, rfl⟩
        rw [← hfr] at HO hlen HN
        have HF := Lib.hid hfr
        clear hfr
        go_wp2_with (at_builtin; refine wpList_append_own _ rfl _ _ 73 rfl (w1.heap.size + 1) 3 i0 (.int .i64 0) 1 8 Try.underlying73 hi hz0 hz1 hz2 rfl (by decide) _ _ _ rfl (HO.out.alloc _) ⟨wr.heap.size, 0, none⟩ 1 1 [.int .i64 (k : Int)] rfl rfl ?c1 ?c2 ?c3 ?c4 ?c5 ?_)
        try (case c1 => exact cell_one_new _ _ _)
        case c2 => simp [Value.oneCell']
        case c3 => unfold maxLen; omega
        case c4 => omega
        case c5 => have := HS.out; simp; omega
        intro v' w2 hown' hgrow _
        have HO' := Lib.hid hown'
        have hlt3 := HO.out.lt
        have hb1 : Below w.heap.size w w2 := (HB.out.alloc HB.out.size _).grown hgrow (by have := HB.out.size; simp; omega) (fun q hq => by have h1 := (hlt3 q hq).1; have h2 := HB1.out.size; omega)
        have hblk : Blk w2 w1.heap.size 75 (arr fun p => s.testBit p) := (hgrow.block _ (by have := HS.out; simp; omega) (fun e => by have := (hlt3 _ e.symm).1; omega)).trans (H0.out.old _)
        have hs2 : w1.heap.size + 1 ≤ w2.heap.size := by have h1 := hgrow.size; have h2 := HS.out; simp at h1; omega
        have HBB := Lib.hid hb1
        have HBL := Lib.hid hblk
        have HS2 := Lib.hid hs2
        clear hown' hgrow hb1 hblk hs2 hlt3
        go_wp2_with fail
        go_roundw
        case rel =>
          refine ⟨k + 1, by omega, by go_num, HBL, ?_, HBB, HS2⟩
          rw [HN.out]
          simp only [if_true]
          rw [List.length_append, List.map_append]
          exact HO'
        case measure => simp [intOf] <;> omega
    · obtain rfl : k = 64 := by omega
      clear hlt
      go_wp2_with fail
      go_ret
      refine ⟨_, rfl, HB.out, ?_⟩
      have h1 := HB1.out.size
      exact own_lower HO.out (by omega)
end Go.Proofs.Ytheeclmpkddgjaa
