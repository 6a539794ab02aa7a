import Derived.Test.YtheeclmpkddgjaaRefB
namespace Go.Proofs.Ytheeclmpkddgjaa
set_option linter.unusedVariables false
set_option linter.unusedSimpArgs false
open Go.RowKit
set_option maxRecDepth 20000 in
set_option maxHeartbeats 400000 in
theorem refBoth_any {s t : Nat} (hs : S64 s) (ht : S64 t) (w : World) :
    Calls Try.prog 40 #[.int .u64 (s : Int), .int .u64 (t : Int)] w fun e w' => e = .returned (.int .u64 (sboth s t : Nat)) ∧ Below w.heap.size w w' := by
  go_enter Try.func40, Try.ntmps40
  go_wp2_with fail
  refine (truths_any hs _).mono ?_
  rintro e w1 ⟨rfl, hb1⟩
  have HB1 := Lib.hid hb1
  clear hb1
  go_wp2_with fail
  refine (truths_any ht _).mono ?_
  rintro e w2 ⟨rfl, hb2⟩
  have HB2 := Lib.hid (btr HB1.out hb2)
  clear hb2
  go_wp2_with (first | (refine wpList_store_row rfl 75 _ _ rfl (w2.heap.size) rfl 75 _ (arr fun p => s.testBit p) rfl (Blk.old (Blk.new _ _ _ rfl) _) (by rw [arr_size]; exact arr_info) (by rw [arr_size]; rfl) (arr_one _) ?_) | (refine wpList_store_row rfl 75 _ _ rfl (w2.heap.size + 1) rfl 75 _ (arr fun p => t.testBit p) rfl (Blk.rowOther (Blk.new _ _ _ (by simp)) (by simp) _) (by rw [arr_size]; exact arr_info) (by rw [arr_size]; rfl) (arr_one _) ?_))
  go_loopw [7] (fun i wr => ∃ k : Nat, k ≤ 64 ∧ i = .int .i64 k ∧ Hid (Blk wr w2.heap.size 75 (arr fun p => if p < k then (s.testBit p && t.testBit p) else s.testBit p)) ∧ Hid (Blk wr (w2.heap.size + 1) 75 (arr fun p => t.testBit p)) ∧ Hid (Below w.heap.size w wr)) (fun i _ => 64 - (intOf i).toNat)
  case atStart =>
    refine ⟨0, by omega, rfl, ?_, ?_, ?_⟩
    · refine Blk.rowOther ?_ (by simp) _
      simp only [Nat.not_lt_zero, if_false]
      exact Blk.row (Blk.old (Blk.new _ _ _ rfl) _) _
    · refine Blk.row (cs := arr fun _ => false) ?_ _
      refine Blk.rowOther ?_ (by omega) _
      exact Blk.new _ _ _ (by simp)
    · have := HB2.out.size
      exact bsetRow (bsetRow (bal (bal HB2.out _) _) (by omega) _) (by omega) _
  case round =>
    obtain ⟨k, hk, rfl, H0, H1, HB⟩ := hrel
    by_cases hlt : k < 64
    · have hlt' : (k : Int) < 64 := by omega
      have hc : wr.cell? ⟨w2.heap.size, k, none⟩ = some (.bool (s.testBit k)) := (H0.out.cell k).trans ((arr_get _ k hlt).trans (by simp))
      have hd : wr.cell? ⟨w2.heap.size + 1, k, none⟩ = some (.bool (t.testBit k)) := (H1.out.cell k).trans (arr_get _ k hlt)
      have hf : wr.frozen? ⟨w2.heap.size, k, none⟩ = false := H0.out.free k
      have fin : ∀ b, b = (s.testBit k && t.testBit k) → Blk (wr.setCell ⟨w2.heap.size, k, none⟩ (.bool b)) w2.heap.size 75 (arr fun p => if p < k + 1 then (s.testBit p && t.testBit p) else s.testBit p) := by
        intro b hb
        have := H0.out.set k (.bool b)
        rw [arr_set _ _ _ hlt] at this
        rw [show (arr fun p => if p < k + 1 then (s.testBit p && t.testBit p) else s.testBit p) = arr (fun p => if p = k then b else (if p < k then (s.testBit p && t.testBit p) else s.testBit p)) from arr_congr fun p hp => ?_]
        · exact this
        · by_cases h : p = k
          · subst h; rw [if_pos (by omega), if_pos rfl, hb]
          · rw [if_neg h]
            by_cases h' : p < k
            · rw [if_pos h', if_pos (by omega)]
            · rw [if_neg h', if_neg (by omega)]
      have FIN := Lib.hid fin
      clear fin
      cases hx : s.testBit k <;> cases hy : t.testBit k
      all_goals
        rw [hx] at hc
        rw [hy] at hd
        have HX := Lib.hid hx
        have HY := Lib.hid hy
        clear hx hy
        go_wp2_with fail
        go_roundw
        case rel =>
          refine ⟨k + 1, by omega, by go_num, ?_, ?_, ?_⟩
          · exact FIN.out _ (by rw [HX.out, HY.out]; rfl)
          · exact H1.out.other (by simp) _
          · have := HB2.out.size
            exact HB.out.setCell (by first | omega | (simp; omega)) _
        case measure => simp [intOf] <;> omega
    · obtain rfl : k = 64 := by omega
      clear hlt
      go_wp2_with (refine wpList_load_row rfl 75 _ rfl (w2.heap.size) rfl 75 _ (0, 0) _ (H0.out) Try.underlying75 rfl (by rw [arr_size]; exact arr_info) ?_)
      refine (refSet_eq (f := fun p => if p < 64 then (s.testBit p && t.testBit p) else s.testBit p) (s := sboth s t) (hs.both) (fun p hp => by simp only [hp, if_true]; rw [tb_both s t p]) _).mono ?_
      rintro e w3 ⟨rfl, hb3⟩
      have HB3 := Lib.hid (btr HB.out hb3)
      clear hb3
      go_wp2_with fail
      go_ret
      exact ⟨rfl, HB3.out⟩
end Go.Proofs.Ytheeclmpkddgjaa
