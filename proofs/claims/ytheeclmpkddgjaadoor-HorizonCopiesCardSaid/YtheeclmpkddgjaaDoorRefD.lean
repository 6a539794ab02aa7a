import Derived.Test.YtheeclmpkddgjaaDoorRefC
namespace Go.Proofs.YtheeclmpkddgjaaDoor
set_option linter.unusedVariables false
set_option linter.unusedSimpArgs false
open Go.RowKit
theorem own_lower {w : World} {base base' : Nat} {e : TypeId} {size n : Nat} {v : Value} {xs : List Value} (h : w.ownsRow base e size v n xs) (hb : base' ≤ base) : w.ownsRow base' e size v n xs := by
  obtain ⟨h1, h2⟩ := h
  refine ⟨h1, ?_⟩
  rcases h2 with h2 | ⟨g, cap, cur, hv, hg, r⟩
  · exact .inl h2
  · exact .inr ⟨g, cap, cur, hv, by omega, r⟩
theorem size_bool : (sizeOf 4).run Tryd.prog = fun w => .ok 1 w := by kernel_rfl
theorem agg_bool : (isAgg 4).run Tryd.prog = fun w => .ok false w := by kernel_rfl
theorem idx_arr (f : Nat → Bool) (p : Nat) (hp : p < 64) (w : World) : (Instr.index 113 (.agg (arr f)) (.int .i64 (p : Int))).run Tryd.prog w = .ok (.bool (f p)) w := by
  have h := arr_get f p hp
  have h2 : (p : Int) < 64 := by omega
  simp [Instr.index, run_underlying Tryd.underlying113, asIntOf, Sem.run_bind, hp, h2, size_bool, agg_bool, part, h]
set_option maxRecDepth 20000 in
set_option maxHeartbeats 400000 in
theorem refOf_any {v : Value} {l : List Int} {w : World} (hv : Ints w v l) (hm : l.length ≤ 140737488351232) :
    Calls Tryd.prog 20 #[v] w fun e w' => e = .returned (.int .u64 (sof l : Nat)) ∧ Below w.heap.size w w' := by
  obtain ⟨A, c, rfl, hc⟩ := hv.slice
  have HV := Lib.hid hv
  clear hv
  go_enter Tryd.func20, Tryd.ntmps20
  go_wp2_with fail
  go_loopw [4] (fun i wr => ∃ k : Nat, k ≤ l.length ∧ i = .int .i64 k ∧ Hid (Blk wr w.heap.size 113 (arr fun p => decide ((p : Int) ∈ l.take k))) ∧ Hid (Below w.heap.size w wr)) (fun i _ => l.length - (intOf i).toNat)
  case atStart =>
    refine ⟨0, by omega, rfl, ?_, bal (Below.refl _ _) _⟩
    simp only [List.take_zero, List.not_mem_nil, decide_false]
    exact Blk.new w _ _ rfl
  case round =>
    obtain ⟨k, hk, rfl, H0, HB⟩ := hrel
    by_cases hlt : k < l.length
    · obtain ⟨b, off, rfl, hcell⟩ := Ints.at (HV.out.below (one_stays _) (by decide) HB.out) k hlt
      have htake : ∀ q : Int, q ∈ l.take (k + 1) ↔ q ∈ l.take k ∨ q = l[k] := by
        intro q
        rw [List.take_succ_eq_append_getElem hlt, List.mem_append, List.mem_singleton]
      have HT := Lib.hid htake
      clear htake
      obtain ⟨x, hx⟩ : ∃ x, x = l[k] := ⟨_, rfl⟩
      rw [← hx] at hcell HT
      have HX := Lib.hid hx
      clear hx
      have keep : (x < 0 ∨ 64 ≤ x) → arr (fun p => decide ((p : Int) ∈ l.take (k + 1))) = arr (fun p => decide ((p : Int) ∈ l.take k)) := fun hx => arr_congr fun p hp => by
        apply decide_eq_decide.2
        rw [HT.out]
        constructor
        · rintro (h | h)
          · exact h
          · omega
        · exact .inl
      have put : ∀ n : Nat, x = n → n < 64 → arr (fun p => decide ((p : Int) ∈ l.take (k + 1))) = (arr fun p => decide ((p : Int) ∈ l.take k)).setIfInBounds n (.bool true) := fun n hx hn => by
        rw [arr_set _ _ _ hn]
        refine arr_congr fun p hp => ?_
        by_cases h : p = n
        · rw [if_pos h, decide_eq_true_eq, HT.out, hx, h]
          exact .inr rfl
        · rw [if_neg h]
          apply decide_eq_decide.2
          rw [HT.out]
          constructor
          · rintro (h | h')
            · exact h
            · omega
          · exact .inl
      have KEEP := Lib.hid keep
      have PUT := Lib.hid put
      clear keep put
      by_cases h0 : x < 0
      · go_wp2_with fail
        go_roundw
        case rel => exact ⟨k + 1, by omega, by go_num, by rw [KEEP.out (.inl h0)]; exact H0, HB⟩
        case measure => simp [intOf] <;> omega
      · by_cases h1 : 64 ≤ x
        · go_wp2_with fail
          go_roundw
          case rel => exact ⟨k + 1, by omega, by go_num, by rw [KEEP.out (.inr h1)]; exact H0, HB⟩
          case measure => simp [intOf] <;> omega
        · obtain ⟨n, rfl⟩ : ∃ n : Nat, x = n := ⟨x.toNat, by omega⟩
          have hn : n < 64 := by omega
          have hc2 := (H0.out.cell n).trans (arr_get _ n hn)
          have hf2 := H0.out.free n
          go_wp2_with fail
          go_roundw
          case rel => exact ⟨k + 1, by omega, by go_num, by rw [PUT.out n rfl hn]; exact H0.out.set n _, HB.out.setCell (Nat.le_refl _) _⟩
          case measure => simp [intOf] <;> omega
    · go_wp2_with (refine wpList_load_row rfl 113 _ rfl (w.heap.size) rfl 113 _ (0, 0) _ (H0.out) Tryd.underlying113 rfl (by rw [arr_size]; exact arr_info) ?_)
      refine (refSet_eq (f := fun p => decide ((p : Int) ∈ l.take k)) (s := sof l) (S64.of l) (fun p hp => by rw [tb_of _ _ hp, List.take_of_length_le (by omega)]) _).mono ?_
      rintro e w3 ⟨rfl, hb3⟩
      have HB3 := Lib.hid (btr HB.out hb3)
      clear hb3
      go_wp2_with fail
      go_ret
      exact ⟨rfl, HB3.out⟩
set_option maxRecDepth 20000 in
set_option maxHeartbeats 400000 in
theorem refAll_any (n : Int) (w : World) :
    Calls Tryd.prog 44 #[.int .i64 n] w fun e w' => e = .returned (.int .u64 (sall n : Nat)) ∧ Below w.heap.size w w' := by
  go_enter Tryd.func44, Tryd.ntmps44
  go_wp2_with fail
  go_loopw [4] (fun i wr => ∃ k : Nat, k ≤ 64 ∧ i = .int .i64 k ∧ Hid (Blk wr w.heap.size 113 (arr fun p => decide (p < k) && decide ((p : Int) < n))) ∧ Hid (Below w.heap.size w wr)) (fun i _ => 64 - (intOf i).toNat)
  case atStart =>
    refine ⟨0, by omega, rfl, ?_, bal (Below.refl _ _) _⟩
    simp only [Nat.not_lt_zero, decide_false, Bool.false_and]
    exact Blk.new w _ _ rfl
  case round =>
    obtain ⟨k, hk, rfl, H0, HB⟩ := hrel
    by_cases hlt : k < 64
    · have hlt' : (k : Int) < 64 := by omega
      have hc2 := (H0.out.cell k).trans (arr_get _ k hlt)
      have hf2 := H0.out.free k
      have put : arr (fun p => decide (p < k + 1) && decide ((p : Int) < n)) = (arr fun p => decide (p < k) && decide ((p : Int) < n)).setIfInBounds k (.bool (decide ((k : Int) < n))) := by
        rw [arr_set _ _ _ hlt]
        refine arr_congr fun p hp => ?_
        by_cases h : p = k
        · rw [if_pos h, h]; simp
        · rw [if_neg h]; congr 1; exact decide_eq_decide.2 (by omega)
      have PUT := Lib.hid put
      clear put
      go_wp2_with fail
      all_goals
        go_roundw
        case rel => exact ⟨k + 1, by omega, by go_num, by rw [PUT.out]; exact H0.out.set k _, HB.out.setCell (Nat.le_refl _) _⟩
        case measure => simp [intOf] <;> omega
    · obtain rfl : k = 64 := by omega
      clear hlt
      go_wp2_with (refine wpList_load_row rfl 113 _ rfl (w.heap.size) rfl 113 _ (0, 0) _ (H0.out) Tryd.underlying113 rfl (by rw [arr_size]; exact arr_info) ?_)
      refine (refSet_eq (f := fun p => decide (p < 64) && decide ((p : Int) < n)) (s := sall n) (S64.all n) (fun p hp => by rw [tb_all _ _ hp]; simp [hp]) _).mono ?_
      rintro e w3 ⟨rfl, hb3⟩
      have HB3 := Lib.hid (btr HB.out hb3)
      clear hb3
      go_wp2_with fail
      go_ret
      exact ⟨rfl, HB3.out⟩
set_option maxRecDepth 20000 in
set_option maxHeartbeats 400000 in
theorem refHas_lo {s : Nat} (hs : S64 s) (p : Int) (h : p < 0) (w : World) :
    Calls Tryd.prog 36 #[.int .u64 (s : Int), .int .i64 p] w fun e w' => e = .returned (.bool (shas s p)) ∧ Below w.heap.size w w' := by
  have e : shas s p = false := by unfold shas; rw [decide_eq_false (by omega)]; rfl
  rw [e]
  clear e
  go_enter Tryd.func36, Tryd.ntmps36
  go_wp2_with fail
  go_ret
  exact ⟨rfl, Below.refl _ _⟩
set_option maxRecDepth 20000 in
set_option maxHeartbeats 400000 in
theorem refHas_hi {s : Nat} (hs : S64 s) (p : Int) (h0 : 0 ≤ p) (h : 64 ≤ p) (w : World) :
    Calls Tryd.prog 36 #[.int .u64 (s : Int), .int .i64 p] w fun e w' => e = .returned (.bool (shas s p)) ∧ Below w.heap.size w w' := by
  have e : shas s p = false := by unfold shas; rw [decide_eq_false (by omega)]; rfl
  rw [e]
  clear e
  go_enter Tryd.func36, Tryd.ntmps36
  go_wp2_with fail
  go_ret
  exact ⟨rfl, Below.refl _ _⟩
set_option maxRecDepth 20000 in
set_option maxHeartbeats 400000 in
theorem refHas_in {s : Nat} (hs : S64 s) (p : Nat) (h : p < 64) (w : World) :
    Calls Tryd.prog 36 #[.int .u64 (s : Int), .int .i64 (p : Int)] w fun e w' => e = .returned (.bool (s.testBit p)) ∧ Below w.heap.size w w' := by
  have h' : (p : Int) < 64 := by omega
  have hi := idx_arr (fun p => s.testBit p) p h
  go_enter Tryd.func36, Tryd.ntmps36
  go_wp2_with fail
  refine (truths_any hs _).mono ?_
  rintro e w1 ⟨rfl, hb1⟩
  have HB1 := Lib.hid hb1
  clear hb1
  go_wp2_with fail
  go_ret
  exact ⟨rfl, HB1.out⟩
theorem refHas_any {s : Nat} (hs : S64 s) (p : Int) (w : World) :
    Calls Tryd.prog 36 #[.int .u64 (s : Int), .int .i64 p] w fun e w' => e = .returned (.bool (shas s p)) ∧ Below w.heap.size w w' := by
  by_cases h0 : p < 0
  · exact refHas_lo hs p h0 w
  · by_cases h1 : 64 ≤ p
    · exact refHas_hi hs p (by omega) h1 w
    · obtain ⟨n, rfl⟩ : ∃ n : Nat, p = n := ⟨p.toNat, by omega⟩
      rw [shas_nat s n (by omega)]
      exact refHas_in hs n (by omega) w
set_option maxRecDepth 20000 in
set_option maxHeartbeats 400000 in
theorem refIn_any {s t : Nat} (hs : S64 s) (ht : S64 t) (w : World) :
    Calls Tryd.prog 38 #[.int .u64 (s : Int), .int .u64 (t : Int)] w fun e w' => e = .returned (.bool (sin s t)) ∧ Below w.heap.size w w' := by
  have e : ((sbut s t : Nat) : Int) = 0 ∨ ¬ ((sbut s t : Nat) : Int) = 0 := by omega
  have e2 : sin s t = (((sbut s t : Nat) : Int) == 0) := (cast_beq _ 0).symm
  rw [e2]
  clear e e2
  go_enter Tryd.func38, Tryd.ntmps38
  go_wp2_with fail
  refine (refBut_any hs ht _).mono ?_
  rintro e w1 ⟨rfl, hb1⟩
  have HB1 := Lib.hid hb1
  clear hb1
  go_wp2_with fail
  go_ret
  exact ⟨rfl, HB1.out⟩
set_option maxRecDepth 20000 in
set_option maxHeartbeats 400000 in
theorem refList_own {s : Nat} (hs : S64 s) (w : World) :
    Calls Tryd.prog 42 #[.int .u64 (s : Int)] w fun e w' => ∃ v, e = .returned v ∧ Below w.heap.size w w' ∧ w'.ownsRow w.heap.size 3 1 v (slist s).length ((slist s).map encN) := by
  obtain ⟨i0, hi, hz0, hz1, hz2⟩ := info_parts info_int
  go_enter Tryd.func42, Tryd.ntmps42
  go_wp2_with fail
  refine (truths_any hs _).mono ?_
  rintro e w1 ⟨rfl, hb1⟩
  have HB1 := Lib.hid hb1
  clear hb1
  go_wp2_with (refine wpList_store_row rfl 113 _ _ rfl (w1.heap.size) rfl 113 _ (arr fun p => s.testBit p) rfl (Blk.new _ _ _ rfl) (by rw [arr_size]; exact arr_info) (by rw [arr_size]; rfl) (arr_one _) ?_)
  go_loopw [3, 5] (fun v i wr => ∃ k : Nat, k ≤ 64 ∧ i = .int .i64 k ∧ Hid (Blk wr w1.heap.size 113 (arr fun p => s.testBit p)) ∧ Hid (wr.ownsRow (w1.heap.size + 1) 3 1 v ((List.range k).filter fun p => s.testBit p).length (((List.range k).filter fun p => s.testBit p).map encN)) ∧ Hid (Below w.heap.size w wr) ∧ Hid (w1.heap.size + 1 ≤ wr.heap.size)) (fun _ i _ => 64 - (intOf i).toNat)
  case atStart =>
    have hsz := HB1.out.size
    refine ⟨0, by omega, rfl, ?_, World.ownsRow_nil _ _ _ _, ?_, ?_⟩
    · exact Blk.row (cs := arr fun _ => false) (Blk.new _ _ _ rfl) _
    · exact bsetRow (bal HB1.out _) (by omega) _
    · show _ ≤ (World.setRow _ _ _).heap.size
      rw [size_setRow]
      simp
  case round =>
    obtain ⟨k, hk, rfl, H0, HO, HB, HS⟩ := hrel
    by_cases hlt : k < 64
    · have hlt' : (k : Int) < 64 := by omega
      have hc2 : wr.cell? ⟨w1.heap.size, k, none⟩ = some (.bool (s.testBit k)) := (H0.out.cell k).trans (arr_get _ k hlt)
      have hlen : ((List.range k).filter fun p => s.testBit p).length ≤ 64 := by
        have := List.length_filter_le (fun p => s.testBit p) (List.range k)
        simp at this
        omega
      have hnext : (List.range (k + 1)).filter (fun p => s.testBit p) = (List.range k).filter (fun p => s.testBit p) ++ (if s.testBit k then [k] else []) := by
        rw [List.range_succ, List.filter_append, List.filter_cons]
        split <;> simp
      cases hb : s.testBit k
      · rw [hb] at hc2
        rw [hb] at hnext
        have HN := Lib.hid hnext
        clear hb hnext
        go_wp2_with fail
        go_roundw
        case rel =>
          refine ⟨k + 1, by omega, by go_num, H0, ?_, HB, HS⟩
          rw [HN.out]
          simp only [if_false, Bool.false_eq_true, List.append_nil]
          exact HO
        case measure => simp [intOf] <;> omega
      · rw [hb] at hc2
        rw [hb] at hnext
        have HN := Lib.hid hnext
        clear hb hnext
        obtain ⟨fr, hfr⟩ : ∃ fr, fr = (List.range k).filter fun p => s.testBit p := ⟨_, rfl⟩
        rw [← hfr] at HO hlen HN
        have HF := Lib.hid hfr
        clear hfr
        go_wp2_with (at_builtin; refine wpList_append_own _ rfl _ _ 23 rfl (w1.heap.size + 1) 3 i0 (.int .i64 0) 1 8 Tryd.underlying23 hi hz0 hz1 hz2 rfl (by decide) _ _ _ rfl (HO.out.alloc _) ⟨wr.heap.size, 0, none⟩ 1 1 [.int .i64 (k : Int)] rfl rfl ?c1 ?c2 ?c3 ?c4 ?c5 ?_)
        try (case c1 => exact cell_one_new _ _ _)
        case c2 => simp [Value.oneCell']
        case c3 => unfold maxLen; omega
        case c4 => omega
        case c5 => have := HS.out; simp; omega
        intro v' w2 hown' hgrow _
        have HO' := Lib.hid hown'
        have hlt3 := HO.out.lt
        have hb1 : Below w.heap.size w w2 := (HB.out.alloc HB.out.size _).grown hgrow (by have := HB.out.size; simp; omega) (fun q hq => by have h1 := (hlt3 q hq).1; have h2 := HB1.out.size; omega)
        have hblk : Blk w2 w1.heap.size 113 (arr fun p => s.testBit p) := (hgrow.block _ (by have := HS.out; simp; omega) (fun e => by have := (hlt3 _ e.symm).1; omega)).trans (H0.out.old _)
        have hs2 : w1.heap.size + 1 ≤ w2.heap.size := by have h1 := hgrow.size; have h2 := HS.out; simp at h1; omega
        have HBB := Lib.hid hb1
        have HBL := Lib.hid hblk
        have HS2 := Lib.hid hs2
        clear hown' hgrow hb1 hblk hs2 hlt3
        go_wp2_with fail
        go_roundw
        case rel =>
          refine ⟨k + 1, by omega, by go_num, HBL, ?_, HBB, HS2⟩
          rw [HN.out]
          simp only [if_true]
          rw [List.length_append, List.map_append]
          exact HO'
        case measure => simp [intOf] <;> omega
    · obtain rfl : k = 64 := by omega
      clear hlt
      go_wp2_with fail
      go_ret
      refine ⟨_, rfl, HB.out, ?_⟩
      have h1 := HB1.out.size
      exact own_lower HO.out (by omega)
end Go.Proofs.YtheeclmpkddgjaaDoor
