import Derived.Test.YtalcoodidcehnaaDoorVtL
import Derived.Deep.RegionLaw
import Derived.Deep.AppendLies
namespace Go.Proofs.YtalcoodidcehnaaDoor
set_option linter.unusedVariables false
set_option linter.unusedSimpArgs false
open Go.RowKit
theorem results_row_tmp {P : Program} {fn : Func} {p u : Tmp} {ty : TypeId} (h : fn.results = #[.cell p ty, .tmp u]) (tmps : Array Value) (w : World) (g : Nat) (t : TypeId) (cs : Array Value) (d : TypeDesc) (b : Value)
    (hp : tmps.getD p undef = .pointer (some ⟨g, 0, none⟩)) (hu' : tmps.getD u undef = b) (hg : Blk w g t cs) (hu : P.underlying ty = some d) (hd : (match d with | .struct _ | .array _ _ => true | _ => false) = true) (hi : (P.info? ty).map (·.size) = some cs.size) :
    (results fn tmps).run P w = .ok (.tuple #[.agg cs, b]) w := by
  rw [results_cell_tmp h, hp, hu']
  simp only [asAddr, Sem.run_pure, Result.andThen_ok, run_loadVar_row w g t ty cs (0, 0) d hg hu hd hi]
theorem bdrew {B : Nat} {w W : World} (h : Below B w W) : Below B w W.drew := ⟨h.os, h.tape, h.output, h.size, h.block⟩
set_option maxRecDepth 20000 in
set_option maxHeartbeats 4000000 in
theorem vaddNo_any {w : World} {v0 v1 v2 v3 : Value} {A : Option Addr} {q c : Nat} (hq : 32 ≤ q) (f : Vw) (h4 : #[v0, v1, v2, v3].all (·.oneCell') = true) :
    Calls Tryd.prog 43 #[.agg #[v0, v1, v2, v3, .slice A q c], .agg #[.int .u64 (f.number : Int), .int .u64 (f.epoch : Int), .int .i64 f.rep, .int .u64 (f.members : Int)]] w fun e w' =>
      e = .returned (.tuple #[.agg #[v0, v1, v2, v3, .slice A q c], .bool false]) ∧ Below w.heap.size w w' := by
  have hp4 : ∀ u, u ∈ [v0, v1, v2, v3] → u.oneCell' = true := by simpa using h4
  obtain ⟨o0, o1, o2, o3⟩ : v0.oneCell' = true ∧ v1.oneCell' = true ∧ v2.oneCell' = true ∧ v3.oneCell' = true := ⟨hp4 _ (by simp), hp4 _ (by simp), hp4 _ (by simp), hp4 _ (by simp)⟩
  have HR : Hid (Blk (((w.alloc (.cells #[v0, v1, v2, v3, .slice A q c] 38)).alloc (.cells #[.int .u64 (f.number : Int), .int .u64 (f.epoch : Int), .int .i64 f.rep, .int .u64 (f.members : Int)] 35)).alloc (.cells #[.int .u64 0, .int .u64 0, .int .i64 0, .int .u64 0, .slice none 0 0] 38)) (w.heap.size + 1 + 1) 38 #[.int .u64 0, .int .u64 0, .int .i64 0, .int .u64 0, .slice none 0 0]) := Blk.new _ _ _ (by simp)
  have HB1 : Hid (Below w.heap.size w (((w.alloc (.cells #[v0, v1, v2, v3, .slice A q c] 38)).alloc (.cells #[.int .u64 (f.number : Int), .int .u64 (f.epoch : Int), .int .i64 f.rep, .int .u64 (f.members : Int)] 35)).alloc (.cells #[.int .u64 0, .int .u64 0, .int .i64 0, .int .u64 0, .slice none 0 0] 38))) := bal (bal (bal (Below.refl _ _) _) _) _
  have hd : decide ((32 : Int) ≤ (q : Int)) = true := decide_eq_true (by omega)
  have hd2 : decide ((q : Int) < 32) = false := decide_eq_false (by omega)
  have H4 := Lib.hid h4
  clear h4 hp4
  go_enter Tryd.func43, Tryd.ntmps43
  go_wp2_with (refine wpList_store_rec rfl _ _ rfl (w.heap.size + 1 + 1) rfl _ v0 v1 v2 v3 A q c rfl HR.out rfl H4.out ?_)
  refine bodyPost_ret (v := .tuple #[.agg #[v0, v1, v2, v3, .slice A q c], .bool false]) (by exact results_row_tmp rfl _ _ (w.heap.size + 1 + 1) 38 _ _ _ rfl rfl (HR.out.row _) Tryd.underlying38 rfl (by exact rec_isize)) rfl ⟨rfl, ?_⟩
  exact bsetRow HB1.out (by omega) _
theorem own_cell {w : World} {base : Nat} {e : TypeId} {sz n : Nat} {v : Value} {xs : List Value} (h : w.ownsRow base e sz v n xs) {g : Nat} (hg : g < base) (i : Nat) (u : Value) : (w.setCell ⟨g, i, none⟩ u).ownsRow base e sz v n xs := by
  refine ⟨h.1, ?_⟩
  rcases h.2 with h0 | ⟨b, cap, cur, rfl, h1, h2, h3⟩
  · exact .inl h0
  · exact .inr ⟨b, cap, cur, rfl, h1, (heap_setCell_other w ⟨g, i, none⟩ b u (by show b ≠ g; omega)).trans h2, h3⟩
theorem bsetCell {B : Nat} {a w : World} (h : Below B a w) {g : Nat} (hg : B ≤ g) (i : Nat) (u : Value) : Below B a (w.setCell ⟨g, i, none⟩ u) :=
  h.trans ⟨rfl, rfl, rfl, by simp, fun k hk => heap_setCell_other w ⟨g, i, none⟩ k u (by show k ≠ g; omega)⟩
set_option maxRecDepth 20000 in
set_option maxHeartbeats 4000000 in
theorem vaddYes_any {w : World} {v0 v1 v2 v3 : Value} {A : Option Addr} {q c : Nat} {L : List Vw} (hv : Views w (.slice A q c) L) (hq : q < 32) (f : Vw) (h4 : #[v0, v1, v2, v3].all (·.oneCell') = true) :
    Calls Tryd.prog 43 #[.agg #[v0, v1, v2, v3, .slice A q c], .agg #[.int .u64 (f.number : Int), .int .u64 (f.epoch : Int), .int .i64 f.rep, .int .u64 (f.members : Int)]] w fun e w' =>
      ∃ A' c', e = .returned (.tuple #[.agg #[v0, v1, v2, v3, .slice A' (q + 1) c'], .bool true]) ∧ Below w.heap.size w w' ∧ w'.ownsRow w.heap.size 35 4 (.slice A' (q + 1) c') (q + 1) ((L ++ [f]).map viewCells).flatten := by
  obtain ⟨i0, hi, hz0, hz1, hz2⟩ := info_parts vw_info
  have hp4 : ∀ u, u ∈ [v0, v1, v2, v3] → u.oneCell' = true := by simpa using h4
  obtain ⟨o0, o1, o2, o3⟩ : v0.oneCell' = true ∧ v1.oneCell' = true ∧ v2.oneCell' = true ∧ v3.oneCell' = true := ⟨hp4 _ (by simp), hp4 _ (by simp), hp4 _ (by simp), hp4 _ (by simp)⟩
  have hql : q = L.length := by
    obtain ⟨A', c', h, _⟩ := hv.slice
    injection h
  obtain ⟨w1, hw1⟩ : ∃ w1, w1 = ((w.alloc (.cells #[v0, v1, v2, v3, .slice A q c] 38)).alloc (.cells #[.int .u64 (f.number : Int), .int .u64 (f.epoch : Int), .int .i64 f.rep, .int .u64 (f.members : Int)] 35)).alloc (.cells #[.int .u64 0, .int .u64 0, .int .i64 0, .int .u64 0, .slice none 0 0] 38) := ⟨_, rfl⟩
  have hb1 : Below w.heap.size w w1 := by rw [hw1]; exact bal (bal (bal (Below.refl _ _) _) _) _
  have hs1 : w1.heap.size = w.heap.size + 3 := by rw [hw1]; simp
  have hp : Blk w1 w.heap.size 38 #[v0, v1, v2, v3, .slice A q c] := by rw [hw1]; exact ((Blk.new _ _ _ rfl).old _).old _
  have hf : Blk w1 (w.heap.size + 1) 35 (vwA f) := by rw [hw1]; exact (Blk.new _ _ _ (by simp)).old _
  have hr : Blk w1 (w.heap.size + 2) 38 #[.int .u64 0, .int .u64 0, .int .i64 0, .int .u64 0, .slice none 0 0] := by rw [hw1]; exact Blk.new _ _ _ (by simp)
  have HV := Lib.hid (hv.below hb1)
  have HB1 := Lib.hid hb1
  have HS1 := Lib.hid hs1
  have HF := Lib.hid hf
  have HR := Lib.hid hr
  have HP := Lib.hid hp
  have HW1 := Lib.hid hw1
  have H4 := Lib.hid h4
  have HQL := Lib.hid hql
  have hd : decide ((32 : Int) ≤ (q : Int)) = false := decide_eq_false (by omega)
  clear hv hb1 hs1 hf hr hw1 hp h4 hp4 hql
  go_enter Tryd.func43, Tryd.ntmps43
  go_wp2_with fail
  rw [← HW1.out]
  obtain ⟨g0, hg0⟩ : ∃ g0, g0 = w.heap.size := ⟨_, rfl⟩
  have HG0 := Lib.hid hg0
  have hfx := HF.out
  have hpx := HP.out
  have hrx := HR.out
  have hs1 := HS1.out
  rw [← hg0] at hfx hpx hrx hs1 ⊢
  have HFX := Lib.hid hfx
  have HPX := Lib.hid hpx
  have HRX := Lib.hid hrx
  have HSX := Lib.hid hs1
  have f0 := hfx.cell 0
  have f1 := hfx.cell 1
  have f2 := hfx.cell 2
  have f3 := hfx.cell 3
  have p4 := hpx.cell 4
  simp only [vwA] at f0 f1 f2 f3
  have hl0 := hpx.lt
  have hl1 := hfx.lt
  clear hg0 hfx hpx hrx hs1
  go_region_law
    (first
      | (refine step_append_lies _ (by rfl) _ _ _ (by rfl) w1.heap.size 35 i0 zvw 4 32 Tryd.underlying36 hi hz0 hz1 hz2 rfl (by omega) _ q (L.map viewCells).flatten (by rfl) (by first | exact HO3.out | exact own_stay HO3.out (bal (Below.refl _ _) _))
            ⟨w3.heap.size, 0, none⟩ 1 1 (viewCells f) (by rfl) (by rfl) (World.news_of_block (cs := (viewCells f).toArray) (t := 35) (fr := (0, 0)) (heap_alloc_new w3 _)) (by simp [Value.oneCell', viewCells])
            (by omega) (by unfold maxLen; omega) (by omega) (by have := HB3.out.size; simp; omega) (w3.heap.size + 1) (by simp) ?_; intro gg cap w4 hown4 hgrow hat hlt4; have HB4 : Hid (Below w1.heap.size w1 w4) := (by first | exact (HB3.out.grown hgrow HB3.out.size (fun b hb => (HO3.out.lt b hb).1)) | exact ((HB3.out.alloc HB3.out.size _).grown hgrow (HB3.out.alloc HB3.out.size _).size (fun b hb => (HO3.out.lt b hb).1))); have hp4 := HPX.out.below HB4.out (by rw [HSX.out]; omega); have z4 := hp4.cell 4; have zf := hp4.free 4)
      | (refine step_append_lies _ (by rfl) _ _ _ (by rfl) w1.heap.size 35 i0 zvw 4 32 Tryd.underlying36 hi hz0 hz1 hz2 rfl (by omega) _ q (L.map viewCells).flatten (by rfl) (by first | exact HO3.out | exact own_stay HO3.out (bal (Below.refl _ _) _))
            ⟨w1.heap.size, 0, none⟩ 1 1 (viewCells f) (by rfl) (by rfl) (World.news_of_block (cs := (viewCells f).toArray) (t := 35) (fr := (0, 0)) ((hb3.block w1.heap.size (by simp)).trans (by first | exact heap_alloc_new w1.drew _ | exact heap_alloc_new w1 _))) (by simp [Value.oneCell', viewCells])
            (by omega) (by unfold maxLen; omega) (by omega) (HB3.out.size) w3.heap.size rfl ?_; intro gg cap w4 hown4 hgrow hat hlt4; have HB4 : Hid (Below w1.heap.size w1 w4) := (by first | exact (HB3.out.grown hgrow HB3.out.size (fun b hb => (HO3.out.lt b hb).1)) | exact ((HB3.out.alloc HB3.out.size _).grown hgrow (HB3.out.alloc HB3.out.size _).size (fun b hb => (HO3.out.lt b hb).1))); have hp4 := HPX.out.below HB4.out (by rw [HSX.out]; omega); have z4 := hp4.cell 4; have zf := hp4.free 4)
      | (go_simp; go_at_call 41; refine (vclone_any (HV.out.below (by first | exact bdrew (Below.refl _ _) | exact bal (bdrew (Below.refl _ _)) _ | exact bdrew (bal (Below.refl _ _) _))) (by rw [← HQL.out]; omega)).mono ?_; rintro e w3 ⟨v3', rfl, hb3, ho3⟩; rw [← HQL.out] at ho3; obtain ⟨A3, n3, c3, rfl⟩ := own_sl ho3; have HB3 : Hid (Below w1.heap.size w1 w3) := (by first | exact btr (bdrew (Below.refl _ _)) hb3 | exact btr (bal (bdrew (Below.refl _ _)) _) hb3 | exact btr (bdrew (bal (Below.refl _ _) _)) hb3); have HO3 := Lib.hid (own_lower (base' := w1.heap.size) ho3 (by simp)); have hy3 := HFX.out.below HB3.out (by rw [HSX.out]; omega); have y0 := hy3.cell 0; have y1 := hy3.cell 1; have y2 := hy3.cell 2; have y3 := hy3.cell 3; simp only [vwA] at y0 y1 y2 y3))
  all_goals
    have hblk5 : Blk (w4.setCell ⟨g0, 4, none⟩ (.slice (some ⟨gg, 0, none⟩) (q + 1) cap)) g0 38 #[v0, v1, v2, v3, .slice (some ⟨gg, 0, none⟩) (q + 1) cap] := hp4.set 4 _
    have hr5 : Blk (w4.setCell ⟨g0, 4, none⟩ (.slice (some ⟨gg, 0, none⟩) (q + 1) cap)) (g0 + 1 + 1) 38 #[.int .u64 0, .int .u64 0, .int .i64 0, .int .u64 0, .slice none 0 0] := (HRX.out.below HB4.out (by rw [HSX.out]; omega)).other (by show g0 + 2 ≠ g0; omega) _
    have ho5 := own_cell hown4 (g := g0) (by rw [HSX.out]; omega) 4 (.slice (some ⟨gg, 0, none⟩) (q + 1) cap)
    have hb5 := bsetCell (HB1.out.trans (HB4.out.mono HB1.out.size)) (g := g0) (by rw [HG0.out]; exact Nat.le_refl _) 4 (.slice (some ⟨gg, 0, none⟩) (q + 1) cap)
    have hflat : (L.map viewCells).flatten ++ viewCells f = ((L ++ [f]).map viewCells).flatten := by simp
    rw [hflat] at ho5
    obtain ⟨w5, hw5⟩ : ∃ w5, w5 = w4.setCell ⟨g0, 4, none⟩ (.slice (some ⟨gg, 0, none⟩) (q + 1) cap) := ⟨_, rfl⟩
    rw [← hw5] at hblk5 hr5 ho5 hb5 ⊢
    have c0 := hblk5.cell 0
    have c1 := hblk5.cell 1
    have c2 := hblk5.cell 2
    have c3 := hblk5.cell 3
    have c4 := hblk5.cell 4
    have HR5 := Lib.hid hr5
    have HO5 := Lib.hid ho5
    have HB5 := Lib.hid hb5
    clear hblk5 hr5 ho5 hb5 hflat hw5 hown4 hgrow hat z4 zf hp4 hb3 ho3 f0 f1 f2 f3 p4 y0 y1 y2 y3 hy3
    go_wp2_with (refine wpList_store_rec rfl _ _ rfl (g0 + 1 + 1) rfl _ v0 v1 v2 v3 (some ⟨gg, 0, none⟩) (q + 1) cap rfl HR5.out rfl H4.out ?_)
    refine bodyPost_ret (v := .tuple #[.agg #[v0, v1, v2, v3, .slice (some ⟨gg, 0, none⟩) (q + 1) cap], .bool true]) (by exact results_row_tmp rfl _ _ (g0 + 1 + 1) 38 _ _ _ rfl rfl (HR5.out.row _) Tryd.underlying38 rfl (by exact rec_isize)) rfl ⟨_, _, rfl, ?_, ?_⟩
    · exact bsetRow HB5.out (by rw [HG0.out]; omega) _
    · exact own_lower (own_row HO5.out (by rw [HSX.out]; omega) _) HB1.out.size
end Go.Proofs.YtalcoodidcehnaaDoor
