import Derived.Test.YtalcoodidcehnaaDoorFlM
import Derived.Shelf.SlMaps.Clone
namespace Go.Proofs.YtalcoodidcehnaaDoor
set_option linter.unusedVariables false
set_option linter.unusedSimpArgs false
open Go.RowKit
set_option maxRecDepth 20000 in
set_option maxHeartbeats 2000000 in
theorem mclone_any (w : World) {bm : Nat} {es : Array MapEntry} {clock : Nat} (hb : w.heap[bm]? = some (.map es clock)) :
    Calls Tryd.prog 40 #[.map (some bm)] w fun e w' => e = .returned (.map (some w.heap.size)) ∧ w' = w.alloc (.map es clock) := by
  have hq := fun w => run_eql_map_nil_sl (P := Tryd.prog) w 68 _ _ (some bm) Tryd.underlying68
  have HB := Lib.hid hb
  clear hb
  go_enter Tryd.func40, Tryd.ntmps40
  go_wp2_with fail
  rw [run_callFunc_extern Tryd.func51 (by kernel_rfl) (by kernel_rfl) (by kernel_rfl) (e := Extern.MapsClone.clone) (by kernel_rfl), run_maps_clone_sl w 68 HB.out]
  simp only [Result.andThen]
  rw [Oper.upon_value]
  go_wp2_with fail
  rw [run_typeAssert_map_sl _ 68 20 _ _ _ Tryd.underlying68]
  simp only [Result.andThen]
  rw [Oper.upon_value]
  go_wp2_with fail
  go_ret
  exact ⟨rfl, rfl⟩
set_option maxRecDepth 20000 in
set_option maxHeartbeats 2000000 in
theorem mclone_nil (w : World) :
    Calls Tryd.prog 40 #[.map none] w fun e w' => e = .returned (.map none) ∧ w' = w := by
  have hq := fun w => run_eql_map_nil_sl (P := Tryd.prog) w 68 _ _ none Tryd.underlying68
  go_enter Tryd.func40, Tryd.ntmps40
  go_wp2_with fail
  go_ret
  exact ⟨rfl, rfl⟩
end Go.Proofs.YtalcoodidcehnaaDoor
namespace Go.Proofs.YtalcoodidcehnaaDoor
set_option linter.unusedVariables false
set_option linter.unusedSimpArgs false
open Go.RowKit
theorem ToldIs.clone {w w' : World} {bm b : Nat} {told : Nat → Option Itm} {D : DataW Value} (h : ToldIs w bm told D) {es : Array MapEntry} {clock : Nat} (he : w.heap[bm]? = some (.map es clock)) (hk : Kept w w') (hn : w'.heap[b]? = some (.map es clock)) : ToldIs w' b told D := by
  refine ⟨?_, h.size, h.nil, fun p hp x hx => ?_⟩
  · obtain ⟨es', clock', hb, F, hs, hD⟩ := h.own
    have e := he.symm.trans hb
    injection e with e
    injection e with e1 e2
    subst e1 e2
    exact ⟨es, clock, hn, F, hs, hD⟩
  · obtain ⟨h1, v, h2, h3, h4, h5⟩ := h.val p hp x hx
    exact ⟨h1, v, h2, h3.kept hk, h4, h5⟩
theorem flt_info : (Tryd.prog.info? 71).map (fun i => (i.zero, i.size)) = some (some (.agg (flCells (flNew ⟨Vw.none, []⟩) (.slice none 0 0) (.map none) (.pointer none))), 13) := by kernel_rfl
theorem flt_zero (w : World) : (zeroValue 71).run Tryd.prog w = .ok (.agg (flCells (flNew ⟨Vw.none, []⟩) (.slice none 0 0) (.map none) (.pointer none))) w := by
  obtain ⟨i0, hi, h⟩ : ∃ i, Tryd.prog.info? 71 = some i ∧ i.zero = some (.agg (flCells (flNew ⟨Vw.none, []⟩) (.slice none 0 0) (.map none) (.pointer none))) := by
    have h := flt_info
    cases hc : Tryd.prog.info? 71 with
    | none => rw [hc] at h; cases h
    | some i =>
      rw [hc] at h
      injection h with h
      injection h with h _
      exact ⟨i, rfl, h⟩
  simp [zeroValue, typeInfo, hi, h]
theorem flt_isize : (Tryd.prog.info? 71).map (·.size) = some 13 := by kernel_rfl
theorem TriedAt.one {w : World} {tv : Value} {o : Option Vw} (h : TriedAt w tv o) : tv.oneCell' = true := by
  cases o with
  | none => have : tv = .pointer none := h; subst this; rfl
  | some v => obtain ⟨b, rfl, _⟩ := h; rfl
theorem mcloneT_any {w : World} {mv : Value} {live : Bool} {told : Nat → Option Itm} (h : ToldAt w mv live told) :
    Calls Tryd.prog 40 #[mv] w fun e w' => ∃ b, e = .returned (.map b) ∧ Below w.heap.size w w' ∧ ToldAt w' (.map b) live told ∧ ∀ k, b = some k → w.heap.size ≤ k := by
  rcases h with ⟨rfl, h1, h2⟩ | ⟨bm, D, rfl, hD⟩
  · refine (mclone_nil w).mono ?_
    rintro e w' ⟨rfl, rfl⟩
    exact ⟨none, rfl, Below.refl _ _, .inl ⟨rfl, h1, h2⟩, fun k hk => by cases hk⟩
  · obtain ⟨es, clock, hb, r⟩ := hD.own
    refine (mclone_any w hb).mono ?_
    rintro e w' ⟨rfl, rfl⟩
    have hbe : Below w.heap.size w (w.alloc (.map es clock)) := bal (Below.refl _ _) _
    exact ⟨some w.heap.size, rfl, hbe, .inr ⟨_, D, rfl, hD.clone hb (.of_below hbe) (heap_alloc_new w _)⟩, fun k hk => by injection hk with hk; omega⟩
theorem ToldAt.below {w w' : World} {mv : Value} {live : Bool} {told : Nat → Option Itm} (h : ToldAt w mv live told) (hb : Below w.heap.size w w') : ToldAt w' mv live told := by
  rcases h with h | ⟨bm, D, h1, h2⟩
  · exact .inl h
  · exact .inr ⟨bm, D, h1, h2.below hb⟩
theorem Ex.kept {w w' : World} {g : Nat} {cs : Array Value} (hx : Ex g w w') (hb : Blk w g 71 cs) : Kept w w' :=
  (ExP.of_ex hx (P := fun k => k = g) rfl).kept fun k e cur t hc => by
    subst e
    have := hc.symm.trans hb
    injection this with this
    injection this with _ h3 _
theorem ToldAt.ex {w w' : World} {g : Nat} {cs : Array Value} {mv : Value} {live : Bool} {told : Nat → Option Itm} (h : ToldAt w mv live told) (hx : Ex g w w') (hb : Blk w g 71 cs) : ToldAt w' mv live told := by
  rcases h with h1 | ⟨bm, D, h1, h2⟩
  · exact .inl h1
  · exact .inr ⟨bm, D, h1, h2.move (hx.kept hb) (hx.block bm h2.lt (fun e => h2.nocells (by rw [e]; exact hb)))⟩
theorem copy_end {w8 : World} {g : Nat} {S : Fl} {p0 m0 tv : Value} (pv mv : Value) (h : Blk w8 g 71 (flCells S p0 m0 tv)) :
    Ex g w8 ((((((w8.setCell ⟨g, 0, none⟩ (.int .u64 (S.rc.last.number : Int))).setCell ⟨g, 1, none⟩ (.int .u64 (S.rc.last.epoch : Int))).setCell ⟨g, 2, none⟩ (.int .i64 S.rc.last.rep)).setCell ⟨g, 3, none⟩ (.int .u64 (S.rc.last.members : Int))).setCell ⟨g, 4, none⟩ pv).setCell ⟨g, 10, none⟩ mv) ∧ Blk ((((((w8.setCell ⟨g, 0, none⟩ (.int .u64 (S.rc.last.number : Int))).setCell ⟨g, 1, none⟩ (.int .u64 (S.rc.last.epoch : Int))).setCell ⟨g, 2, none⟩ (.int .i64 S.rc.last.rep)).setCell ⟨g, 3, none⟩ (.int .u64 (S.rc.last.members : Int))).setCell ⟨g, 4, none⟩ pv).setCell ⟨g, 10, none⟩ mv) g 71 (flCells S pv mv tv) := by
  constructor
  · repeat refine Ex.trans ?_ (Ex.cell _ _ _ _)
    exact Ex.refl _ _
  · have h1 := ((((((h.set 0 (.int .u64 (S.rc.last.number : Int))).set 1 (.int .u64 (S.rc.last.epoch : Int))).set 2 (.int .i64 S.rc.last.rep)).set 3 (.int .u64 (S.rc.last.members : Int))).set 4 pv).set 10 mv)
    have e : (((((((flCells S p0 m0 tv).setIfInBounds 0 (.int .u64 (S.rc.last.number : Int))).setIfInBounds 1 (.int .u64 (S.rc.last.epoch : Int))).setIfInBounds 2 (.int .i64 S.rc.last.rep)).setIfInBounds 3 (.int .u64 (S.rc.last.members : Int))).setIfInBounds 4 pv).setIfInBounds 10 mv) = flCells S pv mv tv := by simp [flCells]
    rw [e] at h1
    exact h1
set_option maxRecDepth 20000 in
set_option maxHeartbeats 8000000 in
theorem flCopy_any {w : World} {g : Nat} {S : Fl} {A0 : Option Addr} {q0 k0 : Nat} {mo : Option Nat} {tv : Value} (hg : FlAt w g S (.slice A0 q0 k0) (.map mo) tv) :
    Calls Tryd.prog 21 #[.pointer (some ⟨g, 0, none⟩)] w fun e w' => ∃ g' A' q' c' b, e = .returned (.pointer (some ⟨g', 0, none⟩)) ∧ w.heap.size ≤ g' ∧ Below w.heap.size w w' ∧ FlAt w' g' S (.slice A' q' c') (.map b) tv ∧ ∀ k, b = some k → w.heap.size ≤ k := by
  obtain ⟨w1, hw1⟩ : ∃ w1, w1 = w.alloc (.cells (flCells S (.slice A0 q0 k0) (.map mo) tv) 71) := ⟨_, rfl⟩
  obtain ⟨gc, hgc⟩ : ∃ gc, gc = w.heap.size := ⟨_, rfl⟩
  have hb1 : Below w.heap.size w w1 := by rw [hw1]; exact bal (Below.refl _ _) _
  have hc1 : Blk w1 gc 71 (flCells S (.slice A0 q0 k0) (.map mo) tv) := by rw [hw1]; exact Blk.new _ _ _ hgc
  have hs1 : w1.heap.size = gc + 1 := by rw [hw1, hgc]; simp
  have hg1 := hg.below hb1
  have r0 : w1.cell? ⟨g, 0, none⟩ = some (.int .u64 (S.rc.last.number : Int)) := hg1.blk.cell 0
  have r1 : w1.cell? ⟨g, 1, none⟩ = some (.int .u64 (S.rc.last.epoch : Int)) := hg1.blk.cell 1
  have r2 : w1.cell? ⟨g, 2, none⟩ = some (.int .i64 S.rc.last.rep) := hg1.blk.cell 2
  have r3 : w1.cell? ⟨g, 3, none⟩ = some (.int .u64 (S.rc.last.members : Int)) := hg1.blk.cell 3
  have r4 : w1.cell? ⟨g, 4, none⟩ = some (.slice A0 q0 k0) := hg1.blk.cell 4
  have r10 : w1.cell? ⟨g, 10, none⟩ = some (.map mo) := hg1.blk.cell 10
  have hgl := hg1.blk.lt
  have hgl0 := hg.blk.lt
  have hgne : g ≠ gc := by rw [hgc]; omega
  have hgne2 : gc ≠ g := fun e => hgne e.symm
  have hcl := hc1.lt
  have H1C : Hid ((flCells S (.slice A0 q0 k0) (.map mo) tv).all (·.oneCell') = true) := by
    have h1 := hg.tried.one
    show _ = true
    simp [flCells, Value.oneCell']
    cases tv <;> first | rfl | exact h1
  have HB0 := Lib.hid hg.blk
  have HW1 := Lib.hid hw1
  have HGC := Lib.hid hgc
  have HB1 := Lib.hid hb1
  have HC1 := Lib.hid hc1
  have HS1 := Lib.hid hs1
  have HG0 := Lib.hid hg
  have HG1 := Lib.hid hg1
  have HFEW := Lib.hid (show S.rc.pend.length ≤ 2000000 from Nat.le_trans hg.few (by decide))
  clear hg hw1 hgc hb1 hc1 hs1 hg1
  go_enter Tryd.func21, Tryd.ntmps21
  go_upto_region 2 with (first
    | (refine wpList_load_row_g rfl 71 _ rfl g rfl _ _ _ _ HB0.out Tryd.underlying71 rfl flt_isize ?_)
    | (refine wpList_alloc_store rfl rfl 71 _ _ rfl rfl rfl flt_zero (flCells S (.slice A0 q0 k0) (.map mo) tv) rfl rfl flt_isize rfl H1C.out ?_))
  rw [← HW1.out, ← HGC.out]
  go_region_held3 (fun w' => w'.cell? ⟨g, 0, none⟩ = some (.int .u64 (S.rc.last.number : Int)) ∧ w'.cell? ⟨g, 1, none⟩ = some (.int .u64 (S.rc.last.epoch : Int)) ∧ w'.cell? ⟨g, 2, none⟩ = some (.int .i64 S.rc.last.rep) ∧ w'.cell? ⟨g, 3, none⟩ = some (.int .u64 (S.rc.last.members : Int)) ∧ w'.cell? ⟨g, 4, none⟩ = some (.slice A0 q0 k0) ∧ w'.cell? ⟨g, 10, none⟩ = some (.map mo))
    (go_keep)
    ((first
      | (go_at_call 25; refine (flOwn_any (by first | exact HG1.out.views.views.below (vdrew_below _) | exact HG1.out.views.views.below HBC.out) HFEW.out (by simp [Value.oneCell'])).mono ?_; rintro e w8 ⟨A8, q8, c8, rfl, hb8, ho8⟩; have hbs8 := hb8.size; have HBO : Hid (Below w1.heap.size w1 w8) := (by first | exact btr (vdrew_below _) hb8 | exact btr HBC.out hb8); have HB8 := Lib.hid hb8; have HO8 := Lib.hid ho8; clear hb8 ho8 hbs8; have kw80 : w8.cell? ⟨g, 0, none⟩ = some (.int .u64 (S.rc.last.number : Int)) := (HBO.out.cell (p := ⟨g, 0, none⟩) hgl).trans r0; have kw81 : w8.cell? ⟨g, 1, none⟩ = some (.int .u64 (S.rc.last.epoch : Int)) := (HBO.out.cell (p := ⟨g, 1, none⟩) hgl).trans r1; have kw82 : w8.cell? ⟨g, 2, none⟩ = some (.int .i64 S.rc.last.rep) := (HBO.out.cell (p := ⟨g, 2, none⟩) hgl).trans r2; have kw83 : w8.cell? ⟨g, 3, none⟩ = some (.int .u64 (S.rc.last.members : Int)) := (HBO.out.cell (p := ⟨g, 3, none⟩) hgl).trans r3; have kw84 : w8.cell? ⟨g, 4, none⟩ = some (.slice A0 q0 k0) := (HBO.out.cell (p := ⟨g, 4, none⟩) hgl).trans r4; have kw810 : w8.cell? ⟨g, 10, none⟩ = some (.map mo) := (HBO.out.cell (p := ⟨g, 10, none⟩) hgl).trans r10; have hzw8 := HC1.out.stay HBO.out; have yw80 : w8.cell? ⟨gc, 0, none⟩ = some (.int .u64 (S.rc.last.number : Int)) := hzw8.cell 0; have jw80 := hzw8.free 0; have yw81 : w8.cell? ⟨gc, 1, none⟩ = some (.int .u64 (S.rc.last.epoch : Int)) := hzw8.cell 1; have jw81 := hzw8.free 1; have yw82 : w8.cell? ⟨gc, 2, none⟩ = some (.int .i64 S.rc.last.rep) := hzw8.cell 2; have jw82 := hzw8.free 2; have yw83 : w8.cell? ⟨gc, 3, none⟩ = some (.int .u64 (S.rc.last.members : Int)) := hzw8.cell 3; have jw83 := hzw8.free 3; have yw84 : w8.cell? ⟨gc, 4, none⟩ = some (.slice A0 q0 k0) := hzw8.cell 4; have jw84 := hzw8.free 4; have yw810 : w8.cell? ⟨gc, 10, none⟩ = some (.map mo) := hzw8.cell 10; have jw810 := hzw8.free 10; have lw8 : g < w8.heap.size := Nat.lt_of_lt_of_le hgl HBO.out.size; have mw8 := hzw8.lt; clear hzw8)
      | (go_at_call 40; refine (mcloneT_any (by first | exact HG1.out.told.below (vdrew_below _) | exact HG1.out.told.below HBO.out)).mono ?_; rintro e w9 ⟨bo, rfl, hb9, ht9, hn9⟩; have HBC : Hid (Below w1.heap.size w1 w9) := (by first | exact btr (vdrew_below _) hb9 | exact btr HBO.out hb9); have HB9 := Lib.hid hb9; have HT9 := Lib.hid ht9; have HN9 := Lib.hid hn9; clear hb9 ht9 hn9; have kw90 : w9.cell? ⟨g, 0, none⟩ = some (.int .u64 (S.rc.last.number : Int)) := (HBC.out.cell (p := ⟨g, 0, none⟩) hgl).trans r0; have kw91 : w9.cell? ⟨g, 1, none⟩ = some (.int .u64 (S.rc.last.epoch : Int)) := (HBC.out.cell (p := ⟨g, 1, none⟩) hgl).trans r1; have kw92 : w9.cell? ⟨g, 2, none⟩ = some (.int .i64 S.rc.last.rep) := (HBC.out.cell (p := ⟨g, 2, none⟩) hgl).trans r2; have kw93 : w9.cell? ⟨g, 3, none⟩ = some (.int .u64 (S.rc.last.members : Int)) := (HBC.out.cell (p := ⟨g, 3, none⟩) hgl).trans r3; have kw94 : w9.cell? ⟨g, 4, none⟩ = some (.slice A0 q0 k0) := (HBC.out.cell (p := ⟨g, 4, none⟩) hgl).trans r4; have kw910 : w9.cell? ⟨g, 10, none⟩ = some (.map mo) := (HBC.out.cell (p := ⟨g, 10, none⟩) hgl).trans r10; have hzw9 := HC1.out.stay HBC.out; have yw90 : w9.cell? ⟨gc, 0, none⟩ = some (.int .u64 (S.rc.last.number : Int)) := hzw9.cell 0; have jw90 := hzw9.free 0; have yw91 : w9.cell? ⟨gc, 1, none⟩ = some (.int .u64 (S.rc.last.epoch : Int)) := hzw9.cell 1; have jw91 := hzw9.free 1; have yw92 : w9.cell? ⟨gc, 2, none⟩ = some (.int .i64 S.rc.last.rep) := hzw9.cell 2; have jw92 := hzw9.free 2; have yw93 : w9.cell? ⟨gc, 3, none⟩ = some (.int .u64 (S.rc.last.members : Int)) := hzw9.cell 3; have jw93 := hzw9.free 3; have yw94 : w9.cell? ⟨gc, 4, none⟩ = some (.slice A0 q0 k0) := hzw9.cell 4; have jw94 := hzw9.free 4; have yw910 : w9.cell? ⟨gc, 10, none⟩ = some (.map mo) := hzw9.cell 10; have jw910 := hzw9.free 10; have lw9 : g < w9.heap.size := Nat.lt_of_lt_of_le hgl HBC.out.size; have mw9 := hzw9.lt; clear hzw9)))
  go_wp2_with fail
  go_ret
  have hc9 := HC1.out.stay HBC.out
  obtain ⟨h1, h2⟩ := copy_end (.slice A8 q8 c8) (.map bo) hc9
  have hv9 := (ViewsT.of_own HO8.out rfl HG1.out.views.views.ok).below HB9.out
  have hb9 : Below w.heap.size w w9 := btr HB1.out HBC.out
  have hk19 := (Kept.of_below HBC.out).trans (h1.kept hc9)
  refine ⟨gc, A8, q8, c8, bo, rfl, Nat.le_of_eq HGC.out.symm, h1.below hb9 (Nat.le_of_eq HGC.out.symm) hb9.size, ⟨h2, hv9.exR h1 hc9 (by decide), HG0.out.last, HG0.out.few, HG0.out.cep, HG0.out.mem, HG0.out.agree, HT9.out.ex h1 hc9, HG1.out.tried.kept hk19⟩, fun k hk => ?_⟩
  have := HN9.out k hk
  have h8 := HBO.out.size
  have h1' := HB1.out.size
  omega
end Go.Proofs.YtalcoodidcehnaaDoor
