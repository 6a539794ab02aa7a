import Derived.Test.YtalcoodidcehnaaDoorFlK
import Derived.Test.YtalcoodidcehnaaDoorSetB
namespace Go.Proofs.YtalcoodidcehnaaDoor
set_option linter.unusedVariables false
set_option linter.unusedSimpArgs false
open Go.RowKit
theorem Ints.one (w : World) (z : Int) {g : Nat} (hg : g = w.heap.size) : Ints (w.alloc (.cells #[.int .i64 z] 3)) (.slice (some ⟨g, 0, none⟩) 1 1) [z] := by
  subst hg
  refine ⟨some ⟨w.heap.size, 0, none⟩, 1, rfl, by simp, fun i x hx => ?_⟩
  cases i with
  | zero =>
    obtain rfl : z = x := by simpa using hx
    refine ⟨w.heap.size, 0, [.int .i64 z], rfl, rfl, rfl, fun j u hu => ?_⟩
    have h := (Blk.new w 3 #[.int .i64 z] rfl).cell j
    rw [Nat.zero_mul, Nat.zero_add, Nat.zero_add, h]
    simpa using hu
  | succ i => simp at hx
theorem with_eq {s : Nat} (hs : S64 s) {v : Value} {l : List Int} {w : World} (hv : Ints w v l) (hm : l.length ≤ 140737488351232) {r : Int} (hr : ((swith s l : Nat) : Int) = r) :
    Calls Tryd.prog 29 #[.int .u64 (s : Int), v] w fun e w' => e = .returned (.int .u64 r) ∧ w = w' := by
  subst hr; exact with_any hs hv hm
theorem FlAt.keptEx {w w' : World} {g : Nat} {S : Fl} {pv mv tv : Value} (h : FlAt w g S pv mv tv) (hx : Ex g w w') : Kept w w' := h.kept (ExP.of_ex hx (.inl rfl))
theorem FlAt.toldEx {w w' : World} {g : Nat} {S : Fl} {pv mv tv : Value} (h : FlAt w g S pv mv tv) (hx : Ex g w w') : ToldAt w' mv S.live S.told := by
  rcases h.told with h1 | ⟨bm, D, h1, h2⟩
  · exact .inl h1
  · exact .inr ⟨bm, D, h1, h2.move (h.keptEx hx) (hx.block bm h2.lt (fun e => h2.nocells (by rw [e]; exact h.blk)))⟩
theorem FlAt.setAgree {w : World} {g : Nat} {S : Fl} {pv mv tv : Value} (h : FlAt w g S pv mv tv) {a : Nat} (ha : S64 a) : FlAt (w.setCell ⟨g, 12, none⟩ (.int .u64 (a : Int))) g { S with agree := a } pv mv tv := by
  have hx := Ex.cell w g 12 (.int .u64 (a : Int))
  have hb := h.blk.set 12 (.int .u64 (a : Int))
  have e : (flCells S pv mv tv).setIfInBounds 12 (.int .u64 (a : Int)) = flCells { S with agree := a } pv mv tv := by simp [flCells]
  rw [e] at hb
  exact ⟨hb, h.views.kept (h.keptEx hx), h.last, h.few, h.cep, h.mem, ha, h.toldEx hx, h.tried.kept (h.keptEx hx)⟩
theorem form_end {w8 : World} {g : Nat} {S : Fl} {a : Nat} {p0 mv tv : Value} (v : Vw) (pv : Value) (h : Blk w8 g 71 (flCells { S with agree := a } p0 mv tv)) :
    Ex g w8 ((((((w8.setCell ⟨g, 0, none⟩ (.int .u64 (v.number : Int))).setCell ⟨g, 1, none⟩ (.int .u64 (v.epoch : Int))).setCell ⟨g, 2, none⟩ (.int .i64 v.rep)).setCell ⟨g, 3, none⟩ (.int .u64 (v.members : Int))).setCell ⟨g, 4, none⟩ pv).setCell ⟨g, 9, none⟩ (.bool true)) ∧
    Blk ((((((w8.setCell ⟨g, 0, none⟩ (.int .u64 (v.number : Int))).setCell ⟨g, 1, none⟩ (.int .u64 (v.epoch : Int))).setCell ⟨g, 2, none⟩ (.int .i64 v.rep)).setCell ⟨g, 3, none⟩ (.int .u64 (v.members : Int))).setCell ⟨g, 4, none⟩ pv).setCell ⟨g, 9, none⟩ (.bool true)) g 71 (flCells { S with agree := a, rc := vform S.rc v, formed := true } pv mv tv) := by
  constructor
  · repeat refine Ex.trans ?_ (Ex.cell _ _ _ _)
    exact Ex.refl _ _
  · have h1 := (((((h.set 0 (.int .u64 (v.number : Int))).set 1 (.int .u64 (v.epoch : Int))).set 2 (.int .i64 v.rep)).set 3 (.int .u64 (v.members : Int))).set 4 pv).set 9 (.bool true)
    have e : ((((((flCells { S with agree := a } p0 mv tv).setIfInBounds 0 (.int .u64 (v.number : Int))).setIfInBounds 1 (.int .u64 (v.epoch : Int))).setIfInBounds 2 (.int .i64 v.rep)).setIfInBounds 3 (.int .u64 (v.members : Int))).setIfInBounds 4 pv).setIfInBounds 9 (.bool true) = flCells { S with agree := a, rc := vform S.rc v, formed := true } pv mv tv := by simp [flCells, vform]
    rw [e] at h1
    exact h1
theorem one_cells (S : Fl) (v : Vw) (cv : Value) : (outCells (otView S v) (.slice none 0 0) (.slice none 0 0) cv).toArray =
    #[.int .i64 3, .int .i64 0, .string ⟨#[]⟩, .int .u32 0, .int .u64 0, .bool false, .bool false, .int .u64 0, .int .u64 0, .int .i64 0, .int .u64 0, .slice none 0 0, .int .u64 0, .int .u64 0, .int .i64 0, .int .u64 0, .int .u64 0, .int .i64 0, .int .i64 0,
      .int .u64 0, .int .u64 0, .int .i64 0, .int .u64 0, .slice none 0 0, .int .u64 (v.number : Int), .int .u64 (v.epoch : Int), .int .i64 v.rep, .int .u64 (v.members : Int), cv] := by
  simp [outCells, otView, Itm.zero, Vw.none]
set_option maxRecDepth 20000 in
set_option maxHeartbeats 8000000 in
theorem flDeliver_agree {w : World} {g : Nat} {S : Fl} {pv tv : Value} {bm : Nat} {D : DataW Value} (hg : FlAt w g S pv (.map (some bm)) tv) (hD : ToldIs w bm S.told D) (n : Nat) (hn : n < 64) (x : Itm) (vx : Value) (hl : S.live = true) (hf : S.formed = false) (hh : shas S.mem (n : Int) = true) (hk : x.kind = 3) (htr0 : S.tried = some x.view) (hT : Tab w) (hTn : ¬ Turns g (.map (some bm)) 0) {A0 : Option Addr} {q0 k0 : Nat} (hpv : pv = .slice A0 q0 k0) :
    Calls Tryd.prog 12 #[.pointer (some ⟨g, 0, none⟩), .int .i64 (n : Int), .agg (itemCells x vx).toArray] w fun e w' => ∃ A c A' q' c' tv', e = .returned (.slice A (flAgree S (n : Int) x.view).2.length c) ∧ ExP (Turns g (.map (some bm))) w w' ∧ FlAt w' g (flAgree S (n : Int) x.view).1 (.slice A' q' c') (.map (some bm)) tv' ∧ OutsT w' (.slice A (flAgree S (n : Int) x.view).2.length c) (flAgree S (n : Int) x.view).2 := by
  obtain ⟨w1, hw1⟩ : ∃ w1, w1 = w.alloc (.cells (itemCells x vx).toArray 45) := ⟨_, rfl⟩
  obtain ⟨g1, hg1e⟩ : ∃ g1, g1 = w.heap.size := ⟨_, rfl⟩
  have hb1 : Below w.heap.size w w1 := by rw [hw1]; exact bal (Below.refl _ _) _
  have hi1 : Blk w1 g1 45 (itemCells x vx).toArray := by rw [hw1]; exact Blk.new _ _ _ hg1e
  have hs1 : w1.heap.size = g1 + 1 := by rw [hw1, hg1e]; simp
  have hg1 := hg.below hb1
  obtain ⟨Ay, cy, hlook, -, hvy, hoky, hly⟩ := (hD.below hb1).look n hn
  obtain ⟨y, hy⟩ : ∃ y, y = (S.told n).getD Itm.zero := ⟨_, rfl⟩
  obtain ⟨vy, hvye⟩ : ∃ vy, vy = (.slice Ay y.rc.pend.length cy : Value) := ⟨_, rfl⟩
  rw [← hy, ← hvye] at hlook
  rw [← hy, ← hvye] at hvy
  rw [← hy] at hoky
  have HY1 : Hid ((itemCells y vy).toArray.all (·.oneCell') = true) := by show _ = true; rw [hvye]; simp [itemCells, Value.oneCell']
  clear hly
  obtain ⟨w3, hw3⟩ : ∃ w3, w3 = w1.alloc (.cells (itemCells y vy).toArray 45) := ⟨_, rfl⟩
  have hb3 : Below w1.heap.size w1 w3 := by rw [hw3]; exact bal (Below.refl _ _) _
  have hg3 := hg1.below hb3
  have hi3 := hi1.stay hb3
  have hd3 := (hD.below hb1).below hb3
  have c7 : w1.cell? ⟨g, 7, none⟩ = some (.int .u64 (S.mem : Int)) := hg1.blk.cell 7
  have c8 : w1.cell? ⟨g, 8, none⟩ = some (.bool true) := by have := hg1.blk.cell 8; simpa [flCells, hl] using this
  have c9 : w1.cell? ⟨g, 9, none⟩ = some (.bool false) := by have := hg1.blk.cell 9; simpa [flCells, hf] using this
  have c10 : w1.cell? ⟨g, 10, none⟩ = some (.map (some bm)) := hg1.blk.cell 10
  have hgl := hg1.blk.lt
  have hil := hi1.lt
  have HW1 := Lib.hid hw1
  have HG1E := Lib.hid hg1e
  have HB1 := Lib.hid hb1
  have HI1 := Lib.hid hi1
  have HS1 := Lib.hid hs1
  have HW3 := Lib.hid hw3
  have HB3 := Lib.hid hb3
  have HG3 := Lib.hid hg3
  have HI3 := Lib.hid hi3
  have HD3 := Lib.hid hd3
  have HM := Lib.hid hg1.mem
  have HH : Hid (shas S.mem (n : Int) = true) := hh
  have z0 : w3.cell? ⟨g1, 0, none⟩ = some (.int .i64 3) := by rw [← hk]; exact hi3.cell 0
  have htr := hg3.tried
  rw [htr0] at htr
  obtain ⟨bt, htve, hbt, hvok⟩ := htr
  obtain ⟨bs, hbs⟩ : ∃ bs, bs = (S.told n).isSome := ⟨_, rfl⟩
  rw [← hbs] at hlook
  have c11 : w3.cell? ⟨g, 11, none⟩ = some (.pointer (some ⟨bt, 0, none⟩)) := by rw [← htve]; exact hg3.blk.cell 11
  have c12 : w3.cell? ⟨g, 12, none⟩ = some (.int .u64 (S.agree : Int)) := hg3.blk.cell 12
  have hgl3 := hg3.blk.lt
  have hil3 := hi3.lt
  have t0 : w3.cell? ⟨bt, 0, none⟩ = some (.int .u64 (x.view.number : Int)) := hbt.cell 0
  have t1 : w3.cell? ⟨bt, 1, none⟩ = some (.int .u64 (x.view.epoch : Int)) := hbt.cell 1
  have t2 : w3.cell? ⟨bt, 2, none⟩ = some (.int .i64 x.view.rep) := hbt.cell 2
  have t3 : w3.cell? ⟨bt, 3, none⟩ = some (.int .u64 (x.view.members : Int)) := hbt.cell 3
  have z11 : w3.cell? ⟨g1, 11, none⟩ = some (.int .u64 (x.view.number : Int)) := hi3.cell 11
  have z12 : w3.cell? ⟨g1, 12, none⟩ = some (.int .u64 (x.view.epoch : Int)) := hi3.cell 12
  have z13 : w3.cell? ⟨g1, 13, none⟩ = some (.int .i64 x.view.rep) := hi3.cell 13
  have z14 : w3.cell? ⟨g1, 14, none⟩ = some (.int .u64 (x.view.members : Int)) := hi3.cell 14
  have hbl3 := hbt.lt
  have heq := view_eql x.view x.view
  rw [decide_eq_true rfl] at heq
  have hgw : g < g1 := by rw [hg1e]; exact hg.blk.lt
  have hbw : bm < g1 := by rw [hg1e]; exact hD.lt
  have hmg : bm ≠ g := fun e => hD.nocells (by rw [e]; exact hg.blk)
  have HG0 := Lib.hid hg
  have HD0 := Lib.hid hD
  have HT0 := Lib.hid hT
  have HGW := Lib.hid hgw
  have HBM := Lib.hid hbw
  have HMG := Lib.hid hmg
  have HVK := Lib.hid hvok
  have HAG := Lib.hid hg3.agree
  have HB03 := Lib.hid (btr hb1 hb3)
  clear hg hD hw1 hg1e hb1 hi1 hs1 hg1 hvy hoky hy hvye hw3 hb3 hg3 hi3 hd3 hl hf hh hk htr0 hbs hT hgw hbw hmg hvok hbt htve
  go_enter Tryd.func12, Tryd.ntmps12
  go_upto_region 1 with fail
  rw [← HW1.out, ← HG1E.out]
  go_wp2_with fail
  refine (has_eq HM.out HH.out _).mono ?_
  rintro e w' ⟨rfl, rfl⟩
  go_upto_region 4 with (first
    | (refine wpList_alloc_store rfl rfl 45 _ _ rfl rfl rfl item_zero (itemCells y vy).toArray rfl rfl item_isize rfl HY1.out ?_))
  rw [← HW3.out]
  go_upto_region 9 with fail
  go_quiet (fail)
  go_upto_region 10 with fail
  generalize hw4 : w3.drewN _ = w4
  have hb34 : Below w3.heap.size w3 w4 := by rw [← hw4]; exact bdrewN (Below.refl _ _) _
  have hb4 : Below w.heap.size w w4 := HB03.out.trans (hb34.mono HB03.out.size)
  have hi4 := HI3.out.stay hb34
  obtain ⟨a, ha⟩ : ∃ a, a = swith S.agree [(n : Int)] := ⟨_, rfl⟩
  have ha64 : S64 a := by rw [ha]; exact HAG.out.with _
  have hg5 := (HG0.out.below hb4).setAgree ha64
  have hba : Below (w4.setCell ⟨g, 12, none⟩ (.int .u64 (a : Int))).heap.size (w4.setCell ⟨g, 12, none⟩ (.int .u64 (a : Int))) ((w4.setCell ⟨g, 12, none⟩ (.int .u64 (a : Int))).alloc (.cells #[.int .i64 (n : Int)] 3)) := bal (Below.refl _ _) _
  have hg6 := hg5.below hba
  have hi6 := ((Ex.cell w4 g 12 (.int .u64 (a : Int))).blk hi4 (by have := HGW.out; omega)).stay hba
  have hx6 : Ex g w ((w4.setCell ⟨g, 12, none⟩ (.int .u64 (a : Int))).alloc (.cells #[.int .i64 (n : Int)] 3)) := ((Ex.of_below hb4 g).trans (Ex.cell _ _ _ _)).then hba
  obtain ⟨w6, hw6⟩ : ∃ w6, w6 = (w4.setCell ⟨g, 12, none⟩ (.int .u64 (a : Int))).alloc (.cells #[.int .i64 (n : Int)] 3) := ⟨_, rfl⟩
  rw [← hw6] at hg6 hi6 hx6
  have d7 : w4.cell? ⟨g, 7, none⟩ = some (.int .u64 (S.mem : Int)) := (HG0.out.below hb4).blk.cell 7
  have d12 : w4.cell? ⟨g, 12, none⟩ = some (.int .u64 (S.agree : Int)) := (HG0.out.below hb4).blk.cell 12
  have f12 := (HG0.out.below hb4).blk.free 12
  have hgl4 := (HG0.out.below hb4).blk.lt
  have HW6 := Lib.hid hw6
  have HG6 := Lib.hid hg6
  have HI6 := Lib.hid hi6
  have HX6 := Lib.hid hx6
  have HA := Lib.hid ha
  have HWE : Hid (((swith S.agree [(n : Int)] : Nat) : Int) = (a : Int)) := by show _ = _; rw [ha]
  clear hw4 hb34 hb4 hi4 hba hg5 ha64 hg6 hi6 hx6 hw6 ha hlook c7 c8 c9 c10 c11 c12 hgl hil hgl3 hil3 hbl3 t0 t1 t2 t3 z0 z11 z12 z13 z14 heq
  go_wp2_with fail
  refine (with_eq HAG.out (Ints.one w4 (n : Int) rfl) (by simp) HWE.out).mono ?_
  rintro e w' ⟨rfl, rfl⟩
  go_upto_region 11 with fail
  rw [← HW6.out]
  have hg6 := HG6.out
  have d7 : w6.cell? ⟨g, 7, none⟩ = some (.int .u64 (S.mem : Int)) := hg6.blk.cell 7
  have d12 : w6.cell? ⟨g, 12, none⟩ = some (.int .u64 (a : Int)) := hg6.blk.cell 12
  have hgl6 := hg6.blk.lt
  clear hg6 f12 hgl4
  by_cases hq : a = S.mem
  · have HST : Hid (flAgree S (n : Int) x.view = ({ S with agree := a, rc := vform S.rc x.view, formed := true }, [otView S x.view])) := by show _ = _; unfold flAgree; rw [← HA.out, if_pos hq]
    have e1 : ((S.mem : Int) == (S.mem : Int)) = true := by simp
    rw [show (a : Int) = (S.mem : Int) by rw [hq]] at d12
    subst hpv
    clear hq
    go_quiet (fail)
    go_upto_region 12 with fail
    generalize hw7 : w6.drewN _ = w7
    have hb67 : Below w6.heap.size w6 w7 := by rw [← hw7]; exact bdrewN (Below.refl _ _) _
    have hg7 := HG6.out.below hb67
    have hi7 := HI6.out.stay hb67
    have hx7 : Ex g w w7 := HX6.out.then hb67
    have hb7t : Blk (w7.setCell ⟨g, 9, none⟩ (.bool true)) g 71 (flCells { S with agree := a, formed := true } (.slice A0 q0 k0) (.map (some bm)) tv) := by
      have h := hg7.blk.set 9 (.bool true)
      have e : (flCells { S with agree := a } (.slice A0 q0 k0) (.map (some bm)) tv).setIfInBounds 9 (.bool true) = flCells { S with agree := a, formed := true } (.slice A0 q0 k0) (.map (some bm)) tv := by simp [flCells]
      rw [e] at h
      exact h
    have r0 : w7.cell? ⟨g, 0, none⟩ = some (.int .u64 (S.rc.last.number : Int)) := hg7.blk.cell 0
    have f0 := hg7.blk.free 0
    have r1 : w7.cell? ⟨g, 1, none⟩ = some (.int .u64 (S.rc.last.epoch : Int)) := hg7.blk.cell 1
    have f1 := hg7.blk.free 1
    have r2 : w7.cell? ⟨g, 2, none⟩ = some (.int .i64 S.rc.last.rep) := hg7.blk.cell 2
    have f2 := hg7.blk.free 2
    have r3 : w7.cell? ⟨g, 3, none⟩ = some (.int .u64 (S.rc.last.members : Int)) := hg7.blk.cell 3
    have f3 := hg7.blk.free 3
    have r4 : w7.cell? ⟨g, 4, none⟩ = some (.slice A0 q0 k0) := hg7.blk.cell 4
    have f4 := hg7.blk.free 4
    have r9 : w7.cell? ⟨g, 9, none⟩ = some (.bool S.formed) := hg7.blk.cell 9
    have f9 := hg7.blk.free 9
    have s0 : w7.cell? ⟨g1, 11, none⟩ = some (.int .u64 (x.view.number : Int)) := hi7.cell 11
    have s1 : w7.cell? ⟨g1, 12, none⟩ = some (.int .u64 (x.view.epoch : Int)) := hi7.cell 12
    have s2 : w7.cell? ⟨g1, 13, none⟩ = some (.int .i64 x.view.rep) := hi7.cell 13
    have s3 : w7.cell? ⟨g1, 14, none⟩ = some (.int .u64 (x.view.members : Int)) := hi7.cell 14
    have hgl7 := hg7.blk.lt
    have hil7 := hi7.lt
    have hgg1 : g ≠ g1 := by have := HGW.out; omega
    have hgg2 : g1 ≠ g := fun e => hgg1 e.symm
    have HG7 := Lib.hid hg7
    have HI7 := Lib.hid hi7
    have HX7 := Lib.hid hx7
    have HB7T := Lib.hid hb7t
    have HV7 := Lib.hid hg7.views
    have HV7T := Lib.hid (hg7.views.exR (Ex.cell w7 g 9 (.bool true)) hg7.blk (by decide))
    have HFEW := Lib.hid (show S.rc.pend.length ≤ 1000000 from Nat.le_trans hg7.few (by decide))
    clear hw7 hb67 hg7 hi7 hx7 hb7t d7 d12 hgl6 e1
    go_cut [] from 110 to 122 (fun wx => ∃ A8 q8 c8, Hid (Ex g w7 wx) ∧ Hid (Blk wx g 71 (flCells { S with agree := a, rc := vform S.rc x.view, formed := true } (.slice A8 q8 c8) (.map (some bm)) tv)) ∧ Hid (ViewsT wx (.slice A8 q8 c8) (vform S.rc x.view).pend))
    case first =>
      go_region_with
        (first
          | (go_at_call 30; refine (vform_any (by first | exact HV7.out.views | exact HV7.out.views.below (vdrew_below _) | exact HV7T.out.views | exact HV7T.out.views.below (vdrew_below _)) HFEW.out x.view (by simp [Value.oneCell'])).mono ?_; rintro e w8 ⟨A8, q8, c8, rfl, hb8, ho8⟩; (first | (have hz : Blk w8 g 71 (flCells { S with agree := a } (.slice A0 q0 k0) (.map (some bm)) tv) := (HG7.out.blk.stay (vdrew_below _)).stay hb8; have HE8 : Hid (Ex g w7 w8) := (Ex.of_below (vdrew_below _) g).then hb8) | (have hz : Blk w8 g 71 (flCells { S with agree := a, formed := true } (.slice A0 q0 k0) (.map (some bm)) tv) := (HB7T.out.stay (vdrew_below _)).stay hb8; have HE8 : Hid (Ex g w7 w8) := ((Ex.cell w7 g 9 (.bool true)).then (vdrew_below _)).then hb8)); have y0 : w8.cell? ⟨g, 0, none⟩ = some (.int .u64 (S.rc.last.number : Int)) := hz.cell 0; have j0 := hz.free 0; have y1 : w8.cell? ⟨g, 1, none⟩ = some (.int .u64 (S.rc.last.epoch : Int)) := hz.cell 1; have j1 := hz.free 1; have y2 : w8.cell? ⟨g, 2, none⟩ = some (.int .i64 S.rc.last.rep) := hz.cell 2; have j2 := hz.free 2; have y3 : w8.cell? ⟨g, 3, none⟩ = some (.int .u64 (S.rc.last.members : Int)) := hz.cell 3; have j3 := hz.free 3; have y4 : w8.cell? ⟨g, 4, none⟩ = some (.slice A0 q0 k0) := hz.cell 4; have j4 := hz.free 4; have j9 := hz.free 9; have kl : g < w8.heap.size := hz.lt; have hz9 := hz.cell 9; simp only [flCells] at hz9; have HZ := Lib.hid hz; have HO8 := Lib.hid ho8; clear hb8 ho8 hz))
      all_goals go_wp2_with fail
      all_goals go_meet
      all_goals
        obtain ⟨h1, h2⟩ := form_end x.view (.slice A8 q8 c8) HZ.out
        exact ⟨A8, q8, c8, HE8.out.trans h1, h2, (ViewsT.of_own HO8.out rfl (fun y hy => HV7.out.views.ok y ((List.mem_filter.1 hy).1))).exR h1 HZ.out (by decide)⟩
    case rest =>
      obtain ⟨A8, q8, c8, HXC, HGC, HVC⟩ := hcut
      have hxw : Ex g w wc := HX7.out.trans HXC.out
      have hdc : ToldIs wc bm S.told D := HD0.out.move (HG0.out.keptEx hxw) (hxw.block bm HD0.out.lt HMG.out)
      have htc : Tab wc := HT0.out.exP (ExP.of_ex hxw (P := Turns g (.map (some bm))) (.inl rfl)) hTn
      have hfc : FlAt wc g { S with agree := a, rc := vform S.rc x.view, formed := true } (.slice A8 q8 c8) (.map (some bm)) tv :=
        ⟨HGC.out, HVC.out, HVK.out, Nat.le_trans (List.length_filter_le _ _) HG7.out.few, HG7.out.cep, HG7.out.mem, HG7.out.agree, HG7.out.toldEx HXC.out, HG7.out.tried.kept (HG7.out.keptEx HXC.out)⟩
      have hic := HXC.out.blk HI7.out hgg2
      clear r0 r1 r2 r3 r4 r9 f0 f1 f2 f3 f4 f9 s0 s1 s2 s3 hgl7 hil7
      have s0 : wc.cell? ⟨g1, 11, none⟩ = some (.int .u64 (x.view.number : Int)) := hic.cell 11
      have s1 : wc.cell? ⟨g1, 12, none⟩ = some (.int .u64 (x.view.epoch : Int)) := hic.cell 12
      have s2 : wc.cell? ⟨g1, 13, none⟩ = some (.int .i64 x.view.rep) := hic.cell 13
      have s3 : wc.cell? ⟨g1, 14, none⟩ = some (.int .u64 (x.view.members : Int)) := hic.cell 14
      have hilc := hic.lt
      have HXW := Lib.hid hxw
      have HDC := Lib.hid hdc
      have HTC := Lib.hid htc
      have HFC := Lib.hid hfc
      clear hxw hdc htc hfc hic
      go_wp2_with fail
      go_region_held3 (fun w' => w'.cell? ⟨g1, 11, none⟩ = some (.int .u64 (x.view.number : Int)) ∧ w'.cell? ⟨g1, 12, none⟩ = some (.int .u64 (x.view.epoch : Int)) ∧ w'.cell? ⟨g1, 13, none⟩ = some (.int .i64 x.view.rep) ∧ w'.cell? ⟨g1, 14, none⟩ = some (.int .u64 (x.view.members : Int)))
        (go_keep)
        ((first
          | (go_at_call 31; refine (flClaims_any (HFC.out.below (vdrew_below _)) (HDC.out.below (vdrew_below _)) (HTC.out.below (vdrew_below _))).mono ?_; rintro e w8 ⟨A9, c9, rfl, hb8, hi8⟩; have HB8 : Hid (Below wc.heap.size wc w8) := btr (vdrew_below _) hb8; have ks0 : w8.cell? ⟨g1, 11, none⟩ = some (.int .u64 (x.view.number : Int)) := (HB8.out.cell (p := ⟨g1, 11, none⟩) hilc).trans s0; have ks1 : w8.cell? ⟨g1, 12, none⟩ = some (.int .u64 (x.view.epoch : Int)) := (HB8.out.cell (p := ⟨g1, 12, none⟩) hilc).trans s1; have ks2 : w8.cell? ⟨g1, 13, none⟩ = some (.int .i64 x.view.rep) := (HB8.out.cell (p := ⟨g1, 13, none⟩) hilc).trans s2; have ks3 : w8.cell? ⟨g1, 14, none⟩ = some (.int .u64 (x.view.members : Int)) := (HB8.out.cell (p := ⟨g1, 14, none⟩) hilc).trans s3; have HI8 := Lib.hid hi8; clear hb8 hi8)))
      go_wp2_with fail
      go_ret
      rw [HST.out]
      have hbe : ∀ cs : Array Value, Below wc.heap.size wc (w8.alloc (.cells cs 47)) := fun cs => bal HB8.out _
      have hbe8 : ∀ cs : Array Value, Below w8.heap.size w8 (w8.alloc (.cells cs 47)) := fun cs => bal (Below.refl _ _) _
      refine ⟨some ⟨w8.heap.size, 0, none⟩, 1, A8, q8, c8, tv, rfl, (ExP.of_ex HXW.out (.inl rfl)).then (hbe _), HFC.out.below (hbe _), ?_⟩
      exact OutsT.one (iv := .slice none 0 0) (rv := .slice none 0 0) (by rw [one_cells]; exact Blk.new _ _ _ rfl) ⟨Itm.zero_ok, Vw.none_ok, HVK.out⟩ (ViewsT.nil _) (ViewsT.nil _) (ItemsT.kept HI8.out (.of_below (hbe8 _)))
  · have HST : Hid (flAgree S (n : Int) x.view = ({ S with agree := a }, [])) := by show _ = _; unfold flAgree; rw [← HA.out, if_neg hq]
    have e1 : ((a : Int) == (S.mem : Int)) = false := by rw [beq_eq_false_iff_ne]; omega
    clear hq
    go_quiet (fail)
    go_wp2_with fail
    go_ret
    subst hpv
    rw [HST.out]
    exact ⟨none, 0, A0, q0, k0, tv, rfl, ((ExP.of_ex HX6.out (.inl rfl))).then (bdrewN (Below.refl _ _) _), HG6.out.below (bdrewN (Below.refl _ _) _), OutsT.nil _⟩
end Go.Proofs.YtalcoodidcehnaaDoor
