import Derived.Test.YtalcoodidcehnaaDoorFlB
namespace Go.Proofs.YtalcoodidcehnaaDoor
set_option linter.unusedVariables false
set_option linter.unusedSimpArgs false
open Go.RowKit
/-- nothing turns but one block, and what is new -/
structure Ex (g : Nat) (w w' : World) : Prop where
  os : w'.os = w.os
  tape : w'.tape = w.tape
  output : w'.output = w.output
  size : w.heap.size ≤ w'.heap.size
  block : ∀ k, k < w.heap.size → k ≠ g → w'.heap[k]? = w.heap[k]?
theorem Ex.refl (g : Nat) (w : World) : Ex g w w := ⟨rfl, rfl, rfl, Nat.le_refl _, fun _ _ _ => rfl⟩
theorem Ex.trans {g : Nat} {w w' w'' : World} (h : Ex g w w') (k : Ex g w' w'') : Ex g w w'' :=
  ⟨k.os.trans h.os, k.tape.trans h.tape, k.output.trans h.output, Nat.le_trans h.size k.size, fun b hb hne => (k.block b (Nat.lt_of_lt_of_le hb h.size) hne).trans (h.block b hb hne)⟩
theorem Ex.of_below {w w' : World} (h : Below w.heap.size w w') (g : Nat) : Ex g w w' := ⟨h.os, h.tape, h.output, h.size, fun b hb _ => h.block b hb⟩
theorem Ex.then {g : Nat} {w w' w'' : World} (h : Ex g w w') (k : Below w'.heap.size w' w'') : Ex g w w'' := h.trans (.of_below k g)
theorem Ex.below {g B : Nat} {a w w' : World} (h : Below B a w) (k : Ex g w w') (hg : B ≤ g) (hB : B ≤ w.heap.size) : Below B a w' :=
  h.trans ⟨k.os, k.tape, k.output, k.size, fun b hb => k.block b (by omega) (by omega)⟩
theorem Ex.blk {g b : Nat} {w w' : World} {t : TypeId} {cs : Array Value} (h : Ex g w w') (hb : Blk w b t cs) (hne : b ≠ g) : Blk w' b t cs := (h.block b hb.lt hne).trans hb
theorem Ex.cell (w : World) (g o : Nat) (v : Value) : Ex g w (w.setCell ⟨g, o, none⟩ v) := ⟨rfl, rfl, rfl, by simp, fun k _ hk => heap_setCell_other w ⟨g, o, none⟩ k v hk⟩
theorem Views.move {w w' : World} {v : Value} {L : List Vw} (h : Views w v L) (hb : ∀ b, vblk v = some b → b < w.heap.size → w'.heap[b]? = w.heap[b]?) : Views w' v L := by
  obtain ⟨A, c, rfl, hc, h⟩ := h
  refine ⟨A, c, rfl, hc, fun i x hx => ?_⟩
  obtain ⟨b, off, cs, hA, hK, hl, hg⟩ := h i x hx
  refine ⟨b, off, cs, hA, hK, hl, fun j u hu => ?_⟩
  have hcell := hg j u hu
  have hlt := World.block_lt_of_cell? w _ hcell
  have hbe := hb b (by rw [hA]; rfl) hlt
  rw [← hcell]
  show (match w'.heap[b]? with | some (.cells c _ _) => if (none : Option Nat).isSome then none else c[off + (i * 4 + j)]? | _ => none) = (match w.heap[b]? with | some (.cells c _ _) => if (none : Option Nat).isSome then none else c[off + (i * 4 + j)]? | _ => none)
  rw [hbe]
/-- a block of views is no filter's block -/
theorem ViewsT.ne {w : World} {v : Value} {L : List Vw} {g : Nat} {cs : Array Value} (h : ViewsT w v L) (hg : Blk w g 71 cs) : vblk v ≠ some g := fun e => by
  obtain ⟨cur, hc⟩ := h.typ g e
  have h2 : some (Obj.cells cur 35 (0, 0)) = some (Obj.cells cs 71 (0, 0)) := hc.symm.trans hg
  injection h2 with h2
  injection h2 with _ h3 _
  exact absurd h3 (by decide)
theorem ViewsT.ex {w w' : World} {v : Value} {L : List Vw} {g : Nat} (h : ViewsT w v L) (hx : Ex g w w') (hne : vblk v ≠ some g) : ViewsT w' v L :=
  ⟨h.views.move fun b he hlt => hx.block b hlt (fun e => hne (by rw [he, e])), fun b he => by
    obtain ⟨cur, hc⟩ := h.typ b he
    exact ⟨cur, (hx.block b (Array.getElem?_eq_some_iff.1 hc).1 (fun e => hne (by rw [he, e]))).trans hc⟩⟩
def putFl (w : World) (g : Nat) (S : Fl) (pv mv tv : Value) : World := (((((((((((((w.setCell ⟨g, 0, none⟩ (.int .u64 (S.rc.last.number : Int))).setCell ⟨g, 1, none⟩ (.int .u64 (S.rc.last.epoch : Int))).setCell ⟨g, 2, none⟩ (.int .i64 S.rc.last.rep)).setCell ⟨g, 3, none⟩ (.int .u64 (S.rc.last.members : Int))).setCell ⟨g, 4, none⟩ pv).setCell ⟨g, 5, none⟩ (.int .u64 (S.cep : Int))).setCell ⟨g, 6, none⟩ (.int .i64 S.crep)).setCell ⟨g, 7, none⟩ (.int .u64 (S.mem : Int))).setCell ⟨g, 8, none⟩ (.bool S.live)).setCell ⟨g, 9, none⟩ (.bool S.formed)).setCell ⟨g, 10, none⟩ mv).setCell ⟨g, 11, none⟩ tv).setCell ⟨g, 12, none⟩ (.int .u64 (S.agree : Int)))
theorem putFl_ex (w : World) (g : Nat) (S : Fl) (pv mv tv : Value) : Ex g w (putFl w g S pv mv tv) := by
  unfold putFl
  repeat refine Ex.trans ?_ (Ex.cell _ _ _ _)
  exact Ex.refl _ _
theorem putFl_blk {w : World} {g : Nat} {S0 : Fl} {p0 m0 t0 : Value} (h : Blk w g 71 (flCells S0 p0 m0 t0)) (S : Fl) (pv mv tv : Value) : Blk (putFl w g S pv mv tv) g 71 (flCells S pv mv tv) := by
  have h1 := h.set 0 (.int .u64 (S.rc.last.number : Int))
  have h2 := h1.set 1 (.int .u64 (S.rc.last.epoch : Int))
  have h3 := h2.set 2 (.int .i64 S.rc.last.rep)
  have h4 := h3.set 3 (.int .u64 (S.rc.last.members : Int))
  have h5 := h4.set 4 pv
  have h6 := h5.set 5 (.int .u64 (S.cep : Int))
  have h7 := h6.set 6 (.int .i64 S.crep)
  have h8 := h7.set 7 (.int .u64 (S.mem : Int))
  have h9 := h8.set 8 (.bool S.live)
  have h10 := h9.set 9 (.bool S.formed)
  have h11 := h10.set 10 mv
  have h12 := h11.set 11 tv
  have h13 := h12.set 12 (.int .u64 (S.agree : Int))
  unfold putFl
  have e : (((((((((((((((flCells S0 p0 m0 t0).setIfInBounds 0 (.int .u64 (S.rc.last.number : Int))).setIfInBounds 1 (.int .u64 (S.rc.last.epoch : Int))).setIfInBounds 2 (.int .i64 S.rc.last.rep)).setIfInBounds 3 (.int .u64 (S.rc.last.members : Int))).setIfInBounds 4 pv).setIfInBounds 5 (.int .u64 (S.cep : Int))).setIfInBounds 6 (.int .i64 S.crep)).setIfInBounds 7 (.int .u64 (S.mem : Int))).setIfInBounds 8 (.bool S.live)).setIfInBounds 9 (.bool S.formed)).setIfInBounds 10 mv).setIfInBounds 11 tv).setIfInBounds 12 (.int .u64 (S.agree : Int)))) = flCells S pv mv tv := by simp [flCells]
  rw [e] at h13
  exact h13
def flRegular (S : Fl) (ep : Nat) (rep : Int) (m : Nat) : Fl := ⟨S.rc, ep, rep, m, true, false, fun _ => none, none, 0⟩
set_option maxRecDepth 20000 in
set_option maxHeartbeats 4000000 in
theorem flRegular_any {w : World} {g : Nat} {S : Fl} {A : Option Addr} {q c : Nat} {mv tv : Value} (hg : Blk w g 71 (flCells S (.slice A q c) mv tv)) (hv : ViewsT w (.slice A q c) S.rc.pend) (hl : S.rc.pend.length ≤ 2000000)
    (ep : Nat) (rep : Int) (m : Nat) (x : Itm) (Ax : Option Addr) (qx cx : Nat) :
    Calls Tryd.prog 10 #[.pointer (some ⟨g, 0, none⟩), .agg #[.int .u64 (ep : Int), .int .i64 rep], .int .u64 (m : Int), .agg (itemCells x (.slice Ax qx cx)).toArray] w fun e w' =>
      ∃ bm bo A3 q3 c3, e = .returned (.slice (some ⟨bo, 0, none⟩) 1 1) ∧ Ex g w w' ∧ Blk w' g 71 (flCells (flRegular S ep rep m) (.slice A q c) (.map (some bm)) (.pointer none)) ∧ w.heap.size ≤ bm ∧ w'.heap[bm]? = some (.map #[] 0)
        ∧ ViewsT w' (.slice A3 q3 c3) S.rc.pend ∧ w.heap.size ≤ bo ∧ Blk w' bo 47 #[.int .i64 1, .int .i64 2, .string x.data, .int .u32 (x.inc : Int), .int .u64 (x.holds : Int), .bool x.has, .bool x.direct, .int .u64 (S.rc.last.number : Int), .int .u64 (S.rc.last.epoch : Int), .int .i64 S.rc.last.rep, .int .u64 (S.rc.last.members : Int), .slice A3 q3 c3, .int .u64 (x.view.number : Int), .int .u64 (x.view.epoch : Int), .int .i64 x.view.rep, .int .u64 (x.view.members : Int), .int .u64 (x.number : Int), .int .i64 x.index, .int .i64 x.total, .int .u64 0, .int .u64 0, .int .i64 0, .int .u64 0, .slice none 0 0, .int .u64 0, .int .u64 0, .int .i64 0, .int .u64 0, .slice none 0 0] := by
  obtain ⟨w1, hw1⟩ : ∃ w1, w1 = (w.alloc (.cells #[.int .u64 (ep : Int), .int .i64 rep] 30)).alloc (.cells (itemCells x (.slice Ax qx cx)).toArray 45) := ⟨_, rfl⟩
  have hb1 : Below w.heap.size w w1 := by rw [hw1]; exact bal (bal (Below.refl _ _) _) _
  have hg1 := hg.stay hb1
  have hgl := hg1.lt
  have hg0l := hg.lt
  have hbc : Blk w1 w.heap.size 30 #[.int .u64 (ep : Int), .int .i64 rep] := by rw [hw1]; exact (Blk.new _ _ _ rfl).old _
  have hbi : Blk w1 (w.heap.size + 1) 45 (itemCells x (.slice Ax qx cx)).toArray := by rw [hw1]; exact Blk.new _ _ _ (by simp)
  have hvne := hv.ne hg
  have HVN := Lib.hid hvne
  have HV1 := Lib.hid (hv.below hb1)
  have HB1 := Lib.hid hb1
  have HG1 := Lib.hid hg1
  have HBC := Lib.hid hbc
  have HBI := Lib.hid hbi
  have HW1 := Lib.hid hw1
  have HOK := Lib.hid hv.views.ok
  clear hg hb1 hg1 hbc hw1 hbi hv hvne
  have hmm := @run_makeMap Tryd.prog
  unfold itemCells at HW1 HBI ⊢
  go_enter Tryd.func10, Tryd.ntmps10
  go_upto_region 1 with fail
  rw [← HW1.out]
  obtain ⟨g0, hg0⟩ : ∃ g0, g0 = w.heap.size := ⟨_, rfl⟩
  have hs1 : w1.heap.size = w.heap.size + 2 := by rw [HW1.out]; simp
  have hbcx := HBC.out
  have hbix := HBI.out
  rw [← hg0] at hbcx hs1 hbix hg0l ⊢
  have HG0 := Lib.hid hg0
  have HS1 := Lib.hid hs1
  have HBX := Lib.hid hbix
  have b0 : w1.cell? ⟨g0, 0, none⟩ = some (.int .u64 (ep : Int)) := hbcx.cell 0
  have b1 : w1.cell? ⟨g0, 1, none⟩ = some (.int .i64 rep) := hbcx.cell 1
  have hl0 := hbcx.lt
  have c0 : w1.cell? ⟨g, 0, none⟩ = some (.int .u64 (S.rc.last.number : Int)) := HG1.out.cell 0
  have f0 := HG1.out.free 0
  have c1 : w1.cell? ⟨g, 1, none⟩ = some (.int .u64 (S.rc.last.epoch : Int)) := HG1.out.cell 1
  have f1 := HG1.out.free 1
  have c2 : w1.cell? ⟨g, 2, none⟩ = some (.int .i64 S.rc.last.rep) := HG1.out.cell 2
  have f2 := HG1.out.free 2
  have c3 : w1.cell? ⟨g, 3, none⟩ = some (.int .u64 (S.rc.last.members : Int)) := HG1.out.cell 3
  have f3 := HG1.out.free 3
  have c4 : w1.cell? ⟨g, 4, none⟩ = some (.slice A q c) := HG1.out.cell 4
  have f4 := HG1.out.free 4
  have c5 : w1.cell? ⟨g, 5, none⟩ = some (.int .u64 (S.cep : Int)) := HG1.out.cell 5
  have f5 := HG1.out.free 5
  have c6 : w1.cell? ⟨g, 6, none⟩ = some (.int .i64 S.crep) := HG1.out.cell 6
  have f6 := HG1.out.free 6
  have c7 : w1.cell? ⟨g, 7, none⟩ = some (.int .u64 (S.mem : Int)) := HG1.out.cell 7
  have f7 := HG1.out.free 7
  have c8 : w1.cell? ⟨g, 8, none⟩ = some (.bool S.live) := HG1.out.cell 8
  have f8 := HG1.out.free 8
  have c9 : w1.cell? ⟨g, 9, none⟩ = some (.bool S.formed) := HG1.out.cell 9
  have f9 := HG1.out.free 9
  have c10 : w1.cell? ⟨g, 10, none⟩ = some mv := HG1.out.cell 10
  have f10 := HG1.out.free 10
  have c11 : w1.cell? ⟨g, 11, none⟩ = some tv := HG1.out.cell 11
  have f11 := HG1.out.free 11
  have c12 : w1.cell? ⟨g, 12, none⟩ = some (.int .u64 (S.agree : Int)) := HG1.out.cell 12
  have f12 := HG1.out.free 12
  clear hg0 hs1 hbcx hbix
  go_region
  obtain ⟨w2, hw2⟩ : ∃ w2, w2 = ((((((((((((((w1.setCell ⟨g, 0, none⟩ (.int .u64 (S.rc.last.number : Int))).setCell ⟨g, 1, none⟩ (.int .u64 (S.rc.last.epoch : Int))).setCell ⟨g, 2, none⟩ (.int .i64 S.rc.last.rep)).setCell ⟨g, 3, none⟩ (.int .u64 (S.rc.last.members : Int))).setCell ⟨g, 4, none⟩ (.slice A q c)).setCell ⟨g, 5, none⟩ (.int .u64 (ep : Int))).setCell ⟨g, 6, none⟩ (.int .i64 rep)).setCell ⟨g, 7, none⟩ (.int .u64 (m : Int))).setCell ⟨g, 8, none⟩ (.bool true)).setCell ⟨g, 9, none⟩ (.bool false)).setCell ⟨g, 10, none⟩ (.map (some w1.heap.size))).setCell ⟨g, 11, none⟩ (.pointer none)).setCell ⟨g, 12, none⟩ (.int .u64 0)).alloc (.map #[] 0)).drew := ⟨_, rfl⟩
  rw [← hw2]
  obtain ⟨P, hP⟩ : ∃ P, P = putFl w1 g (flRegular S ep rep m) (.slice A q c) (.map (some w1.heap.size)) (.pointer none) := ⟨_, rfl⟩
  have hw3 : w2 = (P.alloc (.map #[] 0)).drew := by rw [hP]; exact hw2
  have hpx : Ex g w1 P := by rw [hP]; exact putFl_ex _ _ _ _ _ _
  have hpb : Blk P g 71 (flCells (flRegular S ep rep m) (.slice A q c) (.map (some w1.heap.size)) (.pointer none)) := by rw [hP]; exact putFl_blk HG1.out _ _ _ _
  have hps : P.heap.size = w1.heap.size := by rw [hP]; simp [putFl]
  clear hw2 hP
  have hba : Below P.heap.size P w2 := by rw [hw3]; exact btr (bal (Below.refl _ _) _) (vdrew_below _)
  have hex : Ex g w1 w2 := hpx.then hba
  have hg2 : Blk w2 g 71 (flCells (flRegular S ep rep m) (.slice A q c) (.map (some w1.heap.size)) (.pointer none)) := hpb.stay hba
  have hm2 : w2.heap[w1.heap.size]? = some (.map #[] 0) := by rw [hw3, ← hps]; exact heap_alloc_new P _
  have hsz : w2.heap.size = w1.heap.size + 1 := by rw [hw3, ← hps]; simp
  clear c0 f0 c1 f1 c2 f2 c3 f3 c4 f4 c5 f5 c6 f6 c7 f7 c8 f8 c9 f9 c10 f10 c11 f11 c12 f12 b0 b1 hl0
  have HV2 := Lib.hid (HV1.out.ex hex HVN.out)
  have hi2 := hex.blk HBX.out (by omega)
  have HI2 := Lib.hid hi2
  have hgl2 := hg2.lt
  have hil2 := hi2.lt
  have c0 : w2.cell? ⟨g, 0, none⟩ = some (.int .u64 (S.rc.last.number : Int)) := hg2.cell 0
  have c1 : w2.cell? ⟨g, 1, none⟩ = some (.int .u64 (S.rc.last.epoch : Int)) := hg2.cell 1
  have c2 : w2.cell? ⟨g, 2, none⟩ = some (.int .i64 S.rc.last.rep) := hg2.cell 2
  have c3 : w2.cell? ⟨g, 3, none⟩ = some (.int .u64 (S.rc.last.members : Int)) := hg2.cell 3
  have c4 : w2.cell? ⟨g, 4, none⟩ = some (.slice A q c) := hg2.cell 4
  have HEX := Lib.hid hex
  have HG2 := Lib.hid hg2
  have HM2 := Lib.hid hm2
  have HSZ := Lib.hid hsz
  clear hex hg2 hm2 hsz hw3 hpx hpb hps hba hi2
  clear P
  go_wp2_with fail
  refine (flOwn_any HV2.out.views hl (by simp [Value.oneCell'])).mono ?_
  rintro e w3 ⟨A3, q3, c3, rfl, hb3, ho3⟩
  have hi3 := HI2.out.stay hb3
  have z0 : w3.cell? ⟨g0 + 1, 0, none⟩ = some (.int .i64 x.kind) := hi3.cell 0
  have f0 := hi3.free 0
  have z6 : w3.cell? ⟨g0 + 1, 6, none⟩ = some (.int .u64 (x.rc.last.number : Int)) := hi3.cell 6
  have f6 := hi3.free 6
  have z7 : w3.cell? ⟨g0 + 1, 7, none⟩ = some (.int .u64 (x.rc.last.epoch : Int)) := hi3.cell 7
  have f7 := hi3.free 7
  have z8 : w3.cell? ⟨g0 + 1, 8, none⟩ = some (.int .i64 x.rc.last.rep) := hi3.cell 8
  have f8 := hi3.free 8
  have z9 : w3.cell? ⟨g0 + 1, 9, none⟩ = some (.int .u64 (x.rc.last.members : Int)) := hi3.cell 9
  have f9 := hi3.free 9
  have z10 : w3.cell? ⟨g0 + 1, 10, none⟩ = some (.slice Ax qx cx) := hi3.cell 10
  have f10 := hi3.free 10
  have HI3 := Lib.hid hi3
  have HB3 := Lib.hid hb3
  have HO3 := Lib.hid ho3
  clear hi3 hb3 ho3
  go_upto_region 3 with fail
  obtain ⟨w4, hw4⟩ : ∃ w4, w4 = ((((((w3.setCell ⟨g0 + 1, 0, none⟩ (.int .i64 2)).setCell ⟨g0 + 1, 6, none⟩ (.int .u64 (S.rc.last.number : Int))).setCell ⟨g0 + 1, 7, none⟩ (.int .u64 (S.rc.last.epoch : Int))).setCell ⟨g0 + 1, 8, none⟩ (.int .i64 S.rc.last.rep)).setCell ⟨g0 + 1, 9, none⟩ (.int .u64 (S.rc.last.members : Int))).setCell ⟨g0 + 1, 10, none⟩ (.slice A3 q3 c3)) := ⟨_, rfl⟩
  rw [← hw4]
  have hx4 : Ex (g0 + 1) w3 w4 := by
    rw [hw4]
    repeat refine Ex.trans ?_ (Ex.cell _ _ _ _)
    exact Ex.refl _ _
  have k0 := HI3.out.set 0 (.int .i64 2)
  have k6 := k0.set 6 (.int .u64 (S.rc.last.number : Int))
  have k7 := k6.set 7 (.int .u64 (S.rc.last.epoch : Int))
  have k8 := k7.set 8 (.int .i64 S.rc.last.rep)
  have k9 := k8.set 9 (.int .u64 (S.rc.last.members : Int))
  have k10 := k9.set 10 (.slice A3 q3 c3)
  have e6 : (((((((#[.int .i64 x.kind, .string x.data, .int .u32 (x.inc : Int), .int .u64 (x.holds : Int), .bool x.has, .bool x.direct, .int .u64 (x.rc.last.number : Int), .int .u64 (x.rc.last.epoch : Int), .int .i64 x.rc.last.rep, .int .u64 (x.rc.last.members : Int), .slice Ax qx cx, .int .u64 (x.view.number : Int), .int .u64 (x.view.epoch : Int), .int .i64 x.view.rep, .int .u64 (x.view.members : Int), .int .u64 (x.number : Int), .int .i64 x.index, .int .i64 x.total].setIfInBounds 0 (.int .i64 2)).setIfInBounds 6 (.int .u64 (S.rc.last.number : Int))).setIfInBounds 7 (.int .u64 (S.rc.last.epoch : Int))).setIfInBounds 8 (.int .i64 S.rc.last.rep)).setIfInBounds 9 (.int .u64 (S.rc.last.members : Int))).setIfInBounds 10 (.slice A3 q3 c3)) : Array Value) = #[.int .i64 2, .string x.data, .int .u32 (x.inc : Int), .int .u64 (x.holds : Int), .bool x.has, .bool x.direct, .int .u64 (S.rc.last.number : Int), .int .u64 (S.rc.last.epoch : Int), .int .i64 S.rc.last.rep, .int .u64 (S.rc.last.members : Int), .slice A3 q3 c3, .int .u64 (x.view.number : Int), .int .u64 (x.view.epoch : Int), .int .i64 x.view.rep, .int .u64 (x.view.members : Int), .int .u64 (x.number : Int), .int .i64 x.index, .int .i64 x.total] := by simp
  have hi4 : Blk w4 (g0 + 1) 45 #[.int .i64 2, .string x.data, .int .u32 (x.inc : Int), .int .u64 (x.holds : Int), .bool x.has, .bool x.direct, .int .u64 (S.rc.last.number : Int), .int .u64 (S.rc.last.epoch : Int), .int .i64 S.rc.last.rep, .int .u64 (S.rc.last.members : Int), .slice A3 q3 c3, .int .u64 (x.view.number : Int), .int .u64 (x.view.epoch : Int), .int .i64 x.view.rep, .int .u64 (x.view.members : Int), .int .u64 (x.number : Int), .int .i64 x.index, .int .i64 x.total] := by rw [hw4, ← e6]; exact k10
  clear z0 z6 z7 z8 z9 z10 f0 f6 f7 f8 f9 f10 k0 k6 k7 k8 k9 k10 hw4 e6
  have y0 : w4.cell? ⟨g0 + 1, 0, none⟩ = some (.int .i64 2) := hi4.cell 0
  have y1 : w4.cell? ⟨g0 + 1, 1, none⟩ = some (.string x.data) := hi4.cell 1
  have y2 : w4.cell? ⟨g0 + 1, 2, none⟩ = some (.int .u32 (x.inc : Int)) := hi4.cell 2
  have y3 : w4.cell? ⟨g0 + 1, 3, none⟩ = some (.int .u64 (x.holds : Int)) := hi4.cell 3
  have y4 : w4.cell? ⟨g0 + 1, 4, none⟩ = some (.bool x.has) := hi4.cell 4
  have y5 : w4.cell? ⟨g0 + 1, 5, none⟩ = some (.bool x.direct) := hi4.cell 5
  have y6 : w4.cell? ⟨g0 + 1, 6, none⟩ = some (.int .u64 (S.rc.last.number : Int)) := hi4.cell 6
  have y7 : w4.cell? ⟨g0 + 1, 7, none⟩ = some (.int .u64 (S.rc.last.epoch : Int)) := hi4.cell 7
  have y8 : w4.cell? ⟨g0 + 1, 8, none⟩ = some (.int .i64 S.rc.last.rep) := hi4.cell 8
  have y9 : w4.cell? ⟨g0 + 1, 9, none⟩ = some (.int .u64 (S.rc.last.members : Int)) := hi4.cell 9
  have y10 : w4.cell? ⟨g0 + 1, 10, none⟩ = some (.slice A3 q3 c3) := hi4.cell 10
  have y11 : w4.cell? ⟨g0 + 1, 11, none⟩ = some (.int .u64 (x.view.number : Int)) := hi4.cell 11
  have y12 : w4.cell? ⟨g0 + 1, 12, none⟩ = some (.int .u64 (x.view.epoch : Int)) := hi4.cell 12
  have y13 : w4.cell? ⟨g0 + 1, 13, none⟩ = some (.int .i64 x.view.rep) := hi4.cell 13
  have y14 : w4.cell? ⟨g0 + 1, 14, none⟩ = some (.int .u64 (x.view.members : Int)) := hi4.cell 14
  have y15 : w4.cell? ⟨g0 + 1, 15, none⟩ = some (.int .u64 (x.number : Int)) := hi4.cell 15
  have y16 : w4.cell? ⟨g0 + 1, 16, none⟩ = some (.int .i64 x.index) := hi4.cell 16
  have y17 : w4.cell? ⟨g0 + 1, 17, none⟩ = some (.int .i64 x.total) := hi4.cell 17
  have hil4 := hi4.lt
  have HX4 := Lib.hid hx4
  clear hi4 hx4
  go_wp2_with fail
  go_ret
  have hE3 : Ex g w w3 := ((Ex.of_below HB1.out g).trans HEX.out).then HB3.out
  have hE4 : Ex g w w4 := ⟨HX4.out.os.trans hE3.os, HX4.out.tape.trans hE3.tape, HX4.out.output.trans hE3.output, Nat.le_trans hE3.size HX4.out.size, fun k hk hne => (HX4.out.block k (Nat.lt_of_lt_of_le hk hE3.size) (by have := HG0.out; omega)).trans (hE3.block k hk hne)⟩
  have hs1 := HS1.out
  have hs2 := HSZ.out
  have h23 := HB3.out.size
  have hg0 := HG0.out
  have hbe : Below w4.heap.size w4 (w4.alloc (.cells #[.int .i64 1, .int .i64 2, .string x.data, .int .u32 (x.inc : Int), .int .u64 (x.holds : Int), .bool x.has, .bool x.direct, .int .u64 (S.rc.last.number : Int), .int .u64 (S.rc.last.epoch : Int), .int .i64 S.rc.last.rep, .int .u64 (S.rc.last.members : Int), .slice A3 q3 c3, .int .u64 (x.view.number : Int), .int .u64 (x.view.epoch : Int), .int .i64 x.view.rep, .int .u64 (x.view.members : Int), .int .u64 (x.number : Int), .int .i64 x.index, .int .i64 x.total, .int .u64 0, .int .u64 0, .int .i64 0, .int .u64 0, .slice none 0 0, .int .u64 0, .int .u64 0, .int .i64 0, .int .u64 0, .slice none 0 0] 47)) := bal (Below.refl _ _) _
  refine ⟨w1.heap.size, w4.heap.size, A3, q3, c3, rfl, hE4.then hbe, (HX4.out.blk (HG2.out.stay HB3.out) (by omega)).stay hbe, by omega, ?_, ?_, hE4.size, Blk.new _ _ _ rfl⟩
  · have h3 := (HB3.out.block w1.heap.size (by omega)).trans HM2.out
    have h4 := (HX4.out.block w1.heap.size (by omega) (by omega)).trans h3
    exact (hbe.block w1.heap.size (by have := HX4.out.size; omega)).trans h4
  · exact ((ViewsT.of_own HO3.out rfl HOK.out).ex HX4.out (fun e => by
      have h5 : (Value.slice A3 q3 c3).ownBlock = some (g0 + 1) := by
        rcases HO3.out.2 with ⟨h6, _⟩ | ⟨b, cap, cur, h6, _⟩
        · rw [h6] at e; cases e
        · rw [h6] at e ⊢; exact e
      have := (HO3.out.lt _ h5).1
      omega)).below hbe
end Go.Proofs.YtalcoodidcehnaaDoor
