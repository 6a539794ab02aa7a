import Derived.Test.YtalcoodidcehnaaDoorFlJ
namespace Go.Proofs.YtalcoodidcehnaaDoor
set_option linter.unusedVariables false
set_option linter.unusedSimpArgs false
open Go.RowKit
theorem wpStill_load_row {P : Program} {ops : Array Oper} {rest : List Oper} {o : Oper} {a : Act} {w : World} {Q : Act → Prop} (hgd : o.guard = none) (ty : TypeId) (x : Operand) (ho : o.op = .load ty x)
    (g : Nat) (hx : a.eval x = .pointer (some ⟨g, 0, none⟩)) (t : TypeId) (cs : Array Value) (d : TypeDesc) (hg : Blk w g t cs)
    (hu : P.underlying ty = some d) (hd : (match d with | .struct _ | .array _ _ => true | _ => false) = true) (hi : (P.info? ty).map (·.size) = some cs.size)
    (h : wpStill P ops w Q rest (a.put o.dst (.agg cs))) : wpStill P ops w Q (o :: rest) a := by
  refine wpStill_step fun K hK => ?_
  have hw : Region.wanted o (yielded ops a.tmps) = true := by simp [Region.wanted, hgd]
  rw [if_pos hw]
  unfold Oper.still execOp
  simp only [ho, hx, Instr.loadAt, Instr.sureAddr, Sem.run_bind, Sem.run_pure, Result.andThen_ok, run_loadVar_row w g t ty cs (0, 0) d hg hu hd hi]
  rw [Oper.stillUpon_value]
  exact hK _ h
theorem wpList_mapUpdate_run {P : Program} {ops : Array Oper} {rest : List Oper} {o : Oper} {a : Act} {w w' : World} {Q : Exit → Act → World → Prop} (hgd : o.guard = none) (m x v : Operand) (t : TypeId) (hop : o.op = Op.mapUpdate t m x v)
    (mv key val : Value) (hm : a.eval m = mv) (hx : a.eval x = key) (hv : a.eval v = val) (hrun : (Instr.mapUpdate t mv key val).run P w = .ok () w') (h : wpList P ops Q rest (a.put o.dst undef) w') : wpList P ops Q (o :: rest) a w := by
  refine wpList_plain hgd fun K' hK' => ?_
  unfold Oper.wp
  simp [execOp, hop, hm, hx, hv, hrun, Result.andThen]
  exact hK' _ _ h
theorem Tab.exP {P : Nat → Prop} {w w' : World} (h : Tab w) (hx : ExP P w w') (hn : ¬ P 0) : Tab w' := by
  refine ⟨fun i hi => ?_⟩
  have hc := h.cell i hi
  have hb := hx.block _ (World.block_lt_of_cell? w _ hc) hn
  rw [← hc]
  unfold World.cell?
  simp only [hb]
theorem qs {P : Program} {f : FuncId} {args : Array Value} {w : World} {n : Nat} {v : Value}
    (h : Calls P f args (w.drewN n) fun e w' => e = .returned v ∧ w.drewN n = w') : Calls P f args (w.drewN n) fun e w'' => e = .returned v ∧ ∃ m, w'' = w.drewN m :=
  Calls.quiet_of_same (h.mono fun _ _ ⟨he, hw⟩ => ⟨he, hw.symm⟩)
set_option maxRecDepth 20000 in
set_option maxHeartbeats 8000000 in
theorem flDeliver_state {w : World} {g : Nat} {S : Fl} {pv tv : Value} {bm : Nat} {D : DataW Value} (hg : FlAt w g S pv (.map (some bm)) tv) (hD : ToldIs w bm S.told D) (n : Nat) (hn : n < 64) (x : Itm) {Ax : Option Addr} {qx cx : Nat} (hl : S.live = true) (hf : S.formed = false) (hh : shas S.mem (n : Int) = true) (hk : x.kind = 2) (hs : S.told n = none) (hT : Tab w) (hTn : ¬ Turns g (.map (some bm)) 0) (hvx : Views w (.slice Ax qx cx) x.rc.pend) (hxo : x.Ok) (hxl : x.rc.pend.length ≤ 1000) {A0 : Option Addr} {q0 k0 : Nat} (hpv : pv = .slice A0 q0 k0) :
    Calls Tryd.prog 12 #[.pointer (some ⟨g, 0, none⟩), .int .i64 (n : Int), .agg (itemCells x (.slice Ax qx cx)).toArray] w fun e w' => ∃ A c A' q' c' tv', e = .returned (.slice A (flState S n x).2.length c) ∧ ExP (Turns g (.map (some bm))) w w' ∧ FlAt w' g (flState S n x).1 (.slice A' q' c') (.map (some bm)) tv' ∧ OutsT w' (.slice A (flState S n x).2.length c) (flState S n x).2 := by
  obtain ⟨w1, hw1⟩ : ∃ w1, w1 = w.alloc (.cells (itemCells x (.slice Ax qx cx)).toArray 45) := ⟨_, rfl⟩
  obtain ⟨g1, hg1e⟩ : ∃ g1, g1 = w.heap.size := ⟨_, rfl⟩
  have hb1 : Below w.heap.size w w1 := by rw [hw1]; exact bal (Below.refl _ _) _
  have hi1 : Blk w1 g1 45 (itemCells x (.slice Ax qx cx)).toArray := by rw [hw1]; exact Blk.new _ _ _ hg1e
  have hs1 : w1.heap.size = g1 + 1 := by rw [hw1, hg1e]; simp
  have hg1 := hg.below hb1
  obtain ⟨Ay, cy, hlook, -, hvy, hoky, hly⟩ := (hD.below hb1).look n hn
  obtain ⟨y, hy⟩ : ∃ y, y = (S.told n).getD Itm.zero := ⟨_, rfl⟩
  obtain ⟨vy, hvye⟩ : ∃ vy, vy = (.slice Ay y.rc.pend.length cy : Value) := ⟨_, rfl⟩
  rw [← hy, ← hvye] at hlook
  rw [← hy, ← hvye] at hvy
  rw [← hy] at hoky
  have HY1 : Hid ((itemCells y vy).toArray.all (·.oneCell') = true) := by show _ = true; rw [hvye]; simp [itemCells, Value.oneCell']
  clear hly
  obtain ⟨w3, hw3⟩ : ∃ w3, w3 = w1.alloc (.cells (itemCells y vy).toArray 45) := ⟨_, rfl⟩
  have hb3 : Below w1.heap.size w1 w3 := by rw [hw3]; exact bal (Below.refl _ _) _
  have hg3 := hg1.below hb3
  have hi3 := hi1.stay hb3
  have hd3 := (hD.below hb1).below hb3
  have c7 : w1.cell? ⟨g, 7, none⟩ = some (.int .u64 (S.mem : Int)) := hg1.blk.cell 7
  have c8 : w1.cell? ⟨g, 8, none⟩ = some (.bool true) := by have := hg1.blk.cell 8; simpa [flCells, hl] using this
  have c9 : w1.cell? ⟨g, 9, none⟩ = some (.bool false) := by have := hg1.blk.cell 9; simpa [flCells, hf] using this
  have c10 : w1.cell? ⟨g, 10, none⟩ = some (.map (some bm)) := hg1.blk.cell 10
  have hgl := hg1.blk.lt
  have hil := hi1.lt
  have HW1 := Lib.hid hw1
  have HG1E := Lib.hid hg1e
  have HB1 := Lib.hid hb1
  have HI1 := Lib.hid hi1
  have HS1 := Lib.hid hs1
  have HW3 := Lib.hid hw3
  have HB3 := Lib.hid hb3
  have HG3 := Lib.hid hg3
  have HI3 := Lib.hid hi3
  have HD3 := Lib.hid hd3
  have HM := Lib.hid hg1.mem
  have HH : Hid (shas S.mem (n : Int) = true) := hh
  have z0 : w3.cell? ⟨g1, 0, none⟩ = some (.int .i64 2) := by rw [← hk]; exact hi3.cell 0
  have hsn : (S.told n).isSome = false := by rw [hs]; rfl
  rw [hsn] at hlook
  have hgl3 := hg3.blk.lt
  have hil3 := hi3.lt
  have hrg3 : w3.rangeAt g1 6 [.int .u64 (x.rc.last.number : Int), .int .u64 (x.rc.last.epoch : Int), .int .i64 x.rc.last.rep, .int .u64 (x.rc.last.members : Int), .slice Ax qx cx] := by
    intro j u hu
    rw [hi3.cell]
    match j, hu with
    | 0, hu => exact hu
    | 1, hu => exact hu
    | 2, hu => exact hu
    | 3, hu => exact hu
    | 4, hu => exact hu
    | j + 5, hu => simp at hu
  have HRG3 := Lib.hid hrg3
  have hgw : g < g1 := by rw [hg1e]; exact hg.blk.lt
  have hbw : bm < g1 := by rw [hg1e]; exact hD.lt
  have hmg : bm ≠ g := fun e => hD.nocells (by rw [e]; exact hg.blk)
  have HG0 := Lib.hid hg
  have HD0 := Lib.hid hD
  have HT0 := Lib.hid hT
  have HGW := Lib.hid hgw
  have HBM := Lib.hid hbw
  have HMG := Lib.hid hmg
  have HVX := Lib.hid ((hvx.below hb1).below hb3)
  have HXO := Lib.hid hxo
  have HXL := Lib.hid hxl
  have HS := Lib.hid hs
  clear hg hD hw1 hg1e hb1 hi1 hs1 hg1 hvy hoky hy hvye hw3 hb3 hg3 hi3 hd3 hl hf hh hk hs hsn hT hvx hxo hxl hrg3 hgw hbw hmg
  go_enter Tryd.func12, Tryd.ntmps12
  go_upto_region 1 with fail
  rw [← HW1.out, ← HG1E.out]
  go_wp2_with fail
  refine (has_eq HM.out HH.out _).mono ?_
  rintro e w' ⟨rfl, rfl⟩
  go_upto_region 4 with (first
    | (refine wpList_alloc_store rfl rfl 45 _ _ rfl rfl rfl item_zero (itemCells y vy).toArray rfl rfl item_isize rfl HY1.out ?_))
  rw [← HW3.out]
  go_wp2_with (refine wpList_load_mid_g rfl 38 _ rfl g1 6 rfl _ _ HRG3.out Tryd.underlying38 rfl rec_isize ?_)
  refine (flOwn_any HVX.out (Nat.le_trans HXL.out (by decide)) (by simp [Value.oneCell'])).mono ?_
  rintro e w6 ⟨A6, q6, c6, rfl, hb6, ho6⟩
  have hi6 := HI3.out.stay hb6
  have z6 : w6.cell? ⟨g1, 6, none⟩ = some (.int .u64 (x.rc.last.number : Int)) := hi6.cell 6
  have f6 := hi6.free 6
  have z7 : w6.cell? ⟨g1, 7, none⟩ = some (.int .u64 (x.rc.last.epoch : Int)) := hi6.cell 7
  have f7 := hi6.free 7
  have z8 : w6.cell? ⟨g1, 8, none⟩ = some (.int .i64 x.rc.last.rep) := hi6.cell 8
  have f8 := hi6.free 8
  have z9 : w6.cell? ⟨g1, 9, none⟩ = some (.int .u64 (x.rc.last.members : Int)) := hi6.cell 9
  have f9 := hi6.free 9
  have z10 : w6.cell? ⟨g1, 10, none⟩ = some (.slice Ax qx cx) := hi6.cell 10
  have f10 := hi6.free 10
  have HI6 := Lib.hid hi6
  have HB6 := Lib.hid hb6
  have HO6 := Lib.hid ho6
  have hgl6 := hi6.lt
  clear hi6 hb6 ho6 z0
  go_upto_region 6 with fail
  obtain ⟨w7, hw7⟩ : ∃ w7, w7 = (((((w6.setCell ⟨g1, 6, none⟩ (.int .u64 (x.rc.last.number : Int))).setCell ⟨g1, 7, none⟩ (.int .u64 (x.rc.last.epoch : Int))).setCell ⟨g1, 8, none⟩ (.int .i64 x.rc.last.rep)).setCell ⟨g1, 9, none⟩ (.int .u64 (x.rc.last.members : Int))).setCell ⟨g1, 10, none⟩ (.slice A6 q6 c6)) := ⟨_, rfl⟩
  rw [← hw7]
  have hx7 : Ex g1 w6 w7 := by
    rw [hw7]
    repeat refine Ex.trans ?_ (Ex.cell _ _ _ _)
    exact Ex.refl _ _
  have k6 := HI6.out.set 6 (.int .u64 (x.rc.last.number : Int))
  have k7 := k6.set 7 (.int .u64 (x.rc.last.epoch : Int))
  have k8 := k7.set 8 (.int .i64 x.rc.last.rep)
  have k9 := k8.set 9 (.int .u64 (x.rc.last.members : Int))
  have k10 := k9.set 10 (.slice A6 q6 c6)
  have e7 : ((((((itemCells x (.slice Ax qx cx)).toArray.setIfInBounds 6 (.int .u64 (x.rc.last.number : Int))).setIfInBounds 7 (.int .u64 (x.rc.last.epoch : Int))).setIfInBounds 8 (.int .i64 x.rc.last.rep)).setIfInBounds 9 (.int .u64 (x.rc.last.members : Int))).setIfInBounds 10 (.slice A6 q6 c6)) = (itemCells x (.slice A6 q6 c6)).toArray := by simp [itemCells]
  have hi7 : Blk w7 g1 45 (itemCells x (.slice A6 q6 c6)).toArray := by rw [hw7, ← e7]; exact k10
  clear z6 z7 z8 z9 z10 f6 f7 f8 f9 f10 k6 k7 k8 k9 k10 e7 hw7
  have hb7 : Below w.heap.size w w7 := hx7.below ((btr HB1.out HB3.out).trans (HB6.out.mono (Nat.le_trans HB1.out.size HB3.out.size))) (Nat.le_of_eq HG1E.out.symm) (Nat.le_trans (Nat.le_trans HB1.out.size HB3.out.size) HB6.out.size)
  have hv7 : ViewsT w7 (.slice A6 q6 c6) x.rc.pend := ViewsT.of_own (hx7.own HO6.out (Nat.lt_of_lt_of_le hil HB3.out.size)) rfl HVX.out.ok
  have hg7 := HG0.out.below hb7
  have hd7 := HD0.out.below hb7
  have hdr := vdrew_below w7
  obtain ⟨w8, D8, hr8, hd8, hx8⟩ := (hd7.below hdr).store n hn HS.out (hv7.below hdr) HXO.out HXL.out
  have r10 : w7.cell? ⟨g, 10, none⟩ = some (.map (some bm)) := hg7.blk.cell 10
  have hgl7 := hg7.blk.lt
  have HI7 := Lib.hid hi7
  have HB7 := Lib.hid hb7
  have HG7 := Lib.hid hg7
  have HR8 := Lib.hid hr8
  have HD8 := Lib.hid hd8
  have HX8 := Lib.hid hx8
  clear hi7 hb7 hv7 hg7 hd7 hdr hr8 hd8 hx8 hx7 c7 c8 c9 c10 hlook hgl hil hgl3 hil3 hgl6
  refine wp_region_still_tail 6 (by kernel_rfl) (by kernel_rfl) ?_
  simp only [List.take_succ_cons, List.take_zero, List.drop_succ_cons, List.drop_zero]
  repeat (first
    | (refine wpStill_load_row rfl 45 _ rfl g1 rfl 45 _ _ (HI7.out.stay (vdrew_below w7)) Tryd.underlying45 rfl item_isize ?_)
    | still_step)
  refine wpStill_nil ?_
  refine wpList_mapUpdate_run rfl _ _ _ _ rfl _ _ _ rfl rfl rfl HR8.out ?_
  have hb7 := HB7.out
  have hx78 : ExP (fun k => k = bm) w7 w8 := (ExP.of_below (vdrew_below w7) _).trans HX8.out
  have hk78 : Kept w7 w8 := hx78.kept (fun k e cur t hc => absurd hc (by subst e; exact (HD0.out.below hb7).nocells))
  have hg7 := HG7.out
  have hf8 : FlAt w8 g { S with told := tput S.told n x } pv (.map (some bm)) tv :=
    ⟨(hx78.block g hg7.blk.lt (fun e => HMG.out e.symm)).trans hg7.blk, hg7.views.kept hk78, hg7.last, hg7.few, hg7.cep, hg7.mem, hg7.agree, .inr ⟨bm, D8, rfl, HD8.out⟩, hg7.tried.kept hk78⟩
  have hx8w : ExP (Turns g (.map (some bm))) w w8 := (ExP.of_below hb7 _).trans (hx78.mono (fun k _ e => .inr (by rw [e])))
  have c7 : w8.cell? ⟨g, 7, none⟩ = some (.int .u64 (S.mem : Int)) := hf8.blk.cell 7
  have c10 : w8.cell? ⟨g, 10, none⟩ = some (.map (some bm)) := hf8.blk.cell 10
  have hgl8 := hf8.blk.lt
  have HF8 := Lib.hid hf8
  have HX8W := Lib.hid hx8w
  have hlen : ∀ m, (Builtin.len_ #[68] 3 #[.map (some bm)]).run Tryd.prog (w8.drewN m) = .ok (.int .i64 ((tcount (tput S.told n x) : Nat) : Int)) (w8.drewN m) := fun m => (HD8.out.below (bdrewN (Below.refl _ _) m)).len _
  have HTB : Hid (Tab w8) := HT0.out.exP hx8w hTn
  clear hb7 hx78 hk78 hg7 hf8 hx8w r10 hgl7
  by_cases hq : tcount (tput S.told n x) = ssize S.mem
  · have HST : Hid (flState S n x = flTry { S with told := tput S.told n x }) := by show _ = _; unfold flState; rw [if_pos hq]
    obtain ⟨T, hT⟩ : ∃ T, T = tcount (tput S.told n x) := ⟨_, rfl⟩
    have HSZ : Hid (((ssize S.mem : Nat) : Int) = (T : Int)) := by show _ = _; rw [hT, hq]
    rw [← hT] at hlen
    have e1 : ((T : Int) == (T : Int)) = true := by simp
    clear hT hq
    go_upto_region 7 with fail
    go_quiet ((first | (go_at_call 27; exact qs (size_eq HM.out HSZ.out _))))
    go_wp2_with fail
    subst hpv
    refine (flTry_any (HF8.out.below (bdrewN (Below.refl _ _) _)) (HD8.out.below (bdrewN (Below.refl _ _) _)) (HTB.out.below (bdrewN (Below.refl _ _) _))).mono ?_
    rintro e w9 ⟨A, c, A', q', c', tv', rfl, hx9, hf9, ho9⟩
    have HX9 := Lib.hid ((HX8W.out.then (bdrewN (Below.refl _ _) _)).trans hx9)
    have HF9 := Lib.hid hf9
    have HO9 := Lib.hid ho9
    rw [← HST.out] at HF9 HO9 ⊢
    clear hx9 hf9 ho9
    go_wp2_with fail
    go_ret
    exact ⟨A, c, A', q', c', tv', rfl, HX9.out, HF9.out, HO9.out⟩
  · have HST : Hid (flState S n x = ({ S with told := tput S.told n x }, [])) := by show _ = _; unfold flState; rw [if_neg hq]
    obtain ⟨T, hT⟩ : ∃ T, T = tcount (tput S.told n x) := ⟨_, rfl⟩
    obtain ⟨Z, hZ⟩ : ∃ Z, Z = ssize S.mem := ⟨_, rfl⟩
    have HSZ : Hid (((ssize S.mem : Nat) : Int) = (Z : Int)) := by show _ = _; rw [hZ]
    rw [← hT] at hlen
    rw [← hT, ← hZ] at hq
    have e1 : ((T : Int) == (Z : Int)) = false := by rw [beq_eq_false_iff_ne]; omega
    clear hT hZ hq
    go_upto_region 7 with fail
    go_quiet ((first | (go_at_call 27; exact qs (size_eq HM.out HSZ.out _))))
    go_wp2_with fail
    go_ret
    subst hpv
    rw [HST.out]
    exact ⟨none, 0, A0, q0, k0, tv, rfl, HX8W.out.then (bdrewN (Below.refl _ _) _), HF8.out.below (bdrewN (Below.refl _ _) _), OutsT.nil _⟩
end Go.Proofs.YtalcoodidcehnaaDoor
