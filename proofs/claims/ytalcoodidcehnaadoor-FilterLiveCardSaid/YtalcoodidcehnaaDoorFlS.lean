import Derived.Test.YtalcoodidcehnaaDoorFlR
namespace Go.Proofs.YtalcoodidcehnaaDoor
set_option linter.unusedVariables false
set_option linter.unusedSimpArgs false
open Go.RowKit
theorem aX1_ok : aX1.Ok := ⟨by decide, ⟨by decide⟩, Vw.none_ok, Vw.none_ok, ⟨by decide⟩⟩
theorem Tab.lt {w : World} (h : Tab w) : 0 < w.heap.size := World.block_lt_of_cell? w _ (h.cell 0 (by decide))
theorem Turns.off {g bm B : Nat} (hg : B ≤ g) (hb : B ≤ bm) {t : Nat} (ht : t < B) : ¬ Turns g (.map (some bm)) t := by
  rintro (h | h)
  · omega
  · injection h with h
    injection h with h
    omega
theorem Tab.ex {w w' : World} {g : Nat} (h : Tab w) (hx : Ex g w w') (hn : 0 ≠ g) : Tab w' := h.exP (ExP.of_ex hx (P := fun k => k = g) rfl) hn
theorem flDeliverE {w : World} {g : Nat} {S : Fl} {A0 : Option Addr} {q0 k0 : Nat} {mv tv : Value} (hg : FlAt w g S (.slice A0 q0 k0) mv tv) (p : Int) (x : Itm) {Ax : Option Addr} {qx cx : Nat} {a b : Value} (ha : a = .int .i64 p) (hb : b = .agg (itemCells x (.slice Ax qx cx)).toArray) {R : Fl × List Ot} (hR : flDeliver S p x = R)
    (hvx : Views w (.slice Ax qx cx) x.rc.pend) (hxo : x.Ok) (hxl : x.rc.pend.length ≤ 1000) (hT : Tab w) (hTn : ¬ Turns g mv 0) :
    Calls Tryd.prog 12 #[.pointer (some ⟨g, 0, none⟩), a, b] w fun e w' =>
      ∃ A c A' q' c' tv', e = .returned (.slice A R.2.length c) ∧ ExP (Turns g mv) w w' ∧ FlAt w' g R.1 (.slice A' q' c') mv tv' ∧ OutsT w' (.slice A R.2.length c) R.2 := by
  subst ha hb hR; exact flDeliver_any hg p x hvx hxo hxl hT hTn
theorem flRecordT_any {w : World} {g : Nat} {S : Fl} {A0 : Option Addr} {q0 k0 : Nat} {mv tv : Value} (hg : FlAt w g S (.slice A0 q0 k0) mv tv) :
    Calls Tryd.prog 16 #[.pointer (some ⟨g, 0, none⟩)] w fun e w' =>
      ∃ A' c', e = .returned (.agg #[.int .u64 (S.rc.last.number : Int), .int .u64 (S.rc.last.epoch : Int), .int .i64 S.rc.last.rep, .int .u64 (S.rc.last.members : Int), .slice A' S.rc.pend.length c']) ∧ Below w.heap.size w w' ∧ ViewsT w' (.slice A' S.rc.pend.length c') S.rc.pend := by
  refine (flRecord_any hg.blk hg.views.views (Nat.le_trans hg.few (by decide))).mono ?_
  rintro e w' ⟨A', q', c', rfl, hb, hv⟩
  obtain ⟨A2, c2, h, _⟩ := hv.views.slice
  injection h with h1 h2 h3
  subst h1 h2 h3
  exact ⟨A', c', rfl, hb, hv⟩
theorem rec_pending (a b d : Nat) (c : Int) (A : Option Addr) (l k : Nat) (w : World) : (Instr.field 38 (.agg #[.int .u64 (a : Int), .int .u64 (b : Int), .int .i64 c, .int .u64 (d : Int), .slice A l k]) 1).run Tryd.prog w = .ok (.slice A l k) w := by kernel_rfl
def AwakePost (w : World) (e : Ending) (w' : World) : Prop := e = .returned (.bool true) ∧ Below w.heap.size w w'
set_option maxRecDepth 20000 in
set_option maxHeartbeats 8000000 in
theorem awake20_any {w : World} (hT : Tab w) : Calls Tryd.prog 6 #[] w (AwakePost w) := by
  have HT := Lib.hid hT
  have htl := hT.lt
  have HTL := Lib.hid htl
  clear hT htl
  go_enter Tryd.func6, Tryd.ntmps6
  go_wp2_with fail
  refine (vfirst_any 1 _ (x := 1) (by decide +kernel)).mono ?_
  rintro e w1 ⟨rfl, hb1⟩
  have HB1 := Lib.hid hb1
  clear hb1
  go_wp2_with fail
  refine (flNewE (r := aR0) (A := none) (q := 0) (c := 0) rfl (Sl.nil _ _ _) (by decide) ⟨⟨by decide⟩, ⟨by decide⟩, ⟨by decide⟩⟩).mono ?_
  rintro e w2 ⟨g, A0, q0, k0, rfl, hg, hb2, hf2⟩
  have HB2 := Lib.hid (btr HB1.out hb2)
  have HF2 := Lib.hid hf2
  have HG : Hid (w.heap.size ≤ g) := Nat.le_trans HB1.out.size hg
  clear hg hb2 hf2
  go_wp2_with fail
  refine (flRegularE (ep := 2) (m := 1) HF2.out ⟨by decide⟩ 0 ⟨by decide⟩ aX1 aX1_ok none 0 0 rfl rfl rfl).mono ?_
  rintro e w3 ⟨A3, bm, rfl, hx3, hbm, hf3, ho3⟩
  obtain ⟨b, off, iv, rv, cv, rfl, hbl, hok, hiv, hrv, hcv, hr⟩ := OutsT.at ho3 0 (by decide)
  rw [Nat.zero_mul, Nat.add_zero] at hr
  obtain ⟨Ai, ci, rfl, _⟩ := hiv.views.slice
  have c0 : w3.cell? ⟨b, off, none⟩ = some (.int .i64 1) := hr 0 _ rfl
  have c1 : w3.cell? ⟨b, off + 1, none⟩ = some (.int .i64 2) := hr 1 _ rfl
  have c3 : w3.cell? ⟨b, off + 3, none⟩ = some (.int .u32 5) := hr 3 _ rfl
  have hri := rangeAt_item hr
  have HX3 := Lib.hid hx3
  have HF3 := Lib.hid hf3
  have HBM : Hid (w.heap.size ≤ bm) := Nat.le_trans HB2.out.size hbm
  have HRI := Lib.hid hri
  have HIV := Lib.hid hiv
  have HOK := Lib.hid hok
  have HB3 : Hid (Below w.heap.size w w3) := hx3.below HB2.out HG.out HB2.out.size
  clear hx3 hbm hf3 ho3 hok hiv hrv hcv hr hri
  go_wp2_with (refine wpList_load_mid_g rfl 45 _ rfl b (off + 1) rfl _ _ HRI.out Tryd.underlying45 rfl item_isize ?_)
  have hT3 := HT.out.below HB3.out
  refine (flDeliverE HF3.out 0 aXs rfl rfl a_first HIV.out.views HOK.out.item (by decide) (HT.out.below HB3.out) (Turns.off HG.out HBM.out HTL.out)).mono ?_
  rintro e w4 ⟨A4, k4, A5, q5, c5, tv5, rfl, hx4, hf4, ho4⟩
  clear c0 c1 c3
  obtain ⟨b4, off4, iv4, rv4, cv4, rfl, hbl4, -, -, hrv4, -, hr4⟩ := OutsT.at ho4 0 (by decide)
  obtain ⟨b4', off4', iv5, rv5, cv5, he, -, hok5, hiv5, -, -, hr5⟩ := OutsT.at ho4 1 (by decide)
  injection he with he
  injection he with he1 he2
  subst he1 he2
  rw [Nat.zero_mul, Nat.add_zero] at hr4
  rw [Nat.one_mul] at hr5
  obtain ⟨Ar, cr, rfl, _⟩ := hrv4.views.slice
  obtain ⟨Ai5, ci5, rfl, _⟩ := hiv5.views.slice
  have c0 : w4.cell? ⟨b4, off4, none⟩ = some (.int .i64 2) := hr4 0 _ rfl
  have c1 : w4.cell? ⟨b4, off4 + 23, none⟩ = some (.slice Ar 1 cr) := hr4 23 _ rfl
  have c3 : w4.cell? ⟨b4, off4 + 30, none⟩ = some (.int .i64 3) := hr5 1 _ rfl
  have hri5 := rangeAt_item hr5
  have HB4 : Hid (Below w.heap.size w w4) := hx4.below HB3.out (fun k hk => by
    rcases hk with rfl | hk
    · exact HG.out
    · injection hk with hk
      injection hk with hk
      subst hk
      exact HBM.out) HB3.out.size
  have HF4 := Lib.hid hf4
  have HRI5 := Lib.hid hri5
  have HIV5 := Lib.hid hiv5
  have HOK5 := Lib.hid hok5
  clear hx4 hf4 ho4 hrv4 hr4 hok5 hiv5 hr5 hri5 hT3 hbl
  go_wp2_with (refine wpList_load_mid_g rfl 45 _ rfl b4 (off4 + 29 + 1) rfl _ _ HRI5.out Tryd.underlying45 rfl item_isize ?_)
  refine (flDeliverE HF4.out 0 (otTry aSt).item rfl rfl a_second HIV5.out.views HOK5.out.item (by decide) (HT.out.below HB4.out) (Turns.off HG.out HBM.out HTL.out)).mono ?_
  rintro e w6 ⟨A6, k6, A7, q7, c7, tv7, rfl, hx6, hf6, ho6⟩
  clear c0 c1 c3
  obtain ⟨b6, off6, iv6, rv6, cv6, rfl, hbl6, -, -, -, hcv6, hr6⟩ := OutsT.at ho6 0 (by decide)
  rw [Nat.zero_mul, Nat.add_zero] at hr6
  obtain ⟨Ac, cc, rfl, _⟩ := hcv6.sl.slice
  have c0 : w6.cell? ⟨b6, off6, none⟩ = some (.int .i64 3) := hr6 0 _ rfl
  have d0 : w6.cell? ⟨b6, off6 + 24, none⟩ = some (.int .u64 1) := hr6 24 _ rfl
  have d1 : w6.cell? ⟨b6, off6 + 25, none⟩ = some (.int .u64 2) := hr6 25 _ rfl
  have d2 : w6.cell? ⟨b6, off6 + 26, none⟩ = some (.int .i64 0) := hr6 26 _ rfl
  have d3 : w6.cell? ⟨b6, off6 + 27, none⟩ = some (.int .u64 1) := hr6 27 _ rfl
  have d4 : w6.cell? ⟨b6, off6 + 28, none⟩ = some (.slice Ac 1 cc) := hr6 28 _ rfl
  have HB6 : Hid (Below w.heap.size w w6) := hx6.below HB4.out (fun k hk => by
    rcases hk with rfl | hk
    · exact HG.out
    · injection hk with hk
      injection hk with hk
      subst hk
      exact HBM.out) HB4.out.size
  have HF6 := Lib.hid hf6
  clear hx6 hf6 ho6 hcv6 hr6 hbl4
  go_wp2_with fail
  refine (flFormed_any HF6.out.blk).mono ?_
  rintro e w' ⟨rfl, rfl⟩
  go_wp2_with fail
  refine (flRecordT_any HF6.out).mono ?_
  rintro e w8 ⟨A8, c8, rfl, hb8, -⟩
  have HB8 := Lib.hid (btr HB6.out hb8)
  have hfld := rec_pending ({ aS2 with agree := 1, rc := vform aS2.rc aV, formed := true } : Fl).rc.last.number ({ aS2 with agree := 1, rc := vform aS2.rc aV, formed := true } : Fl).rc.last.epoch ({ aS2 with agree := 1, rc := vform aS2.rc aV, formed := true } : Fl).rc.last.members ({ aS2 with agree := 1, rc := vform aS2.rc aV, formed := true } : Fl).rc.last.rep A8 ({ aS2 with agree := 1, rc := vform aS2.rc aV, formed := true } : Fl).rc.pend.length c8
  clear hb8
  go_wp2_with fail
  go_ret
  exact ⟨rfl, HB8.out⟩
end Go.Proofs.YtalcoodidcehnaaDoor
