import Derived.Test.YtheeclmpkddgjaaVtM
namespace Go.Proofs.Ytheeclmpkddgjaa
set_option linter.unusedVariables false
set_option linter.unusedSimpArgs false
open Go.RowKit
theorem own_len {w : World} {base : Nat} {e : TypeId} {sz n l c : Nat} {A : Option Addr} {xs : List Value} (h : w.ownsRow base e sz (.slice A l c) n xs) : l = n := by
  rcases h.2 with ⟨h1, h2⟩ | ⟨_, _, _, h1, _⟩
  · injection h1 with _ h1 _
    omega
  · injection h1
/-- one record, laid down as a slice -/
theorem Recs.one {w : World} {g : Nat} {r : Rcd} {A : Option Addr} {q c : Nat} {cs : Array Value} (hok : r.last.Ok) (hv : Views w (.slice A q c) r.pend) (hg : g = w.heap.size) (hc : cs = #[.int .u64 (r.last.number : Int), .int .u64 (r.last.epoch : Int), .int .i64 r.last.rep, .int .u64 (r.last.members : Int), .slice A q c]) :
    Recs (w.alloc (.cells cs 34)) (.slice (some ⟨g, 0, none⟩) 1 1) [r] := by
  subst hg hc
  refine ⟨some ⟨w.heap.size, 0, none⟩, 1, rfl, Nat.le_refl _, fun i x hx => ?_⟩
  have hi : i = 0 := by
    have := (List.getElem?_eq_some_iff.1 hx).1
    simpa using this
  subst hi
  obtain rfl : r = x := by simpa using hx
  have hb : Blk (w.alloc (.cells #[.int .u64 (r.last.number : Int), .int .u64 (r.last.epoch : Int), .int .i64 r.last.rep, .int .u64 (r.last.members : Int), .slice A q c] 34)) w.heap.size 34 _ := Blk.new _ _ _ rfl
  refine ⟨w.heap.size, 0, recCells r.last (.slice A q c), rfl, ⟨_, rfl, hok, hv.below (bal (Below.refl _ _) _)⟩, rfl, fun j u hu => ?_⟩
  rw [Nat.zero_mul, Nat.zero_add, Nat.zero_add, hb.cell]
  simpa [recCells] using hu
theorem FewR.one {r : Rcd} (h : r.pend.length ≤ 1000) : FewR [r] := ⟨by simp, fun x hx => by rw [List.mem_singleton.1 hx]; exact h⟩
theorem FewR.nil : FewR [] := ⟨by simp, fun x hx => by cases hx⟩
theorem vmayE {w : World} {v : Value} {L : List Rcd} (hv : Recs w v L) (hl : FewR L) {m : Nat} {z : Int} (hz : z = (m : Int)) (hm : S64 m) {r : Bool} (hr : vmay m L = r) :
    Calls Try.prog 16 #[.int .u64 z, v] w fun e w' => e = .returned (.bool r) ∧ Below w.heap.size w w' := by
  subst hz; exact vmay_any hv hl hm hr
theorem vlastE {w : World} {v : Value} {L : List Rcd} (hv : Recs w v L) (hl : L.length ≤ 2000000) {x : Array Value} (hx : vwA (vlast L) = x) :
    Calls Try.prog 11 #[v] w fun e w' => e = .returned (.agg x) ∧ Below w.heap.size w w' := by
  subst hx; exact vlast_any hv hl
theorem vaddYesE {w : World} {v0 v1 v2 v3 : Value} {A : Option Addr} {q c : Nat} {L : List Vw} (hv : Views w (.slice A q c) L) (hq : q < 32) (f : Vw) {fa : Array Value} (hf : fa = vwA f) (h4 : #[v0, v1, v2, v3].all (·.oneCell') = true) :
    Calls Try.prog 21 #[.agg #[v0, v1, v2, v3, .slice A q c], .agg fa] w fun e w' =>
      ∃ A' c', e = .returned (.tuple #[.agg #[v0, v1, v2, v3, .slice A' (q + 1) c'], .bool true]) ∧ Below w.heap.size w w' ∧ w'.ownsRow w.heap.size 31 4 (.slice A' (q + 1) c') (q + 1) ((L ++ [f]).map viewCells).flatten := by
  subst hf; exact vaddYes_any hv hq f h4
theorem vformE {w : World} {v0 v1 v2 v3 : Value} {A : Option Addr} {q c : Nat} {L : List Vw} (hv : Views w (.slice A q c) L) (hl : L.length ≤ 1000000) (f : Vw) {fa : Array Value} (hf : fa = vwA f) {a b c' d : Value} (hr : #[a, b, c', d] = vwA f) (h4 : #[v0, v1, v2, v3].all (·.oneCell') = true) :
    Calls Try.prog 22 #[.agg #[v0, v1, v2, v3, .slice A q c], .agg fa] w fun e w' =>
      ∃ A' n' c'', e = .returned (.agg #[a, b, c', d, .slice A' n' c'']) ∧ Below w.heap.size w w' ∧ w'.ownsRow w.heap.size 31 4 (.slice A' n' c'') (vkeep f L).length ((vkeep f L).map viewCells).flatten ∧ n' = (vkeep f L).length := by
  subst hf
  simp only [vwA] at hr
  injection hr with hr
  simp only [List.cons.injEq, and_true] at hr
  obtain ⟨rfl, rfl, rfl, rfl⟩ := hr
  refine (vform_any hv hl f h4).mono ?_
  rintro e w' ⟨A', n', c'', rfl, hb, ho⟩
  exact ⟨A', n', c'', rfl, hb, ho, own_len ho⟩
def wv : Vw := ⟨1, 0, 0, 3⟩
def wr0 : Rcd := ⟨⟨0, 0, 0, 7⟩, []⟩
def wr1 : Rcd := ⟨⟨0, 0, 0, 7⟩, [wv]⟩
theorem wok0 : (⟨0, 0, 0, 7⟩ : Vw).Ok := ⟨⟨by decide⟩, ⟨by decide⟩, ⟨by decide⟩⟩
theorem wokv : ∀ x, x ∈ [wv] → x.Ok := fun x hx => by rw [List.mem_singleton.1 hx]; exact ⟨⟨by decide⟩, ⟨by decide⟩, ⟨by decide⟩⟩
theorem wm1 : vmay 3 [wr0] = true := by decide +kernel
theorem wm2 : vmay 4 [wr0] = false := by decide +kernel
theorem wm3 : vmay 6 [wr1] = false := by decide +kernel
theorem wm4 : vmay 3 [wr1] = true := by decide +kernel
theorem wm5 : vmay 7 [] = false := by decide +kernel
theorem wn1 : ((vnext [wr1] : Nat) : Int) = 2 := by decide +kernel
theorem wn2 : ((vnext [] : Nat) : Int) = 1 := by decide +kernel
theorem wk1 : (vkeep wv [wv]).length = 0 := by decide +kernel
theorem ws3 : ((sall 3 : Nat) : Int) = 7 := by decide +kernel
set_option maxRecDepth 20000 in
set_option maxHeartbeats 8000000 in
theorem awake18 {w : World} :
    Calls Try.prog 7 #[] w fun e w' => e = .returned (.bool true) ∧ Below w.heap.size w w' := by
  go_enter Try.func7, Try.ntmps7
  go_wp2_with fail
  refine (vfirst_any 3 _ ws3).mono ?_
  rintro e w1 ⟨rfl, hb1⟩
  have HB1 := Lib.hid hb1
  clear hb1
  go_wp2_with fail
  refine (vaddYesE (L := []) (Sl.nil _ _ _) (by decide) wv rfl (by simp [Value.oneCell'])).mono ?_
  rintro e w2 ⟨A2, c2, rfl, hb2, ho2⟩
  have HV2 : Hid (Views w2 (.slice A2 (0 + 1) c2) [wv]) := Views.of_own ho2 rfl wokv
  have HX2 := Lib.hid ((Blk.new w1 34 #[.int .u64 0, .int .u64 0, .int .i64 0, .int .u64 7, .slice none 0 0] rfl).stay hb2)
  have HB2 := Lib.hid (btr (bal HB1.out _) hb2)
  have hsz2 : w1.heap.size < w2.heap.size := HX2.out.lt
  clear hb2 ho2
  go_wp2_with fail
  have HV2a := Lib.hid (HV2.out.below (bal (Below.refl _ _) (.cells #[.int .u64 0, .int .u64 0, .int .i64 0, .int .u64 7, .slice A2 (0 + 1) c2] 34)))
  refine (vformE HV2a.out (by decide) wv rfl (a := .int .u64 1) (b := .int .u64 0) (c' := .int .i64 0) (d := .int .u64 3) rfl (by simp [Value.oneCell'])).mono ?_
  rintro e w3 ⟨A3, n3, c3, rfl, hb3, ho3, hn3⟩
  rw [wk1] at hn3
  subst hn3
  have HX3 := Lib.hid ((HX2.out.old (.cells #[.int .u64 0, .int .u64 0, .int .i64 0, .int .u64 7, .slice A2 (0 + 1) c2] 34)).stay hb3)
  have HY3 := Lib.hid ((Blk.new w2 34 #[.int .u64 0, .int .u64 0, .int .i64 0, .int .u64 7, .slice A2 (0 + 1) c2] rfl).stay hb3)
  have HV3 := Lib.hid (HV2a.out.below hb3)
  have HB3 := Lib.hid (btr (bal HB2.out _) hb3)
  clear hb3 ho3
  have hx3 := HX3.out.lt
  have hy3 := HY3.out.lt
  have x0 := HX3.out.cell 0
  have x1 := HX3.out.cell 1
  have x2 := HX3.out.cell 2
  have x3 := HX3.out.cell 3
  have x4 := HX3.out.cell 4
  go_wp2_with fail
  refine (vmayE (L := [wr0]) (Recs.one (r := wr0) wok0 (Sl.nil _ _ _) (by simp) rfl) (FewR.one (by decide)) (m := 3) rfl ⟨by decide⟩ wm1).mono ?_
  rintro e w4 ⟨rfl, hb4⟩
  have HB4 := Lib.hid (btr (bal (bal HB3.out _) _) hb4)
  have HX4 := Lib.hid (((HX3.out.old _).old _).stay hb4)
  have HY4 := Lib.hid (((HY3.out.old _).old _).stay hb4)
  have HZ4 := Lib.hid (((Blk.new w3 34 #[.int .u64 1, .int .u64 0, .int .i64 0, .int .u64 3, .slice A3 0 c3] rfl).old _).stay hb4)
  have HV4 := Lib.hid (HV3.out.below ((btr (bal (bal (Below.refl _ _) _) _) hb4)))
  clear x0 x1 x2 x3 x4
  clear hb4
  have x0 := HX4.out.cell 0
  have x1 := HX4.out.cell 1
  have x2 := HX4.out.cell 2
  have x3 := HX4.out.cell 3
  have x4 := HX4.out.cell 4
  go_wp2_with fail
  refine (vmayE (L := [wr0]) (Recs.one (r := wr0) wok0 (Sl.nil _ _ _) (by simp) rfl) (FewR.one (by decide)) (m := 4) rfl ⟨by decide⟩ wm2).mono ?_
  rintro e w5 ⟨rfl, hb5⟩
  have HB5 := Lib.hid (btr (bal HB4.out _) hb5)
  have HX5 := Lib.hid ((HX4.out.old _).stay hb5)
  have HY5 := Lib.hid ((HY4.out.old _).stay hb5)
  have HZ5 := Lib.hid ((HZ4.out.old _).stay hb5)
  have HV5 := Lib.hid (HV4.out.below ((btr (bal (Below.refl _ _) _) hb5)))
  clear x0 x1 x2 x3 x4
  clear hb5
  have y0 := HY5.out.cell 0
  have y1 := HY5.out.cell 1
  have y2 := HY5.out.cell 2
  have y3 := HY5.out.cell 3
  have y4 := HY5.out.cell 4
  go_wp2_with fail
  refine (vmayE (L := [wr1]) (Recs.one (r := wr1) wok0 HV5.out (by simp) rfl) (FewR.one (by decide)) (m := 6) rfl ⟨by decide⟩ wm3).mono ?_
  rintro e w6 ⟨rfl, hb6⟩
  have HB6 := Lib.hid (btr (bal HB5.out _) hb6)
  have HX6 := Lib.hid ((HX5.out.old _).stay hb6)
  have HY6 := Lib.hid ((HY5.out.old _).stay hb6)
  have HZ6 := Lib.hid ((HZ5.out.old _).stay hb6)
  have HV6 := Lib.hid (HV5.out.below ((btr (bal (Below.refl _ _) _) hb6)))
  clear y0 y1 y2 y3 y4
  clear hb6
  have y0 := HY6.out.cell 0
  have y1 := HY6.out.cell 1
  have y2 := HY6.out.cell 2
  have y3 := HY6.out.cell 3
  have y4 := HY6.out.cell 4
  go_wp2_with fail
  refine (vmayE (L := [wr1]) (Recs.one (r := wr1) wok0 HV6.out (by simp) rfl) (FewR.one (by decide)) (m := 3) rfl ⟨by decide⟩ wm4).mono ?_
  rintro e w7 ⟨rfl, hb7⟩
  have HB7 := Lib.hid (btr (bal HB6.out _) hb7)
  have HX7 := Lib.hid ((HX6.out.old _).stay hb7)
  have HY7 := Lib.hid ((HY6.out.old _).stay hb7)
  have HZ7 := Lib.hid ((HZ6.out.old _).stay hb7)
  have HV7 := Lib.hid (HV6.out.below ((btr (bal (Below.refl _ _) _) hb7)))
  clear y0 y1 y2 y3 y4
  clear hb7
  have y0 := HY7.out.cell 0
  have y1 := HY7.out.cell 1
  have y2 := HY7.out.cell 2
  have y3 := HY7.out.cell 3
  have y4 := HY7.out.cell 4
  go_wp2_with fail
  refine (vnext_any (L := [wr1]) (Recs.one (r := wr1) wok0 HV7.out (by simp) rfl) (FewR.one (by decide)) wn1).mono ?_
  rintro e w8 ⟨rfl, hb8⟩
  have HB8 := Lib.hid (btr (bal HB7.out _) hb8)
  have HX8 := Lib.hid ((HX7.out.old _).stay hb8)
  have HY8 := Lib.hid ((HY7.out.old _).stay hb8)
  have HZ8 := Lib.hid ((HZ7.out.old _).stay hb8)
  have HV8 := Lib.hid (HV7.out.below ((btr (bal (Below.refl _ _) _) hb8)))
  clear y0 y1 y2 y3 y4
  clear hb8
  have z0 := HZ8.out.cell 0
  have z4 := HZ8.out.cell 4
  go_wp2_with fail
  refine (vmayE (L := []) (Sl.nil _ _ _) FewR.nil (m := 7) rfl ⟨by decide⟩ wm5).mono ?_
  rintro e w9 ⟨rfl, hb9⟩
  have HB9 := Lib.hid (btr HB8.out hb9)
  clear hb9
  go_wp2_with fail
  refine (vnext_any (L := []) (Sl.nil _ _ _) FewR.nil wn2).mono ?_
  rintro e wa ⟨rfl, hba⟩
  have HBa := Lib.hid (btr HB9.out hba)
  clear hba
  go_wp2_with fail
  refine (vlastE (L := []) (Sl.nil _ _ _) (by decide) (x := #[.int .u64 0, .int .u64 0, .int .i64 0, .int .u64 0]) rfl).mono ?_
  rintro e wb ⟨rfl, hbb⟩
  have HBb := Lib.hid (btr HBa.out hbb)
  clear hbb
  go_wp2_with fail
  go_ret
  exact ⟨rfl, HBb.out⟩
end Go.Proofs.Ytheeclmpkddgjaa
