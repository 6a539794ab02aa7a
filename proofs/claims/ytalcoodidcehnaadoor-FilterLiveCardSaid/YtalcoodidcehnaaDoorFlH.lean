import Derived.Test.YtalcoodidcehnaaDoorFlG
import Derived.Deep.RegionHeld3
namespace Go.Proofs.YtalcoodidcehnaaDoor
set_option linter.unusedVariables false
set_option linter.unusedSimpArgs false
open Go.RowKit
def flRecs (S : Fl) : List Rcd := (flClaims S).map (·.rc)
def flView (S : Fl) : Vw := ⟨vnext (flRecs S), S.cep, S.crep, S.mem⟩
def otWrite (S : Fl) : Ot := ⟨2, Itm.zero, vadd S.rc (flView S), flView S, flClaims S⟩
def otTry (S : Fl) : Ot := ⟨1, { Itm.zero with kind := 3, view := flView S }, ⟨Vw.none, []⟩, Vw.none, []⟩
def flTry (S : Fl) : Fl × List Ot :=
  if vmay S.mem (flRecs S) && vok S.rc then ({ S with rc := vadd S.rc (flView S), tried := some (flView S) }, [otWrite S, otTry S]) else (S, [])
theorem rec_info5 : (Tryd.prog.info? 38).map (fun i => (i.zero, i.size, i.bytes)) = some (some (.agg #[.int .u64 0, .int .u64 0, .int .i64 0, .int .u64 0, .slice none 0 0]), 5, 56) := by kernel_rfl
theorem rec_zero (w : World) : (zeroValue 38).run Tryd.prog w = .ok (.agg #[.int .u64 0, .int .u64 0, .int .i64 0, .int .u64 0, .slice none 0 0]) w := by
  obtain ⟨i0, hi, hz0, _⟩ := info_parts rec_info5
  simp [zeroValue, typeInfo, hi, hz0]
theorem Sl.recs {w : World} {v : Value} {L : List Rcd} (h : Sl KRecT 5 w v L) : Recs w v L := h.imp (fun _ _ => KRecT.rec)
theorem vnext_ok {w : World} {v : Value} {L : List Rcd} (hv : Recs w v L) : S64 (vnext L) := by
  have hm64 := (S64.vmax (fun r hr => ⟨(hv.ok r hr).1.number, fun v hx => ((hv.ok r hr).2 v hx).number⟩)).lt
  refine ⟨?_⟩
  unfold vnext
  split <;> omega
theorem flClaim_few {w : World} {bm : Nat} {S : Fl} {D : DataW Value} (hD : ToldIs w bm S.told D) {p : Nat} (hp : p < 64) : (flClaim S p).rc.pend.length ≤ 1000 := by
  obtain ⟨_, _, _, _, _, _, h⟩ := hD.look p hp
  exact h
theorem flClaims_len (S : Fl) : (flClaims S).length ≤ 64 := by
  unfold flClaims
  rw [List.length_map]
  exact slist_le _
theorem flRecs_few {w : World} {bm : Nat} {S : Fl} {D : DataW Value} (hD : ToldIs w bm S.told D) : FewR (flRecs S) := by
  refine ⟨?_, fun r hr => ?_⟩
  · have := flClaims_len S
    unfold flRecs
    rw [List.length_map]
    omega
  · unfold flRecs flClaims at hr
    simp only [List.map_map, List.mem_map] at hr
    obtain ⟨p, hp, rfl⟩ := hr
    exact flClaim_few hD (mem_slist.1 hp).1
theorem vbox_new {w w8 : World} (hb : Below w.heap.size w w8) (v : Vw) : Blk (w8.alloc (.cells #[.int .u64 (v.number : Int), .int .u64 (v.epoch : Int), .int .i64 v.rep, .int .u64 (v.members : Int)] 35)) w8.heap.size 35 (vwA v) ∧ Below w.heap.size w (w8.alloc (.cells #[.int .u64 (v.number : Int), .int .u64 (v.epoch : Int), .int .i64 v.rep, .int .u64 (v.members : Int)] 35)) :=
  ⟨Blk.new _ _ _ rfl, bal hb _⟩
theorem vbox_old {w w8 : World} {g : Nat} {cs : Array Value} (hz : Blk w8 g 35 cs) (hs : cs.size = 4) (hg : w.heap.size ≤ g) (hb : Below w.heap.size w w8) (v : Vw) : Blk ((((w8.setCell ⟨g, 0, none⟩ (.int .u64 (v.number : Int))).setCell ⟨g, 1, none⟩ (.int .u64 (v.epoch : Int))).setCell ⟨g, 2, none⟩ (.int .i64 v.rep)).setCell ⟨g, 3, none⟩ (.int .u64 (v.members : Int))) g 35 (vwA v) ∧
    Below w.heap.size w ((((w8.setCell ⟨g, 0, none⟩ (.int .u64 (v.number : Int))).setCell ⟨g, 1, none⟩ (.int .u64 (v.epoch : Int))).setCell ⟨g, 2, none⟩ (.int .i64 v.rep)).setCell ⟨g, 3, none⟩ (.int .u64 (v.members : Int))) := by
  refine ⟨?_, bsetCell (bsetCell (bsetCell (bsetCell hb hg _ _) hg _ _) hg _ _) hg _ _⟩
  have h := (((hz.set 0 (.int .u64 (v.number : Int))).set 1 (.int .u64 (v.epoch : Int))).set 2 (.int .i64 v.rep)).set 3 (.int .u64 (v.members : Int))
  have e : ((((cs.setIfInBounds 0 (.int .u64 (v.number : Int))).setIfInBounds 1 (.int .u64 (v.epoch : Int))).setIfInBounds 2 (.int .i64 v.rep)).setIfInBounds 3 (.int .u64 (v.members : Int))) = vwA v := by
    apply Array.ext_getElem?
    intro i
    simp only [Array.getElem?_setIfInBounds, Array.size_setIfInBounds, hs]
    match i with
    | 0 => rfl
    | 1 => rfl
    | 2 => rfl
    | 3 => rfl
    | i + 4 => simp [vwA, hs]
  rw [e] at h
  exact h
theorem rbox_old {w w8 : World} {g : Nat} {cs : Array Value} (hz : Blk w8 g 38 cs) (hs : cs.size = 5) (hg : w.heap.size ≤ g) (hb : Below w.heap.size w w8) (v0 v1 v2 v3 v4 : Value) : Blk (((((w8.setCell ⟨g, 0, none⟩ v0).setCell ⟨g, 1, none⟩ v1).setCell ⟨g, 2, none⟩ v2).setCell ⟨g, 3, none⟩ v3).setCell ⟨g, 4, none⟩ v4) g 38 #[v0, v1, v2, v3, v4] ∧
    Below w.heap.size w (((((w8.setCell ⟨g, 0, none⟩ v0).setCell ⟨g, 1, none⟩ v1).setCell ⟨g, 2, none⟩ v2).setCell ⟨g, 3, none⟩ v3).setCell ⟨g, 4, none⟩ v4) := by
  refine ⟨?_, bsetCell (bsetCell (bsetCell (bsetCell (bsetCell hb hg _ _) hg _ _) hg _ _) hg _ _) hg _ _⟩
  have h := ((((hz.set 0 v0).set 1 v1).set 2 v2).set 3 v3).set 4 v4
  have e : (((((cs.setIfInBounds 0 v0).setIfInBounds 1 v1).setIfInBounds 2 v2).setIfInBounds 3 v3).setIfInBounds 4 v4) = #[v0, v1, v2, v3, v4] := by
    apply Array.ext_getElem?
    intro i
    simp only [Array.getElem?_setIfInBounds, Array.size_setIfInBounds, hs]
    match i with
    | 0 => rfl
    | 1 => rfl
    | 2 => rfl
    | 3 => rfl
    | 4 => rfl
    | i + 5 => simp [hs]
  rw [e] at h
  exact h
theorem rbox_ex (w8 : World) (g : Nat) (v0 v1 v2 v3 v4 : Value) : Ex g w8 (((((w8.setCell ⟨g, 0, none⟩ v0).setCell ⟨g, 1, none⟩ v1).setCell ⟨g, 2, none⟩ v2).setCell ⟨g, 3, none⟩ v3).setCell ⟨g, 4, none⟩ v4) := by
  repeat refine Ex.trans ?_ (Ex.cell _ _ _ _)
  exact Ex.refl _ _
theorem ViewsT.exR {w w' : World} {v : Value} {L : List Vw} {g : Nat} {cs : Array Value} {t : TypeId} (h : ViewsT w v L) (hx : Ex g w w') (hg : Blk w g t cs) (ht : t ≠ 35) : ViewsT w' v L := h.ex hx (fun e => by
  obtain ⟨cur, hc⟩ := h.typ g e
  have h2 : some (Obj.cells cur 35 (0, 0)) = some (Obj.cells cs t (0, 0)) := hc.symm.trans hg
  injection h2 with h2
  injection h2 with _ h3 _
  exact ht h3.symm)
def zitemL : List Value := [.int .i64 0, .string ⟨#[]⟩, .int .u32 0, .int .u64 0, .bool false, .bool false, .int .u64 0, .int .u64 0, .int .i64 0, .int .u64 0, .slice none 0 0, .int .u64 0, .int .u64 0, .int .i64 0, .int .u64 0, .int .u64 0, .int .i64 0, .int .i64 0]
theorem two_cells (S : Fl) (v : Vw) (hv : v = flView S) (rv cv : Value) : (outCells (otWrite S) (.slice none 0 0) rv cv ++ outCells (otTry S) (.slice none 0 0) (.slice none 0 0) (.slice none 0 0)).toArray =
    #[.int .i64 2, .int .i64 0, .string ⟨#[]⟩, .int .u32 0, .int .u64 0, .bool false, .bool false, .int .u64 0, .int .u64 0, .int .i64 0, .int .u64 0, .slice none 0 0, .int .u64 0, .int .u64 0, .int .i64 0, .int .u64 0, .int .u64 0, .int .i64 0, .int .i64 0,
      .int .u64 (S.rc.last.number : Int), .int .u64 (S.rc.last.epoch : Int), .int .i64 S.rc.last.rep, .int .u64 (S.rc.last.members : Int), rv, .int .u64 (v.number : Int), .int .u64 (v.epoch : Int), .int .i64 v.rep, .int .u64 (v.members : Int), cv,
      .int .i64 1, .int .i64 3, .string ⟨#[]⟩, .int .u32 0, .int .u64 0, .bool false, .bool false, .int .u64 0, .int .u64 0, .int .i64 0, .int .u64 0, .slice none 0 0, .int .u64 (v.number : Int), .int .u64 (v.epoch : Int), .int .i64 v.rep, .int .u64 (v.members : Int), .int .u64 0, .int .i64 0, .int .i64 0,
      .int .u64 0, .int .u64 0, .int .i64 0, .int .u64 0, .slice none 0 0, .int .u64 0, .int .u64 0, .int .i64 0, .int .u64 0, .slice none 0 0] := by
  subst hv
  simp [outCells, otWrite, otTry, vadd_last, Itm.zero, Vw.none]
theorem Vw.none_ok : Vw.none.Ok := ⟨⟨by decide⟩, ⟨by decide⟩, ⟨by decide⟩⟩
theorem flTry_no {S : Fl} (h : (vmay S.mem (flRecs S) && vok S.rc) = false) : flTry S = (S, []) := by unfold flTry; rw [h]; rfl
theorem flTry_yes {S : Fl} (h : (vmay S.mem (flRecs S) && vok S.rc) = true) : flTry S = ({ S with rc := vadd S.rc (flView S), tried := some (flView S) }, [otWrite S, otTry S]) := by unfold flTry; rw [h]; rfl
set_option maxRecDepth 20000 in
set_option maxHeartbeats 8000000 in
theorem flTry_any {w : World} {g : Nat} {S : Fl} {A0 : Option Addr} {q0 k0 : Nat} {tv : Value} {bm : Nat} {D : DataW Value} (hg : FlAt w g S (.slice A0 q0 k0) (.map (some bm)) tv) (hD : ToldIs w bm S.told D) (hT : Tab w) :
    Calls Tryd.prog 28 #[.pointer (some ⟨g, 0, none⟩)] w fun e w' => ∃ A c A' q' c' tv', e = .returned (.slice A (flTry S).2.length c) ∧ ExP (Turns g (.map (some bm))) w w' ∧ FlAt w' g (flTry S).1 (.slice A' q' c') (.map (some bm)) tv' ∧ OutsT w' (.slice A (flTry S).2.length c) (flTry S).2 := by
  obtain ⟨i0, hi, hz0, hz1, hz2⟩ := info_parts rec_info5
  have hgl := hg.blk.lt
  have HG := Lib.hid hg
  have HD := Lib.hid hD
  have HT := Lib.hid hT
  have HFW := Lib.hid (flRecs_few hD)
  clear hg hD hT
  go_enter Tryd.func28, Tryd.ntmps28
  go_wp2_with fail
  refine (flClaims_any HG.out HD.out HT.out).mono ?_
  rintro e w1 ⟨A1, c1, rfl, hb1, hi1⟩
  obtain ⟨C, hC⟩ : ∃ C, C = flClaims S := ⟨_, rfl⟩
  have hCl : C.length ≤ 64 := by rw [hC]; exact flClaims_len S
  rw [← hC] at hi1 ⊢
  obtain ⟨n, hn⟩ : ∃ n, n = C.length := ⟨_, rfl⟩
  rw [← hn] at hi1 hCl ⊢
  have HC := Lib.hid hC
  have HN := Lib.hid hn
  have HI1 := Lib.hid hi1
  have HB1 := Lib.hid hb1
  have HS1 := Lib.hid hb1.size
  have HG1 := Lib.hid (HG.out.below hb1)
  have HD1 := Lib.hid (HD.out.below hb1)
  clear hC hn hi1 hb1 hgl
  go_wp2_with fail
  go_loopw [3, 14] (fun a i wr => ∃ k : Nat, k ≤ n ∧ i = .int .i64 k ∧ Hid (RowT KRecT 5 38 wr w1.heap.size a ((C.take k).map (·.rc))) ∧ Hid (Below w1.heap.size w1 wr)) (fun _ i _ => n - (intOf i).toNat)
  case atStart => exact ⟨0, by omega, rfl, by rw [List.take_zero]; exact RowT.nil _ _ _ _ _, Below.refl _ _⟩
  case round =>
    obtain ⟨k, hk, rfl, HR, HB⟩ := hrel
    by_cases hlt : k < n
    · have hlt2 : k < C.length := by rw [← HN.out]; exact hlt
      obtain ⟨b, off, cs, rfl, ⟨v, rfl, hokx, hvx⟩, -, hrg⟩ := Sl.at (HI1.out.sl.below KItemT.stays (by decide) HB.out) k hlt2
      have hblr : b < wr.heap.size := World.block_lt_of_cell? wr _ (hrg 0 _ rfl)
      have htk : (C.take (k + 1)).map (·.rc) = (C.take k).map (·.rc) ++ [C[k].rc] := by rw [List.take_succ_eq_append_getElem hlt2, List.map_append]; rfl
      obtain ⟨x, hx⟩ : ∃ x, x = C[k] := ⟨_, rfl⟩
      rw [← hx] at hokx hvx hrg htk
      obtain ⟨Ax, cx, rfl, _⟩ := hvx.views.slice
      obtain ⟨qx, hqx⟩ : ∃ qx, qx = x.rc.pend.length := ⟨_, rfl⟩
      rw [← hqx] at hvx hrg
      obtain ⟨w5, hw5⟩ : ∃ w5, w5 = wr.alloc (.cells (itemCells x (.slice Ax qx cx)).toArray 45) := ⟨_, rfl⟩
      obtain ⟨g5, hg5⟩ : ∃ g5, g5 = wr.heap.size := ⟨_, rfl⟩
      have hb5 : Below wr.heap.size wr w5 := by rw [hw5]; exact bal (Below.refl _ _) _
      have hi5 : Blk w5 g5 45 (itemCells x (.slice Ax qx cx)).toArray := by rw [hw5]; exact Blk.new _ _ _ hg5
      have hrg5 : w5.rangeAt g5 6 [.int .u64 (x.rc.last.number : Int), .int .u64 (x.rc.last.epoch : Int), .int .i64 x.rc.last.rep, .int .u64 (x.rc.last.members : Int), .slice Ax qx cx] := by
        intro j u hu
        rw [hi5.cell]
        match j, hu with
        | 0, hu => exact hu
        | 1, hu => exact hu
        | 2, hu => exact hu
        | 3, hu => exact hu
        | 4, hu => exact hu
        | j + 5, hu => simp at hu
      have hbn : Below w5.heap.size w5 (w5.alloc (.cells #[.int .u64 (x.rc.last.number : Int), .int .u64 (x.rc.last.epoch : Int), .int .i64 x.rc.last.rep, .int .u64 (x.rc.last.members : Int), .slice Ax qx cx] 38)) := bal (Below.refl _ _) _
      obtain ⟨css, hcs, ho7⟩ := (HR.out.stay KRecT.stays hb5).stay KRecT.stays hbn
      obtain ⟨A7, l7, c7, rfl⟩ := own_sl ho7
      obtain ⟨news, hnews⟩ : ∃ news : List Value, news = recCells x.rc.last (.slice Ax qx cx) := ⟨_, rfl⟩
      have hcl := cells_new w5 #[.int .u64 (x.rc.last.number : Int), .int .u64 (x.rc.last.epoch : Int), .int .i64 x.rc.last.rep, .int .u64 (x.rc.last.members : Int), .slice Ax qx cx] 38 news (g := w5.heap.size) rfl hnews.symm
      have HW5 := Lib.hid hw5
      have HG5 := Lib.hid hg5
      have HI5 := Lib.hid hi5
      have hgl5 := hi5.lt
      have HR5 := Lib.hid hrg5
      have HRG := Lib.hid hrg
      have HTK := Lib.hid htk
      have HCS := Lib.hid hcs
      have HON := Lib.hid ho7
      have HVN := Lib.hid ((hvx.below hb5).below hbn)
      have HLO := Lib.hid hokx.last
      have HBN := Lib.hid ((HB.out.trans (hb5.mono HB.out.size)).trans (hbn.mono (Nat.le_trans HB.out.size hb5.size)))
      have HCLN := Lib.hid hcl
      have HNW := Lib.hid hnews
      have HNL := Lib.hid (show news.length = 1 * 5 by rw [hnews]; rfl)
      have HN1' := Lib.hid (show ∀ u ∈ news, u.oneCell' = true by rw [hnews]; simp [recCells, Value.oneCell'])
      have hkl : (C.take k).length ≤ 64 := by rw [List.length_take]; omega
      have HKL := Lib.hid hkl
      clear hx hlt2 hokx hvx hrg htk hqx hw5 hg5 hb5 hi5 hrg5 hbn hcs ho7 hcl hnews hkl HR
      go_upto_region 6 with (first
        | (refine wpList_load_mid_g rfl 45 _ rfl b (off + k * 18) rfl _ _ HRG.out Tryd.underlying45 rfl item_isize ?_)
        | (refine wpList_alloc_store rfl rfl 45 _ _ rfl rfl rfl item_zero (itemCells x (.slice Ax qx cx)).toArray rfl rfl item_isize rfl (by simp [itemCells, Value.oneCell']) ?_))
      rw [← HW5.out, ← HG5.out]
      go_wp2_with (first
        | (refine wpList_load_mid_g rfl 38 _ rfl g5 6 rfl _ _ HR5.out Tryd.underlying38 rfl rec_isize ?_)
        | (at_builtin; refine wpList_append_own_at _ rfl _ _ 22 rfl w1.heap.size 38 i0 (.agg #[.int .u64 0, .int .u64 0, .int .i64 0, .int .u64 0, .slice none 0 0]) 5 56 Tryd.underlying22 hi hz0 hz1 hz2 rfl (by decide) _ _ _ rfl HON.out ⟨w5.heap.size, 0, none⟩ 1 1 news rfl HNL.out HCLN.out HN1'.out ?c3 ?c4 ?c5 ?_))
      case c3 => have := HKL.out; rw [List.length_take] at this; unfold maxLen; omega
      case c4 => have := HKL.out; rw [List.length_take] at this; omega
      case c5 => have := HBN.out.size; simpa using this
      intro v' w8 hown' hgrow _ hob
      have hbg := HBN.out.grown hgrow HBN.out.size (fun b hb => (HON.out.lt b hb).1)
      rw [HNW.out] at hown'
      have hrow := RowT.snoc (KRecT.grown hgrow (own_typ HON.out)) HCS.out (⟨_, rfl, HLO.out, HVN.out⟩ : KRecT _ x.rc (recCells x.rc.last (.slice Ax qx cx))) rfl (by simpa using hown')
      rw [← HTK.out] at hrow
      have HROW := Lib.hid hrow
      have HBG := Lib.hid hbg
      clear hown' hgrow hob hbg hrow
      go_wp2_with fail
      go_roundw
      case rel => exact ⟨k + 1, by omega, by go_num, HROW, HBG⟩
      case measure => simp [intOf] <;> omega
    · obtain rfl : k = n := by omega
      obtain ⟨L, hL⟩ : ∃ L, L = flRecs S := ⟨_, rfl⟩
      have hf : (C.take k).map (·.rc) = L := by
        rw [List.take_of_length_le (by rw [HN.out]; exact Nat.le_refl _), HC.out, hL]
        rfl
      rw [hf] at HR
      have hrow := HR.out
      obtain ⟨css, hcs, ho⟩ := hrow
      obtain ⟨A7, l7, c7, rfl⟩ := own_sl ho
      have hrecs : Recs wr (.slice A7 l7 c7) L := Sl.recs (RowT.slt ⟨css, hcs, ho⟩).sl
      have hgr := HG1.out.below HB.out
      obtain ⟨v, hv⟩ : ∃ v, v = flView S := ⟨_, rfl⟩
      have hvok : v.Ok := by
        rw [hv]
        exact ⟨by show S64 (vnext (flRecs S)); rw [← hL]; exact vnext_ok hrecs, hgr.cep, hgr.mem⟩
      have hvn : ((vnext L : Nat) : Int) = (v.number : Int) := by rw [hv, hL]; rfl
      have c5 : wr.cell? ⟨g, 5, none⟩ = some (.int .u64 (v.epoch : Int)) := by rw [hv]; exact hgr.blk.cell 5
      have c6 : wr.cell? ⟨g, 6, none⟩ = some (.int .i64 v.rep) := by rw [hv]; exact hgr.blk.cell 6
      have c7m : wr.cell? ⟨g, 7, none⟩ = some (.int .u64 (v.members : Int)) := by rw [hv]; exact hgr.blk.cell 7
      have hgl := hgr.blk.lt
      have hfw : FewR L := by rw [hL]; exact HFW.out
      have HVK := Lib.hid hvok
      have HVN := Lib.hid hvn
      have HVE := Lib.hid hv
      have HLE := Lib.hid hL
      have HRC := Lib.hid hrecs
      have HGR := Lib.hid hgr
      have HDR := Lib.hid (HD1.out.below HB.out)
      have HIR := Lib.hid (SlT.kept HI1.out KItemT.staysK (by decide) (.of_below HB.out))
      have HBR := Lib.hid (btr HB1.out HB.out)
      have HFL := Lib.hid hfw
      clear hf hcs ho hrecs hgr hv hvok hvn hL hfw hlt hk HR HI1 HFW
      go_upto_region 8 with fail
      go_cut [7] from 24 to 34 (fun x7 wx => ∃ b, x7 = .pointer (some ⟨b, 0, none⟩) ∧ Hid (wr.heap.size ≤ b) ∧ Hid (Blk wx b 35 (vwA v)) ∧ Hid (Below wr.heap.size wr wx))
      case first =>
        go_region_held3 (fun w' => w'.cell? ⟨g, 5, none⟩ = some (.int .u64 (v.epoch : Int)) ∧ w'.cell? ⟨g, 6, none⟩ = some (.int .i64 v.rep) ∧ w'.cell? ⟨g, 7, none⟩ = some (.int .u64 (v.members : Int)))
          (go_keep)
          ((first
            | (go_at_call 7; refine (vnext_any (by first | exact HRC.out | exact HRC.out.below (vdrew_below _) | exact HRC.out.below (bal (Below.refl _ _) _) | exact HRC.out.below (btr (bal (Below.refl _ _) _) (vdrew_below _)) | exact HRC.out.below (bal (vdrew_below _) _)) HFL.out HVN.out).mono ?_; rintro e w8 ⟨rfl, hb8⟩; (first | (have hbz := ((Blk.new wr 35 #[.int .u64 0, .int .u64 0, .int .i64 0, .int .u64 0] rfl).stay (vdrew_below _)).stay hb8; have z0 : w8.cell? ⟨wr.heap.size, 0, none⟩ = some (.int .u64 0) := hbz.cell 0; have z1 : w8.cell? ⟨wr.heap.size, 1, none⟩ = some (.int .u64 0) := hbz.cell 1; have z2 : w8.cell? ⟨wr.heap.size, 2, none⟩ = some (.int .i64 0) := hbz.cell 2; have z3 : w8.cell? ⟨wr.heap.size, 3, none⟩ = some (.int .u64 0) := hbz.cell 3; have f0 := hbz.free 0; have f1 := hbz.free 1; have f2 := hbz.free 2; have f3 := hbz.free 3; have HBZ := Lib.hid hbz; clear hbz; have HB8 : Hid (Below wr.heap.size wr w8) := btr (btr (bal (Below.refl _ _) _) (vdrew_below _)) hb8; have hne : wr.heap.size ≠ g := (by omega)) | (have HB8 : Hid (Below wr.heap.size wr w8) := btr (vdrew_below _) hb8)); have k5 : w8.cell? ⟨g, 5, none⟩ = some (.int .u64 (v.epoch : Int)) := (HB8.out.cell (p := ⟨g, 5, none⟩) hgl).trans c5; have k6 : w8.cell? ⟨g, 6, none⟩ = some (.int .i64 v.rep) := (HB8.out.cell (p := ⟨g, 6, none⟩) hgl).trans c6; have k7 : w8.cell? ⟨g, 7, none⟩ = some (.int .u64 (v.members : Int)) := (HB8.out.cell (p := ⟨g, 7, none⟩) hgl).trans c7m; have kl : g < w8.heap.size := Nat.lt_of_lt_of_le hgl HB8.out.size; clear hb8)))
        all_goals go_wp2_with fail
        all_goals go_meet
        all_goals
          first
            | (obtain ⟨h1, h2⟩ := vbox_new HB8.out v; exact ⟨_, rfl, HB8.out.size, h1, h2⟩)
            | (obtain ⟨h1, h2⟩ := vbox_old HBZ.out rfl (Nat.le_refl _) HB8.out v; exact ⟨_, rfl, Nat.le_refl _, h1, h2⟩)
      case rest =>
        obtain ⟨b7, rfl, HBG, HBV, HBC⟩ := hcut
        have c7 : wc.cell? ⟨g, 7, none⟩ = some (.int .u64 (v.members : Int)) := (HBC.out.cell (p := ⟨g, 7, none⟩) hgl).trans c7m
        have hgl2 : g < wc.heap.size := Nat.lt_of_lt_of_le hgl HBC.out.size
        clear c5 c6 c7m hgl
        rcases Bool.eq_false_or_eq_true (vmay v.members L) with hm | hm
        rotate_left
        · have HNO : Hid (flTry S = (S, [])) := flTry_no (by rw [← HLE.out, show S.mem = v.members by rw [HVE.out]; rfl, hm]; rfl)
          have HM := Lib.hid hm
          clear hm
          go_wp2_with fail
          refine (vmay_any (HRC.out.below HBC.out) HFL.out HVK.out.members HM.out).mono ?_
          rintro e w9 ⟨rfl, hb9⟩
          have HB9 := Lib.hid (btr HBC.out hb9)
          clear hb9
          go_wp2_with fail
          go_ret
          rw [HNO.out]
          exact ⟨none, 0, A0, q0, k0, tv, rfl, .of_below (btr HBR.out HB9.out) _, HGR.out.below HB9.out, OutsT.nil _⟩
        · have HM := Lib.hid hm
          clear hm
          go_wp2_with fail
          refine (vmay_any (HRC.out.below HBC.out) HFL.out HVK.out.members HM.out).mono ?_
          rintro e w9 ⟨rfl, hb9⟩
          have HB9 := Lib.hid (btr HBC.out hb9)
          have hg9 := HGR.out.below (btr HBC.out hb9)
          have hv9 := HBV.out.stay hb9
          have HG9 := Lib.hid hg9
          have HV9 := Lib.hid hv9
          clear hb9 c7 hgl2
          have r0 : w9.cell? ⟨g, 0, none⟩ = some (.int .u64 (S.rc.last.number : Int)) := hg9.blk.cell 0
          have r1 : w9.cell? ⟨g, 1, none⟩ = some (.int .u64 (S.rc.last.epoch : Int)) := hg9.blk.cell 1
          have r2 : w9.cell? ⟨g, 2, none⟩ = some (.int .i64 S.rc.last.rep) := hg9.blk.cell 2
          have r3 : w9.cell? ⟨g, 3, none⟩ = some (.int .u64 (S.rc.last.members : Int)) := hg9.blk.cell 3
          have r4 : w9.cell? ⟨g, 4, none⟩ = some (.slice A0 q0 k0) := hg9.blk.cell 4
          have s0 : w9.cell? ⟨b7, 0, none⟩ = some (.int .u64 (v.number : Int)) := hv9.cell 0
          have s1 : w9.cell? ⟨b7, 1, none⟩ = some (.int .u64 (v.epoch : Int)) := hv9.cell 1
          have s2 : w9.cell? ⟨b7, 2, none⟩ = some (.int .i64 v.rep) := hv9.cell 2
          have s3 : w9.cell? ⟨b7, 3, none⟩ = some (.int .u64 (v.members : Int)) := hv9.cell 3
          have hgl9 := hg9.blk.lt
          have hbl9 := hv9.lt
          have hgb : g ≠ b7 := by have := HGR.out.blk.lt; have := HBG.out; omega
          clear hg9 hv9
          go_upto_region 11 with fail
          go_cut [8, 9] from 42 to 50 (fun x8 x9 wx => ∃ bx A8 q8 c8, x8 = .pointer (some ⟨bx, 0, none⟩) ∧ x9 = .bool (vok S.rc) ∧ Hid (w9.heap.size ≤ bx) ∧ Hid (Blk wx bx 38 #[.int .u64 (S.rc.last.number : Int), .int .u64 (S.rc.last.epoch : Int), .int .i64 S.rc.last.rep, .int .u64 (S.rc.last.members : Int), .slice A8 q8 c8]) ∧ Hid (Below w9.heap.size w9 wx) ∧ Hid (ViewsT wx (.slice A8 q8 c8) (vadd S.rc v).pend))
          case first =>
            go_region_held3 (fun w' => w'.cell? ⟨g, 0, none⟩ = some (.int .u64 (S.rc.last.number : Int)) ∧ w'.cell? ⟨g, 1, none⟩ = some (.int .u64 (S.rc.last.epoch : Int)) ∧ w'.cell? ⟨g, 2, none⟩ = some (.int .i64 S.rc.last.rep) ∧ w'.cell? ⟨g, 3, none⟩ = some (.int .u64 (S.rc.last.members : Int)) ∧ w'.cell? ⟨g, 4, none⟩ = some (.slice A0 q0 k0) ∧ w'.cell? ⟨b7, 0, none⟩ = some (.int .u64 (v.number : Int)) ∧ w'.cell? ⟨b7, 1, none⟩ = some (.int .u64 (v.epoch : Int)) ∧ w'.cell? ⟨b7, 2, none⟩ = some (.int .i64 v.rep) ∧ w'.cell? ⟨b7, 3, none⟩ = some (.int .u64 (v.members : Int)))
              (go_keep)
              ((first
                | (go_at_call 43; refine (vaddT_any (r := S.rc) (by first | exact HG9.out.views | exact HG9.out.views.below (vdrew_below _) | exact HG9.out.views.below (btr (bal (Below.refl _ _) _) (vdrew_below _))) v HVK.out (by simp [Value.oneCell']) rfl).mono ?_; rintro e w8 ⟨A8, q8, c8, rfl, hb8, hv8⟩; (first | (have hbz := ((Blk.new w9 38 #[.int .u64 0, .int .u64 0, .int .i64 0, .int .u64 0, .slice none 0 0] rfl).stay (vdrew_below _)).stay hb8; have z0 : w8.cell? ⟨w9.heap.size, 0, none⟩ = some (.int .u64 0) := hbz.cell 0; have z1 : w8.cell? ⟨w9.heap.size, 1, none⟩ = some (.int .u64 0) := hbz.cell 1; have z2 : w8.cell? ⟨w9.heap.size, 2, none⟩ = some (.int .i64 0) := hbz.cell 2; have z3 : w8.cell? ⟨w9.heap.size, 3, none⟩ = some (.int .u64 0) := hbz.cell 3; have z4 : w8.cell? ⟨w9.heap.size, 4, none⟩ = some (.slice none 0 0) := hbz.cell 4; have f0 := hbz.free 0; have f1 := hbz.free 1; have f2 := hbz.free 2; have f3 := hbz.free 3; have f4 := hbz.free 4; have HBZ := Lib.hid hbz; clear hbz; have HB8 : Hid (Below w9.heap.size w9 w8) := btr (btr (bal (Below.refl _ _) _) (vdrew_below _)) hb8; have hne : w9.heap.size ≠ g := (by omega); have hne2 : w9.heap.size ≠ b7 := (by omega)) | (have HB8 : Hid (Below w9.heap.size w9 w8) := btr (vdrew_below _) hb8)); have kr0 : w8.cell? ⟨g, 0, none⟩ = some (.int .u64 (S.rc.last.number : Int)) := (HB8.out.cell (p := ⟨g, 0, none⟩) hgl9).trans r0; have kr1 : w8.cell? ⟨g, 1, none⟩ = some (.int .u64 (S.rc.last.epoch : Int)) := (HB8.out.cell (p := ⟨g, 1, none⟩) hgl9).trans r1; have kr2 : w8.cell? ⟨g, 2, none⟩ = some (.int .i64 S.rc.last.rep) := (HB8.out.cell (p := ⟨g, 2, none⟩) hgl9).trans r2; have kr3 : w8.cell? ⟨g, 3, none⟩ = some (.int .u64 (S.rc.last.members : Int)) := (HB8.out.cell (p := ⟨g, 3, none⟩) hgl9).trans r3; have kr4 : w8.cell? ⟨g, 4, none⟩ = some (.slice A0 q0 k0) := (HB8.out.cell (p := ⟨g, 4, none⟩) hgl9).trans r4; have ks0 : w8.cell? ⟨b7, 0, none⟩ = some (.int .u64 (v.number : Int)) := (HB8.out.cell (p := ⟨b7, 0, none⟩) hbl9).trans s0; have ks1 : w8.cell? ⟨b7, 1, none⟩ = some (.int .u64 (v.epoch : Int)) := (HB8.out.cell (p := ⟨b7, 1, none⟩) hbl9).trans s1; have ks2 : w8.cell? ⟨b7, 2, none⟩ = some (.int .i64 v.rep) := (HB8.out.cell (p := ⟨b7, 2, none⟩) hbl9).trans s2; have ks3 : w8.cell? ⟨b7, 3, none⟩ = some (.int .u64 (v.members : Int)) := (HB8.out.cell (p := ⟨b7, 3, none⟩) hbl9).trans s3; have kl : g < w8.heap.size := Nat.lt_of_lt_of_le hgl9 HB8.out.size; have kl2 : b7 < w8.heap.size := Nat.lt_of_lt_of_le hbl9 HB8.out.size; have HV8 := Lib.hid hv8; clear hb8 hv8)))
            all_goals go_wp2_with fail
            all_goals go_meet
            all_goals
              first
                | exact ⟨_, A8, q8, c8, rfl, rfl, HB8.out.size, Blk.new _ _ _ rfl, bal HB8.out _, HV8.out.below (bal (Below.refl _ _) _)⟩
                | (obtain ⟨h1, h2⟩ := rbox_old HBZ.out rfl (Nat.le_refl _) HB8.out (.int .u64 (S.rc.last.number : Int)) (.int .u64 (S.rc.last.epoch : Int)) (.int .i64 S.rc.last.rep) (.int .u64 (S.rc.last.members : Int)) (.slice A8 q8 c8); exact ⟨_, A8, q8, c8, rfl, rfl, Nat.le_refl _, h1, h2, HV8.out.exR (rbox_ex _ _ _ _ _ _ _) HBZ.out (by decide)⟩)
          case rest =>
            obtain ⟨b8, A8, q8, c8, rfl, rfl, HB8G, HB8, HB8B, HV8⟩ := hcut
            have HBW := Lib.hid (HB9.out.trans (HB8B.out.mono HB9.out.size))
            rcases Bool.eq_false_or_eq_true (vok S.rc) with hk | hk
            rotate_left
            · have HNO : Hid (flTry S = (S, [])) := flTry_no (by rw [hk, Bool.and_false])
              clear r0 r1 r2 r3 r4 s0 s1 s2 s3
              rw [hk]
              clear hk
              go_wp2_with fail
              go_ret
              rw [HNO.out]
              exact ⟨none, 0, A0, q0, k0, tv, rfl, .of_below (btr HBR.out HBW.out) _, HGR.out.below HBW.out, OutsT.nil _⟩
            · have HYES : Hid (flTry S = ({ S with rc := vadd S.rc v, tried := some v }, [otWrite S, otTry S])) := by
                show _ = _
                rw [HVE.out]
                refine flTry_yes ?_
                rw [← HLE.out, hk, show S.mem = v.members by rw [HVE.out]; rfl, HM.out]
                rfl
              have hpl : (vadd S.rc v).pend.length ≤ 32 := by
                have h2 : S.rc.pend.length < 32 := of_decide_eq_true hk
                unfold vadd
                rw [if_pos hk]
                show (S.rc.pend ++ [v]).length ≤ 32
                rw [List.length_append]
                simp
                omega
              have HPL := Lib.hid hpl
              have hgc := HG9.out.below HB8B.out
              clear r0 r1 r2 r3 r4 s0 s1 s2 s3
              have r0 : wc.cell? ⟨g, 0, none⟩ = some (.int .u64 (S.rc.last.number : Int)) := hgc.blk.cell 0
              have f0 := hgc.blk.free 0
              have r1 : wc.cell? ⟨g, 1, none⟩ = some (.int .u64 (S.rc.last.epoch : Int)) := hgc.blk.cell 1
              have f1 := hgc.blk.free 1
              have r2 : wc.cell? ⟨g, 2, none⟩ = some (.int .i64 S.rc.last.rep) := hgc.blk.cell 2
              have f2 := hgc.blk.free 2
              have r3 : wc.cell? ⟨g, 3, none⟩ = some (.int .u64 (S.rc.last.members : Int)) := hgc.blk.cell 3
              have f3 := hgc.blk.free 3
              have r4 : wc.cell? ⟨g, 4, none⟩ = some (.slice A0 q0 k0) := hgc.blk.cell 4
              have f4 := hgc.blk.free 4
              have r11 : wc.cell? ⟨g, 11, none⟩ = some tv := hgc.blk.cell 11
              have f11 := hgc.blk.free 11
              have y0 : wc.cell? ⟨b8, 0, none⟩ = some (.int .u64 (S.rc.last.number : Int)) := HB8.out.cell 0
              have y1 : wc.cell? ⟨b8, 1, none⟩ = some (.int .u64 (S.rc.last.epoch : Int)) := HB8.out.cell 1
              have y2 : wc.cell? ⟨b8, 2, none⟩ = some (.int .i64 S.rc.last.rep) := HB8.out.cell 2
              have y3 : wc.cell? ⟨b8, 3, none⟩ = some (.int .u64 (S.rc.last.members : Int)) := HB8.out.cell 3
              have y4 : wc.cell? ⟨b8, 4, none⟩ = some (.slice A8 q8 c8) := HB8.out.cell 4
              have hglc := hgc.blk.lt
              have hblc := HB8.out.lt
              have hb8g : b8 ≠ g := by have := HB8G.out; omega
              have HGC := Lib.hid hgc
              rw [hk]
              clear hgc hpl hk
              go_upto_region 15 with fail
              obtain ⟨w14, hw14⟩ : ∃ w14, w14 = ((((((wc.setCell ⟨g, 0, none⟩ (.int .u64 (S.rc.last.number : Int))).setCell ⟨g, 1, none⟩ (.int .u64 (S.rc.last.epoch : Int))).setCell ⟨g, 2, none⟩ (.int .i64 S.rc.last.rep)).setCell ⟨g, 3, none⟩ (.int .u64 (S.rc.last.members : Int))).setCell ⟨g, 4, none⟩ (.slice A8 q8 c8)).setCell ⟨g, 11, none⟩ (.pointer (some ⟨b7, 0, none⟩))) := ⟨_, rfl⟩
              rw [← hw14]
              have hx14 : Ex g wc w14 := by
                rw [hw14]
                repeat refine Ex.trans ?_ (Ex.cell _ _ _ _)
                exact Ex.refl _ _
              have kk0 := HGC.out.blk.set 0 (.int .u64 (S.rc.last.number : Int))
              have k1 := kk0.set 1 (.int .u64 (S.rc.last.epoch : Int))
              have k2 := k1.set 2 (.int .i64 S.rc.last.rep)
              have k3 := k2.set 3 (.int .u64 (S.rc.last.members : Int))
              have k4 := k3.set 4 (.slice A8 q8 c8)
              have k11 := k4.set 11 (.pointer (some ⟨b7, 0, none⟩))
              have e14 : (((((((flCells S (.slice A0 q0 k0) (.map (some bm)) tv).setIfInBounds 0 (.int .u64 (S.rc.last.number : Int))).setIfInBounds 1 (.int .u64 (S.rc.last.epoch : Int))).setIfInBounds 2 (.int .i64 S.rc.last.rep)).setIfInBounds 3 (.int .u64 (S.rc.last.members : Int))).setIfInBounds 4 (.slice A8 q8 c8)).setIfInBounds 11 (.pointer (some ⟨b7, 0, none⟩))) = flCells { S with rc := vadd S.rc v, tried := some v } (.slice A8 q8 c8) (.map (some bm)) (.pointer (some ⟨b7, 0, none⟩)) := by simp [flCells, vadd_last]
              have hg14 : Blk w14 g 71 (flCells { S with rc := vadd S.rc v, tried := some v } (.slice A8 q8 c8) (.map (some bm)) (.pointer (some ⟨b7, 0, none⟩))) := by rw [hw14, ← e14]; exact k11
              have hb14 := hx14.blk HB8.out hb8g
              have hb7 := hx14.blk (HV9.out.stay HB8B.out) (Ne.symm hgb)
              have hv14 := HV8.out.exR hx14 HGC.out.blk (by decide)
              clear r0 r1 r2 r3 r4 r11 f0 f1 f2 f3 f4 f11 y0 y1 y2 y3 y4 kk0 k1 k2 k3 k4 k11 e14 hw14
              have y0 : w14.cell? ⟨b8, 0, none⟩ = some (.int .u64 (S.rc.last.number : Int)) := hb14.cell 0
              have y1 : w14.cell? ⟨b8, 1, none⟩ = some (.int .u64 (S.rc.last.epoch : Int)) := hb14.cell 1
              have y2 : w14.cell? ⟨b8, 2, none⟩ = some (.int .i64 S.rc.last.rep) := hb14.cell 2
              have y3 : w14.cell? ⟨b8, 3, none⟩ = some (.int .u64 (S.rc.last.members : Int)) := hb14.cell 3
              have y4 : w14.cell? ⟨b8, 4, none⟩ = some (.slice A8 q8 c8) := hb14.cell 4
              have s0 : w14.cell? ⟨b7, 0, none⟩ = some (.int .u64 (v.number : Int)) := hb7.cell 0
              have s1 : w14.cell? ⟨b7, 1, none⟩ = some (.int .u64 (v.epoch : Int)) := hb7.cell 1
              have s2 : w14.cell? ⟨b7, 2, none⟩ = some (.int .i64 v.rep) := hb7.cell 2
              have s3 : w14.cell? ⟨b7, 3, none⟩ = some (.int .u64 (v.members : Int)) := hb7.cell 3
              have hl14 := hb14.lt
              have hl7 := hb7.lt
              have HX14 := Lib.hid hx14
              have HG14 := Lib.hid hg14
              have HB7 := Lib.hid hb7
              have HV14 := Lib.hid hv14
              clear hx14 hg14 hb14 hb7 hv14
              go_region_held3 (fun w' => w'.cell? ⟨b8, 0, none⟩ = some (.int .u64 (S.rc.last.number : Int)) ∧ w'.cell? ⟨b8, 1, none⟩ = some (.int .u64 (S.rc.last.epoch : Int)) ∧ w'.cell? ⟨b8, 2, none⟩ = some (.int .i64 S.rc.last.rep) ∧ w'.cell? ⟨b8, 3, none⟩ = some (.int .u64 (S.rc.last.members : Int)) ∧ w'.cell? ⟨b8, 4, none⟩ = some (.slice A8 q8 c8) ∧ w'.cell? ⟨b7, 0, none⟩ = some (.int .u64 (v.number : Int)) ∧ w'.cell? ⟨b7, 1, none⟩ = some (.int .u64 (v.epoch : Int)) ∧ w'.cell? ⟨b7, 2, none⟩ = some (.int .i64 v.rep) ∧ w'.cell? ⟨b7, 3, none⟩ = some (.int .u64 (v.members : Int)))
                (go_keep)
                ((first
                  | (go_at_call 25; refine (flOwn_any (by first | exact HV14.out.views | exact HV14.out.views.below (vdrew_below _)) (Nat.le_trans HPL.out (by decide)) (by simp [Value.oneCell'])).mono ?_; rintro e w8 ⟨A9, q9, c9, rfl, hb15, ho15⟩; have HB15 : Hid (Below w14.heap.size w14 w8) := btr (vdrew_below _) hb15; have ky0 : w8.cell? ⟨b8, 0, none⟩ = some (.int .u64 (S.rc.last.number : Int)) := (HB15.out.cell (p := ⟨b8, 0, none⟩) hl14).trans y0; have ky1 : w8.cell? ⟨b8, 1, none⟩ = some (.int .u64 (S.rc.last.epoch : Int)) := (HB15.out.cell (p := ⟨b8, 1, none⟩) hl14).trans y1; have ky2 : w8.cell? ⟨b8, 2, none⟩ = some (.int .i64 S.rc.last.rep) := (HB15.out.cell (p := ⟨b8, 2, none⟩) hl14).trans y2; have ky3 : w8.cell? ⟨b8, 3, none⟩ = some (.int .u64 (S.rc.last.members : Int)) := (HB15.out.cell (p := ⟨b8, 3, none⟩) hl14).trans y3; have ky4 : w8.cell? ⟨b8, 4, none⟩ = some (.slice A8 q8 c8) := (HB15.out.cell (p := ⟨b8, 4, none⟩) hl14).trans y4; have ks0 : w8.cell? ⟨b7, 0, none⟩ = some (.int .u64 (v.number : Int)) := (HB15.out.cell (p := ⟨b7, 0, none⟩) hl7).trans s0; have ks1 : w8.cell? ⟨b7, 1, none⟩ = some (.int .u64 (v.epoch : Int)) := (HB15.out.cell (p := ⟨b7, 1, none⟩) hl7).trans s1; have ks2 : w8.cell? ⟨b7, 2, none⟩ = some (.int .i64 v.rep) := (HB15.out.cell (p := ⟨b7, 2, none⟩) hl7).trans s2; have ks3 : w8.cell? ⟨b7, 3, none⟩ = some (.int .u64 (v.members : Int)) := (HB15.out.cell (p := ⟨b7, 3, none⟩) hl7).trans s3; have HO15 := Lib.hid ho15; clear hb15 ho15)))
              go_wp2_with fail
              go_ret
              have hl := HGC.out.last
              have hne : bm ≠ g := fun e => HDR.out.nocells (by rw [e]; exact HGR.out.blk)
              have hx14 : ExP (Turns g (.map (some bm))) wc w14 := .of_ex HX14.out (.inl rfl)
              have hk14 : Kept wc w14 := HGC.out.kept hx14
              have hd14 : ToldIs w14 bm S.told D := (HDR.out.below HBW.out).move hk14 (HX14.out.block bm (HDR.out.below HBW.out).lt hne)
              have hf14 : FlAt w14 g { S with rc := vadd S.rc v, tried := some v } (.slice A8 q8 c8) (.map (some bm)) (.pointer (some ⟨b7, 0, none⟩)) :=
                ⟨HG14.out, HV14.out, by rw [vadd_last]; exact hl, Nat.le_trans HPL.out (by decide), HGC.out.cep, HGC.out.mem, HGC.out.agree, .inr ⟨bm, D, rfl, hd14⟩, b7, rfl, HB7.out, HVK.out⟩
              have hbe : ∀ cs : Array Value, Below w14.heap.size w14 (w8.alloc (.cells cs 47)) := fun cs => bal HB15.out _
              have hbe8 : ∀ cs : Array Value, Below w8.heap.size w8 (w8.alloc (.cells cs 47)) := fun cs => bal (Below.refl _ _) _
              have hits : ∀ cs : Array Value, ItemsT (w8.alloc (.cells cs 47)) (.slice A1 k c1) C := fun cs => ItemsT.kept HIR.out (((Kept.of_below HBW.out).trans hk14).trans (.of_below (hbe cs)))
              rw [HYES.out]
              refine ⟨some ⟨w8.heap.size, 0, none⟩, 2, A8, q8, c8, .pointer (some ⟨b7, 0, none⟩), rfl, ((ExP.of_below (btr HBR.out HBW.out) _).trans hx14).then (hbe _), hf14.below (hbe _), ?_⟩
              refine OutsT.two (iv := .slice none 0 0) (rv := .slice A9 q9 c9) (cv := .slice A1 k c1) (iv' := .slice none 0 0) (rv' := .slice none 0 0) (cv' := .slice none 0 0) (by rw [two_cells S v HVE.out]; exact Blk.new _ _ _ rfl) ⟨Itm.zero_ok, ?_, ?_⟩ (ViewsT.nil _) ?_ ?_ ⟨?_, Vw.none_ok, Vw.none_ok⟩ (ViewsT.nil _) (ViewsT.nil _) (ItemsT.nil _)
              · show (vadd S.rc (flView S)).last.Ok
                rw [vadd_last]
                exact hl
              · show (flView S).Ok
                rw [← HVE.out]
                exact HVK.out
              · show ViewsT _ _ (vadd S.rc (flView S)).pend
                rw [← HVE.out]
                exact (ViewsT.of_own HO15.out rfl HV14.out.views.ok).below (hbe8 _)
              · show ItemsT _ _ (flClaims S)
                rw [← HC.out]
                exact hits _
              · have hvk : (flView S).Ok := by rw [← HVE.out]; exact HVK.out
                exact ⟨Itm.zero_ok.inc, Itm.zero_ok.holds, Itm.zero_ok.last, hvk, Itm.zero_ok.number⟩
end Go.Proofs.YtalcoodidcehnaaDoor
