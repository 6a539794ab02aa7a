import Derived.Test.YtalcoodidcehnaaDoorFlE
import Derived.Test.YtalcoodidcehnaaDoorWpB
namespace Go.Proofs.YtalcoodidcehnaaDoor
set_option linter.unusedVariables false
set_option linter.unusedSimpArgs false
open Go.RowKit
theorem Ex.own {g base n sz : Nat} {e : TypeId} {w w' : World} {v : Value} {xs : List Value} (h : Ex g w w') (ho : w.ownsRow base e sz v n xs) (hne : g < base) : w'.ownsRow base e sz v n xs := by
  refine ⟨ho.1, ?_⟩
  rcases ho.2 with h0 | ⟨b, cap, cur, rfl, h1, h2, h3⟩
  · exact .inl h0
  · exact .inr ⟨b, cap, cur, rfl, h1, (h.block b (Array.getElem?_eq_some_iff.1 h2).1 (by omega)).trans h2, h3⟩
theorem own_typ {w : World} {base n sz : Nat} {e : TypeId} {v : Value} {xs : List Value} (ho : w.ownsRow base e sz v n xs) : ∀ b, v.ownBlock = some b → ∃ cur, w.heap[b]? = some (.cells cur e (0, 0)) := by
  intro b hb
  rcases ho.2 with ⟨rfl, _⟩ | ⟨g, cap, cur, rfl, h1, h2, h3⟩
  · cases hb
  · injection hb with hb
    subst hb
    exact ⟨cur, h2⟩
theorem ViewsT.grown {w w' : World} {v : Value} {L : List Vw} {row : Option Nat} {e : TypeId} (h : ViewsT w v L) (hg : w.grownBy w' row) (hr : ∀ b, row = some b → ∃ cur, w.heap[b]? = some (.cells cur e (0, 0))) (he : 35 ≠ e) : ViewsT w' v L := by
  have hk : ∀ b cur, w.heap[b]? = some (Obj.cells cur 35 (0, 0)) → w'.heap[b]? = w.heap[b]? := fun b cur hc => hg.block b (Array.getElem?_eq_some_iff.1 hc).1 (fun e' => by
    obtain ⟨cur', hc'⟩ := hr b e'.symm
    have := hc.symm.trans hc'
    injection this with this
    injection this with _ h3 _
    exact he h3)
  exact ⟨h.views.move fun b hv hlt => by
    obtain ⟨cur, hc⟩ := h.typ b hv
    exact hk b cur hc, fun b hv => by
    obtain ⟨cur, hc⟩ := h.typ b hv
    exact ⟨cur, (hk b cur hc).trans hc⟩⟩
theorem item_isize : (Tryd.prog.info? 45).map (·.size) = some 18 := by kernel_rfl
/-- a row of items of the call's own -/
def ItemRow (w : World) (base : Nat) (a : Value) (L : List Itm) : Prop := ∃ css, Css KItemT 18 w L css ∧ w.ownsRow base 45 18 a L.length css.flatten
theorem ItemRow.nil (w : World) (base : Nat) : ItemRow w base (.slice none 0 0) [] := ⟨[], ⟨rfl, fun i x hx => by simp at hx, fun cs h => by simp at h⟩, World.ownsRow_nil _ _ _ _⟩
theorem ItemRow.stay {w w' : World} {base : Nat} {a : Value} {L : List Itm} (h : ItemRow w base a L) (hb : Below w.heap.size w w') : ItemRow w' base a L := by
  obtain ⟨css, hc, ho⟩ := h
  exact ⟨css, ⟨hc.len, fun i x hx => by
    obtain ⟨cs, h1, h2⟩ := hc.each i x hx
    exact ⟨cs, h1, KItemT.stays _ _ _ _ h2 hb⟩, hc.size⟩, own_stay ho hb⟩
theorem ItemRow.snoc {w w' : World} {base : Nat} {a a' : Value} {L : List Itm} {css : List (List Value)} (hc : Css KItemT 18 w L css) (ho : w.ownsRow base 45 18 a L.length css.flatten) {x : Itm} {v : Value} (hx : x.Ok) (hv : ViewsT w v x.rc.pend)
    (ho' : w'.ownsRow base 45 18 a' (L.length + 1) (css.flatten ++ itemCells x v)) (hg : w.grownBy w' a.ownBlock) : ItemRow w' base a' (L ++ [x]) := by
  have hk : ∀ y cs, KItemT w y cs → KItemT w' y cs := fun y cs ⟨u, h1, h2, h3⟩ => ⟨u, h1, h2, h3.grown hg (own_typ ho) (by decide)⟩
  refine ⟨css ++ [itemCells x v], ⟨by simp [hc.len], fun i y hy => ?_, fun cs h => ?_⟩, by simpa using ho'⟩
  · by_cases hi : i < L.length
    · rw [List.getElem?_append_left hi] at hy
      obtain ⟨cs, h1, h2⟩ := hc.each i y hy
      exact ⟨cs, by rw [List.getElem?_append_left (by rw [hc.len]; exact hi)]; exact h1, hk _ _ h2⟩
    · have hi' : i = L.length := by
        have := (List.getElem?_eq_some_iff.1 hy).1
        simp at this
        omega
      subst hi'
      have e : x = y := by simpa using hy
      subst e
      exact ⟨itemCells x v, by rw [← hc.len]; simp, v, rfl, hx, hv.grown hg (own_typ ho) (by decide)⟩
  · rcases List.mem_append.1 h with h | h
    · exact hc.size cs h
    · rw [List.mem_singleton.1 h]; rfl
theorem ItemRow.items {w : World} {base : Nat} {a : Value} {L : List Itm} (h : ItemRow w base a L) : ItemsT w a L := by
  obtain ⟨css, hc, ho⟩ := h
  exact SlT.of_flat ho rfl hc.each hc.size
def flClaim (S : Fl) (p : Nat) : Itm := (S.told p).getD Itm.zero
def flClaims (S : Fl) : List Itm := (slist S.mem).map (flClaim S)
theorem NatsAt {w : World} {A : Option Addr} {n c : Nat} {xs : List Nat} (h : Nats w (.slice A n c) xs) (k : Nat) (hk : k < xs.length) : ∃ b off, A = some (⟨b, off, none⟩ : Addr) ∧ b < w.heap.size ∧ w.cell? ⟨b, off + k, none⟩ = some (.int .i64 (xs[k] : Int)) := by
  obtain ⟨A', c', hv, hc, h⟩ := h
  injection hv with hA hn hcc
  subst hA
  obtain ⟨b, off, cs, hA, rfl, hl, hcell⟩ := h k xs[k] (by simp [hk])
  have := hcell 0 _ rfl
  rw [Nat.mul_one, Nat.add_zero] at this
  exact ⟨b, off, hA, World.block_lt_of_cell? w _ this, this⟩
set_option maxRecDepth 20000 in
set_option maxHeartbeats 8000000 in
theorem flClaims_any {w : World} {g : Nat} {S : Fl} {pv tv : Value} {bm : Nat} {D : DataW Value} (hg : FlAt w g S pv (.map (some bm)) tv) (hD : ToldIs w bm S.told D) (hT : Tab w) :
    Calls Tryd.prog 31 #[.pointer (some ⟨g, 0, none⟩)] w fun e w' => ∃ A c, e = .returned (.slice A (flClaims S).length c) ∧ Below w.heap.size w w' ∧ ItemsT w' (.slice A (flClaims S).length c) (flClaims S) := by
  obtain ⟨i0, hi, hz0, hz1, hz2⟩ := info_parts item_info
  have c7 : w.cell? ⟨g, 7, none⟩ = some (.int .u64 (S.mem : Int)) := hg.blk.cell 7
  have hgl := hg.blk.lt
  have HG := Lib.hid hg
  have HD := Lib.hid hD
  have HM := Lib.hid hg.mem
  have HT := Lib.hid hT
  clear hg hD hT
  go_enter Tryd.func31, Tryd.ntmps31
  go_wp2_with fail
  refine (list_any HM.out HT.out).mono ?_
  rintro e w1 ⟨v1, rfl, hb1, hn1⟩
  obtain ⟨A1, c1, rfl, _⟩ := hn1.slice
  obtain ⟨l, hl⟩ : ∃ l, l = slist S.mem := ⟨_, rfl⟩
  have hlm : ∀ p, p ∈ l → p < 64 := fun p hp => (mem_slist.1 (hl ▸ hp)).1
  have hl64 : l.length ≤ 64 := by rw [hl]; exact slist_le _
  rw [← hl] at hn1
  obtain ⟨n, hn⟩ : ∃ n, n = l.length := ⟨_, rfl⟩
  rw [← hn] at hn1 hl64
  obtain ⟨CL, hcl⟩ : ∃ CL, CL = l.map (flClaim S) := ⟨_, rfl⟩
  have HCL := Lib.hid hcl
  have HL := Lib.hid hl
  have HLM := Lib.hid hlm
  have HN := Lib.hid hn
  have HN1 := Lib.hid hn1
  have HB1 := Lib.hid hb1
  have HG1 := Lib.hid (HG.out.below hb1)
  have HD1 := Lib.hid (HD.out.below hb1)
  rw [show slist S.mem = l from hl.symm, ← hn]
  clear hl hlm hn hn1 hb1 c7 hgl HG HD hcl
  go_wp2_with fail
  go_loopw [3, 13] (fun a i wr => ∃ k : Nat, k ≤ n ∧ i = .int .i64 k ∧ Hid (ItemRow wr w1.heap.size a (CL.take k)) ∧ Hid (Below w1.heap.size w1 wr)) (fun _ i _ => n - (intOf i).toNat)
  case atStart => exact ⟨0, by omega, rfl, by rw [List.take_zero]; exact ItemRow.nil _ _, Below.refl _ _⟩
  case round =>
    obtain ⟨k, hk, rfl, HR, HB⟩ := hrel
    by_cases hlt : k < n
    · have hlt2 : k < l.length := by rw [← HN.out]; exact hlt
      obtain ⟨b, off, rfl, hbl, hcell⟩ := NatsAt HN1.out k hlt2
      have hp64 := HLM.out l[k] (List.getElem_mem hlt2)
      have htk : CL.take (k + 1) = CL.take k ++ [flClaim S l[k]] := by
        rw [HCL.out, List.take_succ_eq_append_getElem (by simpa using hlt2)]
        simp
      have hcr : wr.cell? ⟨b, off + k, none⟩ = some (.int .i64 (l[k] : Int)) := (HB.out.cell (p := ⟨b, off + k, none⟩) hbl).trans hcell
      have hblr : b < wr.heap.size := Nat.lt_of_lt_of_le hbl HB.out.size
      obtain ⟨p, hp⟩ : ∃ p, p = l[k] := ⟨_, rfl⟩
      rw [← hp] at hcr hp64 htk
      have hg1 := HG1.out.below HB.out
      have c5 : wr.cell? ⟨g, 10, none⟩ = some (.map (some bm)) := hg1.blk.cell 10
      have hgl := hg1.blk.lt
      obtain ⟨Ax, cx, hlook2, hlook, hvx, hokx, hlx⟩ := (HD1.out.below HB.out).look p hp64
      obtain ⟨x, hx⟩ : ∃ x, x = (S.told p).getD Itm.zero := ⟨_, rfl⟩
      have hxe : flClaim S p = x := by rw [hx]; rfl
      rw [hxe] at htk
      rw [← hx] at hlook hvx hokx hlx
      obtain ⟨qx, hqx⟩ : ∃ qx, qx = x.rc.pend.length := ⟨_, rfl⟩
      rw [← hqx] at hlook hvx
      unfold itemCells at hlook
      obtain ⟨w5, hw5⟩ : ∃ w5, w5 = wr.alloc (.cells #[.int .i64 x.kind, .string x.data, .int .u32 (x.inc : Int), .int .u64 (x.holds : Int), .bool x.has, .bool x.direct, .int .u64 (x.rc.last.number : Int), .int .u64 (x.rc.last.epoch : Int), .int .i64 x.rc.last.rep, .int .u64 (x.rc.last.members : Int), .slice Ax qx cx, .int .u64 (x.view.number : Int), .int .u64 (x.view.epoch : Int), .int .i64 x.view.rep, .int .u64 (x.view.members : Int), .int .u64 (x.number : Int), .int .i64 x.index, .int .i64 x.total] 45) := ⟨_, rfl⟩
      obtain ⟨g5, hg5⟩ : ∃ g5, g5 = wr.heap.size := ⟨_, rfl⟩
      have hb5 : Below wr.heap.size wr w5 := by rw [hw5]; exact bal (Below.refl _ _) _
      have hi5 : Blk w5 g5 45 #[.int .i64 x.kind, .string x.data, .int .u32 (x.inc : Int), .int .u64 (x.holds : Int), .bool x.has, .bool x.direct, .int .u64 (x.rc.last.number : Int), .int .u64 (x.rc.last.epoch : Int), .int .i64 x.rc.last.rep, .int .u64 (x.rc.last.members : Int), .slice Ax qx cx, .int .u64 (x.view.number : Int), .int .u64 (x.view.epoch : Int), .int .i64 x.view.rep, .int .u64 (x.view.members : Int), .int .u64 (x.number : Int), .int .i64 x.index, .int .i64 x.total] := by rw [hw5]; exact Blk.new _ _ _ hg5
      have hs5 : w5.heap.size = g5 + 1 := by rw [hw5, hg5]; simp
      have HW5 := Lib.hid hw5
      have HG5 := Lib.hid hg5
      have HB5 := Lib.hid hb5
      have HI5 := Lib.hid hi5
      have HS5 := Lib.hid hs5
      have HV5 := Lib.hid (hvx.below hb5)
      have HOK := Lib.hid hokx
      have HLX := Lib.hid (show x.rc.pend.length ≤ 2000000 by omega)
      have HTK := Lib.hid htk
      have z6 : w5.cell? ⟨g5, 6, none⟩ = some (.int .u64 (x.rc.last.number : Int)) := hi5.cell 6
      have z7 : w5.cell? ⟨g5, 7, none⟩ = some (.int .u64 (x.rc.last.epoch : Int)) := hi5.cell 7
      have z8 : w5.cell? ⟨g5, 8, none⟩ = some (.int .i64 x.rc.last.rep) := hi5.cell 8
      have z9 : w5.cell? ⟨g5, 9, none⟩ = some (.int .u64 (x.rc.last.members : Int)) := hi5.cell 9
      have z10 : w5.cell? ⟨g5, 10, none⟩ = some (.slice Ax qx cx) := hi5.cell 10
      have hil := hi5.lt
      clear hp hg1 hlook2 hvx hokx hx hxe hw5 hg5 hb5 hi5 hs5 htk hlx hcell hlt2 hqx
      go_upto_region 6 with (refine wpList_alloc_store rfl rfl 45 _ _ rfl rfl rfl item_zero _ rfl rfl item_isize rfl (by simp [Value.oneCell']) ?_)
      rw [← HW5.out, ← HG5.out]
      go_wp2_with fail
      refine (flOwn_any HV5.out.views HLX.out (by simp [Value.oneCell'])).mono ?_
      rintro e w6 ⟨A6, q6, c6, rfl, hb6, ho6⟩
      have hi6 := HI5.out.stay hb6
      have z6 : w6.cell? ⟨g5, 6, none⟩ = some (.int .u64 (x.rc.last.number : Int)) := hi6.cell 6
      have f6 := hi6.free 6
      have z7 : w6.cell? ⟨g5, 7, none⟩ = some (.int .u64 (x.rc.last.epoch : Int)) := hi6.cell 7
      have f7 := hi6.free 7
      have z8 : w6.cell? ⟨g5, 8, none⟩ = some (.int .i64 x.rc.last.rep) := hi6.cell 8
      have f8 := hi6.free 8
      have z9 : w6.cell? ⟨g5, 9, none⟩ = some (.int .u64 (x.rc.last.members : Int)) := hi6.cell 9
      have f9 := hi6.free 9
      have z10 : w6.cell? ⟨g5, 10, none⟩ = some (.slice Ax qx cx) := hi6.cell 10
      have f10 := hi6.free 10
      have HI6 := Lib.hid hi6
      have HB6 := Lib.hid hb6
      have HO6 := Lib.hid ho6
      clear hi6 hb6 ho6
      go_upto_region 7 with fail
      obtain ⟨w7, hw7⟩ : ∃ w7, w7 = (((((w6.setCell ⟨g5, 6, none⟩ (.int .u64 (x.rc.last.number : Int))).setCell ⟨g5, 7, none⟩ (.int .u64 (x.rc.last.epoch : Int))).setCell ⟨g5, 8, none⟩ (.int .i64 x.rc.last.rep)).setCell ⟨g5, 9, none⟩ (.int .u64 (x.rc.last.members : Int))).setCell ⟨g5, 10, none⟩ (.slice A6 q6 c6)) := ⟨_, rfl⟩
      rw [← hw7]
      have hx7 : Ex g5 w6 w7 := by
        rw [hw7]
        repeat refine Ex.trans ?_ (Ex.cell _ _ _ _)
        exact Ex.refl _ _
      have k6 := HI6.out.set 6 (.int .u64 (x.rc.last.number : Int))
      have k7 := k6.set 7 (.int .u64 (x.rc.last.epoch : Int))
      have k8 := k7.set 8 (.int .i64 x.rc.last.rep)
      have k9 := k8.set 9 (.int .u64 (x.rc.last.members : Int))
      have k10 := k9.set 10 (.slice A6 q6 c6)
      have e6 : ((((((#[.int .i64 x.kind, .string x.data, .int .u32 (x.inc : Int), .int .u64 (x.holds : Int), .bool x.has, .bool x.direct, .int .u64 (x.rc.last.number : Int), .int .u64 (x.rc.last.epoch : Int), .int .i64 x.rc.last.rep, .int .u64 (x.rc.last.members : Int), .slice Ax qx cx, .int .u64 (x.view.number : Int), .int .u64 (x.view.epoch : Int), .int .i64 x.view.rep, .int .u64 (x.view.members : Int), .int .u64 (x.number : Int), .int .i64 x.index, .int .i64 x.total].setIfInBounds 6 (.int .u64 (x.rc.last.number : Int))).setIfInBounds 7 (.int .u64 (x.rc.last.epoch : Int))).setIfInBounds 8 (.int .i64 x.rc.last.rep)).setIfInBounds 9 (.int .u64 (x.rc.last.members : Int))).setIfInBounds 10 (.slice A6 q6 c6)) : Array Value) = #[.int .i64 x.kind, .string x.data, .int .u32 (x.inc : Int), .int .u64 (x.holds : Int), .bool x.has, .bool x.direct, .int .u64 (x.rc.last.number : Int), .int .u64 (x.rc.last.epoch : Int), .int .i64 x.rc.last.rep, .int .u64 (x.rc.last.members : Int), .slice A6 q6 c6, .int .u64 (x.view.number : Int), .int .u64 (x.view.epoch : Int), .int .i64 x.view.rep, .int .u64 (x.view.members : Int), .int .u64 (x.number : Int), .int .i64 x.index, .int .i64 x.total] := by simp
      have hi7 : Blk w7 g5 45 #[.int .i64 x.kind, .string x.data, .int .u32 (x.inc : Int), .int .u64 (x.holds : Int), .bool x.has, .bool x.direct, .int .u64 (x.rc.last.number : Int), .int .u64 (x.rc.last.epoch : Int), .int .i64 x.rc.last.rep, .int .u64 (x.rc.last.members : Int), .slice A6 q6 c6, .int .u64 (x.view.number : Int), .int .u64 (x.view.epoch : Int), .int .i64 x.view.rep, .int .u64 (x.view.members : Int), .int .u64 (x.number : Int), .int .i64 x.index, .int .i64 x.total] := by rw [hw7, ← e6]; exact k10
      clear z6 z7 z8 z9 z10 f6 f7 f8 f9 f10 k6 k7 k8 k9 k10 hw7 e6
      have HI7 := Lib.hid hi7
      have hil7 := hi7.lt
      have hv7 : ViewsT w7 (.slice A6 q6 c6) x.rc.pend := ViewsT.of_own (hx7.own HO6.out (by have := HS5.out; omega)) rfl HV5.out.views.ok
      have hb7 : Below wr.heap.size wr w7 := hx7.below (HB5.out.trans (HB6.out.mono HB5.out.size)) (Nat.le_of_eq HG5.out.symm) (Nat.le_trans HB5.out.size HB6.out.size)
      obtain ⟨css, hcs, ho7⟩ := HR.out.stay hb7
      obtain ⟨A7, l7, c7, rfl⟩ := own_sl ho7
      have hbn : Below w7.heap.size w7 (w7.alloc (.cells #[.int .i64 x.kind, .string x.data, .int .u32 (x.inc : Int), .int .u64 (x.holds : Int), .bool x.has, .bool x.direct, .int .u64 (x.rc.last.number : Int), .int .u64 (x.rc.last.epoch : Int), .int .i64 x.rc.last.rep, .int .u64 (x.rc.last.members : Int), .slice A6 q6 c6, .int .u64 (x.view.number : Int), .int .u64 (x.view.epoch : Int), .int .i64 x.view.rep, .int .u64 (x.view.members : Int), .int .u64 (x.number : Int), .int .i64 x.index, .int .i64 x.total] 45)) := bal (Below.refl _ _) _
      obtain ⟨news, hnews⟩ : ∃ news : List Value, news = itemCells x (.slice A6 q6 c6) := ⟨_, rfl⟩
      have hcl := cells_new w7 #[.int .i64 x.kind, .string x.data, .int .u32 (x.inc : Int), .int .u64 (x.holds : Int), .bool x.has, .bool x.direct, .int .u64 (x.rc.last.number : Int), .int .u64 (x.rc.last.epoch : Int), .int .i64 x.rc.last.rep, .int .u64 (x.rc.last.members : Int), .slice A6 q6 c6, .int .u64 (x.view.number : Int), .int .u64 (x.view.epoch : Int), .int .i64 x.view.rep, .int .u64 (x.view.members : Int), .int .u64 (x.number : Int), .int .i64 x.index, .int .i64 x.total] 45 news (g := w7.heap.size) rfl hnews.symm
      have hcss : Css KItemT 18 (w7.alloc (.cells #[.int .i64 x.kind, .string x.data, .int .u32 (x.inc : Int), .int .u64 (x.holds : Int), .bool x.has, .bool x.direct, .int .u64 (x.rc.last.number : Int), .int .u64 (x.rc.last.epoch : Int), .int .i64 x.rc.last.rep, .int .u64 (x.rc.last.members : Int), .slice A6 q6 c6, .int .u64 (x.view.number : Int), .int .u64 (x.view.epoch : Int), .int .i64 x.view.rep, .int .u64 (x.view.members : Int), .int .u64 (x.number : Int), .int .i64 x.index, .int .i64 x.total] 45)) (CL.take k) css := ⟨hcs.len, fun i y hy => by
        obtain ⟨cs, h1, h2⟩ := hcs.each i y hy
        exact ⟨cs, h1, KItemT.stays _ _ _ _ h2 hbn⟩, hcs.size⟩
      have HCS := Lib.hid hcss
      have HON := Lib.hid (own_stay ho7 hbn)
      have HVN := Lib.hid (hv7.below hbn)
      have HBN := Lib.hid ((HB.out.trans (hb7.mono HB.out.size)).trans (hbn.mono (Nat.le_trans HB.out.size hb7.size)))
      have HCLN := Lib.hid hcl
      have HNW := Lib.hid hnews
      have HNL := Lib.hid (show news.length = 1 * 18 by rw [hnews]; rfl)
      have HN1' := Lib.hid (show ∀ u ∈ news, u.oneCell' = true by rw [hnews]; simp [itemCells, Value.oneCell'])
      have hkl : (CL.take k).length ≤ 64 := by rw [List.length_take]; omega
      have HKL := Lib.hid hkl
      clear hi7 hx7 hv7 hb7 hcs ho7 hbn hnews hcl hcss hkl HR
      go_wp2_with (first | (refine wpList_load_row_g rfl 45 _ rfl g5 rfl _ _ _ _ HI7.out Tryd.underlying45 rfl item_isize ?_) | (at_builtin; refine wpList_append_own_at _ rfl _ _ 32 rfl w1.heap.size 45 i0 (.agg (itemCells Itm.zero (.slice none 0 0)).toArray) 18 160 Tryd.underlying32 hi hz0 hz1 hz2 rfl (by decide) _ _ _ rfl HON.out ⟨w7.heap.size, 0, none⟩ 1 1 news rfl HNL.out HCLN.out HN1'.out ?c3 ?c4 ?c5 ?_))
      case c3 => have := HKL.out; unfold maxLen; omega
      case c4 => have := HKL.out; omega
      case c5 => exact HBN.out.size
      intro v' w8 hown' hgrow _ hob
      have hbg := HBN.out.grown hgrow HBN.out.size (fun b hb => (HON.out.lt b hb).1)
      rw [HNW.out, show min k CL.length = (CL.take k).length from List.length_take.symm] at hown'
      have hrow := ItemRow.snoc HCS.out HON.out HOK.out HVN.out hown' hgrow
      rw [← HTK.out] at hrow
      have HROW := Lib.hid hrow
      have HBG := Lib.hid hbg
      clear hown' hgrow hob hbg hrow
      go_wp2_with fail
      go_roundw
      case rel => exact ⟨k + 1, by omega, by go_num, HROW, HBG⟩
      case measure => simp [intOf] <;> omega
    · obtain rfl : k = n := by omega
      have hf : CL.take k = flClaims S := by
        rw [List.take_of_length_le (by rw [HCL.out, List.length_map, HN.out]; exact Nat.le_refl _), HCL.out, HL.out]
        rfl
      rw [hf] at HR
      obtain ⟨css, hcs, ho⟩ := HR.out
      obtain ⟨A7, l7, c7, rfl⟩ := own_sl ho
      have hits := HR.out.items
      obtain ⟨A8, c8, he8, _⟩ := hits.sl.slice
      injection he8 with e1 e2 e3
      subst e1; subst e3
      have HITS := Lib.hid hits
      have HBW := Lib.hid (btr HB1.out HB.out)
      subst e2
      clear hcs ho hits hf hlt hk HR
      go_wp2_with fail
      go_ret
      exact ⟨A7, c7, rfl, HBW.out, HITS.out⟩
end Go.Proofs.YtalcoodidcehnaaDoor
