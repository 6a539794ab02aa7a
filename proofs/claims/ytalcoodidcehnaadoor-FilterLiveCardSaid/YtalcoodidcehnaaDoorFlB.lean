import Derived.Test.YtalcoodidcehnaaDoorFlA
import Derived.Test.YtalcoodidcehnaaDoorVtC
namespace Go.Proofs.YtalcoodidcehnaaDoor
set_option linter.unusedVariables false
set_option linter.unusedSimpArgs false
open Go.RowKit
/-- the filter's state -/
structure Fl where
  rc : Rcd
  cep : Nat
  crep : Int
  mem : Nat
  live : Bool
  formed : Bool
  told : Nat → Option Itm
  tried : Option Vw
  agree : Nat
def flNew (r : Rcd) : Fl := ⟨r, 0, 0, 0, false, false, fun _ => none, none, 0⟩
def flCells (S : Fl) (pv mv tv : Value) : Array Value :=
  #[.int .u64 (S.rc.last.number : Int), .int .u64 (S.rc.last.epoch : Int), .int .i64 S.rc.last.rep, .int .u64 (S.rc.last.members : Int), pv, .int .u64 (S.cep : Int), .int .i64 S.crep, .int .u64 (S.mem : Int), .bool S.live, .bool S.formed, mv, tv, .int .u64 (S.agree : Int)]
/-- the block in which a slice lies -/
def vblk : Value → Option Nat
  | .slice (some a) _ _ => some a.block
  | _ => none
/-- views that lie in a block of views -/
structure ViewsT (w : World) (v : Value) (L : List Vw) : Prop where
  views : Views w v L
  typ : ∀ b, vblk v = some b → ∃ cur, w.heap[b]? = some (.cells cur 35 (0, 0))
theorem ViewsT.below {w w' : World} {v : Value} {L : List Vw} (h : ViewsT w v L) (hb : Below w.heap.size w w') : ViewsT w' v L :=
  ⟨h.views.below hb, fun b he => by
    obtain ⟨cur, hc⟩ := h.typ b he
    exact ⟨cur, (hb.block b (Array.getElem?_eq_some_iff.1 hc).1).trans hc⟩⟩
theorem ViewsT.of_own {w : World} {base n : Nat} {v : Value} {L : List Vw} (h : w.ownsRow base 35 4 v n (L.map viewCells).flatten) (hn : n = L.length) (hok : ∀ x, x ∈ L → x.Ok) : ViewsT w v L := by
  refine ⟨Views.of_own h hn hok, fun b he => ?_⟩
  rcases h.2 with ⟨rfl, _⟩ | ⟨g, cap, cur, rfl, _, hg, _⟩
  · cases he
  · injection he with he
    subst he
    exact ⟨cur, hg⟩
set_option maxRecDepth 20000 in
set_option maxHeartbeats 4000000 in
theorem flNew_any {w : World} {r : Rcd} {A : Option Addr} {q c : Nat} (hv : Views w (.slice A q c) r.pend) (hl : r.pend.length ≤ 2000000) :
    Calls Tryd.prog 9 #[.agg #[.int .u64 (r.last.number : Int), .int .u64 (r.last.epoch : Int), .int .i64 r.last.rep, .int .u64 (r.last.members : Int), .slice A q c]] w fun e w' =>
      ∃ g pv, e = .returned (.pointer (some ⟨g, 0, none⟩)) ∧ w.heap.size ≤ g ∧ Below w.heap.size w w' ∧ Blk w' g 71 (flCells (flNew r) pv (.map none) (.pointer none)) ∧ ViewsT w' pv r.pend := by
  obtain ⟨w1, hw1⟩ : ∃ w1, w1 = w.alloc (.cells #[.int .u64 (r.last.number : Int), .int .u64 (r.last.epoch : Int), .int .i64 r.last.rep, .int .u64 (r.last.members : Int), .slice A q c] 38) := ⟨_, rfl⟩
  have hb1 : Below w.heap.size w w1 := by rw [hw1]; exact bal (Below.refl _ _) _
  have HB1 := Lib.hid hb1
  have HV := Lib.hid (hv.below hb1)
  have HOK := Lib.hid hv.ok
  have HW1 := Lib.hid hw1
  clear hv hb1 hw1
  go_enter Tryd.func9, Tryd.ntmps9
  go_wp2_with fail
  rw [← HW1.out]
  refine (flOwn_any HV.out hl (by simp [Value.oneCell'])).mono ?_
  rintro e w2 ⟨A2, q2, c2, rfl, hb2, ho2⟩
  have HB2 := Lib.hid (btr HB1.out hb2)
  have HO2 := Lib.hid (ViewsT.of_own ho2 rfl HOK.out)
  clear hb2 ho2
  go_wp2_with fail
  go_ret
  exact ⟨_, _, rfl, HB2.out.size, bal HB2.out _, Blk.new _ _ _ rfl, HO2.out.below (bal (Below.refl _ _) _)⟩
set_option maxRecDepth 20000 in
set_option maxHeartbeats 1000000 in
theorem flFormed_any {w : World} {g : Nat} {S : Fl} {pv mv tv : Value} (hg : Blk w g 71 (flCells S pv mv tv)) :
    Calls Tryd.prog 17 #[.pointer (some ⟨g, 0, none⟩)] w fun e w' => e = .returned (.bool S.formed) ∧ w = w' := by
  have c9 : w.cell? ⟨g, 9, none⟩ = some (.bool S.formed) := hg.cell 9
  have hl := hg.lt
  clear hg
  go_enter Tryd.func17, Tryd.ntmps17
  go_wp2_with fail
  go_ret
  exact ⟨rfl, rfl⟩
set_option maxRecDepth 20000 in
set_option maxHeartbeats 1000000 in
theorem flClose_any {w : World} {g : Nat} {S : Fl} {pv mv tv : Value} (hg : Blk w g 71 (flCells S pv mv tv)) :
    Calls Tryd.prog 11 #[.pointer (some ⟨g, 0, none⟩)] w fun e w' => e = .returned (.tuple #[]) ∧ w' = w.setCell ⟨g, 8, none⟩ (.bool false) ∧ Blk w' g 71 (flCells { S with live := false } pv mv tv) := by
  have c8 : w.cell? ⟨g, 8, none⟩ = some (.bool S.live) := hg.cell 8
  have f8 := hg.free 8
  have hl := hg.lt
  have HS := Lib.hid (hg.set 8 (.bool false))
  clear hg
  go_enter Tryd.func11, Tryd.ntmps11
  go_wp2_with fail
  exact bodyPost_end (results_none rfl _ _ _) rfl ⟨rfl, rfl, HS.out⟩
set_option maxRecDepth 20000 in
set_option maxHeartbeats 4000000 in
theorem flRecord_any {w : World} {g : Nat} {S : Fl} {A : Option Addr} {q c : Nat} {mv tv : Value} (hg : Blk w g 71 (flCells S (.slice A q c) mv tv)) (hv : Views w (.slice A q c) S.rc.pend) (hl : S.rc.pend.length ≤ 2000000) :
    Calls Tryd.prog 16 #[.pointer (some ⟨g, 0, none⟩)] w fun e w' =>
      ∃ A' q' c', e = .returned (.agg #[.int .u64 (S.rc.last.number : Int), .int .u64 (S.rc.last.epoch : Int), .int .i64 S.rc.last.rep, .int .u64 (S.rc.last.members : Int), .slice A' q' c']) ∧ Below w.heap.size w w' ∧ ViewsT w' (.slice A' q' c') S.rc.pend := by
  obtain ⟨w1, hw1⟩ : ∃ w1, w1 = w.alloc (.cells #[.int .u64 0, .int .u64 0, .int .i64 0, .int .u64 0, .slice none 0 0] 38) := ⟨_, rfl⟩
  have hb1 : Below w.heap.size w w1 := by rw [hw1]; exact bal (Below.refl _ _) _
  have hr1 : Blk w1 w.heap.size 38 #[.int .u64 0, .int .u64 0, .int .i64 0, .int .u64 0, .slice none 0 0] := by rw [hw1]; exact Blk.new _ _ _ rfl
  have hg1 := hg.stay hb1
  have c0 : w1.cell? ⟨g, 0, none⟩ = some (.int .u64 (S.rc.last.number : Int)) := hg1.cell 0
  have c1 : w1.cell? ⟨g, 1, none⟩ = some (.int .u64 (S.rc.last.epoch : Int)) := hg1.cell 1
  have c2 : w1.cell? ⟨g, 2, none⟩ = some (.int .i64 S.rc.last.rep) := hg1.cell 2
  have c3 : w1.cell? ⟨g, 3, none⟩ = some (.int .u64 (S.rc.last.members : Int)) := hg1.cell 3
  have c4 : w1.cell? ⟨g, 4, none⟩ = some (.slice A q c) := hg1.cell 4
  have hgl := hg1.lt
  have hs1 : w1.heap.size = w.heap.size + 1 := by rw [hw1]; simp
  have HS1 := Lib.hid hs1
  have HB1 := Lib.hid hb1
  have HR1 := Lib.hid hr1
  have HV := Lib.hid (hv.below hb1)
  have HOK := Lib.hid hv.ok
  have HW1 := Lib.hid hw1
  clear hv hb1 hw1 hr1 hg1 hg hs1
  go_enter Tryd.func16, Tryd.ntmps16
  go_upto_region 1 with fail
  rw [← HW1.out]
  obtain ⟨g0, hg0⟩ : ∃ g0, g0 = w.heap.size := ⟨_, rfl⟩
  have hrx := HR1.out
  have hsx := HS1.out
  rw [← hg0] at hrx hsx ⊢
  have HRX := Lib.hid hrx
  have HSX := Lib.hid hsx
  have HG0 := Lib.hid hg0
  clear hrx hsx hg0
  go_wp2_with fail
  refine (flOwn_any HV.out hl (by simp [Value.oneCell'])).mono ?_
  rintro e w2 ⟨A2, q2, k2, rfl, hb2, ho2⟩
  have HB2 := Lib.hid (HB1.out.trans (hb2.mono HB1.out.size))
  have HR2 := Lib.hid (HRX.out.stay hb2)
  have HO2 := Lib.hid ho2
  clear hb2 ho2
  go_wp2_with (refine wpList_store_rec rfl _ _ rfl g0 rfl _ _ _ _ _ A2 q2 k2 rfl HR2.out rfl (by simp [Value.oneCell']) ?_)
  refine bodyPost_ret (v := .agg #[.int .u64 (S.rc.last.number : Int), .int .u64 (S.rc.last.epoch : Int), .int .i64 S.rc.last.rep, .int .u64 (S.rc.last.members : Int), .slice A2 q2 k2]) (by exact results_cell_row rfl _ _ g0 38 _ (0, 0) _ rfl (HR2.out.row _) Tryd.underlying38 rfl (by exact rec_isize)) rfl ⟨_, _, _, rfl, ?_, ?_⟩
  · exact bsetRow HB2.out (by rw [HG0.out]; exact Nat.le_refl _) _
  · exact ViewsT.of_own (own_row HO2.out (by rw [HSX.out]; omega) _) rfl HOK.out
end Go.Proofs.YtalcoodidcehnaaDoor
