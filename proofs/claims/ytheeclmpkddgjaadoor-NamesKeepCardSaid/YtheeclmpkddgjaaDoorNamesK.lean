import Derived.Test.YtheeclmpkddgjaaDoorNamesJ
import Derived.Test.YtheeclmpkddgjaaDoorNamesF
import Derived.Test.YtheeclmpkddgjaaDoorNamesH
namespace Go.Proofs.YtheeclmpkddgjaaDoor
set_option linter.unusedVariables false
set_option linter.unusedSimpArgs false
open Go.RowKit
def nilv : Vw := ⟨0, 0, 0, 0⟩
def bareI (inc holds : Nat) (has direct : Bool) : Itm := ⟨0, ⟨#[]⟩, inc, holds, has, direct, ⟨nilv, []⟩, nilv, 0, 0, 0⟩
def aw21 : List Itm := [bareI 5 3 true true, bareI 2 0 false false]
theorem nilv_ok : nilv.Ok := ⟨⟨by decide⟩, ⟨by decide⟩, ⟨by decide⟩⟩
theorem KItem.bare {w : World} {inc holds : Nat} {has direct : Bool} (hi : inc < 4294967296) (hh : S64 holds) : KItem w (bareI inc holds has direct) (itemCells (bareI inc holds has direct) (.slice none 0 0)) :=
  ⟨_, rfl, ⟨hi, hh, nilv_ok, nilv_ok, ⟨show (0 : Nat) < _ by decide⟩⟩, Sl.nil _ _ _⟩
theorem a1 : snames 3 3 aw21 true = [⟨0, 5⟩, ⟨1, 3⟩] := by decide
theorem a2 : ofName [⟨0, 5⟩, ⟨1, 3⟩] 1 = (⟨1, 3⟩, true) := by decide
theorem a3 : ofName [⟨0, 5⟩, ⟨1, 3⟩] 2 = (⟨0, 0⟩, false) := by decide
theorem a4 : ((sstay 3 3 aw21 : Nat) : Int) = 1 := by decide
theorem a5 : ((sbut 3 (sstay 3 3 aw21) : Nat) : Int) = 2 := by decide
theorem a6 : ((sstay 4 3 aw21 : Nat) : Int) = 0 := by decide
theorem Items.inc {w : World} {v : Value} {claims : List Itm} (h : Items w v claims) (k : Nat) : incAt claims k < 4294967296 := by
  unfold incAt
  cases hk : claims[k]? with
  | none => show (0 : Nat) < _; decide
  | some x =>
    obtain ⟨A, c, _, _, h⟩ := h
    obtain ⟨_, _, _, _, ⟨_, _, ho, _⟩, _⟩ := h k x hk
    exact ho.inc
theorem ofName_num {v : Value} {l : List Nm} {w : World} (hv : Names w v l) (hm : l.length ≤ 9223372036854775807) {p : Int} {x : Nm} {b : Bool} (h : ofName l p = (x, b)) {z i : Int} (hz : x.proc = z) (hi : (x.inc : Int) = i) :
    Calls Tryd.prog 47 #[v, .int .i64 p] w fun e w' => e = .returned (.tuple #[.agg #[.int .i64 z, .int .u32 i], .bool b]) ∧ Below w.heap.size w w' := by
  subst hz; subst hi
  have := ofName_any hv hm p
  rw [h] at this
  exact this
theorem stay_num {n s : Nat} (hs : S64 s) {v : Value} {claims : List Itm} {w : World} (hT : Tab w) (hv : Items w v claims) (hm : claims.length ≤ 9223372036854775807) {a b m : Int} (ha : a = n) (hb : b = s) (h : ((sstay n s claims : Nat) : Int) = m) :
    Calls Tryd.prog 50 #[.int .u64 a, .int .u64 b, v] w fun e w' => e = .returned (.int .u64 m) ∧ Below w.heap.size w w' := by
  subst h; subst ha; subst hb; exact stay_any hs hT hv hm
theorem joins_num {n s : Nat} (hs : S64 s) {v : Value} {claims : List Itm} {w : World} (hT : Tab w) (hv : Items w v claims) (hm : claims.length ≤ 9223372036854775807) {a b m : Int} (ha : a = n) (hb : b = s) (h : ((sbut s (sstay n s claims) : Nat) : Int) = m) :
    Calls Tryd.prog 51 #[.int .u64 a, .int .u64 b, v] w fun e w' => e = .returned (.int .u64 m) ∧ Below w.heap.size w w' := by
  subst h; subst ha; subst hb; exact joins_any hs hT hv hm
/-- two literal items -/
theorem Items.lit2 {w : World} {cs : Array Value} {T : TypeId} {g : Nat} {x y : Itm} {cx cy : List Value} (hg : g = w.heap.size) (hc : cs.toList = cx ++ cy) (hx : KItem w x cx) (hy : KItem w y cy) :
    Items (w.alloc (.cells cs T)) (.slice (some ⟨g, 0, none⟩) 2 2) [x, y] := by
  have hb : Below w.heap.size w (w.alloc (.cells cs T)) := bal (Below.refl _ _) _
  have hn := cells_new w cs T _ hg hc
  have lx := (item_one hx).1
  have ly := (item_one hy).1
  have ha : ∀ j, (⟨g, 0, none⟩ : Addr).add j = ⟨g, j, none⟩ := fun j => by unfold Addr.add; split <;> simp_all
  refine ⟨_, _, rfl, Nat.le_refl 2, fun i z hz => ?_⟩
  match i, hz with
  | 0, hz =>
    obtain rfl : x = z := by simpa using hz
    refine ⟨g, 0, cx, rfl, KItem.stays _ _ _ _ hx hb, lx, fun j u hu => ?_⟩
    have hj : j < cx.length := (List.getElem?_eq_some_iff.1 hu).1
    have := hn j u (by rw [List.getElem?_append_left hj]; exact hu)
    rw [ha] at this
    simpa using this
  | 1, hz =>
    obtain rfl : y = z := by simpa using hz
    refine ⟨g, 0, cy, rfl, KItem.stays _ _ _ _ hy hb, ly, fun j u hu => ?_⟩
    have := hn (18 + j) u (by rw [List.getElem?_append_right (by omega), lx]; rw [show 18 + j - 18 = j by omega]; exact hu)
    rw [ha] at this
    simpa using this
set_option maxRecDepth 20000 in
set_option maxHeartbeats 1000000 in
theorem awake21 {w : World} (hT : Tab w) :
    Calls Tryd.prog 45 #[] w fun e w' => e = .returned (.bool true) ∧ Below w.heap.size w w' := by
  have HT := Lib.hid hT
  clear hT
  go_enter Tryd.func45, Tryd.ntmps45
  go_wp2_with fail
  obtain ⟨w0, hw0, hv0, hb0⟩ : ∃ w0, w0 = w.alloc (.cells (itemCells (bareI 5 3 true true) (.slice none 0 0) ++ itemCells (bareI 2 0 false false) (.slice none 0 0)).toArray 68) ∧ Items w0 (.slice (some ⟨w.heap.size, 0, none⟩) 2 2) aw21 ∧ Below w.heap.size w w0 :=
    ⟨_, rfl, Items.lit2 rfl rfl (KItem.bare (by decide) ⟨by decide⟩) (KItem.bare (by decide) ⟨by decide⟩), bal (Below.refl _ _) _⟩
  have hcells : (itemCells (bareI 5 3 true true) (.slice none 0 0) ++ itemCells (bareI 2 0 false false) (.slice none 0 0)).toArray = #[Value.int IntKind.i64 0, Value.string { data := #[] }, Value.int IntKind.u32 5, Value.int IntKind.u64 3, Value.bool true, Value.bool true, Value.int IntKind.u64 0, Value.int IntKind.u64 0, Value.int IntKind.i64 0, Value.int IntKind.u64 0, Value.slice none 0 0, Value.int IntKind.u64 0, Value.int IntKind.u64 0, Value.int IntKind.i64 0, Value.int IntKind.u64 0, Value.int IntKind.u64 0, Value.int IntKind.i64 0, Value.int IntKind.i64 0, Value.int IntKind.i64 0, Value.string { data := #[] }, Value.int IntKind.u32 2, Value.int IntKind.u64 0, Value.bool false, Value.bool false, Value.int IntKind.u64 0, Value.int IntKind.u64 0, Value.int IntKind.i64 0, Value.int IntKind.u64 0, Value.slice none 0 0, Value.int IntKind.u64 0, Value.int IntKind.u64 0, Value.int IntKind.i64 0, Value.int IntKind.u64 0, Value.int IntKind.u64 0, Value.int IntKind.i64 0, Value.int IntKind.i64 0] := rfl
  rw [hcells] at hw0
  rw [← hw0]
  have HV := Lib.hid hv0
  have HB := Lib.hid hb0
  obtain ⟨A, hA⟩ : ∃ A : Addr, A = ⟨w.heap.size, 0, none⟩ := ⟨_, rfl⟩
  clear hw0 hcells hv0 hb0
  refine (names_any ⟨by decide⟩ (HT.out.below HB.out) HV.out (by decide) HV.out.inc true).mono ?_
  rintro e w1 ⟨u, rfl, hb1, hu⟩
  rw [a1] at hu
  obtain ⟨A2, c2, rfl, hc2⟩ := hu.slice
  have HU := Lib.hid hu
  have HB1 := Lib.hid (btr HB.out hb1)
  have HV1 := Lib.hid (HV.out.below hb1)
  clear hb1 hu hc2
  go_wp2_with fail
  refine (ofName_num HU.out (by decide) a2 rfl rfl).mono ?_
  rintro e w2 ⟨rfl, hb2⟩
  have HB2 := Lib.hid (btr HB1.out hb2)
  have HU2 := Lib.hid (HU.out.below hb2)
  have HV2 := Lib.hid (HV1.out.below hb2)
  clear hb2
  go_wp2_with fail
  have HBL := Lib.hid (Blk.new w2 51 #[Value.int IntKind.i64 1, Value.int IntKind.u32 3] rfl)
  refine (ofName_num (by exact HU2.out.below (bal (Below.refl _ _) _)) (by decide) a3 rfl rfl).mono ?_
  rintro e w3 ⟨rfl, hb3⟩
  have HBL3 := Lib.hid (HBL.out.stay hb3)
  have HB3 : Hid (Below w.heap.size w w3) := btr (bal HB2.out _) hb3
  have HU3 : Hid (Names w3 (.slice A2 2 c2) [⟨0, 5⟩, ⟨1, 3⟩]) := (HU2.out.below (bal (Below.refl _ _) _)).below hb3
  have HV3 : Hid (Items w3 (.slice (some ⟨w.heap.size, 0, none⟩) 2 2) aw21) := (HV2.out.below (bal (Below.refl _ _) _)).below hb3
  clear hb3
  go_wp2_with fail
  have HB4 : Hid (Below w.heap.size w (w3.alloc (.cells #[Value.int IntKind.i64 0, Value.int IntKind.u32 0] 51))) := bal HB3.out _
  have HBL4 := Lib.hid (HBL3.out.old (.cells #[Value.int IntKind.i64 0, Value.int IntKind.u32 0] 51))
  have HU4 := Lib.hid (HU3.out.below (bal (Below.refl _ _) (.cells #[Value.int IntKind.i64 0, Value.int IntKind.u32 0] 51)))
  have HV4 := Lib.hid (HV3.out.below (bal (Below.refl _ _) (.cells #[Value.int IntKind.i64 0, Value.int IntKind.u32 0] 51)))
  refine (stay_num (n := 3) (s := 3) ⟨by decide⟩ (HT.out.below HB4.out) HV4.out (by decide) rfl rfl a4).mono ?_
  rintro e w5 ⟨rfl, hb5⟩
  have HB5 := Lib.hid (btr HB4.out hb5)
  have HBL5 := Lib.hid (HBL4.out.stay hb5)
  have HU5 := Lib.hid (HU4.out.below hb5)
  have HV5 := Lib.hid (HV4.out.below hb5)
  clear hb5
  go_wp2_with fail
  refine (joins_num (n := 3) (s := 3) ⟨by decide⟩ (HT.out.below HB5.out) HV5.out (by decide) rfl rfl a5).mono ?_
  rintro e w6 ⟨rfl, hb6⟩
  have HB6 := Lib.hid (btr HB5.out hb6)
  have HBL6 := Lib.hid (HBL5.out.stay hb6)
  have HU6 := Lib.hid (HU5.out.below hb6)
  have HV6 := Lib.hid (HV5.out.below hb6)
  clear hb6
  obtain ⟨b, off, rfl, h0, h1, hb⟩ := Names.cells HU6.out 0 (by decide)
  have h0' : w6.cell? ⟨b, off, none⟩ = some (.int .i64 0) := by simpa using h0
  have h1' : w6.cell? ⟨b, off + 1, none⟩ = some (.int .u32 5) := by simpa using h1
  clear h0 h1
  have h2 := HBL6.out.cell 0
  have h3 := HBL6.out.cell 1
  have h4 := HBL6.out.lt
  go_wp2_with fail
  refine (stay_num (n := 4) (s := 3) ⟨by decide⟩ (HT.out.below HB6.out) HV6.out (by decide) rfl rfl a6).mono ?_
  rintro e w7 ⟨rfl, hb7⟩
  have HB7 := Lib.hid (btr HB6.out hb7)
  clear hb7
  go_wp2_with fail
  go_ret
  exact ⟨rfl, HB7.out⟩
end Go.Proofs.YtheeclmpkddgjaaDoor
