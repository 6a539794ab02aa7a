import Derived.Test.YtheeclmpkddgjaaDoorSetI
import Derived.Test.YtheeclmpkddgjaaDoorItem
namespace Go.Proofs.YtheeclmpkddgjaaDoor
set_option linter.unusedVariables false
set_option linter.unusedSimpArgs false
open Go.RowKit
def ihold (n : Nat) (x : Itm) : Bool := x.has && (x.holds == n)
/-- what is asked of an item's cells by those who read its flags -/
structure Flags (cs : Array Value) (x : Itm) : Prop where
  size : cs.size = 18
  inc : cs[2]? = some (.int .u32 (x.inc : Int))
  holds : cs[3]? = some (.int .u64 (x.holds : Int))
  has : cs[4]? = some (.bool x.has)
  direct : cs[5]? = some (.bool x.direct)
theorem Flags.of {w : World} {x : Itm} {cs : List Value} (h : KItem w x cs) : Flags cs.toArray x := by
  obtain ⟨v, rfl, _, _⟩ := h
  exact ⟨rfl, rfl, rfl, rfl, rfl⟩
theorem item_info : (Tryd.prog.info? 68).map (·.size) = some 18 := by kernel_rfl
set_option maxRecDepth 20000 in
set_option maxHeartbeats 400000 in
theorem stay1_any {x : Itm} {cs : Array Value} (hx : Flags cs x) {n : Nat} {bn : Nat} {w : World} (hc : w.cell? ⟨bn, 0, none⟩ = some (.int .u64 (n : Int))) :
    Calls Tryd.prog 88 #[.agg cs, .pointer (some ⟨bn, 0, none⟩)] w fun e w' => e = .returned (.bool (x.has && ((x.holds : Int) == (n : Int)))) ∧ Below w.heap.size w w' := by
  have hlt : bn < w.heap.size := World.block_lt_of_cell? w _ hc
  obtain ⟨hsz, _, h3, h4, h5⟩ := hx
  clear hsz
  cases hh : x.has
  all_goals
    rw [hh] at h4
    have HH := Lib.hid hh
    clear hh
    go_enter Tryd.func88, Tryd.ntmps88
    go_wp2_with fail
    go_ret
    exact ⟨rfl, bal (Below.refl _ _) _⟩
theorem stay1_eq {x : Itm} {cs : Array Value} (hx : Flags cs x) {n : Nat} {bn : Nat} {w : World} (hc : w.cell? ⟨bn, 0, none⟩ = some (.int .u64 (n : Int))) {r : Bool} (hr : ihold n x = r) :
    Calls Tryd.prog 88 #[.agg cs, .pointer (some ⟨bn, 0, none⟩)] w fun e w' => e = .returned (.bool r) ∧ Below w.heap.size w w' := by
  have e : r = (x.has && ((x.holds : Int) == (n : Int))) := by rw [← hr, cast_beq]; rfl
  rw [e]; exact stay1_any hx hc
set_option maxRecDepth 20000 in
set_option maxHeartbeats 400000 in
theorem stay2_eq {x : Itm} {cs : Array Value} (hx : Flags cs x) {n : Nat} {bn bh : Nat} {w : World} (hc : w.cell? ⟨bn, 0, none⟩ = some (.int .u64 (n : Int)))
    (hh : w.cell? ⟨bh, 0, none⟩ = some (.func (.func 88) #[] #[.pointer (some ⟨bn, 0, none⟩)])) {r : Bool} (hr : (ihold n x && x.direct) = r) :
    Calls Tryd.prog 90 #[.agg cs, .pointer (some ⟨bh, 0, none⟩)] w fun e w' => e = .returned (.bool r) ∧ Below w.heap.size w w' := by
  have hlt : bh < w.heap.size := World.block_lt_of_cell? w _ hh
  have hlt2 : bn < w.heap.size := World.block_lt_of_cell? w _ hc
  have hb0 : Below w.heap.size w (w.alloc (.cells cs 68)) := bal (Below.refl _ _) _
  have hc1 : (w.alloc (.cells cs 68)).cell? ⟨bn, 0, none⟩ = some (.int .u64 (n : Int)) := (hb0.cell (p := ⟨bn, 0, none⟩) hlt2).trans hc
  have HX := Lib.hid hx
  obtain ⟨hsz, _, h3, h4, h5⟩ := hx
  have HC := Lib.hid hc1
  have HC0 := Lib.hid hc
  have HSZ := Lib.hid hsz
  have HB0 := Lib.hid hb0
  clear hc1 hb0 h3 h4 hsz hc
  subst hr
  cases hi : ihold n x <;> cases hd : x.direct
  all_goals
    rw [hd] at h5
    have HI := Lib.hid hi
    have HD := Lib.hid hd
    clear hi hd
    go_enter Tryd.func90, Tryd.ntmps90
    go_wp2_with (refine wpList_load_row rfl 68 _ rfl w.heap.size rfl 68 cs (0, 0) _ (heap_alloc_new w _) Tryd.underlying68 rfl (by rw [HSZ.out]; exact item_info) ?_)
    refine (stay1_eq HX.out HC.out HI.out).mono ?_
    rintro e w1 ⟨rfl, hb1⟩
    have HB1 := Lib.hid (btr HB0.out hb1)
    have hc5 : w1.cell? ⟨w.heap.size, 5, none⟩ = some (.bool x.direct) := by
      rw [HD.out]
      exact (((Blk.new w 68 cs rfl).stay hb1).cell 5).trans h5
    rw [HD.out] at hc5
    clear hb1
    go_wp2_with fail
    go_ret
    exact ⟨rfl, HB1.out⟩
/-- what a function value answers of items, wherever memory has grown on from a world on -/
def Tells (w0 : World) (F : Nat) (cap : List Value) (p : Itm → Bool) : Prop :=
  ∀ (w : World) (x : Itm) (cs : List Value), Below w0.heap.size w0 w → KItem w x cs → Calls Tryd.prog F (#[.agg cs.toArray] ++ cap.toArray) w fun e w' => e = .returned (.bool (p x)) ∧ Below w.heap.size w w'
def thoseL (l : List Nat) (claims : List Itm) (p : Itm → Bool) : List Nat := (l.zip claims).filterMap fun q => if p q.2 then some q.1 else none
theorem thoseL_take (l : List Nat) (claims : List Itm) (p : Itm → Bool) (k : Nat) (hk : k < l.length) :
    thoseL (l.take (k + 1)) claims p = thoseL (l.take k) claims p ++ (match claims[k]? with | some x => if p x then [l[k]] else [] | none => []) := by
  unfold thoseL
  induction l generalizing claims k with
  | nil => simp at hk
  | cons a l ih =>
    cases claims with
    | nil => simp
    | cons c claims =>
      cases k with
      | zero =>
        cases hp : p c <;> simp [hp]
      | succ k =>
        have := ih claims k (by simpa using hk)
        simp only [List.take_succ_cons, List.zip_cons_cons, List.filterMap_cons, List.getElem?_cons_succ, List.getElem_cons_succ]
        rw [this]
        cases hp : p c <;> simp
def sthose (s : Nat) (claims : List Itm) (p : Itm → Bool) : Nat := sof ((thoseL (slist s) claims p).map Int.ofNat)
end Go.Proofs.YtheeclmpkddgjaaDoor
