import Derived.Test.YtalcoodidcehnaaDoorFlH
import Derived.StillTailTactics
import Derived.Deep.QuietTactic
import Derived.BigQuiet
namespace Go.Proofs.YtalcoodidcehnaaDoor
set_option linter.unusedVariables false
set_option linter.unusedSimpArgs false
open Go.RowKit
def flState (S : Fl) (p : Nat) (x : Itm) : Fl × List Ot :=
  if tcount (tput S.told p x) = ssize S.mem then flTry { S with told := tput S.told p x } else ({ S with told := tput S.told p x }, [])
def otView (S : Fl) (v : Vw) : Ot := ⟨3, Itm.zero, ⟨Vw.none, []⟩, v, flClaims S⟩
def flAgree (S : Fl) (p : Int) (v : Vw) : Fl × List Ot :=
  if swith S.agree [p] = S.mem then ({ S with agree := swith S.agree [p], rc := vform S.rc v, formed := true }, [otView S v]) else ({ S with agree := swith S.agree [p] }, [])
def flDeliver (S : Fl) (p : Int) (x : Itm) : Fl × List Ot :=
  if S.live && !S.formed && shas S.mem p then
    if x.kind = 2 ∧ S.told p.toNat = none then flState S p.toNat x
    else if x.kind = 3 ∧ S.tried = some x.view then flAgree S p x.view
    else (S, [])
  else (S, [])
set_option maxRecDepth 20000 in
set_option maxHeartbeats 1000000 in
theorem flDeliver_off {w : World} {g : Nat} {S : Fl} {pv mv tv : Value} (hg : FlAt w g S pv mv tv) (p : Int) (x : Itm) (v : Value) (hoff : (S.live && !S.formed && shas S.mem p) = false) :
    Calls Tryd.prog 12 #[.pointer (some ⟨g, 0, none⟩), .int .i64 p, .agg (itemCells x v).toArray] w fun e w' => e = .returned (.slice none 0 0) ∧ Below w.heap.size w w' := by
  obtain ⟨w1, hw1⟩ : ∃ w1, w1 = w.alloc (.cells (itemCells x v).toArray 45) := ⟨_, rfl⟩
  have hb1 : Below w.heap.size w w1 := by rw [hw1]; exact bal (Below.refl _ _) _
  have hg1 := hg.below hb1
  have c7 : w1.cell? ⟨g, 7, none⟩ = some (.int .u64 (S.mem : Int)) := hg1.blk.cell 7
  have c8 : w1.cell? ⟨g, 8, none⟩ = some (.bool S.live) := hg1.blk.cell 8
  have c9 : w1.cell? ⟨g, 9, none⟩ = some (.bool S.formed) := hg1.blk.cell 9
  have hgl := hg1.blk.lt
  have HW1 := Lib.hid hw1
  have HB1 := Lib.hid hb1
  have HM := Lib.hid hg1.mem
  clear hg hw1 hb1 hg1
  rcases hl : S.live with _ | _
  · rw [hl] at c8
    clear hl hoff c9 c7
    go_enter Tryd.func12, Tryd.ntmps12
    go_upto_region 1 with fail
    rw [← HW1.out]
    go_wp2_with fail
    go_ret
    exact ⟨rfl, HB1.out⟩
  · rcases hf : S.formed with _ | _
    · rw [hl, hf] at hoff
      have HH : Hid (shas S.mem p = false) := hoff
      rw [hl] at c8
      rw [hf] at c9
      clear hl hoff hf
      go_enter Tryd.func12, Tryd.ntmps12
      go_upto_region 1 with fail
      rw [← HW1.out]
      go_wp2_with fail
      refine (has_eq HM.out HH.out _).mono ?_
      rintro e w' ⟨rfl, rfl⟩
      go_wp2_with fail
      go_ret
      exact ⟨rfl, HB1.out⟩
    · rw [hl] at c8
      rw [hf] at c9
      clear hl hoff hf
      go_enter Tryd.func12, Tryd.ntmps12
      go_upto_region 1 with fail
      rw [← HW1.out]
      go_wp2_with fail
      go_ret
      exact ⟨rfl, HB1.out⟩
end Go.Proofs.YtalcoodidcehnaaDoor
namespace Go.Proofs.YtalcoodidcehnaaDoor
set_option linter.unusedVariables false
set_option linter.unusedSimpArgs false
open Go.RowKit
set_option maxRecDepth 20000 in
set_option maxHeartbeats 4000000 in
theorem flDeliver_had {w : World} {g : Nat} {S : Fl} {pv tv : Value} {bm : Nat} {D : DataW Value} (hg : FlAt w g S pv (.map (some bm)) tv) (hD : ToldIs w bm S.told D) (n : Nat) (hn : n < 64) (x : Itm) (vx : Value) (hl : S.live = true) (hf : S.formed = false) (hh : shas S.mem (n : Int) = true) (hk : x.kind = 2) (hs : (S.told n).isSome = true) :
    Calls Tryd.prog 12 #[.pointer (some ⟨g, 0, none⟩), .int .i64 (n : Int), .agg (itemCells x vx).toArray] w fun e w' => e = .returned (.slice none 0 0) ∧ Below w.heap.size w w' := by
  obtain ⟨w1, hw1⟩ : ∃ w1, w1 = w.alloc (.cells (itemCells x vx).toArray 45) := ⟨_, rfl⟩
  obtain ⟨g1, hg1e⟩ : ∃ g1, g1 = w.heap.size := ⟨_, rfl⟩
  have hb1 : Below w.heap.size w w1 := by rw [hw1]; exact bal (Below.refl _ _) _
  have hi1 : Blk w1 g1 45 (itemCells x vx).toArray := by rw [hw1]; exact Blk.new _ _ _ hg1e
  have hs1 : w1.heap.size = g1 + 1 := by rw [hw1, hg1e]; simp
  have hg1 := hg.below hb1
  obtain ⟨Ay, cy, hlook, -, hvy, hoky, hly⟩ := (hD.below hb1).look n hn
  obtain ⟨y, hy⟩ : ∃ y, y = (S.told n).getD Itm.zero := ⟨_, rfl⟩
  obtain ⟨vy, hvye⟩ : ∃ vy, vy = (.slice Ay y.rc.pend.length cy : Value) := ⟨_, rfl⟩
  rw [← hy, ← hvye] at hlook
  rw [← hy, ← hvye] at hvy
  rw [← hy] at hoky
  have HY1 : Hid ((itemCells y vy).toArray.all (·.oneCell') = true) := by show _ = true; rw [hvye]; simp [itemCells, Value.oneCell']
  clear hly
  obtain ⟨w3, hw3⟩ : ∃ w3, w3 = w1.alloc (.cells (itemCells y vy).toArray 45) := ⟨_, rfl⟩
  have hb3 : Below w1.heap.size w1 w3 := by rw [hw3]; exact bal (Below.refl _ _) _
  have hg3 := hg1.below hb3
  have hi3 := hi1.stay hb3
  have hd3 := (hD.below hb1).below hb3
  have c7 : w1.cell? ⟨g, 7, none⟩ = some (.int .u64 (S.mem : Int)) := hg1.blk.cell 7
  have c8 : w1.cell? ⟨g, 8, none⟩ = some (.bool true) := by have := hg1.blk.cell 8; simpa [flCells, hl] using this
  have c9 : w1.cell? ⟨g, 9, none⟩ = some (.bool false) := by have := hg1.blk.cell 9; simpa [flCells, hf] using this
  have c10 : w1.cell? ⟨g, 10, none⟩ = some (.map (some bm)) := hg1.blk.cell 10
  have hgl := hg1.blk.lt
  have hil := hi1.lt
  have HW1 := Lib.hid hw1
  have HG1E := Lib.hid hg1e
  have HB1 := Lib.hid hb1
  have HI1 := Lib.hid hi1
  have HS1 := Lib.hid hs1
  have HW3 := Lib.hid hw3
  have HB3 := Lib.hid hb3
  have HG3 := Lib.hid hg3
  have HI3 := Lib.hid hi3
  have HD3 := Lib.hid hd3
  have HM := Lib.hid hg1.mem
  have HH : Hid (shas S.mem (n : Int) = true) := hh
  have z0 : w3.cell? ⟨g1, 0, none⟩ = some (.int .i64 x.kind) := hi3.cell 0
  rw [hk] at z0
  rw [hs] at hlook
  have hgl3 := hg3.blk.lt
  have hil3 := hi3.lt
  clear hg hD hw1 hg1e hb1 hi1 hs1 hg1 hvy hoky hy hvye hw3 hb3 hg3 hi3 hd3 hl hf hh hk hs
  go_enter Tryd.func12, Tryd.ntmps12
  go_upto_region 1 with fail
  rw [← HW1.out, ← HG1E.out]
  go_wp2_with fail
  refine (has_eq HM.out HH.out _).mono ?_
  rintro e w' ⟨rfl, rfl⟩
  go_upto_region 4 with (first
    | (refine wpList_alloc_store rfl rfl 45 _ _ rfl rfl rfl item_zero (itemCells y vy).toArray rfl rfl item_isize rfl HY1.out ?_))
  rw [← HW3.out]
  go_wp2_with fail
  go_quiet (fail)
  go_wp2_with fail
  go_ret
  exact ⟨rfl, bdrewN (btr HB1.out HB3.out) _⟩
set_option maxRecDepth 20000 in
set_option maxHeartbeats 4000000 in
theorem flDeliver_other {w : World} {g : Nat} {S : Fl} {pv tv : Value} {bm : Nat} {D : DataW Value} (hg : FlAt w g S pv (.map (some bm)) tv) (hD : ToldIs w bm S.told D) (n : Nat) (hn : n < 64) (x : Itm) (vx : Value) (hl : S.live = true) (hf : S.formed = false) (hh : shas S.mem (n : Int) = true) (hk2 : x.kind ≠ 2) (hk3 : x.kind ≠ 3) :
    Calls Tryd.prog 12 #[.pointer (some ⟨g, 0, none⟩), .int .i64 (n : Int), .agg (itemCells x vx).toArray] w fun e w' => e = .returned (.slice none 0 0) ∧ Below w.heap.size w w' := by
  obtain ⟨w1, hw1⟩ : ∃ w1, w1 = w.alloc (.cells (itemCells x vx).toArray 45) := ⟨_, rfl⟩
  obtain ⟨g1, hg1e⟩ : ∃ g1, g1 = w.heap.size := ⟨_, rfl⟩
  have hb1 : Below w.heap.size w w1 := by rw [hw1]; exact bal (Below.refl _ _) _
  have hi1 : Blk w1 g1 45 (itemCells x vx).toArray := by rw [hw1]; exact Blk.new _ _ _ hg1e
  have hs1 : w1.heap.size = g1 + 1 := by rw [hw1, hg1e]; simp
  have hg1 := hg.below hb1
  obtain ⟨Ay, cy, hlook, -, hvy, hoky, hly⟩ := (hD.below hb1).look n hn
  obtain ⟨y, hy⟩ : ∃ y, y = (S.told n).getD Itm.zero := ⟨_, rfl⟩
  obtain ⟨vy, hvye⟩ : ∃ vy, vy = (.slice Ay y.rc.pend.length cy : Value) := ⟨_, rfl⟩
  rw [← hy, ← hvye] at hlook
  rw [← hy, ← hvye] at hvy
  rw [← hy] at hoky
  have HY1 : Hid ((itemCells y vy).toArray.all (·.oneCell') = true) := by show _ = true; rw [hvye]; simp [itemCells, Value.oneCell']
  clear hly
  obtain ⟨w3, hw3⟩ : ∃ w3, w3 = w1.alloc (.cells (itemCells y vy).toArray 45) := ⟨_, rfl⟩
  have hb3 : Below w1.heap.size w1 w3 := by rw [hw3]; exact bal (Below.refl _ _) _
  have hg3 := hg1.below hb3
  have hi3 := hi1.stay hb3
  have hd3 := (hD.below hb1).below hb3
  have c7 : w1.cell? ⟨g, 7, none⟩ = some (.int .u64 (S.mem : Int)) := hg1.blk.cell 7
  have c8 : w1.cell? ⟨g, 8, none⟩ = some (.bool true) := by have := hg1.blk.cell 8; simpa [flCells, hl] using this
  have c9 : w1.cell? ⟨g, 9, none⟩ = some (.bool false) := by have := hg1.blk.cell 9; simpa [flCells, hf] using this
  have c10 : w1.cell? ⟨g, 10, none⟩ = some (.map (some bm)) := hg1.blk.cell 10
  have hgl := hg1.blk.lt
  have hil := hi1.lt
  have HW1 := Lib.hid hw1
  have HG1E := Lib.hid hg1e
  have HB1 := Lib.hid hb1
  have HI1 := Lib.hid hi1
  have HS1 := Lib.hid hs1
  have HW3 := Lib.hid hw3
  have HB3 := Lib.hid hb3
  have HG3 := Lib.hid hg3
  have HI3 := Lib.hid hi3
  have HD3 := Lib.hid hd3
  have HM := Lib.hid hg1.mem
  have HH : Hid (shas S.mem (n : Int) = true) := hh
  have z0 : w3.cell? ⟨g1, 0, none⟩ = some (.int .i64 x.kind) := hi3.cell 0
  have e2 : (x.kind == 2) = false := by simpa using hk2
  have e3 : (x.kind == 3) = false := by simpa using hk3
  obtain ⟨bs, hbs⟩ : ∃ bs, bs = (S.told n).isSome := ⟨_, rfl⟩
  rw [← hbs] at hlook
  have hgl3 := hg3.blk.lt
  have hil3 := hi3.lt
  clear hg hD hw1 hg1e hb1 hi1 hs1 hg1 hvy hoky hy hvye hw3 hb3 hg3 hi3 hd3 hl hf hh hk2 hk3 hbs
  go_enter Tryd.func12, Tryd.ntmps12
  go_upto_region 1 with fail
  rw [← HW1.out, ← HG1E.out]
  go_wp2_with fail
  refine (has_eq HM.out HH.out _).mono ?_
  rintro e w' ⟨rfl, rfl⟩
  go_upto_region 4 with (first
    | (refine wpList_alloc_store rfl rfl 45 _ _ rfl rfl rfl item_zero (itemCells y vy).toArray rfl rfl item_isize rfl HY1.out ?_))
  rw [← HW3.out]
  go_wp2_with fail
  go_quiet (fail)
  go_wp2_with fail
  go_ret
  exact ⟨rfl, bdrewN (btr HB1.out HB3.out) _⟩
set_option maxRecDepth 20000 in
set_option maxHeartbeats 4000000 in
theorem flDeliver_untried {w : World} {g : Nat} {S : Fl} {pv tv : Value} {bm : Nat} {D : DataW Value} (hg : FlAt w g S pv (.map (some bm)) tv) (hD : ToldIs w bm S.told D) (n : Nat) (hn : n < 64) (x : Itm) (vx : Value) (hl : S.live = true) (hf : S.formed = false) (hh : shas S.mem (n : Int) = true) (hk : x.kind = 3) (ht : S.tried = none) :
    Calls Tryd.prog 12 #[.pointer (some ⟨g, 0, none⟩), .int .i64 (n : Int), .agg (itemCells x vx).toArray] w fun e w' => e = .returned (.slice none 0 0) ∧ Below w.heap.size w w' := by
  obtain ⟨w1, hw1⟩ : ∃ w1, w1 = w.alloc (.cells (itemCells x vx).toArray 45) := ⟨_, rfl⟩
  obtain ⟨g1, hg1e⟩ : ∃ g1, g1 = w.heap.size := ⟨_, rfl⟩
  have hb1 : Below w.heap.size w w1 := by rw [hw1]; exact bal (Below.refl _ _) _
  have hi1 : Blk w1 g1 45 (itemCells x vx).toArray := by rw [hw1]; exact Blk.new _ _ _ hg1e
  have hs1 : w1.heap.size = g1 + 1 := by rw [hw1, hg1e]; simp
  have hg1 := hg.below hb1
  obtain ⟨Ay, cy, hlook, -, hvy, hoky, hly⟩ := (hD.below hb1).look n hn
  obtain ⟨y, hy⟩ : ∃ y, y = (S.told n).getD Itm.zero := ⟨_, rfl⟩
  obtain ⟨vy, hvye⟩ : ∃ vy, vy = (.slice Ay y.rc.pend.length cy : Value) := ⟨_, rfl⟩
  rw [← hy, ← hvye] at hlook
  rw [← hy, ← hvye] at hvy
  rw [← hy] at hoky
  have HY1 : Hid ((itemCells y vy).toArray.all (·.oneCell') = true) := by show _ = true; rw [hvye]; simp [itemCells, Value.oneCell']
  clear hly
  obtain ⟨w3, hw3⟩ : ∃ w3, w3 = w1.alloc (.cells (itemCells y vy).toArray 45) := ⟨_, rfl⟩
  have hb3 : Below w1.heap.size w1 w3 := by rw [hw3]; exact bal (Below.refl _ _) _
  have hg3 := hg1.below hb3
  have hi3 := hi1.stay hb3
  have hd3 := (hD.below hb1).below hb3
  have c7 : w1.cell? ⟨g, 7, none⟩ = some (.int .u64 (S.mem : Int)) := hg1.blk.cell 7
  have c8 : w1.cell? ⟨g, 8, none⟩ = some (.bool true) := by have := hg1.blk.cell 8; simpa [flCells, hl] using this
  have c9 : w1.cell? ⟨g, 9, none⟩ = some (.bool false) := by have := hg1.blk.cell 9; simpa [flCells, hf] using this
  have c10 : w1.cell? ⟨g, 10, none⟩ = some (.map (some bm)) := hg1.blk.cell 10
  have hgl := hg1.blk.lt
  have hil := hi1.lt
  have HW1 := Lib.hid hw1
  have HG1E := Lib.hid hg1e
  have HB1 := Lib.hid hb1
  have HI1 := Lib.hid hi1
  have HS1 := Lib.hid hs1
  have HW3 := Lib.hid hw3
  have HB3 := Lib.hid hb3
  have HG3 := Lib.hid hg3
  have HI3 := Lib.hid hi3
  have HD3 := Lib.hid hd3
  have HM := Lib.hid hg1.mem
  have HH : Hid (shas S.mem (n : Int) = true) := hh
  have z0 : w3.cell? ⟨g1, 0, none⟩ = some (.int .i64 x.kind) := hi3.cell 0
  rw [hk] at z0
  have htv : tv = .pointer none := by have := hg.tried; rw [ht] at this; exact this
  subst htv
  obtain ⟨bs, hbs⟩ : ∃ bs, bs = (S.told n).isSome := ⟨_, rfl⟩
  rw [← hbs] at hlook
  have c11 : w3.cell? ⟨g, 11, none⟩ = some (.pointer none) := hg3.blk.cell 11
  have hgl3 := hg3.blk.lt
  have hil3 := hi3.lt
  clear hg hD hw1 hg1e hb1 hi1 hs1 hg1 hvy hoky hy hvye hw3 hb3 hg3 hi3 hd3 hl hf hh hk ht hbs
  go_enter Tryd.func12, Tryd.ntmps12
  go_upto_region 1 with fail
  rw [← HW1.out, ← HG1E.out]
  go_wp2_with fail
  refine (has_eq HM.out HH.out _).mono ?_
  rintro e w' ⟨rfl, rfl⟩
  go_upto_region 4 with (first
    | (refine wpList_alloc_store rfl rfl 45 _ _ rfl rfl rfl item_zero (itemCells y vy).toArray rfl rfl item_isize rfl HY1.out ?_))
  rw [← HW3.out]
  go_wp2_with fail
  go_quiet (fail)
  go_wp2_with fail
  go_ret
  exact ⟨rfl, bdrewN (btr HB1.out HB3.out) _⟩
set_option maxRecDepth 20000 in
set_option maxHeartbeats 4000000 in
theorem flDeliver_apart {w : World} {g : Nat} {S : Fl} {pv tv : Value} {bm : Nat} {D : DataW Value} (hg : FlAt w g S pv (.map (some bm)) tv) (hD : ToldIs w bm S.told D) (n : Nat) (hn : n < 64) (x : Itm) (vx : Value) (hl : S.live = true) (hf : S.formed = false) (hh : shas S.mem (n : Int) = true) (hk : x.kind = 3) (u : Vw) (ht : S.tried = some u) (hu : u ≠ x.view) :
    Calls Tryd.prog 12 #[.pointer (some ⟨g, 0, none⟩), .int .i64 (n : Int), .agg (itemCells x vx).toArray] w fun e w' => e = .returned (.slice none 0 0) ∧ Below w.heap.size w w' := by
  obtain ⟨w1, hw1⟩ : ∃ w1, w1 = w.alloc (.cells (itemCells x vx).toArray 45) := ⟨_, rfl⟩
  obtain ⟨g1, hg1e⟩ : ∃ g1, g1 = w.heap.size := ⟨_, rfl⟩
  have hb1 : Below w.heap.size w w1 := by rw [hw1]; exact bal (Below.refl _ _) _
  have hi1 : Blk w1 g1 45 (itemCells x vx).toArray := by rw [hw1]; exact Blk.new _ _ _ hg1e
  have hs1 : w1.heap.size = g1 + 1 := by rw [hw1, hg1e]; simp
  have hg1 := hg.below hb1
  obtain ⟨Ay, cy, hlook, -, hvy, hoky, hly⟩ := (hD.below hb1).look n hn
  obtain ⟨y, hy⟩ : ∃ y, y = (S.told n).getD Itm.zero := ⟨_, rfl⟩
  obtain ⟨vy, hvye⟩ : ∃ vy, vy = (.slice Ay y.rc.pend.length cy : Value) := ⟨_, rfl⟩
  rw [← hy, ← hvye] at hlook
  rw [← hy, ← hvye] at hvy
  rw [← hy] at hoky
  have HY1 : Hid ((itemCells y vy).toArray.all (·.oneCell') = true) := by show _ = true; rw [hvye]; simp [itemCells, Value.oneCell']
  clear hly
  obtain ⟨w3, hw3⟩ : ∃ w3, w3 = w1.alloc (.cells (itemCells y vy).toArray 45) := ⟨_, rfl⟩
  have hb3 : Below w1.heap.size w1 w3 := by rw [hw3]; exact bal (Below.refl _ _) _
  have hg3 := hg1.below hb3
  have hi3 := hi1.stay hb3
  have hd3 := (hD.below hb1).below hb3
  have c7 : w1.cell? ⟨g, 7, none⟩ = some (.int .u64 (S.mem : Int)) := hg1.blk.cell 7
  have c8 : w1.cell? ⟨g, 8, none⟩ = some (.bool true) := by have := hg1.blk.cell 8; simpa [flCells, hl] using this
  have c9 : w1.cell? ⟨g, 9, none⟩ = some (.bool false) := by have := hg1.blk.cell 9; simpa [flCells, hf] using this
  have c10 : w1.cell? ⟨g, 10, none⟩ = some (.map (some bm)) := hg1.blk.cell 10
  have hgl := hg1.blk.lt
  have hil := hi1.lt
  have HW1 := Lib.hid hw1
  have HG1E := Lib.hid hg1e
  have HB1 := Lib.hid hb1
  have HI1 := Lib.hid hi1
  have HS1 := Lib.hid hs1
  have HW3 := Lib.hid hw3
  have HB3 := Lib.hid hb3
  have HG3 := Lib.hid hg3
  have HI3 := Lib.hid hi3
  have HD3 := Lib.hid hd3
  have HM := Lib.hid hg1.mem
  have HH : Hid (shas S.mem (n : Int) = true) := hh
  have z0 : w3.cell? ⟨g1, 0, none⟩ = some (.int .i64 x.kind) := hi3.cell 0
  rw [hk] at z0
  have htr := hg3.tried
  rw [ht] at htr
  obtain ⟨bt, rfl, hbt, _⟩ := htr
  obtain ⟨bs, hbs⟩ : ∃ bs, bs = (S.told n).isSome := ⟨_, rfl⟩
  rw [← hbs] at hlook
  have c11 : w3.cell? ⟨g, 11, none⟩ = some (.pointer (some ⟨bt, 0, none⟩)) := hg3.blk.cell 11
  have hgl3 := hg3.blk.lt
  have hil3 := hi3.lt
  have q0 : w3.cell? ⟨bt, 0, none⟩ = some (.int .u64 (u.number : Int)) := hbt.cell 0
  have q1 : w3.cell? ⟨bt, 1, none⟩ = some (.int .u64 (u.epoch : Int)) := hbt.cell 1
  have q2 : w3.cell? ⟨bt, 2, none⟩ = some (.int .i64 u.rep) := hbt.cell 2
  have q3 : w3.cell? ⟨bt, 3, none⟩ = some (.int .u64 (u.members : Int)) := hbt.cell 3
  have z11 : w3.cell? ⟨g1, 11, none⟩ = some (.int .u64 (x.view.number : Int)) := hi3.cell 11
  have z12 : w3.cell? ⟨g1, 12, none⟩ = some (.int .u64 (x.view.epoch : Int)) := hi3.cell 12
  have z13 : w3.cell? ⟨g1, 13, none⟩ = some (.int .i64 x.view.rep) := hi3.cell 13
  have z14 : w3.cell? ⟨g1, 14, none⟩ = some (.int .u64 (x.view.members : Int)) := hi3.cell 14
  have hbl3 := hbt.lt
  have heq := view_eql x.view u
  rw [decide_eq_false (fun e => hu e.symm)] at heq
  clear hg hD hw1 hg1e hb1 hi1 hs1 hg1 hvy hoky hy hvye hw3 hb3 hg3 hi3 hd3 hl hf hh hk ht hbs hbt hu
  go_enter Tryd.func12, Tryd.ntmps12
  go_upto_region 1 with fail
  rw [← HW1.out, ← HG1E.out]
  go_wp2_with fail
  refine (has_eq HM.out HH.out _).mono ?_
  rintro e w' ⟨rfl, rfl⟩
  go_upto_region 4 with (first
    | (refine wpList_alloc_store rfl rfl 45 _ _ rfl rfl rfl item_zero (itemCells y vy).toArray rfl rfl item_isize rfl HY1.out ?_))
  rw [← HW3.out]
  go_wp2_with fail
  go_quiet (fail)
  go_wp2_with fail
  go_ret
  exact ⟨rfl, bdrewN (btr HB1.out HB3.out) _⟩
end Go.Proofs.YtalcoodidcehnaaDoor
