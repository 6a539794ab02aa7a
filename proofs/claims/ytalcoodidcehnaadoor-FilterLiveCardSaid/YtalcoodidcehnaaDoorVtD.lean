import Derived.Test.YtalcoodidcehnaaDoorVtC
import Derived.Test.YtalcoodidcehnaaDoorApp
import Derived.Test.YtalcoodidcehnaaDoorRefE
import Derived.Lib.SliceRun
import Derived.BigQuiet
namespace Go.Proofs.YtalcoodidcehnaaDoor
set_option linter.unusedVariables false
set_option linter.unusedSimpArgs false
open Go.RowKit
def zvw : Value := .agg #[.int .u64 0, .int .u64 0, .int .i64 0, .int .u64 0]
theorem vw_info : (Tryd.prog.info? 35).map (fun i => (i.zero, i.size, i.bytes)) = some (some zvw, 4, 32) := by kernel_rfl
theorem KView.one {w : World} {x : Vw} {cs : List Value} (h : KView w x cs) : ∀ u ∈ cs, u.oneCell' = true := by
  obtain ⟨rfl, _⟩ := h
  intro u hu
  simp only [viewCells, List.mem_cons, List.not_mem_nil, or_false] at hu
  rcases hu with rfl | rfl | rfl | rfl <;> rfl
theorem Css.views {w : World} {L : List Vw} {css : List (List Value)} (h : Css KView 4 w L css) : css = L.map viewCells := by
  apply List.ext_getElem?
  intro i
  rw [List.getElem?_map]
  cases hx : L[i]? with
  | none =>
    rw [List.getElem?_eq_none_iff] at hx
    rw [List.getElem?_eq_none (by rw [h.len]; exact hx)]
    rfl
  | some x =>
    obtain ⟨cs, h1, h2, _⟩ := h.each i x hx
    rw [h1, h2]
    rfl
theorem Views.ok {w : World} {v : Value} {L : List Vw} (h : Views w v L) (x : Vw) (hx : x ∈ L) : x.Ok := by
  obtain ⟨i, hi, rfl⟩ := List.getElem_of_mem hx
  obtain ⟨A, c, _, _, h⟩ := h
  obtain ⟨_, _, _, _, ⟨_, ho⟩, _⟩ := h i L[i] (by simp [hi])
  exact ho
theorem Views.of_own {w : World} {base : Nat} {v : Value} {n : Nat} {L : List Vw} (h : w.ownsRow base 35 4 v n (L.map viewCells).flatten) (hn : n = L.length) (hok : ∀ x, x ∈ L → x.Ok) : Views w v L :=
  Sl.of_flat h hn (fun i x hi => ⟨viewCells x, by rw [List.getElem?_map, hi]; rfl, rfl, hok x (List.mem_of_getElem? hi)⟩) (fun cs hc => by
    obtain ⟨x, _, rfl⟩ := List.mem_map.1 hc
    rfl)
theorem Views.at {w : World} {A : Option Addr} {n c : Nat} {L : List Vw} (h : Views w (.slice A n c) L) (k : Nat) (hk : k < L.length) :
    ∃ b off, A = some (⟨b, off, none⟩ : Addr) ∧ w.cell? ⟨b, off + k * 4, none⟩ = some (.int .u64 (L[k].number : Int)) ∧ w.cell? ⟨b, off + k * 4 + 1, none⟩ = some (.int .u64 (L[k].epoch : Int)) ∧ w.cell? ⟨b, off + k * 4 + 2, none⟩ = some (.int .i64 L[k].rep) ∧ w.cell? ⟨b, off + k * 4 + 3, none⟩ = some (.int .u64 (L[k].members : Int)) ∧ b < w.heap.size ∧ L[k].Ok := by
  obtain ⟨b, off, cs, hA, ⟨rfl, hok⟩, hl, hg⟩ := Sl.at h k hk
  have h0 := hg 0 _ rfl
  exact ⟨b, off, hA, h0, hg 1 _ rfl, hg 2 _ rfl, hg 3 _ rfl, World.block_lt_of_cell? w _ h0, hok⟩
theorem own_sl {w : World} {base : Nat} {e : TypeId} {sz n : Nat} {v : Value} {xs : List Value} (h : w.ownsRow base e sz v n xs) : ∃ A l c, v = .slice A l c := by
  rcases h.2 with ⟨rfl, _⟩ | ⟨_, _, _, rfl, _⟩
  · exact ⟨_, _, _, rfl⟩
  · exact ⟨_, _, _, rfl⟩
set_option maxRecDepth 20000 in
set_option maxHeartbeats 4000000 in
theorem vclone_any {w : World} {v : Value} {L : List Vw} (hv : Views w v L) (hl : L.length ≤ 2000000) :
    Calls Tryd.prog 41 #[v] w fun e w' => ∃ v', e = .returned v' ∧ Below w.heap.size w w' ∧ w'.ownsRow w.heap.size 35 4 v' L.length (L.map viewCells).flatten := by
  obtain ⟨i0, hi, hz0, hz1, hz2⟩ := info_parts vw_info
  obtain ⟨A, c, rfl, _⟩ := hv.slice
  obtain ⟨n, hn⟩ : ∃ n, n = L.length := ⟨_, rfl⟩
  have hn6 : n ≤ 2000000 := by omega
  have heq := fun w => Lib.run_eql_slice_nil (P := Tryd.prog) w 36 35 A n c 0 0 Tryd.underlying36
  cases A with
  | none =>
    have hL : L = [] := by
      obtain ⟨_, css, _, _, h, _⟩ := Sl.css (by decide) hv
      exact h rfl
    subst hL
    rw [← hn]
    have hn0 : n = 0 := by rw [hn]; rfl
    subst hn0
    clear hv hl hn6 hn
    go_enter Tryd.func41, Tryd.ntmps41
    go_wp2_with fail
    refine bodyPost_ret (results_tmp rfl _ _ _) rfl ⟨_, rfl, Below.refl _ _, World.ownsRow_nil _ _ _ _⟩
  | some a =>
    rw [← hn] at hv ⊢
    have HN := Lib.hid hn
    have HV := Lib.hid hv
    have HZ := Lib.hid (own_zero w 35 4)
    have HB0 : Hid (Below w.heap.size w (w.alloc (.cells #[] 35))) := bal (Below.refl _ _) _
    clear hv hl hn
    go_enter Tryd.func41, Tryd.ntmps41
    go_wp2_with (at_builtin; go_loud (refine wpList_append_sl (w0 := w) rfl _ _ 36 rfl w.heap.size 35 i0 zvw 4 32 Tryd.underlying36 hi hz0 hz1 hz2 rfl (by decide) _ _ _ rfl HZ.out (K := KView) (some a) n c L rfl HV.out HB0.out (fun _ _ h => KView.one h) ?c3 ?c4 ?c5 ?_))
    case c3 => unfold maxLen; omega
    case c4 => omega
    case c5 => simp
    intro css v' w2 hcss hown' hgrow
    have hbl : Below w.heap.size w w2 := HB0.out.grown hgrow (by simp) (fun b hb => (HZ.out.lt b hb).1)
    rw [hcss.views] at hown'
    have HO := Lib.hid hown'
    have HB := Lib.hid hbl
    clear hown' hgrow hbl hcss
    go_wp2_with fail
    exact bodyPost_ret (v := v') (results_tmp (t := 2) rfl _ _ _) rfl ⟨v', rfl, HB.out, HO.out⟩
set_option maxRecDepth 20000 in
set_option maxHeartbeats 4000000 in
theorem vindex_any {w : World} {v : Value} {L : List Vw} (hv : Views w v L) (x : Vw) (hl : L.length ≤ 2000000) :
    Calls Tryd.prog 53 #[v, .agg #[.int .u64 (x.number : Int), .int .u64 (x.epoch : Int), .int .i64 x.rep, .int .u64 (x.members : Int)]] w fun e w' => ∃ z : Int, e = .returned (.int .i64 z) ∧ decide (0 ≤ z) = decide (x ∈ L) ∧ Below w.heap.size w w' := by
  obtain ⟨A, c, rfl, _⟩ := hv.slice
  obtain ⟨n, hn⟩ : ∃ n, n = L.length := ⟨_, rfl⟩
  have hn6 : n ≤ 2000000 := by omega
  have HN := Lib.hid hn
  have hv2 := hv
  rw [← hn] at hv2 ⊢
  have HV := Lib.hid hv2
  have hb0 : Below w.heap.size w (w.alloc (.cells #[.int .u64 (x.number : Int), .int .u64 (x.epoch : Int), .int .i64 x.rep, .int .u64 (x.members : Int)] 35)) := bal (Below.refl _ _) _
  have HB0 := Lib.hid hb0
  have HX := Lib.hid (Blk.new w 35 #[.int .u64 (x.number : Int), .int .u64 (x.epoch : Int), .int .i64 x.rep, .int .u64 (x.members : Int)] rfl)
  clear hv hv2 hl hn hb0
  go_enter Tryd.func53, Tryd.ntmps53
  go_wp2_with fail
  go_loopw [8] (fun i wr => ∃ k : Nat, k ≤ n ∧ i = .int .i64 k ∧ Hid (x ∉ L.take k) ∧ Hid (Below (w.heap.size + 1) (w.alloc (.cells #[.int .u64 (x.number : Int), .int .u64 (x.epoch : Int), .int .i64 x.rep, .int .u64 (x.members : Int)] 35)) wr)) (fun i _ => n - (intOf i).toNat)
  case atStart => exact ⟨0, by omega, rfl, by simp [Hid], Below.refl _ _⟩
  case round =>
    obtain ⟨k, hk, rfl, HJ, HB⟩ := hrel
    have hbw : Below w.heap.size w wr := HB0.out.trans (HB.out.mono (by omega))
    have HBW := Lib.hid hbw
    by_cases hlt : k < n
    · have hlt2 : k < L.length := by rw [← HN.out]; exact hlt
      obtain ⟨b, off, rfl, c0, c1, c2, c3, hbl, hok⟩ := Views.at (HV.out.below hbw) k hlt2
      have hbx := HX.out.below HB.out (by simp)
      have x0 := hbx.cell 0
      have x1 := hbx.cell 1
      have x2 := hbx.cell 2
      have x3 := hbx.cell 3
      have htk : L.take (k + 1) = L.take k ++ [L[k]] := List.take_succ_eq_append_getElem hlt2
      have hmem : L[k] ∈ L := List.getElem_mem hlt2
      obtain ⟨y, hy⟩ : ∃ y, y = L[k] := ⟨_, rfl⟩
      rw [← hy] at c0 c1 c2 c3 htk hmem hok
      have HTK := Lib.hid htk
      have HMEM := Lib.hid hmem
      have heq := view_eql x y
      clear hy htk hmem hlt2 hbx hbw hok
      by_cases hxy : x = y
      · rw [decide_eq_true hxy] at heq
        have HXY := Lib.hid hxy
        clear hxy
        go_wp2_with fail
        go_quiet (fail)
        go_wp2_with fail
        go_ret
        exact ⟨k, rfl, by rw [decide_eq_true (by omega), decide_eq_true (by rw [HXY.out]; exact HMEM.out)], bdrewN HBW.out _⟩
      · rw [decide_eq_false hxy] at heq
        have HXY := Lib.hid hxy
        clear hxy
        go_wp2_with fail
        go_quiet (fail)
        go_wp2_with fail
        go_roundw
        case rel =>
          refine ⟨k + 1, by omega, by go_num, ?_, bdrewN HB.out _⟩
          show x ∉ L.take (k + 1)
          rw [HTK.out, List.mem_append, List.mem_singleton]
          rintro (h | h)
          · exact HJ.out h
          · exact HXY.out h
        case measure => simp [intOf] <;> omega
    · obtain rfl : k = n := by omega
      clear hlt hk hbw
      go_wp2_with fail
      go_ret
      refine ⟨-1, rfl, ?_, HBW.out⟩
      have := HJ.out
      rw [List.take_of_length_le (by rw [HN.out]; exact Nat.le_refl _)] at this
      rw [decide_eq_false (by omega), decide_eq_false this]
set_option maxRecDepth 20000 in
set_option maxHeartbeats 4000000 in
theorem vcontains_any {w : World} {v : Value} {L : List Vw} (hv : Views w v L) (x : Vw) (hl : L.length ≤ 2000000) {r : Bool} (hr : decide (x ∈ L) = r) :
    Calls Tryd.prog 49 #[v, .agg #[.int .u64 (x.number : Int), .int .u64 (x.epoch : Int), .int .i64 x.rep, .int .u64 (x.members : Int)]] w fun e w' => e = .returned (.bool r) ∧ Below w.heap.size w w' := by
  obtain ⟨A, c, rfl, _⟩ := hv.slice
  have hb0 : Below w.heap.size w (w.alloc (.cells #[.int .u64 (x.number : Int), .int .u64 (x.epoch : Int), .int .i64 x.rep, .int .u64 (x.members : Int)] 35)) := bal (Below.refl _ _) _
  have HB0 := Lib.hid hb0
  have HV := Lib.hid (hv.below hb0)
  have HR := Lib.hid hr
  clear hv hb0 hr
  go_enter Tryd.func49, Tryd.ntmps49
  go_wp2_with fail
  refine (vindex_any HV.out x hl).mono ?_
  rintro e w2 ⟨z, rfl, hz, hb2⟩
  rw [HR.out] at hz
  have HB2 := Lib.hid (btr HB0.out hb2)
  clear hb2
  go_wp2_with fail
  go_ret
  exact ⟨rfl, HB2.out⟩
end Go.Proofs.YtalcoodidcehnaaDoor
