import Derived.Test.YtheeclmpkddgjaaDoorNamesE
namespace Go.Proofs.YtheeclmpkddgjaaDoor
set_option linter.unusedVariables false
set_option linter.unusedSimpArgs false
open Go.RowKit
def zitem : Value := .agg #[.int .i64 0, .string ⟨#[]⟩, .int .u32 0, .int .u64 0, .bool false, .bool false, .int .u64 0, .int .u64 0, .int .i64 0, .int .u64 0, .slice none 0 0, .int .u64 0, .int .u64 0, .int .i64 0, .int .u64 0, .int .u64 0, .int .i64 0, .int .i64 0]
theorem ritem_info : (Tryd.prog.info? 117).map (fun i => (i.zero, i.size, i.bytes)) = some (some zitem, 18, 160) := by kernel_rfl
theorem litem_info : (Tryd.prog.info? 68).map (fun i => (i.zero, i.size, i.bytes)) = some (some zitem, 18, 160) := by kernel_rfl
/-- cells of some elements, each by the relation K -/
structure Css {α : Type} (K : World → α → List Value → Prop) (sz : Nat) (w : World) (xs : List α) (css : List (List Value)) : Prop where
  len : css.length = xs.length
  each : ∀ (i : Nat) x, xs[i]? = some x → ∃ cs, css[i]? = some cs ∧ K w x cs
  size : ∀ cs, cs ∈ css → cs.length = sz
theorem Css.nil {α : Type} (K : World → α → List Value → Prop) (sz : Nat) (w : World) : Css K sz w [] [] := ⟨rfl, fun i x h => by simp at h, fun cs h => by simp at h⟩
theorem Css.snoc {α : Type} {K : World → α → List Value → Prop} {sz : Nat} {w : World} {xs : List α} {css : List (List Value)} (h : Css K sz w xs css) {x : α} {cs : List Value} (hk : K w x cs) (hl : cs.length = sz) : Css K sz w (xs ++ [x]) (css ++ [cs]) := by
  refine ⟨by simp [h.len], fun i y hy => ?_, fun c hc => ?_⟩
  · by_cases hi : i < xs.length
    · rw [List.getElem?_append_left hi] at hy
      obtain ⟨c, h1, h2⟩ := h.each i y hy
      exact ⟨c, by rw [List.getElem?_append_left (by rw [h.len]; exact hi)]; exact h1, h2⟩
    · rw [List.getElem?_append_right (by omega)] at hy
      have hi0 : i - xs.length = 0 := by
        cases hd : i - xs.length with
        | zero => rfl
        | succ d => rw [hd] at hy; simp at hy
      rw [hi0] at hy
      obtain rfl : x = y := by simpa using hy
      exact ⟨cs, by rw [List.getElem?_append_right (by rw [h.len]; omega), h.len, hi0]; rfl, hk⟩
  · rw [List.mem_append, List.mem_singleton] at hc
    rcases hc with hc | rfl
    · exact h.size c hc
    · exact hl
theorem Css.move {α : Type} {K : World → α → List Value → Prop} {sz : Nat} {w w' : World} {xs : List α} {css : List (List Value)} (h : Css K sz w xs css) (hK : Stays K) (hb : Below w.heap.size w w') : Css K sz w' xs css :=
  ⟨h.len, fun i x hx => by obtain ⟨c, h1, h2⟩ := h.each i x hx; exact ⟨c, h1, hK _ _ _ _ h2 hb⟩, h.size⟩
theorem Css.sl {α : Type} {K : World → α → List Value → Prop} {sz : Nat} {w : World} {xs : List α} {css : List (List Value)} (h : Css K sz w xs css) {base : Nat} {e : TypeId} {v : Value} {n : Nat} (ho : w.ownsRow base e sz v n css.flatten) (hn : n = xs.length) : Sl K sz w v xs :=
  Sl.of_flat ho hn h.each h.size
theorem build_from (cs : List Value) : ∀ (i : Nat) (a : Array Value), a.size = i + cs.length → ((cs.zipIdx i).foldl (fun a x => a.setIfInBounds x.2 x.1) a).toList = a.toList.take i ++ cs := by
  induction cs with
  | nil =>
    intro i a h
    simp only [List.zipIdx_nil, List.foldl_nil, List.append_nil]
    rw [List.take_of_length_le (by simp at h ⊢; omega)]
  | cons c cs ih =>
    intro i a h
    simp only [List.zipIdx_cons, List.foldl_cons]
    rw [ih (i + 1) _ (by simp at h ⊢; omega), Array.toList_setIfInBounds]
    have hi : i < a.toList.length := by simp at h ⊢; omega
    rw [List.take_succ_eq_append_getElem (by simpa using hi), List.take_set_of_le (Nat.le_refl _)]
    simp
theorem build_list (cs : List Value) (a : Array Value) (h : a.size = cs.length) : (cs.zipIdx.foldl (fun a x => a.setIfInBounds x.2 x.1) a).toList = cs := by
  have := build_from cs 0 a (by omega)
  simpa using this
theorem flatten_snoc (css : List (List Value)) (cs : List Value) : css.flatten ++ cs = (css ++ [cs]).flatten := by simp
theorem item_one {w : World} {x : Itm} {cs : List Value} (h : KItem w x cs) : cs.length = 18 ∧ ∀ u ∈ cs, u.oneCell' = true := by
  obtain ⟨v, rfl, _, hv⟩ := h
  obtain ⟨A, c, rfl, _⟩ := hv.slice
  refine ⟨rfl, fun u hu => ?_⟩
  simp only [itemCells, List.mem_cons, List.not_mem_nil, or_false] at hu
  rcases hu with rfl | rfl | rfl | rfl | rfl | rfl | rfl | rfl | rfl | rfl | rfl | rfl | rfl | rfl | rfl | rfl | rfl | rfl <;> rfl
set_option maxRecDepth 20000 in
set_option maxHeartbeats 1000000 in
theorem of21_any {v : Value} {claims : List Itm} {w : World} (hv : Items w v claims) (hm : claims.length ≤ 300) :
    Calls Tryd.prog 46 #[v] w fun e w' => ∃ u, e = .returned u ∧ Below w.heap.size w w' ∧ Items w' u claims := by
  obtain ⟨A, c, rfl, _⟩ := hv.slice
  have HV := Lib.hid hv
  obtain ⟨i0, hi, hz0, hz1, hz2⟩ := info_parts ritem_info
  obtain ⟨m, hm'⟩ : ∃ m, m = claims.length := ⟨_, rfl⟩
  have hm3 : m ≤ 300 := by omega
  have HM := Lib.hid hm'
  rw [← hm']
  clear hm' hv hm
  go_enter Tryd.func46, Tryd.ntmps46
  go_wp2_with fail
  go_loopw [3, 4] (fun u i wr => ∃ (k : Nat) (css : List (List Value)), k ≤ m ∧ i = .int .i64 k ∧ Hid (wr.ownsRow w.heap.size 117 18 u k css.flatten) ∧ Hid (Css KItem 18 w (claims.take k) css) ∧ Hid (Below w.heap.size w wr)) (fun _ i _ => m - (intOf i).toNat)
  case atStart => exact ⟨0, [], by omega, rfl, World.ownsRow_nil _ _ _ _, Css.nil _ _ _, Below.refl _ _⟩
  case round =>
    obtain ⟨k, css, hk, rfl, HO, HC, HB⟩ := hrel
    by_cases hlt : k < m
    · have hlt2 : k < claims.length := by rw [← HM.out]; exact hlt
      obtain ⟨b2, off2, cs, rfl, hK, hcl, hrange⟩ := Sl.at (HV.out.below HB.out) k hlt2
      obtain ⟨b3, off3, cs', hA', hK', hcl', hrange'⟩ := Sl.at HV.out k hlt2
      have hcs : cs' = cs := by
        injection hA' with hA'
        injection hA' with h1 h2
        subst h1; subst h2
        apply List.ext_getElem?
        intro j
        by_cases hj : j < 18
        · have e1 := hrange j cs[j] (by simp [hcl, hj])
          have e2 := hrange' j cs'[j] (by simp [hcl', hj])
          have e3 := (HB.out.cell (p := ⟨b2, off2 + k * 18 + j, none⟩) (World.block_lt_of_cell? w _ e2)).symm.trans e1
          rw [e2] at e3
          have e4 : cs'[j] = cs[j] := by simpa using e3
          rw [List.getElem?_eq_getElem (by omega), List.getElem?_eq_getElem (by omega), e4]
        · rw [List.getElem?_eq_none (by omega), List.getElem?_eq_none (by omega)]
      subst hcs
      have htk : claims.take (k + 1) = claims.take k ++ [claims[k]] := List.take_succ_eq_append_getElem hlt2
      have hone := (item_one hK').2
      obtain ⟨x, hx⟩ : ∃ x, x = claims[k] := ⟨_, rfl⟩
      rw [← hx] at hK hK' htk
      have HK := Lib.hid hK
      have HK' := Lib.hid hK'
      have HTK := Lib.hid htk
      have HRG := Lib.hid hrange
      have HCL := Lib.hid hcl
      have HONE := Lib.hid hone
      clear hrange hcl hK hK' hcl' hrange' hA' htk hone hx hlt2
      go_wp2_with (refine wpList_load_mid_g rfl 68 _ rfl b2 (off2 + k * 18) rfl cs' _ HRG.out Tryd.underlying68 rfl (by rw [HCL.out]; exact item_info) ?_)
      refine (item_any HK.out).mono ?_
      rintro e w2 ⟨rfl, hb2⟩
      have HB2 := Lib.hid (btr HB.out hb2)
      have HO2 : Hid (w2.ownsRow w.heap.size 117 18 _ k css.flatten) := HO.out.kept (row := none) ⟨hb2.os, hb2.tape, hb2.output, hb2.size, fun q hq _ => hb2.block q hq⟩ (Classical.em _)
      clear hb2
      have hcl18 := HCL.out
      go_wp2_with (at_builtin; refine wpList_append_own _ rfl _ _ 47 rfl w.heap.size 117 i0 zitem 18 160 Tryd.underlying47 hi hz0 hz1 hz2 rfl (by decide) _ _ _ rfl (HO2.out.alloc _) ⟨w2.heap.size, 0, none⟩ 1 1 cs' rfl HCL.out (by exact cells_new _ _ _ _ rfl (build_list _ _ (by rw [HCL.out]; rfl))) HONE.out ?c3 ?c4 ?c5 ?_)
      case c3 => unfold maxLen; omega
      case c4 => omega
      case c5 => have := HB2.out.size; simp; omega
      intro v' w3 hown' hgrow _
      have hb3 : Below w.heap.size w w3 := (bal HB2.out _).grown hgrow (by have := HB2.out.size; simp; omega) (fun g hg => (HO2.out.lt g hg).1)
      have HB3 := Lib.hid hb3
      have HO3 := Lib.hid hown'
      clear hown' hgrow hb3
      go_wp2_with fail
      go_roundw
      case rel =>
        refine ⟨k + 1, css ++ [cs'], by omega, by go_num, ?_, ?_, HB3⟩
        · rw [← flatten_snoc]; exact HO3.out
        · rw [HTK.out]; exact HC.out.snoc HK'.out HCL.out
      case measure => simp [intOf] <;> omega
    · obtain rfl : k = m := by omega
      clear hlt hk
      go_wp2_with fail
      go_ret
      refine ⟨_, rfl, HB.out, ?_⟩
      have hc := HC.out
      have ho := HO.out
      rw [List.take_of_length_le (by rw [← HM.out]; omega)] at hc
      exact (hc.move KItem.stays HB.out).sl ho HM.out
end Go.Proofs.YtheeclmpkddgjaaDoor
