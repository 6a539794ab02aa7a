import Derived.Test.YtheeclmpkddgjaaVtR
import Derived.Test.YtheeclmpkddgjaaVtM
import Derived.Test.YtheeclmpkddgjaaRefE
import Derived.Maps.AppendAt
import Derived.Deep.CutRange
import Derived.Deep.RegionHeld3
namespace Go.Proofs.Ytheeclmpkddgjaa
set_option linter.unusedVariables false
set_option linter.unusedSimpArgs false
open Go.RowKit
set_option maxRecDepth 20000 in
set_option maxHeartbeats 4000000 in
theorem refViews_any {w : World} {v v' : Value} {L : List Vw} (hv : Views w v L) (hv' : Views w v' L) (hl : L.length ≤ 2000000) :
    Calls Try.prog 13 #[v, v'] w fun e w' => e = .returned (.bool true) ∧ Below w.heap.size w w' := by
  obtain ⟨A, c, rfl, _⟩ := hv.slice
  obtain ⟨A', c', rfl, _⟩ := hv'.slice
  obtain ⟨n, hn⟩ : ∃ n, n = L.length := ⟨_, rfl⟩
  have hn6 : n ≤ 2000000 := by omega
  have HN := Lib.hid hn
  rw [← hn] at hv hv' ⊢
  have HV := Lib.hid hv
  have HV' := Lib.hid hv'
  have hnn : ((n : Int) != (n : Int)) = false := by simp
  clear hv hv' hl hn
  go_enter Try.func13, Try.ntmps13
  go_wp2_with fail
  go_loopw [5] (fun i wr => ∃ k : Nat, k ≤ n ∧ i = .int .i64 k ∧ Hid (Below w.heap.size w wr)) (fun i _ => n - (intOf i).toNat)
  case atStart => exact ⟨0, by omega, rfl, Below.refl _ _⟩
  case round =>
    obtain ⟨k, hk, rfl, HB⟩ := hrel
    by_cases hlt : k < n
    · have hlt2 : k < L.length := by rw [← HN.out]; exact hlt
      obtain ⟨b, off, rfl, c0, c1, c2, c3, hbl, hok⟩ := HV.out.in HB.out k hlt2
      obtain ⟨b', off', rfl, e0, e1, e2, e3, hbl', hok'⟩ := HV'.out.in HB.out k hlt2
      obtain ⟨y, hy⟩ : ∃ y, y = L[k] := ⟨_, rfl⟩
      rw [← hy] at c0 c1 c2 c3 e0 e1 e2 e3 hok hok'
      have hkI0 : (0 : Int) ≤ (k : Int) := Int.natCast_nonneg _
      have hkI1 : (k : Int) < (n : Int) := by omega
      clear hy hlt2 hok hok'
      go_wp2_with fail
      go_quiet (fail)
      go_wp2_with fail
      go_roundw
      case rel => exact ⟨k + 1, by omega, by go_num, bdrewN HB.out _⟩
      case measure => simp [intOf] <;> omega
    · obtain rfl : k = n := by omega
      clear hlt hk
      go_wp2_with fail
      go_ret
      exact ⟨rfl, HB.out⟩
def zrr : Value := .agg #[.int .u64 0, .int .u64 0, .int .i64 0, .int .u64 0, .slice none 0 0]
theorem rr_info : (Try.prog.info? 61).map (fun i => (i.zero, i.size, i.bytes)) = some (some zrr, 5, 56) := by kernel_rfl
theorem Css.nil {α : Type} (K : World → α → List Value → Prop) (sz : Nat) (w : World) : Css K sz w [] [] := ⟨rfl, fun i x h => by simp at h, fun cs h => by simp at h⟩
theorem Css.snoc {α : Type} {K : World → α → List Value → Prop} {sz : Nat} {w : World} {xs : List α} {css : List (List Value)} (h : Css K sz w xs css) {x : α} {cs : List Value} (hk : K w x cs) (hl : cs.length = sz) : Css K sz w (xs ++ [x]) (css ++ [cs]) := by
  refine ⟨by simp [h.len], fun i y hy => ?_, fun c hc => ?_⟩
  · by_cases hi : i < xs.length
    · rw [List.getElem?_append_left hi] at hy
      obtain ⟨c, h1, h2⟩ := h.each i y hy
      exact ⟨c, by rw [List.getElem?_append_left (by rw [h.len]; exact hi)]; exact h1, h2⟩
    · rw [List.getElem?_append_right (by omega)] at hy
      have hi0 : i - xs.length = 0 := by
        cases hd : i - xs.length with
        | zero => rfl
        | succ d => rw [hd] at hy; simp at hy
      rw [hi0] at hy
      obtain rfl : x = y := by simpa using hy
      exact ⟨cs, by rw [List.getElem?_append_right (by rw [h.len]; omega), h.len, hi0]; rfl, hk⟩
  · rw [List.mem_append, List.mem_singleton] at hc
    rcases hc with hc | rfl
    · exact h.size c hc
    · exact hl
set_option maxRecDepth 20000 in
set_option maxHeartbeats 4000000 in
theorem of18_any {w : World} {v : Value} {L : List Rcd} (hv : Recs w v L) (hl : L.length ≤ 1000) :
    Calls Try.prog 9 #[v] w fun e w' => ∃ v', e = .returned v' ∧ Below w.heap.size w w' ∧ Recs w' v' L := by
  obtain ⟨i0, hi, hz0, hz1, hz2⟩ := info_parts rr_info
  obtain ⟨A, c, rfl, _⟩ := hv.slice
  obtain ⟨n, hn⟩ : ∃ n, n = L.length := ⟨_, rfl⟩
  have hn6 : n ≤ 1000 := by omega
  have HN := Lib.hid hn
  rw [← hn] at hv ⊢
  have HV := Lib.hid hv
  clear hv hl hn
  go_enter Try.func9, Try.ntmps9
  go_wp2_with fail
  go_loopw [3, 4] (fun u i wr => ∃ (k : Nat) (css : List (List Value)), k ≤ n ∧ i = .int .i64 k ∧ Hid (wr.ownsRow w.heap.size 61 5 u k css.flatten) ∧ Hid (Css KRec 5 w (L.take k) css) ∧ Hid (Below w.heap.size w wr)) (fun _ i _ => n - (intOf i).toNat)
  case atStart => exact ⟨0, [], by omega, rfl, World.ownsRow_nil _ _ _ _, Css.nil _ _ _, Below.refl _ _⟩
  case round =>
    obtain ⟨k, css, hk, rfl, HO, HC, HB⟩ := hrel
    by_cases hlt : k < n
    · have hlt2 : k < L.length := by rw [← HN.out]; exact hlt
      have htk : L.take (k + 1) = L.take k ++ [L[k]] := List.take_succ_eq_append_getElem hlt2
      obtain ⟨b, off, A2, c2, rfl, d0, d1, d2, d3, d4, hbl, hok, hpv⟩ := HV.out.in HB.out k hlt2
      obtain ⟨r, hr⟩ : ∃ r, r = L[k] := ⟨_, rfl⟩
      rw [← hr] at d0 d1 d2 d3 d4 htk hok hpv
      have hbw : b < w.heap.size := by
        obtain ⟨b', off', _, _, hA', _, _, _, _, _, hb', _, _⟩ := Recs.at HV.out k hlt2
        injection hA' with hA'
        injection hA' with h1 h2
        rw [h1]; exact hb'
      obtain ⟨q, hq⟩ : ∃ q, q = r.pend.length := ⟨_, rfl⟩
      rw [← hq] at d4 hpv
      have HCN : Hid (Css KRec 5 w (L.take (k + 1)) (css ++ [recCells r.last (.slice A2 q c2)])) := by
        show Css _ _ _ _ _
        rw [htk]
        exact HC.out.snoc ⟨_, rfl, hok, hpv⟩ rfl
      have hle : w.heap.size ≤ wr.heap.size := HB.out.size
      have hbr : b < wr.heap.size := by omega
      have hne : u3.ownBlock ≠ some b := fun h => by have := (HO.out.lt b h).1; omega
      have hk0 : (0 : Int) ≤ (k : Int) := Int.natCast_nonneg _
      have hk1 : (k : Int) < (n : Int) := by omega
      obtain ⟨news, hnews⟩ : ∃ news : List Value, news = [.int .u64 (r.last.number : Int), .int .u64 (r.last.epoch : Int), .int .i64 r.last.rep, .int .u64 (r.last.members : Int), .slice A2 q c2] := ⟨_, rfl⟩
      have HNW := Lib.hid hnews
      clear hr hlt2 hok hpv htk hq hnews
      go_wp2_with fail
      go_region_held3 (fun w' => w'.cell? ⟨b, off + k * 5, none⟩ = some (.int .u64 (r.last.number : Int)) ∧ w'.cell? ⟨b, off + k * 5 + 1, none⟩ = some (.int .u64 (r.last.epoch : Int)) ∧ w'.cell? ⟨b, off + k * 5 + 2, none⟩ = some (.int .i64 r.last.rep) ∧ w'.cell? ⟨b, off + k * 5 + 3, none⟩ = some (.int .u64 (r.last.members : Int)) ∧ w'.cell? ⟨b, off + k * 5 + 4, none⟩ = some (.slice A2 q c2))
        (first
          | go_keep
          | (go_split_ands
             refine ⟨?_, ?_, ?_, ?_, ?_⟩
             · (rw [hgrow.cell_far ⟨b, off + k * 5, none⟩ (by simp; omega) (Ne.symm hne)]; assumption)
             · (rw [hgrow.cell_far ⟨b, off + k * 5 + 1, none⟩ (by simp; omega) (Ne.symm hne)]; assumption)
             · (rw [hgrow.cell_far ⟨b, off + k * 5 + 2, none⟩ (by simp; omega) (Ne.symm hne)]; assumption)
             · (rw [hgrow.cell_far ⟨b, off + k * 5 + 3, none⟩ (by simp; omega) (Ne.symm hne)]; assumption)
             · (rw [hgrow.cell_far ⟨b, off + k * 5 + 4, none⟩ (by simp; omega) (Ne.symm hne)]; assumption)))
        ((refine step_append_lies _ (by rfl) _ _ _ (by rfl) w.heap.size 61 i0 zrr 5 56 Try.underlying26 hi hz0 hz1 hz2 rfl (by omega) u3 k css.flatten (by rfl) (by first | exact (HO.out.alloc _).drew | exact HO.out.drew.alloc _ | exact HO.out.alloc _)
            ⟨wr.heap.size, 0, none⟩ 1 1 [.int .u64 (r.last.number : Int), .int .u64 (r.last.epoch : Int), .int .i64 r.last.rep, .int .u64 (r.last.members : Int), .slice A2 q c2] (by rfl) (by rfl) (World.news_of_block (cs := #[.int .u64 (r.last.number : Int), .int .u64 (r.last.epoch : Int), .int .i64 r.last.rep, .int .u64 (r.last.members : Int), .slice A2 q c2]) (t := 61) (fr := (0, 0)) (heap_alloc_new wr _)) (by simp [Value.oneCell'])
            (by omega) (by unfold maxLen; omega) (by omega) (by simp; omega) (wr.heap.size + 1) (by simp) ?_; intro gg cap w3 hown3 hgrow hat hlt3))
      have hb3 : Below w.heap.size w w3 := (bdrew (bal HB.out _)).grown hgrow (by simp; omega) (fun g hg => (HO.out.lt g hg).1)
      have HB3 := Lib.hid hb3
      have hown5 : w3.ownsRow w.heap.size 61 5 (.slice (some ⟨gg, 0, none⟩) (k + 1) cap) (k + 1) (css.flatten ++ recCells r.last (.slice A2 q c2)) := hown3
      have hfl : css.flatten ++ recCells r.last (.slice A2 q c2) = (css ++ [recCells r.last (.slice A2 q c2)]).flatten := by simp
      rw [hfl] at hown5
      have HO3 := Lib.hid hown5
      clear hown3 hown5 hgrow hb3 hfl
      go_wp2_with fail
      go_roundw
      case rel => exact ⟨k + 1, _, by omega, by go_num, HO3, HCN, HB3⟩
      case measure => simp [intOf] <;> omega
    · obtain rfl : k = n := by omega
      clear hlt hk
      have hu : Recs wr u3 L := by
        have hc := HC.out
        rw [List.take_of_length_le (by rw [← HN.out]; exact Nat.le_refl _)] at hc
        exact Sl.of_flat HO.out (by rw [HN.out]) (fun i x hi => by
          obtain ⟨cs, h1, h2⟩ := hc.each i x hi
          exact ⟨cs, h1, KRec.stays _ _ _ _ h2 HB.out⟩) hc.size
      obtain ⟨A3, c3, rfl, _⟩ := hu.slice
      rw [← HN.out] at hu ⊢
      have HU := Lib.hid hu
      clear hu
      go_wp2_with fail
      go_ret
      exact ⟨_, rfl, HB.out, HU.out⟩
end Go.Proofs.Ytheeclmpkddgjaa
