import Derived.Test.YtheeclmpkddgjaaDoorHzP
import Derived.Lib.SliceRun
namespace Go.Proofs.YtheeclmpkddgjaaDoor
set_option linter.unusedVariables false
set_option linter.unusedSimpArgs false
open Go.RowKit
theorem own_empty (w : World) (e : TypeId) (sz : Nat) : (w.alloc (.cells #[] e)).ownsRow w.heap.size e sz (.slice (some ⟨w.heap.size, 0, none⟩) 0 0) 0 [] :=
  ⟨by simp, .inr ⟨w.heap.size, 0, #[], rfl, Nat.le_refl _, heap_alloc_new w _, Nat.le_refl _, Nat.zero_le _, by simp, by simp⟩⟩
set_option maxRecDepth 20000 in
set_option maxHeartbeats 4000000 in
theorem clone_any {base : Nat} {w : World} {v : Value} {L : List Pr} (hb : base ≤ w.heap.size) (ho : w.ownsRow base 134 2 v L.length (L.map prCells).flatten) (hl : L.length ≤ 1000000) :
    Calls Tryd.prog 95 #[v] w fun e w' => ∃ v', e = .returned v' ∧ Below w.heap.size w w' ∧ w'.ownsRow base 134 2 v' L.length (L.map prCells).flatten ∧ ∀ b, v'.ownBlock = some b → w.heap.size ≤ b := by
  obtain ⟨i0, hi, hz0, hz1, hz2⟩ := info_parts pr_info
  rcases ho.2 with ⟨rfl, h0⟩ | ⟨g, cap, cur, rfl, h1, h2, h3, h4, h5, h6⟩
  · have hL : L = [] := List.eq_nil_of_length_eq_zero h0
    subst hL
    clear ho hl h0
    have heq := fun w => Lib.run_eql_slice_nil (P := Tryd.prog) w 125 134 none 0 0 0 0 Tryd.underlying125
    go_enter Tryd.func95, Tryd.ntmps95
    go_wp2_with fail
    refine bodyPost_ret (results_tmp rfl _ _ _) rfl ⟨_, rfl, Below.refl _ _, World.ownsRow_nil _ _ _ _, fun b h => by cases h⟩
  · obtain ⟨n, hn⟩ : ∃ n, n = L.length := ⟨_, rfl⟩
    have hn6 : n ≤ 1000000 := by omega
    have hlt : g < w.heap.size := (Array.getElem?_eq_some_iff.1 h2).1
    have heq := fun w => Lib.run_eql_slice_nil (P := Tryd.prog) w 125 134 (some ⟨g, 0, none⟩) n cap 0 0 Tryd.underlying125
    have hlen : (L.map prCells).flatten.length = n * 2 := by rw [ho.1, hn]
    have hcells : ∀ j u, (L.map prCells).flatten[j]? = some u → (w.alloc (.cells #[] 134)).cell? ((⟨g, 0, none⟩ : Addr).add j) = some u := by
      intro j u hu
      have e : (⟨g, 0, none⟩ : Addr).add j = ⟨g, j, none⟩ := by unfold Addr.add; split <;> simp_all
      rw [e, (Blk.old (show Blk w g 134 cur from h2) _).cell j]
      rw [← h6, List.getElem?_take] at hu
      split at hu
      · simpa using hu
      · cases hu
    have hone : ∀ u ∈ (L.map prCells).flatten, u.oneCell' = true := by
      intro u hu
      obtain ⟨cs, hcs, hu⟩ := List.mem_flatten.1 hu
      obtain ⟨x, _, rfl⟩ := List.mem_map.1 hcs
      simp only [prCells, List.mem_cons, List.not_mem_nil, or_false] at hu
      rcases hu with rfl | rfl <;> rfl
    rw [← hn]
    have HN := Lib.hid hn
    have HLEN := Lib.hid hlen
    have HC := Lib.hid hcells
    have H1 := Lib.hid hone
    have HZ := Lib.hid (own_empty w 134 2)
    clear ho hl h1 h2 h3 h4 h5 h6 hn hlen hcells hone
    go_enter Tryd.func95, Tryd.ntmps95
    go_wp2_with (at_builtin; refine wpList_append_own_at _ rfl _ _ 125 rfl w.heap.size 134 i0 zpr 2 16 Tryd.underlying125 hi hz0 hz1 hz2 rfl (by decide) _ _ _ rfl HZ.out ⟨g, 0, none⟩ n cap (L.map prCells).flatten rfl HLEN.out HC.out H1.out ?c3 ?c4 ?c5 ?_)
    case c3 => unfold maxLen; omega
    case c4 => omega
    case c5 => simp
    intro v' w2 hown' hgrow _ hob
    have hbl : Below w.heap.size w w2 := (bal (Below.refl _ _) _).grown hgrow (by simp) (fun b hb => (HZ.out.lt b hb).1)
    have hnew : ∀ b, v'.ownBlock = some b → w.heap.size ≤ b := fun b hb => (hown'.lt b hb).1
    have HO := Lib.hid (own_lower hown' hb)
    have HB := Lib.hid hbl
    have HNW := Lib.hid hnew
    clear hown' hgrow hob hbl hnew
    go_wp2_with fail
    exact bodyPost_ret (v := v') (results_tmp (t := 2) rfl _ _ _) rfl ⟨v', rfl, HB.out, HO.out, HNW.out⟩
end Go.Proofs.YtheeclmpkddgjaaDoor
