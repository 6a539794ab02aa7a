import Derived.Test.YtalcoodidcehnaaDoorFlL
namespace Go.Proofs.YtalcoodidcehnaaDoor
set_option linter.unusedVariables false
set_option linter.unusedSimpArgs false
open Go.RowKit
theorem FlAt.idle {w w' : World} {g : Nat} {S : Fl} {A0 : Option Addr} {q0 k0 : Nat} {mv tv : Value} (hg : FlAt w g S (.slice A0 q0 k0) mv tv) {R : Fl × List Ot} (hR : R = (S, [])) {e : Ending} (he : e = .returned (.slice none 0 0)) (hb : Below w.heap.size w w') :
    ∃ A c A' q' c' tv', e = .returned (.slice A R.2.length c) ∧ ExP (Turns g mv) w w' ∧ FlAt w' g R.1 (.slice A' q' c') mv tv' ∧ OutsT w' (.slice A R.2.length c) R.2 := by
  subst hR
  exact ⟨none, 0, A0, q0, k0, tv, he, .of_below hb _, hg.below hb, OutsT.nil _⟩
theorem flDeliver_any {w : World} {g : Nat} {S : Fl} {A0 : Option Addr} {q0 k0 : Nat} {mv tv : Value} (hg : FlAt w g S (.slice A0 q0 k0) mv tv) (p : Int) (x : Itm) {Ax : Option Addr} {qx cx : Nat} (hvx : Views w (.slice Ax qx cx) x.rc.pend) (hxo : x.Ok) (hxl : x.rc.pend.length ≤ 1000) (hT : Tab w) (hTn : ¬ Turns g mv 0) :
    Calls Tryd.prog 12 #[.pointer (some ⟨g, 0, none⟩), .int .i64 p, .agg (itemCells x (.slice Ax qx cx)).toArray] w fun e w' =>
      ∃ A c A' q' c' tv', e = .returned (.slice A (flDeliver S p x).2.length c) ∧ ExP (Turns g mv) w w' ∧ FlAt w' g (flDeliver S p x).1 (.slice A' q' c') mv tv' ∧ OutsT w' (.slice A (flDeliver S p x).2.length c) (flDeliver S p x).2 := by
  rcases hon : (S.live && !S.formed && shas S.mem p) with _ | _
  · exact (flDeliver_off hg p x _ hon).mono fun e w' ⟨he, hb⟩ => hg.idle (by unfold flDeliver; rw [hon]; rfl) he hb
  · have hl : S.live = true := by
      cases h : S.live
      · rw [h] at hon; cases hon
      · rfl
    have hf : S.formed = false := by
      cases h : S.formed
      · rfl
      · rw [hl, h] at hon; cases hon
    have hh : shas S.mem p = true := by
      rw [hl, hf] at hon
      exact hon
    obtain ⟨bm, D, rfl, hD⟩ : ∃ bm D, mv = .map (some bm) ∧ ToldIs w bm S.told D := by
      rcases hg.told with ⟨_, h, _⟩ | h
      · rw [hl] at h; cases h
      · exact h
    obtain ⟨n, rfl, hn⟩ : ∃ n : Nat, p = (n : Int) ∧ n < 64 := by
      unfold shas at hh
      rw [Bool.and_eq_true] at hh
      have h := of_decide_eq_true hh.1
      exact ⟨p.toNat, by omega, by omega⟩
    have hlen : S.told ((n : Int)).toNat = S.told n := by rw [Int.toNat_natCast]
    by_cases h2 : x.kind = 2
    · cases hs : S.told n with
      | none =>
        have e : flDeliver S (n : Int) x = flState S n x := by unfold flDeliver; rw [hon, if_pos rfl, if_pos ⟨h2, by rw [hlen, hs]⟩, Int.toNat_natCast]
        rw [e]
        exact flDeliver_state hg hD n hn x hl hf hh h2 hs hT hTn hvx hxo hxl rfl
      | some y =>
        have e : flDeliver S (n : Int) x = (S, []) := by
          unfold flDeliver
          rw [hon, if_pos rfl, if_neg (by rw [hlen, hs]; rintro ⟨_, h⟩; cases h), if_neg (by rw [h2]; rintro ⟨h, _⟩; omega)]
        exact (flDeliver_had hg hD n hn x _ hl hf hh h2 (by rw [hs]; rfl)).mono fun _ w' ⟨he, hb⟩ => hg.idle e he hb
    · by_cases h3 : x.kind = 3
      · cases ht : S.tried with
        | none =>
          have e : flDeliver S (n : Int) x = (S, []) := by
            unfold flDeliver
            rw [hon, if_pos rfl, if_neg (fun h => h2 h.1), if_neg (by rw [ht]; rintro ⟨_, h⟩; cases h)]
          exact (flDeliver_untried hg hD n hn x _ hl hf hh h3 ht).mono fun _ w' ⟨he, hb⟩ => hg.idle e he hb
        | some u =>
          by_cases hu : u = x.view
          · subst hu
            have e : flDeliver S (n : Int) x = flAgree S (n : Int) x.view := by
              unfold flDeliver
              rw [hon, if_pos rfl, if_neg (fun h => h2 h.1), if_pos ⟨h3, ht⟩]
            rw [e]
            exact flDeliver_agree hg hD n hn x _ hl hf hh h3 ht hT hTn rfl
          · have e : flDeliver S (n : Int) x = (S, []) := by
              unfold flDeliver
              rw [hon, if_pos rfl, if_neg (fun h => h2 h.1), if_neg (by rw [ht]; rintro ⟨_, h⟩; injection h with h; exact hu h)]
            exact (flDeliver_apart hg hD n hn x _ hl hf hh h3 u ht hu).mono fun _ w' ⟨he, hb⟩ => hg.idle e he hb
      · have e : flDeliver S (n : Int) x = (S, []) := by
          unfold flDeliver
          rw [hon, if_pos rfl, if_neg (fun h => h2 h.1), if_neg (fun h => h3 h.1)]
        exact (flDeliver_other hg hD n hn x _ hl hf hh h2 h3).mono fun _ w' ⟨he, hb⟩ => hg.idle e he hb
/-! the others, in the same words -/
def otState (S : Fl) (x : Itm) : Ot := ⟨1, { x with kind := 2, rc := S.rc }, ⟨Vw.none, []⟩, Vw.none, []⟩
theorem flRegularT_any {w : World} {g : Nat} {S : Fl} {A0 : Option Addr} {q0 k0 : Nat} {mv tv : Value} (hg : FlAt w g S (.slice A0 q0 k0) mv tv) {ep : Nat} (hep : S64 ep) (rep : Int) {m : Nat} (hm : S64 m) (x : Itm) (hxo : x.Ok) (Ax : Option Addr) (qx cx : Nat) :
    Calls Tryd.prog 10 #[.pointer (some ⟨g, 0, none⟩), .agg #[.int .u64 (ep : Int), .int .i64 rep], .int .u64 (m : Int), .agg (itemCells x (.slice Ax qx cx)).toArray] w fun e w' =>
      ∃ A bm, e = .returned (.slice A 1 1) ∧ Ex g w w' ∧ w.heap.size ≤ bm ∧ FlAt w' g (flRegular S ep rep m) (.slice A0 q0 k0) (.map (some bm)) (.pointer none) ∧ OutsT w' (.slice A 1 1) [otState S x] := by
  refine (flRegular_any hg.blk hg.views (Nat.le_trans hg.few (by decide)) ep rep m x Ax qx cx).mono ?_
  rintro e w' ⟨bm, bo, A3, q3, c3, rfl, hx, hb, hbm, hmp, hv3, hbo, hob⟩
  refine ⟨some ⟨bo, 0, none⟩, bm, rfl, hx, hbm, ⟨hb, hg.views.exR hx hg.blk (by decide), hg.last, hg.few, hep, hm, S64.zero, .inr ⟨bm, _, rfl, ToldIs.made w hmp⟩, rfl⟩, ?_⟩
  exact OutsT.one (iv := .slice A3 q3 c3) (rv := .slice none 0 0) (cv := .slice none 0 0) hob ⟨⟨hxo.inc, hxo.holds, hg.last, hxo.view, hxo.number⟩, Vw.none_ok, Vw.none_ok⟩ hv3 (ViewsT.nil _) (ItemsT.nil _)
theorem flNewT_any {w : World} {r : Rcd} {A : Option Addr} {q c : Nat} (hv : Views w (.slice A q c) r.pend) (hl : r.pend.length ≤ 1000) (hlast : r.last.Ok) :
    Calls Tryd.prog 9 #[.agg #[.int .u64 (r.last.number : Int), .int .u64 (r.last.epoch : Int), .int .i64 r.last.rep, .int .u64 (r.last.members : Int), .slice A q c]] w fun e w' =>
      ∃ g A' q' c', e = .returned (.pointer (some ⟨g, 0, none⟩)) ∧ w.heap.size ≤ g ∧ Below w.heap.size w w' ∧ FlAt w' g (flNew r) (.slice A' q' c') (.map none) (.pointer none) := by
  refine (flNew_any hv (Nat.le_trans hl (by decide))).mono ?_
  rintro e w' ⟨g, pv, rfl, hgl, hb, hblk, hvt⟩
  obtain ⟨A', c', rfl, _⟩ := hvt.views.slice
  exact ⟨g, A', _, c', rfl, hgl, hb, hblk, hvt, hlast, hl, S64.zero, S64.zero, S64.zero, .inl ⟨rfl, rfl, rfl⟩, rfl⟩
def flClose (S : Fl) : Fl := { S with live := false }
theorem FlAt.close {w : World} {g : Nat} {S : Fl} {pv mv tv : Value} (h : FlAt w g S pv mv tv) {w' : World} (hx : Ex g w w') (hb : Blk w' g 71 (flCells (flClose S) pv mv tv)) : FlAt w' g (flClose S) pv mv tv :=
  ⟨hb, h.views.kept (h.keptEx hx), h.last, h.few, h.cep, h.mem, h.agree, by
    rcases h.toldEx hx with ⟨h1, h2, h3⟩ | h1
    · exact .inl ⟨h1, rfl, h3⟩
    · exact .inr h1, h.tried.kept (h.keptEx hx)⟩
theorem flCloseT_any {w : World} {g : Nat} {S : Fl} {pv mv tv : Value} (h : FlAt w g S pv mv tv) :
    Calls Tryd.prog 11 #[.pointer (some ⟨g, 0, none⟩)] w fun e w' => e = .returned (.tuple #[]) ∧ Ex g w w' ∧ FlAt w' g (flClose S) pv mv tv := by
  refine (flClose_any h.blk).mono ?_
  rintro e w' ⟨rfl, hw, hb⟩
  have hx : Ex g w w' := by rw [hw]; exact Ex.cell _ _ _ _
  exact ⟨rfl, hx, h.close hx hb⟩
end Go.Proofs.YtalcoodidcehnaaDoor
