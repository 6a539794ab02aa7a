import Derived.Test.YtalcoodidcehnaaDoorFlO
import Derived.SizedLaws
import Derived.Test.YtalcoodidcehnaaDoorVtJ
namespace Go.Proofs.YtalcoodidcehnaaDoor
set_option linter.unusedVariables false
set_option linter.unusedSimpArgs false
open Go.RowKit
theorem view_neq (a b : Vw) (w : World) :
    (binOp .neq 35 (.agg #[.int .u64 (a.number : Int), .int .u64 (a.epoch : Int), .int .i64 a.rep, .int .u64 (a.members : Int)]) (.agg #[.int .u64 (b.number : Int), .int .u64 (b.epoch : Int), .int .i64 b.rep, .int .u64 (b.members : Int)])).run Tryd.prog w = .ok (.bool (!(decide (a = b)))) w := by
  rw [← view_eq_iff]
  go_simp
  by_cases h1 : (a.number : Int) = b.number <;> by_cases h2 : (a.epoch : Int) = b.epoch <;> by_cases h3 : a.rep = b.rep <;> by_cases h4 : (a.members : Int) = b.members <;> simp [h1, h2, h3, h4]
set_option maxRecDepth 20000 in
set_option maxHeartbeats 4000000 in
theorem refViewsB_any {w : World} {v v' : Value} {L L' : List Vw} (hv : Views w v L) (hv' : Views w v' L') (hl : L.length ≤ 2000000) (hl' : L'.length ≤ 2000000) {r : Bool} (hr : decide (L = L') = r) :
    Calls Tryd.prog 39 #[v, v'] w fun e w' => e = .returned (.bool r) ∧ Below w.heap.size w w' := by
  obtain ⟨A, c, rfl, _⟩ := hv.slice
  obtain ⟨A', c', rfl, _⟩ := hv'.slice
  obtain ⟨n, hn⟩ : ∃ n, n = L.length := ⟨_, rfl⟩
  obtain ⟨n', hn'⟩ : ∃ n', n' = L'.length := ⟨_, rfl⟩
  have hn6 : n ≤ 2000000 := by omega
  have hn6' : n' ≤ 2000000 := by omega
  have HN := Lib.hid hn
  have HN' := Lib.hid hn'
  have HR := Lib.hid hr
  rw [← hn] at hv ⊢
  rw [← hn'] at hv' ⊢
  have HV := Lib.hid hv
  have HV' := Lib.hid hv'
  clear hv hv' hl hl' hn hn' hr
  by_cases hne : n = n'
  · obtain rfl : n = n' := hne
    have hnn : ((n : Int) != (n : Int)) = false := by simp
    go_enter Tryd.func39, Tryd.ntmps39
    go_wp2_with fail
    go_loopw [5] (fun i wr => ∃ k : Nat, k ≤ n ∧ i = .int .i64 k ∧ Hid (L.take k = L'.take k) ∧ Hid (Below w.heap.size w wr)) (fun i _ => n - (intOf i).toNat)
    case atStart => exact ⟨0, by omega, rfl, by simp [Hid], Below.refl _ _⟩
    case round =>
      obtain ⟨k, hk, rfl, HE, HB⟩ := hrel
      by_cases hlt : k < n
      · have hlt2 : k < L.length := by rw [← HN.out]; exact hlt
        have hlt3 : k < L'.length := by rw [← HN'.out]; exact hlt
        obtain ⟨b, off, rfl, c0, c1, c2, c3, hbl, hok⟩ := HV.out.in HB.out k hlt2
        obtain ⟨b', off', rfl, e0, e1, e2, e3, hbl', hok'⟩ := HV'.out.in HB.out k hlt3
        have htk : L.take (k + 1) = L.take k ++ [L[k]] := List.take_succ_eq_append_getElem hlt2
        have htk' : L'.take (k + 1) = L'.take k ++ [L'[k]] := List.take_succ_eq_append_getElem hlt3
        have hget : L = L' → L[k] = L'[k] := fun e => by subst e; rfl
        obtain ⟨y, hy⟩ : ∃ y, y = L[k] := ⟨_, rfl⟩
        obtain ⟨z, hz⟩ : ∃ z, z = L'[k] := ⟨_, rfl⟩
        rw [← hy] at c0 c1 c2 c3 hok htk hget
        rw [← hz] at e0 e1 e2 e3 hok' htk' hget
        have hkI0 : (0 : Int) ≤ (k : Int) := Int.natCast_nonneg _
        have hkI1 : (k : Int) < (n : Int) := by omega
        have HTK := Lib.hid htk
        have HTK' := Lib.hid htk'
        have HGET := Lib.hid hget
        clear hy hz hlt2 hlt3 hok hok' htk htk' hget
        by_cases hyz : y = z
        · subst hyz
          go_wp2_with fail
          go_quiet (fail)
          go_wp2_with fail
          go_roundw
          case rel =>
            refine ⟨k + 1, by omega, by go_num, ?_, bdrewN HB.out _⟩
            show _ = _
            rw [HTK.out, HTK'.out, HE.out]
          case measure => simp [intOf] <;> omega
        · have heq : ∀ w, (binOp .neq 35 (.agg #[.int .u64 (y.number : Int), .int .u64 (y.epoch : Int), .int .i64 y.rep, .int .u64 (y.members : Int)]) (.agg #[.int .u64 (z.number : Int), .int .u64 (z.epoch : Int), .int .i64 z.rep, .int .u64 (z.members : Int)])).run Tryd.prog w = .ok (.bool true) w := fun w => by
            have := view_neq y z w
            rw [decide_eq_false hyz] at this
            exact this
          have hrf : r = false := by rw [← HR.out]; exact decide_eq_false (fun e => hyz (HGET.out e))
          have HRF := Lib.hid hrf
          clear hyz hrf
          go_wp2_with fail
          go_quiet (fail)
          go_wp2_with fail
          go_ret
          exact ⟨by rw [HRF.out]; rfl, bdrewN HB.out _⟩
      · obtain rfl : k = n := by omega
        have hrt : r = true := by
          rw [← HR.out]
          refine decide_eq_true ?_
          have := HE.out
          rwa [List.take_of_length_le (by rw [HN.out]; exact Nat.le_refl _), List.take_of_length_le (by rw [HN'.out]; exact Nat.le_refl _)] at this
        have HRT := Lib.hid hrt
        clear hlt hk hrt
        go_wp2_with fail
        go_ret
        exact ⟨by rw [HRT.out]; rfl, HB.out⟩
  · have hnn : ((n : Int) != (n' : Int)) = true := by rw [bne_iff_ne]; omega
    have hrf : r = false := by
      rw [← HR.out]
      refine decide_eq_false (fun e => hne ?_)
      rw [HN.out, HN'.out, e]
    have HRF := Lib.hid hrf
    clear hne hrf
    go_enter Tryd.func39, Tryd.ntmps39
    go_wp2_with fail
    go_ret
    exact ⟨by rw [HRF.out]; rfl, Below.refl _ _⟩
theorem Rcd.ext_iff' (a b : Rcd) : a = b ↔ a.last = b.last ∧ a.pend = b.pend := by
  obtain ⟨a1, a2⟩ := a
  obtain ⟨b1, b2⟩ := b
  simp
instance : DecidableEq Rcd := fun a b => decidable_of_iff _ (Rcd.ext_iff' a b).symm
theorem rcd_dec (a b : Rcd) : decide (a = b) = (decide (a.last = b.last) && decide (a.pend = b.pend)) := by
  rw [Bool.eq_iff_iff, Bool.and_eq_true, decide_eq_true_iff, decide_eq_true_iff, decide_eq_true_iff]
  exact Rcd.ext_iff' a b
set_option maxRecDepth 20000 in
set_option maxHeartbeats 4000000 in
theorem refSameB_any {w : World} {a b : Rcd} {A B : Option Addr} {q c q' c' : Nat} (hv : Views w (.slice A q c) a.pend) (hv' : Views w (.slice B q' c') b.pend) (hl : a.pend.length ≤ 2000000) (hl' : b.pend.length ≤ 2000000) {r : Bool} (hr : decide (a = b) = r) :
    Calls Tryd.prog 19 #[.agg #[.int .u64 (a.last.number : Int), .int .u64 (a.last.epoch : Int), .int .i64 a.last.rep, .int .u64 (a.last.members : Int), .slice A q c], .agg #[.int .u64 (b.last.number : Int), .int .u64 (b.last.epoch : Int), .int .i64 b.last.rep, .int .u64 (b.last.members : Int), .slice B q' c']] w
      fun e w' => e = .returned (.bool r) ∧ Below w.heap.size w w' := by
  rw [rcd_dec] at hr
  have hb2 : ∀ o1 o2, Below w.heap.size w ((w.alloc o1).alloc o2) := fun o1 o2 => bal (bal (Below.refl _ _) _) _
  have HB := Lib.hid hb2
  have heq := view_eql a.last b.last
  have HV := Lib.hid hv
  have HV' := Lib.hid hv'
  by_cases h1 : a.last = b.last
  · rw [decide_eq_true h1] at heq hr
    rw [Bool.true_and] at hr
    have HR := Lib.hid hr
    clear h1 hr hv hv' hb2
    go_enter Tryd.func19, Tryd.ntmps19
    go_wp2_with fail
    refine (refViewsB_any (HV.out.below (bal (bal (Below.refl _ _) _) _)) (HV'.out.below (bal (bal (Below.refl _ _) _) _)) hl hl' HR.out).mono ?_
    rintro e w2 ⟨rfl, hb⟩
    have HB2 := Lib.hid (btr (HB.out _ _) hb)
    clear hb
    go_wp2_with fail
    go_ret
    exact ⟨rfl, HB2.out⟩
  · rw [decide_eq_false h1] at heq hr
    rw [Bool.false_and] at hr
    have HR := Lib.hid hr
    clear h1 hr hv hv' hb2
    go_enter Tryd.func19, Tryd.ntmps19
    go_wp2_with fail
    go_ret
    exact ⟨by rw [← HR.out]; rfl, HB.out _ _⟩
end Go.Proofs.YtalcoodidcehnaaDoor
namespace Go.Proofs.YtalcoodidcehnaaDoor
set_option linter.unusedVariables false
set_option linter.unusedSimpArgs false
open Go.RowKit
/-! acts -/
structure Fa where
  kind : Int
  src : Int
  own : Int
  cep : Nat
  crep : Int
  mem : Nat
  x : Itm
structure Fa.Ok (a : Fa) : Prop where
  cep : S64 a.cep
  mem : S64 a.mem
  x : a.x.Ok
def faCells (a : Fa) (v : Value) : List Value :=
  [.int .i64 a.kind, .int .i64 a.src, .int .i64 a.own, .int .u64 (a.cep : Int), .int .i64 a.crep, .int .u64 (a.mem : Int),
   .int .i64 a.x.kind, .string a.x.data, .int .u32 (a.x.inc : Int), .int .u64 (a.x.holds : Int), .bool a.x.has, .bool a.x.direct,
   .int .u64 (a.x.rc.last.number : Int), .int .u64 (a.x.rc.last.epoch : Int), .int .i64 a.x.rc.last.rep, .int .u64 (a.x.rc.last.members : Int), v,
   .int .u64 (a.x.view.number : Int), .int .u64 (a.x.view.epoch : Int), .int .i64 a.x.view.rep, .int .u64 (a.x.view.members : Int),
   .int .u64 (a.x.number : Int), .int .i64 a.x.index, .int .i64 a.x.total]
def KFa : World → Fa → List Value → Prop := fun w a cs => ∃ v, cs = faCells a v ∧ a.Ok ∧ Views w v a.x.rc.pend ∧ a.x.rc.pend.length ≤ reachBytes
theorem KFa.stays : Stays KFa := fun _ _ _ _ ⟨v, h1, h2, h3, h4⟩ hb => ⟨v, h1, h2, h3.below hb, h4⟩
abbrev Fas (w : World) (v : Value) (l : List Fa) : Prop := Sl KFa 24 w v l
theorem Fas.below {w w' : World} {v : Value} {xs : List Fa} (h : Fas w v xs) (hb : Below w.heap.size w w') : Fas w' v xs := Sl.below KFa.stays (by decide) h hb
def asum (l : List Fa) : Nat := (l.map fun a => 1 + a.x.rc.pend.length).sum
theorem asum_take (l : List Fa) (k : Nat) (hk : k < l.length) : asum (l.take (k + 1)) = asum (l.take k) + (1 + l[k].x.rc.pend.length) := by
  unfold asum
  rw [List.take_succ_eq_append_getElem hk, List.map_append, List.sum_append]
  simp
theorem asum_mem {l : List Fa} {a : Fa} (h : a ∈ l) : a.x.rc.pend.length ≤ asum l := by
  unfold asum
  induction l with
  | nil => cases h
  | cons b l ih =>
    rw [List.map_cons, List.sum_cons]
    rcases List.mem_cons.1 h with rfl | h
    · omega
    · have := ih h; omega
/-- what Few says yes to -/
structure FewA (l : List Fa) : Prop where
  len : l.length ≤ 100
  pend : ∀ a, a ∈ l → a.x.rc.pend.length ≤ 500
def FewPost (L : List Fa) (w : World) (e : Ending) (w' : World) : Prop := ∃ b, e = .returned (.bool b) ∧ (b = true → FewA L) ∧ w = w'
set_option maxRecDepth 20000 in
set_option maxHeartbeats 4000000 in
theorem few20_any {w : World} {v : Value} {L : List Fa} (hv : Fas w v L) :
    Calls Tryd.prog 18 #[v] w (FewPost L w) := by
  obtain ⟨A, c, rfl, _⟩ := hv.slice
  obtain ⟨n, hn⟩ : ∃ n, n = L.length := ⟨_, rfl⟩
  have HN := Lib.hid hn
  rw [← hn] at hv ⊢
  have HV := Lib.hid hv
  clear hv hn
  go_enter Tryd.func18, Tryd.ntmps18
  go_wp2_with fail
  go_loopw [3, 4] (fun a i wr => ∃ k s : Nat, k ≤ n ∧ k ≤ 100 ∧ s ≤ 500 ∧ i = .int .i64 k ∧ a = .int .i64 (s : Nat) ∧ Hid (s = asum (L.take k)) ∧ w = wr) (fun _ i _ => n - (intOf i).toNat)
  case atStart => exact ⟨0, 0, by omega, by omega, by omega, rfl, rfl, rfl, rfl⟩
  case round =>
    obtain ⟨k, s, hk, hks, hs, rfl, rfl, HS, rfl⟩ := hrel
    by_cases hlt : k < n
    · have hlt2 : k < L.length := by rw [← HN.out]; exact hlt
      obtain ⟨b1, off, cs, rfl, ⟨v, rfl, hok, hpv, hrr⟩, -, hrg⟩ := Sl.at HV.out k hlt2
      have htk := asum_take L k hlt2
      obtain ⟨a, ha⟩ : ∃ a, a = L[k] := ⟨_, rfl⟩
      rw [← ha] at hok hpv hrr hrg htk
      obtain ⟨A2, c2, rfl, _⟩ := hpv.slice
      obtain ⟨q, hq⟩ : ∃ q, q = a.x.rc.pend.length := ⟨_, rfl⟩
      rw [← hq] at hpv hrr hrg htk
      have d1 : w.cell? ⟨b1, off + k * 24 + 7, none⟩ = some (.string a.x.data) := hrg 7 _ rfl
      have d2 : w.cell? ⟨b1, off + k * 24 + 16, none⟩ = some (.slice A2 q c2) := hrg 16 _ rfl
      have hbl := World.block_lt_of_cell? w _ d1
      rw [← HS.out] at htk
      have hq2 : q ≤ 140737488351232 := hrr
      have HTK := Lib.hid htk
      obtain ⟨z, hz⟩ : ∃ z, z = a.x.data := ⟨_, rfl⟩
      rw [← hz] at d1
      clear ha hok hpv hrr hrg hq hlt2 htk hz
      have hk0 : (0 : Int) ≤ (k : Int) := Int.natCast_nonneg _
      by_cases hc1 : k < 100
      · have hd2 : decide ((100 : Int) ≤ (k : Int)) = false := decide_eq_false (by omega)
        have hd2' : decide (100 ≤ k) = false := decide_eq_false (by omega)
        by_cases hc2 : s + 1 + q ≤ 500
        · have hd : decide ((500 : Int) < (s : Int) + 1 + (q : Int)) = false := decide_eq_false (by omega)
          by_cases hc3 : 2000 < z.size
          · have hd3 : decide ((2000 : Int) < (z.size : Int)) = true := decide_eq_true (by omega)
            have hd3' : decide (2000 < z.size) = true := decide_eq_true hc3
            go_wp2_with fail
            go_ret
            exact ⟨false, rfl, (fun h => by cases h), rfl⟩
          · have hd3 : decide ((2000 : Int) < (z.size : Int)) = false := decide_eq_false (by omega)
            have hd3' : decide (2000 < z.size) = false := decide_eq_false hc3
            go_wp2_with fail
            go_roundw
            case rel => exact ⟨k + 1, s + 1 + q, by omega, by omega, hc2, by go_num, by go_num, by rw [HTK.out]; show _ = _; omega, trivial⟩
            case measure => simp [intOf] <;> omega
        · have hd : decide ((500 : Int) < (s : Int) + 1 + (q : Int)) = true := decide_eq_true (by omega)
          go_wp2_with fail
          go_ret
          exact ⟨false, rfl, (fun h => by cases h), rfl⟩
      · have hd2 : decide ((100 : Int) ≤ (k : Int)) = true := decide_eq_true (by omega)
        have hd2' : decide (100 ≤ k) = true := decide_eq_true (by omega)
        go_wp2_with fail
        go_ret
        exact ⟨false, rfl, (fun h => by cases h), rfl⟩
    · obtain rfl : k = n := by omega
      have hfew : FewA L := by
        refine ⟨by rw [← HN.out]; omega, fun a ha => ?_⟩
        have h1 := asum_mem ha
        have h2 := HS.out
        rw [List.take_of_length_le (by rw [HN.out]; exact Nat.le_refl _)] at h2
        omega
      have HF := Lib.hid hfew
      clear hfew hlt hk
      go_wp2_with fail
      go_ret
      exact ⟨true, rfl, fun _ => HF.out, rfl⟩
end Go.Proofs.YtalcoodidcehnaaDoor
namespace Go.Proofs.YtalcoodidcehnaaDoor
set_option linter.unusedVariables false
set_option linter.unusedSimpArgs false
open Go.RowKit
def aR0 : Rcd := ⟨⟨0, 0, 0, 1⟩, []⟩
def aX1 : Itm := { Itm.zero with inc := 5 }
def aS1 : Fl := flRegular (flNew aR0) 2 0 1
def aXs : Itm := (otState (flNew aR0) aX1).item
def aSt : Fl := { aS1 with told := tput aS1.told 0 aXs }
theorem a_first : flDeliver aS1 0 aXs = ({ aSt with rc := vadd aSt.rc (flView aSt), tried := some (flView aSt) }, [otWrite aSt, otTry aSt]) := by
  have h1 : flDeliver aS1 0 aXs = flState aS1 0 aXs := rfl
  have h2 : flState aS1 0 aXs = flTry aSt := by unfold flState; rw [if_pos (by decide +kernel)]; rfl
  have h3 : flTry aSt = ({ aSt with rc := vadd aSt.rc (flView aSt), tried := some (flView aSt) }, [otWrite aSt, otTry aSt]) := flTry_yes (by decide +kernel)
  rw [h1, h2, h3]
def aS2 : Fl := { aSt with rc := vadd aSt.rc (flView aSt), tried := some (flView aSt) }
def aV : Vw := ⟨1, 2, 0, 1⟩
theorem a_view : flView aSt = aV := by decide +kernel
theorem a_second : flDeliver aS2 0 (otTry aSt).item = ({ aS2 with agree := 1, rc := vform aS2.rc aV, formed := true }, [otView aS2 aV]) := by
  have h1 : flDeliver aS2 0 (otTry aSt).item = flAgree aS2 0 (otTry aSt).item.view := by
    unfold flDeliver
    rw [if_pos (by decide +kernel), if_neg (by decide +kernel), if_pos ⟨rfl, rfl⟩]
  have h2 : (otTry aSt).item.view = aV := a_view
  have h3 : swith aS2.agree [0] = 1 := by decide +kernel
  rw [h1, h2]
  unfold flAgree
  rw [h3, if_pos (by decide +kernel)]
theorem a_pend : (vadd aSt.rc (flView aSt)).pend.length = 1 := by decide +kernel
theorem a_claims : (flClaims aS2).length = 1 := by decide +kernel
theorem a_left : (vform aS2.rc aV).pend = [] := by decide +kernel
theorem flNewE {w : World} {r : Rcd} {A : Option Addr} {q c : Nat} {a : Value} (ha : a = .agg #[.int .u64 (r.last.number : Int), .int .u64 (r.last.epoch : Int), .int .i64 r.last.rep, .int .u64 (r.last.members : Int), .slice A q c]) (hv : Views w (.slice A q c) r.pend) (hl : r.pend.length ≤ 1000) (hlast : r.last.Ok) :
    Calls Tryd.prog 9 #[a] w fun e w' =>
      ∃ g A' q' c', e = .returned (.pointer (some ⟨g, 0, none⟩)) ∧ w.heap.size ≤ g ∧ Below w.heap.size w w' ∧ FlAt w' g (flNew r) (.slice A' q' c') (.map none) (.pointer none) := by
  subst ha; exact flNewT_any hv hl hlast
theorem flRegularE {w : World} {g : Nat} {S : Fl} {A0 : Option Addr} {q0 k0 : Nat} {mv tv : Value} (hg : FlAt w g S (.slice A0 q0 k0) mv tv) {ep : Nat} (hep : S64 ep) (rep : Int) {m : Nat} (hm : S64 m) (x : Itm) (hxo : x.Ok) (Ax : Option Addr) (qx cx : Nat) {a b c : Value}
    (ha : a = .agg #[.int .u64 (ep : Int), .int .i64 rep]) (hb : b = .int .u64 (m : Int)) (hc : c = .agg (itemCells x (.slice Ax qx cx)).toArray) :
    Calls Tryd.prog 10 #[.pointer (some ⟨g, 0, none⟩), a, b, c] w fun e w' =>
      ∃ A bm, e = .returned (.slice A 1 1) ∧ Ex g w w' ∧ w.heap.size ≤ bm ∧ FlAt w' g (flRegular S ep rep m) (.slice A0 q0 k0) (.map (some bm)) (.pointer none) ∧ OutsT w' (.slice A 1 1) [otState S x] := by
  subst ha hb hc; exact flRegularT_any hg hep rep hm x hxo Ax qx cx
/-- an out of a list, as a range of cells -/
theorem OutsT.at {w : World} {A : Option Addr} {n c : Nat} {l : List Ot} (h : OutsT w (.slice A n c) l) (k : Nat) (hk : k < l.length) :
    ∃ b off iv rv cv, A = some (⟨b, off, none⟩ : Addr) ∧ b < w.heap.size ∧ l[k].Ok ∧ ViewsT w iv l[k].item.rc.pend ∧ ViewsT w rv l[k].rc.pend ∧ ItemsT w cv l[k].claims ∧ w.rangeAt b (off + k * 29) (outCells l[k] iv rv cv) := by
  obtain ⟨b, off, cs, hA, ⟨iv, rv, cv, rfl, h1, h2, h3, h4⟩, hl, hr⟩ := Sl.at h.sl k hk
  exact ⟨b, off, iv, rv, cv, hA, World.block_lt_of_cell? w _ (hr 0 _ rfl), h1, h2, h3, h4, hr⟩
theorem rangeAt_item {w : World} {b o : Nat} {ot : Ot} {iv rv cv : Value} (h : w.rangeAt b o (outCells ot iv rv cv)) : w.rangeAt b (o + 1) (itemCells ot.item iv) := by
  intro j u hu
  have hj : j < 18 := (List.getElem?_eq_some_iff.1 hu).1
  have e : (outCells ot iv rv cv)[1 + j]? = (itemCells ot.item iv)[j]? := by
    match j, hj with
    | 0, _ | 1, _ | 2, _ | 3, _ | 4, _ | 5, _ | 6, _ | 7, _ | 8, _ | 9, _ | 10, _ | 11, _ | 12, _ | 13, _ | 14, _ | 15, _ | 16, _ | 17, _ => rfl
  have := h (1 + j) u (by rw [e]; exact hu)
  rwa [← Nat.add_assoc] at this
end Go.Proofs.YtalcoodidcehnaaDoor
