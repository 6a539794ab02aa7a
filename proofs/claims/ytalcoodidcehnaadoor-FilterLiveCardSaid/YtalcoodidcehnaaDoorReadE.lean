import Derived.Test.YtalcoodidcehnaaDoorProg
import Derived.Test.YtalcoodidcehnaaDoorItem
import Derived.Test.YtalcoodidcehnaaDoorLaw
import Derived.SizedLaws
import Derived.Test.YtalcoodidcehnaaDoorFlR
namespace Go.Proofs.YtalcoodidcehnaaDoor
set_option linter.unusedVariables false
set_option linter.unusedSimpArgs false
open Go.ChangeShapes Go.WideShapes Go.ChangeAt Go.RowKit
/-! what is read as data, read as views, records, items, names -/
section
variable {H : Type} {enc : TypeId × Value → H} {w : World} {base : Nat} {spare : Nat → Bool} {held : Bool}
theorem trod_fields {P : Program} {t : TypeId} {fs : Array Field} {fuel : Nat} {cs : List Value} {x : DataW H × List MemPlace} (ht : P.underlying t = some (.struct fs)) (h : DataW.trod enc P w base spare held fuel t cs = some x) :
    cs.length = P.cellsOf t ∧ ∃ n, ∀ (i : Nat) (f : Field), fs[i]? = some f → ∃ y, DataW.trod enc P w base spare held n f.type ((cs.drop f.offset).take (P.cellsOf f.type)) = some y := by
  obtain ⟨xs, n, _, _, hl, hlen, hf⟩ := DataW.trod_struct ht h
  refine ⟨hl, n, fun i f hi => ?_⟩
  have hi' : i < xs.length := by rw [hlen]; exact (Array.getElem?_eq_some_iff.1 hi).1
  exact ⟨xs[i], by rw [hf i f hi]; simp [hi']⟩
theorem u64_of_trod {P : Program} {t : TypeId} {fuel : Nat} {cs : List Value} {x : DataW H × List MemPlace} (ht : P.underlying t = some (.int .u64)) (h : DataW.trod enc P w base spare held fuel t cs = some x) : ∃ k : Nat, cs = [.int .u64 (k : Int)] ∧ S64 k := by
  obtain ⟨n, rfl, _, hw⟩ := DataW.trod_int ht h
  obtain ⟨k, rfl, hk⟩ := u64_nat hw
  exact ⟨k, rfl, hk⟩
theorem u32_of_trod {P : Program} {t : TypeId} {fuel : Nat} {cs : List Value} {x : DataW H × List MemPlace} (ht : P.underlying t = some (.int .u32)) (h : DataW.trod enc P w base spare held fuel t cs = some x) : ∃ k : Nat, cs = [.int .u32 (k : Int)] ∧ k < 4294967296 := by
  obtain ⟨n, rfl, _, hw⟩ := DataW.trod_int ht h
  have := bounds_u32 hw
  exact ⟨n.toNat, by rw [show ((n.toNat : Nat) : Int) = n by omega], by omega⟩
theorem i64_of_trod {P : Program} {t : TypeId} {fuel : Nat} {cs : List Value} {x : DataW H × List MemPlace} (ht : P.underlying t = some (.int .i64)) (h : DataW.trod enc P w base spare held fuel t cs = some x) : ∃ k : Int, cs = [.int .i64 k] := by
  obtain ⟨n, rfl, _, hw⟩ := DataW.trod_int ht h
  exact ⟨n, rfl⟩
theorem cU64 : Tryd.prog.cellsOf 25 = 1 := by kernel_rfl
theorem cU32 : Tryd.prog.cellsOf 43 = 1 := by kernel_rfl
theorem cI64 : Tryd.prog.cellsOf 3 = 1 := by kernel_rfl
theorem cBool : Tryd.prog.cellsOf 4 = 1 := by kernel_rfl
theorem cStr : Tryd.prog.cellsOf 9 = 1 := by kernel_rfl
theorem cConf : Tryd.prog.cellsOf 30 = 2 := by kernel_rfl
theorem cView : Tryd.prog.cellsOf 35 = 4 := by kernel_rfl
theorem cViews : Tryd.prog.cellsOf 36 = 1 := by kernel_rfl
theorem cRec : Tryd.prog.cellsOf 38 = 5 := by kernel_rfl
theorem cItem : Tryd.prog.cellsOf 45 = 18 := by kernel_rfl
set_option maxRecDepth 20000 in
theorem view_of_trod {fuel : Nat} {cs : List Value} {x : DataW H × List MemPlace} (h : DataW.trod enc Tryd.prog w base spare held fuel 35 cs = some x) : ∃ a, KView w a cs := by
  obtain ⟨hl, n, hf⟩ := trod_fields Tryd.underlying35 h
  rw [cView] at hl
  match cs, hl with
  | [c0, c1, c2, c3], _ =>
    obtain ⟨_, h0⟩ := hf 0 _ rfl
    obtain ⟨_, h1⟩ := hf 1 _ rfl
    obtain ⟨_, h2⟩ := hf 2 _ rfl
    simp [cU64, cConf] at h0 h1 h2
    obtain ⟨k, e0, k0⟩ := u64_of_trod Tryd.underlying25 h0
    obtain ⟨m, e3, k3⟩ := u64_of_trod Tryd.underlying25 h2
    obtain ⟨_, n', hf'⟩ := trod_fields Tryd.underlying30 h1
    obtain ⟨_, g0⟩ := hf' 0 _ rfl
    obtain ⟨_, g1⟩ := hf' 1 _ rfl
    simp [cU64, cI64] at g0 g1
    obtain ⟨e, e1, k1⟩ := u64_of_trod Tryd.underlying25 g0
    obtain ⟨r, e2⟩ := i64_of_trod Tryd.underlying3 g1
    simp at e0 e1 e2 e3
    subst e0 e1 e2 e3
    exact ⟨⟨k, e, r, m⟩, rfl, k0, k1, k3⟩
theorem sl_of_cells {P : Program} {α : Type} {K : World → α → List Value → Prop} {sz : Nat} {t e : TypeId} {fuel : Nat} {cs : List Value} {x : DataW H × List MemPlace}
    (ht : P.underlying t = some (.slice e)) (he : P.cellsOf e = sz) (hsz : 0 < sz)
    (hK : ∀ (fuel : Nat) (cs : List Value) (x : DataW H × List MemPlace), cs.length = sz → DataW.trod enc P w base spare held fuel e cs = some x → ∃ a, K w a cs)
    (h : DataW.trod enc P w base spare held fuel t cs = some x) : ∃ v xs, cs = [v] ∧ Sl K sz w v xs := by
  have hs : ∃ A len cap, cs = [.slice A len cap] := by
    rcases Go.Deep.open_slice ht h with ⟨rfl, _⟩ | ⟨a, len, cap, _, _, _, _, rfl, _⟩
    · exact ⟨_, _, _, rfl⟩
    · exact ⟨_, _, _, rfl⟩
  obtain ⟨A, len, cap, rfl⟩ := hs
  obtain ⟨xs, hx⟩ := sl_of_trod (v := .slice A len cap) (d := x.1) (ps := x.2) ht he hsz hK ⟨_, _, _, rfl⟩ ⟨fuel, h⟩
  exact ⟨_, xs, rfl, hx⟩
theorem views_of_trod {fuel : Nat} {cs : List Value} {x : DataW H × List MemPlace} (h : DataW.trod enc Tryd.prog w base spare held fuel 36 cs = some x) : ∃ v xs, cs = [v] ∧ Views w v xs :=
  sl_of_cells Tryd.underlying36 cView (by decide) (fun _ _ _ _ h => view_of_trod h) h
set_option maxRecDepth 20000 in
theorem rec_of_trod {fuel : Nat} {cs : List Value} {x : DataW H × List MemPlace} (h : DataW.trod enc Tryd.prog w base spare held fuel 38 cs = some x) : ∃ a, KRec w a cs := by
  obtain ⟨hl, n, hf⟩ := trod_fields Tryd.underlying38 h
  rw [cRec] at hl
  match cs, hl with
  | [c0, c1, c2, c3, c4], _ =>
    obtain ⟨_, h0⟩ := hf 0 _ rfl
    obtain ⟨_, h1⟩ := hf 1 _ rfl
    simp [cView, cViews] at h0 h1
    obtain ⟨a, e0, ha⟩ := view_of_trod h0
    obtain ⟨v, xs, e1, hv⟩ := views_of_trod h1
    simp [viewCells] at e0 e1
    obtain ⟨rfl, rfl, rfl, rfl⟩ := e0
    subst e1
    exact ⟨⟨a, xs⟩, _, rfl, ha, hv⟩
set_option maxRecDepth 20000 in
theorem item_of_trod {fuel : Nat} {cs : List Value} {x : DataW H × List MemPlace} (h : DataW.trod enc Tryd.prog w base spare held fuel 45 cs = some x) : ∃ a, KItem w a cs := by
  obtain ⟨hl, n, hf⟩ := trod_fields Tryd.underlying45 h
  rw [cItem] at hl
  match cs, hl with
  | [c0, c1, c2, c3, c4, c5, c6, c7, c8, c9, c10, c11, c12, c13, c14, c15, c16, c17], _ =>
    obtain ⟨_, h0⟩ := hf 0 _ rfl
    obtain ⟨_, h1⟩ := hf 1 _ rfl
    obtain ⟨_, h2⟩ := hf 2 _ rfl
    obtain ⟨_, h3⟩ := hf 3 _ rfl
    obtain ⟨_, h4⟩ := hf 4 _ rfl
    obtain ⟨_, h5⟩ := hf 5 _ rfl
    obtain ⟨_, h6⟩ := hf 6 _ rfl
    obtain ⟨_, h7⟩ := hf 7 _ rfl
    obtain ⟨_, h8⟩ := hf 8 _ rfl
    obtain ⟨_, h9⟩ := hf 9 _ rfl
    obtain ⟨_, h10⟩ := hf 10 _ rfl
    simp [cU64, cU32, cI64, cBool, cStr, cRec, cView] at h0 h1 h2 h3 h4 h5 h6 h7 h8 h9 h10
    obtain ⟨kd, e0⟩ := i64_of_trod Tryd.underlying3 h0
    obtain ⟨dt, e1, _⟩ := DataW.trod_string Tryd.underlying9 h1
    obtain ⟨ic, e2, k2⟩ := u32_of_trod Tryd.underlying43 h2
    obtain ⟨ho, e3, k3⟩ := u64_of_trod Tryd.underlying25 h3
    obtain ⟨ha, e4, _⟩ := DataW.trod_bool Tryd.underlying4 h4
    obtain ⟨di, e5, _⟩ := DataW.trod_bool Tryd.underlying4 h5
    obtain ⟨rc, v, e6, k6, k6'⟩ := rec_of_trod h6
    obtain ⟨vw, e7, k7⟩ := view_of_trod h7
    obtain ⟨nu, e8, k8⟩ := u64_of_trod Tryd.underlying25 h8
    obtain ⟨ix, e9⟩ := i64_of_trod Tryd.underlying3 h9
    obtain ⟨tt, e10⟩ := i64_of_trod Tryd.underlying3 h10
    simp [viewCells, recCells] at e0 e1 e2 e3 e4 e5 e6 e7 e8 e9 e10
    obtain ⟨rfl, rfl, rfl, rfl, rfl⟩ := e6
    obtain ⟨rfl, rfl, rfl, rfl⟩ := e7
    subst e0 e1 e2 e3 e4 e5 e8 e9 e10
    exact ⟨⟨kd, dt, ic, ho, ha, di, rc, vw, nu, ix, tt⟩, _, rfl, ⟨k2, k3, k6, k7, k8⟩, k6'⟩
theorem items_of_trod {v : Value} {d : DataW H} {ps : List MemPlace} (h : DataW.Trod enc Tryd.prog w base spare held 32 v d ps) (hc : ∃ A len cap, v = .slice A len cap) : ∃ xs, Items w v xs :=
  sl_of_trod Tryd.underlying32 cItem (by decide) (fun _ _ _ _ h => item_of_trod h) hc h
end
end Go.Proofs.YtalcoodidcehnaaDoor
namespace Go.Proofs.YtalcoodidcehnaaDoor
set_option linter.unusedVariables false
set_option linter.unusedSimpArgs false
open Go.ChangeShapes Go.WideShapes Go.ChangeAt Go.RowKit
/-! what is read as data, with the reach: no slice in it is longer than memory -/
section
variable {H : Type} {enc : TypeId × Value → H} {w : World} {base : Nat} {spare : Nat → Bool} {held : Bool}
def Light (P : Program) (t : TypeId) (d : DataW H) : Prop := ∀ n ∈ d.weights P t, n ≤ reachBytes
theorem weights_each_get {P : Program} : ∀ {ts : List TypeId} {ds : List (DataW H)}, (∀ n ∈ DataW.weightsEach P ts ds, n ≤ reachBytes) → ∀ (i : Nat) t d, ts[i]? = some t → ds[i]? = some d → Light P t d :=
  fun h i t d ht hd n hn => h n (DataW.weights_mem_each ht hd n hn)
theorem weights_all_get {P : Program} {e : TypeId} : ∀ {ds : List (DataW H)}, (∀ n ∈ DataW.weightsAll P e ds, n ≤ reachBytes) → ∀ d, d ∈ ds → Light P e d
  | [], _, d, hd => by cases hd
  | d0 :: ds, h, d, hd => by
    simp only [DataW.weightsAll, List.mem_append] at h
    rcases List.mem_cons.1 hd with rfl | hd
    · exact fun n hn => h n (.inl hn)
    · exact weights_all_get (fun n hn => h n (.inr hn)) d hd
theorem trod_fieldsW {P : Program} {t : TypeId} {fs : Array Field} {fuel : Nat} {cs : List Value} {x : DataW H × List MemPlace} (ht : P.underlying t = some (.struct fs)) (h : DataW.trod enc P w base spare held fuel t cs = some x) (hw : Light P t x.1) :
    cs.length = P.cellsOf t ∧ ∃ n, ∀ (i : Nat) (f : Field), fs[i]? = some f → ∃ y, DataW.trod enc P w base spare held n f.type ((cs.drop f.offset).take (P.cellsOf f.type)) = some y ∧ Light P f.type y.1 := by
  obtain ⟨xs, n, _, hx, hl, hlen, hf⟩ := DataW.trod_struct ht h
  refine ⟨hl, n, fun i f hi => ?_⟩
  have hi' : i < xs.length := by rw [hlen]; exact (Array.getElem?_eq_some_iff.1 hi).1
  refine ⟨xs[i], by rw [hf i f hi]; simp [hi'], ?_⟩
  unfold Light at hw
  rw [hx] at hw
  simp only [DataW.weights, ht] at hw
  exact weights_each_get hw i f.type xs[i].1 (by simp [hi]) (by simp [hi'])
theorem sl_of_cellsW {P : Program} {α : Type} {K : World → α → List Value → Prop} {sz : Nat} {t e : TypeId} {fuel : Nat} {cs : List Value} {x : DataW H × List MemPlace}
    (ht : P.underlying t = some (.slice e)) (he : P.cellsOf e = sz) (hsz : 0 < sz) (hbe : 0 < P.bytesOf e)
    (hK : ∀ (fuel : Nat) (cs : List Value) (x : DataW H × List MemPlace), cs.length = sz → DataW.trod enc P w base spare held fuel e cs = some x → Light P e x.1 → ∃ a, K w a cs)
    (h : DataW.trod enc P w base spare held fuel t cs = some x) (hw : Light P t x.1) : ∃ v xs, cs = [v] ∧ Sl K sz w v xs ∧ xs.length ≤ reachBytes := by
  rcases Go.Deep.open_slice ht h with ⟨rfl, _⟩ | ⟨a, len, cap, m, n, D, Pl, rfl, _, hl, _, hm, hx, hel⟩
  · exact ⟨_, [], rfl, Sl.nil K sz w, Nat.zero_le _⟩
  · have hlm : len ≤ m := by rw [hm]; split <;> omega
    unfold Light at hw
    rw [hx] at hw
    simp only [DataW.weights, ht, List.mem_cons, List.mem_append] at hw
    have hlen : len ≤ reachBytes := by
      have := hw _ (.inl rfl)
      simp only [List.length_map, List.length_range] at this
      have h2 : len * 1 ≤ (len + (m - len)) * P.bytesOf e := Nat.mul_le_mul (by omega) hbe
      omega
    have hD : ∀ i, i < len → Light P e (D i) := fun i hi => weights_all_get (fun n hn => hw n (.inr (.inl hn))) (D i) (List.mem_map_of_mem (List.mem_range.2 hi))
    rw [he] at hel
    obtain ⟨xs, hxl, hxs⟩ := list_of (fun i x => ∃ cs, K w x cs ∧ cs.length = sz ∧ ∀ (j : Nat) u, cs[j]? = some u → w.cell? ((a.add (i * sz)).add j) = some u) len (fun i hi => by
      obtain ⟨cs', h1, h2⟩ := hel i (by omega)
      obtain ⟨_, hcl, hget⟩ := World.cells?_some h1
      obtain ⟨x, hx⟩ := hK n cs' _ hcl h2 (hD i hi)
      refine ⟨x, cs', hx, hcl, fun j u hu => ?_⟩
      have hj : j < sz := by rw [← hcl]; exact (List.getElem?_eq_some_iff.1 hu).1
      rw [← hu]
      exact hget j hj)
    refine ⟨_, xs, rfl, ⟨some a, cap, by rw [hxl], by omega, fun i x hx => ?_⟩, by rw [hxl]; exact hlen⟩
    have hi : i < len := by rw [← hxl]; exact (List.getElem?_eq_some_iff.1 hx).1
    have h0 : 0 < xs.length := by omega
    obtain ⟨cs0, _, hl0, hg0⟩ := hxs 0 xs[0] (by simp [h0])
    have ha : a = ⟨a.block, a.off, none⟩ := by
      have hc0 : cs0[0]? = some cs0[0] := by simp
      have := hg0 0 _ hc0
      rw [Nat.zero_mul] at this
      exact cell_spot (by simpa [Addr.add] using this)
    obtain ⟨cs, hk, hcl, hg⟩ := hxs i x hx
    refine ⟨a.block, a.off, cs, by rw [← ha], hk, hcl, fun j u hu => ?_⟩
    have := hg j u hu
    rw [ha, Addr.add_mid, Addr.add_mid] at this
    rw [← Nat.add_assoc]
    exact this
theorem bView : Tryd.prog.bytesOf 35 = 32 := by kernel_rfl
theorem bRec : Tryd.prog.bytesOf 38 = 56 := by kernel_rfl
theorem viewsW_of_trod {fuel : Nat} {cs : List Value} {x : DataW H × List MemPlace} (h : DataW.trod enc Tryd.prog w base spare held fuel 36 cs = some x) (hw : Light Tryd.prog 36 x.1) : ∃ v xs, cs = [v] ∧ Views w v xs ∧ xs.length ≤ reachBytes :=
  sl_of_cellsW Tryd.underlying36 cView (by decide) (by rw [bView]; decide) (fun _ _ _ _ h _ => view_of_trod h) h hw
/-- a record whose pending ones lie in memory -/
def KRecR : World → Rcd → List Value → Prop := fun w r cs => KRec w r cs ∧ r.pend.length ≤ reachBytes
set_option maxRecDepth 20000 in
theorem recW_of_trod {fuel : Nat} {cs : List Value} {x : DataW H × List MemPlace} (h : DataW.trod enc Tryd.prog w base spare held fuel 38 cs = some x) (hw : Light Tryd.prog 38 x.1) : ∃ a, KRecR w a cs := by
  obtain ⟨hl, n, hf⟩ := trod_fieldsW Tryd.underlying38 h hw
  rw [cRec] at hl
  match cs, hl with
  | [c0, c1, c2, c3, c4], _ =>
    obtain ⟨_, h0, _⟩ := hf 0 _ rfl
    obtain ⟨_, h1, hw1⟩ := hf 1 _ rfl
    simp [cView, cViews] at h0 h1
    obtain ⟨a, e0, ha⟩ := view_of_trod h0
    obtain ⟨v, xs, e1, hv, hr⟩ := viewsW_of_trod h1 hw1
    simp [viewCells] at e0 e1
    obtain ⟨rfl, rfl, rfl, rfl⟩ := e0
    subst e1
    exact ⟨⟨a, xs⟩, ⟨_, rfl, ha, hv⟩, hr⟩
theorem recsR_recs {v : Value} {xs : List Rcd} (h : Sl KRecR 5 w v xs) : Sl KRec 5 w v xs ∧ ∀ r, r ∈ xs → r.pend.length ≤ reachBytes := by
  obtain ⟨A, c, rfl, hc, h⟩ := h
  refine ⟨⟨A, c, rfl, hc, fun i x hx => ?_⟩, fun r hr => ?_⟩
  · obtain ⟨b, off, cs, hA, hK, hl, hg⟩ := h i x hx
    exact ⟨b, off, cs, hA, hK.1, hl, hg⟩
  · obtain ⟨i, hi, rfl⟩ := List.getElem_of_mem hr
    obtain ⟨_, _, _, _, hK, _⟩ := h i xs[i] (by simp [hi])
    exact hK.2
theorem recsW_of_trod {v : Value} {d : DataW H} {ps : List MemPlace} (h : DataW.Trod enc Tryd.prog w base spare held 22 v d ps) (hw : Light Tryd.prog 22 d) (hc : ∃ A len cap, v = .slice A len cap) : ∃ xs, Sl KRec 5 w v xs ∧ xs.length ≤ reachBytes ∧ ∀ r, r ∈ xs → r.pend.length ≤ reachBytes := by
  obtain ⟨A, len, cap, rfl⟩ := hc
  obtain ⟨fuel, hf⟩ := h
  obtain ⟨v', xs, e, hv, hl⟩ := sl_of_cellsW Tryd.underlying22 cRec (by decide) (by rw [bRec]; decide) (fun _ _ _ _ h hw => recW_of_trod h hw) (x := (d, ps)) hf hw
  obtain rfl : Value.slice A len cap = v' := List.head_eq_of_cons_eq e
  obtain ⟨h1, h2⟩ := recsR_recs hv
  exact ⟨xs, h1, hl, h2⟩
theorem viewV_of_trod {v : Value} {d : DataW H} {ps : List MemPlace} (h : DataW.Trod enc Tryd.prog w base spare held 35 v d ps) (hc : ∃ cs, v = .agg cs ∧ cs.size = Tryd.prog.cellsOf 35) : ∃ x : Vw, v = .agg #[.int .u64 (x.number : Int), .int .u64 (x.epoch : Int), .int .i64 x.rep, .int .u64 (x.members : Int)] ∧ x.Ok := by
  obtain ⟨cs, rfl, _⟩ := hc
  obtain ⟨fuel, hf⟩ := h
  obtain ⟨x, hx, ho⟩ := view_of_trod (x := (d, ps)) hf
  exact ⟨x, congrArg Value.agg (Array.toList_inj.1 hx), ho⟩
theorem recV_of_trod {v : Value} {d : DataW H} {ps : List MemPlace} (h : DataW.Trod enc Tryd.prog w base spare held 38 v d ps) (hw : Light Tryd.prog 38 d) (hc : ∃ cs, v = .agg cs ∧ cs.size = Tryd.prog.cellsOf 38) :
    ∃ (r : Rcd) (A : Option Addr) (q c : Nat), v = .agg #[.int .u64 (r.last.number : Int), .int .u64 (r.last.epoch : Int), .int .i64 r.last.rep, .int .u64 (r.last.members : Int), .slice A q c] ∧ r.last.Ok ∧ Views w (.slice A q c) r.pend ∧ r.pend.length ≤ reachBytes := by
  obtain ⟨cs, rfl, _⟩ := hc
  obtain ⟨fuel, hf⟩ := h
  obtain ⟨r, ⟨u, hx, ho, hv⟩, hr⟩ := recW_of_trod (x := (d, ps)) hf hw
  obtain ⟨A, c, rfl, _⟩ := hv.slice
  exact ⟨r, A, _, c, congrArg Value.agg (Array.toList_inj.1 hx), ho, hv, hr⟩
theorem light_each {P : Program} {ts : List TypeId} {ds : List (DataW H)} (h : (DataW.weightsEach P ts ds).all (· ≤ reachBytes) = true) {j : Nat} {t : TypeId} {d : DataW H} (ht : ts[j]? = some t) (hd : ds[j]? = some d) : Light P t d :=
  weights_each_get (fun n hn => by simpa using List.all_eq_true.1 h n hn) j t d ht hd
theorem light_args {P : Program} {ts us : List TypeId} {ds gs : List (DataW H)} (h : (DataW.weightsEach P (ts ++ us) (ds ++ gs)).all (· ≤ reachBytes) = true) (j : Nat) (t : TypeId) (d : DataW H) (ht : ts[j]? = some t) (hd : ds[j]? = some d) : Light P t d :=
  light_each h (j := j) (by rw [List.getElem?_append_left (List.getElem?_eq_some_iff.1 ht).1]; exact ht) (by rw [List.getElem?_append_left (List.getElem?_eq_some_iff.1 hd).1]; exact hd)
end
end Go.Proofs.YtalcoodidcehnaaDoor
namespace Go.Proofs.YtalcoodidcehnaaDoor
set_option linter.unusedVariables false
set_option linter.unusedSimpArgs false
open Go.ChangeShapes Go.WideShapes Go.ChangeAt Go.RowKit
/-! acts, read as data, with the reach -/
section
variable {H : Type} {enc : TypeId × Value → H} {w : World} {base : Nat} {spare : Nat → Bool} {held : Bool}
theorem cFa : Tryd.prog.cellsOf 58 = 24 := by kernel_rfl
theorem bFa : Tryd.prog.bytesOf 58 = 208 := by kernel_rfl
set_option maxRecDepth 20000 in
theorem itemW_of_trod {fuel : Nat} {cs : List Value} {x : DataW H × List MemPlace} (h : DataW.trod enc Tryd.prog w base spare held fuel 45 cs = some x) (hw : Light Tryd.prog 45 x.1) : ∃ a, KItem w a cs ∧ a.rc.pend.length ≤ reachBytes := by
  obtain ⟨hl, n, hf⟩ := trod_fieldsW Tryd.underlying45 h hw
  rw [cItem] at hl
  match cs, hl with
  | [c0, c1, c2, c3, c4, c5, c6, c7, c8, c9, c10, c11, c12, c13, c14, c15, c16, c17], _ =>
    obtain ⟨_, h0, _⟩ := hf 0 _ rfl
    obtain ⟨_, h1, _⟩ := hf 1 _ rfl
    obtain ⟨_, h2, _⟩ := hf 2 _ rfl
    obtain ⟨_, h3, _⟩ := hf 3 _ rfl
    obtain ⟨_, h4, _⟩ := hf 4 _ rfl
    obtain ⟨_, h5, _⟩ := hf 5 _ rfl
    obtain ⟨_, h6, hw6⟩ := hf 6 _ rfl
    obtain ⟨_, h7, _⟩ := hf 7 _ rfl
    obtain ⟨_, h8, _⟩ := hf 8 _ rfl
    obtain ⟨_, h9, _⟩ := hf 9 _ rfl
    obtain ⟨_, h10, _⟩ := hf 10 _ rfl
    simp [cU64, cU32, cI64, cBool, cStr, cRec, cView] at h0 h1 h2 h3 h4 h5 h6 h7 h8 h9 h10
    obtain ⟨kd, e0⟩ := i64_of_trod Tryd.underlying3 h0
    obtain ⟨dt, e1, _⟩ := DataW.trod_string Tryd.underlying9 h1
    obtain ⟨ic, e2, k2⟩ := u32_of_trod Tryd.underlying43 h2
    obtain ⟨ho, e3, k3⟩ := u64_of_trod Tryd.underlying25 h3
    obtain ⟨ha, e4, _⟩ := DataW.trod_bool Tryd.underlying4 h4
    obtain ⟨di, e5, _⟩ := DataW.trod_bool Tryd.underlying4 h5
    obtain ⟨rc, ⟨v, e6, k6, k6'⟩, k6r⟩ := recW_of_trod h6 hw6
    obtain ⟨vw, e7, k7⟩ := view_of_trod h7
    obtain ⟨nu, e8, k8⟩ := u64_of_trod Tryd.underlying25 h8
    obtain ⟨ix, e9⟩ := i64_of_trod Tryd.underlying3 h9
    obtain ⟨tt, e10⟩ := i64_of_trod Tryd.underlying3 h10
    simp [viewCells, recCells] at e0 e1 e2 e3 e4 e5 e6 e7 e8 e9 e10
    obtain ⟨rfl, rfl, rfl, rfl, rfl⟩ := e6
    obtain ⟨rfl, rfl, rfl, rfl⟩ := e7
    subst e0 e1 e2 e3 e4 e5 e8 e9 e10
    exact ⟨⟨kd, dt, ic, ho, ha, di, rc, vw, nu, ix, tt⟩, ⟨_, rfl, ⟨k2, k3, k6, k7, k8⟩, k6'⟩, k6r⟩
set_option maxRecDepth 20000 in
theorem fa_of_trod {fuel : Nat} {cs : List Value} {x : DataW H × List MemPlace} (h : DataW.trod enc Tryd.prog w base spare held fuel 58 cs = some x) (hw : Light Tryd.prog 58 x.1) : ∃ a, KFa w a cs := by
  obtain ⟨hl, n, hf⟩ := trod_fieldsW Tryd.underlying58 h hw
  rw [cFa] at hl
  match cs, hl with
  | [c0, c1, c2, c3, c4, c5, c6, c7, c8, c9, c10, c11, c12, c13, c14, c15, c16, c17, c18, c19, c20, c21, c22, c23], _ =>
    obtain ⟨_, h0, _⟩ := hf 0 _ rfl
    obtain ⟨_, h1, _⟩ := hf 1 _ rfl
    obtain ⟨_, h2, _⟩ := hf 2 _ rfl
    obtain ⟨_, h3, _⟩ := hf 3 _ rfl
    obtain ⟨_, h4, _⟩ := hf 4 _ rfl
    obtain ⟨_, h5, hw5⟩ := hf 5 _ rfl
    simp [cU64, cI64, cConf, cItem] at h0 h1 h2 h3 h4 h5
    obtain ⟨kd, e0⟩ := i64_of_trod Tryd.underlying3 h0
    obtain ⟨sr, e1⟩ := i64_of_trod Tryd.underlying3 h1
    obtain ⟨ow, e2⟩ := i64_of_trod Tryd.underlying3 h2
    obtain ⟨_, n', hf'⟩ := trod_fields Tryd.underlying30 h3
    obtain ⟨_, g0⟩ := hf' 0 _ rfl
    obtain ⟨_, g1⟩ := hf' 1 _ rfl
    simp [cU64, cI64] at g0 g1
    obtain ⟨ep, e3, k3⟩ := u64_of_trod Tryd.underlying25 g0
    obtain ⟨rp, e4⟩ := i64_of_trod Tryd.underlying3 g1
    obtain ⟨me, e5, k5⟩ := u64_of_trod Tryd.underlying25 h4
    obtain ⟨x, ⟨v, e6, k6, k6'⟩, k6r⟩ := itemW_of_trod h5 hw5
    simp [itemCells] at e0 e1 e2 e3 e4 e5 e6
    obtain ⟨rfl, rfl, rfl, rfl, rfl, rfl, rfl, rfl, rfl, rfl, rfl, rfl, rfl, rfl, rfl, rfl, rfl, rfl⟩ := e6
    subst e0 e1 e2 e3 e4 e5
    exact ⟨⟨kd, sr, ow, ep, rp, me, x⟩, _, rfl, ⟨k3, k5, k6⟩, k6', k6r⟩
theorem fas_of_trod {v : Value} {d : DataW H} {ps : List MemPlace} (h : DataW.Trod enc Tryd.prog w base spare held 55 v d ps) (hw : Light Tryd.prog 55 d) (hc : ∃ A len cap, v = .slice A len cap) : ∃ xs, Fas w v xs := by
  obtain ⟨A, len, cap, rfl⟩ := hc
  obtain ⟨fuel, hf⟩ := h
  obtain ⟨v', xs, e, hv, hl⟩ := sl_of_cellsW Tryd.underlying55 cFa (by decide) (by rw [bFa]; decide) (fun _ _ _ _ h hw => fa_of_trod h hw) (x := (d, ps)) hf hw
  obtain rfl : Value.slice A len cap = v' := List.head_eq_of_cons_eq e
  exact ⟨xs, hv⟩
end
end Go.Proofs.YtalcoodidcehnaaDoor
