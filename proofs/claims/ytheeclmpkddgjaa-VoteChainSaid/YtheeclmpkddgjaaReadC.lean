import Derived.Test.YtheeclmpkddgjaaRead
import Derived.SizedLaws
namespace Go.Proofs.Ytheeclmpkddgjaa
set_option linter.unusedVariables false
set_option linter.unusedSimpArgs false
open Go.ChangeShapes Go.WideShapes Go.ChangeAt Go.RowKit
/-! what is read as data, with the reach: no slice in it is longer than memory -/
section
variable {H : Type} {enc : TypeId × Value → H} {w : World} {base : Nat} {spare : Nat → Bool} {held : Bool}
def Light (P : Program) (t : TypeId) (d : DataW H) : Prop := ∀ n ∈ d.weights P t, n ≤ reachBytes
theorem weights_each_get {P : Program} : ∀ {ts : List TypeId} {ds : List (DataW H)}, (∀ n ∈ DataW.weightsEach P ts ds, n ≤ reachBytes) → ∀ (i : Nat) t d, ts[i]? = some t → ds[i]? = some d → Light P t d :=
  fun h i t d ht hd n hn => h n (DataW.weights_mem_each ht hd n hn)
theorem weights_all_get {P : Program} {e : TypeId} : ∀ {ds : List (DataW H)}, (∀ n ∈ DataW.weightsAll P e ds, n ≤ reachBytes) → ∀ d, d ∈ ds → Light P e d
  | [], _, d, hd => by cases hd
  | d0 :: ds, h, d, hd => by
    simp only [DataW.weightsAll, List.mem_append] at h
    rcases List.mem_cons.1 hd with rfl | hd
    · exact fun n hn => h n (.inl hn)
    · exact weights_all_get (fun n hn => h n (.inr hn)) d hd
theorem trod_fieldsW {P : Program} {t : TypeId} {fs : Array Field} {fuel : Nat} {cs : List Value} {x : DataW H × List MemPlace} (ht : P.underlying t = some (.struct fs)) (h : DataW.trod enc P w base spare held fuel t cs = some x) (hw : Light P t x.1) :
    cs.length = P.cellsOf t ∧ ∃ n, ∀ (i : Nat) (f : Field), fs[i]? = some f → ∃ y, DataW.trod enc P w base spare held n f.type ((cs.drop f.offset).take (P.cellsOf f.type)) = some y ∧ Light P f.type y.1 := by
  obtain ⟨xs, n, _, hx, hl, hlen, hf⟩ := DataW.trod_struct ht h
  refine ⟨hl, n, fun i f hi => ?_⟩
  have hi' : i < xs.length := by rw [hlen]; exact (Array.getElem?_eq_some_iff.1 hi).1
  refine ⟨xs[i], by rw [hf i f hi]; simp [hi'], ?_⟩
  unfold Light at hw
  rw [hx] at hw
  simp only [DataW.weights, ht] at hw
  exact weights_each_get hw i f.type xs[i].1 (by simp [hi]) (by simp [hi'])
theorem sl_of_cellsW {P : Program} {α : Type} {K : World → α → List Value → Prop} {sz : Nat} {t e : TypeId} {fuel : Nat} {cs : List Value} {x : DataW H × List MemPlace}
    (ht : P.underlying t = some (.slice e)) (he : P.cellsOf e = sz) (hsz : 0 < sz) (hbe : 0 < P.bytesOf e)
    (hK : ∀ (fuel : Nat) (cs : List Value) (x : DataW H × List MemPlace), cs.length = sz → DataW.trod enc P w base spare held fuel e cs = some x → Light P e x.1 → ∃ a, K w a cs)
    (h : DataW.trod enc P w base spare held fuel t cs = some x) (hw : Light P t x.1) : ∃ v xs, cs = [v] ∧ Sl K sz w v xs ∧ xs.length ≤ reachBytes := by
  rcases Go.Deep.open_slice ht h with ⟨rfl, _⟩ | ⟨a, len, cap, m, n, D, Pl, rfl, _, hl, _, hm, hx, hel⟩
  · exact ⟨_, [], rfl, Sl.nil K sz w, Nat.zero_le _⟩
  · have hlm : len ≤ m := by rw [hm]; split <;> omega
    unfold Light at hw
    rw [hx] at hw
    simp only [DataW.weights, ht, List.mem_cons, List.mem_append] at hw
    have hlen : len ≤ reachBytes := by
      have := hw _ (.inl rfl)
      simp only [List.length_map, List.length_range] at this
      have h2 : len * 1 ≤ (len + (m - len)) * P.bytesOf e := Nat.mul_le_mul (by omega) hbe
      omega
    have hD : ∀ i, i < len → Light P e (D i) := fun i hi => weights_all_get (fun n hn => hw n (.inr (.inl hn))) (D i) (List.mem_map_of_mem (List.mem_range.2 hi))
    rw [he] at hel
    obtain ⟨xs, hxl, hxs⟩ := list_of (fun i x => ∃ cs, K w x cs ∧ cs.length = sz ∧ ∀ (j : Nat) u, cs[j]? = some u → w.cell? ((a.add (i * sz)).add j) = some u) len (fun i hi => by
      obtain ⟨cs', h1, h2⟩ := hel i (by omega)
      obtain ⟨_, hcl, hget⟩ := World.cells?_some h1
      obtain ⟨x, hx⟩ := hK n cs' _ hcl h2 (hD i hi)
      refine ⟨x, cs', hx, hcl, fun j u hu => ?_⟩
      have hj : j < sz := by rw [← hcl]; exact (List.getElem?_eq_some_iff.1 hu).1
      rw [← hu]
      exact hget j hj)
    refine ⟨_, xs, rfl, ⟨some a, cap, by rw [hxl], by omega, fun i x hx => ?_⟩, by rw [hxl]; exact hlen⟩
    have hi : i < len := by rw [← hxl]; exact (List.getElem?_eq_some_iff.1 hx).1
    have h0 : 0 < xs.length := by omega
    obtain ⟨cs0, _, hl0, hg0⟩ := hxs 0 xs[0] (by simp [h0])
    have ha : a = ⟨a.block, a.off, none⟩ := by
      have hc0 : cs0[0]? = some cs0[0] := by simp
      have := hg0 0 _ hc0
      rw [Nat.zero_mul] at this
      exact cell_spot (by simpa [Addr.add] using this)
    obtain ⟨cs, hk, hcl, hg⟩ := hxs i x hx
    refine ⟨a.block, a.off, cs, by rw [← ha], hk, hcl, fun j u hu => ?_⟩
    have := hg j u hu
    rw [ha, Addr.add_mid, Addr.add_mid] at this
    rw [← Nat.add_assoc]
    exact this
theorem bView : Try.prog.bytesOf 31 = 32 := by kernel_rfl
theorem bRec : Try.prog.bytesOf 34 = 56 := by kernel_rfl
theorem viewsW_of_trod {fuel : Nat} {cs : List Value} {x : DataW H × List MemPlace} (h : DataW.trod enc Try.prog w base spare held fuel 32 cs = some x) (hw : Light Try.prog 32 x.1) : ∃ v xs, cs = [v] ∧ Views w v xs ∧ xs.length ≤ reachBytes :=
  sl_of_cellsW Try.underlying32 cView (by decide) (by rw [bView]; decide) (fun _ _ _ _ h _ => view_of_trod h) h hw
/-- a record whose pending ones lie in memory -/
def KRecR : World → Rcd → List Value → Prop := fun w r cs => KRec w r cs ∧ r.pend.length ≤ reachBytes
set_option maxRecDepth 20000 in
theorem recW_of_trod {fuel : Nat} {cs : List Value} {x : DataW H × List MemPlace} (h : DataW.trod enc Try.prog w base spare held fuel 34 cs = some x) (hw : Light Try.prog 34 x.1) : ∃ a, KRecR w a cs := by
  obtain ⟨hl, n, hf⟩ := trod_fieldsW Try.underlying34 h hw
  rw [cRec] at hl
  match cs, hl with
  | [c0, c1, c2, c3, c4], _ =>
    obtain ⟨_, h0, _⟩ := hf 0 _ rfl
    obtain ⟨_, h1, hw1⟩ := hf 1 _ rfl
    simp [cView, cViews] at h0 h1
    obtain ⟨a, e0, ha⟩ := view_of_trod h0
    obtain ⟨v, xs, e1, hv, hr⟩ := viewsW_of_trod h1 hw1
    simp [viewCells] at e0 e1
    obtain ⟨rfl, rfl, rfl, rfl⟩ := e0
    subst e1
    exact ⟨⟨a, xs⟩, ⟨_, rfl, ha, hv⟩, hr⟩
theorem recsR_recs {v : Value} {xs : List Rcd} (h : Sl KRecR 5 w v xs) : Sl KRec 5 w v xs ∧ ∀ r, r ∈ xs → r.pend.length ≤ reachBytes := by
  obtain ⟨A, c, rfl, hc, h⟩ := h
  refine ⟨⟨A, c, rfl, hc, fun i x hx => ?_⟩, fun r hr => ?_⟩
  · obtain ⟨b, off, cs, hA, hK, hl, hg⟩ := h i x hx
    exact ⟨b, off, cs, hA, hK.1, hl, hg⟩
  · obtain ⟨i, hi, rfl⟩ := List.getElem_of_mem hr
    obtain ⟨_, _, _, _, hK, _⟩ := h i xs[i] (by simp [hi])
    exact hK.2
theorem recsW_of_trod {v : Value} {d : DataW H} {ps : List MemPlace} (h : DataW.Trod enc Try.prog w base spare held 22 v d ps) (hw : Light Try.prog 22 d) (hc : ∃ A len cap, v = .slice A len cap) : ∃ xs, Sl KRec 5 w v xs ∧ xs.length ≤ reachBytes ∧ ∀ r, r ∈ xs → r.pend.length ≤ reachBytes := by
  obtain ⟨A, len, cap, rfl⟩ := hc
  obtain ⟨fuel, hf⟩ := h
  obtain ⟨v', xs, e, hv, hl⟩ := sl_of_cellsW Try.underlying22 cRec (by decide) (by rw [bRec]; decide) (fun _ _ _ _ h hw => recW_of_trod h hw) (x := (d, ps)) hf hw
  obtain rfl : Value.slice A len cap = v' := List.head_eq_of_cons_eq e
  obtain ⟨h1, h2⟩ := recsR_recs hv
  exact ⟨xs, h1, hl, h2⟩
theorem viewV_of_trod {v : Value} {d : DataW H} {ps : List MemPlace} (h : DataW.Trod enc Try.prog w base spare held 31 v d ps) (hc : ∃ cs, v = .agg cs ∧ cs.size = Try.prog.cellsOf 31) : ∃ x : Vw, v = .agg #[.int .u64 (x.number : Int), .int .u64 (x.epoch : Int), .int .i64 x.rep, .int .u64 (x.members : Int)] ∧ x.Ok := by
  obtain ⟨cs, rfl, _⟩ := hc
  obtain ⟨fuel, hf⟩ := h
  obtain ⟨x, hx, ho⟩ := view_of_trod (x := (d, ps)) hf
  exact ⟨x, congrArg Value.agg (Array.toList_inj.1 hx), ho⟩
theorem recV_of_trod {v : Value} {d : DataW H} {ps : List MemPlace} (h : DataW.Trod enc Try.prog w base spare held 34 v d ps) (hw : Light Try.prog 34 d) (hc : ∃ cs, v = .agg cs ∧ cs.size = Try.prog.cellsOf 34) :
    ∃ (r : Rcd) (A : Option Addr) (q c : Nat), v = .agg #[.int .u64 (r.last.number : Int), .int .u64 (r.last.epoch : Int), .int .i64 r.last.rep, .int .u64 (r.last.members : Int), .slice A q c] ∧ r.last.Ok ∧ Views w (.slice A q c) r.pend ∧ r.pend.length ≤ reachBytes := by
  obtain ⟨cs, rfl, _⟩ := hc
  obtain ⟨fuel, hf⟩ := h
  obtain ⟨r, ⟨u, hx, ho, hv⟩, hr⟩ := recW_of_trod (x := (d, ps)) hf hw
  obtain ⟨A, c, rfl, _⟩ := hv.slice
  exact ⟨r, A, _, c, congrArg Value.agg (Array.toList_inj.1 hx), ho, hv, hr⟩
theorem light_each {P : Program} {ts : List TypeId} {ds : List (DataW H)} (h : (DataW.weightsEach P ts ds).all (· ≤ reachBytes) = true) {j : Nat} {t : TypeId} {d : DataW H} (ht : ts[j]? = some t) (hd : ds[j]? = some d) : Light P t d :=
  weights_each_get (fun n hn => by simpa using List.all_eq_true.1 h n hn) j t d ht hd
theorem light_args {P : Program} {ts us : List TypeId} {ds gs : List (DataW H)} (h : (DataW.weightsEach P (ts ++ us) (ds ++ gs)).all (· ≤ reachBytes) = true) (j : Nat) (t : TypeId) (d : DataW H) (ht : ts[j]? = some t) (hd : ds[j]? = some d) : Light P t d :=
  light_each h (j := j) (by rw [List.getElem?_append_left (List.getElem?_eq_some_iff.1 ht).1]; exact ht) (by rw [List.getElem?_append_left (List.getElem?_eq_some_iff.1 hd).1]; exact hd)
end
end Go.Proofs.Ytheeclmpkddgjaa
