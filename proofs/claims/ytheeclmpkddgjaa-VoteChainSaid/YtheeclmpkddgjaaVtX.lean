import Derived.Test.YtheeclmpkddgjaaVtO
import Derived.Test.YtheeclmpkddgjaaVtQ
import Derived.Test.YtheeclmpkddgjaaVtB
namespace Go.Proofs.Ytheeclmpkddgjaa
set_option linter.unusedVariables false
set_option linter.unusedSimpArgs false
open Go.RowKit
/-- nothing turns but one block, and what is new -/
structure Ex (g : Nat) (w w' : World) : Prop where
  os : w'.os = w.os
  tape : w'.tape = w.tape
  output : w'.output = w.output
  size : w.heap.size ≤ w'.heap.size
  block : ∀ k, k < w.heap.size → k ≠ g → w'.heap[k]? = w.heap[k]?
theorem Ex.refl (g : Nat) (w : World) : Ex g w w := ⟨rfl, rfl, rfl, Nat.le_refl _, fun _ _ _ => rfl⟩
theorem Ex.trans {g : Nat} {w w' w'' : World} (h : Ex g w w') (k : Ex g w' w'') : Ex g w w'' :=
  ⟨k.os.trans h.os, k.tape.trans h.tape, k.output.trans h.output, Nat.le_trans h.size k.size, fun b hb hne => (k.block b (Nat.lt_of_lt_of_le hb h.size) hne).trans (h.block b hb hne)⟩
theorem Ex.of_below {w w' : World} (h : Below w.heap.size w w') (g : Nat) : Ex g w w' := ⟨h.os, h.tape, h.output, h.size, fun b hb _ => h.block b hb⟩
theorem Ex.then {g : Nat} {w w' w'' : World} (h : Ex g w w') (k : Below w'.heap.size w' w'') : Ex g w w'' := h.trans (.of_below k g)
theorem Ex.below {g B : Nat} {a w w' : World} (h : Below B a w) (k : Ex g w w') (hg : B ≤ g) (hB : B ≤ w.heap.size) : Below B a w' :=
  h.trans ⟨k.os, k.tape, k.output, k.size, fun b hb => k.block b (by omega) (by omega)⟩
theorem Ex.blk {g b : Nat} {w w' : World} {t : TypeId} {cs : Array Value} (h : Ex g w w') (hb : Blk w b t cs) (hne : b ≠ g) : Blk w' b t cs := (h.block b hb.lt hne).trans hb
theorem Ex.own {g base n sz : Nat} {e : TypeId} {w w' : World} {v : Value} {xs : List Value} (h : Ex g w w') (ho : w.ownsRow base e sz v n xs) (hne : v.ownBlock ≠ some g) : w'.ownsRow base e sz v n xs := by
  refine ⟨ho.1, ?_⟩
  rcases ho.2 with h0 | ⟨b, cap, cur, rfl, h1, h2, h3⟩
  · exact .inl h0
  · exact .inr ⟨b, cap, cur, rfl, h1, (h.block b (Array.getElem?_eq_some_iff.1 h2).1 (fun e => hne (by rw [← e]; rfl))).trans h2, h3⟩
/-- the block in which a slice lies -/
def vblk : Value → Option Nat
  | .slice (some a) _ _ => some a.block
  | _ => none
theorem own_vblk {w : World} {base n sz : Nat} {e : TypeId} {v : Value} {xs : List Value} (h : w.ownsRow base e sz v n xs) : vblk v = v.ownBlock := by
  rcases h.2 with ⟨rfl, _⟩ | ⟨b, cap, cur, rfl, _⟩ <;> rfl
theorem Views.move {w w' : World} {v : Value} {L : List Vw} (h : Views w v L) (hb : ∀ b, vblk v = some b → b < w.heap.size → w'.heap[b]? = w.heap[b]?) : Views w' v L := by
  obtain ⟨A, c, rfl, hc, h⟩ := h
  refine ⟨A, c, rfl, hc, fun i x hx => ?_⟩
  obtain ⟨b, off, cs, hA, hK, hl, hg⟩ := h i x hx
  refine ⟨b, off, cs, hA, hK, hl, fun j u hu => ?_⟩
  have hcell := hg j u hu
  have hlt := World.block_lt_of_cell? w _ hcell
  have hbe := hb b (by rw [hA]; rfl) hlt
  rw [← hcell]
  show (match w'.heap[b]? with | some (.cells c _ _) => if (none : Option Nat).isSome then none else c[off + (i * 4 + j)]? | _ => none) = (match w.heap[b]? with | some (.cells c _ _) => if (none : Option Nat).isSome then none else c[off + (i * 4 + j)]? | _ => none)
  rw [hbe]
theorem Views.ex {g : Nat} {w w' : World} {v : Value} {L : List Vw} (h : Views w v L) (he : Ex g w w') (hne : vblk v ≠ some g) : Views w' v L :=
  h.move fun b hb hlt => he.block b hlt (fun e => hne (by rw [hb, e]))
/-- five records in one block -/
structure RA (w : World) (g : Nat) (R : Nat → Rcd) (vs : Nat → Value) : Prop where
  blk : ∃ cs, Blk w g 56 cs ∧ cs.size = 25 ∧ ∀ p, p < 5 → cs[p * 5]? = some (.int .u64 ((R p).last.number : Int)) ∧ cs[p * 5 + 1]? = some (.int .u64 ((R p).last.epoch : Int)) ∧ cs[p * 5 + 2]? = some (.int .i64 (R p).last.rep) ∧ cs[p * 5 + 3]? = some (.int .u64 ((R p).last.members : Int)) ∧ cs[p * 5 + 4]? = some (vs p)
  ok : ∀ p, p < 5 → (R p).last.Ok
  views : ∀ p, p < 5 → Views w (vs p) (R p).pend
  ne : ∀ p, p < 5 → vblk (vs p) ≠ some g
  len : ∀ p, p < 5 → (R p).pend.length ≤ 32
def rput (R : Nat → Rcd) (p : Nat) (r : Rcd) : Nat → Rcd := fun q => if q = p then r else R q
def rvput (vs : Nat → Value) (p : Nat) (v : Value) : Nat → Value := fun q => if q = p then v else vs q
section
variable {w w' : World} {g : Nat} {R R' : Nat → Rcd} {vs : Nat → Value}
theorem RA.lt (h : RA w g R vs) : g < w.heap.size := by
  obtain ⟨cs, hb, _⟩ := h.blk
  exact hb.lt
theorem RA.congr (h : RA w g R vs) (he : ∀ p, p < 5 → R' p = R p) : RA w g R' vs := by
  obtain ⟨cs, hb, hs, hc⟩ := h.blk
  refine ⟨⟨cs, hb, hs, fun p hp => ?_⟩, fun p hp => ?_, fun p hp => ?_, h.ne, fun p hp => ?_⟩
  · rw [he p hp]; exact hc p hp
  · rw [he p hp]; exact h.ok p hp
  · rw [he p hp]; exact h.views p hp
  · rw [he p hp]; exact h.len p hp
theorem RA.stay (h : RA w g R vs) (hb : Below w.heap.size w w') : RA w' g R vs := by
  obtain ⟨cs, h1, h2⟩ := h.blk
  exact ⟨⟨cs, h1.stay hb, h2⟩, h.ok, fun p hp => (h.views p hp).below hb, h.ne, h.len⟩
/-- what is written elsewhere, and not in what is pending -/
theorem RA.move (h : RA w g R vs) (hg : w'.heap[g]? = w.heap[g]?) (hb : ∀ p b, p < 5 → vblk (vs p) = some b → b < w.heap.size → w'.heap[b]? = w.heap[b]?) : RA w' g R vs := by
  obtain ⟨cs, h1, h2⟩ := h.blk
  exact ⟨⟨cs, hg.trans h1, h2⟩, h.ok, fun p hp => (h.views p hp).move (fun b he => hb p b hp he), h.ne, h.len⟩
theorem RA.at (h : RA w g R vs) {p : Nat} (hp : p < 5) : w.cell? ⟨g, p * 5, none⟩ = some (.int .u64 ((R p).last.number : Int)) ∧ w.cell? ⟨g, p * 5 + 1, none⟩ = some (.int .u64 ((R p).last.epoch : Int)) ∧ w.cell? ⟨g, p * 5 + 2, none⟩ = some (.int .i64 (R p).last.rep) ∧ w.cell? ⟨g, p * 5 + 3, none⟩ = some (.int .u64 ((R p).last.members : Int)) ∧ w.cell? ⟨g, p * 5 + 4, none⟩ = some (vs p) := by
  obtain ⟨cs, hb, hs, hc⟩ := h.blk
  obtain ⟨h0, h1, h2, h3, h4⟩ := hc p hp
  exact ⟨(hb.cell _).trans h0, (hb.cell _).trans h1, (hb.cell _).trans h2, (hb.cell _).trans h3, (hb.cell _).trans h4⟩
theorem RA.free (h : RA w g R vs) (i : Nat) : w.frozen? ⟨g, i, none⟩ = false := by
  obtain ⟨cs, hb, _⟩ := h.blk
  exact hb.free i
def put5 (w : World) (g o : Nat) (v0 v1 v2 v3 v4 : Value) : World := ((((w.setCell ⟨g, o, none⟩ v0).setCell ⟨g, o + 1, none⟩ v1).setCell ⟨g, o + 2, none⟩ v2).setCell ⟨g, o + 3, none⟩ v3).setCell ⟨g, o + 4, none⟩ v4
theorem Ex.cell (w : World) (g o : Nat) (v : Value) : Ex g w (w.setCell ⟨g, o, none⟩ v) := ⟨rfl, rfl, rfl, by simp, fun k _ hk => heap_setCell_other w ⟨g, o, none⟩ k v hk⟩
theorem put5_ex (w : World) (g o : Nat) (v0 v1 v2 v3 v4 : Value) : Ex g w (put5 w g o v0 v1 v2 v3 v4) :=
  ((((Ex.cell w g o v0).trans (Ex.cell _ g (o + 1) v1)).trans (Ex.cell _ g (o + 2) v2)).trans (Ex.cell _ g (o + 3) v3)).trans (Ex.cell _ g (o + 4) v4)
theorem set_off {cs : Array Value} {i j : Nat} {v u : Value} (h : cs[j]? = some u) (hn : i ≠ j) : (cs.setIfInBounds i v)[j]? = some u := by
  rw [Array.getElem?_setIfInBounds, if_neg hn]; exact h
theorem set_on {cs : Array Value} {i : Nat} {v : Value} (h : i < cs.size) : (cs.setIfInBounds i v)[i]? = some v := by
  rw [Array.getElem?_setIfInBounds, if_pos rfl, if_pos h]
/-- a record is stored -/
theorem RA.put (h : RA w g R vs) {p : Nat} (hp : p < 5) {r : Rcd} {v : Value} (hr : r.last.Ok) (hv : Views w v r.pend) (hne : vblk v ≠ some g) (hl : r.pend.length ≤ 32) :
    RA (put5 w g (p * 5) (.int .u64 (r.last.number : Int)) (.int .u64 (r.last.epoch : Int)) (.int .i64 r.last.rep) (.int .u64 (r.last.members : Int)) v) g (rput R p r) (rvput vs p v) := by
  obtain ⟨cs, hb, hs, hc⟩ := h.blk
  have hex := put5_ex w g (p * 5) (.int .u64 (r.last.number : Int)) (.int .u64 (r.last.epoch : Int)) (.int .i64 r.last.rep) (.int .u64 (r.last.members : Int)) v
  refine ⟨⟨_, ((((hb.set _ _).set _ _).set _ _).set _ _).set _ _, by simp [hs], fun q hq => ?_⟩, fun q hq => ?_, fun q hq => ?_, fun q hq => ?_, fun q hq => ?_⟩
  · by_cases e : q = p
    · subst e
      simp only [rput, rvput, if_pos]
      refine ⟨?_, ?_, ?_, ?_, ?_⟩
      · exact set_off (set_off (set_off (set_off (set_on (by rw [hs]; omega)) (by omega)) (by omega)) (by omega)) (by omega)
      · exact set_off (set_off (set_off (set_on (by simp [hs]; omega)) (by omega)) (by omega)) (by omega)
      · exact set_off (set_off (set_on (by simp [hs]; omega)) (by omega)) (by omega)
      · exact set_off (set_on (by simp [hs]; omega)) (by omega)
      · exact set_on (by simp [hs]; omega)
    · obtain ⟨h0, h1, h2, h3, h4⟩ := hc q hq
      simp only [rput, rvput, if_neg e]
      refine ⟨?_, ?_, ?_, ?_, ?_⟩
      · exact set_off (set_off (set_off (set_off (set_off h0 (by omega)) (by omega)) (by omega)) (by omega)) (by omega)
      · exact set_off (set_off (set_off (set_off (set_off h1 (by omega)) (by omega)) (by omega)) (by omega)) (by omega)
      · exact set_off (set_off (set_off (set_off (set_off h2 (by omega)) (by omega)) (by omega)) (by omega)) (by omega)
      · exact set_off (set_off (set_off (set_off (set_off h3 (by omega)) (by omega)) (by omega)) (by omega)) (by omega)
      · exact set_off (set_off (set_off (set_off (set_off h4 (by omega)) (by omega)) (by omega)) (by omega)) (by omega)
  · by_cases e : q = p
    · subst e; simp only [rput, if_pos]; exact hr
    · simp only [rput, if_neg e]; exact h.ok q hq
  · by_cases e : q = p
    · subst e; simp only [rput, rvput, if_pos]; exact hv.ex hex hne
    · simp only [rput, rvput, if_neg e]; exact (h.views q hq).ex hex (h.ne q hq)
  · by_cases e : q = p
    · subst e; simp only [rvput, if_pos]; exact hne
    · simp only [rvput, if_neg e]; exact h.ne q hq
  · by_cases e : q = p
    · subst e; simp only [rput, if_pos]; exact hl
    · simp only [rput, if_neg e]; exact h.len q hq
end
/-- Add, and where what is pending lies behind it -/
theorem vaddL_any {w : World} {v0 v1 v2 v3 : Value} {A : Option Addr} {q c : Nat} {L : List Vw} (hv : Views w (.slice A q c) L) (f : Vw) (hf : f.Ok) (h4 : #[v0, v1, v2, v3].all (·.oneCell') = true) {r : Rcd} (hr : r.pend = L) :
    Calls Try.prog 21 #[.agg #[v0, v1, v2, v3, .slice A q c], .agg #[.int .u64 (f.number : Int), .int .u64 (f.epoch : Int), .int .i64 f.rep, .int .u64 (f.members : Int)]] w fun e w' =>
      ∃ A' q' c', e = .returned (.tuple #[.agg #[v0, v1, v2, v3, .slice A' q' c'], .bool (vok r)]) ∧ Below w.heap.size w w' ∧ Views w' (.slice A' q' c') (vadd r f).pend ∧ ∀ b, vblk (.slice A' q' c') = some b → vblk (.slice A q c) = some b ∨ (w.heap.size ≤ b ∧ b < w'.heap.size) := by
  have hql : q = L.length := by
    obtain ⟨A', c', h, _⟩ := hv.slice
    injection h
  by_cases h : q < 32
  · have hk : vok r = true := by unfold vok; rw [hr, ← hql]; exact decide_eq_true h
    have hp : (vadd r f).pend = L ++ [f] := by unfold vadd; rw [if_pos hk, ← hr]
    rw [hk, hp]
    refine (vaddYes_any hv h f h4).mono ?_
    rintro e w' ⟨A', c', rfl, hb, ho⟩
    refine ⟨A', _, c', rfl, hb, Views.of_own ho (by rw [List.length_append, ← hql]; rfl) (fun x hx => ?_), fun b hb => .inr ?_⟩
    · rcases List.mem_append.1 hx with hx | hx
      · exact hv.ok x hx
      · rw [List.mem_singleton.1 hx]; exact hf
    · rw [own_vblk ho] at hb
      exact ho.lt b hb
  · have hk : vok r = false := by unfold vok; rw [hr, ← hql]; exact decide_eq_false h
    have hp : (vadd r f).pend = L := by unfold vadd; rw [if_neg (by rw [hk]; decide), ← hr]
    rw [hk, hp]
    refine (vaddNo_any (by omega) f h4).mono ?_
    rintro e w' ⟨rfl, hb⟩
    exact ⟨A, q, c, rfl, hb, hv.below hb, fun b hb => .inl hb⟩
/-- what is pending lies apart from what was formed -/
def Parted (w : World) (vs : Nat → Value) (fv : Value) : Prop := ∀ p b, p < 5 → vblk (vs p) = some b → fv.ownBlock ≠ some b ∧ b < w.heap.size
theorem Parted.mono {w w' : World} {vs : Nat → Value} {fv : Value} (h : Parted w vs fv) (hs : w.heap.size ≤ w'.heap.size) : Parted w' vs fv :=
  fun p b hp hb => ⟨(h p b hp hb).1, Nat.lt_of_lt_of_le (h p b hp hb).2 hs⟩
theorem Parted.put {w w' : World} {vs : Nat → Value} {fv v : Value} (h : Parted w vs fv) (hs : w.heap.size ≤ w'.heap.size) (hf : ∀ b, fv.ownBlock = some b → b < w.heap.size) {p : Nat} (hp : p < 5)
    (hv : ∀ b, vblk v = some b → vblk (vs p) = some b ∨ (w.heap.size ≤ b ∧ b < w'.heap.size)) : Parted w' (rvput vs p v) fv := by
  intro q b hq hb
  unfold rvput at hb
  by_cases e : q = p
  · rw [if_pos e] at hb
    rcases hv b hb with h2 | ⟨h2, h3⟩
    · exact h.mono hs p b hp h2
    · exact ⟨fun e2 => by have := hf b e2; omega, h3⟩
  · rw [if_neg e] at hb
    exact h.mono hs q b hq hb
theorem Parted.grow {w w' : World} {vs : Nat → Value} {fv fv' : Value} (h : Parted w vs fv) (hs : w.heap.size ≤ w'.heap.size) (hob : fv'.ownBlock = fv.ownBlock ∨ fv'.ownBlock = some w.heap.size) : Parted w' vs fv' := by
  intro p b hp hb
  obtain ⟨h1, h2⟩ := h p b hp hb
  refine ⟨fun e => ?_, Nat.lt_of_lt_of_le h2 hs⟩
  rcases hob with h3 | h3
  · exact h1 (h3.symm.trans e)
  · rw [h3] at e; injection e with e; omega
theorem RA.grow {w w' : World} {g : Nat} {R : Nat → Rcd} {vs : Nat → Value} {fv : Value} (h : RA w g R vs) (hp : Parted w vs fv) (hg : w.grownBy w' fv.ownBlock) (hne : fv.ownBlock ≠ some g) : RA w' g R vs :=
  h.move (hg.block g h.lt (fun e => hne e.symm)) (fun p b hp' he hb => hg.block b hb (fun e => (hp p b hp' he).1 e.symm))
theorem box_old {wr w8 : World} {v0 v1 v2 v3 v4 u0 u1 u2 u3 u4 : Value} {A : Option Addr} {q c : Nat} {P : List Vw} (hz : Blk w8 wr.heap.size 34 #[u0, u1, u2, u3, u4]) (hb : Below wr.heap.size wr w8) (hv : Views w8 (.slice A q c) P) (hne : vblk (.slice A q c) ≠ some wr.heap.size) :
    Blk (put5 w8 wr.heap.size 0 v0 v1 v2 v3 v4) wr.heap.size 34 #[v0, v1, v2, v3, v4] ∧ Below wr.heap.size wr (put5 w8 wr.heap.size 0 v0 v1 v2 v3 v4) ∧ Views (put5 w8 wr.heap.size 0 v0 v1 v2 v3 v4) (.slice A q c) P :=
  ⟨((((hz.set 0 v0).set 1 v1).set 2 v2).set 3 v3).set 4 v4, Ex.below hb (put5_ex w8 wr.heap.size 0 v0 v1 v2 v3 v4) (Nat.le_refl _) hb.size, hv.ex (put5_ex w8 wr.heap.size 0 v0 v1 v2 v3 v4) hne⟩
theorem box_new {wr w8 : World} {v0 v1 v2 v3 v4 : Value} {v : Value} {P : List Vw} (hb : Below wr.heap.size wr w8) (hv : Views w8 v P) :
    Blk (w8.alloc (.cells #[v0, v1, v2, v3, v4] 34)) w8.heap.size 34 #[v0, v1, v2, v3, v4] ∧ Below wr.heap.size wr (w8.alloc (.cells #[v0, v1, v2, v3, v4] 34)) ∧ Views (w8.alloc (.cells #[v0, v1, v2, v3, v4] 34)) v P :=
  ⟨Blk.new _ _ _ rfl, bal hb _, hv.below (bal (Below.refl _ _) _)⟩
/-! rounds, as they are read -/
def rndCells (x : Rnd) : List Value := [.int .u64 (x.members : Int), .int .u64 (x.wrote : Int), .int .u64 (x.form : Int)]
structure Rnd.Ok (x : Rnd) : Prop where
  members : S64 x.members
  wrote : S64 x.wrote
  form : S64 x.form
def KRnd : World → Rnd → List Value → Prop := fun _ x cs => cs = rndCells x ∧ x.Ok
theorem KRnd.stays : Stays KRnd := fun _ _ _ _ h _ => h
abbrev Rnds (w : World) (v : Value) (xs : List Rnd) : Prop := Sl KRnd 3 w v xs
theorem Rnds.below {w w' : World} {v : Value} {xs : List Rnd} (h : Rnds w v xs) (hb : Below w.heap.size w w') : Rnds w' v xs := Sl.below KRnd.stays (by decide) h hb
theorem Rnds.in {w wr : World} {A : Option Addr} {n c : Nat} {L : List Rnd} (h : Rnds w (.slice A n c) L) (hb : Below w.heap.size w wr) (k : Nat) (hk : k < L.length) :
    ∃ b off, A = some (⟨b, off, none⟩ : Addr) ∧ wr.cell? ⟨b, off + k * 3, none⟩ = some (.int .u64 (L[k].members : Int)) ∧ wr.cell? ⟨b, off + k * 3 + 1, none⟩ = some (.int .u64 (L[k].wrote : Int)) ∧ wr.cell? ⟨b, off + k * 3 + 2, none⟩ = some (.int .u64 (L[k].form : Int)) ∧ b < wr.heap.size ∧ L[k].Ok := by
  obtain ⟨b, off, cs, hA, ⟨rfl, hok⟩, hl, hg⟩ := Sl.at (h.below hb) k hk
  have h0 := hg 0 _ rfl
  exact ⟨b, off, hA, h0, hg 1 _ rfl, hg 2 _ rfl, World.block_lt_of_cell? wr _ h0, hok⟩
theorem shr_bit {s : Nat} (hs : S64 s) (p : Nat) : Go.bits .and .u64 ((s : Int) / 2 ^ p) 1 = ((if s.testBit p then 1 else 0 : Nat) : Int) := by
  have e : ((s : Int) / 2 ^ p) = ((s / 2 ^ p : Nat) : Int) := by norm_cast
  have hlt := hs.lt
  rw [e]
  refine (u64_and_nat (s / 2 ^ p) 1 (Nat.lt_of_le_of_lt (Nat.div_le_self _ _) hlt) (by decide)).trans ?_
  have e2 : s / 2 ^ p &&& 1 = (if s.testBit p then 1 else 0) := by
    rw [Nat.and_one_is_mod, Nat.testBit_eq_decide_div_mod_eq]
    rcases Nat.mod_two_eq_zero_or_one (s / 2 ^ p) with h | h <;> simp [h]
  rw [← e2]
theorem shr_zero {s p : Nat} {b : Bool} (hs : S64 s) (hb : s.testBit p = b) : (Go.bits .and .u64 ((s : Int) / 2 ^ p) 1 == 0) = !b := by
  rw [shr_bit hs p, hb]; cases b <;> rfl
theorem shr_one {s p : Nat} {b : Bool} (hs : S64 s) (hb : s.testBit p = b) : (Go.bits .and .u64 ((s : Int) / 2 ^ p) 1 == 1) = b := by
  rw [shr_bit hs p, hb]; cases b <;> rfl
theorem all5 (w : World) : Calls Try.prog 20 #[.int .i64 5] w fun e w' => e = .returned (.int .u64 31) ∧ w = w' := by
  refine (all_any 5 w).mono ?_
  rintro e w' ⟨rfl, rfl⟩
  exact ⟨by rw [show ((sall 5 : Nat) : Int) = 31 by decide +kernel], rfl⟩
theorem both31 {s r : Nat} (hs : S64 s) (he : sboth s 31 = r) (w : World) :
    Calls Try.prog 25 #[.int .u64 (s : Int), .int .u64 31] w fun e w' => e = .returned (.int .u64 (r : Int)) ∧ w = w' :=
  both_eq (t := 31) hs ⟨by decide⟩ he w
theorem first5 (w : World) : Calls Try.prog 10 #[.int .i64 5] w fun e w' => e = .returned (.agg #[.int .u64 0, .int .u64 0, .int .i64 0, .int .u64 31, .slice none 0 0]) ∧ Below w.heap.size w w' :=
  vfirst_any 5 w (by decide +kernel)
end Go.Proofs.Ytheeclmpkddgjaa
