/-
  FilterLive: for any record and script the law answers true. Conditions: those of its card alone.
-/
import Derived.Test.YtalcoodidcehnaaDoorCards
import Derived.Test.YtalcoodidcehnaaDoorLaw
import Derived.Test.YtalcoodidcehnaaDoorFlT
import Derived.Test.YtalcoodidcehnaaDoorReadE
import Derived.Test.YtalcoodidcehnaaDoorTie
import Derived.WalkKit
import Derived.ProofKit
import Derived.OpenShut
import Derived.Deep.DeepHandedRow
import Derived.Lib.LaidTab
namespace Go.Proofs.YtalcoodidcehnaaDoor.lawFilterLive
open Go.ChangeShapes Go.WideShapes Go.ChangeAt Go.RowKit
set_option linter.unusedVariables false
set_option linter.unusedSimpArgs false
theorem own : ownKnob Tryd.prog.godebug = none := by kernel_rfl
theorem laidOut : laidOutB Tryd.prog = true := by kernel_rfl
theorem gTab : Tryd.prog.globalNamed "math/bits.deBruijn64tab" = some 0 := by kernel_rfl
theorem gTabType : (Tryd.prog.globals[0]?).map (·.type) = some 106 := by kernel_rfl
theorem cellsT : Tryd.prog.cellsOf 106 = 64 := by kernel_rfl
theorem cellsE : Tryd.prog.cellsOf 5 = 1 := by kernel_rfl
theorem tab {W : World} (h : laidMetH Tryd.prog Rows.filterLiveRow.laid W) : Tab W := by
  have hT : Lib.TabIs Tryd.prog W "math/bits.deBruijn64tab" .u8 (Lib.deBruijn64tab.map Int.ofNat) := Lib.tabIs_of_head (rest := []) gTab gTabType Tryd.underlying106 Tryd.underlying5 cellsE cellsT h
  refine ⟨fun i hi => ?_⟩
  rw [hT.cell gTab i (by exact hi)]
  simp only [List.getD_eq_getElem?_getD, List.getElem?_map]
  cases Lib.deBruijn64tab[i]? <;> rfl
theorem params : Tryd.f4.params = #[38, 55] := by rfl
theorem readable : ∀ t, t ∈ Tryd.f4.params.toList → Tryd.prog.readableRec t = true ∧ t < Tryd.prog.types.size := by
  rw [params]
  intro t ht
  simp only [List.mem_cons, List.not_mem_nil, or_false] at ht
  have h : (Tryd.prog.readableRec 38 = true ∧ 38 < Tryd.prog.types.size) ∧ (Tryd.prog.readableRec 55 = true ∧ 55 < Tryd.prog.types.size) := ⟨⟨by kernel_rfl, of_decide_eq_true (by kernel_rfl)⟩, ⟨by kernel_rfl, of_decide_eq_true (by kernel_rfl)⟩⟩
  rcases ht with rfl | rfl
  · exact h.1
  · exact h.2

set_option maxRecDepth 100000 in
theorem contract (H : Type) (enc : TypeId × Value → H) (W : World) (base : Nat) (args : Array Value) (ds gs : List (DataW H)) (before : List MemPlace)
    (hval : ∀ (j : Nat) t v, Tryd.f4.params[j]? = some t → args[j]? = some v → Value.okWide Tryd.prog W .any base t v)
    (hW : DataW.Whole enc Tryd.prog Tryd.f4.params.toList Rows.filterLiveSpec.vars false W args.toList ds gs before) (hL : laidMetH Tryd.prog Rows.filterLiveRow.laid W) (hsz : ∀ (j : Nat) t d, Tryd.f4.params.toList[j]? = some t → ds[j]? = some d → Light Tryd.prog t d) :
    Calls Tryd.prog 4 args W fun e W' => ∃ v, e = .returned v ∧ Rows.filterLiveSpec.post enc Tryd.prog Tryd.f4 false true false false W args v W' := by
  have hW' := hW
  obtain ⟨p, q, hA0, hV, rfl, hfz, hnd⟩ := hW
  have hA : DataW.TrodAll enc Tryd.prog W 0 (fun _ => true) true Tryd.f4.params.toList args.toList ds p := hA0
  rw [params] at hA hval hsz
  obtain ⟨v0, vs0, d0, ds0, p0, q0, hargs, rfl, rfl, h0, r0⟩ := trodAll_cons hA
  obtain ⟨v1, vs1, d1, ds1, p1, q1, rfl, rfl, rfl, h1, r1⟩ := trodAll_cons r0
  obtain ⟨rfl, rfl, rfl⟩ := trodAll_nil r1
  obtain rfl : args = #[v0, v1] := by cases args; simp_all
  obtain ⟨rfl, rfl⟩ := trodVars_none hV
  clear hA0
  obtain ⟨r, Ar, qr, cr, rfl, hor, hvr, hrr⟩ := recV_of_trod h0 (hsz 0 _ _ rfl rfl) (okWide_struct Tryd.underlying38 (hval 0 38 _ rfl rfl))
  obtain ⟨xs, hxs⟩ := fas_of_trod h1 (hsz 1 _ _ rfl rfl) (okWide_slice Tryd.underlying55 (hval 1 55 _ rfl rfl))
  refine (filterLive_law hor hvr hxs (tab hL)).mono fun e W' ⟨he, hb⟩ => ?_
  subst he
  exact ⟨_, rfl, law_post laidOut readable rfl Tryd.underlying4 rfl ⟨rfl, rfl, rfl⟩ hW' hb⟩
noncomputable def laidWorld (os : Os) : World :=
  { World.holding Tryd.prog os ⟨#[], #[], []⟩ with heap := (World.holding Tryd.prog os ⟨#[], #[], []⟩).heap.modify 0 fun
      | .cells _ t frozen => .cells (Lib.deBruijn64tab.map fun n => Value.int .u8 (Int.ofNat n)).toArray t frozen
      | o => o }
theorem laid_met (os : Os) : laidMet Tryd.prog Rows.filterLiveRow.laid ((laidWorld os).forCall (fun _ _ => 0) ⟨#[], #[.agg #[.int .u64 0, .int .u64 0, .int .i64 0, .int .u64 0, .slice none 0 0], .slice none 0 0], []⟩).memory :=
  laidMet_of_run' 8 (by kernel_rfl) (by kernel_rfl)
theorem reads (os : Os) {H : Type} (enc : TypeId × Value → H) : ∃ places, DataW.whole enc Tryd.prog ((laidWorld os).forCall (fun _ _ => 0) ⟨#[], #[.agg #[.int .u64 0, .int .u64 0, .int .i64 0, .int .u64 0, .slice none 0 0], .slice none 0 0], []⟩).memory Tryd.f4.params.toList Rows.filterLiveSpec.vars false #[.agg #[.int .u64 0, .int .u64 0, .int .i64 0, .int .u64 0, .slice none 0 0], .slice none 0 0].toList 8 = some ([.agg [.agg [.lit (.int .u64 0), .agg [.lit (.int .u64 0), .lit (.int .i64 0)], .lit (.int .u64 0)], .nil], .nil], [], places) :=
  ⟨[], by kernel_rfl⟩
set_option maxRecDepth 100000 in
theorem lifted (os : Os) (started : os.Started) (H : Type) (enc : TypeId × Value → H) (F : Stop.Interp) :
    ReturnsInHanded {} Tryd.checked os 4 .any ((OpenSpec.ofChange Rows.filterLiveSpec).preRow enc Tryd.prog Tryd.f4 Rows.filterLiveRow.domain false Rows.filterLiveRow.laid) (((OpenSpec.ofChange Rows.filterLiveSpec).at F).post enc Tryd.prog Tryd.f4 false true false false) := by
  obtain ⟨places, hx⟩ := reads os enc
  refine returnsInHanded_of_row (C := Tryd.checked) (s := OpenSpec.ofChange Rows.filterLiveSpec) own started (by kernel_rfl) Tryd.func4
    (witness_row_at (enc := enc) (C := Tryd.checked) false (laidWorld os) #[.agg #[.int .u64 0, .int .u64 0, .int .i64 0, .int .u64 0, .slice none 0 0], .slice none 0 0] rfl (by kernel_rfl) (by kernel_rfl) (by kernel_rfl)
      (OpenSpec.preRow_of_cond 8 hx (by kernel_rfl) (fun k hk => by cases hk) (by kernel_rfl) (laid_met os))) ?_
  intro W base args ds gs before hval hW _ hcond hsz hL _ _
  exact contract H enc W base args ds gs before hval hW hL (light_args hsz)
theorem said : Rows.FilterLiveSaid :=
  OpenClaim.holds_of_cond 4 Tryd.f4 rfl rfl rfl rfl rfl rfl rfl ⟨rfl, rfl, rfl, rfl, rfl⟩ rfl rfl rfl rfl rfl (by kernel_rfl) Tryd.func4 (by kernel_rfl)
    (of_decide_eq_true (by kernel_rfl)) (by unfold Func.isWrapper; first | (rw [if_pos (by decide +kernel)]; kernel_rfl) | (rw [if_neg (by decide +kernel)]; exact ⟨rfl, rfl⟩))
    (fun os started H enc _ F => by rw [OpenClaim.pre_eq_preRow]; exact lifted os started H enc F)
theorem plain (f : FuncId) (fn : Func) (hf : Tryd.pinned.checked.prog.funcNamed "consort/consortlaw20.FilterLive" = some f) (hfn : Tryd.pinned.checked.prog.funcs[f]? = some fn) :
    Rows.filterLiveCard.stood.looks = Tryd.pinned.checked.prog.looks [] ∧ ∀ (j : Nat) t, fn.params[j]? = some t → Tryd.pinned.checked.prog.wantsStandIn t = false := by
  obtain rfl : f = 4 := Option.some.inj ((show Tryd.prog.funcNamed "consort/consortlaw20.FilterLive" = some 4 by kernel_rfl).symm.trans hf) |>.symm
  obtain rfl : fn = Tryd.f4 := (Option.some.inj (Tryd.func4.symm.trans hfn)).symm
  refine ⟨by kernel_rfl, fun j t ht => ?_⟩
  rw [params] at ht
  have hm := Array.mem_of_getElem? ht
  have h : Tryd.prog.wantsStandIn 38 = false ∧ Tryd.prog.wantsStandIn 55 = false := ⟨by kernel_rfl, by kernel_rfl⟩
  simp only [List.mem_toArray, List.mem_cons, List.not_mem_nil, or_false] at hm
  rcases hm with rfl | rfl
  · exact h.1
  · exact h.2
theorem card : Rows.FilterLiveCardSaid :=
  Claim7.holds_tied_plain_at .later [] _ _ _ _ said (fun _ h => by cases h) (by kernel_rfl) (fun _ h => by cases h) filterLive_row_tie rfl ⟨rfl, rfl⟩ (by kernel_rfl) rfl plain (by kernel_rfl)
#print axioms card
end Go.Proofs.YtalcoodidcehnaaDoor.lawFilterLive
