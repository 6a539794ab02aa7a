import Derived.Test.YtalcoodidcehnaaDoorSetC
namespace Go.Proofs.YtalcoodidcehnaaDoor
set_option linter.unusedVariables false
set_option linter.unusedSimpArgs false
open Go.RowKit
theorem info_int : (Tryd.prog.info? 3).map (fun i => (i.zero, i.size, i.bytes)) = some (some (.int .i64 0), 1, 8) := by kernel_rfl
theorem step_and {t : Nat} (ht : S64 t) (h0 : t ≠ 0) : Go.bits .and .u64 (t : Int) (IntKind.u64.wrap ((t : Int) - 1)) = ((t &&& (t - 1) : Nat) : Int) ∧ S64 (t &&& (t - 1)) := by
  have h1 := ht.lt
  have e : IntKind.u64.wrap ((t : Int) - 1) = ((t - 1 : Nat) : Int) := by rw [IntKind.wrap_u64]; omega
  rw [e]
  exact ⟨u64_and_nat _ _ h1 (by omega), ⟨Nat.lt_of_le_of_lt Nat.and_le_left h1⟩⟩
def encN (p : Nat) : Value := .int .i64 (p : Int)
theorem slist_le (t : Nat) : (slist t).length ≤ 64 := ssize_le t
set_option maxRecDepth 20000 in
set_option maxHeartbeats 400000 in
theorem list_own {s : Nat} (hs : S64 s) {w : World} (h : Tab w) :
    Calls Tryd.prog 46 #[.int .u64 (s : Int)] w fun e w' => ∃ v, e = .returned v ∧ Below w.heap.size w w' ∧ w'.ownsRow w.heap.size 3 1 v (slist s).length ((slist s).map encN) := by
  have H := Lib.hid h
  clear h
  obtain ⟨i0, hi, hz0, hz1, hz2⟩ := info_parts info_int
  go_enter Tryd.func46, Tryd.ntmps46
  go_wp2_with fail
  go_loopw [3, 4] (fun v i wr => ∃ (t : Nat) (fr : List Nat), S64 t ∧ i = .int .u64 (t : Int) ∧ Hid (slist s = fr ++ slist t) ∧ wr.ownsRow w.heap.size 3 1 v fr.length (fr.map encN) ∧ Below w.heap.size w wr) (fun _ i _ => (slist (intOf i).toNat).length)
  case atStart => exact ⟨s, [], hs, rfl, rfl, World.ownsRow_nil _ _ _ _, Below.refl _ _⟩
  case round =>
    obtain ⟨t, fr, ht, rfl, hl, hown, hb⟩ := hrel
    by_cases h0 : t = 0
    · subst h0
      have HO := Lib.hid hown
      have HB := Lib.hid hb
      clear hown hb
      go_wp2_with fail
      go_ret
      refine ⟨_, rfl, HB.out, ?_⟩
      have e : slist s = fr := by rw [hl.out, (slist_nil S64.zero).2 rfl, List.append_nil]
      rw [e]
      exact HO.out
    · have hx : ((t : Int) != 0) = true := by rw [bne_iff_ne]; omega
      have HO := Lib.hid hown
      have HB := Lib.hid hb
      have hst := step_and ht h0
      have hsl := slist_step ht h0
      have HS := Lib.hid hst
      have HL := Lib.hid hsl
      have hlen : fr.length ≤ 64 := by
        have := slist_le s
        rw [hl.out, List.length_append] at this
        omega
      clear hown hb hst hsl
      go_wp2_with fail
      refine (min_pos ht h0 (H.out.below HB.out)).mono ?_
      rintro e w' ⟨rfl, rfl⟩
      clear h0
      go_wp2_with (at_builtin; refine wpList_append_own _ rfl _ _ 33 rfl w.heap.size 3 i0 (.int .i64 0) 1 8 Tryd.underlying33 hi hz0 hz1 hz2 rfl (by decide) _ _ _ rfl (HO.out.alloc _) ⟨wr.heap.size, 0, none⟩ 1 1 [.int .i64 (Lib.ctz 64 t : Nat)] rfl rfl ?c1 ?c2 ?c3 ?c4 ?c5 ?_)
      case c1 => exact cell_one_new _ _ _
      case c2 => simp [Value.oneCell']
      case c3 => unfold maxLen; omega
      case c4 => omega
      case c5 => have := HB.out.size; simp; omega
      intro v' w1 hown' hgrow _
      have HO' := Lib.hid hown'
      have hb1 : Below w.heap.size w w1 := (HB.out.alloc HB.out.size _).grown hgrow (by have := HB.out.size; simp; omega) (fun k hk => (HO.out.lt k hk).1)
      have HB1 := Lib.hid hb1
      clear hown' hgrow hb1
      go_wp2_with fail
      go_roundw
      case rel =>
        refine ⟨t &&& (t - 1), fr ++ [Lib.ctz 64 t], HS.out.2, by rw [HS.out.1], ?_, ?_, HB1.out⟩
        · have := hl.out
          rw [HL.out] at this
          show slist s = _
          rw [this, List.append_assoc]; rfl
        · rw [List.length_append, List.map_append]
          exact HO'.out
      case measure =>
        rw [HS.out.1]
        show (slist ((t &&& (t - 1) : Nat) : Int).toNat).length < (slist ((t : Nat) : Int).toNat).length
        rw [Int.toNat_natCast, Int.toNat_natCast, HL.out, List.length_cons]
        omega
/-- a list of processes: its numbers as Nat -/
abbrev Nats (w : World) (v : Value) (xs : List Nat) : Prop := Sl (one encN) 1 w v xs
theorem list_any {s : Nat} (hs : S64 s) {w : World} (h : Tab w) :
    Calls Tryd.prog 46 #[.int .u64 (s : Int)] w fun e w' => ∃ v, e = .returned v ∧ Below w.heap.size w w' ∧ Nats w' v (slist s) :=
  (list_own hs h).mono fun e w' ⟨v, he, hb, ho⟩ => ⟨v, he, hb, Sl.of_own1 ho rfl⟩
end Go.Proofs.YtalcoodidcehnaaDoor
