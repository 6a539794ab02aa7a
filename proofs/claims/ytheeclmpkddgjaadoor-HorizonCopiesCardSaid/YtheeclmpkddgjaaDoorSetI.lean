import Derived.Test.YtheeclmpkddgjaaDoorRefE
import Derived.Test.YtheeclmpkddgjaaDoorSetF
namespace Go.Proofs.YtheeclmpkddgjaaDoor
set_option linter.unusedVariables false
set_option linter.unusedSimpArgs false
open Go.RowKit
theorem qs {P : Program} {f : FuncId} {args : Array Value} {w : World} {n : Nat} {v : Value}
    (h : Calls P f args (w.drewN n) fun e w' => e = .returned v ∧ w.drewN n = w') : Calls P f args (w.drewN n) fun e w'' => e = .returned v ∧ ∃ m, w'' = w.drewN m :=
  Calls.quiet_of_same (h.mono fun _ _ ⟨he, hw⟩ => ⟨he, hw.symm⟩)
theorem min_eq {s : Nat} {r : Int} (hs : S64 s) (he : smin s = r) {w : World} (h : Tab w) :
    Calls Tryd.prog 35 #[.int .u64 (s : Int)] w fun e w' => e = .returned (.int .i64 r) ∧ w = w' := by
  subst he; exact min_any hs h
theorem Tab.drewN {w : World} (h : Tab w) (n : Nat) : Tab (w.drewN n) := h.below (bdrewN (Below.refl _ _) n)
theorem Nats.ints {w : World} {v : Value} {xs : List Nat} (h : Nats w v xs) : Ints w v (xs.map Int.ofNat) := by
  obtain ⟨A, c, rfl, hc, h⟩ := h
  refine ⟨A, c, by rw [List.length_map], by rw [List.length_map]; exact hc, fun i x hx => ?_⟩
  rw [List.getElem?_map] at hx
  cases hy : xs[i]? with
  | none => rw [hy] at hx; cases hx
  | some y =>
    rw [hy] at hx
    obtain rfl : x = (y : Int) := by simpa using hx.symm
    obtain ⟨b, off, cs, hA, hk, hl, hcell⟩ := h i y hy
    exact ⟨b, off, cs, hA, hk, hl, hcell⟩
set_option maxRecDepth 20000 in
set_option maxHeartbeats 400000 in
theorem setBack_law {s : Nat} (hs : S64 s) {w : World} (hT : Tab w) :
    Calls Tryd.prog 7 #[.int .u64 (s : Int)] w fun e w' => e = .returned (.bool true) ∧ Below w.heap.size w w' := by
  have HT := Lib.hid hT
  clear hT
  obtain ⟨l, hl⟩ : ∃ l, l = slist s := ⟨_, rfl⟩
  obtain ⟨n, hn⟩ : ∃ n, n = l.length := ⟨_, rfl⟩
  have hsz : ((ssize s : Nat) : Int) = (n : Int) := by rw [hn, hl]; rfl
  have hof : ((sof (l.map Int.ofNat) : Nat) : Int) = (s : Int) := by rw [hl, of_list hs]
  have hle : n ≤ 64 := by rw [hn, hl]; exact slist_le s
  have HSZ := Lib.hid hsz
  have HOF := Lib.hid hof
  have HLN := Lib.hid hn
  have HL := Lib.hid hl
  clear hsz hof hn hl
  go_enter Tryd.func7, Tryd.ntmps7
  go_wp2_with fail
  refine (awake02 _).mono ?_
  rintro e w1 ⟨rfl, hb1⟩
  have HB := Lib.hid hb1
  clear hb1
  go_wp2_with fail
  refine (list_any hs (HT.out.below HB.out)).mono ?_
  rintro e w2 ⟨v, rfl, hb2, hv⟩
  rw [← HL.out] at hv
  have HV := Lib.hid hv
  obtain ⟨A, c, rfl, _⟩ := hv.slice
  have HB2 := Lib.hid (btr HB.out hb2)
  clear hb2 hv HB
  go_wp2_with fail
  refine (of_num HV.out.ints (by rw [List.length_map, ← HLN.out]; omega) HOF.out).mono ?_
  rintro e w' ⟨rfl, rfl⟩
  rw [← HLN.out]
  go_wp2_with fail
  refine (size_eq hs HSZ.out _).mono ?_
  rintro e w' ⟨rfl, rfl⟩
  go_wp2_with fail
  go_loopw [5] (fun i wr => ∃ k : Nat, k ≤ n ∧ i = .int .i64 k ∧ Hid (Below w2.heap.size w2 wr)) (fun i _ => n - (intOf i).toNat)
  case atStart => exact ⟨0, by omega, rfl, Below.refl _ _⟩
  case round =>
    obtain ⟨k, hk, rfl, HB3⟩ := hrel
    by_cases hlt : k < n
    · have hlt2 : k < l.length := by rw [← HLN.out]; exact hlt
      have HB := Lib.hid (btr HB2.out HB3.out)
      have hcells := HV.out.below (one_stays _) (by decide) HB3.out
      rw [← HLN.out] at hcells
      obtain ⟨b, off, rfl, hcell⟩ := Nats.at hcells k hlt2
      obtain ⟨x, hx⟩ : ∃ x, x = l[k] := ⟨_, rfl⟩
      rw [← hx] at hcell
      have hhas : shas s (x : Int) = true := by
        have hm : x ∈ slist s := by rw [← HL.out, hx]; exact List.getElem_mem hlt2
        rw [shas_nat _ _ (mem_slist.1 hm).1]
        exact (mem_slist.1 hm).2
      by_cases hk0 : k = 0
      · subst hk0
        have hmin : smin s = (x : Int) := by
          have e := HL.out
          unfold smin
          rw [← e, hx]
          cases l with
          | nil => simp at hlt2
          | cons p l => rfl
        have HH := Lib.hid hhas
        have HMIN := Lib.hid hmin
        have HC := Lib.hid hcells
        clear hhas hmin hx hlt2 hcells
        simp only [Nat.add_zero] at hcell
        go_wp2_with fail
        go_quiet ((first | (go_at_call 33; exact qs (has_eq hs HH.out _)) | (go_at_call 35; exact qs (min_eq hs HMIN.out ((HT.out.below HB.out).drewN _)))))
        go_wp2_with fail
        go_roundw
        case rel => exact ⟨1, by omega, by go_num, bdrewN HB3.out _⟩
        case measure => simp [intOf] <;> omega
      · obtain ⟨b', off', e, hcell'⟩ := Nats.at hcells (k - 1) (by omega)
        obtain ⟨rfl, rfl⟩ : b = b' ∧ off = off' := by
          injection e with e; injection e with e1 e2; exact ⟨e1, e2⟩
        have hlt3 : k - 1 < l.length := by omega
        obtain ⟨y, hy⟩ : ∃ y, y = l[k - 1] := ⟨_, rfl⟩
        rw [← hy] at hcell'
        have hless : y < x := by
          have e := HL.out
          rw [hx, hy]
          subst e
          exact slist_lt hlt2 (by omega)
        have hyx : ¬ (x : Int) ≤ (y : Int) := by omega
        have hyd : decide (x ≤ y) = false := decide_eq_false (by omega)
        have hkb : (k == 0) = false := by rw [beq_eq_false_iff_ne]; omega
        have hk0d : ¬ k = 0 := hk0
        have hki : 0 < k := by omega
        have hkd : decide (0 < k) = true := decide_eq_true hki
        have hk1 : (1 : Int) ≤ (k : Int) := by omega
        have hkw : IntKind.i64.wrap ((k : Int) - 1) = (k : Int) - 1 := by rw [IntKind.wrap_i64]; omega
        have hkt : ((k : Int) - 1).toNat = k - 1 := by omega
        have hkl : (k : Int) - 1 < (n : Int) := by omega
        have hkz : ((k : Int) == 0) = false := by rw [beq_eq_false_iff_ne]; omega
        have HH := Lib.hid hhas
        have HC := Lib.hid hcells
        have HMIN : Hid (smin s = smin s) := rfl
        clear hhas hx hy hlt2 hlt3 hcells e hk0
        go_wp2_with fail
        go_quiet ((first | (go_at_call 33; exact qs (has_eq hs HH.out _)) | (go_at_call 35; exact qs (min_eq hs HMIN.out ((HT.out.below HB.out).drewN _)))))
        go_wp2_with fail
        go_roundw
        case rel => exact ⟨k + 1, by omega, by go_num, bdrewN HB3.out _⟩
        case measure => simp [intOf] <;> omega
    · go_wp2_with fail
      go_ret
      exact ⟨rfl, btr HB2.out HB3.out⟩
end Go.Proofs.YtheeclmpkddgjaaDoor
