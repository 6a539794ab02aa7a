import Derived.Test.YtheeclmpkddgjaaDoorHzB
namespace Go.Proofs.YtheeclmpkddgjaaDoor
set_option linter.unusedVariables false
set_option linter.unusedSimpArgs false
open Go.RowKit
/-- one more, but no more than all -/
def inc1 (a : Nat) : Nat := if a < 18446744073709551615 then a + 1 else a
theorem S64.inc1 {a : Nat} (h : S64 a) : S64 (inc1 a) := by
  have := h.lt
  unfold Go.Proofs.YtheeclmpkddgjaaDoor.inc1
  split
  · exact ⟨by omega⟩
  · exact h
set_option maxRecDepth 20000 in
set_option maxHeartbeats 1000000 in
theorem sum1_any {z : Int} (h0 : 0 ≤ z) (h1 : z ≤ 18446744073709551615) {r : Int} (hr : r = if z < 18446744073709551615 then z + 1 else z) (w : World) :
    Calls Tryd.prog 97 #[.int .u64 z, .int .u64 1] w fun e w' => e = .returned (.int .u64 r) ∧ w = w' := by
  have hw : IntKind.u64.wrap (18446744073709551615 - z) = 18446744073709551615 - z := by rw [IntKind.wrap_u64]; omega
  by_cases h : z < 18446744073709551615
  · have hd : decide (18446744073709551615 - z < 1) = false := decide_eq_false (by omega)
    have hw2 : IntKind.u64.wrap (z + 1) = z + 1 := by rw [IntKind.wrap_u64]; omega
    rw [if_pos h] at hr
    subst hr
    clear h
    go_enter Tryd.func97, Tryd.ntmps97
    go_wp2_with fail
    go_ret
    exact ⟨rfl, rfl⟩
  · have hd : decide (18446744073709551615 - z < 1) = true := decide_eq_true (by omega)
    have hz : z = 18446744073709551615 := by omega
    rw [if_neg h] at hr
    subst hr
    subst hz
    clear h h0 h1 hw hd
    go_enter Tryd.func97, Tryd.ntmps97
    go_wp2_with fail
    go_ret
    exact ⟨rfl, rfl⟩
def Hz.stamp (H : Hz) : Hz := { H with clock := inc1 H.clock }
set_option maxRecDepth 20000 in
set_option maxHeartbeats 1000000 in
theorem stamp_any {base g : Nat} {w : World} {H : Hz} {vs : Nat → Value} (h : HzAt base w g H vs) :
    Calls Tryd.prog 92 #[.pointer (some ⟨g, 0, none⟩)] w fun e w' => e = .returned (.int .u64 (H.stamp.clock : Int)) ∧ HzAt base w' g H.stamp vs ∧ Fr w w' g vs vs := by
  obtain ⟨h0, h1⟩ := h.cell
  have hf := h.free 0
  have hlt := h.clk.lt
  have hset := h.setClock (inc1 H.clock) h.clk.inc1
  obtain ⟨z, hz⟩ : ∃ z : Int, z = (H.clock : Int) := ⟨_, rfl⟩
  obtain ⟨r, hr⟩ : ∃ r : Int, r = ((inc1 H.clock : Nat) : Int) := ⟨_, rfl⟩
  rw [← hz] at h0
  rw [← hr] at hset
  have hr2 : r = if z < 18446744073709551615 then z + 1 else z := by
    rw [hr, hz]; unfold inc1
    split <;> split <;> omega
  have hc1 : (w.setCell ⟨g, 0, none⟩ (.int .u64 r)).cell? ⟨g, 0, none⟩ = some (.int .u64 r) := by
    obtain ⟨cs, hb, hc⟩ := h.blk
    exact ((hb.set 0 _).cell 0).trans (set_here (by rw [hc.size]; decide))
  have hz0 : 0 ≤ z := by omega
  have hz1 : z ≤ 18446744073709551615 := by omega
  have HS := Lib.hid hset
  have HR := Lib.hid hr2
  have HRR : Hid (r = ((H.stamp.clock : Nat) : Int)) := hr
  have HZ0 := Lib.hid hz0
  have HZ1 := Lib.hid hz1
  clear hset hr2 hr hz hz0 hz1 hlt h
  rw [← HRR.out]
  go_enter Tryd.func92, Tryd.ntmps92
  go_wp2_with fail
  refine (sum1_any HZ0.out HZ1.out HR.out _).mono ?_
  rintro e w' ⟨rfl, rfl⟩
  go_wp2_with fail
  go_ret
  exact ⟨rfl, HS.out⟩
/-! how far all were heard -/
def lowH (H : Hz) (l : List Nat) : Nat := l.foldl (fun a p => min a (H.l p).heard) H.clock
def Hz.all (H : Hz) : Nat := lowH H (slist H.others)
def lowR (H : Hz) (l : List Nat) : Nat := l.foldl (fun a p => min a (H.l p).reached) H.all
def Hz.safe (H : Hz) : Nat := lowR H (slist H.others)
theorem lowH_take (H : Hz) (l : List Nat) (k : Nat) (hk : k < l.length) : lowH H (l.take (k + 1)) = min (lowH H (l.take k)) (H.l l[k]).heard := by
  unfold lowH
  rw [List.take_succ_eq_append_getElem hk, List.foldl_append]
  rfl
theorem lowR_take (H : Hz) (l : List Nat) (k : Nat) (hk : k < l.length) : lowR H (l.take (k + 1)) = min (lowR H (l.take k)) (H.l l[k]).reached := by
  unfold lowR
  rw [List.take_succ_eq_append_getElem hk, List.foldl_append]
  rfl
set_option maxRecDepth 20000 in
set_option maxHeartbeats 1000000 in
theorem all_of {base g : Nat} {w : World} {H : Hz} {vs : Nat → Value} (h : HzAt base w g H vs) (ho : S64 H.others) (hT : Tab w) :
    Calls Tryd.prog 57 #[.pointer (some ⟨g, 0, none⟩)] w fun e w' => e = .returned (.int .u64 (H.all : Int)) ∧ Below w.heap.size w w' := by
  obtain ⟨h0, h1⟩ := h.cell
  have hg := h.lt
  have HH := Lib.hid h
  have HT := Lib.hid hT
  have HO := Lib.hid ho
  obtain ⟨m, hm⟩ : ∃ m, m = (slist H.others).length := ⟨_, rfl⟩
  have HM := Lib.hid hm
  have hm64 : m ≤ 64 := by rw [hm]; exact slist_le _
  clear h hT ho hm
  go_enter Tryd.func57, Tryd.ntmps57
  go_wp2_with fail
  refine (list_any HO.out HT.out).mono ?_
  rintro e w1 ⟨u, rfl, hb1, hu⟩
  obtain ⟨A, c, rfl, _⟩ := hu.slice
  rw [← HM.out] at hu ⊢
  have HB1 := Lib.hid hb1
  have HU := Lib.hid hu
  clear hb1 hu
  go_wp2_with fail
  go_loopw [3, 16] (fun a i wr => ∃ k : Nat, k ≤ m ∧ i = .int .i64 k ∧ a = .int .u64 ((lowH H ((slist H.others).take k) : Nat) : Int) ∧ w1 = wr) (fun _ i _ => m - (intOf i).toNat)
  case atStart => exact ⟨0, by omega, rfl, rfl, rfl⟩
  case round =>
    obtain ⟨k, hk, rfl, rfl, rfl⟩ := hrel
    by_cases hlt : k < m
    · have hlt2 : k < (slist H.others).length := by rw [← HM.out]; exact hlt
      obtain ⟨b, off, rfl, hqc⟩ := Nats.at HU.out k hlt2
      have htk := lowH_take H (slist H.others) k hlt2
      have hq : (slist H.others)[k] < 64 := (mem_slist.1 (List.getElem_mem hlt2)).1
      generalize (slist H.others)[k] = q at *
      have hmk := ((HH.out.stay HB1.out).mark hq).1
      obtain ⟨lo, hlo⟩ : ∃ lo, lo = lowH H ((slist H.others).take k) := ⟨_, rfl⟩
      rw [← hlo] at htk ⊢
      have HTK := Lib.hid htk
      have hq0 : (0 : Int) ≤ (q : Int) := Int.natCast_nonneg _
      have hq1 : (q : Int) < 64 := by omega
      clear hlo htk hlt2
      go_wp2_with fail
      go_roundw
      case rel => exact ⟨k + 1, by omega, by go_num, by rw [HTK.out, min_if], trivial⟩
      case measure => simp [intOf] <;> omega
    · obtain rfl : k = m := by omega
      clear hlt hk
      have e : lowH H ((slist H.others).take k) = H.all := by rw [List.take_of_length_le (by rw [← HM.out]; omega)]; rfl
      rw [e]
      clear e
      go_wp2_with fail
      go_ret
      exact ⟨rfl, HB1.out⟩
set_option maxRecDepth 20000 in
set_option maxHeartbeats 1000000 in
theorem safe_of {base g : Nat} {w : World} {H : Hz} {vs : Nat → Value} (h : HzAt base w g H vs) (ho : S64 H.others) (hT : Tab w) :
    Calls Tryd.prog 58 #[.pointer (some ⟨g, 0, none⟩)] w fun e w' => e = .returned (.int .u64 (H.safe : Int)) ∧ Below w.heap.size w w' := by
  have HH := Lib.hid h
  have HT := Lib.hid hT
  have HO := Lib.hid ho
  obtain ⟨m, hm⟩ : ∃ m, m = (slist H.others).length := ⟨_, rfl⟩
  have HM := Lib.hid hm
  have hm64 : m ≤ 64 := by rw [hm]; exact slist_le _
  clear h hT ho hm
  go_enter Tryd.func58, Tryd.ntmps58
  go_wp2_with fail
  refine (all_of HH.out HO.out HT.out).mono ?_
  rintro e w0 ⟨rfl, hb0⟩
  have h1 := (HH.out.stay hb0).cell.2
  have HB0 := Lib.hid hb0
  clear hb0
  go_wp2_with fail
  refine (list_any HO.out (HT.out.below HB0.out)).mono ?_
  rintro e w1 ⟨u, rfl, hb1, hu⟩
  obtain ⟨A, c, rfl, _⟩ := hu.slice
  rw [← HM.out] at hu ⊢
  have HB1 := Lib.hid (btr HB0.out hb1)
  have HU := Lib.hid hu
  clear hb1 hu
  go_wp2_with fail
  go_loopw [3, 14] (fun a i wr => ∃ k : Nat, k ≤ m ∧ i = .int .i64 k ∧ a = .int .u64 ((lowR H ((slist H.others).take k) : Nat) : Int) ∧ w1 = wr) (fun _ i _ => m - (intOf i).toNat)
  case atStart => exact ⟨0, by omega, rfl, rfl, rfl⟩
  case round =>
    obtain ⟨k, hk, rfl, rfl, rfl⟩ := hrel
    by_cases hlt : k < m
    · have hlt2 : k < (slist H.others).length := by rw [← HM.out]; exact hlt
      obtain ⟨b, off, rfl, hqc⟩ := Nats.at HU.out k hlt2
      have htk := lowR_take H (slist H.others) k hlt2
      have hq : (slist H.others)[k] < 64 := (mem_slist.1 (List.getElem_mem hlt2)).1
      generalize (slist H.others)[k] = q at *
      have hmk := ((HH.out.stay HB1.out).mark hq).2.1
      obtain ⟨lo, hlo⟩ : ∃ lo, lo = lowR H ((slist H.others).take k) := ⟨_, rfl⟩
      rw [← hlo] at htk ⊢
      have HTK := Lib.hid htk
      have hq0 : (0 : Int) ≤ (q : Int) := Int.natCast_nonneg _
      have hq1 : (q : Int) < 64 := by omega
      clear hlo htk hlt2
      go_wp2_with fail
      go_roundw
      case rel => exact ⟨k + 1, by omega, by go_num, by rw [HTK.out, min_if], trivial⟩
      case measure => simp [intOf] <;> omega
    · obtain rfl : k = m := by omega
      clear hlt hk
      have e : lowR H ((slist H.others).take k) = H.safe := by rw [List.take_of_length_le (by rw [← HM.out]; omega)]; rfl
      rw [e]
      clear e
      go_wp2_with fail
      go_ret
      exact ⟨rfl, HB1.out⟩
end Go.Proofs.YtheeclmpkddgjaaDoor
