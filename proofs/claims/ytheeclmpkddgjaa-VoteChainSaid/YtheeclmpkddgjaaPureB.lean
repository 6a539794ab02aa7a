import Derived.Test.YtheeclmpkddgjaaPureA
import Derived.Laws.BitsAllLaws
import Derived.Laws.BitsLemmas
import Derived.RowKit
namespace Go.Proofs.Ytheeclmpkddgjaa
set_option linter.unusedVariables false
set_option linter.unusedSimpArgs false
open Go.RowKit
/-! math/bits.OnesCount64, step by step -/
def o1 (a : Int) : Int := IntKind.u64.wrap (Go.bits .and .u64 (a / 2) 6148914691236517205 + Go.bits .and .u64 a 6148914691236517205)
def o2 (a : Int) : Int := IntKind.u64.wrap (Go.bits .and .u64 (a / 4) 3689348814741910323 + Go.bits .and .u64 a 3689348814741910323)
def o3 (a : Int) : Int := Go.bits .and .u64 (IntKind.u64.wrap (a / 16 + a)) 1085102592571150095
def o4 (a : Int) : Int := IntKind.u64.wrap (a + a / 256)
def o5 (a : Int) : Int := IntKind.u64.wrap (a + a / 65536)
def o6 (a : Int) : Int := IntKind.u64.wrap (a + a / 4294967296)
def o7 (a : Int) : Int := Go.bits .and .i64 (wrap64 a) 127
def ones (a : Int) : Int := o7 (o6 (o5 (o4 (o3 (o2 (o1 a))))))

def q1 (b : Nat) : Nat := ((b / 2) &&& 85) + (b &&& 85)
def q2 (b : Nat) : Nat := ((b / 4) &&& 51) + (b &&& 51)
def q3 (b : Nat) : Nat := (b / 16) + (b % 16)
theorem bval_lt : ∀ (l : List Nat), (∀ b, b ∈ l → b < 256) → bval l < 256 ^ l.length
  | [], _ => by simp [bval]
  | b :: l, h => by
    have := bval_lt l (fun b hb => h b (by simp [hb]))
    have hb := h b (by simp)
    simp only [bval, List.length_cons, Nat.pow_succ]
    omega
theorem bval_add (f g : Nat → Nat) : ∀ l : List Nat, bval (l.map f) + bval (l.map g) = bval (l.map fun b => f b + g b)
  | [] => rfl
  | b :: l => by
    have := bval_add f g l
    simp only [List.map_cons, bval]
    omega
theorem f1 : ∀ b, b < 256 → ∀ r, r < 2 → ((b / 2 + 256 / 2 * r) &&& 85) = ((b / 2) &&& 85) := by decide +kernel
theorem f2 : ∀ b, b < 256 → ∀ r, r < 4 → ((b / 4 + 256 / 4 * r) &&& 51) = ((b / 4) &&& 51) := by decide +kernel
theorem f0 (c : Nat) : ∀ b, b < 256 → ∀ r, r < 1 → ((b / 1 + 256 / 1 * r) &&& c) = (b &&& c) := by
  intro b _ r hr
  obtain rfl : r = 0 := by omega
  simp
theorem f3 : ∀ b, b < 256 → ∀ r, r < 5 → b / 16 < 5 → b % 16 < 5 → ((b / 16 + 16 * r + b) &&& 15) = q3 b := by decide +kernel
theorem g1 : ∀ b, b < 256 → q1 b < 256 := by decide +kernel
theorem g2 : ∀ b, b < 256 → q2 (q1 b) < 256 ∧ q2 (q1 b) / 16 < 5 ∧ q2 (q1 b) % 16 < 5 := by decide +kernel
theorem g3 : ∀ b, b < 256 → q3 (q2 (q1 b)) = pcnt 8 b ∧ pcnt 8 b < 9 := by decide +kernel
theorem and_zero_shift (c : Nat) (hc : c < 256) : ∀ l : List Nat, (∀ b, b ∈ l → b < 256) → bval l &&& bval (l.map fun _ => c) = bval (l.map fun b => b &&& c)
  | [], _ => by simp [bval]
  | b :: l, h => by
    have hb := h b (by simp)
    have ih := and_zero_shift c hc l (fun b hb => h b (by simp [hb]))
    simp only [List.map_cons, bval]
    rw [and_byte, show (b + 256 * bval l) % 256 = b by omega, show (b + 256 * bval l) / 256 = bval l by omega, show (c + 256 * bval (l.map fun _ => c)) % 256 = c by omega, show (c + 256 * bval (l.map fun _ => c)) / 256 = bval (l.map fun _ => c) by omega, ih]
theorem and_sum : ∀ l : List Nat, (∀ b, b ∈ l → b < 256 ∧ b / 16 < 5 ∧ b % 16 < 5) → (bval l / 16 + bval l) &&& bval (l.map fun _ => 15) = bval (l.map q3)
  | [], _ => by simp [bval]
  | b :: l, h => by
    have ih := and_sum l (fun b hb => h b (by simp [hb]))
    obtain ⟨hb, hb1, hb2⟩ := h b (by simp)
    have hr : bval l % 16 < 5 := by
      cases l with
      | nil => simp [bval]
      | cons c l =>
        have := h c (by simp)
        simp only [bval]
        omega
    simp only [List.map_cons, bval]
    rw [and_byte, show ((b + 256 * bval l) / 16 + (b + 256 * bval l)) % 256 = b / 16 + 16 * (bval l % 16) + b by omega,
      show ((b + 256 * bval l) / 16 + (b + 256 * bval l)) / 256 = bval l / 16 + bval l by omega,
      show (15 + 256 * bval (l.map fun _ => 15)) % 256 = 15 by omega, show (15 + 256 * bval (l.map fun _ => 15)) / 256 = bval (l.map fun _ => 15) by omega, ih, f3 b hb _ hr hb1 hb2]

theorem bytes_of (s : Nat) (hs : S64 s) : ∃ l : List Nat, l.length = 8 ∧ (∀ b, b ∈ l → b < 256) ∧ s = bval l := by
  have h := hs.lt
  refine ⟨[s % 256, s / 256 % 256, s / 65536 % 256, s / 16777216 % 256, s / 4294967296 % 256, s / 1099511627776 % 256, s / 281474976710656 % 256, s / 72057594037927936], rfl, ?_, ?_⟩
  · intro b hb
    simp only [List.mem_cons, List.not_mem_nil, or_false] at hb
    rcases hb with rfl | rfl | rfl | rfl | rfl | rfl | rfl | rfl <;> omega
  · simp only [bval]
    omega
theorem pcnt_bval : ∀ (l : List Nat), (∀ b, b ∈ l → b < 256) → pcnt (8 * l.length) (bval l) = (l.map (pcnt 8)).sum
  | [], _ => rfl
  | b :: l, h => by
    have ih := pcnt_bval l (fun b hb => h b (by simp [hb]))
    have hb := h b (by simp)
    rw [List.length_cons, show 8 * (l.length + 1) = 8 + 8 * l.length by omega, pcnt_add, pcnt_mod]
    simp only [bval, List.map_cons, List.sum_cons]
    rw [show (b + 256 * bval l) % 2 ^ 8 = b by omega, show (b + 256 * bval l) / 2 ^ 8 = bval l by omega, ih]
theorem wrap_nat (n : Nat) (h : n < 18446744073709551616) : IntKind.u64.wrap (n : Int) = n := by
  rw [IntKind.wrap_u64]
  omega
theorem lt8 (l : List Nat) (hl : l.length = 8) (h : ∀ b, b ∈ l → b < 256) : bval l < 18446744073709551616 := by
  have := bval_lt l h
  rw [hl] at this
  exact this
theorem o1_eq (l : List Nat) (hl : l.length = 8) (h : ∀ b, b ∈ l → b < 256) : o1 (bval l : Nat) = (bval (l.map q1) : Nat) := by
  have h1 := lt8 l hl h
  have hm : bval (l.map fun _ => 85) = 6148914691236517205 := by
    rw [show (fun _ : Nat => 85) = Function.const Nat 85 from rfl, List.map_const, hl]
    rfl
  have e1 := and_mask 85 _ 2 (.inr (.inl rfl)) (by decide) f1 l h
  have e2 := and_zero_shift 85 (by decide) l h
  rw [hm] at e1 e2
  unfold o1
  rw [show ((bval l : Nat) : Int) / 2 = ((bval l / 2 : Nat) : Int) by omega]
  rw [show (6148914691236517205 : Int) = ((6148914691236517205 : Nat) : Int) from rfl, u64_and_nat _ _ (by omega) (by omega), u64_and_nat _ _ h1 (by omega), e1, e2, ← Int.natCast_add, bval_add]
  exact wrap_nat _ (lt8 (l.map q1) (by rw [List.length_map, hl]) (by
    intro b hb
    obtain ⟨a, ha, rfl⟩ := List.mem_map.1 hb
    exact g1 a (h a ha)))
theorem o2_eq (l : List Nat) (hl : l.length = 8) (h : ∀ b, b ∈ l → b < 256) (h' : ∀ b, b ∈ l → q2 b < 256) : o2 (bval l : Nat) = (bval (l.map q2) : Nat) := by
  have h1 := lt8 l hl h
  have hm : bval (l.map fun _ => 51) = 3689348814741910323 := by
    rw [show (fun _ : Nat => 51) = Function.const Nat 51 from rfl, List.map_const, hl]
    rfl
  have e1 := and_mask 51 _ 4 (.inr (.inr (.inl rfl))) (by decide) f2 l h
  have e2 := and_zero_shift 51 (by decide) l h
  rw [hm] at e1 e2
  unfold o2
  rw [show ((bval l : Nat) : Int) / 4 = ((bval l / 4 : Nat) : Int) by omega]
  rw [show (3689348814741910323 : Int) = ((3689348814741910323 : Nat) : Int) from rfl, u64_and_nat _ _ (by omega) (by omega), u64_and_nat _ _ h1 (by omega), e1, e2, ← Int.natCast_add, bval_add]
  exact wrap_nat _ (lt8 (l.map q2) (by rw [List.length_map, hl]) (by
    intro b hb
    obtain ⟨a, ha, rfl⟩ := List.mem_map.1 hb
    exact h' a ha))
theorem o3_eq (l : List Nat) (hl : l.length = 8) (h : ∀ b, b ∈ l → b < 256 ∧ b / 16 < 5 ∧ b % 16 < 5) : o3 (bval l : Nat) = (bval (l.map q3) : Nat) := by
  have hm : bval (l.map fun _ => 15) = 1085102592571150095 := by
    rw [show (fun _ : Nat => 15) = Function.const Nat 15 from rfl, List.map_const, hl]
    rfl
  have e1 := and_sum l h
  rw [hm] at e1
  have hsmall : bval l / 16 + bval l < 18446744073709551616 := by
    match l, hl, h with
    | [c0, c1, c2, c3, c4, c5, c6, c7], _, h =>
      have h0 := h c0 (by simp)
      have h1 := h c1 (by simp)
      have h2 := h c2 (by simp)
      have h3 := h c3 (by simp)
      have h4 := h c4 (by simp)
      have h5 := h c5 (by simp)
      have h6 := h c6 (by simp)
      have h7 := h c7 (by simp)
      simp only [bval]
      omega
  unfold o3
  rw [show ((bval l : Nat) : Int) / 16 + (bval l : Nat) = ((bval l / 16 + bval l : Nat) : Int) by omega, wrap_nat _ hsmall]
  rw [show (1085102592571150095 : Int) = ((1085102592571150095 : Nat) : Int) from rfl, u64_and_nat _ _ hsmall (by omega), e1]
theorem low_and (n : Nat) (h : n < 9223372036854775808) : o7 (n : Int) = ((n % 128 : Nat) : Int) := by
  unfold o7
  rw [show wrap64 (n : Int) = (n : Int) by unfold wrap64; omega]
  have h1 : (BitVec.ofInt 64 (n : Int)).toNat = n := by
    rw [BitVec.ofInt_natCast, BitVec.toNat_ofNat]; exact Nat.mod_eq_of_lt (by omega)
  have h2 : (BitVec.ofInt 64 (127 : Int)).toNat = 127 := by decide
  have hx : n &&& 127 = n % 128 := Nat.and_two_pow_sub_one_eq_mod n 7
  show IntKind.i64.wrap ((BitVec.ofInt 64 (n : Int) &&& BitVec.ofInt 64 (127 : Int)).toNat : Int) = _
  rw [BitVec.toNat_and, h1, h2, hx, IntKind.wrap_i64]
  omega
theorem bval_cut (e0 e1 e2 e3 e4 e5 e6 e7 : Nat) : bval [e0, e1, e2, e3, e4, e5, e6, e7] = bval [e0, e1, e2, e3] + 4294967296 * bval [e4, e5, e6, e7] := by
  simp only [bval]
  omega
theorem bval_plus (e0 e1 e2 e3 e4 e5 e6 e7 : Nat) : bval [e0, e1, e2, e3] + bval [e4, e5, e6, e7] = bval [e0 + e4, e1 + e5, e2 + e6, e3 + e7] := by
  simp only [bval]
  omega
theorem bval4 (e0 e1 e2 e3 : Nat) (g0 : e0 < 68) (g1 : e1 < 68) (g2 : e2 < 68) (g3 : e3 < 68) : bval [e0, e1, e2, e3] < 1157627904 := by
  simp only [bval]
  omega
theorem bval_low (e0 e1 e2 e3 : Nat) (g0 : e0 < 68) : bval [e0, e1, e2, e3] % 128 = e0 := by
  simp only [bval]
  omega
theorem fold32 (e0 e1 e2 e3 e4 e5 e6 e7 : Nat) (g0 : e0 < 34) (g1 : e1 < 34) (g2 : e2 < 34) (g3 : e3 < 34) (g4 : e4 < 34) (g5 : e5 < 34) (g6 : e6 < 34) (g7 : e7 < 34) :
    o7 (o6 (bval [e0, e1, e2, e3, e4, e5, e6, e7] : Nat)) = ((e0 + e4 : Nat) : Int) := by
  have c1 := bval4 e0 e1 e2 e3 (by omega) (by omega) (by omega) (by omega)
  have c2 := bval4 e4 e5 e6 e7 (by omega) (by omega) (by omega) (by omega)
  have c3 := bval4 (e0 + e4) (e1 + e5) (e2 + e6) (e3 + e7) (by omega) (by omega) (by omega) (by omega)
  have c4 := bval_low (e0 + e4) (e1 + e5) (e2 + e6) (e3 + e7) (by omega)
  have c5 := bval_plus e0 e1 e2 e3 e4 e5 e6 e7
  rw [bval_cut]
  rw [← c5] at c3 c4
  clear c5
  generalize bval [e0, e1, e2, e3] = L at *
  generalize bval [e4, e5, e6, e7] = H at *
  unfold o6
  rw [show ((L + 4294967296 * H : Nat) : Int) + ((L + 4294967296 * H : Nat) : Int) / 4294967296 = ((L + H + 4294967296 * H : Nat) : Int) by omega, wrap_nat _ (by omega), low_and _ (by omega)]
  rw [show (L + H + 4294967296 * H) % 128 = (L + H) % 128 by omega, c4]
theorem sum8 (l : List Nat) (hl : l.length = 8) (h : ∀ b, b ∈ l → b < 9) : o7 (o6 (o5 (o4 (bval l : Nat)))) = (l.sum : Nat) := by
  match l, hl, h with
  | [c0, c1, c2, c3, c4, c5, c6, c7], _, h =>
    have h0 := h c0 (by simp)
    have h1 := h c1 (by simp)
    have h2 := h c2 (by simp)
    have h3 := h c3 (by simp)
    have h4 := h c4 (by simp)
    have h5 := h c5 (by simp)
    have h6 := h c6 (by simp)
    have h7 := h c7 (by simp)
    clear h
    have e4 : o4 (bval [c0, c1, c2, c3, c4, c5, c6, c7] : Nat) = (bval [c0 + c1, c1 + c2, c2 + c3, c3 + c4, c4 + c5, c5 + c6, c6 + c7, c7] : Nat) := by
      unfold o4
      rw [show ((bval [c0, c1, c2, c3, c4, c5, c6, c7] : Nat) : Int) + (bval [c0, c1, c2, c3, c4, c5, c6, c7] : Nat) / 256 = ((bval [c0 + c1, c1 + c2, c2 + c3, c3 + c4, c4 + c5, c5 + c6, c6 + c7, c7] : Nat) : Int) by simp only [bval]; omega]
      exact wrap_nat _ (lt8 _ rfl (by simp only [List.mem_cons, List.not_mem_nil, or_false]; omega))
    rw [e4]
    obtain ⟨d0, hd0⟩ : ∃ d, d = c0 + c1 := ⟨_, rfl⟩
    obtain ⟨d1, hd1⟩ : ∃ d, d = c1 + c2 := ⟨_, rfl⟩
    obtain ⟨d2, hd2⟩ : ∃ d, d = c2 + c3 := ⟨_, rfl⟩
    obtain ⟨d3, hd3⟩ : ∃ d, d = c3 + c4 := ⟨_, rfl⟩
    obtain ⟨d4, hd4⟩ : ∃ d, d = c4 + c5 := ⟨_, rfl⟩
    obtain ⟨d5, hd5⟩ : ∃ d, d = c5 + c6 := ⟨_, rfl⟩
    obtain ⟨d6, hd6⟩ : ∃ d, d = c6 + c7 := ⟨_, rfl⟩
    rw [← hd0, ← hd1, ← hd2, ← hd3, ← hd4, ← hd5, ← hd6]
    have k0 : d0 < 17 := by omega
    have k1 : d1 < 17 := by omega
    have k2 : d2 < 17 := by omega
    have k3 : d3 < 17 := by omega
    have k4 : d4 < 17 := by omega
    have k5 : d5 < 17 := by omega
    have k6 : d6 < 17 := by omega
    have e5 : o5 (bval [d0, d1, d2, d3, d4, d5, d6, c7] : Nat) = (bval [d0 + d2, d1 + d3, d2 + d4, d3 + d5, d4 + d6, d5 + c7, d6, c7] : Nat) := by
      unfold o5
      rw [show ((bval [d0, d1, d2, d3, d4, d5, d6, c7] : Nat) : Int) + (bval [d0, d1, d2, d3, d4, d5, d6, c7] : Nat) / 65536 = ((bval [d0 + d2, d1 + d3, d2 + d4, d3 + d5, d4 + d6, d5 + c7, d6, c7] : Nat) : Int) by
        clear hd0 hd1 hd2 hd3 hd4 hd5 hd6 e4
        simp only [bval]; omega]
      exact wrap_nat _ (lt8 _ rfl (by simp only [List.mem_cons, List.not_mem_nil, or_false]; omega))
    rw [e5]
    rw [fold32 _ _ _ _ _ _ _ _ (by omega) (by omega) (by omega) (by omega) (by omega) (by omega) (by omega) (by omega)]
    simp only [List.sum_cons, List.sum_nil]
    omega
theorem ones_size {s : Nat} (hs : S64 s) : ones (s : Int) = (ssize s : Int) := by
  obtain ⟨l, hl, h, rfl⟩ := bytes_of s hs
  unfold ones
  have h1 : ∀ b, b ∈ l.map q1 → b < 256 := by
    intro b hb
    obtain ⟨a, ha, rfl⟩ := List.mem_map.1 hb
    exact g1 a (h a ha)
  have h2 : ∀ b, b ∈ (l.map q1).map q2 → b < 256 ∧ b / 16 < 5 ∧ b % 16 < 5 := by
    intro b hb
    obtain ⟨c, hc, rfl⟩ := List.mem_map.1 hb
    obtain ⟨a, ha, rfl⟩ := List.mem_map.1 hc
    exact g2 a (h a ha)
  have e3 : ((l.map q1).map q2).map q3 = l.map (pcnt 8) := by
    rw [List.map_map, List.map_map]
    apply List.map_congr_left
    intro a ha
    exact (g3 a (h a ha)).1
  rw [o1_eq l hl h, o2_eq _ (by simp [hl]) h1 (fun b hb => (h2 (q2 b) (List.mem_map.2 ⟨b, hb, rfl⟩)).1), o3_eq _ (by simp [hl]) h2, e3, sum8 _ (by simp [hl])]
  · have := pcnt_bval l h
    rw [hl] at this
    rw [← pcnt_size]
    exact congrArg _ this.symm
  · intro b hb
    obtain ⟨a, ha, rfl⟩ := List.mem_map.1 hb
    exact (g3 a (h a ha)).2
end Go.Proofs.Ytheeclmpkddgjaa
