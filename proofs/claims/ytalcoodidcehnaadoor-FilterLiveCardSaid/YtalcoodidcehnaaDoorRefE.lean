import Derived.Test.YtalcoodidcehnaaDoorSetF
import Derived.Test.YtalcoodidcehnaaDoorArr
import Derived.Deep.QuietTactic
import Derived.BigQuiet
namespace Go.Proofs.YtalcoodidcehnaaDoor
set_option linter.unusedVariables false
set_option linter.unusedSimpArgs false
open Go.RowKit
def shr (s k : Nat) : Nat := s / 2 ^ k
theorem shr_next (s k : Nat) : shr s (k + 1) = shr s k / 2 := by
  unfold shr
  rw [Nat.pow_succ, ← Nat.div_div_eq_div_mul]
theorem shr_half {s : Nat} (hs : S64 s) (k : Nat) : IntKind.u64.wrap (((shr s k : Nat) : Int) / 2) = ((shr s k / 2 : Nat) : Int) := by
  have h1 := hs.lt
  have h2 : shr s k ≤ s := Nat.div_le_self _ _
  rw [IntKind.wrap_u64]
  omega
theorem tb_mod (s k : Nat) : (((shr s k : Nat) : Int) % 2 == 1) = s.testBit k := by
  unfold shr
  rw [Nat.testBit_eq_decide_div_mod_eq, Bool.eq_iff_iff, beq_iff_eq, decide_eq_true_eq]
  omega
end Go.Proofs.YtalcoodidcehnaaDoor
namespace Go.Proofs.YtalcoodidcehnaaDoor
set_option linter.unusedVariables false
set_option linter.unusedSimpArgs false
open Go.RowKit
def nf (f : Nat → Bool) (m : Nat) : Nat := numFrom f (64 - m)
theorem nf_next (f : Nat → Bool) (m : Nat) (hm : m < 64) : nf f m = 2 * nf f (m + 1) + if f m then 1 else 0 := by
  unfold nf
  rw [show 64 - m = (64 - (m + 1)) + 1 by omega, numFrom, show 63 - (64 - (m + 1)) = m by omega]
theorem nf_lt (f : Nat → Bool) (m : Nat) : nf f m < 18446744073709551616 :=
  Nat.lt_of_lt_of_le (numFrom_lt f (64 - m)) (Nat.pow_le_pow_right (n := 2) (j := 64) (by decide) (by omega))
theorem nf_wrap0 (f : Nat → Bool) (m : Nat) (hm : m < 64) (h : f m = false) : IntKind.u64.wrap (((nf f (m + 1) : Nat) : Int) * 2) = ((nf f m : Nat) : Int) := by
  have h1 := nf_lt f m
  have h2 := nf_next f m hm
  rw [h] at h2
  rw [IntKind.wrap_u64]
  simp at h2
  omega
theorem nf_wrap1 (f : Nat → Bool) (m : Nat) (hm : m < 64) (h : f m = true) : IntKind.u64.wrap (IntKind.u64.wrap (((nf f (m + 1) : Nat) : Int) * 2) + 1) = ((nf f m : Nat) : Int) := by
  have h1 := nf_lt f m
  have h2 := nf_next f m hm
  rw [h] at h2
  rw [IntKind.wrap_u64, IntKind.wrap_u64]
  simp at h2
  omega
end Go.Proofs.YtalcoodidcehnaaDoor
namespace Go.Proofs.YtalcoodidcehnaaDoor
set_option linter.unusedVariables false
set_option linter.unusedSimpArgs false
open Go.RowKit
end Go.Proofs.YtalcoodidcehnaaDoor
namespace Go.Proofs.YtalcoodidcehnaaDoor
set_option linter.unusedVariables false
set_option linter.unusedSimpArgs false
open Go.RowKit
theorem own_lower {w : World} {base base' : Nat} {e : TypeId} {size n : Nat} {v : Value} {xs : List Value} (h : w.ownsRow base e size v n xs) (hb : base' ≤ base) : w.ownsRow base' e size v n xs := by
  obtain ⟨h1, h2⟩ := h
  refine ⟨h1, ?_⟩
  rcases h2 with h2 | ⟨g, cap, cur, hv, hg, r⟩
  · exact .inl h2
  · exact .inr ⟨g, cap, cur, hv, by omega, r⟩
theorem size_bool : (sizeOf 4).run Tryd.prog = fun w => .ok 1 w := by kernel_rfl
theorem agg_bool : (isAgg 4).run Tryd.prog = fun w => .ok false w := by kernel_rfl
end Go.Proofs.YtalcoodidcehnaaDoor
namespace Go.Proofs.YtalcoodidcehnaaDoor
set_option linter.unusedVariables false
set_option linter.unusedSimpArgs false
open Go.RowKit
theorem bdrewN {B : Nat} {w W : World} (h : Below B w W) (n : Nat) : Below B w (W.drewN n) := ⟨h.os, h.tape, h.output, h.size, h.block⟩
theorem Nats.at {w : World} {A : Option Addr} {n c : Nat} {xs : List Nat} (h : Nats w (.slice A n c) xs) (k : Nat) (hk : k < xs.length) : ∃ b off, A = some (⟨b, off, none⟩ : Addr) ∧ w.cell? ⟨b, off + k, none⟩ = some (.int .i64 (xs[k] : Nat)) := by
  obtain ⟨A', c', hv, hc, h⟩ := h
  injection hv with hA hn hcc
  subst hA
  obtain ⟨b, off, cs, hA, rfl, hl, hcell⟩ := h k xs[k] (by simp [hk])
  exact ⟨b, off, hA, by simpa [encN] using hcell 0 _ rfl⟩
end Go.Proofs.YtalcoodidcehnaaDoor
