import Derived.Test.YtalcoodidcehnaaDoorVtA
import Derived.Test.YtalcoodidcehnaaDoorSetF
import Derived.Laws.StructEq
namespace Go.Proofs.YtalcoodidcehnaaDoor
set_option linter.unusedVariables false
set_option linter.unusedSimpArgs false
open Go.RowKit
theorem view_eq_iff (a b : Vw) : ((a.number : Int) == (b.number : Int) && ((a.epoch : Int) == (b.epoch : Int) && a.rep == b.rep) && (a.members : Int) == (b.members : Int)) = decide (a = b) := by
  obtain ⟨a1, a2, a3, a4⟩ := a
  obtain ⟨b1, b2, b3, b4⟩ := b
  rw [Bool.eq_iff_iff]
  simp [and_assoc, Int.natCast_inj]
theorem view_eql (a b : Vw) (w : World) :
    (binOp .eql 35 (.agg #[.int .u64 (a.number : Int), .int .u64 (a.epoch : Int), .int .i64 a.rep, .int .u64 (a.members : Int)]) (.agg #[.int .u64 (b.number : Int), .int .u64 (b.epoch : Int), .int .i64 b.rep, .int .u64 (b.members : Int)])).run Tryd.prog w = .ok (.bool (decide (a = b))) w := by
  rw [← view_eq_iff]
  go_simp
  by_cases h1 : (a.number : Int) = b.number <;> by_cases h2 : (a.epoch : Int) = b.epoch <;> by_cases h3 : a.rep = b.rep <;> by_cases h4 : (a.members : Int) = b.members <;> simp [h1, h2, h3, h4]
end Go.Proofs.YtalcoodidcehnaaDoor
