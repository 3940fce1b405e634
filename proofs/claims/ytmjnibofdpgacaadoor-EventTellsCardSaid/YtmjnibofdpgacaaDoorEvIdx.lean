/-
  An index into an array of six ints, by value.
-/
import Derived.Test.YtmjnibofdpgacaaDoorEvOwn
import Derived.Laws.PanicsMore
set_option linter.unusedSimpArgs false
set_option linter.unusedVariables false
namespace Go.Proofs.YtmjnibofdpgacaaDoor
open Go.RowKit Gc

theorem index6 (x : Tal) (j : Nat) (hj : j < 6) (w : World) :
    (Instr.index 45 (.agg #[.int .i64 x.c0, .int .i64 x.c1, .int .i64 x.c2, .int .i64 x.c3, .int .i64 x.c4, .int .i64 x.c5]) (.int .i64 (j : Nat))).run Tryd.prog w = .ok (.int .i64 (x.at j)) w := by
  have h1 := run_underlying Tryd.underlying45 w
  have h2 := Tryd.sizeOf3 w
  have h3 := Tryd.isAgg3 w
  obtain rfl | rfl | rfl | rfl | rfl | rfl : j = 0 ∨ j = 1 ∨ j = 2 ∨ j = 3 ∨ j = 4 ∨ j = 5 := by omega
  all_goals simp [Instr.index, h1, h2, h3, asIntOf, go_sem, part, Tal.at]

end Go.Proofs.YtmjnibofdpgacaaDoor
