/-
  made.Light.
-/
import Derived.Test.YtmjnibofdpgacaaDoorDice
import Derived.Test.YtmjnibofdpgacaaDoorBox
set_option linter.unusedSimpArgs false
set_option linter.unusedVariables false
namespace Go.Proofs.YtmjnibofdpgacaaDoor
open Go.RowKit Gc

set_option maxRecDepth 100000 in
set_option maxHeartbeats 1000000 in
theorem light_c (A : Option Addr) (n c : Nat) (w : World) : Calls Tryd.prog 17 #[.slice A n c] w fun e w' => e = .returned (.bool (decide ((n : Int) ≤ 600))) ∧ w = w' := by
  go_enter Tryd.func17, Tryd.ntmps17
  go_wp2
  exact bodyPost_ret (by kernel_rfl) rfl ⟨rfl, rfl⟩
end Go.Proofs.YtmjnibofdpgacaaDoor
