/-
  made.Roll: the dice's start.
  made.Light.
-/
import Derived.Test.YtmbffobifiidnaaDoorDice
import Derived.Test.YtmbffobifiidnaaDoorBase
set_option linter.unusedSimpArgs false
set_option linter.unusedVariables false
namespace Go.Proofs.YtmbffobifiidnaaDoor
open Go.RowKit Gc

set_option maxRecDepth 100000 in
set_option maxHeartbeats 1000000 in
theorem roll_c (A : Option Addr) (c : Nat) (ts : List Int) (w : World) (h : Rd w 1 A (ts.map icells)) (hp : ∀ b, blk A = some b → b < w.heap.size) (hc : ts.length ≤ c) (hl : ts.length ≤ 140737488351232) :
    Calls Tryd.prog 7 #[.slice A ts.length c] w fun e w' => ∃ d, e = .returned (.pointer (some ⟨d, 0, none⟩)) ∧ DiceAt w' d ∧ w.heap.size ≤ d ∧ Below w.heap.size w w' := by
  have hB : Below w.heap.size w (w.alloc (.cells #[.slice A ts.length c, .int .i64 0] 41)) := (Below.refl _ _).alloc (Nat.le_refl _) _
  have hb := Box.mk w [.slice A ts.length c, .int .i64 0] 41
  have hr := h.below hB (Nat.le_refl _)
  have hD : DiceAt (w.alloc (.cells #[.slice A ts.length c, .int .i64 0] 41)) w.heap.size := ⟨A, ts, c, 0, _, hb, hr, hp, Nat.zero_le _, hc, hl⟩
  have HD := Lib.hid hD
  clear hD hb hr h hp
  go_enter Tryd.func7, Tryd.ntmps7
  go_wp2
  go_ret
  exact ⟨_, rfl, HD.out, Nat.le_refl _, hB⟩

end Go.Proofs.YtmbffobifiidnaaDoor

namespace Go.Proofs.YtmbffobifiidnaaDoor
open Go.RowKit Gc

set_option maxRecDepth 100000 in
set_option maxHeartbeats 1000000 in
theorem light_c (A : Option Addr) (n c : Nat) (w : World) : Calls Tryd.prog 5 #[.slice A n c] w fun e w' => e = .returned (.bool (decide ((n : Int) ≤ 600))) ∧ w = w' := by
  go_enter Tryd.func5, Tryd.ntmps5
  go_wp2
  exact bodyPost_ret (by kernel_rfl) rfl ⟨rfl, rfl⟩
end Go.Proofs.YtmbffobifiidnaaDoor
