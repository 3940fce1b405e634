/-
  strconv.Itoa at 0 and 1.
-/
import Derived.Test.YtmjnibofdpgacaaDoorProg
import Derived.Test.YtmjnibofdpgacaaDoorBase
set_option linter.unusedSimpArgs false
set_option linter.unusedVariables false
namespace Go.Proofs.YtmjnibofdpgacaaDoor
open Go.RowKit Gc

def digit (n : Int) : ByteArray := if n = 0 then ⟨#[48]⟩ else ⟨#[49]⟩

set_option maxRecDepth 100000 in
set_option maxHeartbeats 1000000 in
theorem small01_c (n : Int) (hn : n = 0 ∨ n = 1) (w : World) : Calls Tryd.prog 84 #[.int .i64 n] w fun e w' => e = .returned (.string (digit n)) ∧ w' = w := by
  rcases hn with rfl | rfl
  · go_enter Tryd.func84, Tryd.ntmps84
    go_wp2
    go_ret
    exact ⟨rfl, rfl⟩
  · go_enter Tryd.func84, Tryd.ntmps84
    go_wp2
    go_ret
    exact ⟨rfl, rfl⟩

set_option maxRecDepth 100000 in
set_option maxHeartbeats 1000000 in
theorem format01_c (n : Int) (hn : n = 0 ∨ n = 1) (w : World) : Calls Tryd.prog 82 #[.int .i64 n, .int .i64 10] w fun e w' => e = .returned (.string (digit n)) ∧ w' = w := by
  have h := Lib.hid (small01_c n hn w)
  rcases hn with rfl | rfl
  · generalize digit 0 = s at *
    go_enter Tryd.func82, Tryd.ntmps82
    go_wp2_with (go_at_call 84; refine h.out.mono ?_; rintro e w' ⟨rfl, rfl⟩)
    go_ret
    exact ⟨rfl, rfl⟩
  · generalize digit 1 = s at *
    go_enter Tryd.func82, Tryd.ntmps82
    go_wp2_with (go_at_call 84; refine h.out.mono ?_; rintro e w' ⟨rfl, rfl⟩)
    go_ret
    exact ⟨rfl, rfl⟩

set_option maxRecDepth 100000 in
set_option maxHeartbeats 1000000 in
theorem iitoa01_c (n : Int) (hn : n = 0 ∨ n = 1) (w : World) : Calls Tryd.prog 78 #[.int .i64 n] w fun e w' => e = .returned (.string (digit n)) ∧ w' = w := by
  have h := Lib.hid (format01_c n hn w)
  generalize digit n = s at *
  go_enter Tryd.func78, Tryd.ntmps78
  go_wp2_with (go_at_call 82; refine h.out.mono ?_; rintro e w' ⟨rfl, rfl⟩)
  go_ret
  exact ⟨rfl, rfl⟩

set_option maxRecDepth 100000 in
set_option maxHeartbeats 1000000 in
theorem itoa01_c (n : Int) (hn : n = 0 ∨ n = 1) (w : World) : Calls Tryd.prog 64 #[.int .i64 n] w fun e w' => e = .returned (.string (digit n)) ∧ w' = w := by
  have h := Lib.hid (iitoa01_c n hn w)
  generalize digit n = s at *
  go_enter Tryd.func64, Tryd.ntmps64
  go_wp2_with (go_at_call 78; refine h.out.mono ?_; rintro e w' ⟨rfl, rfl⟩)
  go_ret
  exact ⟨rfl, rfl⟩

set_option maxRecDepth 100000 in
set_option maxHeartbeats 1000000 in
theorem names_c (w : World) : Calls Tryd.prog 63 #[] w fun e w' => e = .returned (.agg #[.string ⟨#[108, 111, 119]⟩, .string ⟨#[104, 105, 103, 104]⟩, .string ⟨#[109, 97, 120]⟩, .string ⟨#[111, 111, 109]⟩, .string ⟨#[111, 111, 109, 95, 107, 105, 108, 108]⟩]) ∧ Below w.heap.size w w' := by
  have b1 := Box.mk w [.string ⟨#[108, 111, 119]⟩, .string ⟨#[104, 105, 103, 104]⟩, .string ⟨#[109, 97, 120]⟩, .string ⟨#[111, 111, 109]⟩, .string ⟨#[111, 111, 109, 95, 107, 105, 108, 108]⟩] 86
  have hB : Below w.heap.size w (w.alloc (.cells #[.string ⟨#[108, 111, 119]⟩, .string ⟨#[104, 105, 103, 104]⟩, .string ⟨#[109, 97, 120]⟩, .string ⟨#[111, 111, 109]⟩, .string ⟨#[111, 111, 109, 95, 107, 105, 108, 108]⟩] 86)) := (Below.refl _ _).alloc (Nat.le_refl _) _
  go_enter Tryd.func63, Tryd.ntmps63
  go_wp2
  refine bodyPost_ret (results_box rfl _ _ rfl b1 Tryd.underlying86 rfl (by kernel_rfl)) rfl ?_
  exact ⟨rfl, hB⟩

end Go.Proofs.YtmjnibofdpgacaaDoor
