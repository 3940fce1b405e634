/-
  law38.three: the hierarchy of the examples.
-/
import Derived.Test.YtdkcdplpefpgjaaProg
import Derived.Test.YtdkcdplpefpgjaaQuad
import Derived.Test.YtdkcdplpefpgjaaRdNew
set_option linter.unusedSimpArgs false
set_option linter.unusedVariables false
namespace Go.Proofs.Ytdkcdplpefpgjaa
open Go.RowKit Gc

def threeX : List Grp := [⟨1, 0, ⟨#[]⟩, 0, 0, 0⟩, ⟨2, 1, ⟨#[97]⟩, 0, 0, 0⟩, ⟨4, 2, ⟨#[98]⟩, 0, 0, 0⟩]
def threeT : List Q4 := [⟨7, 7, 2, 0⟩]

set_option maxRecDepth 100000 in
set_option maxHeartbeats 1000000 in
theorem three_c (w : World) : Calls Try.prog 15 #[] w fun e w' => ∃ a b, e = .returned (.agg #[.slice (some a) 3 3, .int .i64 5, .slice (some b) 1 1, .int .i64 8]) ∧ Rd w' 6 (some a) (threeX.map Grp.cells) ∧ Rd w' 4 (some b) (threeT.map Q4.cells) ∧ Below w.heap.size w w' := by
  go_enter Try.func15, Try.ntmps15
  go_wp2
  refine bodyPost_ret (results_box rfl _ _ rfl (((Box.mk w [.slice (some ⟨w.heap.size + 1, 0, none⟩) 3 3, .int .i64 5, .slice (some ⟨w.heap.size + 1 + 1, 0, none⟩) 1 1, .int .i64 8] 47).alloc _).alloc _) Try.underlying47 rfl (by kernel_rfl)) rfl ?_
  refine ⟨_, _, rfl, ?_, ?_, (((Below.refl w.heap.size w).alloc (Nat.le_refl _) _).alloc (by simp) _).alloc (by simp; omega) _⟩
  · have h := (Box.mk (w.alloc (.cells #[.slice (some ⟨w.heap.size + 1, 0, none⟩) 3 3, .int .i64 5, .slice (some ⟨w.heap.size + 1 + 1, 0, none⟩) 1 1, .int .i64 8] 47)) (threeX.map Grp.cells).flatten 58).alloc (.cells #[.int .i64 7, .int .i64 7, .int .i64 2, .int .i64 0] 84)
    rw [show (w.alloc (.cells #[.slice (some ⟨w.heap.size + 1, 0, none⟩) 3 3, .int .i64 5, .slice (some ⟨w.heap.size + 1 + 1, 0, none⟩) 1 1, .int .i64 8] 47)).heap.size = w.heap.size + 1 from by simp] at h
    exact rd_box h (by simp [threeX, Grp.cells])
  · have h := Box.mk ((w.alloc (.cells #[.slice (some ⟨w.heap.size + 1, 0, none⟩) 3 3, .int .i64 5, .slice (some ⟨w.heap.size + 1 + 1, 0, none⟩) 1 1, .int .i64 8] 47)).alloc (.cells (threeX.map Grp.cells).flatten.toArray 58)) (threeT.map Q4.cells).flatten 84
    rw [show ((w.alloc (.cells #[.slice (some ⟨w.heap.size + 1, 0, none⟩) 3 3, .int .i64 5, .slice (some ⟨w.heap.size + 1 + 1, 0, none⟩) 1 1, .int .i64 8] 47)).alloc (.cells (threeX.map Grp.cells).flatten.toArray 58)).heap.size = w.heap.size + 1 + 1 from by simp] at h
    exact rd_box h (by simp [threeT, Q4.cells])

end Go.Proofs.Ytdkcdplpefpgjaa
