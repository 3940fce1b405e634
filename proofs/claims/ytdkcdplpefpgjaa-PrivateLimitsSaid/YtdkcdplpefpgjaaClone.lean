/-
  slices.Clone of residents.
-/
import Derived.Test.YtdkcdplpefpgjaaProg
import Derived.Test.YtdkcdplpefpgjaaQuad
import Derived.Test.YtdkcdplpefpgjaaBox
set_option linter.unusedSimpArgs false
set_option linter.unusedVariables false
namespace Go.Proofs.Ytdkcdplpefpgjaa
open Go.RowKit Gc

theorem siRes : SliceTy Try.prog 49 89 4 32 := SliceTy.mk' Try.underlying49 (z := .agg #[.int .i64 0, .int .i64 0, .int .i64 0, .int .i64 0]) (by kernel_rfl) rfl (by omega)

theorem quad_len (l : List Q4) : ∀ d ∈ l.map Q4.cells, d.length = 4 := by intro d hd; obtain ⟨x, _, rfl⟩ := List.mem_map.1 hd; rfl
theorem quad_one (l : List Q4) : ∀ d ∈ l.map Q4.cells, d.all Value.oneCell' = true := by intro d hd; obtain ⟨x, _, rfl⟩ := List.mem_map.1 hd; rfl

set_option maxRecDepth 100000 in
set_option maxHeartbeats 1000000 in
theorem cloneRes_c (A : Option Addr) (c : Nat) (ls : List Q4) (w : World) (h : Rd w 4 A (ls.map Q4.cells)) (hnil : A = none → c = 0) (hl : ls.length ≤ 1048576) :
    Calls Try.prog 51 #[.slice A ls.length c] w fun e w' => ∃ v, e = .returned v ∧ Own w' w.heap.size 89 4 v (ls.map Q4.cells) ∧ Below w.heap.size w w' := by
  have hq := fun (w : World) a n c => Lib.run_eql_slice_nil (P := Try.prog) w 49 89 a n c 0 0 Try.underlying49
  rcases A with _ | a
  · obtain rfl := hnil rfl
    have : ls = [] := by
      rcases ls with _ | ⟨x, ls⟩
      · rfl
      · obtain ⟨b, o, e, _⟩ := h 0 (by simp)
        cases e
    subst this
    go_enter Try.func51, Try.ntmps51
    go_wp2
    go_ret
    exact ⟨_, rfl, Own.nil _ _ _ _, Below.refl _ _⟩
  · go_enter Try.func51, Try.ntmps51
    have ho : Own (w.alloc (.cells #[] 89)) w.heap.size 89 4 (.slice (some ⟨w.heap.size, 0, none⟩) 0 0) [] :=
      ⟨⟨rfl, .inr ⟨w.heap.size, 0, #[], rfl, Nat.le_refl _, by show (w.heap.push _)[w.heap.size]? = _; simp, Nat.le_refl _, by simp [maxLen], by simp, by simp⟩⟩, by simp⟩
    have hB : Below w.heap.size w (w.alloc (.cells #[] 89)) := (Below.refl _ _).alloc (Nat.le_refl _) _
    have hR := h.below hB (Nat.le_refl _)
    have hz : w.heap.size ≤ (w.alloc (.cells #[] 89)).heap.size := by simp
    go_wp2_with (at_builtin; refine appAny siRes (ls.map Q4.cells) rfl _ _ rfl rfl rfl ho hR (by simp) (quad_len _) (quad_one _) (by simp; omega) (by omega) hz ?_; intro v w1 hown hg hat)
    go_ret
    exact ⟨_, rfl, by simpa using hown, hB.grown hg hz (fun k e => by cases e; exact Nat.le_refl _)⟩

end Go.Proofs.Ytdkcdplpefpgjaa
