/-
  law1.sane; the dice's Word and Path.
-/
import Derived.Test.YtmbffobifiidnaaDoorNameJoin
import Derived.Test.YtmbffobifiidnaaDoorMadeName
set_option linter.unusedSimpArgs false
set_option linter.unusedVariables false
namespace Go.Proofs.YtmbffobifiidnaaDoor
open Go.RowKit Gc

theorem sp1 : splitP ⟨#[47, 97, 47, 98]⟩ = ([⟨#[97]⟩, ⟨#[98]⟩], 0) := by kernel_rfl
theorem sp2 : splitP ⟨#[47, 47]⟩ = ([], 2) := by kernel_rfl
theorem sp3 : commonP ⟨#[47, 97, 47, 98]⟩ ⟨#[47, 97, 47, 99]⟩ = (⟨#[47, 97]⟩, 0) := by kernel_rfl

set_option maxRecDepth 100000 in
set_option maxHeartbeats 1000000 in
theorem sane1_c (w : World) : Calls Tryd.prog 6 #[] w fun e w' => e = .returned (.bool true) ∧ Below w.heap.size w w' := by
  have h1 := fun W => split_c ⟨#[47, 97, 47, 98]⟩ W (by decide)
  have h2 := fun W => split_c ⟨#[47, 47]⟩ W (by decide)
  have h3 := fun W => common_c ⟨#[47, 97, 47, 98]⟩ ⟨#[47, 97, 47, 99]⟩ W (by decide) (by decide)
  rw [sp1] at h1
  rw [sp2] at h2
  rw [sp3] at h3
  have H1 := Lib.hid h1
  have H2 := Lib.hid h2
  have H3 := Lib.hid h3
  clear h1 h2 h3
  go_enter Tryd.func6, Tryd.ntmps6
  go_wp2_with fail
  refine (H1.out _).mono ?_
  rintro e w1 ⟨A, c, rfl, hc, hr, hb1⟩
  go_wp2_with fail
  refine (H2.out _).mono ?_
  rintro e w2 ⟨B, d, rfl, hd, hr2, hb2⟩
  have hb12 := hb1.trans (hb2.mono hb1.size)
  go_wp2_with fail
  refine (H3.out _).mono ?_
  rintro e w3 ⟨rfl, hb3⟩
  have hb13 := hb12.trans (hb3.mono hb12.size)
  obtain ⟨b, o, rfl, hbs, hcc⟩ := ((hr.below hb2 (Nat.le_refl _)).below hb3 (Nat.le_refl _)).row (i := 1) (c := scell ⟨#[98]⟩) rfl
  simp only [scell, CellsFrom, Nat.add_zero, Nat.mul_one] at hcc
  obtain ⟨c0, -⟩ := hcc
  clear hr hr2
  go_wp2
  go_ret
  exact ⟨rfl, hb13⟩
end Go.Proofs.YtmbffobifiidnaaDoor
