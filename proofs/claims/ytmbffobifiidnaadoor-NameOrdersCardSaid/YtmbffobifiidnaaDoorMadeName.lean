/-
  The dice's Name.
-/
import Derived.Test.YtmbffobifiidnaaDoorDice
import Derived.Test.YtmbffobifiidnaaDoorBase
import Derived.Test.YtmbffobifiidnaaDoorStr
set_option linter.unusedSimpArgs false
set_option linter.unusedVariables false
namespace Go.Proofs.YtmbffobifiidnaaDoor
open Go.RowKit Gc

def namesL : List ByteArray := [⟨#[97]⟩, ⟨#[98]⟩, ⟨#[99]⟩, ⟨#[119, 101, 98]⟩, ⟨#[100, 98, 45, 49]⟩, ⟨#[88, 95, 57]⟩]
theorem names_ok : namesL.all (fun s => decide (s.size ≤ 32)) = true := by kernel_rfl

set_option maxRecDepth 100000 in
set_option maxHeartbeats 1000000 in
theorem name_c (d : Nat) (w : World) (h : DiceAt w d) :
    Calls Tryd.prog 18 #[.pointer (some ⟨d, 0, none⟩)] w fun e w' => ∃ s : ByteArray, e = .returned (.string s) ∧ s.size ≤ 32 ∧ DiceAt w' d ∧ w.grownBy w' (some d) := by
  have hb := Box.mk w (namesL.map Value.string) 9
  have hD := h.alloc (.cells (namesL.map Value.string).toArray 9)
  have hg0 : w.grownBy (w.alloc (.cells (namesL.map Value.string).toArray 9)) (some d) := grown_below ((Below.refl w.heap.size w).alloc (Nat.le_refl _) _) (Nat.le_refl _) _
  have hlt := h.lt
  go_enter Tryd.func18, Tryd.ntmps18
  go_wp2_with fail
  refine (next_c d 6 _ hD (by decide)).mono ?_
  rintro e W2 ⟨x, rfl, hx0, hx1, -, hd', hg'⟩
  replace hx1 := hx1 (by decide)
  obtain ⟨m, rfl⟩ := Int.eq_ofNat_of_zero_le hx0
  have hm : m < namesL.length := by show m < 6; omega
  have b2 := hb.grown hg' (by intro e; cases e; omega)
  have hcell := b2.cells.at_ m (.string namesL[m]) (by rw [List.getElem?_map, List.getElem?_eq_getElem hm]; rfl)
  rw [show 0 + (0 + m) = m from by omega] at hcell
  have hok : namesL[m].size ≤ 32 := by simpa using List.all_eq_true.1 names_ok _ (List.getElem_mem hm)
  generalize namesL[m] = s at *
  have hm6 : (m : Int) < 6 := hx1
  have hG := grown_trans hg0 hg'
  clear hb b2 hD hg0 hg' hm
  go_wp2
  go_ret
  exact ⟨_, rfl, hok, hd', hG⟩

end Go.Proofs.YtmbffobifiidnaaDoor
