/-
  The dice's Word and Path.
-/
import Derived.Test.YtmbffobifiidnaaDoorMadeName
set_option linter.unusedSimpArgs false
set_option linter.unusedVariables false
namespace Go.Proofs.YtmbffobifiidnaaDoor
open Go.RowKit Gc

def wordsL : List ByteArray := [⟨#[97]⟩, ⟨#[98]⟩, ⟨#[99]⟩, ⟨#[119, 101, 98]⟩, ⟨#[100, 98, 45, 49]⟩, ⟨#[88, 95, 57]⟩, ⟨#[]⟩, ⟨#[45, 97]⟩, ⟨#[97, 47, 98]⟩, ⟨#[195, 169]⟩, ⟨#[97, 97, 97, 97, 97, 97, 97, 97, 97, 97, 97, 97, 97, 97, 97, 97, 97, 97, 97, 97, 97, 97, 97, 97, 97, 97, 97, 97, 97, 97, 97, 97]⟩, ⟨#[97, 97, 97, 97, 97, 97, 97, 97, 97, 97, 97, 97, 97, 97, 97, 97, 97, 97, 97, 97, 97, 97, 97, 97, 97, 97, 97, 97, 97, 97, 97, 97, 97]⟩]
theorem words_ok : wordsL.all (fun s => decide (s.size ≤ 33)) = true := by kernel_rfl

set_option maxRecDepth 100000 in
set_option maxHeartbeats 1000000 in
theorem word_c (d : Nat) (w : World) (h : DiceAt w d) :
    Calls Tryd.prog 15 #[.pointer (some ⟨d, 0, none⟩)] w fun e w' => ∃ s : ByteArray, e = .returned (.string s) ∧ s.size ≤ 33 ∧ DiceAt w' d ∧ w.grownBy w' (some d) := by
  have hb := Box.mk w (wordsL.map Value.string) 9
  have hD := h.alloc (.cells (wordsL.map Value.string).toArray 9)
  have hg0 : w.grownBy (w.alloc (.cells (wordsL.map Value.string).toArray 9)) (some d) := grown_below ((Below.refl w.heap.size w).alloc (Nat.le_refl _) _) (Nat.le_refl _) _
  have hlt := h.lt
  go_enter Tryd.func15, Tryd.ntmps15
  go_wp2_with fail
  refine (next_c d 12 _ hD (by decide)).mono ?_
  rintro e W2 ⟨x, rfl, hx0, hx1, -, hd', hg'⟩
  replace hx1 := hx1 (by decide)
  obtain ⟨m, rfl⟩ := Int.eq_ofNat_of_zero_le hx0
  have hm : m < wordsL.length := by show m < 12; omega
  have b2 := hb.grown hg' (by intro e; cases e; omega)
  have hcell := b2.cells.at_ m (.string wordsL[m]) (by rw [List.getElem?_map, List.getElem?_eq_getElem hm]; rfl)
  rw [show 0 + (0 + m) = m from by omega] at hcell
  have hok : wordsL[m].size ≤ 33 := by simpa using List.all_eq_true.1 words_ok _ (List.getElem_mem hm)
  generalize wordsL[m] = s at *
  have hm6 : (m : Int) < 12 := hx1
  have hG := grown_trans hg0 hg'
  clear hb b2 hD hg0 hg' hm
  go_wp2
  go_ret
  exact ⟨_, rfl, hok, hd', hG⟩

theorem ba_app (a b : ByteArray) : (a ++ b).size = a.size + b.size := ByteArray.size_append

set_option maxRecDepth 100000 in
set_option maxHeartbeats 1000000 in
theorem path_c (d : Nat) (w : World) (h : DiceAt w d) :
    Calls Tryd.prog 8 #[.pointer (some ⟨d, 0, none⟩)] w fun e w' => ∃ s : ByteArray, e = .returned (.string s) ∧ s.size ≤ 1000 ∧ DiceAt w' d ∧ w.grownBy w' (some d) := by
  go_enter Tryd.func8, Tryd.ntmps8
  go_wp2_with fail
  refine (next_c d 5 _ h (by decide)).mono ?_
  rintro e W1 ⟨x, rfl, hx0, hx1, -, hd1, hg1⟩
  replace hx1 := hx1 (by decide)
  obtain ⟨n0, rfl⟩ := Int.eq_ofNat_of_zero_le hx0
  clear h hx0
  go_wp2_with fail
  go_loopw [3, 4] (fun s k wr => ∃ (n : Nat) (t : ByteArray), k = .int .i64 n ∧ n ≤ 4 ∧ s = .string t ∧ t.size + 33 * n ≤ 132 ∧ DiceAt wr d ∧ w.grownBy wr (some d)) (fun _ k _ => (intOf k).toNat)
  case atStart => exact ⟨n0, ⟨#[]⟩, rfl, by omega, rfl, by show 0 + 33 * n0 ≤ 132; omega, hd1, hg1⟩
  case round =>
    obtain ⟨n, t, rfl, hn, rfl, hts, hDr, hgr⟩ := hrel
    by_cases h0 : n = 0
    · subst h0
      rw [show ((0 : Nat) : Int) = (0 : Int) from rfl]
      go_wp2_with fail
      refine (next_c d 8 _ hDr (by decide)).mono ?_
      rintro e W2 ⟨x, rfl, hx0, hx1, -, hd2, hg2⟩
      have hgg := grown_trans hgr hg2
      clear hd1 hg1 hDr hgr
      by_cases c0 : x = 0
      · subst c0
        have hz : ((t.size + 1 : Nat) : Int) ≤ 9223372036854775807 := by omega
        go_wp2_with fail
        go_ret
        exact ⟨_, rfl, by rw [ba_app]; show _ + 1 ≤ _; omega, hd2, hgg⟩
      · by_cases c1 : x = 1
        · subst c1
          go_wp2_with fail
          refine (word_c d _ hd2).mono ?_
          rintro e W3 ⟨u, rfl, hu, hd3, hg3⟩
          have hggg := grown_trans hgg hg3
          go_wp2_with fail
          go_ret
          exact ⟨_, rfl, by rw [ba_app]; omega, hd3, hggg⟩
        · have e0 : (x == 0) = false := by simpa using c0
          have e1 : (x == 1) = false := by simpa using c1
          go_wp2_with fail
          go_ret
          exact ⟨_, rfl, by omega, hd2, hgg⟩
    · have hpos : (0 : Int) < (n : Int) := by omega
      go_wp2_with fail
      refine (name_c d _ hDr).mono ?_
      rintro e W2 ⟨u, rfl, hu, hd2, hg2⟩
      have hgg := grown_trans hgr hg2
      have h1b : -9223372036854775808 ≤ (n : Int) - 1 ∧ (n : Int) - 1 ≤ 9223372036854775807 := by omega
      clear hd1 hg1
      go_wp2
      go_roundw
      case rel => exact ⟨n - 1, _, by rw [show ((n - 1 : Nat) : Int) = (n : Int) - 1 from by omega], by omega, rfl, by rw [ba_app, ba_app]; show _ + (1 + _) + _ ≤ _; omega, hd2, hgg⟩
      case measure => simp [intOf]; omega
end Go.Proofs.YtmbffobifiidnaaDoor
