/-
  event.Own; slices.Clone of tallies.
-/
import Derived.Test.YtmjnibofdpgacaaDoorEvFind
set_option linter.unusedSimpArgs false
set_option linter.unusedVariables false
namespace Gc
open Go Go.RowKit
theorem idx_cases {α : Type} (p : α → Bool) (xs : List α) : (∃ k : Nat, idx p xs = k ∧ k < xs.length) ∨ idx p xs = -1 := by
  unfold idx
  cases e : xs.findIdx? p with
  | none => exact .inr rfl
  | some i => exact .inl ⟨i, rfl, (List.findIdx?_eq_some_iff_getElem.1 e).1⟩
theorem kindB_cases {k : Int} (h : kindB k = true) : ∃ j : Nat, k = j ∧ j < 6 := by
  simp only [kindB, Bool.and_eq_true, decide_eq_true_eq] at h
  exact ⟨k.toNat, by omega, by omega⟩
theorem getD_at {α : Type} [Inhabited α] {xs : List α} {i : Nat} (h : i < xs.length) : xs.getD i default = xs[i] := by
  rw [List.getD_eq_getElem?_getD, List.getElem?_eq_getElem h]; rfl
end Gc
namespace Go.Proofs.YtmjnibofdpgacaaDoor
open Go.RowKit Gc

theorem siTal : SliceTy Tryd.prog 30 47 7 56 := SliceTy.mk' Tryd.underlying30 (z := .agg #[.int .i64 0, .int .i64 0, .int .i64 0, .int .i64 0, .int .i64 0, .int .i64 0, .int .i64 0]) (by kernel_rfl) rfl (by omega)

set_option maxRecDepth 100000 in
set_option maxHeartbeats 1000000 in
theorem own_c (A : Option Addr) (c : Nat) (ls : List Tal) (id k : Int) (w : World) (h : Rd w 7 A (ls.map Tal.cells)) (hl : ls.length ≤ 140737488351232) :
    Calls Tryd.prog 15 #[.slice A ls.length c, .int .i64 id, .int .i64 k] w fun e w' => e = .returned (.int .i64 (ownE ls id k)) ∧ Below w.heap.size w w' := by
  have hF := Lib.hid (evFind_c A c ls id w h hl)
  have hR := Lib.hid (show ownE ls id k = if tix ls id < 0 then 0 else if kindB k then (ls.getD (tix ls id).toNat default).at k.toNat else 0 from rfl)
  have hz0 : (∃ n : Nat, tix ls id = n ∧ n < ls.length) ∨ tix ls id = -1 := idx_cases _ _
  generalize tix ls id = z at *
  go_enter Tryd.func15, Tryd.ntmps15
  go_wp2_with fail
  refine hF.out.mono ?_
  rintro e W ⟨rfl, hb⟩
  rcases hz0 with ⟨n, rfl, hn⟩ | rfl
  · have g0 : ¬ ((n : Int) < 0) := by omega
    have hR := Lib.hid (show ownE ls id k = if kindB k then (ls.getD n default).at k.toNat else 0 by rw [hR.out, if_neg g0]; rfl)
    have hR2 := h.below hb (Nat.le_refl _)
    clear hF h
    go_wp2_with fail
    refine (kinds_c k W).mono ?_
    rintro e W' ⟨rfl, rfl⟩
    cases g2 : kindB k with
    | false =>
      have HR := Lib.hid (show ownE ls id k = 0 by rw [hR.out, g2]; rfl)
      clear g2 hR
      go_wp2
      go_ret
      exact ⟨ret_int HR.out.symm, hb⟩
    | true =>
      obtain ⟨j, rfl, hj⟩ := kindB_cases g2
      have HR := Lib.hid (show ownE ls id j = ls[n].at j by rw [hR.out, g2, getD_at hn]; rfl)
      clear g2 hR
      obtain ⟨b, o, rfl, hbs, hc⟩ := hR2.row (i := n) (c := ls[n].cells) (map_at _ hn)
      have hcell := hc.at_ (j + 1) _ (ls[n].cells_at hj)
      rw [show o + n * 7 + (0 + (j + 1)) = o + n * 7 + 1 + j from by omega] at hcell
      clear hc hR2
      generalize ls[n].at j = v at *
      have hni : (n : Int) < (ls.length : Int) := by omega
      have hji : (j : Int) < 6 := by omega
      go_wp2
      go_ret
      exact ⟨ret_int HR.out.symm, hb⟩
  · have HR := Lib.hid (show ownE ls id k = 0 by rw [hR.out]; rfl)
    clear hR hF h
    go_wp2
    go_ret
    exact ⟨ret_int HR.out.symm, hb⟩

set_option maxRecDepth 100000 in
set_option maxHeartbeats 1000000 in
theorem cloneTal_c (A : Option Addr) (c : Nat) (ls : List Tal) (w : World) (h : Rd w 7 A (ls.map Tal.cells)) (hnil : A = none → c = 0) (hl : ls.length ≤ 1048576) :
    Calls Tryd.prog 34 #[.slice A ls.length c] w fun e w' => ∃ v, e = .returned v ∧ Own w' w.heap.size 47 7 v (ls.map Tal.cells) ∧ Below w.heap.size w w' := by
  have hq := fun (w : World) a n c => Lib.run_eql_slice_nil (P := Tryd.prog) w 30 47 a n c 0 0 Tryd.underlying30
  rcases A with _ | a
  · obtain rfl := hnil rfl
    have : ls = [] := by
      rcases ls with _ | ⟨x, ls⟩
      · rfl
      · obtain ⟨b, o, e, _⟩ := h 0 (by simp)
        cases e
    subst this
    go_enter Tryd.func34, Tryd.ntmps34
    go_wp2
    go_ret
    exact ⟨_, rfl, Own.nil _ _ _ _, Below.refl _ _⟩
  · go_enter Tryd.func34, Tryd.ntmps34
    have ho : Own (w.alloc (.cells #[] 47)) w.heap.size 47 7 (.slice (some ⟨w.heap.size, 0, none⟩) 0 0) [] :=
      ⟨⟨rfl, .inr ⟨w.heap.size, 0, #[], rfl, Nat.le_refl _, by show (w.heap.push _)[w.heap.size]? = _; simp, Nat.le_refl _, by simp [maxLen], by simp, by simp⟩⟩, by simp⟩
    have hB : Below w.heap.size w (w.alloc (.cells #[] 47)) := (Below.refl _ _).alloc (Nat.le_refl _) _
    have hR := h.below hB (Nat.le_refl _)
    have hz : w.heap.size ≤ (w.alloc (.cells #[] 47)).heap.size := by simp
    go_wp2_with (at_builtin; refine appAny siTal (ls.map Tal.cells) rfl _ _ rfl rfl rfl ho hR (by simp) (Tal.cells_len _) (Tal.cells_one _) (by simp; omega) (by omega) hz ?_; intro v w1 hown hg hat)
    go_ret
    exact ⟨_, rfl, by simpa using hown, hB.grown hg hz (fun k e => by cases e; exact Nat.le_refl _)⟩

end Go.Proofs.YtmjnibofdpgacaaDoor
