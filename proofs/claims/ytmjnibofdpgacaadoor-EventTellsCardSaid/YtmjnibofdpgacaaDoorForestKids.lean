/-
  forest.Children: the IDs of the nodes with a parent, in order.
-/
import Derived.Test.YtmjnibofdpgacaaDoorProg
import Derived.Test.YtmjnibofdpgacaaDoorForestAt
set_option linter.unusedSimpArgs false
set_option linter.unusedVariables false
namespace Go.Proofs.YtmjnibofdpgacaaDoor
open Go.RowKit Gc

set_option maxRecDepth 100000 in
set_option maxHeartbeats 1000000 in
theorem children_c (A : Option Addr) (c : Nat) (xs : List Grp) (next id : Int) (w : World) (h : Rd w 6 A (xs.map Grp.cells)) (hl : xs.length ≤ 1099511627776) :
    Calls Tryd.prog 36 #[.agg #[.slice A xs.length c, .int .i64 next], .int .i64 id] w fun e w' => ∃ v, e = .returned v ∧
       Own w' w.heap.size 3 1 v ((children xs id).map icells) ∧ Below w.heap.size w w' := by
  go_enter Tryd.func36, Tryd.ntmps36
  go_wp2
  go_loopw [5, 11] (fun v i wr => ∃ k : Nat, k ≤ xs.length ∧ i = .int .i64 k ∧ Own wr w.heap.size 3 1 v ((children (xs.take k) id).map icells) ∧ Below w.heap.size w wr)
    (fun _ i _ => xs.length - (intOf i).toNat)
  case atStart => exact ⟨0, Nat.zero_le _, rfl, Own.nil _ _ _ _, (Below.refl _ _).alloc (Nat.le_refl _) _⟩
  case round =>
    obtain ⟨k, hk, rfl, hown, hB⟩ := hrel
    by_cases hlt : k < xs.length
    · obtain ⟨b, o, rfl, hbs, hc⟩ := (h.below hB (Nat.le_refl _)).row (i := k) (c := xs[k].cells) (by simp [hlt])
      simp only [Grp.cells, CellsFrom, Nat.add_zero, Nat.reduceAdd] at hc
      obtain ⟨h0, h1, h2, h3, h4, h5, -⟩ := hc
      have hle := children_le (xs.take k) id
      rw [List.length_take] at hle
      by_cases e : xs[k].parent = id
      · have HS := Lib.hid (children_hit xs k hlt id e)
        have hBs := hB.size
        go_wp2_with (at_builtin; refine app1 siInt (w := wr.alloc _) (icells xs[k].id) rfl _ _ rfl rfl rfl (hown.alloc _) (by simp) rfl rfl (by simp; omega) (by omega) (by simp; omega) (hB.alloc hBs _) ?_; intro v' w1 hown1 hB1 _ _)
        go_roundw
        case rel => exact ⟨k+1, by omega, by go_num, by rw [HS.out]; simpa using hown1, hB1⟩
        case measure => simp [intOf]; omega
      · have HS := Lib.hid (children_miss xs k hlt id e)
        go_wp2_with fail
        go_roundw
        case rel => exact ⟨k+1, by omega, by go_num, by rw [HS.out]; exact hown.alloc _, hB.alloc hB.size _⟩
        case measure => simp [intOf]; omega
    · go_wp2
      have hkl : k = xs.length := by omega
      subst hkl
      rw [List.take_length] at hown
      go_ret
      exact ⟨_, rfl, hown, hB⟩

end Go.Proofs.YtmjnibofdpgacaaDoor
