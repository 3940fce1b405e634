/-
  r5.Copy, r5.New.
-/
import Derived.Test.YtmjnibofdpgacaaDoorR5Kids
import Derived.Test.YtmjnibofdpgacaaDoorCheck
import Derived.Test.YtmjnibofdpgacaaDoorRdNew
import Derived.Test.YtmjnibofdpgacaaDoorDel
import Derived.Deep.RegionLaw
set_option linter.unusedSimpArgs false
set_option linter.unusedVariables false
namespace Gc
open Go Go.RowKit
theorem grp_len (l : List Grp) : ∀ d ∈ l.map Grp.cells, d.length = 6 := by intro d hd; obtain ⟨x, _, rfl⟩ := List.mem_map.1 hd; rfl
theorem grp_one (l : List Grp) : ∀ d ∈ l.map Grp.cells, d.all Value.oneCell' = true := by intro d hd; obtain ⟨x, _, rfl⟩ := List.mem_map.1 hd; rfl
end Gc
namespace Go.Proofs.YtmjnibofdpgacaaDoor
open Go.RowKit Gc

set_option maxRecDepth 100000 in
set_option maxHeartbeats 4000000 in
theorem rcopy_c (A : Option Addr) (c : Nat) (xs : List Grp) (next : Int) (w : World) (hA : Rd w 6 A (xs.map Grp.cells)) (hlA : xs.length ≤ 1048576) :
    Calls Tryd.prog 67 #[.agg #[.slice A xs.length c, .int .i64 next]] w fun e w' => ∃ v, e = .returned (.agg #[v, .int .i64 next]) ∧ Own w' w.heap.size 54 6 v (xs.map Grp.cells) ∧ Below w.heap.size w w' := by
  have hB1 : Below w.heap.size w ((w.alloc (.cells #[.slice A xs.length c, .int .i64 next] 24)).alloc (.cells #[.slice none 0 0, .int .i64 0] 24)) := ((Below.refl _ _).alloc (Nat.le_refl _) _).alloc (by simp) _
  have hA1 := hA.below hB1 (Nat.le_refl _)
  have b1 := (Box.mk w [.slice A xs.length c, .int .i64 next] 24).alloc (.cells #[.slice none 0 0, .int .i64 0] 24)
  have n1 := Box.mk (w.alloc (.cells #[.slice A xs.length c, .int .i64 next] 24)) [.slice none 0 0, .int .i64 0] 24
  rw [show (w.alloc (.cells #[.slice A xs.length c, .int .i64 next] 24)).heap.size = w.heap.size + 1 from by simp] at n1
  have z1 := hB1.size
  have zn := n1.lt
  obtain ⟨t0, t1, -⟩ := b1.cells
  simp only [Nat.zero_add, Nat.add_zero, Nat.reduceAdd] at t0 t1
  have ho : ∀ W, Own W W.heap.size 54 6 (.slice none 0 0) [] := fun W => Own.nil _ _ _ _
  go_enter Tryd.func67, Tryd.ntmps67
  go_wp2_with fail
  generalize hWx : World.alloc (World.alloc w _) _ = W1 at *
  clear hWx hA
  have hAd := hA1.drew
  have b1d := b1.drewN 1
  have n1d := n1.drewN 1
  have hBd := hB1.drew
  go_region_law (refine step_appAny siNode (xs.map Grp.cells) rfl _ _ rfl rfl rfl (Own.nil W1.drew W1.heap.size _ _) hAd (by simp) (grp_len _) (grp_one _) (by simp; omega) (by omega) (Nat.le_refl _) ?_; intro v4 w4 hown4 hg4 hat4; replace hg4 : (World.drew W1).grownBy w4 none := hg4; obtain ⟨A4, c4, rfl, -, -, -, -, -⟩ := hown4.rd; have b4 := b1d.grown hg4 (by simp); have n4 := n1d.grown hg4 (by simp); obtain ⟨s0, s1, -⟩ := b4.cells; obtain ⟨q0, q1, -⟩ := n4.cells; simp only [Nat.zero_add, Nat.add_zero, Nat.reduceAdd] at s0 s1 q0 q1; have hf4 := n4.fro; have hx4 := hBd.grown hg4 z1 (by intro k e; cases e))
  all_goals
    simp only [List.nil_append] at hown4
    have hne : (Value.slice A4 (xs.map Grp.cells).length c4).ownBlock ≠ some (w.heap.size + 1) := fun e => by have := (hown4.lt e).1; omega
    have hown5 := ((hown4.setCell_other (a := ⟨w.heap.size + 1, 0, none⟩) hne (.slice A4 xs.length c4)).setCell_other (a := ⟨w.heap.size + 1, 1, none⟩) hne (.int .i64 next)).base z1
    have hx5 := (hx4.setCell (p := ⟨w.heap.size + 1, 0, none⟩) (Nat.le_succ _) (.slice A4 xs.length c4)).setCell (p := ⟨w.heap.size + 1, 1, none⟩) (Nat.le_succ _) (.int .i64 next)
    clear hat4
    go_wp2
    refine bodyPost_ret (results_box rfl _ _ rfl ((n4.set 0 _).set 1 _) Tryd.underlying24 rfl (by kernel_rfl)) rfl ?_
    exact ⟨_, rfl, by simpa using hown5, hx5⟩

def rootG : Grp := ⟨1, 0, ⟨#[]⟩, 0, 0, 0⟩
set_option maxRecDepth 100000 in
set_option maxHeartbeats 1000000 in
theorem rnew_c (w : World) : Calls Tryd.prog 42 #[] w fun e w' => ∃ a, e = .returned (.agg #[.slice (some a) 1 1, .int .i64 2]) ∧ Own w' w.heap.size 54 6 (.slice (some a) 1 1) ([rootG].map Grp.cells) ∧ Below w.heap.size w w' := by
  have h := Box.mk (w.alloc (.cells #[.slice (some ⟨w.heap.size + 1, 0, none⟩) 1 1, .int .i64 2] 24)) (([rootG].map Grp.cells).flatten ++ []) 54
  have hb := (Box.mk w [.slice (some ⟨w.heap.size + 1, 0, none⟩) 1 1, .int .i64 2] 24).alloc (.cells ([rootG].map Grp.cells).flatten.toArray 54)
  rw [show (w.alloc (.cells #[.slice (some ⟨w.heap.size + 1, 0, none⟩) 1 1, .int .i64 2] 24)).heap.size = w.heap.size + 1 from by simp] at h
  have ho := Own.ofBox (B := w.heap.size) (k := 6) (c := 1) h (grp_len _) (by simp [rootG, Grp.cells]) (by simp) (by decide) (Nat.le_succ _)
  go_enter Tryd.func42, Tryd.ntmps42
  go_wp2
  refine bodyPost_ret (results_box rfl _ _ rfl hb Tryd.underlying24 rfl (by kernel_rfl)) rfl ?_
  exact ⟨_, rfl, ho, ((Below.refl w.heap.size w).alloc (Nat.le_refl _) _).alloc (by simp) _⟩

end Go.Proofs.YtmjnibofdpgacaaDoor
