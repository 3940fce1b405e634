/-
  forest.Find: the node with an ID.
-/
import Derived.Test.YtdkcdplpefpgjaaForestAt
import Derived.Test.YtdkcdplpefpgjaaQuad
import Derived.Test.YtdkcdplpefpgjaaBox
set_option linter.unusedSimpArgs false
set_option linter.unusedVariables false
namespace Go.Proofs.Ytdkcdplpefpgjaa
open Go.RowKit Gc

set_option maxRecDepth 100000 in
set_option maxHeartbeats 1000000 in
theorem find_c (A : Option Addr) (c : Nat) (xs : List Grp) (next id : Int) (w : World) (h : Rd w 6 A (xs.map Grp.cells)) (hl : xs.length ≤ 140737488351232) :
    Calls Try.prog 74 #[.agg #[.slice A xs.length c, .int .i64 next], .int .i64 id] w fun e w' => e = .returned (.tuple #[.agg (nodeAt xs id).1.cells.toArray, .bool (nodeAt xs id).2]) ∧ Below w.heap.size w w' := by
  have hW1 : Below w.heap.size w (w.alloc (.cells #[.slice A xs.length c, .int .i64 next] 25)) := (Below.refl _ _).alloc (Nat.le_refl _) _
  have hAt := Lib.hid (fun W (h : Rd W 6 A (xs.map Grp.cells)) => at_c A c xs next id W h hl)
  rcases find_idx (fun n : Grp => n.id == id) xs with ⟨k, x, e1, hk, hx, e2, -⟩ | ⟨e1, e2⟩
  · have hN := Lib.hid (show nodeAt xs id = (x, true) by unfold nodeAt; rw [e2])
    have H := Lib.hid h
    have HX := Lib.hid hx
    have h1 : ¬ ((k : Int) < 0) := by omega
    have h2 : (k : Int) < (xs.length : Int) := by omega
    have hAt := hAt.out
    rw [e1] at hAt
    have HAt := Lib.hid hAt
    clear e1 e2 hAt h hx
    go_enter Try.func74, Try.ntmps74
    go_wp2_with (go_at_call 101; refine (HAt.out _ ((H.out.alloc _).alloc _)).mono ?_; rintro e W ⟨rfl, hb⟩; obtain ⟨b, o, rfl, hbs, hc⟩ := (((H.out.alloc _).alloc _).below hb (Nat.le_refl _)).row (i := k) (c := x.cells) (by rw [List.getElem?_map, HX.out]; rfl); simp only [Grp.cells, CellsFrom, Nat.add_zero, Nat.zero_add, Nat.reduceAdd] at hc; obtain ⟨c0, c1, c2, c3, c4, c5, -⟩ := hc; have t0 : W.cell? ⟨w.heap.size, 0, none⟩ = some (.slice (some ⟨b, o, none⟩) xs.length c) := (hb.cell (p := ⟨w.heap.size, 0, none⟩) (by simp <;> omega)).trans (by simp); have hbx := (Box.mk (w.alloc (.cells #[.slice (some ⟨b, o, none⟩) xs.length c, .int .i64 next] 25)) [.int .i64 0, .int .i64 0, .string ⟨#[]⟩, .int .i64 0, .int .i64 0, .int .i64 0] 58).below hb (by simp); have hz := hb.size; rw [show (w.alloc (.cells #[.slice (some ⟨b, o, none⟩) xs.length c, .int .i64 next] 25)).heap.size = w.heap.size + 1 from by simp] at hbx; have f := hbx.fro; obtain ⟨z0, z1, z2, z3, z4, z5, -⟩ := hbx.cells; simp only [Nat.zero_add, Nat.add_zero, Nat.reduceAdd] at z0 z1 z2 z3 z4 z5)
    try simp only [Exit.inBlock, Exit.then]
    refine bodyPost_ret (results_box_tmp rfl _ _ rfl ((((((hbx.set 0 _).set 1 _).set 2 _).set 3 _).set 4 _).set 5 _) Try.underlying58 rfl (by kernel_rfl)) rfl ?_
    have hBW : Below w.heap.size w W := (((Below.refl w.heap.size w).alloc (Nat.le_refl _) _).alloc (by simp) _).trans (hb.mono (by simp; omega))
    have hle : w.heap.size ≤ w.heap.size + 1 := Nat.le_succ _
    exact ⟨by rw [hN.out]; rfl, (((((hBW.setCell hle _).setCell hle _).setCell hle _).setCell hle _).setCell hle _).setCell hle _⟩
  · have hN := Lib.hid (show nodeAt xs id = (⟨0, 0, ByteArray.empty, 0, 0, 0⟩, false) by unfold nodeAt; rw [e2])
    have H := Lib.hid h
    have hAt := hAt.out
    rw [e1] at hAt
    have HAt := Lib.hid hAt
    clear e1 e2 hAt h
    go_enter Try.func74, Try.ntmps74
    go_wp2_with (go_at_call 101; refine (HAt.out _ ((H.out.alloc _).alloc _)).mono ?_; rintro e W ⟨rfl, hb⟩; have hbx := (Box.mk (w.alloc (.cells #[.slice A xs.length c, .int .i64 next] 25)) [.int .i64 0, .int .i64 0, .string ⟨#[]⟩, .int .i64 0, .int .i64 0, .int .i64 0] 58).below hb (by simp); have hz := hb.size; rw [show (w.alloc (.cells #[.slice A xs.length c, .int .i64 next] 25)).heap.size = w.heap.size + 1 from by simp] at hbx; have f := hbx.fro; obtain ⟨z0, z1, z2, z3, z4, z5, -⟩ := hbx.cells; simp only [Nat.zero_add, Nat.add_zero, Nat.reduceAdd] at z0 z1 z2 z3 z4 z5)
    try simp only [Exit.inBlock, Exit.then]
    refine bodyPost_ret (results_box_tmp rfl _ _ rfl ((((((hbx.set 0 _).set 1 _).set 2 _).set 3 _).set 4 _).set 5 _) Try.underlying58 rfl (by kernel_rfl)) rfl ?_
    have hBW : Below w.heap.size w W := (((Below.refl w.heap.size w).alloc (Nat.le_refl _) _).alloc (by simp) _).trans (hb.mono (by simp; omega))
    have hle : w.heap.size ≤ w.heap.size + 1 := Nat.le_succ _
    exact ⟨by rw [hN.out]; rfl, (((((hBW.setCell hle _).setCell hle _).setCell hle _).setCell hle _).setCell hle _).setCell hle _⟩

end Go.Proofs.Ytdkcdplpefpgjaa
