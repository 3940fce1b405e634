/-
  tree.checked, tree.Find, of a tree that is well-formed.
-/
import Derived.Test.YtdkcdplpefpgjaaForestFind
import Derived.Test.YtdkcdplpefpgjaaCheck
set_option linter.unusedSimpArgs false
set_option linter.unusedVariables false
namespace Go.Proofs.Ytdkcdplpefpgjaa
open Go.RowKit Gc

set_option maxRecDepth 100000 in
set_option maxHeartbeats 1000000 in
theorem checked_ok (A : Option Addr) (c : Nat) (xs : List Grp) (next : Int) (w : World) (h : Rd w 6 A (xs.map Grp.cells)) (hok : ∀ x ∈ xs, x.ok) (hl : xs.length ≤ 140737488351232) (hcap : xs.length ≤ c) (hck : checkB xs next = true) :
    Calls Try.prog 109 #[.agg #[.slice A xs.length c, .int .i64 next]] w fun e w' => e = .returned (.agg #[.slice A xs.length c, .int .i64 next]) ∧ Below w.heap.size w w' := by
  have hC := fun W h => check_c A c xs next W h hok hl hcap
  rw [hck] at hC
  have HC := Lib.hid hC
  have b1 := (Box.mk w [.slice A xs.length c, .int .i64 next] 25).alloc (.cells #[.slice none 0 0, .int .i64 0] 25)
  have b2 := Box.mk (w.alloc (.cells #[.slice A xs.length c, .int .i64 next] 25)) [.slice none 0 0, .int .i64 0] 25
  rw [show (w.alloc (.cells #[.slice A xs.length c, .int .i64 next] 25)).heap.size = w.heap.size + 1 from by simp] at b2
  have hB1 : Below w.heap.size w ((w.alloc (.cells #[.slice A xs.length c, .int .i64 next] 25)).alloc (.cells #[.slice none 0 0, .int .i64 0] 25)) := ((Below.refl _ _).alloc (Nat.le_refl _) _).alloc (by simp) _
  have h1 := h.below hB1 (Nat.le_refl _)
  clear hC hck h
  go_enter Try.func109, Try.ntmps109
  go_wp2_with fail
  generalize hWx : (w.alloc _).alloc _ = W1 at *
  clear hWx
  refine (HC.out W1 h1).mono ?_
  rintro e W ⟨rfl, hb⟩
  have b3 := b1.below hb (Nat.le_refl _)
  have b4 := b2.below hb (Nat.le_refl _)
  obtain ⟨t0, t1, -⟩ := b3.cells
  obtain ⟨u0, u1, -⟩ := b4.cells
  have f := b4.fro
  simp only [Nat.zero_add, Nat.add_zero, Nat.reduceAdd] at t0 t1 u0 u1
  go_wp2
  refine bodyPost_ret (results_box rfl _ _ rfl ((b4.set 0 _).set 1 _) Try.underlying25 rfl (by kernel_rfl)) rfl ?_
  have hle : w.heap.size ≤ w.heap.size + 1 := Nat.le_succ _
  exact ⟨rfl, ((hB1.trans (hb.mono hB1.size)).setCell hle _).setCell hle _⟩

set_option maxRecDepth 100000 in
set_option maxHeartbeats 1000000 in
theorem treeFind_ok (A : Option Addr) (c : Nat) (xs : List Grp) (next id : Int) (w : World) (h : Rd w 6 A (xs.map Grp.cells)) (hok : ∀ x ∈ xs, x.ok) (hl : xs.length ≤ 140737488351232) (hcap : xs.length ≤ c) (hck : checkB xs next = true) :
    Calls Try.prog 88 #[.agg #[.slice A xs.length c, .int .i64 next], .int .i64 id] w fun e w' => e = .returned (.tuple #[.agg (nodeAt xs id).1.cells.toArray, .bool (nodeAt xs id).2]) ∧ Below w.heap.size w w' := by
  have HC := Lib.hid (fun W h => checked_ok A c xs next W h hok hl hcap hck)
  have HF := Lib.hid (fun W h => find_c A c xs next id W h hl)
  have hB1 : Below w.heap.size w ((w.alloc (.cells #[.slice A xs.length c, .int .i64 next] 25)).alloc (.cells #[.int .i64 0, .int .i64 0, .string ⟨#[]⟩, .int .i64 0, .int .i64 0, .int .i64 0] 58)) := ((Below.refl _ _).alloc (Nat.le_refl _) _).alloc (by simp) _
  have b2 := Box.mk (w.alloc (.cells #[.slice A xs.length c, .int .i64 next] 25)) [.int .i64 0, .int .i64 0, .string ⟨#[]⟩, .int .i64 0, .int .i64 0, .int .i64 0] 58
  rw [show (w.alloc (.cells #[.slice A xs.length c, .int .i64 next] 25)).heap.size = w.heap.size + 1 from by simp] at b2
  have h1 := h.below hB1 (Nat.le_refl _)
  generalize nodeAt xs id = L at *
  obtain ⟨⟨l1, l2, l3, l4, l5, l6⟩, lok⟩ := L
  simp only [Grp.cells] at *
  clear hck h
  go_enter Try.func88, Try.ntmps88
  go_wp2_with fail
  generalize hWx : (w.alloc _).alloc _ = W1 at *
  clear hWx
  refine (HC.out W1 h1).mono ?_
  rintro e W2 ⟨rfl, hb⟩
  go_wp2_with fail
  refine (HF.out W2 (h1.below hb (Nat.le_refl _))).mono ?_
  rintro e W ⟨rfl, hb2⟩
  have b4 := (b2.below hb (Nat.le_refl _)).below hb2 (Nat.le_refl _)
  obtain ⟨u0, u1, u2, u3, u4, u5, -⟩ := b4.cells
  have f := b4.fro
  simp only [Nat.zero_add, Nat.add_zero, Nat.reduceAdd] at u0 u1 u2 u3 u4 u5
  go_wp2
  refine bodyPost_ret (results_box_tmp rfl _ _ rfl ((((((b4.set 0 _).set 1 _).set 2 _).set 3 _).set 4 _).set 5 _) Try.underlying58 rfl (by kernel_rfl)) rfl ?_
  have hle : w.heap.size ≤ w.heap.size + 1 := Nat.le_succ _
  have hBW := hB1.trans ((hb.trans (hb2.mono hb.size)).mono hB1.size)
  exact ⟨rfl, (((((hBW.setCell hle _).setCell hle _).setCell hle _).setCell hle _).setCell hle _).setCell hle _⟩

end Go.Proofs.Ytdkcdplpefpgjaa
