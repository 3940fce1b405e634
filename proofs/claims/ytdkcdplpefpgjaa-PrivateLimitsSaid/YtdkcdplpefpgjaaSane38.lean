/-
  law38.sane.
-/
import Derived.Test.YtdkcdplpefpgjaaThree
import Derived.Test.YtdkcdplpefpgjaaSameQ
import Derived.Test.YtdkcdplpefpgjaaPrivFree
import Derived.Test.YtdkcdplpefpgjaaPrivOut
import Derived.Test.YtdkcdplpefpgjaaPrivRemove
set_option linter.unusedSimpArgs false
set_option linter.unusedVariables false
namespace Go.Proofs.Ytdkcdplpefpgjaa
open Go.RowKit Gc

def saneL : List Q4 := [⟨7, 2, 5, 3⟩, ⟨7, 4, 2, 0⟩]

theorem three_ok : ∀ x ∈ threeX, x.ok := by
  intro x hx
  simp only [threeX, List.mem_cons, List.mem_nil_iff, or_false] at hx
  rcases hx with rfl | rfl | rfl <;> exact ⟨by decide, ⟨by decide, by decide⟩, ⟨by decide, by decide⟩, ⟨by decide, by decide⟩, ⟨by decide, by decide⟩, ⟨by decide, by decide⟩⟩
theorem three_check : checkB threeX 5 = true := by kernel_rfl
theorem three_hier : hierB threeX 5 threeT 8 = true := by kernel_rfl
theorem sane_res : resB threeX 5 threeT 8 saneL = true := by kernel_rfl
theorem sane_free : freeR threeX 5 threeT 8 saneL 7 4 = ([⟨7, 2, 4, 0⟩, ⟨7, 4, 2, 0⟩], [⟨2, 0, 1, 3⟩], 0) := by kernel_rfl
theorem sane_out : outR threeX 5 threeT 8 saneL 2 2 = ([⟨7, 2, 3, 5⟩, ⟨7, 4, 2, 0⟩], 0) := by kernel_rfl
theorem sane_rm : rmGo 4 (nodeAt threeX 4).1.parent saneL (rmKeep 4 saneL) = [⟨7, 2, 7, 3⟩] := by decide

theorem sane_small : Small saneL := ⟨by decide, fun x hx => by
  simp only [saneL, List.mem_cons, List.mem_nil_iff, or_false] at hx
  rcases hx with rfl | rfl <;> exact ⟨by decide, by decide, by decide, by decide⟩⟩
theorem sane_pos : ∀ x ∈ saneL, 0 ≤ x.c ∧ 0 ≤ x.d := by decide
theorem sane_freed : (frOut 7 saneL 4).all (fun x => !emptyQ x) = true := by decide
theorem sane_give : ∀ k (h : k < saneL.length), saneL[k].b = 4 → Small (rmGo 4 (nodeAt threeX 4).1.parent (saneL.take k) (rmKeep 4 saneL)) ∧ (saneL[k].c + saneL[k].d = 0 ∨ bsHit (rmGo 4 (nodeAt threeX 4).1.parent (saneL.take k) (rmKeep 4 saneL)) ⟨saneL[k].a, (nodeAt threeX 4).1.parent, 0, 0⟩ = true ∨ bsAt (rmGo 4 (nodeAt threeX 4).1.parent (saneL.take k) (rmKeep 4 saneL)) ⟨saneL[k].a, (nodeAt threeX 4).1.parent, 0, 0⟩ = (rmGo 4 (nodeAt threeX 4).1.parent (saneL.take k) (rmKeep 4 saneL)).length) := by
  intro k h he
  match k, h, he with
  | 0, _, he => exact absurd (show (2 : Int) = 4 from he) (by decide)
  | 1, _, _ =>
    refine ⟨⟨by decide, ?_⟩, .inr (.inl (show bsHit (rmGo 4 (nodeAt threeX 4).1.parent (saneL.take 1) (rmKeep 4 saneL)) ⟨7, (nodeAt threeX 4).1.parent, 0, 0⟩ = true by decide))⟩
    rw [show rmGo 4 (nodeAt threeX 4).1.parent (saneL.take 1) (rmKeep 4 saneL) = [⟨7, 2, 5, 3⟩] from by decide]
    intro x hx
    simp only [List.mem_cons, List.mem_nil_iff, or_false] at hx
    subst hx
    exact ⟨by decide, by decide, by decide, by decide⟩
  | k + 2, h, _ => exact absurd h (by simp [saneL])

set_option maxRecDepth 100000 in
set_option maxHeartbeats 1000000 in
theorem sane38_c (w : World) : Calls Try.prog 19 #[] w fun e w' => e = .returned (.bool true) ∧ Below w.heap.size w w' := by
  have H3 := Lib.hid three_c
  go_enter Try.func19, Try.ntmps19
  go_wp2_with fail
  refine (H3.out w).mono ?_
  rintro e W1 ⟨a, b, rfl, hA1, hT1, hB1⟩
  have bx := Box.mk W1 [.slice (some a) 3 3, .int .i64 5, .slice (some b) 1 1, .int .i64 8] 47
  have br := Box.mk (W1.alloc (.cells #[.slice (some a) 3 3, .int .i64 5, .slice (some b) 1 1, .int .i64 8] 47)) (saneL.map Q4.cells).flatten 89
  have hBx : Below w.heap.size w ((W1.alloc (.cells #[.slice (some a) 3 3, .int .i64 5, .slice (some b) 1 1, .int .i64 8] 47)).alloc (.cells #[.int .i64 7, .int .i64 2, .int .i64 5, .int .i64 3, .int .i64 7, .int .i64 4, .int .i64 2, .int .i64 0] 89)) := (hB1.alloc hB1.size _).alloc (by have := hB1.size; simp; omega) _
  rw [show (W1.alloc (.cells #[.slice (some a) 3 3, .int .i64 5, .slice (some b) 1 1, .int .i64 8] 47)).heap.size = W1.heap.size + 1 from by simp] at br
  have bx2 := bx.alloc (.cells #[.int .i64 7, .int .i64 2, .int .i64 5, .int .i64 3, .int .i64 7, .int .i64 4, .int .i64 2, .int .i64 0] 89)
  have hA2 := (hA1.alloc (.cells #[.slice (some a) 3 3, .int .i64 5, .slice (some b) 1 1, .int .i64 8] 47)).alloc (.cells #[.int .i64 7, .int .i64 2, .int .i64 5, .int .i64 3, .int .i64 7, .int .i64 4, .int .i64 2, .int .i64 0] 89)
  have hT2 := (hT1.alloc (.cells #[.slice (some a) 3 3, .int .i64 5, .slice (some b) 1 1, .int .i64 8] 47)).alloc (.cells #[.int .i64 7, .int .i64 2, .int .i64 5, .int .i64 3, .int .i64 7, .int .i64 4, .int .i64 2, .int .i64 0] 89)
  have hL2 : Rd ((W1.alloc (.cells #[.slice (some a) 3 3, .int .i64 5, .slice (some b) 1 1, .int .i64 8] 47)).alloc (.cells #[.int .i64 7, .int .i64 2, .int .i64 5, .int .i64 3, .int .i64 7, .int .i64 4, .int .i64 2, .int .i64 0] 89)) 4 (some ⟨W1.heap.size + 1, 0, none⟩) (saneL.map Q4.cells) := rd_box br (by simp [saneL, Q4.cells])
  clear bx br hA1 hT1 hB1 H3
  go_wp2_with fail
  generalize hWx : (W1.alloc _).alloc _ = W2 at *
  clear hWx
  have hF := free_c (some a) 3 threeX 5 (some b) 1 threeT 8 (some ⟨W1.heap.size + 1, 0, none⟩) 2 saneL 7 4 W2 hA2 three_ok (by decide) (by decide) hT2 (by decide) hL2 (by simp) sane_small (fun _ => sane_pos) sane_freed
  rw [sane_free] at hF
  refine hF.mono ?_
  rintro e W3 ⟨v1, v2, rfl, hv1, hv2, hb3⟩
  clear hF
  have hA3 := hA2.below hb3 (Nat.le_refl _)
  have hT3 := hT2.below hb3 (Nat.le_refl _)
  have hL3 := hL2.below hb3 (Nat.le_refl _)
  have bx3 := bx2.below hb3 (Nat.le_refl _)
  have hB3 := hBx.trans (hb3.mono hBx.size)
  obtain ⟨t0, t1, t2, t3, -⟩ := bx3.cells
  simp only [Nat.zero_add, Nat.add_zero, Nat.reduceAdd] at t0 t1 t2 t3
  clear hA2 hT2 hL2 bx2 hBx hb3
  go_wp2_with fail
  have hF := out_c (some a) 3 threeX 5 (some b) 1 threeT 8 (some ⟨W1.heap.size + 1, 0, none⟩) 2 saneL 2 2 W3 hA3 three_ok (by decide) (by decide) hT3 (by decide) hL3 (by simp) sane_small (fun _ x hx => (sane_pos x hx).1)
  rw [sane_out] at hF
  refine hF.mono ?_
  rintro e W4 ⟨v3, rfl, hv3, hb4⟩
  clear hF
  have hA4 := hA3.below hb4 (Nat.le_refl _)
  have hL4 := hL3.below hb4 (Nat.le_refl _)
  have bx4 := bx3.below hb4 (Nat.le_refl _)
  have hB4 := hB3.trans (hb4.mono hB3.size)
  have kv1 := hv1.below hb4 (Nat.le_refl _)
  have kv2 := hv2.below hb4 (Nat.le_refl _)
  clear t0 t1 t2 t3
  obtain ⟨t0, t1, t2, t3, -⟩ := bx4.cells
  simp only [Nat.zero_add, Nat.add_zero, Nat.reduceAdd] at t0 t1 t2 t3
  clear hA3 hT3 hL3 bx3 hB3 hb4 hv1 hv2
  go_wp2_with fail
  have hF := remove_ok (some a) 3 threeX 5 (some ⟨W1.heap.size + 1, 0, none⟩) 2 saneL 4 W4 hA4 three_ok (by decide) (by decide) three_check hL4 sane_small (by decide) (by kernel_rfl) sane_give
  rw [sane_rm] at hF
  refine hF.mono ?_
  rintro e W5 ⟨v4, rfl, hv4, hb5⟩
  clear hF t0 t1 t2 t3
  have hB5 := hB4.trans (hb5.mono hB4.size)
  have lv1 := kv1.below hb5 (Nat.le_refl _)
  have lv2 := kv2.below hb5 (Nat.le_refl _)
  have lv3 := hv3.below hb5 (Nat.le_refl _)
  clear hA4 hL4 bx4 hB4 hb5 kv1 kv2 hv3
  obtain ⟨A1, c1, rfl, -, -, r1, -⟩ := lv1.rd
  obtain ⟨A2, c2, rfl, -, -, r2, -⟩ := lv2.rd
  obtain ⟨A3, c3, rfl, -, -, r3, -⟩ := lv3.rd
  obtain ⟨A4, c4, rfl, -, -, r4, -⟩ := hv4.rd
  clear lv1 lv2 lv3 hv4
  simp only [List.map_cons, List.map_nil, List.length_cons, List.length_nil, Nat.zero_add, Nat.reduceAdd]
  go_wp2_with fail
  have hF := sameRes_c A1 c1 [⟨7, 2, 4, 0⟩, ⟨7, 4, 2, 0⟩] (some ⟨W5.heap.size, 0, none⟩) 2 [⟨7, 2, 4, 0⟩, ⟨7, 4, 2, 0⟩] (W5.alloc (.cells (([⟨7, 2, 4, 0⟩, ⟨7, 4, 2, 0⟩] : List Q4).map Q4.cells).flatten.toArray 89)) (r1.alloc _) (rd_new W5 4 _ _ (by simp [Q4.cells])) (by decide) (by decide)
  rw [decide_eq_true rfl] at hF
  refine hF.mono ?_
  rintro e W6 ⟨rfl, hb6⟩
  clear hF
  have hx6 := ((Below.refl W5.heap.size W5).alloc (Nat.le_refl _) (.cells (([⟨7, 2, 4, 0⟩, ⟨7, 4, 2, 0⟩] : List Q4).map Q4.cells).flatten.toArray 89)).trans (hb6.mono (by simp))
  clear hb6
  have r2 := r2.below hx6 (Nat.le_refl _)
  have r3 := r3.below hx6 (Nat.le_refl _)
  have r4 := r4.below hx6 (Nat.le_refl _)
  have hB6 := hB5.trans (hx6.mono hB5.size)
  clear hx6 r1 hB5
  go_wp2_with fail
  have hF := sameHold_c A2 c2 [⟨2, 0, 1, 3⟩] (some ⟨W6.heap.size, 0, none⟩) 1 [⟨2, 0, 1, 3⟩] (W6.alloc (.cells (([⟨2, 0, 1, 3⟩] : List Q4).map Q4.cells).flatten.toArray 100)) (r2.alloc _) (rd_new W6 4 _ _ (by simp [Q4.cells])) (by decide) (by decide)
  rw [decide_eq_true rfl] at hF
  refine hF.mono ?_
  rintro e W7 ⟨rfl, hb7⟩
  clear hF
  have hx7 := ((Below.refl W6.heap.size W6).alloc (Nat.le_refl _) (.cells (([⟨2, 0, 1, 3⟩] : List Q4).map Q4.cells).flatten.toArray 100)).trans (hb7.mono (by simp))
  clear hb7
  have r3 := r3.below hx7 (Nat.le_refl _)
  have r4 := r4.below hx7 (Nat.le_refl _)
  have hB7 := hB6.trans (hx7.mono hB6.size)
  clear hx7 r2 hB6
  go_wp2_with fail
  have hF := sameRes_c A3 c3 [⟨7, 2, 3, 5⟩, ⟨7, 4, 2, 0⟩] (some ⟨W7.heap.size, 0, none⟩) 2 [⟨7, 2, 3, 5⟩, ⟨7, 4, 2, 0⟩] (W7.alloc (.cells (([⟨7, 2, 3, 5⟩, ⟨7, 4, 2, 0⟩] : List Q4).map Q4.cells).flatten.toArray 89)) (r3.alloc _) (rd_new W7 4 _ _ (by simp [Q4.cells])) (by decide) (by decide)
  rw [decide_eq_true rfl] at hF
  refine hF.mono ?_
  rintro e W8 ⟨rfl, hb8⟩
  clear hF
  have hx8 := ((Below.refl W7.heap.size W7).alloc (Nat.le_refl _) (.cells (([⟨7, 2, 3, 5⟩, ⟨7, 4, 2, 0⟩] : List Q4).map Q4.cells).flatten.toArray 89)).trans (hb8.mono (by simp))
  clear hb8
  have r4 := r4.below hx8 (Nat.le_refl _)
  have hB8 := hB7.trans (hx8.mono hB7.size)
  clear hx8 r3 hB7
  go_wp2_with fail
  have hF := sameRes_c A4 c4 [⟨7, 2, 7, 3⟩] (some ⟨W8.heap.size, 0, none⟩) 1 [⟨7, 2, 7, 3⟩] (W8.alloc (.cells (([⟨7, 2, 7, 3⟩] : List Q4).map Q4.cells).flatten.toArray 89)) (r4.alloc _) (rd_new W8 4 _ _ (by simp [Q4.cells])) (by decide) (by decide)
  rw [decide_eq_true rfl] at hF
  refine hF.mono ?_
  rintro e W9 ⟨rfl, hb9⟩
  clear hF
  have hx9 := ((Below.refl W8.heap.size W8).alloc (Nat.le_refl _) (.cells (([⟨7, 2, 7, 3⟩] : List Q4).map Q4.cells).flatten.toArray 89)).trans (hb9.mono (by simp))
  clear hb9
  have hB9 := hB8.trans (hx9.mono hB8.size)
  clear hx9 r4 hB8
  go_wp2
  go_ret
  exact ⟨rfl, hB9⟩

end Go.Proofs.Ytdkcdplpefpgjaa
