/-
  PrivateLimits: the walk.  (printed by wip/gen/privlim.py)
-/
import Derived.Test.YtdkcdplpefpgjaaPrivLimP
set_option linter.unusedSimpArgs false
set_option linter.unusedVariables false
namespace Go.Proofs.Ytdkcdplpefpgjaa
open Go.RowKit Gc

theorem q4_small (ls : List Q4) (hl : ls.length ≤ 65536) (h : ∀ x ∈ ls, 0 ≤ x.c ∧ x.c ≤ 33554432 ∧ 0 ≤ x.d ∧ x.d ≤ 33554432) : Small ls := ⟨hl, fun x hx => by have := h x hx; omega⟩

set_option maxRecDepth 100000 in
set_option maxHeartbeats 4000000 in
theorem privLimits_c (n : Int) (w : World) : Calls Try.prog 4 #[.int .i64 n] w fun e w' => e = .returned (.bool true) ∧ Below w.heap.size w w' := by
  have H3 := Lib.hid three_c
  go_enter Try.func4, Try.ntmps4
  go_wp2_with fail
  refine (H3.out w).mono ?_
  rintro e W1 ⟨a, b, rfl, hA1, hT1, hB1⟩
  have bx := (Box.mk W1 [.slice (some a) 3 3, .int .i64 5, .slice (some b) 1 1, .int .i64 8] 47).alloc (.cells #[.int .i64 n] 3)
  have hA2 := (hA1.alloc (.cells #[.slice (some a) 3 3, .int .i64 5, .slice (some b) 1 1, .int .i64 8] 47)).alloc (.cells #[.int .i64 n] 3)
  have hT2 := (hT1.alloc (.cells #[.slice (some a) 3 3, .int .i64 5, .slice (some b) 1 1, .int .i64 8] 47)).alloc (.cells #[.int .i64 n] 3)
  have hBx : Below w.heap.size w ((W1.alloc (.cells #[.slice (some a) 3 3, .int .i64 5, .slice (some b) 1 1, .int .i64 8] 47)).alloc (.cells #[.int .i64 n] 3)) := (hB1.alloc hB1.size _).alloc (by have := hB1.size; simp; omega) _
  have br := Box.mk (W1.alloc (.cells #[.slice (some a) 3 3, .int .i64 5, .slice (some b) 1 1, .int .i64 8] 47)) (([n].map icells).flatten) 3
  rw [show (W1.alloc (.cells #[.slice (some a) 3 3, .int .i64 5, .slice (some b) 1 1, .int .i64 8] 47)).heap.size = W1.heap.size + 1 from by simp] at br
  have hN : Rd ((W1.alloc (.cells #[.slice (some a) 3 3, .int .i64 5, .slice (some b) 1 1, .int .i64 8] 47)).alloc (.cells #[.int .i64 n] 3)) 1 (some ⟨W1.heap.size + 1, 0, none⟩) ([n].map icells) := rd_box br (by simp [icells])
  have hz1 : W1.heap.size + 1 < ((W1.alloc (.cells #[.slice (some a) 3 3, .int .i64 5, .slice (some b) 1 1, .int .i64 8] 47)).alloc (.cells #[.int .i64 n] 3)).heap.size := br.lt
  clear br hA1 hT1 hB1 H3
  go_wp2_with fail
  generalize hWx : (W1.alloc _).alloc _ = W2 at *
  clear hWx
  refine (roll_c (some ⟨W1.heap.size + 1, 0, none⟩) 1 [n] W2 hN (by intro b' e; cases e; exact hz1) (by simp) (by simp)).mono ?_
  rintro e W3 ⟨dd, rfl, hD, hd, hb⟩
  have hA3 := hA2.below hb (Nat.le_refl _)
  have hT3 := hT2.below hb (Nat.le_refl _)
  have bx3 := bx.below hb (Nat.le_refl _)
  have hB3 := hBx.trans (hb.mono hBx.size)
  have hW2 := hBx.size
  have zb : W1.heap.size < W2.heap.size := by omega
  have zA : ∀ q, blk (some a) = some q → q < W2.heap.size := by
    intro q e
    obtain ⟨b', o', e', hlt, _⟩ := hA2.row (i := 0) (c := Grp.cells ⟨1, 0, ⟨#[]⟩, 0, 0, 0⟩) rfl
    cases e'
    cases e
    exact hlt
  have zT : ∀ q, blk (some b) = some q → q < W2.heap.size := by
    intro q e
    obtain ⟨b', o', e', hlt, _⟩ := hT2.row (i := 0) (c := Q4.cells ⟨7, 7, 2, 0⟩) rfl
    cases e'
    cases e
    exact hlt
  clear hA2 hT2 bx hBx hb hN hz1
  go_wp2_with fail
  refine (next_c dd 16777216 W3 hD (by decide)).mono ?_
  rintro e W4 ⟨x, rfl, hx0, hx1, -, -, hg⟩
  replace hx1 := hx1 (by decide)
  have hA4 := hA3.grown hg (fun q e h => by have := zA q e; cases h; omega)
  have hT4 := hT3.grown hg (fun q e h => by have := zT q e; cases h; omega)
  have bx4 := bx3.grown hg (by intro h; cases h; omega)
  have hB4 : Below w.heap.size w W4 := hB3.grown hg hB3.size (fun k e => by cases e; omega)
  have hv0 : Own W4 W4.heap.size 89 4 (.slice none 0 0) [] := Own.nil _ _ _ _
  clear hA3 hT3 bx3 hB3 hg hD zA zT zb hd
  obtain ⟨t0, t1, t2, t3, -⟩ := bx4.cells
  simp only [Nat.zero_add, Nat.add_zero, Nat.reduceAdd] at t0 t1 t2 t3
  go_wp2_with fail
  have hF := add_c (some a) 3 threeX 5 (some b) 1 threeT 8 none 0 [] 7 2 16777216 W4 hA4 three_ok (by decide) (by decide) hT4 (by decide) (Rd.nil _ _ _) (fun _ => rfl) ⟨by decide, by simp⟩ (.inr (.inr rfl))
  rw [lim_add1] at hF
  refine hF.mono ?_
  rintro e W5 ⟨v1, rfl, hv1, hb4⟩
  clear hF hv0
  have hA5 := hA4.below hb4 (Nat.le_refl _)
  have hT5 := hT4.below hb4 (Nat.le_refl _)
  have bx5 := bx4.below hb4 (Nat.le_refl _)
  have hB5 := hB4.trans (hb4.mono hB4.size)
  clear hA4 hT4 bx4 hB4 hb4 t0 t1 t2 t3
  obtain ⟨t0, t1, t2, t3, -⟩ := bx5.cells
  simp only [Nat.zero_add, Nat.add_zero, Nat.reduceAdd] at t0 t1 t2 t3
  obtain ⟨A1, c1, rfl, hc1, -, r1, -⟩ := hv1.rd
  have hn1 : A1 = none → c1 = 0 := by
    rintro rfl
    obtain ⟨g1, c2, e1, _⟩ := hv1.open' (by simp)
    cases e1
  clear hv1
  go_wp2_with fail
  have hF := out_c (some a) 3 threeX 5 (some b) 1 threeT 8 A1 c1 [⟨7, 2, 16777216, 0⟩] 2 x W5 hA5 three_ok (by decide) (by decide) hT5 (by decide) r1 hn1 (q4_small _ (by simp) (by intro y hy; simp only [List.mem_cons, List.mem_nil_iff, or_false] at hy; first | (rcases hy with rfl | rfl <;> simp <;> omega) | (rcases hy with rfl <;> simp <;> omega))) (fun _ y hy => by simp only [List.mem_cons, List.mem_nil_iff, or_false] at hy; subst hy; simp)
  rw [lim_out x hx0 hx1] at hF
  refine hF.mono ?_
  rintro e W6 ⟨v2, rfl, hv2, hb5⟩
  clear hF r1 hn1
  have hA6 := hA5.below hb5 (Nat.le_refl _)
  have hT6 := hT5.below hb5 (Nat.le_refl _)
  have bx6 := bx5.below hb5 (Nat.le_refl _)
  have hB6 := hB5.trans (hb5.mono hB5.size)
  clear hA5 hT5 bx5 hB5 hb5 t0 t1 t2 t3
  obtain ⟨t0, t1, t2, t3, -⟩ := bx6.cells
  simp only [Nat.zero_add, Nat.add_zero, Nat.reduceAdd] at t0 t1 t2 t3
  obtain ⟨A2, c2, rfl, hc2, -, r2, -⟩ := hv2.rd
  have hn2 : A2 = none → c2 = 0 := by
    rintro rfl
    obtain ⟨g1, c2, e1, _⟩ := hv2.open' (by simp)
    cases e1
  clear hv2
  go_wp2_with fail
  have hF := add_c (some a) 3 threeX 5 (some b) 1 threeT 8 A2 c2 [⟨7, 2, 16777216 - x, x⟩] 7 4 16777216 W6 hA6 three_ok (by decide) (by decide) hT6 (by decide) r2 hn2 (q4_small _ (by simp) (by intro y hy; simp only [List.mem_cons, List.mem_nil_iff, or_false] at hy; first | (rcases hy with rfl | rfl <;> simp <;> omega) | (rcases hy with rfl <;> simp <;> omega))) (.inr (.inr (lim_at3 x)))
  rw [lim_add3 x hx0 hx1] at hF
  refine hF.mono ?_
  rintro e W7 ⟨v3, rfl, hv3, hb6⟩
  clear hF r2 hn2
  have hA7 := hA6.below hb6 (Nat.le_refl _)
  have hT7 := hT6.below hb6 (Nat.le_refl _)
  have bx7 := bx6.below hb6 (Nat.le_refl _)
  have hB7 := hB6.trans (hb6.mono hB6.size)
  clear hA6 hT6 bx6 hB6 hb6 t0 t1 t2 t3
  obtain ⟨t0, t1, t2, t3, -⟩ := bx7.cells
  simp only [Nat.zero_add, Nat.add_zero, Nat.reduceAdd] at t0 t1 t2 t3
  obtain ⟨A3, c3, rfl, hc3, -, r3, -⟩ := hv3.rd
  have hn3 : A3 = none → c3 = 0 := by
    rintro rfl
    obtain ⟨g1, c2, e1, _⟩ := hv3.open' (by simp)
    cases e1
  clear hv3
  go_wp2_with fail
  have hF := add_c (some a) 3 threeX 5 (some b) 1 threeT 8 A3 c3 [⟨7, 2, 16777216 - x, x⟩, ⟨7, 4, 16777216, 0⟩] 7 2 1 W7 hA7 three_ok (by decide) (by decide) hT7 (by decide) r3 hn3 (q4_small _ (by simp) (by intro y hy; simp only [List.mem_cons, List.mem_nil_iff, or_false] at hy; first | (rcases hy with rfl | rfl <;> simp <;> omega) | (rcases hy with rfl <;> simp <;> omega))) (.inr (.inl (lim_hit4 x)))
  rw [lim_add4 x hx0 hx1] at hF
  refine hF.mono ?_
  rintro e W8 ⟨v4, rfl, hv4, hb7⟩
  clear hF hn3 hv4
  have hA8 := hA7.below hb7 (Nat.le_refl _)
  have hT8 := hT7.below hb7 (Nat.le_refl _)
  have bx8 := bx7.below hb7 (Nat.le_refl _)
  have hB8 := hB7.trans (hb7.mono hB7.size)
  have r3 := r3.below hb7 (Nat.le_refl _)
  clear hA7 hT7 bx7 hB7 hb7 t0 t1 t2 t3
  obtain ⟨t0, t1, t2, t3, -⟩ := bx8.cells
  simp only [Nat.zero_add, Nat.add_zero, Nat.reduceAdd] at t0 t1 t2 t3
  go_wp2_with fail
  have hF := add_c (some a) 3 threeX 5 (some b) 1 threeT 8 none 0 [] 7 2 16777217 W8 hA8 three_ok (by decide) (by decide) hT8 (by decide) (Rd.nil _ _ _) (fun _ => rfl) ⟨by decide, by simp⟩ (.inr (.inr rfl))
  rw [lim_add5] at hF
  refine hF.mono ?_
  rintro e W9 ⟨v5, rfl, hv5, hb8⟩
  clear hF hv5
  have hA9 := hA8.below hb8 (Nat.le_refl _)
  have hT9 := hT8.below hb8 (Nat.le_refl _)
  have bx9 := bx8.below hb8 (Nat.le_refl _)
  have hB9 := hB8.trans (hb8.mono hB8.size)
  have r3 := r3.below hb8 (Nat.le_refl _)
  clear hA8 hT8 bx8 hB8 hb8 t0 t1 t2 t3
  obtain ⟨t0, t1, t2, t3, -⟩ := bx9.cells
  simp only [Nat.zero_add, Nat.add_zero, Nat.reduceAdd] at t0 t1 t2 t3
  go_wp2_with fail
  have hF := pages_c A3 c3 [⟨7, 2, 16777216 - x, x⟩, ⟨7, 4, 16777216, 0⟩] 7 W9 r3 (q4_small _ (by simp) (by intro y hy; simp only [List.mem_cons, List.mem_nil_iff, or_false] at hy; first | (rcases hy with rfl | rfl <;> simp <;> omega) | (rcases hy with rfl <;> simp <;> omega)))
  rw [(lim_pages x).1, (lim_pages x).2] at hF
  refine hF.mono ?_
  rintro e W10 ⟨rfl, hb9⟩
  clear hF
  have hB10 := hB9.trans (hb9.mono hB9.size)
  clear hA9 hT9 bx9 hB9 hb9 t0 t1 t2 t3 r3
  have hS := Lib.hid sane38_c
  have e1 : -9223372036854775808 ≤ 33554432 - x ∧ 33554432 - x ≤ 9223372036854775807 := by omega
  simp only [List.length_cons, List.length_nil, Nat.zero_add, Nat.reduceAdd]
  go_wp2_with fail
  refine (hS.out W10).mono ?_
  rintro e W11 ⟨rfl, hb10⟩
  go_wp2
  go_ret
  exact ⟨rfl, hB10.trans (hb10.mono hB10.size)⟩

end Go.Proofs.Ytdkcdplpefpgjaa
