/-
  cmp.Compare, cmp.Or, private.order.
-/
import Derived.Test.YtdkcdplpefpgjaaProg
import Derived.Test.YtdkcdplpefpgjaaQuad
import Derived.Test.YtdkcdplpefpgjaaBox
import Derived.StillTailTactics
set_option linter.unusedSimpArgs false
set_option linter.unusedVariables false
namespace Go.Proofs.Ytdkcdplpefpgjaa
open Go.RowKit Gc

def cmpI (x y : Int) : Int := if x < y then -1 else if y < x then 1 else 0

set_option maxRecDepth 100000 in
set_option maxHeartbeats 1000000 in
theorem isNaN_c (x : Int) (w : World) : Calls Try.prog 115 #[.int .i64 x] w fun e w' => e = .returned (.bool false) ∧ w' = w := by
  go_enter Try.func115, Try.ntmps115
  go_wp2
  go_ret
  exact ⟨by simp, rfl⟩

set_option maxRecDepth 100000 in
set_option maxHeartbeats 1000000 in
theorem compare_c (x y : Int) (w : World) : Calls Try.prog 104 #[.int .i64 x, .int .i64 y] w fun e w' => e = .returned (.int .i64 (cmpI x y)) ∧ w' = w := by
  have HN := Lib.hid isNaN_c
  by_cases h1 : x < y
  · have HR := Lib.hid (show cmpI x y = -1 by unfold cmpI; rw [if_pos h1])
    go_enter Try.func104, Try.ntmps104
    go_wp2_with (go_at_call 115; refine (HN.out _ _).mono ?_; rintro e w1 ⟨rfl, rfl⟩)
    go_ret
    exact ⟨by rw [HR.out]; rfl, rfl⟩
  · by_cases h2 : y < x
    · have HR := Lib.hid (show cmpI x y = 1 by unfold cmpI; rw [if_neg h1, if_pos h2])
      go_enter Try.func104, Try.ntmps104
      go_wp2_with (go_at_call 115; refine (HN.out _ _).mono ?_; rintro e w1 ⟨rfl, rfl⟩)
      go_ret
      exact ⟨by rw [HR.out]; rfl, rfl⟩
    · have HR := Lib.hid (show cmpI x y = 0 by unfold cmpI; rw [if_neg h1, if_neg h2])
      go_enter Try.func104, Try.ntmps104
      go_wp2_with (go_at_call 115; refine (HN.out _ _).mono ?_; rintro e w1 ⟨rfl, rfl⟩)
      go_ret
      exact ⟨by rw [HR.out]; rfl, rfl⟩

def orI (x y : Int) : Int := if x = 0 then y else x

set_option maxRecDepth 100000 in
set_option maxHeartbeats 1000000 in
theorem or2_c (x y : Int) (b : Nat) (w : World) (h0 : w.cell? ⟨b, 0, none⟩ = some (.int .i64 x)) (h1 : w.cell? ⟨b, 1, none⟩ = some (.int .i64 y)) :
    Calls Try.prog 103 #[.slice (some ⟨b, 0, none⟩) 2 2] w fun e w' => e = .returned (.int .i64 (orI x y)) ∧ w' = w := by
  have hR := Lib.hid (show orI x y = if x = 0 then y else x from rfl)
  go_enter Try.func103, Try.ntmps103
  go_wp2
  go_loopw [8] (fun i wr => (i = .int .i64 0 ∨ (i = .int .i64 1 ∧ x = 0) ∨ (i = .int .i64 2 ∧ x = 0 ∧ y = 0)) ∧ wr = w) (fun i _ => 2 - (intOf i).toNat)
  case atStart => exact ⟨.inl rfl, rfl⟩
  case round =>
    obtain ⟨h, rfl⟩ := hrel
    rcases h with rfl | ⟨rfl, rfl⟩ | ⟨rfl, rfl, rfl⟩
    · by_cases hx : x = 0
      · have e : (x != 0) = false := by simp [hx]
        go_wp2
        go_roundw
        case rel => simpa using hx
        case measure => simp [intOf]
      · have e : (x != 0) = true := by simp [hx]
        go_wp2
        go_ret
        exact ⟨ret_int (by rw [hR.out, if_neg hx]), rfl⟩
    · by_cases hy : y = 0
      · have e : (y != 0) = false := by simp [hy]
        go_wp2
        go_roundw
        case rel => simpa using hy
        case measure => simp [intOf]
      · have e : (y != 0) = true := by simp [hy]
        go_wp2
        go_ret
        exact ⟨ret_int (by rw [hR.out]; simp), rfl⟩
    · go_wp2
      go_ret
      exact ⟨ret_int (by rw [hR.out]; simp), rfl⟩

theorem ordR_eq (x y : Q4) : ordR x y = orI (cmpI x.a y.a) (cmpI x.b y.b) := by
  unfold ordR orI cmpI
  repeat' split
  all_goals first | rfl | omega

set_option maxRecDepth 100000 in
set_option maxHeartbeats 1000000 in
theorem order_c (x y : Q4) (w : World) : Calls Try.prog 82 #[.agg x.cells.toArray, .agg y.cells.toArray] w fun e w' => e = .returned (.int .i64 (ordR x y)) ∧ Below w.heap.size w w' := by
  rw [ordR_eq]
  have b1 := (Box.mk w x.cells 89).alloc (.cells y.cells.toArray 89)
  have b2 := Box.mk (w.alloc (.cells x.cells.toArray 89)) y.cells 89
  rw [show (w.alloc (.cells x.cells.toArray 89)).heap.size = w.heap.size + 1 from by simp] at b2
  have hB1 : Below w.heap.size w ((w.alloc (.cells x.cells.toArray 89)).alloc (.cells y.cells.toArray 89)) := ((Below.refl _ _).alloc (Nat.le_refl _) _).alloc (by simp) _
  have HC := Lib.hid compare_c
  have HO := Lib.hid or2_c
  obtain ⟨xa, xb, xc, xd⟩ := x
  obtain ⟨ya, yb, yc, yd⟩ := y
  simp only [Q4.cells] at *
  generalize ha : cmpI xa ya = u at *
  generalize hb : cmpI xb yb = v at *
  have h1 := Lib.hid (fun w => ha ▸ compare_c xa ya w)
  have h2 := Lib.hid (fun w => hb ▸ compare_c xb yb w)
  clear ha hb
  go_enter Try.func82, Try.ntmps82
  go_wp2_with fail
  generalize hWx : (w.alloc _).alloc _ = W1 at *
  clear hWx
  obtain ⟨c0, c1, c2, c3, -⟩ := b1.cells
  obtain ⟨d0, d1, d2, d3, -⟩ := b2.cells
  have z1 := b2.lt
  simp only [Nat.add_zero, Nat.zero_add, Nat.reduceAdd] at c0 c1 c2 c3 d0 d1 d2 d3
  clear b1 b2
  refine wp_region_still_tail 10 (by kernel_rfl) (by kernel_rfl) ?_
  simp only [List.take_succ_cons, List.take_zero, List.drop_succ_cons, List.drop_zero]
  repeat still_step
  still_call (h1.out _)
  repeat still_step
  still_call (h2.out _)
  refine wpStill_nil ?_
  change wpList _ _ _ _ _ W1.drew
  have hB2 : Below w.heap.size w W1.drew := hB1.drew
  have z2 : w.heap.size ≤ W1.drew.heap.size := hB2.size
  generalize W1.drew = W2 at *
  clear c0 c1 c2 c3 d0 d1 d2 d3 hB1 z1
  have hy : Below w.heap.size w (W2.alloc (.cells #[.int .i64 u, .int .i64 v] 3)) := hB2.alloc z2 _
  go_wp2_with (go_at_call 103; refine (HO.out u v W2.heap.size _ (by simp) (by simp)).mono ?_; rintro e w3 ⟨rfl, rfl⟩)
  go_ret
  exact ⟨rfl, hy⟩

end Go.Proofs.Ytdkcdplpefpgjaa
