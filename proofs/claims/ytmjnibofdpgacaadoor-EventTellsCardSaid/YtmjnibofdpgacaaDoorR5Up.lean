/-
  r5.up: 'upL'.
-/
import Derived.Test.YtmjnibofdpgacaaDoorProg
import Derived.Test.YtmjnibofdpgacaaDoorR5P
import Derived.Test.YtmjnibofdpgacaaDoorForestSub
import Derived.Test.YtmjnibofdpgacaaDoorBase
set_option linter.unusedSimpArgs false
set_option linter.unusedVariables false
namespace Go.Proofs.YtmjnibofdpgacaaDoor
open Go.RowKit Gc

set_option maxRecDepth 100000 in
set_option maxHeartbeats 4000000 in
theorem up_c (A : Option Addr) (c : Nat) (xs : List Grp) (next id : Int) (w : World) (hA : Rd w 6 A (xs.map Grp.cells)) (hlA : xs.length ≤ 1048576) :
    Calls Tryd.prog 57 #[.agg #[.slice A xs.length c, .int .i64 next], .int .i64 id] w fun e w' => ∃ v, e = .returned v ∧ Own w' w.heap.size 3 1 v ((upL xs id).map icells) ∧ Below w.heap.size w w' := by
  have hB1 : Below w.heap.size w (w.alloc (.cells #[.slice A xs.length c, .int .i64 next] 24)) := (Below.refl _ _).alloc (Nat.le_refl _) _
  have hA1 := hA.below hB1 (Nat.le_refl _)
  have z1 := hB1.size
  have b1 := Box.mk w [.slice A xs.length c, .int .i64 next] 24
  have HU := Lib.hid (show upL xs id = upGo xs xs.length id from rfl)
  have e3 : -9223372036854775808 ≤ (xs.length : Int) - 1 ∧ (xs.length : Int) - 1 ≤ 9223372036854775807 := by omega
  go_enter Tryd.func57, Tryd.ntmps57
  go_wp2
  generalize hWx : w.alloc _ = W1 at *
  clear hWx hA
  go_loopw [1, 5, 6] (fun d v i wr => ∃ (k : Nat) (cur : Int) (pre : List Int), k ≤ xs.length ∧ i = .int .i64 ((k : Int) - 1) ∧ d = .int .i64 cur ∧ Own wr W1.heap.size 3 1 v (pre.map icells) ∧ pre.length + k ≤ xs.length ∧ Below W1.heap.size W1 wr ∧ Hid (pre ++ upGo xs k cur = upL xs id))
    (fun _ _ i _ => (intOf i + 1).toNat)
  case atStart => exact ⟨xs.length, id, [], Nat.le_refl _, rfl, rfl, Own.nil _ _ _ _, by simp, Below.refl _ _, (show _ = _ from HU.out.symm)⟩
  case round =>
    obtain ⟨k, cur, pre, hk, rfl, rfl, hown, hpl, hB, hpre⟩ := hrel
    have hBr := hB1.trans (hB.mono z1)
    have zr := hB.size
    rcases k with _ | k
    · have hge : ¬ ((0 : Nat) : Int) - 1 ≥ 0 := by omega
      have HP := Lib.hid (show pre = upL xs id by have := hpre.out; simpa [upGo] using this)
      clear hpre
      go_wp2
      go_ret
      exact ⟨_, rfl, by rw [← HP.out]; exact hown.base z1, hBr⟩
    · have hlt : k < xs.length := by omega
      have hge : ((k + 1 : Nat) : Int) - 1 = (k : Int) := by omega
      rw [hge]
      have hki : (k : Int) < (xs.length : Int) := by omega
      have hk0 : (k : Int) ≥ 0 := by omega
      have HH := Lib.hid (upGo_hit xs k hlt cur)
      have HM := Lib.hid (upGo_miss xs k hlt cur)
      have b3 := b1.below hB (Nat.le_refl _)
      obtain ⟨t0, t1, -⟩ := b3.cells
      simp only [Nat.zero_add, Nat.add_zero, Nat.reduceAdd] at t0 t1
      obtain ⟨b, o, rfl, hbs, hc⟩ := (hA1.below hB (Nat.le_refl _)).row (i := k) (c := xs[k].cells) (map_at _ hlt)
      simp only [Grp.cells, CellsFrom, Nat.add_zero, Nat.zero_add, Nat.reduceAdd] at hc
      obtain ⟨c0, c1, -⟩ := hc
      have e4 : -9223372036854775808 ≤ (k : Int) - 1 ∧ (k : Int) - 1 ≤ 9223372036854775807 := by omega
      have HX := Lib.hid (show (xs.map Grp.cells)[k]? = some xs[k].cells from map_at _ hlt)
      generalize xs[k] = x at *
      obtain ⟨xi, xp, xn, xc, xk, xo⟩ := x
      simp only at *
      have hp0 : (pre.map icells).length ≤ 1099511627776 := by rw [List.length_map]; omega
      have zb := b3.lt
      by_cases he : xi = cur
      · have HP := Lib.hid (show (pre ++ [cur]) ++ upGo xs k xp = upL xs id by rw [← hpre.out, HH.out he]; simp)
        subst he
        obtain ⟨b', o', e1, hbs1, -⟩ := hA1.row (i := k) (c := Grp.cells ⟨xi, xp, xn, xc, xk, xo⟩) HX.out
        simp only [Option.some.injEq, Addr.mk.injEq, and_true] at e1
        obtain ⟨rfl, rfl⟩ := e1
        have hA4 := (hA1.below hB (Nat.le_refl _)).alloc (.cells #[.int .i64 xi] 3)
        have b4 := b3.alloc (.cells #[.int .i64 xi] 3)
        have z1' := b1.lt
        clear hpre HH HM
        go_wp2_with (at_builtin; refine app1 siInt (icells xi) rfl _ _ rfl rfl rfl hown rfl rfl rfl hp0 (by omega) zr hB ?_; intro v5 w2 hown2 hB2 hg2 hat2; have b5 := b4.grown hg2 (fun e => by have := (hown.lt e.symm).1; omega); have hA5 := hA4.grown hg2 (fun q h e => by have hq : b = q := (by simpa [blk] using h); have := (hown.lt e.symm).1; omega); clear t0 t1; obtain ⟨t0, t1, -⟩ := b5.cells; simp only [Nat.zero_add, Nat.add_zero, Nat.reduceAdd] at t0 t1; obtain ⟨b', o', e1, _, hc⟩ := hA5.row (i := k) (c := Grp.cells ⟨xi, xp, xn, xc, xk, xo⟩) HX.out; simp only [Option.some.injEq, Addr.mk.injEq, and_true] at e1; obtain ⟨rfl, rfl⟩ := e1; simp only [Grp.cells, CellsFrom, Nat.add_zero, Nat.zero_add, Nat.reduceAdd] at hc; obtain ⟨_, d1, -⟩ := hc)
        go_roundw
        case rel => exact ⟨k, xp, pre ++ [xi], by omega, by go_num, rfl, by rw [List.map_append]; exact hown2, by simp; omega, hB2, HP.out⟩
        case measure => simp [intOf] <;> omega
      · have HP := Lib.hid (show pre ++ upGo xs k cur = upL xs id by rw [← hpre.out, HM.out he])
        have he' : (xi == cur) = false := by simpa using he
        clear hpre HH HM
        go_wp2
        go_roundw
        case rel => exact ⟨k, cur, pre, by omega, by go_num, rfl, hown, by omega, hB, HP.out⟩
        case measure => simp [intOf] <;> omega

end Go.Proofs.YtmjnibofdpgacaaDoor
