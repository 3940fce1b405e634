/-
  event.Adjust, event.New.
-/
import Derived.Test.YtmjnibofdpgacaaDoorEvValid
import Derived.Test.YtmjnibofdpgacaaDoorRdNew
set_option linter.unusedSimpArgs false
set_option linter.unusedVariables false
namespace Gc
open Go Go.RowKit

def Tal.part (x : Tal) (m : Nat) : Tal := ⟨x.g, if 0 < m then clampE x.c0 else x.c0, if 1 < m then clampE x.c1 else x.c1, if 2 < m then clampE x.c2 else x.c2, if 3 < m then clampE x.c3 else x.c3, if 4 < m then clampE x.c4 else x.c4, if 5 < m then clampE x.c5 else x.c5⟩
theorem Tal.part_zero (x : Tal) : x.part 0 = x := by simp [Tal.part]
theorem Tal.part_six (x : Tal) : x.part 6 = x.clamp := by simp [Tal.part, Tal.clamp]
theorem Tal.part_succ (x : Tal) {m : Nat} (h : m < 6) : (x.part (m + 1)).cells = (x.part m).cells.set (1 + m) (.int .i64 (clampE (x.at m))) := by
  obtain rfl | rfl | rfl | rfl | rfl | rfl : m = 0 ∨ m = 1 ∨ m = 2 ∨ m = 3 ∨ m = 4 ∨ m = 5 := by omega
  all_goals simp [Tal.part, Tal.cells, Tal.at]
theorem clampE_if (n : Int) : (if 1099511627776 < if n < 0 then 0 else n then 1099511627776 else if n < 0 then 0 else n) = clampE n := by unfold clampE; split <;> split <;> omega
theorem adjE_snoc (xs : List Grp) (ls : List Tal) (k : Nat) (h : k < xs.length) : adjE (xs.take (k + 1)) ls = adjE (xs.take k) ls ++ [(talE ls xs[k].id).clamp] := by
  unfold adjE
  rw [take_snoc _ _ h, List.map_append]
  rfl
/-- event.Adjust: tallies and an error -/
def adjR (xs : List Grp) (next : Int) (ls : List Tal) : List Tal × Int := if checkB xs next then (adjE xs ls, 0) else ([], 1)
theorem adjE_len (xs : List Grp) (ls : List Tal) : (adjE xs ls).length = xs.length := by simp [adjE]
end Gc
namespace Go.Proofs.YtmjnibofdpgacaaDoor
open Go.RowKit Gc

set_option maxRecDepth 100000 in
set_option maxHeartbeats 4000000 in
theorem evAdjust_c (A : Option Addr) (c : Nat) (xs : List Grp) (next : Int) (D : Option Addr) (e : Nat) (ls : List Tal) (w : World) (hA : Rd w 6 A (xs.map Grp.cells)) (hok : ∀ x ∈ xs, x.ok) (hlA : xs.length ≤ 1048576) (hcap : xs.length ≤ c)
    (hD : Rd w 7 D (ls.map Tal.cells)) (hlD : ls.length ≤ 140737488351232) :
    Calls Tryd.prog 35 #[.agg #[.slice A xs.length c, .int .i64 next], .slice D ls.length e] w fun e w' => ∃ v, e = .returned (.tuple #[v, .int .i64 (adjR xs next ls).2]) ∧
      Own w' w.heap.size 47 7 v ((adjR xs next ls).1.map Tal.cells) ∧ Below w.heap.size w w' := by
  have hB1 : Below w.heap.size w (w.alloc (.cells #[.slice A xs.length c, .int .i64 next] 24)) := (Below.refl _ _).alloc (Nat.le_refl _) _
  have hC := Lib.hid (fun W hA => check_c A c xs next W hA hok (by omega) hcap)
  have HF := Lib.hid (fun id W hD => evFind_c D e ls id W hD hlD)
  have b1 := Box.mk w [.slice A xs.length c, .int .i64 next] 24
  have hA1 := hA.below hB1 (Nat.le_refl _)
  have hD1 := hD.below hB1 (Nat.le_refl _)
  have z1 := b1.lt
  go_enter Tryd.func35, Tryd.ntmps35
  go_wp2_with fail
  generalize hWx : w.alloc _ = W1 at *
  clear hWx hA hD
  refine (hC.out W1 hA1).mono ?_
  rintro e0 W ⟨rfl, hb⟩
  have b2 := b1.below hb (Nat.le_refl _)
  have hA2 := hA1.below hb (Nat.le_refl _)
  have hD2 := hD1.below hb (Nat.le_refl _)
  have hB2 := hB1.trans (hb.mono hB1.size)
  have z2 := b2.lt
  obtain ⟨t0, t1, -⟩ := b2.cells
  simp only [Nat.zero_add, Nat.add_zero, Nat.reduceAdd] at t0 t1
  clear hB1 b1 hA1 hD1 z1 hb hC
  cases g1 : checkB xs next with
  | false =>
    have HR := Lib.hid (show adjR xs next ls = ([], 1) by unfold adjR; rw [g1]; rfl)
    clear g1
    go_wp2
    go_ret2
    exact ⟨.slice none 0 0, by rw [HR.out]; rfl, by rw [HR.out]; exact Own.nil _ _ _ _, hB2⟩
  | true =>
    have HR := Lib.hid (show adjR xs next ls = (adjE xs ls, 0) by unfold adjR; rw [g1]; rfl)
    clear g1
    go_wp2
    go_loopw [6, 19] (fun v6 i wr => ∃ k : Nat, k ≤ xs.length ∧ i = .int .i64 k ∧ Own wr W.heap.size 47 7 v6 ((adjE (xs.take k) ls).map Tal.cells) ∧ Below W.heap.size W wr)
      (fun _ i _ => xs.length - (intOf i).toNat)
    case atStart => exact ⟨0, Nat.zero_le _, rfl, Own.nil _ _ _ _, Below.refl _ _⟩
    case round =>
      obtain ⟨k, hk, rfl, hown, hB⟩ := hrel
      have zr := hB.size
      have hBr := hB2.trans (hB.mono (by omega))
      by_cases hlt : k < xs.length
      · have hki : (k : Int) < (xs.length : Int) := by omega
        obtain ⟨b, o, rfl, hbs, hc⟩ := (hA2.below hB (Nat.le_refl _)).row (i := k) (c := xs[k].cells) (map_at _ hlt)
        have HS := Lib.hid (adjE_snoc xs ls k hlt)
        simp only [Grp.cells, CellsFrom, Nat.add_zero, Nat.zero_add, Nat.reduceAdd] at hc
        obtain ⟨c0, c1, c2, c3, c4, c5, -⟩ := hc
        generalize xs[k] = x at *
        obtain ⟨xi, xp, xn, xc, xk, xo⟩ := x
        simp only at *
        have hD3 := hD2.below hB (Nat.le_refl _)
        have hz0 : (∃ n : Nat, tix ls xi = n ∧ n < ls.length) ∨ tix ls xi = -1 := idx_cases _ _
        have hW3 : Below wr.heap.size wr (wr.alloc (.cells #[.int .i64 xi, .int .i64 xp, .string xn, .int .i64 xc, .int .i64 xk, .int .i64 xo] 54)) := (Below.refl _ _).alloc (Nat.le_refl _) _
        have hW4 : Below wr.heap.size wr ((wr.alloc (.cells #[.int .i64 xi, .int .i64 xp, .string xn, .int .i64 xc, .int .i64 xk, .int .i64 xo] 54)).alloc (.cells #[.int .i64 xi, .int .i64 0, .int .i64 0, .int .i64 0, .int .i64 0, .int .i64 0, .int .i64 0] 47)) := hW3.alloc (by simp) _
        have b4 := Box.mk (wr.alloc (.cells #[.int .i64 xi, .int .i64 xp, .string xn, .int .i64 xc, .int .i64 xk, .int .i64 xo] 54)) [.int .i64 xi, .int .i64 0, .int .i64 0, .int .i64 0, .int .i64 0, .int .i64 0, .int .i64 0] 47
        have b3 := (Box.mk wr [.int .i64 xi, .int .i64 xp, .string xn, .int .i64 xc, .int .i64 xk, .int .i64 xo] 54).alloc (.cells #[.int .i64 xi, .int .i64 0, .int .i64 0, .int .i64 0, .int .i64 0, .int .i64 0, .int .i64 0] 47)
        rw [show (wr.alloc (.cells #[.int .i64 xi, .int .i64 xp, .string xn, .int .i64 xc, .int .i64 xk, .int .i64 xo] 54)).heap.size = wr.heap.size + 1 from by simp] at b4
        have hD4 := hD3.below hW4 (Nat.le_refl _)
        have Hown := Lib.hid hown
        clear hW3
        go_wp2_with fail
        generalize hWx : World.alloc _ _ = W4 at *
        clear hWx c0 c1 c2 c3 c4 c5 hA2 t0 t1 b2 hown hD3
        refine (HF.out xi W4 hD4).mono ?_
        rintro e0 W5 ⟨rfl, hb⟩
        have b5 := b4.below hb (Nat.le_refl _)
        have hD5 := hD4.below hb (Nat.le_refl _)
        have hW5 := hW4.trans (hb.mono hW4.size)
        have z5 := b5.lt
        have z4 := hW4.size
        clear b4 b3 hD4 hb hW4 HF
        rcases hz0 with ⟨n, hn, hnl⟩ | hn
        · have HT := Lib.hid (show talE ls xi = ls[n] by unfold talE; rw [hn, if_neg (by omega)]; exact getD_at hnl)
          rw [hn]
          have g5 : (n : Int) ≥ 0 := by omega
          have hni : (n : Int) < (ls.length : Int) := by omega
          obtain ⟨b', o', rfl, hbs', hc'⟩ := hD5.row (i := n) (c := ls[n].cells) (map_at _ hnl)
          simp only [Tal.cells, CellsFrom, Nat.add_zero, Nat.zero_add, Nat.reduceAdd] at hc'
          obtain ⟨d0, d1, d2, d3, d4, d5, d6, -⟩ := hc'
          generalize hy : ls[n] = y at *
          clear hy
          obtain ⟨yg, y0, y1, y2, y3, y4, y5⟩ := y
          simp only at *
          have hfro := b5.fro
          obtain ⟨q0, q1, q2, q3, q4, q5, q6, -⟩ := b5.cells
          simp only [Nat.zero_add, Nat.add_zero, Nat.reduceAdd] at q0 q1 q2 q3 q4 q5 q6
          have b6 := ((((((b5.set 0 (.int .i64 yg)).set 1 (.int .i64 y0)).set 2 (.int .i64 y1)).set 3 (.int .i64 y2)).set 4 (.int .i64 y3)).set 5 (.int .i64 y4)).set 6 (.int .i64 y5)
          go_wp2
          have hW6 := (((((((hW5.setCell (p := ⟨wr.heap.size + 1, 0, none⟩) (Nat.le_succ _) (.int .i64 yg)).setCell (p := ⟨wr.heap.size + 1, 1, none⟩) (Nat.le_succ _) (.int .i64 y0)).setCell (p := ⟨wr.heap.size + 1, 2, none⟩) (Nat.le_succ _) (.int .i64 y1)).setCell (p := ⟨wr.heap.size + 1, 3, none⟩) (Nat.le_succ _) (.int .i64 y2)).setCell (p := ⟨wr.heap.size + 1, 4, none⟩) (Nat.le_succ _) (.int .i64 y3)).setCell (p := ⟨wr.heap.size + 1, 5, none⟩) (Nat.le_succ _) (.int .i64 y4)).setCell (p := ⟨wr.heap.size + 1, 6, none⟩) (Nat.le_succ _) (.int .i64 y5))
          generalize hWx : World.setCell (World.setCell (World.setCell (World.setCell (World.setCell (World.setCell (World.setCell W5 _ _) _ _) _ _) _ _) _ _) _ _) _ _ = W6 at *
          clear hWx
          simp only [List.set_cons_zero, List.set_cons_succ] at b6
          clear b5 hD5 d0 d1 d2 d3 d4 d5 d6 q0 q1 q2 q3 q4 q5 q6 hfro hW5 z5
          obtain ⟨w0, hw0⟩ : ∃ w0, w0 = wr := ⟨_, rfl⟩
          subst hw0
          have z6 := hW6.size
          go_loopw [38] (fun i2 wr2 => ∃ m : Nat, m ≤ 6 ∧ i2 = .int .i64 m ∧ Box wr2 (w0.heap.size + 1) ((Tal.mk yg y0 y1 y2 y3 y4 y5).part m).cells 47 ∧ Below w0.heap.size w0 wr2)
            (fun i2 _ => 6 - (intOf i2).toNat)
          case atStart => exact ⟨0, by omega, rfl, by rw [Tal.part_zero]; exact b6, hW6⟩
          case round =>
            obtain ⟨m, hm, rfl, b7, hW7⟩ := hrel
            by_cases hm6 : m < 6
            · have hmi : (m : Int) < 6 := by omega
              have hix := fun W => index6 (Tal.mk yg y0 y1 y2 y3 y4 y5) m hm6 W
              have hcell := b7.cells.at_ (m + 1) _ (((Tal.mk yg y0 y1 y2 y3 y4 y5).part m).cells_at hm6)
              have hfro := b7.fro (1 + m)
              have HP := Lib.hid ((Tal.mk yg y0 y1 y2 y3 y4 y5).part_succ hm6)
              have b8 := Lib.hid (fun v => b7.set (1 + m) v)
              rw [show 0 + (0 + (m + 1)) = 1 + m from by omega] at hcell
              simp only at hix
              generalize (Tal.mk yg y0 y1 y2 y3 y4 y5).at m = ym at *
              generalize ((Tal.mk yg y0 y1 y2 y3 y4 y5).part m).at m = yo at *
              have b9 := b8.out (.int .i64 (clampE ym))
              rw [← HP.out] at b9
              have hW8 := hW7.setCell (p := ⟨w0.heap.size + 1, 1 + m, none⟩) (Nat.le_succ _) (.int .i64 (clampE ym))
              rw [← clampE_if] at b9 hW8
              clear b8 HP b7 hW7
              go_wp2
              go_roundw
              case rel => exact ⟨m + 1, by omega, by go_num, b9, hW8⟩
              case measure => simp [intOf]; omega
            · obtain rfl : m = 6 := by omega
              rw [Tal.part_six] at b7
              have hC := Lib.hid (show (talE ls xi).clamp = ⟨yg, clampE y0, clampE y1, clampE y2, clampE y3, clampE y4, clampE y5⟩ by rw [HT.out]; rfl)
              simp only [Tal.clamp] at b7
              have hown7 := Hown.out.below hW7 (Nat.le_refl _)
              have z7 := hW7.size
              have hB7 := hBr.trans (hW7.mono (by omega))
              have hBW7 : Below W.heap.size W wr := hB.trans (hW7.mono (by omega))
              obtain ⟨r0, r1, r2, r3, r4, r5, r6, -⟩ := b7.cells
              simp only [Nat.zero_add, Nat.add_zero, Nat.reduceAdd] at r0 r1 r2 r3 r4 r5 r6
              have hlen : ((adjE (xs.take k) ls).map Tal.cells).length ≤ 1099511627776 := by rw [List.length_map, adjE_len, List.length_take]; omega
              clear b7 hW6 b6 hn
              go_wp2_with (at_builtin; refine app1 siTal (Tal.cells ⟨yg, clampE y0, clampE y1, clampE y2, clampE y3, clampE y4, clampE y5⟩) rfl _ _ rfl rfl rfl hown7 rfl rfl rfl hlen (by omega) (by omega) hBW7 ?_; intro v5 w2 hown2 hBW2 hg2 hat2)
              go_roundw
              case rel => exact ⟨k + 1, by omega, by go_num, by rw [HS.out, hC.out, List.map_append]; exact hown2, hBW2⟩
              case measure => simp [intOf]; omega
        · have HT := Lib.hid (show talE ls xi = ⟨xi, 0, 0, 0, 0, 0, 0⟩ by unfold talE; rw [hn]; rfl)
          rw [hn]
          have hfro := b5.fro
          obtain ⟨q0, q1, q2, q3, q4, q5, q6, -⟩ := b5.cells
          simp only [Nat.zero_add, Nat.add_zero, Nat.reduceAdd] at q0 q1 q2 q3 q4 q5 q6
          go_wp2
          have hW6 := hW5
          have b6 := b5
          generalize W5 = W6 at *
          clear b5 hD5 q0 q1 q2 q3 q4 q5 q6 hfro hW5 z5
          obtain ⟨w0, hw0⟩ : ∃ w0, w0 = wr := ⟨_, rfl⟩
          subst hw0
          have z6 := hW6.size
          go_loopw [38] (fun i2 wr2 => ∃ m : Nat, m ≤ 6 ∧ i2 = .int .i64 m ∧ Box wr2 (w0.heap.size + 1) ((Tal.mk xi 0 0 0 0 0 0).part m).cells 47 ∧ Below w0.heap.size w0 wr2)
            (fun i2 _ => 6 - (intOf i2).toNat)
          case atStart => exact ⟨0, by omega, rfl, by rw [Tal.part_zero]; exact b6, hW6⟩
          case round =>
            obtain ⟨m, hm, rfl, b7, hW7⟩ := hrel
            by_cases hm6 : m < 6
            · have hmi : (m : Int) < 6 := by omega
              have hix := fun W => index6 (Tal.mk xi 0 0 0 0 0 0) m hm6 W
              have hcell := b7.cells.at_ (m + 1) _ (((Tal.mk xi 0 0 0 0 0 0).part m).cells_at hm6)
              have hfro := b7.fro (1 + m)
              have HP := Lib.hid ((Tal.mk xi 0 0 0 0 0 0).part_succ hm6)
              have b8 := Lib.hid (fun v => b7.set (1 + m) v)
              rw [show 0 + (0 + (m + 1)) = 1 + m from by omega] at hcell
              simp only at hix
              generalize (Tal.mk xi 0 0 0 0 0 0).at m = ym at *
              generalize ((Tal.mk xi 0 0 0 0 0 0).part m).at m = yo at *
              have b9 := b8.out (.int .i64 (clampE ym))
              rw [← HP.out] at b9
              have hW8 := hW7.setCell (p := ⟨w0.heap.size + 1, 1 + m, none⟩) (Nat.le_succ _) (.int .i64 (clampE ym))
              rw [← clampE_if] at b9 hW8
              clear b8 HP b7 hW7
              go_wp2
              go_roundw
              case rel => exact ⟨m + 1, by omega, by go_num, b9, hW8⟩
              case measure => simp [intOf]; omega
            · obtain rfl : m = 6 := by omega
              rw [Tal.part_six] at b7
              have hC := Lib.hid (show (talE ls xi).clamp = ⟨xi, clampE 0, clampE 0, clampE 0, clampE 0, clampE 0, clampE 0⟩ by rw [HT.out]; rfl)
              simp only [Tal.clamp] at b7
              have hown7 := Hown.out.below hW7 (Nat.le_refl _)
              have z7 := hW7.size
              have hB7 := hBr.trans (hW7.mono (by omega))
              have hBW7 : Below W.heap.size W wr := hB.trans (hW7.mono (by omega))
              obtain ⟨r0, r1, r2, r3, r4, r5, r6, -⟩ := b7.cells
              simp only [Nat.zero_add, Nat.add_zero, Nat.reduceAdd] at r0 r1 r2 r3 r4 r5 r6
              have hlen : ((adjE (xs.take k) ls).map Tal.cells).length ≤ 1099511627776 := by rw [List.length_map, adjE_len, List.length_take]; omega
              clear b7 hW6 b6 hn
              go_wp2_with (at_builtin; refine app1 siTal (Tal.cells ⟨xi, clampE 0, clampE 0, clampE 0, clampE 0, clampE 0, clampE 0⟩) rfl _ _ rfl rfl rfl hown7 rfl rfl rfl hlen (by omega) (by omega) hBW7 ?_; intro v5 w2 hown2 hBW2 hg2 hat2)
              go_roundw
              case rel => exact ⟨k + 1, by omega, by go_num, by rw [HS.out, hC.out, List.map_append]; exact hown2, hBW2⟩
              case measure => simp [intOf]; omega
      · obtain rfl : k = xs.length := by omega
        have hki : ¬ (xs.length : Int) < (xs.length : Int) := by omega
        rw [List.take_length] at hown
        go_wp2
        go_ret2
        exact ⟨_, by rw [HR.out]; rfl, by rw [HR.out]; exact hown.base (by omega), hBr⟩

set_option maxRecDepth 100000 in
set_option maxHeartbeats 1000000 in
theorem evNew_c (A : Option Addr) (c : Nat) (xs : List Grp) (next : Int) (w : World) (hA : Rd w 6 A (xs.map Grp.cells)) (hok : ∀ x ∈ xs, x.ok) (hlA : xs.length ≤ 1048576) (hcap : xs.length ≤ c) :
    Calls Tryd.prog 12 #[.agg #[.slice A xs.length c, .int .i64 next]] w fun e w' => ∃ v, e = .returned v ∧
      Own w' w.heap.size 47 7 v ((adjR xs next []).1.map Tal.cells) ∧ Below w.heap.size w w' := by
  have hB1 : Below w.heap.size w (w.alloc (.cells #[.slice A xs.length c, .int .i64 next] 24)) := (Below.refl _ _).alloc (Nat.le_refl _) _
  have hA1 := hA.below hB1 (Nat.le_refl _)
  go_enter Tryd.func12, Tryd.ntmps12
  go_wp2_with fail
  generalize hWx : w.alloc _ = W1 at *
  clear hWx hA
  refine (evAdjust_c A c xs next none 0 [] W1 hA1 hok hlA hcap (Rd.nil _ _ _) (by simp)).mono ?_
  rintro e0 W ⟨v, rfl, hown, hb⟩
  have hB2 := hB1.trans (hb.mono hB1.size)
  have z1 := hB1.size
  clear hb hA1
  go_wp2
  go_ret
  exact ⟨_, rfl, hown.base z1, hB2⟩

end Go.Proofs.YtmjnibofdpgacaaDoor
