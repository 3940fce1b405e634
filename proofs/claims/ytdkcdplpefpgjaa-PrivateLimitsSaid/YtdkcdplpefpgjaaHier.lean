/-
  member.Check: 'hierB'.
-/
import Derived.Test.YtdkcdplpefpgjaaMember
set_option linter.unusedSimpArgs false
set_option linter.unusedVariables false
namespace Go.Proofs.Ytdkcdplpefpgjaa
open Go.RowKit Gc

set_option maxRecDepth 100000 in
set_option maxHeartbeats 1000000 in
theorem hier_c (A : Option Addr) (c : Nat) (xs : List Grp) (next : Int) (B : Option Addr) (d : Nat) (ts : List Q4) (hn : Int) (w : World) (hA : Rd w 6 A (xs.map Grp.cells)) (hok : ∀ x ∈ xs, x.ok) (hlA : xs.length ≤ 140737488351232) (hcap : xs.length ≤ c) (h : Rd w 4 B (ts.map Q4.cells)) (hl : ts.length ≤ 140737488351232) :
    Calls Try.prog 81 #[.agg #[.slice A xs.length c, .int .i64 next, .slice B ts.length d, .int .i64 hn]] w fun e w' => e = .returned (.bool (hierB xs next ts hn)) ∧ Below w.heap.size w w' := by
  have hB1 : Below w.heap.size w (w.alloc (.cells #[.slice A xs.length c, .int .i64 next, .slice B ts.length d, .int .i64 hn] 47)) := (Below.refl _ _).alloc (Nat.le_refl _) _
  have hHB := Lib.hid (show hierB xs next ts hn = (decide (ts.length ≤ 128) && (decide (hn ≤ 2147483648) && (checkB xs next && ((List.range ts.length).all (tstep xs ts) && decide (lastT ts < hn))))) from rfl)
  by_cases g1 : ts.length ≤ 128
  · have e1 : ¬ (128 : Int) < (ts.length : Int) := by omega
    by_cases g2 : hn ≤ 2147483648
    · have e2 : ¬ (2147483648 : Int) < hn := by omega
      have hC := Lib.hid (fun W h => check_c A c xs next W h hok hlA hcap)
      have b1 := Box.mk w [.slice A xs.length c, .int .i64 next, .slice B ts.length d, .int .i64 hn] 47
      have hA1 := hA.below hB1 (Nat.le_refl _)
      have h1 := h.below hB1 (Nat.le_refl _)
      have z1 := b1.lt
      have HF := Lib.hid (fun W t hA h => fineT_c A c xs next B d ts hn t W hA hlA h hl)
      go_enter Try.func81, Try.ntmps81
      go_wp2_with fail
      generalize hWx : w.alloc _ = W1 at *
      clear hWx hA h
      refine (hC.out W1 hA1).mono ?_
      rintro e W ⟨rfl, hb⟩
      have b2 := b1.below hb (Nat.le_refl _)
      have hA2 := hA1.below hb (Nat.le_refl _)
      have h2 := h1.below hb (Nat.le_refl _)
      have hB2 := hB1.trans (hb.mono hB1.size)
      have z2 := b2.lt
      obtain ⟨t0, t1, t2, t3, -⟩ := b2.cells
      simp only [Nat.zero_add, Nat.add_zero, Nat.reduceAdd] at t0 t1 t2 t3
      clear hB1 b1 hA1 h1 z1 hb hC b2
      cases g3 : checkB xs next with
      | false =>
        have HR := Lib.hid (show hierB xs next ts hn = false by rw [hHB.out, decide_eq_true g1, decide_eq_true g2, g3]; rfl)
        clear g3 hHB
        go_wp2
        go_ret
        exact ⟨ret_bool HR.out.symm, hB2⟩
      | true =>
        have HR := Lib.hid (show hierB xs next ts hn = ((List.range ts.length).all (tstep xs ts) && decide (lastT ts < hn)) by rw [hHB.out, decide_eq_true g1, decide_eq_true g2, g3]; rfl)
        clear g3 hHB
        go_wp2
        go_loopw [3, 24] (fun l i wr => ∃ k : Nat, k ≤ ts.length ∧ i = .int .i64 k ∧ l = .int .i64 (lastT (ts.take k)) ∧ Below W.heap.size W wr ∧ Hid ((List.range k).all (tstep xs ts) = true))
          (fun _ i _ => ts.length - (intOf i).toNat)
        case atStart => exact ⟨0, Nat.zero_le _, rfl, rfl, Below.refl _ _, rfl⟩
        case round =>
          obtain ⟨k, hk, rfl, rfl, hB, hst⟩ := hrel
          have t0' : wr.cell? ⟨w.heap.size, 0, none⟩ = some (.slice A xs.length c) := (hB.cell (p := ⟨w.heap.size, 0, none⟩) z2).trans t0
          have t1' : wr.cell? ⟨w.heap.size, 1, none⟩ = some (.int .i64 next) := (hB.cell (p := ⟨w.heap.size, 1, none⟩) z2).trans t1
          have t2' : wr.cell? ⟨w.heap.size, 2, none⟩ = some (.slice B ts.length d) := (hB.cell (p := ⟨w.heap.size, 2, none⟩) z2).trans t2
          have t3' : wr.cell? ⟨w.heap.size, 3, none⟩ = some (.int .i64 hn) := (hB.cell (p := ⟨w.heap.size, 3, none⟩) z2).trans t3
          have zr : W.heap.size ≤ wr.heap.size := hB.size
          have z3 : w.heap.size < wr.heap.size := by omega
          by_cases hlt : k < ts.length
          · have hki : (k : Int) < (ts.length : Int) := by omega
            have hBr := hB2.trans (hB.mono (by omega))
            obtain ⟨b, o, e, hbs, hc⟩ := (h2.below hB (Nat.le_refl _)).row (i := k) (c := ts[k].cells) (map_at _ hlt)
            have hx : ts[k]? = some ts[k] := List.getElem?_eq_getElem hlt
            have hS := Lib.hid (show tstep xs ts k = (decide (lastT (ts.take k) < ts[k].a) && fineT xs ts ts[k]) by simp only [tstep, hx])
            have hL := Lib.hid (lastT_snoc ts k hlt)
            have hA3 := (hA2.below hB (Nat.le_refl _)).alloc (.cells ts[k].cells.toArray 84)
            have h3 := (h2.below hB (Nat.le_refl _)).alloc (.cells ts[k].cells.toArray 84)
            have b3 := Box.mk wr ts[k].cells 84
            have hW3 : Below wr.heap.size wr (wr.alloc (.cells ts[k].cells.toArray 84)) := (Below.refl _ _).alloc (Nat.le_refl _) _
            have hf := fun W => HF.out W ts[k]
            clear hx HF t0 t1 t2 t3
            generalize ts[k] = t at *
            obtain ⟨ta, tb, tc, td⟩ := t
            simp only [Q4.cells, CellsFrom, Nat.add_zero, Nat.zero_add, Nat.reduceAdd] at *
            obtain ⟨c0, c1, c2, c3, -⟩ := hc
            subst e
            generalize lastT (ts.take k) = l at *
            cases g4 : decide (l < ta) with
            | false =>
              have HR2 := Lib.hid (show hierB xs next ts hn = false by rw [HR.out, range_at hlt (by rw [hS.out, g4]; rfl)]; rfl)
              have g5 : ta ≤ l := by have := of_decide_eq_false g4; omega
              clear g4 hf
              go_wp2
              go_ret
              exact ⟨ret_bool HR2.out.symm, hBr.alloc (by omega) _⟩
            | true =>
              have g5 : ¬ ta ≤ l := by have := of_decide_eq_true g4; omega
              cases g6 : fineT xs ts ⟨ta, tb, tc, td⟩ with
              | false =>
                have HR2 := Lib.hid (show hierB xs next ts hn = false by rw [HR.out, range_at hlt (by rw [hS.out, g4, g6]; rfl)]; rfl)
                rw [g6] at hf
                have HF := Lib.hid hf
                clear g4 hf g6
                go_wp2_with (go_at_call 102; refine (HF.out _ hA3 h3).mono ?_; rintro e W4 ⟨rfl, hb4⟩)
                go_ret
                exact ⟨ret_bool HR2.out.symm, (hBr.trans (hW3.mono (by omega))).trans (hb4.mono (by simp; omega))⟩
              | true =>
                have HS := Lib.hid (range_snoc hst.out (by rw [hS.out, g4, g6]; rfl))
                rw [g6] at hf
                have HF := Lib.hid hf
                clear g4 hf g6
                go_wp2_with (go_at_call 102; refine (HF.out _ hA3 h3).mono ?_; rintro e W4 ⟨rfl, hb4⟩; have hb5 := hW3.trans (hb4.mono (by simp)); obtain ⟨d0, d1, d2, d3, -⟩ := (b3.below hb4 (Nat.le_refl _)).cells; simp only [Nat.add_zero, Nat.zero_add, Nat.reduceAdd] at d0 d1 d2 d3)
                go_roundw
                case rel => exact ⟨k + 1, by omega, by go_num, by rw [hL.out], hB.trans (hb5.mono (by omega)), HS.out⟩
                case measure => simp [intOf]; omega
          · obtain rfl : k = ts.length := by omega
            have hki : ¬ (ts.length : Int) < (ts.length : Int) := by omega
            have HR2 := Lib.hid (show hierB xs next ts hn = decide (lastT ts < hn) by rw [HR.out, hst.out]; rfl)
            rw [List.take_length]
            generalize lastT ts = l at *
            go_wp2
            go_ret
            exact ⟨ret_bool HR2.out.symm, hB2.trans (hB.mono (by omega))⟩
    · have e2 : (2147483648 : Int) < hn := by omega
      have HF := Lib.hid (show hierB xs next ts hn = false by rw [hHB.out, decide_eq_false g2]; simp)
      clear hHB
      go_enter Try.func81, Try.ntmps81
      go_wp2
      go_ret
      exact ⟨ret_bool HF.out.symm, hB1⟩
  · have e1 : (128 : Int) < (ts.length : Int) := by omega
    have HF := Lib.hid (show hierB xs next ts hn = false by rw [hHB.out, decide_eq_false g1]; rfl)
    clear hHB
    go_enter Try.func81, Try.ntmps81
    go_wp2
    go_ret
    exact ⟨ret_bool HF.out.symm, hB1⟩

end Go.Proofs.Ytdkcdplpefpgjaa
