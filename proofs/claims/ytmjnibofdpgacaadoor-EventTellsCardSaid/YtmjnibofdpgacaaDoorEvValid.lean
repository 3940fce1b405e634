/-
  event.Valid: 'evB'.
-/
import Derived.Test.YtmjnibofdpgacaaDoorEvIdx
import Derived.Test.YtmjnibofdpgacaaDoorCheck
import Derived.BigQuiet
set_option linter.unusedSimpArgs false
set_option linter.unusedVariables false
namespace Gc
open Go Go.RowKit
theorem Tal.fine_eq (x : Tal) : x.fineB = (List.range 6).all (fun j => cntB (x.at j)) := by
  simp [Tal.fineB, List.range, List.range.loop, Tal.at]
end Gc
namespace Go.Proofs.YtmjnibofdpgacaaDoor
open Go.RowKit Gc

set_option maxRecDepth 100000 in
set_option maxHeartbeats 4000000 in
theorem evValid_c (A : Option Addr) (c : Nat) (xs : List Grp) (next : Int) (D : Option Addr) (e : Nat) (ls : List Tal) (w : World) (hA : Rd w 6 A (xs.map Grp.cells)) (hok : ∀ x ∈ xs, x.ok) (hlA : xs.length ≤ 140737488351232) (hcap : xs.length ≤ c)
    (hD : Rd w 7 D (ls.map Tal.cells)) (hlD : ls.length ≤ 140737488351232) :
    Calls Tryd.prog 30 #[.agg #[.slice A xs.length c, .int .i64 next], .slice D ls.length e] w fun e w' => e = .returned (.bool (evB xs next ls)) ∧ Below w.heap.size w w' := by
  have hB1 : Below w.heap.size w (w.alloc (.cells #[.slice A xs.length c, .int .i64 next] 24)) := (Below.refl _ _).alloc (Nat.le_refl _) _
  have hR := Lib.hid (show evB xs next ls = (checkB xs next && (decide (ls.length = xs.length) && (List.range ls.length).all (evStep xs ls))) from rfl)
  have hC := Lib.hid (fun W hA => check_c A c xs next W hA hok hlA hcap)
  have b1 := Box.mk w [.slice A xs.length c, .int .i64 next] 24
  have hA1 := hA.below hB1 (Nat.le_refl _)
  have hD1 := hD.below hB1 (Nat.le_refl _)
  have z1 := b1.lt
  go_enter Tryd.func30, Tryd.ntmps30
  go_wp2_with fail
  generalize hWx : w.alloc _ = W1 at *
  clear hWx hA hD
  refine (hC.out W1 hA1).mono ?_
  rintro e0 W ⟨rfl, hb⟩
  have b2 := b1.below hb (Nat.le_refl _)
  have hA2 := hA1.below hb (Nat.le_refl _)
  have hD2 := hD1.below hb (Nat.le_refl _)
  have hB2 := hB1.trans (hb.mono hB1.size)
  have z2 := b2.lt
  obtain ⟨t0, t1, -⟩ := b2.cells
  simp only [Nat.zero_add, Nat.add_zero, Nat.reduceAdd] at t0 t1
  clear hB1 b1 hA1 hD1 z1 hb hC
  cases g1 : checkB xs next with
  | false =>
    have HR := Lib.hid (show evB xs next ls = false by rw [hR.out, g1]; rfl)
    clear g1 hR
    go_wp2
    go_ret
    exact ⟨ret_bool HR.out.symm, hB2⟩
  | true =>
    have hR := Lib.hid (show evB xs next ls = (decide (ls.length = xs.length) && (List.range ls.length).all (evStep xs ls)) by rw [hR.out, g1]; rfl)
    clear g1
    by_cases g2 : ls.length = xs.length
    · have HR := Lib.hid (show evB xs next ls = (List.range ls.length).all (evStep xs ls) by rw [hR.out, decide_eq_true g2]; rfl)
      have g3 : ((ls.length : Int) != (xs.length : Int)) = false := by simp [g2]
      clear hR
      go_wp2
      go_loopw [22] (fun i wr => ∃ k : Nat, k ≤ ls.length ∧ i = .int .i64 k ∧ Below W.heap.size W wr ∧ Hid ((List.range k).all (evStep xs ls) = true))
        (fun i _ => ls.length - (intOf i).toNat)
      case atStart => exact ⟨0, Nat.zero_le _, rfl, Below.refl _ _, rfl⟩
      case round =>
        obtain ⟨k, hk, rfl, hB, hst⟩ := hrel
        have b3 := b2.below hB (Nat.le_refl _)
        have z3 := hB.size
        by_cases hlt : k < ls.length
        · have hki : (k : Int) < (ls.length : Int) := by omega
          have hki2 : (k : Int) < (xs.length : Int) := by omega
          have hlt2 : k < xs.length := by omega
          have hBr := hB2.trans (hB.mono (by omega))
          have hS := Lib.hid (show evStep xs ls k = (ls[k].g == xs[k].id && ls[k].fineB) by simp only [evStep, List.getElem?_eq_getElem hlt, List.getElem?_eq_getElem hlt2])
          obtain ⟨b, o, rfl, hbs, hc⟩ := (hA2.below hB (Nat.le_refl _)).row (i := k) (c := xs[k].cells) (map_at _ hlt2)
          obtain ⟨b', o', rfl, hbs', hc'⟩ := (hD2.below hB (Nat.le_refl _)).row (i := k) (c := ls[k].cells) (map_at _ hlt)
          simp only [Grp.cells, Tal.cells, CellsFrom, Nat.add_zero, Nat.zero_add, Nat.reduceAdd] at hc hc'
          obtain ⟨c0, -⟩ := hc
          obtain ⟨d0, d1, d2, d3, d4, d5, d6, -⟩ := hc'
          obtain ⟨s0, s1, -⟩ := b3.cells
          simp only [Nat.zero_add, Nat.add_zero, Nat.reduceAdd] at s0 s1
          generalize xs[k].id = xid at *
          generalize hy : ls[k] = y at *
          have HY := Lib.hid hy
          clear hy
          obtain ⟨yg, y0, y1, y2, y3, y4, y5⟩ := y
          simp only at *
          have hW2 : Below wr.heap.size wr (wr.alloc (.cells (Tal.cells ⟨yg, y0, y1, y2, y3, y4, y5⟩).toArray 47)) := (Below.refl _ _).alloc (Nat.le_refl _) _
          have b5 := Box.mk wr (Tal.cells ⟨yg, y0, y1, y2, y3, y4, y5⟩) 47
          have v0 := (hW2.cell (p := ⟨w.heap.size, 0, none⟩) b3.lt).trans s0
          have v1 := (hW2.cell (p := ⟨b, o + k * 6, none⟩) hbs).trans c0
          have hB4 : Below W.heap.size W (wr.alloc (.cells (Tal.cells ⟨yg, y0, y1, y2, y3, y4, y5⟩).toArray 47)) := hB.trans (hW2.mono z3)
          have hBr4 := hBr.trans (hW2.mono (by omega))
          have hwx : wr.alloc (.cells (Tal.cells ⟨yg, y0, y1, y2, y3, y4, y5⟩).toArray 47) = wr.alloc (.cells #[.int .i64 yg, .int .i64 y0, .int .i64 y1, .int .i64 y2, .int .i64 y3, .int .i64 y4, .int .i64 y5] 47) := rfl
          rw [hwx] at b5 v0 v1 hB4 hBr4
          obtain ⟨x0, x1, x2, x3, x4, x5, x6, -⟩ := b5.cells
          simp only [Nat.zero_add, Nat.add_zero, Nat.reduceAdd] at x0 x1 x2 x3 x4 x5 x6
          clear hwx hW2 b5 b2 b3 hA2 hD2 t0 t1 s0 s1 c0 hB hBr
          go_wp2
          generalize hWx : wr.alloc _ = W4 at *
          clear hWx d0 d1 d2 d3 d4 d5 d6
          cases q1 : (yg == xid) with
          | false =>
            have q2 : (yg != xid) = true := by simp [bne, q1]
            have HE := Lib.hid (show (List.range ls.length).all (evStep xs ls) = false from range_at hlt (by rw [hS.out, q1]; rfl))
            clear q1
            go_quiet (fail)
            go_wp2
            go_ret
            exact ⟨ret_bool (HR.out.trans HE.out).symm, drewN_below hBr4 _⟩
          | true =>
            have q2 : (yg != xid) = false := by simp [bne, q1]
            have hS := Lib.hid (show evStep xs ls k = (List.range 6).all (fun j => cntB ((Tal.mk yg y0 y1 y2 y3 y4 y5).at j)) by rw [hS.out, q1, ← Tal.fine_eq]; rfl)
            clear q1
            have hB5 := fun n => drewN_below hB4 n
            have hBr5 := fun n => drewN_below hBr4 n
            go_quiet (fail)
            go_wp2
            replace hB5 := hB5 nq
            replace hBr5 := hBr5 nq
            generalize W4.drewN nq = W5 at *
            go_loopw [38] (fun i2 wr2 => ∃ m : Nat, m ≤ 6 ∧ i2 = .int .i64 m ∧ wr2 = W5 ∧ Hid ((List.range m).all (fun j => cntB ((Tal.mk yg y0 y1 y2 y3 y4 y5).at j)) = true))
              (fun i2 _ => 6 - (intOf i2).toNat)
            case atStart => exact ⟨0, by omega, rfl, rfl, rfl⟩
            case round =>
              obtain ⟨m, hm, rfl, rfl, hcn⟩ := hrel
              by_cases hm6 : m < 6
              · have hix := fun W => index6 (Tal.mk yg y0 y1 y2 y3 y4 y5) m hm6 W
                have HM := Lib.hid (show ∀ b, cntB ((Tal.mk yg y0 y1 y2 y3 y4 y5).at m) = b → b = true → (List.range (m + 1)).all (fun j => cntB ((Tal.mk yg y0 y1 y2 y3 y4 y5).at j)) = true from fun b h1 h2 => range_snoc hcn.out (h1.trans h2))
                have HF := Lib.hid (show cntB ((Tal.mk yg y0 y1 y2 y3 y4 y5).at m) = false → (List.range ls.length).all (evStep xs ls) = false from fun h => range_at hlt (by rw [hS.out]; exact range_at hm6 h))
                simp only at hix
                generalize (Tal.mk yg y0 y1 y2 y3 y4 y5).at m = ym at *
                have hmi : (m : Int) < 6 := by omega
                clear hcn hS hst
                go_wp2_with fail
                refine (count_c _ _).mono ?_
                rintro e0 Wn ⟨rfl, rfl⟩
                cases q3 : cntB ym with
                | false =>
                  have HE := Lib.hid (HF.out q3)
                  clear q3 HF HM
                  go_wp2
                  go_ret
                  exact ⟨ret_bool (HR.out.trans HE.out).symm, hBr5⟩
                | true =>
                  have hcn' := Lib.hid (HM.out _ q3 rfl)
                  clear q3 HF HM
                  go_wp2
                  go_roundw
                  case rel => exact ⟨m + 1, by omega, by go_num, by first | trivial | rfl, hcn'⟩
                  case measure => simp [intOf]; omega
              · obtain rfl : m = 6 := by omega
                have hst' := Lib.hid (show (List.range (k + 1)).all (evStep xs ls) = true from range_snoc hst.out (by rw [hS.out]; exact hcn.out))
                clear hst hcn hS
                go_wp2
                go_roundw
                case rel => exact ⟨k + 1, by omega, by go_num, hB5, hst'⟩
                case measure => simp [intOf]; omega
        · obtain rfl : k = ls.length := by omega
          have hki : ¬ (ls.length : Int) < (ls.length : Int) := by omega
          have hBr := hB2.trans (hB.mono (by omega))
          have HE := Lib.hid (show evB xs next ls = true from HR.out.trans hst.out)
          clear hst HR
          go_wp2
          go_ret
          exact ⟨ret_bool HE.out.symm, hBr⟩
    · have HR := Lib.hid (show evB xs next ls = false by rw [hR.out, decide_eq_false g2]; rfl)
      have g3 : ((ls.length : Int) != (xs.length : Int)) = true := by simp; omega
      clear hR
      go_wp2
      go_ret
      exact ⟨ret_bool HR.out.symm, hB2⟩

end Go.Proofs.YtmjnibofdpgacaaDoor
