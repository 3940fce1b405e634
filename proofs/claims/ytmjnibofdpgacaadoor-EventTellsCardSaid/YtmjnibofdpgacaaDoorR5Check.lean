/-
  r5.Check: 'checkR'.
-/
import Derived.Test.YtmjnibofdpgacaaDoorR5Node
import Derived.Test.YtmjnibofdpgacaaDoorR5Up
import Derived.Deep.RegionHeld3
set_option linter.unusedSimpArgs false
set_option linter.unusedVariables false
namespace Go.Proofs.YtmjnibofdpgacaaDoor
open Go.RowKit Gc

set_option maxRecDepth 100000 in
set_option maxHeartbeats 4000000 in
theorem rcheck_c (A : Option Addr) (c : Nat) (xs : List Grp) (next : Int) (w : World) (hA : Rd w 6 A (xs.map Grp.cells)) (hok : ∀ x ∈ xs, x.ok) (hlA : xs.length ≤ 1048576) :
    Calls Tryd.prog 58 #[.agg #[.slice A xs.length c, .int .i64 next]] w fun e w' => e = .returned (.bool (checkR xs next)) ∧ Below w.heap.size w w' := by
  have hB1 : Below w.heap.size w (w.alloc (.cells #[.slice A xs.length c, .int .i64 next] 24)) := (Below.refl _ _).alloc (Nat.le_refl _) _
  have hA1 := hA.below hB1 (Nat.le_refl _)
  have b1 := Box.mk w [.slice A xs.length c, .int .i64 next] 24
  have z1 := hB1.size
  have zb1 := b1.lt
  have hR := Lib.hid (show checkR xs next = (decide (1 ≤ xs.length) && (decide (xs.length ≤ 64) && ((List.range xs.length).all (nodeR xs) && ((List.range xs.length).all (shortR xs) && (decide (lastId xs < next) && decide (next ≤ 2147483648)))))) from rfl)
  have HN := Lib.hid (fun i W hA hi => node_c A c xs next i W hA hok hlA hi)
  have HU := Lib.hid (fun id W hA => up_c A c xs next id W hA hlA)
  by_cases g1 : xs.length < 1
  · have HR := Lib.hid (show checkR xs next = false by rw [hR.out, decide_eq_false (by omega)]; rfl)
    have g2 : (xs.length : Int) < 1 := by omega
    clear hR
    go_enter Tryd.func58, Tryd.ntmps58
    go_wp2
    go_ret
    exact ⟨ret_bool HR.out.symm, hB1⟩
  by_cases g2 : 64 < xs.length
  · have HR := Lib.hid (show checkR xs next = false by rw [hR.out, decide_eq_false (show ¬ xs.length ≤ 64 by omega)]; simp)
    have g3 : ¬ (xs.length : Int) < 1 := by omega
    have g4 : (64 : Int) < (xs.length : Int) := by omega
    clear hR
    go_enter Tryd.func58, Tryd.ntmps58
    go_wp2
    go_ret
    exact ⟨ret_bool HR.out.symm, hB1⟩
  have hR := Lib.hid (show checkR xs next = ((List.range xs.length).all (nodeR xs) && ((List.range xs.length).all (shortR xs) && (decide (lastId xs < next) && decide (next ≤ 2147483648)))) by rw [hR.out, decide_eq_true (by omega), decide_eq_true (by omega)]; rfl)
  have g3 : ¬ (xs.length : Int) < 1 := by omega
  have g4 : ¬ (64 : Int) < (xs.length : Int) := by omega
  go_enter Tryd.func58, Tryd.ntmps58
  go_wp2
  generalize hWx : w.alloc _ = W1 at *
  clear hWx hA
  go_loopw [4] (fun i wr => ∃ k : Nat, k ≤ xs.length ∧ i = .int .i64 k ∧ Below W1.heap.size W1 wr ∧ Hid ((List.range k).all (nodeR xs) = true)) (fun i _ => xs.length - (intOf i).toNat)
  case atStart => exact ⟨0, Nat.zero_le _, rfl, Below.refl _ _, rfl⟩
  case round =>
    obtain ⟨k, hk, rfl, hB, hst⟩ := hrel
    have hBr := hB1.trans (hB.mono z1)
    have b3 := b1.below hB (Nat.le_refl _)
    obtain ⟨t0, t1, -⟩ := b3.cells
    simp only [Nat.zero_add, Nat.add_zero, Nat.reduceAdd] at t0 t1
    have hA3 := hA1.below hB (Nat.le_refl _)
    by_cases hlt : k < xs.length
    · have hki : (k : Int) < (xs.length : Int) := by omega
      go_wp2_with fail
      refine (HN.out k wr hA3 hlt).mono ?_
      rintro e0 W2 ⟨rfl, hb⟩
      have hBr2 := hBr.trans (hb.mono hBr.size)
      have hB2 := hB.trans (hb.mono hB.size)
      cases g5 : nodeR xs k with
      | false =>
        have HR := Lib.hid (show checkR xs next = false by rw [hR.out, range_at hlt g5]; rfl)
        clear g5
        go_wp2
        go_ret
        exact ⟨ret_bool HR.out.symm, hBr2⟩
      | true =>
        have hst' := Lib.hid (show (List.range (k + 1)).all (nodeR xs) = true from range_snoc hst.out g5)
        clear g5
        go_wp2
        go_roundw
        case rel => exact ⟨k + 1, by omega, by go_num, hB2, hst'⟩
        case measure => simp [intOf] <;> omega
    · obtain rfl : k = xs.length := by omega
      have hki : ¬ (xs.length : Int) < (xs.length : Int) := by omega
      have hR := Lib.hid (show checkR xs next = ((List.range xs.length).all (shortR xs) && (decide (lastId xs < next) && decide (next ≤ 2147483648))) by rw [hR.out, hst.out]; rfl)
      clear hst
      go_wp2
      generalize wr = W3 at *
      go_loopw [5] (fun i wr => ∃ k : Nat, k ≤ xs.length ∧ i = .int .i64 k ∧ Below W3.heap.size W3 wr ∧ Hid ((List.range k).all (shortR xs) = true)) (fun i _ => xs.length - (intOf i).toNat)
      case atStart => exact ⟨0, Nat.zero_le _, rfl, Below.refl _ _, rfl⟩
      case round =>
        obtain ⟨k, hk, rfl, hB4, hst⟩ := hrel
        have hBr4 := hBr.trans (hB4.mono hBr.size)
        have b4 := b3.below hB4 (Nat.le_refl _)
        have hA4 := hA3.below hB4 (Nat.le_refl _)
        have zb4 := b4.lt
        by_cases hlt : k < xs.length
        · have hki : (k : Int) < (xs.length : Int) := by omega
          have hS := Lib.hid (show shortR xs k = decide ((upL xs xs[k].id).length ≤ 9) by unfold shortR; rw [List.getElem?_eq_getElem hlt])
          obtain ⟨b, o, rfl, hbs, hc⟩ := hA4.row (i := k) (c := xs[k].cells) (map_at _ hlt)
          simp only [Grp.cells, CellsFrom, Nat.add_zero, Nat.zero_add, Nat.reduceAdd] at hc
          obtain ⟨c0, -⟩ := hc
          generalize xs[k].id = xid at *
          clear t0 t1
          obtain ⟨t0, t1, -⟩ := b4.cells
          simp only [Nat.zero_add, Nat.add_zero, Nat.reduceAdd] at t0 t1
          have hself : Below wr.heap.size wr wr := Below.refl _ _
          have HU2 := Lib.hid (fun W (hW : Below wr.heap.size wr W) => HU.out xid W (hA4.below hW (Nat.le_refl _)))
          generalize hul : upL xs xid = ul at *
          clear hul
          go_wp2_with fail
          go_region_held3 (fun W => W.cell? ⟨w.heap.size, 0, none⟩ = some (.slice (some ⟨b, o, none⟩) xs.length c) ∧ W.cell? ⟨w.heap.size, 1, none⟩ = some (.int .i64 next) ∧ W.cell? ⟨b, o + k * 6, none⟩ = some (.int .i64 xid) ∧ Below wr.heap.size wr W)
            (first
              | exact hself.drew
              | exact hx3
              | exact ⟨t0, t1, c0, hself.drew⟩
              | exact ⟨(hx3.cell (p := ⟨w.heap.size, 0, none⟩) zb4).trans t0, (hx3.cell (p := ⟨w.heap.size, 1, none⟩) zb4).trans t1, (hx3.cell (p := ⟨b, o + k * 6, none⟩) hbs).trans c0, hx3⟩
              | go_keep)
            ((go_at_call 57; go_split_ands; refine (HU2.out _ (by assumption)).mono ?_; rintro e w3 ⟨v3, rfl, hown3, hb3⟩; have hx3 := below_step (w0 := wr) (by assumption) hb3; obtain ⟨A3, c3, rfl, -, -, -, -, -⟩ := hown3.rd; clear hown3 hb3))
          have hBr5 := hBr4.trans (hx3.mono hBr4.size)
          have hB5 := hB4.trans (hx3.mono hB4.size)
          clear HU2 hself hx3 t0 t1 c0
          by_cases g6 : 9 < ul.length
          · have g7 : (9 : Int) < (ul.length : Int) := by omega
            have HR := Lib.hid (show checkR xs next = false by rw [hR.out, range_at hlt (by rw [hS.out]; exact decide_eq_false (by omega))]; rfl)
            go_wp2
            go_ret
            exact ⟨ret_bool HR.out.symm, hBr5⟩
          · have g7 : ¬ (9 : Int) < (ul.length : Int) := by omega
            have hst' := Lib.hid (show (List.range (k + 1)).all (shortR xs) = true from range_snoc hst.out (by rw [hS.out]; exact decide_eq_true (by omega)))
            go_wp2
            go_roundw
            case rel => exact ⟨k + 1, by omega, by go_num, hB5, hst'⟩
            case measure => simp [intOf] <;> omega
        · obtain rfl : k = xs.length := by omega
          have hki : ¬ (xs.length : Int) < (xs.length : Int) := by omega
          have hR := Lib.hid (show checkR xs next = (decide (lastId xs < next) && decide (next ≤ 2147483648)) by rw [hR.out, hst.out]; rfl)
          have hi1 : xs.length - 1 < xs.length := by omega
          have hpi : (((xs.length - 1 : Nat)) : Int) < (xs.length : Int) := by omega
          have hwi : IntKind.i64.wrap ((xs.length : Int) - 1) = ((xs.length - 1 : Nat) : Int) := wrap_pred _ (by omega) (by omega)
          have HL := lastId_take xs (xs.length - 1) hi1
          rw [show xs.length - 1 + 1 = xs.length by omega, List.take_length] at HL
          rw [HL] at hR
          obtain ⟨b, o, rfl, hbs, hc⟩ := hA4.row (i := xs.length - 1) (c := xs[xs.length - 1].cells) (map_at _ hi1)
          simp only [Grp.cells, CellsFrom, Nat.add_zero, Nat.zero_add, Nat.reduceAdd] at hc
          obtain ⟨c0, -⟩ := hc
          generalize xs[xs.length - 1].id = zid at *
          clear HL hst t0 t1
          obtain ⟨t0, t1, -⟩ := b4.cells
          simp only [Nat.zero_add, Nat.add_zero, Nat.reduceAdd] at t0 t1
          cases g6 : decide (zid < next) with
          | false =>
            have HR := Lib.hid (show checkR xs next = false by rw [hR.out, g6]; rfl)
            clear hR
            go_wp2_with (go_quiet (fail))
            go_ret
            exact ⟨ret_bool HR.out.symm, drewN_below hBr4 _⟩
          | true =>
            have HR := Lib.hid (show checkR xs next = decide (next ≤ 2147483648) by rw [hR.out, g6]; rfl)
            clear hR
            go_wp2_with (go_quiet (fail))
            go_ret
            exact ⟨ret_bool HR.out.symm, drewN_below hBr4 _⟩

end Go.Proofs.YtmjnibofdpgacaaDoor
