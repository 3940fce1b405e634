/-
  made.Same of flat structs of ints. (printed by wip/gen/same.py)
-/
import Derived.Test.YtmjnibofdpgacaaDoorProg
import Derived.Test.YtmjnibofdpgacaaDoorTally
import Derived.Test.YtmjnibofdpgacaaDoorForestAt
import Derived.Test.YtmjnibofdpgacaaDoorBase
import Derived.BigQuiet
import Derived.Laws.StructEq
set_option linter.unusedSimpArgs false
set_option linter.unusedVariables false
namespace Go.Proofs.YtmjnibofdpgacaaDoor
open Go.RowKit Gc

theorem eqlWat (w : World) (x y : Wat) : (Op.equalIn 10000 62 (.agg #[.int .i64 x.g, .int .i64 x.k, .int .i64 x.s]) (.agg #[.int .i64 y.g, .int .i64 y.k, .int .i64 y.s])).run Tryd.prog w = .ok (decide (x = y)) w := by
  have u3 := Tryd.underlying3
  have hS : (Tryd.prog).underlying 62 = some (.struct ((Tryd.prog).fieldsOf 62)) := by kernel_rfl
  have hp : (Tryd.prog).stoodInHeld 62 = false := by kernel_rfl
  rw [show (10000 : Nat) = 9999 + 1 from rfl, run_equalIn_agg w 9999 _ _ _ hS hp]
  simp only [Program.fieldsOf, Tryd.underlying62]
  go_simp
  obtain ⟨xg, xk, xs⟩ := x
  obtain ⟨yg, yk, ys⟩ := y
  simp only [Wat.mk.injEq]
  by_cases h0 : xg = yg <;> by_cases h1 : xk = yk <;> by_cases h2 : xs = ys <;> simp [h0, h1, h2]

theorem neqWat (w : World) (x y : Wat) : (binOp .neq 62 (.agg #[.int .i64 x.g, .int .i64 x.k, .int .i64 x.s]) (.agg #[.int .i64 y.g, .int .i64 y.k, .int .i64 y.s])).run Tryd.prog w = .ok (.bool (!decide (x = y))) w := by
  rw [run_neq_struct, eqlWat]
  rfl

set_option maxRecDepth 100000 in
set_option maxHeartbeats 1000000 in
theorem sameWat_c (A : Option Addr) (c : Nat) (xs : List Wat) (B : Option Addr) (d : Nat) (ys : List Wat) (w : World) (hA : Rd w 3 A (xs.map Wat.cells)) (hB : Rd w 3 B (ys.map Wat.cells)) (hl : xs.length ≤ 140737488351232) (hl2 : ys.length ≤ 140737488351232) :
    Calls Tryd.prog 29 #[.slice A xs.length c, .slice B ys.length d] w fun e w' => e = .returned (.bool (decide (xs = ys))) ∧ Below w.heap.size w w' := by
  have hm : (Tryd.prog).eqGuardType (Tryd.prog).depth 62 = false := by kernel_rfl
  have hmm := fun op x y xs ys w => run_eqGuard_agg (P := Tryd.prog) (w := w) op 62 x y xs ys hm
  have HNE := Lib.hid neqWat
  by_cases hlen : xs.length = ys.length
  · have e0 : ((xs.length : Int) != (ys.length : Int)) = false := by simp [hlen]
    go_enter Tryd.func29, Tryd.ntmps29
    go_wp2
    go_loopw [5] (fun i wr => ∃ k : Nat, k ≤ xs.length ∧ i = .int .i64 k ∧ Hid (xs.take k = ys.take k) ∧ Below w.heap.size w wr) (fun i _ => xs.length - (intOf i).toNat)
    case atStart => exact ⟨0, Nat.zero_le _, rfl, rfl, Below.refl _ _⟩
    case round =>
      obtain ⟨k, hk, rfl, heq, hBl⟩ := hrel
      by_cases hlt : k < xs.length
      · have hlt2 : k < ys.length := by omega
        have hki : (k : Int) < (xs.length : Int) := by omega
        have hki2 : (k : Int) < (ys.length : Int) := by omega
        obtain ⟨b, o, e1, hbs, hc⟩ := (hA.below hBl (Nat.le_refl _)).row (i := k) (c := xs[k].cells) (map_at _ hlt)
        obtain ⟨b2, o2, e2, hbs2, hc2⟩ := (hB.below hBl (Nat.le_refl _)).row (i := k) (c := ys[k].cells) (map_at _ hlt2)
        subst e1
        subst e2
        have hne := fun W => HNE.out W xs[k] ys[k]
        have h1 := Lib.hid (take_snoc xs k hlt)
        have h2 := Lib.hid (take_snoc ys k hlt2)
        have h3 : xs[k]? = some xs[k] := List.getElem?_eq_getElem hlt
        have h4 : ys[k]? = some ys[k] := List.getElem?_eq_getElem hlt2
        have H3 := Lib.hid h3
        have H4 := Lib.hid h4
        clear h3 h4
        generalize xs[k] = x at *
        generalize ys[k] = y at *
        simp only [Wat.cells, CellsFrom, Nat.add_zero, Nat.zero_add, Nat.reduceAdd] at hc hc2
        obtain ⟨c0, c1, c2, -⟩ := hc
        obtain ⟨d0, d1, d2, -⟩ := hc2
        cases hxy : decide (x = y) with
        | true =>
          have HX := Lib.hid (of_decide_eq_true hxy)
          rw [hxy] at hne
          clear hxy
          go_wp2_with (go_quiet (fail))
          go_roundw
          case rel => exact ⟨k + 1, by omega, by go_num, (show _ = _ by rw [h1.out, h2.out, heq.out, HX.out]), drewN_below hBl _⟩
          case measure => simp [intOf]; omega
        | false =>
          have HX := Lib.hid (of_decide_eq_false hxy)
          have HR := Lib.hid (show decide (xs = ys) = false from decide_eq_false (fun e => HX.out (by have := H3.out; rw [e, H4.out] at this; injection this with this; exact this.symm)))
          rw [hxy] at hne
          clear hxy
          go_wp2_with (go_quiet (fail))
          go_ret
          exact ⟨ret_bool HR.out.symm, drewN_below hBl _⟩
      · obtain rfl : k = xs.length := by omega
        have hki : ¬ (xs.length : Int) < (xs.length : Int) := by omega
        have HR := Lib.hid (show decide (xs = ys) = true from decide_eq_true (by have := heq.out; rw [List.take_length, hlen, List.take_length] at this; exact this))
        go_wp2
        go_ret
        exact ⟨ret_bool HR.out.symm, hBl⟩
  · have e0 : ((xs.length : Int) != (ys.length : Int)) = true := by simp; omega
    have HR := Lib.hid (show decide (xs = ys) = false from decide_eq_false (fun e => hlen (by rw [e])))
    go_enter Tryd.func29, Tryd.ntmps29
    go_wp2
    go_ret
    exact ⟨ret_bool HR.out.symm, Below.refl _ _⟩

end Go.Proofs.YtmjnibofdpgacaaDoor
