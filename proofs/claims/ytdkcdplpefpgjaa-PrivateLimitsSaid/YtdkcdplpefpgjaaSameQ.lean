/-
  made.Same of residents and of holdings.  (printed by wip/gen/sameq.py)
-/
import Derived.Test.YtdkcdplpefpgjaaProg
import Derived.Test.YtdkcdplpefpgjaaQuad
import Derived.Test.YtdkcdplpefpgjaaBox
import Derived.Laws.StructEq
set_option linter.unusedSimpArgs false
set_option linter.unusedVariables false
namespace Go.Proofs.Ytdkcdplpefpgjaa
open Go.RowKit Gc

theorem eqlRes (w : World) (x y : Q4) : (Op.equalIn 10000 89 (.agg #[.int .i64 x.a, .int .i64 x.b, .int .i64 x.c, .int .i64 x.d]) (.agg #[.int .i64 y.a, .int .i64 y.b, .int .i64 y.c, .int .i64 y.d])).run Try.prog w = .ok (decide (x = y)) w := by
  have u3 := Try.underlying3
  have hS : (Try.prog).underlying 89 = some (.struct ((Try.prog).fieldsOf 89)) := by kernel_rfl
  have hp : (Try.prog).stoodInHeld 89 = false := by kernel_rfl
  rw [show (10000 : Nat) = 9999 + 1 from rfl, run_equalIn_agg w 9999 _ _ _ hS hp]
  simp only [Program.fieldsOf, Try.underlying89]
  go_simp
  obtain ⟨xa, xb, xc, xd⟩ := x
  obtain ⟨ya, yb, yc, yd⟩ := y
  simp only [Q4.mk.injEq]
  by_cases h1 : xa = ya <;> by_cases h2 : xb = yb <;> by_cases h3 : xc = yc <;> by_cases h4 : xd = yd <;> simp [h1, h2, h3, h4]

theorem neqRes (w : World) (x y : Q4) : (binOp .neq 89 (.agg #[.int .i64 x.a, .int .i64 x.b, .int .i64 x.c, .int .i64 x.d]) (.agg #[.int .i64 y.a, .int .i64 y.b, .int .i64 y.c, .int .i64 y.d])).run Try.prog w = .ok (.bool (!decide (x = y))) w := by
  rw [run_neq_struct, eqlRes]
  rfl

set_option maxRecDepth 100000 in
set_option maxHeartbeats 1000000 in
theorem sameRes_c (A : Option Addr) (c : Nat) (xs : List Q4) (B : Option Addr) (d : Nat) (ys : List Q4) (w : World) (hA : Rd w 4 A (xs.map Q4.cells)) (hB : Rd w 4 B (ys.map Q4.cells)) (hl : xs.length ≤ 140737488351232) (hl2 : ys.length ≤ 140737488351232) :
    Calls Try.prog 55 #[.slice A xs.length c, .slice B ys.length d] w fun e w' => e = .returned (.bool (decide (xs = ys))) ∧ Below w.heap.size w w' := by
  have hm : (Try.prog).eqGuardType (Try.prog).depth 89 = false := by kernel_rfl
  have hmm := fun op x y xs ys w => run_eqGuard_agg (P := Try.prog) (w := w) op 89 x y xs ys hm
  have HNE := Lib.hid neqRes
  by_cases hlen : xs.length = ys.length
  · have e0 : ((xs.length : Int) != (ys.length : Int)) = false := by simp [hlen]
    go_enter Try.func55, Try.ntmps55
    go_wp2
    go_loopw [5] (fun i wr => ∃ k : Nat, k ≤ xs.length ∧ i = .int .i64 k ∧ Hid (xs.take k = ys.take k) ∧ Below w.heap.size w wr) (fun i _ => xs.length - (intOf i).toNat)
    case atStart => exact ⟨0, Nat.zero_le _, rfl, rfl, Below.refl _ _⟩
    case round =>
      obtain ⟨k, hk, rfl, heq, hBl⟩ := hrel
      by_cases hlt : k < xs.length
      · have hlt2 : k < ys.length := by omega
        have hki : (k : Int) < (xs.length : Int) := by omega
        have hki2 : (k : Int) < (ys.length : Int) := by omega
        obtain ⟨b, o, e1, hbs, hc⟩ := (hA.below hBl (Nat.le_refl _)).row (i := k) (c := xs[k].cells) (map_at _ hlt)
        obtain ⟨b2, o2, e2, hbs2, hc2⟩ := (hB.below hBl (Nat.le_refl _)).row (i := k) (c := ys[k].cells) (map_at _ hlt2)
        subst e1
        subst e2
        have hne := fun W => HNE.out W xs[k] ys[k]
        have h1 := Lib.hid (take_snoc xs k hlt)
        have h2 := Lib.hid (take_snoc ys k hlt2)
        have h3 : xs[k]? = some xs[k] := List.getElem?_eq_getElem hlt
        have h4 : ys[k]? = some ys[k] := List.getElem?_eq_getElem hlt2
        have H3 := Lib.hid h3
        have H4 := Lib.hid h4
        clear h3 h4
        generalize xs[k] = x at *
        generalize ys[k] = y at *
        simp only [Q4.cells, CellsFrom, Nat.add_zero, Nat.zero_add, Nat.reduceAdd] at hc hc2
        obtain ⟨c0, c1, c2, c3, -⟩ := hc
        obtain ⟨d0, d1, d2, d3, -⟩ := hc2
        cases hxy : decide (x = y) with
        | true =>
          have HX := Lib.hid (of_decide_eq_true hxy)
          rw [hxy] at hne
          clear hxy
          go_wp2_with (go_quiet (fail))
          go_roundw
          case rel => exact ⟨k + 1, by omega, by go_num, (show _ = _ by rw [h1.out, h2.out, heq.out, HX.out]), drewN_below hBl _⟩
          case measure => simp [intOf]; omega
        | false =>
          have HX := Lib.hid (of_decide_eq_false hxy)
          have HR := Lib.hid (show decide (xs = ys) = false from decide_eq_false (fun e => HX.out (by have := H3.out; rw [e, H4.out] at this; injection this with this; exact this.symm)))
          rw [hxy] at hne
          clear hxy
          go_wp2_with (go_quiet (fail))
          go_ret
          exact ⟨ret_bool HR.out.symm, drewN_below hBl _⟩
      · obtain rfl : k = xs.length := by omega
        have hki : ¬ (xs.length : Int) < (xs.length : Int) := by omega
        have HR := Lib.hid (show decide (xs = ys) = true from decide_eq_true (by have := heq.out; rw [List.take_length, hlen, List.take_length] at this; exact this))
        go_wp2
        go_ret
        exact ⟨ret_bool HR.out.symm, hBl⟩
  · have e0 : ((xs.length : Int) != (ys.length : Int)) = true := by simp; omega
    have HR := Lib.hid (show decide (xs = ys) = false from decide_eq_false (fun e => hlen (by rw [e])))
    go_enter Try.func55, Try.ntmps55
    go_wp2
    go_ret
    exact ⟨ret_bool HR.out.symm, Below.refl _ _⟩

theorem eqlHold (w : World) (x y : Q4) : (Op.equalIn 10000 100 (.agg #[.int .i64 x.a, .int .i64 x.b, .int .i64 x.c, .int .i64 x.d]) (.agg #[.int .i64 y.a, .int .i64 y.b, .int .i64 y.c, .int .i64 y.d])).run Try.prog w = .ok (decide (x = y)) w := by
  have u3 := Try.underlying3
  have hS : (Try.prog).underlying 100 = some (.struct ((Try.prog).fieldsOf 100)) := by kernel_rfl
  have hp : (Try.prog).stoodInHeld 100 = false := by kernel_rfl
  rw [show (10000 : Nat) = 9999 + 1 from rfl, run_equalIn_agg w 9999 _ _ _ hS hp]
  simp only [Program.fieldsOf, Try.underlying100]
  go_simp
  obtain ⟨xa, xb, xc, xd⟩ := x
  obtain ⟨ya, yb, yc, yd⟩ := y
  simp only [Q4.mk.injEq]
  by_cases h1 : xa = ya <;> by_cases h2 : xb = yb <;> by_cases h3 : xc = yc <;> by_cases h4 : xd = yd <;> simp [h1, h2, h3, h4]

theorem neqHold (w : World) (x y : Q4) : (binOp .neq 100 (.agg #[.int .i64 x.a, .int .i64 x.b, .int .i64 x.c, .int .i64 x.d]) (.agg #[.int .i64 y.a, .int .i64 y.b, .int .i64 y.c, .int .i64 y.d])).run Try.prog w = .ok (.bool (!decide (x = y))) w := by
  rw [run_neq_struct, eqlHold]
  rfl

set_option maxRecDepth 100000 in
set_option maxHeartbeats 1000000 in
theorem sameHold_c (A : Option Addr) (c : Nat) (xs : List Q4) (B : Option Addr) (d : Nat) (ys : List Q4) (w : World) (hA : Rd w 4 A (xs.map Q4.cells)) (hB : Rd w 4 B (ys.map Q4.cells)) (hl : xs.length ≤ 140737488351232) (hl2 : ys.length ≤ 140737488351232) :
    Calls Try.prog 56 #[.slice A xs.length c, .slice B ys.length d] w fun e w' => e = .returned (.bool (decide (xs = ys))) ∧ Below w.heap.size w w' := by
  have hm : (Try.prog).eqGuardType (Try.prog).depth 100 = false := by kernel_rfl
  have hmm := fun op x y xs ys w => run_eqGuard_agg (P := Try.prog) (w := w) op 100 x y xs ys hm
  have HNE := Lib.hid neqHold
  by_cases hlen : xs.length = ys.length
  · have e0 : ((xs.length : Int) != (ys.length : Int)) = false := by simp [hlen]
    go_enter Try.func56, Try.ntmps56
    go_wp2
    go_loopw [5] (fun i wr => ∃ k : Nat, k ≤ xs.length ∧ i = .int .i64 k ∧ Hid (xs.take k = ys.take k) ∧ Below w.heap.size w wr) (fun i _ => xs.length - (intOf i).toNat)
    case atStart => exact ⟨0, Nat.zero_le _, rfl, rfl, Below.refl _ _⟩
    case round =>
      obtain ⟨k, hk, rfl, heq, hBl⟩ := hrel
      by_cases hlt : k < xs.length
      · have hlt2 : k < ys.length := by omega
        have hki : (k : Int) < (xs.length : Int) := by omega
        have hki2 : (k : Int) < (ys.length : Int) := by omega
        obtain ⟨b, o, e1, hbs, hc⟩ := (hA.below hBl (Nat.le_refl _)).row (i := k) (c := xs[k].cells) (map_at _ hlt)
        obtain ⟨b2, o2, e2, hbs2, hc2⟩ := (hB.below hBl (Nat.le_refl _)).row (i := k) (c := ys[k].cells) (map_at _ hlt2)
        subst e1
        subst e2
        have hne := fun W => HNE.out W xs[k] ys[k]
        have h1 := Lib.hid (take_snoc xs k hlt)
        have h2 := Lib.hid (take_snoc ys k hlt2)
        have h3 : xs[k]? = some xs[k] := List.getElem?_eq_getElem hlt
        have h4 : ys[k]? = some ys[k] := List.getElem?_eq_getElem hlt2
        have H3 := Lib.hid h3
        have H4 := Lib.hid h4
        clear h3 h4
        generalize xs[k] = x at *
        generalize ys[k] = y at *
        simp only [Q4.cells, CellsFrom, Nat.add_zero, Nat.zero_add, Nat.reduceAdd] at hc hc2
        obtain ⟨c0, c1, c2, c3, -⟩ := hc
        obtain ⟨d0, d1, d2, d3, -⟩ := hc2
        cases hxy : decide (x = y) with
        | true =>
          have HX := Lib.hid (of_decide_eq_true hxy)
          rw [hxy] at hne
          clear hxy
          go_wp2_with (go_quiet (fail))
          go_roundw
          case rel => exact ⟨k + 1, by omega, by go_num, (show _ = _ by rw [h1.out, h2.out, heq.out, HX.out]), drewN_below hBl _⟩
          case measure => simp [intOf]; omega
        | false =>
          have HX := Lib.hid (of_decide_eq_false hxy)
          have HR := Lib.hid (show decide (xs = ys) = false from decide_eq_false (fun e => HX.out (by have := H3.out; rw [e, H4.out] at this; injection this with this; exact this.symm)))
          rw [hxy] at hne
          clear hxy
          go_wp2_with (go_quiet (fail))
          go_ret
          exact ⟨ret_bool HR.out.symm, drewN_below hBl _⟩
      · obtain rfl : k = xs.length := by omega
        have hki : ¬ (xs.length : Int) < (xs.length : Int) := by omega
        have HR := Lib.hid (show decide (xs = ys) = true from decide_eq_true (by have := heq.out; rw [List.take_length, hlen, List.take_length] at this; exact this))
        go_wp2
        go_ret
        exact ⟨ret_bool HR.out.symm, hBl⟩
  · have e0 : ((xs.length : Int) != (ys.length : Int)) = true := by simp; omega
    have HR := Lib.hid (show decide (xs = ys) = false from decide_eq_false (fun e => hlen (by rw [e])))
    go_enter Try.func56, Try.ntmps56
    go_wp2
    go_ret
    exact ⟨ret_bool HR.out.symm, Below.refl _ _⟩

end Go.Proofs.Ytdkcdplpefpgjaa
