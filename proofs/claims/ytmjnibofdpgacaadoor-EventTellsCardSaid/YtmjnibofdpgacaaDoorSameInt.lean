/-
  made.Same of ints.
  ref3.Has.
-/
import Derived.Test.YtmjnibofdpgacaaDoorProg
import Derived.Test.YtmjnibofdpgacaaDoorForestAt
import Derived.Test.YtmjnibofdpgacaaDoorBase
import Derived.BigQuiet
set_option linter.unusedSimpArgs false
set_option linter.unusedVariables false
namespace Go.Proofs.YtmjnibofdpgacaaDoor
open Go.RowKit Gc

set_option maxRecDepth 100000 in
set_option maxHeartbeats 1000000 in
theorem sameInt_c (A : Option Addr) (c : Nat) (xs : List Int) (B : Option Addr) (d : Nat) (ys : List Int) (w : World) (hA : Rd w 1 A (xs.map icells)) (hB : Rd w 1 B (ys.map icells)) (hl : xs.length ≤ 140737488351232) (hl2 : ys.length ≤ 140737488351232) :
    Calls Tryd.prog 41 #[.slice A xs.length c, .slice B ys.length d] w fun e w' => e = .returned (.bool (decide (xs = ys))) ∧ Below w.heap.size w w' := by
  by_cases hlen : xs.length = ys.length
  · have e0 : ((xs.length : Int) != (ys.length : Int)) = false := by simp [hlen]
    go_enter Tryd.func41, Tryd.ntmps41
    go_wp2
    go_loopw [5] (fun i wr => ∃ k : Nat, k ≤ xs.length ∧ i = .int .i64 k ∧ Hid (xs.take k = ys.take k) ∧ Below w.heap.size w wr) (fun i _ => xs.length - (intOf i).toNat)
    case atStart => exact ⟨0, Nat.zero_le _, rfl, rfl, Below.refl _ _⟩
    case round =>
      obtain ⟨k, hk, rfl, heq, hBl⟩ := hrel
      by_cases hlt : k < xs.length
      · have hlt2 : k < ys.length := by omega
        have hki : (k : Int) < (xs.length : Int) := by omega
        have hki2 : (k : Int) < (ys.length : Int) := by omega
        obtain ⟨b, o, e1, hbs, hc⟩ := (hA.below hBl (Nat.le_refl _)).row (i := k) (c := icells xs[k]) (map_at _ hlt)
        obtain ⟨b2, o2, e2, hbs2, hc2⟩ := (hB.below hBl (Nat.le_refl _)).row (i := k) (c := icells ys[k]) (map_at _ hlt2)
        subst e1
        subst e2
        have h1 := Lib.hid (take_snoc xs k hlt)
        have h2 := Lib.hid (take_snoc ys k hlt2)
        have h3 : xs[k]? = some xs[k] := List.getElem?_eq_getElem hlt
        have h4 : ys[k]? = some ys[k] := List.getElem?_eq_getElem hlt2
        have H3 := Lib.hid h3
        have H4 := Lib.hid h4
        clear h3 h4
        generalize xs[k] = x at *
        generalize ys[k] = y at *
        simp only [icells, CellsFrom, Nat.add_zero, Nat.zero_add, Nat.reduceAdd, Nat.mul_one] at hc hc2
        obtain ⟨c0, -⟩ := hc
        obtain ⟨d0, -⟩ := hc2
        cases hxy : (x != y) with
        | false =>
          have HX := Lib.hid (show x = y by simpa using hxy)
          go_wp2_with (go_quiet (fail))
          go_roundw
          case rel => exact ⟨k + 1, by omega, by go_num, (show _ = _ by rw [h1.out, h2.out, heq.out, HX.out]), drewN_below hBl _⟩
          case measure => simp [intOf]; omega
        | true =>
          have HX := Lib.hid (show ¬ x = y by simpa using hxy)
          have HR := Lib.hid (show decide (xs = ys) = false from decide_eq_false (fun e => HX.out (by have := H3.out; rw [e, H4.out] at this; injection this with this; exact this.symm)))
          go_wp2_with (go_quiet (fail))
          go_ret
          exact ⟨ret_bool HR.out.symm, drewN_below hBl _⟩
      · obtain rfl : k = xs.length := by omega
        have hki : ¬ (xs.length : Int) < (xs.length : Int) := by omega
        have HR := Lib.hid (show decide (xs = ys) = true from decide_eq_true (by have := heq.out; rw [List.take_length, hlen, List.take_length] at this; exact this))
        go_wp2
        go_ret
        exact ⟨ret_bool HR.out.symm, hBl⟩
  · have e0 : ((xs.length : Int) != (ys.length : Int)) = true := by simp; omega
    have HR := Lib.hid (show decide (xs = ys) = false from decide_eq_false (fun e => hlen (by rw [e])))
    go_enter Tryd.func41, Tryd.ntmps41
    go_wp2
    go_ret
    exact ⟨ret_bool HR.out.symm, Below.refl _ _⟩

end Go.Proofs.YtmjnibofdpgacaaDoor

namespace Go.Proofs.YtmjnibofdpgacaaDoor
open Go.RowKit Gc

set_option maxRecDepth 100000 in
set_option maxHeartbeats 1000000 in
theorem hasI_c (A : Option Addr) (c : Nat) (xs : List Int) (x : Int) (w : World) (hA : Rd w 1 A (xs.map icells)) (hl : xs.length ≤ 140737488351232) :
    Calls Tryd.prog 25 #[.slice A xs.length c, .int .i64 x] w fun e w' => e = .returned (.bool (decide (x ∈ xs))) ∧ Below w.heap.size w w' := by
  go_enter Tryd.func25, Tryd.ntmps25
  go_wp2
  go_loopw [5] (fun i wr => ∃ k : Nat, k ≤ xs.length ∧ i = .int .i64 k ∧ Hid (x ∉ xs.take k) ∧ Below w.heap.size w wr) (fun i _ => xs.length - (intOf i).toNat)
  case atStart => exact ⟨0, Nat.zero_le _, rfl, by show _ ∉ _; simp, Below.refl _ _⟩
  case round =>
    obtain ⟨k, hk, rfl, heq, hBl⟩ := hrel
    by_cases hlt : k < xs.length
    · have hki : (k : Int) < (xs.length : Int) := by omega
      obtain ⟨b, o, e1, hbs, hc⟩ := (hA.below hBl (Nat.le_refl _)).row (i := k) (c := icells xs[k]) (map_at _ hlt)
      subst e1
      have h1 := Lib.hid (take_snoc xs k hlt)
      have H3 := Lib.hid (List.getElem_mem hlt)
      generalize xs[k] = y at *
      simp only [icells, CellsFrom, Nat.add_zero, Nat.zero_add, Nat.reduceAdd, Nat.mul_one] at hc
      obtain ⟨c0, -⟩ := hc
      cases hxy : (y == x) with
      | false =>
        have HX := Lib.hid (show ¬ y = x by simpa using hxy)
        go_wp2_with (go_quiet (fail))
        go_roundw
        case rel => exact ⟨k + 1, by omega, by go_num, (show _ ∉ _ by rw [h1.out]; intro h; rcases List.mem_append.1 h with h | h; exact heq.out h; simp at h; exact HX.out h.symm), by first | exact hBl | exact drewN_below hBl _⟩
        case measure => simp [intOf]; omega
      | true =>
        have HX := Lib.hid (show y = x by simpa using hxy)
        have HR := Lib.hid (show decide (x ∈ xs) = true from decide_eq_true (by rw [← HX.out]; exact H3.out))
        go_wp2_with (go_quiet (fail))
        go_ret
        exact ⟨ret_bool HR.out.symm, by first | exact hBl | exact drewN_below hBl _⟩
    · obtain rfl : k = xs.length := by omega
      have hki : ¬ (xs.length : Int) < (xs.length : Int) := by omega
      have HR := Lib.hid (show decide (x ∈ xs) = false from decide_eq_false (by have := heq.out; rw [List.take_length] at this; exact this))
      go_wp2
      go_ret
      exact ⟨ret_bool HR.out.symm, hBl⟩
end Go.Proofs.YtmjnibofdpgacaaDoor
