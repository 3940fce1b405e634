/-
  cmp.Compare of strings, slices.Compare, alike, Under, Compare.
-/
import Derived.Test.YtmbffobifiidnaaDoorNameB
set_option linter.unusedSimpArgs false
set_option linter.unusedVariables false
namespace Gc
open Go Go.RowKit
theorem less_lex : ∀ x y : List UInt8, Op.bytesLess x y = decide (lexC cmp8 x y < 0)
  | [], [] => by simp [Op.bytesLess, lexC]
  | [], _ :: _ => by simp [Op.bytesLess, lexC]
  | _ :: _, [] => by simp [Op.bytesLess, lexC]
  | a :: x, b :: y => by
    have ih := less_lex x y
    unfold Op.bytesLess
    show _ = decide ((if cmp8 a b = 0 then lexC cmp8 x y else cmp8 a b) < 0)
    rw [ih]
    by_cases h1 : a < b
    · rw [show cmp8 a b = -1 by simp [cmp8, h1]]
      simp [h1]
    · by_cases h2 : b < a
      · have h3 : (a == b) = false := by
          rw [beq_eq_false_iff_ne]
          intro e
          subst e
          exact absurd h2 (by simp)
        rw [show cmp8 a b = 1 by simp [cmp8, h1, h2], h3]
        simp [h1]
      · have h3 : a = b := by
          rw [UInt8.lt_iff_toNat_lt] at h1 h2
          exact UInt8.toNat_inj.1 (by omega)
        subst h3
        rw [show cmp8 a a = 0 by simp [cmp8, h1]]
        simp
theorem less_str (a b : ByteArray) : Op.bytesLess a.toList b.toList = decide (strC a b < 0) := by
  rw [ByteArray.toList_eq, ByteArray.toList_eq, less_lex]; rfl
theorem lex_drop {xs ys : List ByteArray} {k : Nat} (h1 : k < xs.length) (h2 : k < ys.length) : lexC strC (xs.drop k) (ys.drop k) = if strC xs[k] ys[k] = 0 then lexC strC (xs.drop (k + 1)) (ys.drop (k + 1)) else strC xs[k] ys[k] := by
  rw [List.drop_eq_getElem_cons h1, List.drop_eq_getElem_cons h2]
  rfl
theorem lex_end {xs ys : List ByteArray} {k : Nat} (h1 : k < xs.length) (h2 : ys.length ≤ k) : lexC strC (xs.drop k) (ys.drop k) = 1 := by
  rw [List.drop_eq_getElem_cons h1, List.drop_eq_nil_of_le h2]
  rfl
theorem lex_nil {xs ys : List ByteArray} {k : Nat} (h1 : xs.length ≤ k) (h2 : k ≤ ys.length) : lexC strC (xs.drop k) (ys.drop k) = if k < ys.length then -1 else 0 := by
  rw [List.drop_eq_nil_of_le h1]
  by_cases h : k < ys.length
  · rw [List.drop_eq_getElem_cons h, if_pos h]
    rfl
  · rw [List.drop_eq_nil_of_le (by omega), if_neg h]
    rfl
theorem alike_drop {xs ys : List ByteArray} {k : Nat} (h1 : k < xs.length) (h2 : k < ys.length) : alikeN (xs.drop k) (ys.drop k) = if strC xs[k] ys[k] = 0 then alikeN (xs.drop (k + 1)) (ys.drop (k + 1)) + 1 else 0 := by
  rw [List.drop_eq_getElem_cons h1, List.drop_eq_getElem_cons h2, alikeN]
  by_cases e : xs[k] = ys[k]
  · rw [if_pos e, if_pos ((linS.zero _ _).2 e)]
  · rw [if_neg e, if_neg (fun h => e ((linS.zero _ _).1 h))]
theorem alike_end {xs ys : List ByteArray} {k : Nat} (h : xs.length ≤ k ∨ ys.length ≤ k) : alikeN (xs.drop k) (ys.drop k) = 0 := by
  rcases h with h | h
  · rw [List.drop_eq_nil_of_le h]; simp [alikeN]
  · rw [List.drop_eq_nil_of_le h]
    cases xs.drop k <;> simp [alikeN]
theorem eq_str (a b : ByteArray) : (a.toList == b.toList) = decide (strC a b = 0) := by
  rw [ByteArray.toList_eq, ByteArray.toList_eq, Bool.eq_iff_iff, beq_iff_eq, decide_eq_true_iff]
  exact ((lin8.lex.zero _ _)).symm
end Gc
namespace Go.Proofs.YtmbffobifiidnaaDoor
open Go.RowKit Gc

set_option maxRecDepth 100000 in
set_option maxHeartbeats 1000000 in
theorem isNaN_c (s : ByteArray) (w : World) : Calls Tryd.prog 33 #[.string s] w fun e w' => e = .returned (.bool false) ∧ w = w' := by
  go_enter Tryd.func33, Tryd.ntmps33
  go_wp2
  go_ret
  exact ⟨rfl, rfl⟩

set_option maxRecDepth 100000 in
set_option maxHeartbeats 1000000 in
theorem cmpStr_c (a b : ByteArray) (w : World) : Calls Tryd.prog 26 #[.string a, .string b] w fun e w' => e = .returned (.int .i64 (strC a b)) ∧ w = w' := by
  have h1 := less_str a b
  have h2 := eq_str a b
  rcases linS.val a b with h | h | h
  all_goals
    have HR := Lib.hid h
    rw [h] at h1 h2
    simp only [Int.reduceNeg, Int.reduceLT, Int.reduceEq, decide_true, decide_false] at h1 h2
    clear h
    go_enter Tryd.func26, Tryd.ntmps26
    go_wp2_with fail
    refine (isNaN_c a w).mono ?_
    rintro e w' ⟨rfl, rfl⟩
    go_wp2_with fail
    refine (isNaN_c b w).mono ?_
    rintro e w' ⟨rfl, rfl⟩
    go_wp2
    go_ret
    exact ⟨ret_int HR.out.symm, rfl⟩

set_option maxRecDepth 100000 in
set_option maxHeartbeats 1000000 in
theorem slCompare_c (A : Option Addr) (c : Nat) (xs : List ByteArray) (B : Option Addr) (d : Nat) (ys : List ByteArray) (w : World) (hA : Rd w 1 A (xs.map scell)) (hB : Rd w 1 B (ys.map scell)) (hl : xs.length ≤ 140737488351232) (hl2 : ys.length ≤ 140737488351232) :
    Calls Tryd.prog 25 #[.slice A xs.length c, .slice B ys.length d] w fun e w' => e = .returned (.int .i64 (lexC strC xs ys)) ∧ w = w' := by
  go_enter Tryd.func25, Tryd.ntmps25
  go_wp2
  go_loopw [11] (fun i wr => ∃ k : Nat, k ≤ xs.length ∧ k ≤ ys.length ∧ i = .int .i64 k ∧ Hid (lexC strC xs ys = lexC strC (xs.drop k) (ys.drop k)) ∧ w = wr) (fun i _ => xs.length - (intOf i).toNat)
  case atStart => exact ⟨0, Nat.zero_le _, Nat.zero_le _, rfl, Lib.hid rfl, rfl⟩
  case round =>
    obtain ⟨k, hk, hk2, rfl, heq, rfl⟩ := hrel
    by_cases hlt : k < xs.length
    · have hki : (k : Int) < (xs.length : Int) := by omega
      obtain ⟨b, o, e1, hbs, hc⟩ := hA.row (i := k) (c := scell xs[k]) (map_at _ hlt)
      subst e1
      simp only [scell, CellsFrom, Nat.add_zero, Nat.mul_one] at hc
      obtain ⟨c0, -⟩ := hc
      by_cases hlt2 : k < ys.length
      · have hki2 : (k : Int) < (ys.length : Int) := by omega
        have hki3 : ¬ (ys.length : Int) ≤ (k : Int) := by omega
        obtain ⟨b2, o2, e2, hbs2, hc2⟩ := hB.row (i := k) (c := scell ys[k]) (map_at _ hlt2)
        subst e2
        simp only [scell, CellsFrom, Nat.add_zero, Nat.mul_one] at hc2
        obtain ⟨d0, -⟩ := hc2
        have HD := Lib.hid (lex_drop hlt hlt2)
        generalize xs[k] = x at *
        generalize ys[k] = y at *
        have hcall := Lib.hid (fun W => cmpStr_c x y W)
        by_cases hz : strC x y = 0
        · have HZ := Lib.hid hz
          have hz' : (strC x y != 0) = false := by rw [hz]; rfl
          have hcall := Lib.hid (show ∀ W, Calls Tryd.prog 26 #[.string x, .string y] W fun e w' => e = .returned (.int .i64 0) ∧ W = w' from fun W => by have := hcall.out W; rw [hz] at this; exact this)
          clear hz hz'
          go_wp2_with (go_at_call 26; refine (hcall.out _).mono ?_; rintro e w' ⟨rfl, rfl⟩)
          go_roundw
          case rel => exact ⟨k + 1, by omega, by omega, by go_num, Lib.hid (by rw [heq.out, HD.out, if_pos HZ.out]), by trivial⟩
          case measure => simp [intOf]; omega
        · have HR := Lib.hid (show lexC strC xs ys = strC x y by rw [heq.out, HD.out, if_neg hz])
          have hz' : (strC x y != 0) = true := by simpa using hz
          clear hz
          generalize strC x y = q at *
          go_wp2_with (go_at_call 26; refine (hcall.out _).mono ?_; rintro e w' ⟨rfl, rfl⟩)
          go_ret
          exact ⟨ret_int HR.out.symm, rfl⟩
      · have hki3 : (ys.length : Int) ≤ (k : Int) := by omega
        have HR := Lib.hid (show lexC strC xs ys = 1 by rw [heq.out, lex_end hlt (by omega)])
        go_wp2
        go_ret
        exact ⟨ret_int HR.out.symm, rfl⟩
    · obtain rfl : k = xs.length := by omega
      have hki : ¬ (xs.length : Int) < (xs.length : Int) := by omega
      have hN := lex_nil (xs := xs) (ys := ys) (Nat.le_refl _) hk2
      by_cases hy : xs.length < ys.length
      · have hyi : (xs.length : Int) < (ys.length : Int) := by omega
        have HR := Lib.hid (show lexC strC xs ys = -1 by rw [heq.out, hN, if_pos hy])
        clear hN
        go_wp2
        go_ret
        exact ⟨ret_int HR.out.symm, rfl⟩
      · have hyi : ¬ (xs.length : Int) < (ys.length : Int) := by omega
        have HR := Lib.hid (show lexC strC xs ys = 0 by rw [heq.out, hN, if_neg hy])
        clear hN
        go_wp2
        go_ret
        exact ⟨ret_int HR.out.symm, rfl⟩

set_option maxRecDepth 100000 in
set_option maxHeartbeats 1000000 in
theorem alike_c (A : Option Addr) (c : Nat) (xs : List ByteArray) (B : Option Addr) (d : Nat) (ys : List ByteArray) (w : World) (hA : Rd w 1 A (xs.map scell)) (hB : Rd w 1 B (ys.map scell)) (hl : xs.length ≤ 140737488351232) (hl2 : ys.length ≤ 140737488351232) :
    Calls Tryd.prog 20 #[.slice A xs.length c, .slice B ys.length d] w fun e w' => e = .returned (.int .i64 (alikeN xs ys)) ∧ ∃ n, w' = w.drewN n := by
  go_enter Tryd.func20, Tryd.ntmps20
  go_wp2
  go_loopw [5] (fun i wr => ∃ k : Nat, k ≤ xs.length ∧ k ≤ ys.length ∧ i = .int .i64 k ∧ Hid (alikeN xs ys = k + alikeN (xs.drop k) (ys.drop k)) ∧ ∃ n, wr = w.drewN n) (fun i _ => xs.length - (intOf i).toNat)
  case atStart => exact ⟨0, Nat.zero_le _, Nat.zero_le _, rfl, Lib.hid (by simp), 0, rfl⟩
  case round =>
    obtain ⟨k, hk, hk2, rfl, heq, n, rfl⟩ := hrel
    by_cases hlt : k < xs.length ∧ k < ys.length
    · obtain ⟨hlt, hlt2⟩ := hlt
      have hki : (k : Int) < (xs.length : Int) := by omega
      have hki2 : (k : Int) < (ys.length : Int) := by omega
      have hmin : decide ((k : Int) < min (xs.length : Int) (ys.length : Int)) = true := decide_eq_true (by omega)
      obtain ⟨b, o, e1, hbs, hc⟩ := hA.row (i := k) (c := scell xs[k]) (map_at _ hlt)
      subst e1
      simp only [scell, CellsFrom, Nat.add_zero, Nat.mul_one] at hc
      obtain ⟨c0, -⟩ := hc
      obtain ⟨b2, o2, e2, hbs2, hc2⟩ := hB.row (i := k) (c := scell ys[k]) (map_at _ hlt2)
      subst e2
      simp only [scell, CellsFrom, Nat.add_zero, Nat.mul_one] at hc2
      obtain ⟨d0, -⟩ := hc2
      have HD := Lib.hid (alike_drop hlt hlt2)
      generalize xs[k] = x at *
      generalize ys[k] = y at *
      have hE := eq_str x y
      by_cases hz : strC x y = 0
      · rw [decide_eq_true hz] at hE
        have HZ := Lib.hid hz
        clear hz
        go_wp2_with (go_quiet (fail))
        go_roundw
        case rel => exact ⟨k + 1, by omega, by omega, by go_num, Lib.hid (by rw [heq.out, HD.out, if_pos HZ.out]; omega), by first | exact ⟨_, rfl⟩ | exact ⟨_, World.drewN_drewN ..⟩⟩
        case measure => simp [intOf]; omega
      · rw [decide_eq_false hz] at hE
        have HR := Lib.hid (show (alikeN xs ys : Int) = k by rw [heq.out, HD.out, if_neg hz]; omega)
        clear hz
        go_wp2_with (go_quiet (fail))
        go_ret
        exact ⟨ret_int HR.out.symm, by first | exact ⟨_, rfl⟩ | exact ⟨_, World.drewN_drewN ..⟩⟩
    · have hmin : decide ((k : Int) < min (xs.length : Int) (ys.length : Int)) = false := decide_eq_false (by omega)
      have HR := Lib.hid (show (alikeN xs ys : Int) = k by rw [heq.out, alike_end (by omega)]; omega)
      clear hlt
      go_wp2_with (go_quiet (fail))
      go_ret
      exact ⟨ret_int HR.out.symm, by first | exact ⟨_, rfl⟩ | exact ⟨_, World.drewN_drewN ..⟩⟩

/-- the names of a path, read in whatever world grew -/
theorem names_rd {w w1 w2 : World} {A : Option Addr} {l : List ByteArray} (h : Rd w1 1 A (l.map scell)) (hb : Below w1.heap.size w1 w2) : Rd w2 1 A (l.map scell) := h.below hb (Nat.le_refl _)

set_option maxRecDepth 100000 in
set_option maxHeartbeats 1000000 in
theorem under_c (a b : ByteArray) (w : World) (ha : a.size ≤ 1048576) (hb : b.size ≤ 1048576) :
    Calls Tryd.prog 11 #[.string a, .string b] w fun e w' => e = .returned (.bool (underS a b)) ∧ Below w.heap.size w w' := by
  have la := split_len a
  have lb := split_len b
  have HR := Lib.hid (show underS a b = (okS a && (okS b && decide (alikeN (splitP a).1 (splitP b).1 = (splitP a).1.length))) from rfl)
  have HA := Lib.hid (names_c a w ha)
  have HB := Lib.hid (fun W => names_c b W hb)
  generalize (splitP a).1 = xs at *
  generalize (splitP b).1 = ys at *
  generalize okS a = oa at *
  generalize okS b = ob at *
  cases oa
  case false =>
    have HR := Lib.hid (show underS a b = false by rw [HR.out, Bool.false_and])
    go_enter Tryd.func11, Tryd.ntmps11
    go_wp2_with fail
    refine HA.out.mono ?_
    rintro e w1 ⟨A, c, rfl, hc, hr, hb1⟩
    go_wp2_with fail
    refine (HB.out _).mono ?_
    rintro e w2 ⟨B, d, rfl, hd, hr2, hb2⟩
    have hbb := hb1.trans (hb2.mono hb1.size)
    go_wp2_with fail
    go_ret
    exact ⟨ret_bool HR.out.symm, hbb⟩
  case true =>
    cases ob
    case false =>
      have HR := Lib.hid (show underS a b = false by rw [HR.out, Bool.false_and, Bool.and_false])
      go_enter Tryd.func11, Tryd.ntmps11
      go_wp2_with fail
      refine HA.out.mono ?_
      rintro e w1 ⟨A, c, rfl, hc, hr, hb1⟩
      go_wp2_with fail
      refine (HB.out _).mono ?_
      rintro e w2 ⟨B, d, rfl, hd, hr2, hb2⟩
      have hbb := hb1.trans (hb2.mono hb1.size)
      go_wp2_with fail
      go_ret
      exact ⟨ret_bool HR.out.symm, hbb⟩
    case true =>
      have hcase : ((alikeN xs ys : Int) == (xs.length : Int)) = decide (alikeN xs ys = xs.length) := by
        rw [Bool.eq_iff_iff, beq_iff_eq, decide_eq_true_iff]; omega
      have HR := Lib.hid (show underS a b = ((alikeN xs ys : Int) == (xs.length : Int)) by rw [HR.out, hcase]; simp)
      clear hcase
      go_enter Tryd.func11, Tryd.ntmps11
      go_wp2_with fail
      refine HA.out.mono ?_
      rintro e w1 ⟨A, c, rfl, hc, hr, hb1⟩
      go_wp2_with fail
      refine (HB.out _).mono ?_
      rintro e w2 ⟨B, d, rfl, hd, hr2, hb2⟩
      have hbb := hb1.trans (hb2.mono hb1.size)
      have hal := alike_c A c xs B d ys w2 (hr.below hb2 (Nat.le_refl _)) hr2 (by omega) (by omega)
      generalize alikeN xs ys = q at *
      have HAL := Lib.hid hal
      clear hal
      go_wp2_with fail
      refine HAL.out.mono ?_
      rintro e w3 ⟨rfl, n, rfl⟩
      go_wp2_with fail
      go_ret
      exact ⟨ret_bool HR.out.symm, drewN_below hbb _⟩

set_option maxRecDepth 100000 in
set_option maxHeartbeats 1000000 in
theorem compare_c (a b : ByteArray) (w : World) (ha : a.size ≤ 1048576) (hb : b.size ≤ 1048576) :
    Calls Tryd.prog 13 #[.string a, .string b] w fun e w' => e = .returned (.int .i64 (cmpS a b)) ∧ Below w.heap.size w w' := by
  have la := split_len a
  have lb := split_len b
  have HR := Lib.hid (show cmpS a b = if okS a = true then (if okS b = true then lexC strC (splitP a).1 (splitP b).1 else -1) else if okS b = true then 1 else strC a b from rfl)
  have HA := Lib.hid (names_c a w ha)
  have HB := Lib.hid (fun W => names_c b W hb)
  generalize (splitP a).1 = xs at *
  generalize (splitP b).1 = ys at *
  generalize okS a = oa at *
  generalize okS b = ob at *
  cases oa <;> cases ob
  case true.true =>
    have HR := Lib.hid (show cmpS a b = lexC strC xs ys by rw [HR.out]; rfl)
    go_enter Tryd.func13, Tryd.ntmps13
    go_wp2_with fail
    refine HA.out.mono ?_
    rintro e w1 ⟨A, c, rfl, hc, hr, hb1⟩
    go_wp2_with fail
    refine (HB.out _).mono ?_
    rintro e w2 ⟨B, d, rfl, hd, hr2, hb2⟩
    have hbb := hb1.trans (hb2.mono hb1.size)
    have hal := Lib.hid (slCompare_c A c xs B d ys w2 (hr.below hb2 (Nat.le_refl _)) hr2 (by omega) (by omega))
    go_wp2_with fail
    refine hal.out.mono ?_
    rintro e w3 ⟨rfl, rfl⟩
    go_wp2_with fail
    go_ret
    exact ⟨ret_int HR.out.symm, hbb⟩
  case false.false =>
    have HR := Lib.hid (show cmpS a b = strC a b by rw [HR.out]; rfl)
    have HS := Lib.hid (fun W => cmpStr_c a b W)
    go_enter Tryd.func13, Tryd.ntmps13
    go_wp2_with fail
    refine HA.out.mono ?_
    rintro e w1 ⟨A, c, rfl, hc, hr, hb1⟩
    go_wp2_with fail
    refine (HB.out _).mono ?_
    rintro e w2 ⟨B, d, rfl, hd, hr2, hb2⟩
    have hbb := hb1.trans (hb2.mono hb1.size)
    go_wp2_with fail
    refine (HS.out _).mono ?_
    rintro e w3 ⟨rfl, rfl⟩
    go_wp2_with fail
    go_ret
    exact ⟨ret_int HR.out.symm, hbb⟩
  all_goals
    go_enter Tryd.func13, Tryd.ntmps13
    go_wp2_with fail
    refine HA.out.mono ?_
    rintro e w1 ⟨A, c, rfl, hc, hr, hb1⟩
    go_wp2_with fail
    refine (HB.out _).mono ?_
    rintro e w2 ⟨B, d, rfl, hd, hr2, hb2⟩
    have hbb := hb1.trans (hb2.mono hb1.size)
    go_wp2_with fail
    go_ret
    exact ⟨ret_int (by rw [HR.out]; rfl), hbb⟩
end Go.Proofs.YtmbffobifiidnaaDoor
