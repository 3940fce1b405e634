/-
  ref1.shared, Under, order, Compare, Join, Common.
-/
import Derived.Test.YtmbffobifiidnaaDoorRef1A
set_option linter.unusedSimpArgs false
set_option linter.unusedVariables false
namespace Gc
open Go Go.RowKit

/-- ref1.Compare of two lists of names, by their first place of difference -/
theorem lex_alike : ∀ x y : List ByteArray, lexC strC x y = if alikeN x y = x.length ∧ alikeN x y = y.length then 0 else if alikeN x y = x.length then -1 else if alikeN x y = y.length then 1 else strC (x.getD (alikeN x y) ⟨#[]⟩) (y.getD (alikeN x y) ⟨#[]⟩)
  | [], [] => rfl
  | [], _ :: _ => by simp [lexC, alikeN]
  | _ :: _, [] => by simp [lexC, alikeN]
  | a :: x, b :: y => by
    have ih := lex_alike x y
    unfold lexC alikeN
    by_cases e : a = b
    · subst e
      rw [if_pos ((linS.zero a a).2 rfl), if_pos rfl, ih]
      simp
    · rw [if_neg (fun h => e ((linS.zero a b).1 h)), if_neg e]
      simp
/-- the text of a path, name by name -/
def pathL : List ByteArray → List UInt8
  | [] => []
  | x :: xs => 47 :: x.data.toList ++ pathL xs
theorem path_join : ∀ xs : List ByteArray, xs ≠ [] → pathL xs = 47 :: Lib.join (xs.map (·.data.toList)) [47]
  | [], h => absurd rfl h
  | [x], _ => by simp [pathL, Lib.join]
  | x :: y :: xs, _ => by
    have ih := path_join (y :: xs) (by simp)
    rw [pathL, ih]
    simp [Lib.join, List.intercalate, List.intersperse]
theorem path_snoc : ∀ (xs : List ByteArray) (x : ByteArray), pathL (xs ++ [x]) = pathL xs ++ 47 :: x.data.toList
  | [], x => by simp [pathL]
  | y :: xs, x => by simp [pathL, path_snoc xs x]
theorem path_len : ∀ (xs : List ByteArray) (n : Nat), (∀ x ∈ xs, x.size ≤ n) → (pathL xs).length ≤ xs.length * (n + 1)
  | [], n, _ => by simp [pathL]
  | x :: xs, n, h => by
    have ih := path_len xs n (fun y hy => h y (by simp [hy]))
    have hx : x.data.toList.length ≤ n := h x (by simp)
    simp only [pathL, List.length_append, List.length_cons]
    rw [Nat.add_mul]
    omega
theorem joinP_path (xs : List ByteArray) : joinP xs = if checkN xs = 0 then (if pathL xs = [] then (⟨#[47]⟩, 0) else (mkB (pathL xs), 0)) else (⟨#[]⟩, checkN xs) := by
  unfold joinP
  by_cases hk : checkN xs = 0
  · rw [if_pos hk, if_pos hk]
    cases xs with
    | nil => rfl
    | cons x xs =>
      rw [path_join (x :: xs) (by simp), if_neg (by simp)]
      congr 1
  · rw [if_neg hk, if_neg hk]
end Gc
namespace Gc
open Go Go.RowKit
theorem quiet_add_left {P : Program} {f : FuncId} {args : Array Value} {w : World} {a n : Nat} {v : Value}
    (h : Calls P f args (w.drewN (a + n)) fun e w' => e = .returned v ∧ w.drewN (a + n) = w') :
    Calls P f args (w.drewN (a + n)) fun e w'' => e = .returned v ∧ ∃ m, w'' = w.drewN (a + m) :=
  h.mono fun _ _ ⟨he, hm⟩ => ⟨he, n, hm.symm⟩
theorem quiet_left {P : Program} {f : FuncId} {args : Array Value} {w : World} {n : Nat} {v : Value}
    (h : Calls P f args (w.drewN n) fun e w' => e = .returned v ∧ w.drewN n = w') : Calls P f args (w.drewN n) fun e w'' => e = .returned v ∧ ∃ m, w'' = w.drewN m :=
  h.mono fun _ _ ⟨he, hm⟩ => ⟨he, n, hm.symm⟩
end Gc
namespace Go.Proofs.YtmbffobifiidnaaDoor
open Go.RowKit Gc

set_option maxRecDepth 100000 in
set_option maxHeartbeats 1000000 in
theorem shared_c (A : Option Addr) (c : Nat) (xs : List ByteArray) (B : Option Addr) (d : Nat) (ys : List ByteArray) (w : World) (hA : Rd w 1 A (xs.map scell)) (hB : Rd w 1 B (ys.map scell)) (hl : xs.length ≤ 140737488351232) (hl2 : ys.length ≤ 140737488351232) :
    Calls Tryd.prog 23 #[.slice A xs.length c, .slice B ys.length d] w fun e w' => e = .returned (.int .i64 (alikeN xs ys)) ∧ ∃ n, w' = w.drewN n := by
  go_enter Tryd.func23, Tryd.ntmps23
  go_wp2
  go_loopw [5] (fun i wr => ∃ k : Nat, k ≤ xs.length ∧ k ≤ ys.length ∧ i = .int .i64 k ∧ Hid (alikeN xs ys = k + alikeN (xs.drop k) (ys.drop k)) ∧ ∃ n, wr = w.drewN n) (fun i _ => xs.length - (intOf i).toNat)
  case atStart => exact ⟨0, Nat.zero_le _, Nat.zero_le _, rfl, Lib.hid (by simp), 0, rfl⟩
  case round =>
    obtain ⟨k, hk, hk2, rfl, heq, n, rfl⟩ := hrel
    by_cases hlt : k < xs.length
    · have hki : decide ((k : Int) < (xs.length : Int)) = true := decide_eq_true (by omega)
      have hki' : (k : Int) < (xs.length : Int) := by omega
      by_cases hlt2 : k < ys.length
      · have hki2 : decide ((k : Int) < (ys.length : Int)) = true := decide_eq_true (by omega)
        have hki2' : (k : Int) < (ys.length : Int) := by omega
        obtain ⟨b, o, e1, hbs, hc⟩ := hA.row (i := k) (c := scell xs[k]) (map_at _ hlt)
        subst e1
        simp only [scell, CellsFrom, Nat.add_zero, Nat.mul_one] at hc
        obtain ⟨c0, -⟩ := hc
        obtain ⟨b2, o2, e2, hbs2, hc2⟩ := hB.row (i := k) (c := scell ys[k]) (map_at _ hlt2)
        subst e2
        simp only [scell, CellsFrom, Nat.add_zero, Nat.mul_one] at hc2
        obtain ⟨d0, -⟩ := hc2
        have HD := Lib.hid (alike_drop hlt hlt2)
        generalize xs[k] = x at *
        generalize ys[k] = y at *
        have hE := eq_str x y
        by_cases hz : strC x y = 0
        · rw [decide_eq_true hz] at hE
          have HZ := Lib.hid hz
          clear hz
          go_wp2_with (go_quiet (fail))
          go_roundw
          case rel => exact ⟨k + 1, by omega, by omega, by go_num, Lib.hid (by rw [heq.out, HD.out, if_pos HZ.out]; omega), by first | exact ⟨_, rfl⟩ | exact ⟨_, World.drewN_drewN ..⟩⟩
          case measure => simp [intOf]; omega
        · rw [decide_eq_false hz] at hE
          have HR := Lib.hid (show (alikeN xs ys : Int) = k by rw [heq.out, HD.out, if_neg hz]; omega)
          clear hz
          go_wp2_with (go_quiet (fail))
          go_ret
          exact ⟨ret_int HR.out.symm, by first | exact ⟨_, rfl⟩ | exact ⟨_, World.drewN_drewN ..⟩⟩
      · have hki2 : decide ((k : Int) < (ys.length : Int)) = false := decide_eq_false (by omega)
        have hki3 : decide (k < ys.length) = false := decide_eq_false hlt2
        have HR := Lib.hid (show (alikeN xs ys : Int) = k by rw [heq.out, alike_end (by omega)]; omega)
        clear hlt2
        go_wp2_with (go_quiet (fail))
        go_ret
        exact ⟨ret_int HR.out.symm, by first | exact ⟨_, rfl⟩ | exact ⟨_, World.drewN_drewN ..⟩⟩
    · have hki : decide ((k : Int) < (xs.length : Int)) = false := decide_eq_false (by omega)
      have hki3 : decide (k < xs.length) = false := decide_eq_false hlt
      have HR := Lib.hid (show (alikeN xs ys : Int) = k by rw [heq.out, alike_end (by omega)]; omega)
      clear hlt
      go_wp2_with (go_quiet (fail))
      go_ret
      exact ⟨ret_int HR.out.symm, by first | exact ⟨_, rfl⟩ | exact ⟨_, World.drewN_drewN ..⟩⟩

set_option maxRecDepth 100000 in
set_option maxHeartbeats 1000000 in
theorem runder_c (a b : ByteArray) (w : World) (ha : a.size ≤ 1048576) (hb : b.size ≤ 1048576) :
    Calls Tryd.prog 12 #[.string a, .string b] w fun e w' => e = .returned (.bool (underS a b)) ∧ Below w.heap.size w w' := by
  have la := split_len a
  have lb := split_len b
  have HR := Lib.hid (show underS a b = ((splitP a).2 == 0 && ((splitP b).2 == 0 && decide (alikeN (splitP a).1 (splitP b).1 = (splitP a).1.length))) from rfl)
  have HA := Lib.hid (rsplit_c a w ha)
  have HB := Lib.hid (fun W => rsplit_c b W hb)
  generalize (splitP a).1 = xs at *
  generalize (splitP b).1 = ys at *
  generalize (splitP a).2 = ea at *
  generalize (splitP b).2 = eb at *
  cases hea : (ea == 0)
  case false =>
    have HR2 := Lib.hid (show underS a b = false by rw [HR.out, hea, Bool.false_and])
    go_enter Tryd.func12, Tryd.ntmps12
    go_wp2_with fail
    refine HA.out.mono ?_
    rintro e w1 ⟨A, c, rfl, hc, hr, hb1⟩
    go_wp2_with fail
    refine (HB.out _).mono ?_
    rintro e w2 ⟨B, d, rfl, hd, hr2, hb2⟩
    have hbb := hb1.trans (hb2.mono hb1.size)
    go_wp2_with fail
    go_ret
    exact ⟨ret_bool HR2.out.symm, hbb⟩
  case true =>
    cases heb : (eb == 0)
    case false =>
      have HR2 := Lib.hid (show underS a b = false by rw [HR.out, heb, Bool.false_and, Bool.and_false])
      go_enter Tryd.func12, Tryd.ntmps12
      go_wp2_with fail
      refine HA.out.mono ?_
      rintro e w1 ⟨A, c, rfl, hc, hr, hb1⟩
      go_wp2_with fail
      refine (HB.out _).mono ?_
      rintro e w2 ⟨B, d, rfl, hd, hr2, hb2⟩
      have hbb := hb1.trans (hb2.mono hb1.size)
      go_wp2_with fail
      go_ret
      exact ⟨ret_bool HR2.out.symm, hbb⟩
    case true =>
      have hcase : ((alikeN xs ys : Int) == (xs.length : Int)) = decide (alikeN xs ys = xs.length) := by
        rw [Bool.eq_iff_iff, beq_iff_eq, decide_eq_true_iff]; omega
      have HR2 := Lib.hid (show underS a b = ((alikeN xs ys : Int) == (xs.length : Int)) by rw [HR.out, hcase, hea, heb]; simp)
      clear hcase
      go_enter Tryd.func12, Tryd.ntmps12
      go_wp2_with fail
      refine HA.out.mono ?_
      rintro e w1 ⟨A, c, rfl, hc, hr, hb1⟩
      go_wp2_with fail
      refine (HB.out _).mono ?_
      rintro e w2 ⟨B, d, rfl, hd, hr2, hb2⟩
      have hbb := hb1.trans (hb2.mono hb1.size)
      have hal := shared_c A c xs B d ys w2 (hr.below hb2 (Nat.le_refl _)) hr2 (by omega) (by omega)
      generalize alikeN xs ys = q at *
      have HAL := Lib.hid hal
      clear hal
      go_wp2_with fail
      refine HAL.out.mono ?_
      rintro e w3 ⟨rfl, n, rfl⟩
      go_wp2_with fail
      go_ret
      exact ⟨ret_bool HR2.out.symm, drewN_below hbb _⟩

set_option maxRecDepth 100000 in
set_option maxHeartbeats 1000000 in
theorem order_c (a b : ByteArray) (w : World) : Calls Tryd.prog 27 #[.string a, .string b] w fun e w' => e = .returned (.int .i64 (strC a b)) ∧ w = w' := by
  have h1 := less_str a b
  have h2 := eq_str a b
  rcases linS.val a b with h | h | h
  all_goals
    have HR := Lib.hid h
    rw [h] at h1 h2
    simp only [Int.reduceNeg, Int.reduceLT, Int.reduceEq, decide_true, decide_false] at h1 h2
    clear h
    go_enter Tryd.func27, Tryd.ntmps27
    go_wp2
    go_ret
    exact ⟨ret_int HR.out.symm, rfl⟩

set_option maxRecDepth 100000 in
set_option maxHeartbeats 1000000 in
theorem rcompare_c (a b : ByteArray) (w : World) (ha : a.size ≤ 1048576) (hb : b.size ≤ 1048576) :
    Calls Tryd.prog 14 #[.string a, .string b] w fun e w' => e = .returned (.int .i64 (cmpS a b)) ∧ Below w.heap.size w w' := by
  have la := split_len a
  have lb := split_len b
  have HR := Lib.hid (show cmpS a b = if ((splitP a).2 == 0) = true then (if ((splitP b).2 == 0) = true then lexC strC (splitP a).1 (splitP b).1 else -1) else if ((splitP b).2 == 0) = true then 1 else strC a b from rfl)
  have HA := Lib.hid (rsplit_c a w ha)
  have HB := Lib.hid (fun W => rsplit_c b W hb)
  generalize (splitP a).1 = xs at *
  generalize (splitP b).1 = ys at *
  generalize (splitP a).2 = ea at *
  generalize (splitP b).2 = eb at *
  rcases (show (¬ ea = 0 ∧ ¬ eb = 0) ∨ (ea = 0 ∧ ¬ eb = 0) ∨ (¬ ea = 0 ∧ eb = 0) ∨ (ea = 0 ∧ eb = 0) by omega) with ⟨h1, h2⟩ | ⟨h1, h2⟩ | ⟨h1, h2⟩ | ⟨h1, h2⟩
  · have HR2 := Lib.hid (show cmpS a b = strC a b by rw [HR.out, if_neg (by simpa using h1), if_neg (by simpa using h2)])
    have e1 : (ea != 0) = true := by simpa using h1
    have e2 : (eb != 0) = true := by simpa using h2
    have HS := Lib.hid (fun W => order_c a b W)
    clear h1 h2 HR
    go_enter Tryd.func14, Tryd.ntmps14
    go_wp2_with fail
    refine HA.out.mono ?_
    rintro e w1 ⟨A, c, rfl, hc, hr, hb1⟩
    go_wp2_with fail
    refine (HB.out _).mono ?_
    rintro e w2 ⟨B, d, rfl, hd, hr2, hb2⟩
    have hbb := hb1.trans (hb2.mono hb1.size)
    go_wp2_with fail
    refine (HS.out _).mono ?_
    rintro e w3 ⟨rfl, rfl⟩
    go_wp2_with fail
    go_ret
    exact ⟨ret_int HR2.out.symm, hbb⟩
  · subst h1
    have HR2 := Lib.hid (show cmpS a b = -1 by rw [HR.out, if_pos (by decide), if_neg (by simpa using h2)])
    have e2 : (eb != 0) = true := by simpa using h2
    clear h2 HR
    go_enter Tryd.func14, Tryd.ntmps14
    go_wp2_with fail
    refine HA.out.mono ?_
    rintro e w1 ⟨A, c, rfl, hc, hr, hb1⟩
    go_wp2_with fail
    refine (HB.out _).mono ?_
    rintro e w2 ⟨B, d, rfl, hd, hr2, hb2⟩
    have hbb := hb1.trans (hb2.mono hb1.size)
    go_wp2_with fail
    go_ret
    exact ⟨ret_int HR2.out.symm, hbb⟩
  · subst h2
    have HR2 := Lib.hid (show cmpS a b = 1 by rw [HR.out, if_neg (by simpa using h1), if_pos (by decide)])
    have e1 : (ea != 0) = true := by simpa using h1
    clear h1 HR
    go_enter Tryd.func14, Tryd.ntmps14
    go_wp2_with fail
    refine HA.out.mono ?_
    rintro e w1 ⟨A, c, rfl, hc, hr, hb1⟩
    go_wp2_with fail
    refine (HB.out _).mono ?_
    rintro e w2 ⟨B, d, rfl, hd, hr2, hb2⟩
    have hbb := hb1.trans (hb2.mono hb1.size)
    go_wp2_with fail
    go_ret
    exact ⟨ret_int HR2.out.symm, hbb⟩
  · subst h1
    subst h2
    have HRl := Lib.hid (show cmpS a b = lexC strC xs ys by rw [HR.out, if_pos (by decide), if_pos (by decide)])
    have hal0 := alike_le xs ys
    have hlex := Lib.hid (lex_alike xs ys)
    rcases (show (¬ alikeN xs ys = xs.length ∧ ¬ alikeN xs ys = ys.length) ∨ (alikeN xs ys = xs.length ∧ alikeN xs ys = ys.length) ∨ (alikeN xs ys = xs.length ∧ ¬ alikeN xs ys = ys.length) ∨ (¬ alikeN xs ys = xs.length ∧ alikeN xs ys = ys.length) by omega) with ⟨h3, h4⟩ | ⟨h3, h4⟩ | ⟨h3, h4⟩ | ⟨h3, h4⟩
    · have hx : alikeN xs ys < xs.length := by omega
      have hy : alikeN xs ys < ys.length := by omega
      have HR2 := Lib.hid (show cmpS a b = strC xs[alikeN xs ys] ys[alikeN xs ys] by
        rw [HRl.out, hlex.out, if_neg (fun h => h3 h.1), if_neg h3, if_neg h4]
        simp [List.getD_eq_getElem?_getD, List.getElem?_eq_getElem hx, List.getElem?_eq_getElem hy])
      have HX := Lib.hid (fun A W (h : Rd W 1 A (xs.map scell)) => h.row (i := alikeN xs ys) (c := scell xs[alikeN xs ys]) (map_at _ hx))
      have HY := Lib.hid (fun A W (h : Rd W 1 A (ys.map scell)) => h.row (i := alikeN xs ys) (c := scell ys[alikeN xs ys]) (map_at _ hy))
      generalize xs[alikeN xs ys] = x at *
      generalize ys[alikeN xs ys] = y at *
      have HS := Lib.hid (fun W => order_c x y W)
      have HSh := Lib.hid (fun A c B d W hA hB => shared_c A c xs B d ys W hA hB (by omega) (by omega))
      clear hlex HR HRl
      generalize alikeN xs ys = q at *
      have e3 : ((q : Int) == (xs.length : Int)) = false := by rw [beq_eq_false_iff_ne]; omega
      have e4 : ((q : Int) == (ys.length : Int)) = false := by rw [beq_eq_false_iff_ne]; omega
      have hxi : (q : Int) < (xs.length : Int) := by omega
      have hyi : (q : Int) < (ys.length : Int) := by omega
      have hq0 : (0 : Int) ≤ (q : Int) := by omega
      clear h3 h4
      go_enter Tryd.func14, Tryd.ntmps14
      go_wp2_with fail
      refine HA.out.mono ?_
      rintro e w1 ⟨A, c, rfl, hc, hr, hb1⟩
      go_wp2_with fail
      refine (HB.out _).mono ?_
      rintro e w2 ⟨B, d, rfl, hd, hr2, hb2⟩
      have hbb := hb1.trans (hb2.mono hb1.size)
      have hrx := hr.below hb2 (Nat.le_refl _)
      obtain ⟨bx, ox, ex, -, hcx⟩ := HX.out A w2 hrx
      obtain ⟨by', oy, ey, -, hcy⟩ := HY.out B w2 hr2
      subst ex
      subst ey
      simp only [scell, CellsFrom, Nat.add_zero, Nat.mul_one] at hcx hcy
      obtain ⟨cx, -⟩ := hcx
      obtain ⟨cy, -⟩ := hcy
      go_wp2_with fail
      refine (HSh.out _ _ _ _ _ hrx hr2).mono ?_
      rintro e w3 ⟨rfl, n, rfl⟩
      go_wp2_with fail
      go_quiet ((go_at_call 27; (first | exact quiet_add_left (HS.out _) | exact quiet_left (HS.out _))))
      go_wp2
      go_ret
      exact ⟨ret_int HR2.out.symm, by repeat (first | exact hbb | apply drewN_below)⟩
    all_goals
      have HR2 := Lib.hid (show cmpS a b = _ by rw [HRl.out, hlex.out])
      have HSh := Lib.hid (fun A c B d W hA hB => shared_c A c xs B d ys W hA hB (by omega) (by omega))
      clear hlex HR HRl
      generalize alikeN xs ys = q at *
      first
        | (have e3 : ((q : Int) == (xs.length : Int)) = true := by rw [beq_iff_eq]; omega)
        | (have e3 : ((q : Int) == (xs.length : Int)) = false := by rw [beq_eq_false_iff_ne]; omega)
      first
        | (have e4 : ((q : Int) == (ys.length : Int)) = true := by rw [beq_iff_eq]; omega)
        | (have e4 : ((q : Int) == (ys.length : Int)) = false := by rw [beq_eq_false_iff_ne]; omega)
      have H3 := Lib.hid h3
      have H4 := Lib.hid h4
      clear h3 h4
      go_enter Tryd.func14, Tryd.ntmps14
      go_wp2_with fail
      refine HA.out.mono ?_
      rintro e w1 ⟨A, c, rfl, hc, hr, hb1⟩
      go_wp2_with fail
      refine (HB.out _).mono ?_
      rintro e w2 ⟨B, d, rfl, hd, hr2, hb2⟩
      have hbb := hb1.trans (hb2.mono hb1.size)
      have hrx := hr.below hb2 (Nat.le_refl _)
      go_wp2_with fail
      refine (HSh.out _ _ _ _ _ hrx hr2).mono ?_
      rintro e w3 ⟨rfl, n, rfl⟩
      go_wp2_with fail
      go_ret
      exact ⟨ret_int (by rw [HR2.out]; have h3 := H3.out; have h4 := H4.out; (repeat' split) <;> omega), by repeat (first | exact hbb | apply drewN_below)⟩

set_option maxRecDepth 100000 in
set_option maxHeartbeats 4000000 in
theorem rjoin_c (A : Option Addr) (c : Nat) (xs : List ByteArray) (w : World) (hA : Rd w 1 A (xs.map scell)) (hc : xs.length ≤ c) (hl : xs.length ≤ 1048576) (hsz : ∀ x ∈ xs, x.size ≤ 1048576) :
    Calls Tryd.prog 22 #[.slice A xs.length c] w fun e w' => e = .returned (.tuple #[.string (joinP xs).1, .int .i64 (joinP xs).2]) ∧ Below w.heap.size w w' := by
  have hR := Lib.hid (joinP_path xs)
  have hPL := Lib.hid (fun k (hk : k ≤ xs.length) => path_len (xs.take k) 1048576 (fun x hx => hsz x (List.mem_of_mem_take hx)))
  have HS := Lib.hid hsz
  clear hsz
  go_enter Tryd.func22, Tryd.ntmps22
  go_wp2
  go_loopw [4, 5] (fun sv i wr => ∃ k : Nat, k ≤ xs.length ∧ i = .int .i64 k ∧ sv = .string (mkB (pathL (xs.take k))) ∧ Hid ((xs.take k).all validB = true) ∧ w = wr) (fun _ i _ => xs.length - (intOf i).toNat)
  case atStart => exact ⟨0, Nat.zero_le _, rfl, rfl, Lib.hid rfl, rfl⟩
  case round =>
    obtain ⟨k, hk, rfl, rfl, hall, rfl⟩ := hrel
    by_cases hlt : k < xs.length
    · have hki : (k : Int) < (xs.length : Int) := by omega
      obtain ⟨b, o, e1, hbs, hcc⟩ := hA.row (i := k) (c := scell xs[k]) (map_at _ hlt)
      subst e1
      simp only [scell, CellsFrom, Nat.add_zero, Nat.mul_one] at hcc
      obtain ⟨c0, -⟩ := hcc
      have hxs := HS.out _ (List.getElem_mem hlt)
      have hv := Lib.hid (fun W => rvalid_c xs[k] W (by omega))
      have hpl : (mkB (pathL (xs.take k))).size ≤ 1099513724928 := by
        have h1 := hPL.out k hk
        have h2 : (xs.take k).length * (1048576 + 1) ≤ 1048576 * (1048576 + 1) := Nat.mul_le_mul_right _ (by rw [List.length_take]; omega)
        rw [mkB_size]
        omega
      have HP := Lib.hid (show mkB (pathL (xs.take k)) ++ (⟨#[47]⟩ ++ xs[k]) = mkB (pathL (xs.take (k + 1))) from by
        apply ba_ext
        rw [take_snoc _ k hlt, path_snoc]
        simp [mkB_list])
      have HAll := Lib.hid (fun hv : validB xs[k] = true => all_snoc (p := validB) hlt hall.out hv)
      have HBad := Lib.hid (fun hv : validB xs[k] = false => (show checkN xs = 2 by
        unfold checkN
        rw [if_pos]
        exact List.all_eq_false.2 ⟨xs[k], List.getElem_mem hlt, by rw [hv]; simp⟩))
      generalize xs[k] = x at *
      generalize mkB (pathL (xs.take k)) = sv at *
      cases hvb : validB x with
      | true =>
        rw [hvb] at hv
        have HV := Lib.hid hvb
        clear hvb
        go_wp2_with (go_at_call 32; refine (hv.out _).mono ?_; rintro e w' ⟨rfl, rfl⟩)
        go_roundw
        case rel => exact ⟨k + 1, by omega, by go_num, by rw [HP.out], Lib.hid (HAll.out HV.out), by first | rfl | trivial⟩
        case measure => simp [intOf]; omega
      | false =>
        have HR := Lib.hid (show joinP xs = (⟨#[]⟩, 2) by rw [hR.out, HBad.out hvb, if_neg (by decide)])
        rw [hvb] at hv
        clear hvb
        go_wp2_with (go_at_call 32; refine (hv.out _).mono ?_; rintro e w' ⟨rfl, rfl⟩)
        go_ret2
        exact ⟨by rw [HR.out]; rfl, Below.refl _ _⟩
    · obtain rfl : k = xs.length := by omega
      have hki : ¬ (xs.length : Int) < (xs.length : Int) := by omega
      have hallx : xs.all validB = true := by have := hall.out; rwa [List.take_length] at this
      have hck : checkN xs = if 8 < xs.length then 7 else 0 := by unfold checkN; rw [hallx, if_neg (by simp)]
      have hR2 := hR.out
      rw [hck] at hR2
      rw [List.take_length]
      by_cases h8 : 8 < xs.length
      · have h8' : (8 : Int) < (xs.length : Int) := by omega
        have HR := Lib.hid (show joinP xs = (⟨#[]⟩, 7) by rw [hR2, if_pos h8, if_neg (by decide)])
        clear hallx hck hR2
        go_wp2
        go_ret2
        exact ⟨by rw [HR.out]; rfl, Below.refl _ _⟩
      · have h8' : ¬ (8 : Int) < (xs.length : Int) := by omega
        by_cases hp : pathL xs = []
        · have HR := Lib.hid (show joinP xs = (⟨#[47]⟩, 0) by rw [hR2, if_neg h8, if_pos rfl, if_pos hp])
          rw [hp, show mkB [] = ⟨#[]⟩ from rfl]
          clear hallx hck hR2 hp
          go_wp2
          go_ret2
          exact ⟨by rw [HR.out]; rfl, Below.refl _ _⟩
        · have HR := Lib.hid (show joinP xs = (mkB (pathL xs), 0) by rw [hR2, if_neg h8, if_pos rfl, if_neg hp])
          have hne : (mkB (pathL xs)).toList.isEmpty = false := toList_ne (fun e => hp (List.eq_nil_of_length_eq_zero e))
          clear hallx hck hR2 hp
          generalize mkB (pathL xs) = sv at *
          go_wp2
          go_ret2
          exact ⟨by rw [HR.out]; rfl, Below.refl _ _⟩

set_option maxRecDepth 100000 in
set_option maxHeartbeats 1000000 in
theorem rcommon_c (a b : ByteArray) (w : World) (ha : a.size ≤ 1048576) (hb : b.size ≤ 1048576) :
    Calls Tryd.prog 10 #[.string a, .string b] w fun e w' => e = .returned (.tuple #[.string (commonP a b).1, .int .i64 (commonP a b).2]) ∧ Below w.heap.size w w' := by
  have la := split_len a
  have lb := split_len b
  have na := split_names a
  have HR := Lib.hid (show commonP a b = if (splitP a).2 = 0 then (if (splitP b).2 = 0 then joinP ((splitP a).1.take (alikeN (splitP a).1 (splitP b).1)) else (⟨#[]⟩, (splitP b).2)) else (⟨#[]⟩, (splitP a).2) from rfl)
  have HA := Lib.hid (rsplit_c a w ha)
  have HB := Lib.hid (fun W => rsplit_c b W hb)
  generalize (splitP a).1 = xs at *
  generalize (splitP b).1 = ys at *
  generalize (splitP a).2 = ea at *
  generalize (splitP b).2 = eb at *
  by_cases h1 : ea = 0
  · subst h1
    by_cases h2 : eb = 0
    · subst h2
      have hq := alike_le xs ys
      have HR := Lib.hid (show commonP a b = joinP (xs.take (alikeN xs ys)) by rw [HR.out, if_pos rfl, if_pos rfl])
      have HN := Lib.hid na
      clear na
      go_enter Tryd.func10, Tryd.ntmps10
      go_wp2_with fail
      refine HA.out.mono ?_
      rintro e w1 ⟨A, c, rfl, hc, hr, hb1⟩
      go_wp2_with fail
      refine (HB.out _).mono ?_
      rintro e w2 ⟨B, d, rfl, hd, hr2, hb2⟩
      have hbb := hb1.trans (hb2.mono hb1.size)
      have hr3 := hr.below hb2 (Nat.le_refl _)
      have hal := Lib.hid (shared_c A c xs B d ys w2 hr3 hr2 (by omega) (by omega))
      have T : SliceTy Tryd.prog 36 9 1 16 := SliceTy.mk' Tryd.underlying36 (z := .string ByteArray.empty) (by kernel_rfl) rfl (by omega)
      generalize hql : alikeN xs ys = q at *
      clear hql
      have hcut := fun W => cut_h T A xs.length c q (by omega) (q : Int) rfl .i64 W
      have hj := Lib.hid (fun n => rjoin_c (cutA A 0 c 1) c (xs.take q) (w2.drewN n) (by rw [cutA_zero, List.map_take]; exact ((hr3.take q).drewN n)) (by rw [List.length_take]; omega) (by rw [List.length_take]; omega) (fun x hx => by have := HN.out x (List.mem_of_mem_take hx); omega))
      have hlt : (xs.take q).length = q := by rw [List.length_take]; omega
      rw [hlt] at hj
      clear hlt
      go_wp2_with fail
      refine hal.out.mono ?_
      rintro e w3 ⟨rfl, n, rfl⟩
      go_wp2_with fail
      refine (hj.out n).mono ?_
      rintro e w4 ⟨rfl, hb4⟩
      have hbb4 := (drewN_below hbb n).trans (hb4.mono (drewN_below hbb n).size)
      go_wp2_with fail
      go_ret2
      exact ⟨by rw [HR.out]; rfl, hbb4⟩
    · have HR2 := Lib.hid (show commonP a b = (⟨#[]⟩, eb) by rw [HR.out, if_pos rfl, if_neg h2])
      have h2' : (eb != 0) = true := by simpa using h2
      clear h2 na HR
      go_enter Tryd.func10, Tryd.ntmps10
      go_wp2_with fail
      refine HA.out.mono ?_
      rintro e w1 ⟨A, c, rfl, hc, hr, hb1⟩
      go_wp2_with fail
      refine (HB.out _).mono ?_
      rintro e w2 ⟨B, d, rfl, hd, hr2, hb2⟩
      have hbb := hb1.trans (hb2.mono hb1.size)
      go_wp2_with fail
      go_ret2
      exact ⟨by rw [HR2.out]; rfl, hbb⟩
  · have HR := Lib.hid (show commonP a b = (⟨#[]⟩, ea) by rw [HR.out, if_neg h1])
    have h1' : (ea != 0) = true := by simpa using h1
    clear h1 na
    go_enter Tryd.func10, Tryd.ntmps10
    go_wp2_with fail
    refine HA.out.mono ?_
    rintro e w1 ⟨A, c, rfl, hc, hr, hb1⟩
    go_wp2_with fail
    go_ret2
    exact ⟨by rw [HR.out]; rfl, hb1⟩
end Go.Proofs.YtmbffobifiidnaaDoor
