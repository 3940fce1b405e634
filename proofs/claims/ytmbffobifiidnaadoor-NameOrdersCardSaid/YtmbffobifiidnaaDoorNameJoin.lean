/-
  name.Join, name.Common.
-/
import Derived.Test.YtmbffobifiidnaaDoorNameCmp
set_option linter.unusedSimpArgs false
set_option linter.unusedVariables false
namespace Gc
open Go Go.RowKit

/-- name.Join: a path, and an error -/
def joinP (xs : List ByteArray) : ByteArray × Int := if checkN xs = 0 then (⟨#[47]⟩ ++ mkB (Lib.join (xs.map (·.data.toList)) [47]), 0) else (⟨#[]⟩, checkN xs)
/-- name.Common -/
def commonP (a b : ByteArray) : ByteArray × Int :=
  if (splitP a).2 = 0 then (if (splitP b).2 = 0 then joinP ((splitP a).1.take (alikeN (splitP a).1 (splitP b).1)) else (⟨#[]⟩, (splitP b).2)) else (⟨#[]⟩, (splitP a).2)

theorem join_len : ∀ (xs : List (List UInt8)) (n : Nat), (∀ x ∈ xs, x.length ≤ n) → (Lib.join xs [47]).length ≤ xs.length * (n + 1)
  | [], n, _ => by simp [Lib.join]
  | [a], n, h => by have := h a (by simp); simp [Lib.join]; omega
  | a :: b :: xs, n, h => by
    have ih := join_len (b :: xs) n (fun x hx => h x (by simp [hx]))
    have := h a (by simp)
    rw [show Lib.join (a :: b :: xs) [47] = a ++ 47 :: Lib.join (b :: xs) [47] from by simp [Lib.join, List.intercalate, List.intersperse]]
    simp only [List.length_append, List.length_cons] at ih ⊢
    rw [Nat.add_mul]
    omega
end Gc
namespace Go.Proofs.YtmbffobifiidnaaDoor
open Go.RowKit Gc

set_option maxRecDepth 100000 in
set_option maxHeartbeats 1000000 in
theorem strJoin_c (A : Option Addr) (c : Nat) (xs : List ByteArray) (w : World) (hA : Rd w 1 A (xs.map scell)) (hc : xs.length ≤ c) (hl : xs.length ≤ 1048576) (hsz : ∀ x ∈ xs, x.size ≤ 1048576) :
    Calls Tryd.prog 31 #[.slice A xs.length c, .string ⟨#[47]⟩] w fun e w' => e = .returned (.string (mkB (Lib.join (xs.map (·.data.toList)) [47]))) ∧ Below w.heap.size w w' := by
  cases xs with
  | nil =>
    refine (Tryd.strings_Join_none A c ⟨#[47]⟩ w).mono ?_
    rintro e w' ⟨he, rfl⟩
    exact ⟨he, Below.refl _ _⟩
  | cons x xs =>
    obtain ⟨b, o, rfl, hb, hcc⟩ := hA 0 (by simp)
    refine (Tryd.strings_Join b o c (x :: xs) ⟨#[47]⟩ w ?_ hb (by omega) hc ?_).mono ?_
    · intro j y hy
      obtain ⟨b', o', e, -, h2⟩ := hA.row (i := j) (c := scell y) (by rw [List.getElem?_map, hy]; rfl)
      simp only [Option.some.injEq, Addr.mk.injEq, and_true] at e
      obtain ⟨rfl, rfl⟩ := e
      simp only [scell, CellsFrom, Nat.mul_one, Nat.add_zero] at h2
      exact h2.1
    · have := join_len ((x :: xs).map (·.data.toList)) 1048576 (fun y hy => by
        obtain ⟨z, hz, rfl⟩ := List.mem_map.1 hy
        exact hsz z hz)
      rw [List.length_map] at this
      have h2 : (x :: xs).length * (1048576 + 1) ≤ 1048576 * (1048576 + 1) := Nat.mul_le_mul_right _ hl
      exact Nat.le_trans this (by omega)
    · rintro e w' ⟨he, hw⟩
      exact ⟨he, hw⟩

set_option maxRecDepth 100000 in
set_option maxHeartbeats 1000000 in
theorem join_c (A : Option Addr) (c : Nat) (xs : List ByteArray) (w : World) (hA : Rd w 1 A (xs.map scell)) (hc : xs.length ≤ c) (hl : xs.length ≤ 1048576) (hsz : ∀ x ∈ xs, x.size ≤ 1048576) :
    Calls Tryd.prog 19 #[.slice A xs.length c] w fun e w' => e = .returned (.tuple #[.string (joinP xs).1, .int .i64 (joinP xs).2]) ∧ Below w.heap.size w w' := by
  have hk := check_c A c xs w hA (by omega) (fun x hx => by have := hsz x hx; omega)
  have hJ := Lib.hid (fun W (hW : Below w.heap.size w W) => strJoin_c A c xs W (hA.below hW (Nat.le_refl _)) hc hl hsz)
  have hR := Lib.hid (show joinP xs = if checkN xs = 0 then (⟨#[47]⟩ ++ mkB (Lib.join (xs.map (·.data.toList)) [47]), 0) else (⟨#[]⟩, checkN xs) from rfl)
  have hjl : (mkB (Lib.join (xs.map (·.data.toList)) [47])).size ≤ 1099513724928 := by
    have := join_len (xs.map (·.data.toList)) 1048576 (fun y hy => by
      obtain ⟨z, hz, rfl⟩ := List.mem_map.1 hy
      exact hsz z hz)
    rw [List.length_map] at this
    have h2 : xs.length * (1048576 + 1) ≤ 1048576 * (1048576 + 1) := Nat.mul_le_mul_right _ hl
    rw [mkB_size]
    omega
  generalize mkB (Lib.join (xs.map (·.data.toList)) [47]) = js at *
  by_cases hz : checkN xs = 0
  · rw [hz] at hk
    have HR := Lib.hid (show joinP xs = (⟨#[47]⟩ ++ js, 0) by rw [hR.out, if_pos hz])
    have HK := Lib.hid hk
    clear hz hk hR hsz hA
    go_enter Tryd.func19, Tryd.ntmps19
    go_wp2_with fail
    refine HK.out.mono ?_
    rintro e w1 ⟨rfl, hb1⟩
    go_wp2_with fail
    refine (hJ.out _ hb1).mono ?_
    rintro e w2 ⟨rfl, hb2⟩
    have hbb := hb1.trans (hb2.mono hb1.size)
    go_wp2_with fail
    go_ret2
    exact ⟨by rw [HR.out]; rfl, hbb⟩
  · have HR := Lib.hid (show joinP xs = (⟨#[]⟩, checkN xs) by rw [hR.out, if_neg hz])
    have hz' : (checkN xs != 0) = true := by simpa using hz
    clear hz hR hsz hA
    generalize checkN xs = q at *
    have HK := Lib.hid hk
    clear hk
    go_enter Tryd.func19, Tryd.ntmps19
    go_wp2_with fail
    refine HK.out.mono ?_
    rintro e w1 ⟨rfl, hb1⟩
    go_wp2_with fail
    go_ret2
    exact ⟨by rw [HR.out]; rfl, hb1⟩

set_option maxRecDepth 100000 in
set_option maxHeartbeats 1000000 in
theorem common_c (a b : ByteArray) (w : World) (ha : a.size ≤ 1048576) (hb : b.size ≤ 1048576) :
    Calls Tryd.prog 9 #[.string a, .string b] w fun e w' => e = .returned (.tuple #[.string (commonP a b).1, .int .i64 (commonP a b).2]) ∧ Below w.heap.size w w' := by
  have la := split_len a
  have lb := split_len b
  have na := split_names a
  have HR := Lib.hid (show commonP a b = if (splitP a).2 = 0 then (if (splitP b).2 = 0 then joinP ((splitP a).1.take (alikeN (splitP a).1 (splitP b).1)) else (⟨#[]⟩, (splitP b).2)) else (⟨#[]⟩, (splitP a).2) from rfl)
  have HA := Lib.hid (split_c a w ha)
  have HB := Lib.hid (fun W => split_c b W hb)
  generalize (splitP a).1 = xs at *
  generalize (splitP b).1 = ys at *
  generalize (splitP a).2 = ea at *
  generalize (splitP b).2 = eb at *
  by_cases h1 : ea = 0
  · subst h1
    by_cases h2 : eb = 0
    · subst h2
      have hq := alike_le xs ys
      have HR := Lib.hid (show commonP a b = joinP (xs.take (alikeN xs ys)) by rw [HR.out, if_pos rfl, if_pos rfl])
      have HN := Lib.hid na
      clear na
      go_enter Tryd.func9, Tryd.ntmps9
      go_wp2_with fail
      refine HA.out.mono ?_
      rintro e w1 ⟨A, c, rfl, hc, hr, hb1⟩
      go_wp2_with fail
      refine (HB.out _).mono ?_
      rintro e w2 ⟨B, d, rfl, hd, hr2, hb2⟩
      have hbb := hb1.trans (hb2.mono hb1.size)
      have hr3 := hr.below hb2 (Nat.le_refl _)
      have hal := Lib.hid (alike_c A c xs B d ys w2 hr3 hr2 (by omega) (by omega))
      have T : SliceTy Tryd.prog 36 9 1 16 := SliceTy.mk' Tryd.underlying36 (z := .string ByteArray.empty) (by kernel_rfl) rfl (by omega)
      generalize hql : alikeN xs ys = q at *
      clear hql
      have hcut := fun W => cut_h T A xs.length c q (by omega) (q : Int) rfl .i64 W
      have hj := Lib.hid (fun n => join_c (cutA A 0 c 1) c (xs.take q) (w2.drewN n) (by rw [cutA_zero, List.map_take]; exact ((hr3.take q).drewN n)) (by rw [List.length_take]; omega) (by rw [List.length_take]; omega) (fun x hx => by have := HN.out x (List.mem_of_mem_take hx); omega))
      have hlt : (xs.take q).length = q := by rw [List.length_take]; omega
      rw [hlt] at hj
      clear hlt
      go_wp2_with fail
      refine hal.out.mono ?_
      rintro e w3 ⟨rfl, n, rfl⟩
      go_wp2_with fail
      refine (hj.out n).mono ?_
      rintro e w4 ⟨rfl, hb4⟩
      have hbb4 := (drewN_below hbb n).trans (hb4.mono (drewN_below hbb n).size)
      go_wp2_with fail
      go_ret2
      exact ⟨by rw [HR.out]; rfl, hbb4⟩
    · have HR2 := Lib.hid (show commonP a b = (⟨#[]⟩, eb) by rw [HR.out, if_pos rfl, if_neg h2])
      have h2' : (eb != 0) = true := by simpa using h2
      clear h2 na HR
      go_enter Tryd.func9, Tryd.ntmps9
      go_wp2_with fail
      refine HA.out.mono ?_
      rintro e w1 ⟨A, c, rfl, hc, hr, hb1⟩
      go_wp2_with fail
      refine (HB.out _).mono ?_
      rintro e w2 ⟨B, d, rfl, hd, hr2, hb2⟩
      have hbb := hb1.trans (hb2.mono hb1.size)
      go_wp2_with fail
      go_ret2
      exact ⟨by rw [HR2.out]; rfl, hbb⟩
  · have HR := Lib.hid (show commonP a b = (⟨#[]⟩, ea) by rw [HR.out, if_neg h1])
    have h1' : (ea != 0) = true := by simpa using h1
    clear h1 na
    go_enter Tryd.func9, Tryd.ntmps9
    go_wp2_with fail
    refine HA.out.mono ?_
    rintro e w1 ⟨A, c, rfl, hc, hr, hb1⟩
    go_wp2_with fail
    go_ret2
    exact ⟨by rw [HR.out]; rfl, hb1⟩
end Go.Proofs.YtmbffobifiidnaaDoor
