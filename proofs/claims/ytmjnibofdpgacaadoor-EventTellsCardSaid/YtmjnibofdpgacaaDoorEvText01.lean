/-
  event.Text of own counts that are 0 or 1.
-/
import Derived.Test.YtmjnibofdpgacaaDoorEvTotal
import Derived.Test.YtmjnibofdpgacaaDoorItoa01
set_option linter.unusedSimpArgs false
set_option linter.unusedVariables false
namespace Gc
open Go Go.RowKit

def word5 : Nat → ByteArray
  | 0 => ⟨#[108, 111, 119]⟩
  | 1 => ⟨#[104, 105, 103, 104]⟩
  | 2 => ⟨#[109, 97, 120]⟩
  | 3 => ⟨#[111, 111, 109]⟩
  | _ => ⟨#[111, 111, 109, 95, 107, 105, 108, 108]⟩
end Gc
namespace Go.Proofs.YtmjnibofdpgacaaDoor
open Go.RowKit Gc

def text01 (ls : List Tal) (id : Int) : Nat → ByteArray
  | 0 => ⟨#[]⟩
  | m + 1 => text01 ls id m ++ (word5 m ++ ⟨#[32]⟩ ++ digit (ownE ls id (m : Nat)) ++ ⟨#[10]⟩)

theorem digit_size (n : Int) : (digit n).size = 1 := by unfold digit; split <;> rfl
theorem word5_size (m : Nat) : (word5 m).size ≤ 8 := by
  match m with
  | 0 | 1 | 2 | 3 | _ + 4 => simp [word5, ByteArray.size]
theorem text01_size (ls : List Tal) (id : Int) : ∀ m, (text01 ls id m).size ≤ 16 * m
  | 0 => by simp [text01, ByteArray.size]
  | m + 1 => by
    have := text01_size ls id m
    have h1 := digit_size (ownE ls id (m : Nat))
    have h2 := word5_size m
    simp only [text01, ByteArray.size_append]
    have h3 : (⟨#[32]⟩ : ByteArray).size = 1 := rfl
    have h4 : (⟨#[10]⟩ : ByteArray).size = 1 := rfl
    omega

theorem index5 (j : Nat) (hj : j < 5) (w : World) :
    (Instr.index 86 (.agg #[.string ⟨#[108, 111, 119]⟩, .string ⟨#[104, 105, 103, 104]⟩, .string ⟨#[109, 97, 120]⟩, .string ⟨#[111, 111, 109]⟩, .string ⟨#[111, 111, 109, 95, 107, 105, 108, 108]⟩]) (.int .i64 (j : Nat))).run Tryd.prog w = .ok (.string (word5 j)) w := by
  have h1 := run_underlying Tryd.underlying86 w
  have h2 := Tryd.sizeOf9 w
  have h3 := Tryd.isAgg9 w
  obtain rfl | rfl | rfl | rfl | rfl : j = 0 ∨ j = 1 ∨ j = 2 ∨ j = 3 ∨ j = 4 := by omega
  all_goals simp [Instr.index, h1, h2, h3, asIntOf, go_sem, part, word5]

set_option maxRecDepth 100000 in
set_option maxHeartbeats 4000000 in
theorem evText01_c (A : Option Addr) (c : Nat) (xs : List Grp) (next : Int) (D : Option Addr) (e : Nat) (ls : List Tal) (id : Int) (w : World) (hA : Rd w 6 A (xs.map Grp.cells)) (hok : ∀ x ∈ xs, x.ok) (hlA : xs.length ≤ 1048576) (hcap : xs.length ≤ c)
    (hD : Rd w 7 D (ls.map Tal.cells)) (hlD : ls.length ≤ 1048576) (hv : evB xs next ls = true) (hf : 0 ≤ tix ls id) (h01 : ∀ k : Nat, k < 5 → ownE ls id k = 0 ∨ ownE ls id k = 1) :
    Calls Tryd.prog 40 #[.agg #[.slice A xs.length c, .int .i64 next], .slice D ls.length e, .int .i64 id, .bool true] w fun e w' => e = .returned (.tuple #[.string (text01 ls id 5), .int .i64 0]) ∧ Below w.heap.size w w' := by
  have hB1 : Below w.heap.size w (w.alloc (.cells #[.slice A xs.length c, .int .i64 next] 24)) := (Below.refl _ _).alloc (Nat.le_refl _) _
  have hA1 := hA.below hB1 (Nat.le_refl _)
  have hD1 := hD.below hB1 (Nat.le_refl _)
  have z1 := hB1.size
  have HV := Lib.hid (fun W hA hD => evValid_c A c xs next D e ls W hA hok (by omega) hcap hD (by omega))
  have HF := Lib.hid (fun W hD => evFind_c D e ls id W hD (by omega))
  have HO := Lib.hid (fun k W hD => own_c D e ls id k W hD (by omega))
  have H01 := Lib.hid h01
  have HT := Lib.hid (fun m => (show text01 ls id (m + 1) = text01 ls id m ++ (word5 m ++ ⟨#[32]⟩ ++ digit (ownE ls id (m : Nat)) ++ ⟨#[10]⟩) from rfl))
  clear h01
  go_enter Tryd.func40, Tryd.ntmps40
  go_wp2_with fail
  generalize hWx : w.alloc _ = W1 at *
  clear hWx hA hD
  refine (HV.out W1 hA1 hD1).mono ?_
  rintro e0 W ⟨rfl, hb⟩
  rw [hv]
  have hD2 := hD1.below hb (Nat.le_refl _)
  have hB2 := hB1.trans (hb.mono z1)
  clear hA1 hD1 hb hv hB1
  go_wp2_with fail
  refine (HF.out W hD2).mono ?_
  rintro e0 W2 ⟨rfl, hb⟩
  have hD3 := hD2.below hb (Nat.le_refl _)
  have hB3 := hB2.trans (hb.mono hB2.size)
  have z3 := hB3.size
  generalize tix ls id = z at *
  have hz : ¬ z < 0 := by omega
  clear hb hD2 hB2 hf
  go_wp2_with fail
  refine (names_c W2).mono ?_
  rintro e0 W3 ⟨rfl, hb⟩
  have hD4 := hD3.below hb (Nat.le_refl _)
  have hB4 := hB3.trans (hb.mono z3)
  clear hb hD3 hB3
  go_wp2
  go_loopw [10, 23] (fun s i wr => ∃ m : Nat, m ≤ 5 ∧ i = .int .i64 m ∧ s = .string (text01 ls id m) ∧ Below W3.heap.size W3 wr)
    (fun _ i _ => 5 - (intOf i).toNat)
  case atStart => exact ⟨0, by omega, rfl, rfl, Below.refl _ _⟩
  case round =>
    obtain ⟨m, hm, rfl, rfl, hB⟩ := hrel
    have hBr := hB4.trans (hB.mono hB4.size)
    by_cases hm5 : m < 5
    · have hmi : (m : Int) < 5 := by omega
      have hix := fun W => index5 m hm5 W
      have hD5 := hD4.below hB (Nat.le_refl _)
      have hdi := itoa01_c (ownE ls id m) (H01.out m hm5)
      have HS := Lib.hid (HT.out m)
      have HDi := Lib.hid hdi
      clear hdi
      have k1 := text01_size ls id m
      have k2 := digit_size (ownE ls id m)
      have k3 := word5_size m
      have k4 : (⟨#[32]⟩ : ByteArray).size = 1 := rfl
      have k5 : (⟨#[10]⟩ : ByteArray).size = 1 := rfl
      generalize text01 ls id m = tm at *
      generalize digit (ownE ls id m) = dm at *
      generalize word5 m = wm at *
      go_wp2_with fail
      refine (HO.out m wr hD5).mono ?_
      rintro e0 W5 ⟨rfl, hb⟩
      have hB5 := hB.trans (hb.mono hB.size)
      go_wp2_with fail
      refine (HDi.out W5).mono ?_
      rintro e0 W6 ⟨rfl, rfl⟩
      go_wp2
      go_roundw
      case rel => exact ⟨m + 1, by omega, by go_num, by rw [HS.out], hB5⟩
      case measure => simp [intOf]; omega
    · obtain rfl : m = 5 := by omega
      obtain ⟨tm, htm⟩ : ∃ tm, tm = text01 ls id 5 := ⟨_, rfl⟩
      have HTM := Lib.hid htm
      rw [← htm]
      clear htm
      go_wp2
      go_ret2
      exact ⟨by rw [← HTM.out]; rfl, hBr⟩

end Go.Proofs.YtmjnibofdpgacaaDoor
