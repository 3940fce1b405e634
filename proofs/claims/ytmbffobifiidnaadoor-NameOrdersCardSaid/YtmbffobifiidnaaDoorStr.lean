/-
  Plain words for strings and names: which bytes may stand in a name, which strings are names; small laws for results. Nothing of the program stands here, but for the conversion of a string to bytes.
-/
import Derived.Test.YtmbffobifiidnaaDoorBase
import Derived.Laws.BitsAllLaws
import Derived.Laws.BitsLemmas
set_option linter.unusedSimpArgs false
set_option linter.unusedVariables false
namespace Gc
open Go Go.RowKit

theorem ret_bool {a b : Bool} (h : a = b) : Ending.returned (.bool a) = .returned (.bool b) := by rw [h]
/-- A fact kept from the walk. -/
def Aside (p : Prop) : Prop := p
theorem Aside.out {p : Prop} (h : Aside p) : p := h
theorem ret_val {a b : Value} (h : a = b) : Ending.returned a = .returned b := by rw [h]

def icells (n : Int) : List Value := [.int .i64 n]
def bcell (b : UInt8) : List Value := [.int .u8 b.toNat]
def scell (s : ByteArray) : List Value := [.string s]

theorem conv_bytes {P : Program} (w : World) (src dst e : TypeId) (s : ByteArray) (hs : P.underlying src = some .string) (hd : P.underlying dst = some (.slice e)) (he : P.underlying e = some (.int .u8)) :
    ∃ c w1, (convert src dst (.string s)).run P w = .ok (.slice (some ⟨w.heap.size, 0, none⟩) s.size c) w1 ∧ Rd w1 1 (some ⟨w.heap.size, 0, none⟩) (s.data.toList.map bcell) ∧ Below w.heap.size w w1 := by
  refine ⟨_, _, run_bytes_of_string w src dst e s hs hd he, fun i hi => ⟨_, _, rfl, by simp, ?_⟩, (Below.refl _ _).drew.alloc (Nat.le_refl _) _⟩
  have hi' : i < s.data.size := by simpa using hi
  simp only [List.getElem_map, bcell, CellsFrom]
  refine ⟨?_, trivial⟩
  rw [show 0 + i * 1 + 0 = i from by omega]
  have := World.cell?_alloc_mark w.drew (bytesRow s (grownCap w s.size 0 e)) e ((bytesRow s (grownCap w s.size 0 e)).size, (bytesRow s (grownCap w s.size 0 e)).size + 1) i
  exact this.trans (by rw [bytesRow_at _ _ _ hi']; rfl)

/-! ## names -/
def innerB (c : Int) : Bool := (decide (97 ≤ c) && decide (c ≤ 122)) || (decide (65 ≤ c) && decide (c ≤ 90)) || (decide (48 ≤ c) && decide (c ≤ 57)) || c == 95 || c == 45

def validB (s : ByteArray) : Bool := s.data.toList.all (fun c => innerB c.toNat) && decide (0 < s.size) && decide (s.size ≤ 32) && !(s.data.toList.head? == some 45)

theorem toList_nil {s : ByteArray} (h : s.size = 0) : s.toList = [] := by rw [ByteArray.toList_eq]; exact List.eq_nil_of_length_eq_zero (by simpa using h)
theorem toList_ne {s : ByteArray} (h : ¬ s.size = 0) : s.toList.isEmpty = false := by
  rw [ByteArray.toList_eq]; simp; intro e; exact h (by simp [ByteArray.size, e])

theorem head_eq {s : ByteArray} (h : 0 < s.size) : s.data.toList.head? = some s[0] := by
  rw [List.head?_eq_getElem?]; simp [ByteArray.getElem_eq_getElem_data]

theorem u8_eq45 (b : UInt8) : ((b.toNat : Int) == 45) = (b == 45) := by
  rw [Bool.eq_iff_iff]; simp [← UInt8.toNat_inj]; omega
theorem u8_ne45 (b : UInt8) : ((b.toNat : Int) != 45) = !(b == 45) := by
  rw [bne, u8_eq45]

/-! ## a set of controllers -/
theorem nat_andNot31 (a : Nat) (h : a < 18446744073709551616) : a &&& 18446744073709551584 = a / 32 * 32 := by
  apply Nat.eq_of_testBit_eq
  intro i
  have e1 : (18446744073709551584 : Nat) = 2 ^ 64 - (31 + 1) := by rfl
  have e2 : (31 : Nat) = 2 ^ 5 - 1 := by rfl
  have e3 : a / 32 * 32 = (a >>> 5) <<< 5 := by rw [Nat.shiftLeft_eq, Nat.shiftRight_eq_div_pow]
  rw [Nat.testBit_and, e1, Nat.testBit_two_pow_sub_succ (by omega), e2, Nat.testBit_two_pow_sub_one, e3, Nat.testBit_shiftLeft, Nat.testBit_shiftRight]
  by_cases h5 : i < 5
  · simp [h5]; omega
  · have h64 : a.testBit i = true → i < 64 := by
      intro ht
      by_cases hi : i < 64
      · exact hi
      · rw [Nat.testBit_lt_two_pow (Nat.lt_of_lt_of_le h (show 18446744073709551616 ≤ 2 ^ i from by
          have : (18446744073709551616 : Nat) = 2 ^ 64 := by rfl
          rw [this]; exact Nat.pow_le_pow_right (by omega) (by omega)))] at ht
        cases ht
    rw [show 5 + (i - 5) = i from by omega]
    cases ht : a.testBit i
    · simp
    · have h6 := h64 ht
      have h7 : 5 ≤ i := by omega
      simp [h6, h5, h7]

theorem andNot31 (a : Int) (h0 : 0 ≤ a) (h1 : a ≤ 9223372036854775807) : bits .andNot .i64 a 31 = a / 32 * 32 := by
  obtain ⟨n, rfl⟩ := Int.eq_ofNat_of_zero_le h0
  show IntKind.i64.wrap ((BitVec.ofInt 64 (n : Int) &&& ~~~ BitVec.ofInt 64 31).toNat : Int) = _
  rw [BitVec.toNat_and, BitVec.ofInt_natCast, BitVec.toNat_ofNat, Nat.mod_eq_of_lt (by omega), show (~~~ BitVec.ofInt 64 31).toNat = 18446744073709551584 from by rfl, nat_andNot31 n (by omega)]
  rw [IntKind.wrap_i64]
  omega
theorem andNot31_yes (a : Int) (h0 : 31 < a) (h1 : a ≤ 9223372036854775807) : (bits .andNot .i64 a 31 != 0) = true := by
  rw [andNot31 a (by omega) h1, bne_iff_ne]; omega
theorem andNot31_no (a : Int) (h0 : 0 ≤ a) (h1 : a ≤ 31) : (bits .andNot .i64 a 31 != 0) = false := by
  rw [andNot31 a (by omega) (by omega)]
  have : a / 32 * 32 = 0 := by omega
  rw [this]; rfl

end Gc
