/-
  name.inner, name.Valid and the reference's Valid: each answers just 'validB' of the string.
-/
import Derived.Test.YtmbffobifiidnaaDoorProg
import Derived.Test.YtmbffobifiidnaaDoorStr
set_option linter.unusedSimpArgs false
set_option linter.unusedVariables false
namespace Go.Proofs.YtmbffobifiidnaaDoor
open Go.RowKit Gc

set_option maxRecDepth 100000 in
set_option maxHeartbeats 1000000 in
theorem inner_c (c : Int) (w : World) (h0 : 0 ≤ c) (h1 : c ≤ 255) :
    Calls Tryd.prog 47 #[.int .u8 c] w fun e w' => e = .returned (.bool (innerB c)) ∧ w = w' := by
  go_enter Tryd.func47, Tryd.ntmps47
  go_wp2
  all_goals go_ret
  all_goals exact ⟨ret_bool (by rw [Bool.eq_iff_iff]; simp [innerB] <;> omega), rfl⟩

set_option maxRecDepth 100000 in
set_option maxHeartbeats 1000000 in
theorem valid_c (s : ByteArray) (w : World) (hs : s.size ≤ 140737488351232) :
    Calls Tryd.prog 38 #[.string s] w fun e w' => e = .returned (.bool (validB s)) ∧ Below w.heap.size w w' := by
  obtain ⟨c, w1, hrun, hrd, hB⟩ := conv_bytes (P := Tryd.prog) w 9 56 5 s Tryd.underlying9 Tryd.underlying56 Tryd.underlying5
  go_enter Tryd.func38, Tryd.ntmps38
  go_wp2
  go_loop [8] (fun i => ∃ k : Nat, k ≤ s.size ∧ i = .int .i64 k ∧ Hid ((s.data.toList.take k).all (fun c => innerB c.toNat) = true)) (fun i => s.size - (intOf i).toNat)
  case atStart => exact ⟨0, Nat.zero_le _, rfl, rfl⟩
  case round =>
    obtain ⟨k, hk, rfl, hall⟩ := hrel
    by_cases hlt : k < s.size
    · have hlt' : k < s.data.toList.length := by simpa using hlt
      obtain ⟨b, o, e, hbs, hc⟩ := hrd.row (i := k) (c := bcell s.data.toList[k]) (by simp [hlt])
      simp only [Option.some.injEq, Addr.mk.injEq, and_true] at e
      obtain ⟨rfl, rfl⟩ := e
      simp only [bcell, CellsFrom, Nat.add_zero, Nat.mul_one, Nat.zero_add, and_true] at hc
      have hin := inner_c (s.data.toList[k].toNat : Nat) w1 (by omega) (by have := s.data.toList[k].toNat_lt; omega)
      clear hrun
      generalize hx : s.data.toList[k] = x at *
      have Hx := Lib.hid hx
      clear hx
      cases hb : innerB x.toNat with
      | true =>
        rw [hb] at hin
        go_wp2_with (go_at_call 47; refine hin.mono ?_; rintro e w' ⟨rfl, rfl⟩)
        go_round
        case rel => exact ⟨k+1, by omega, by go_num, by show _ = _; rw [take_snoc _ _ hlt', List.all_append, hall.out, Hx.out]; simp [hb]⟩
        case measure => simp [intOf]; omega
      | false =>
        rw [hb] at hin
        go_wp2_with (go_at_call 47; refine hin.mono ?_; rintro e w' ⟨rfl, rfl⟩)
        go_ret
        refine ⟨ret_bool ?_, hB⟩
        have : s.data.toList.all (fun c => innerB c.toNat) = false := List.all_eq_false.2 ⟨x, by rw [← Hx.out]; exact List.getElem_mem _, by simp [hb]⟩
        simp [validB, this]
    · have hk' : k = s.size := by omega
      subst hk'
      by_cases h0 : s.size = 0
      · have he : s.toList = [] := toList_nil h0
        go_wp2
        go_ret
        exact ⟨ret_bool (by simp [validB, h0]), hB⟩
      · have he : s.toList.isEmpty = false := toList_ne h0
        have h1 : 0 < s.size := by omega
        have h2 : s.data.toList.all (fun c => innerB c.toNat) = true := by have := hall.out; rwa [List.take_of_length_le (by simp)] at this
        have H2 := Lib.hid h2
        clear h2 hall
        go_wp2
        all_goals go_ret
        all_goals refine ⟨ret_bool ?_, hB⟩
        · have h3 : s.size ≤ 32 := by omega
          simp [validB, H2.out, head_eq h1, h1, h3, u8_ne45]
        · have h3 : ¬ s.size ≤ 32 := by omega
          simp [validB, h3]

set_option maxRecDepth 100000 in
set_option maxHeartbeats 1000000 in
theorem rvalid_c (s : ByteArray) (w : World) (hs : s.size ≤ 140737488351232) :
    Calls Tryd.prog 32 #[.string s] w fun e w' => e = .returned (.bool (validB s)) ∧ w = w' := by
  by_cases h0 : s.size = 0
  · go_enter Tryd.func32, Tryd.ntmps32
    go_wp2
    go_ret
    exact ⟨ret_bool (by simp [validB, h0]), rfl⟩
  · have h1 : 0 < s.size := by omega
    have hz : ((s.size : Int) == 0) = false := by rw [beq_eq_false_iff_ne]; omega
    by_cases h3 : s.size ≤ 32
    · have h3' : (s.size : Int) ≤ 32 := by omega
      by_cases h4 : s[0] = 45
      · have h4' : (((s[0].toNat : Nat) : Int) == 45) = true := by rw [h4]; rfl
        go_enter Tryd.func32, Tryd.ntmps32
        go_wp2
        go_ret
        exact ⟨ret_bool (by simp [validB, head_eq h1, h4]), rfl⟩
      · have h4' : (((s[0].toNat : Nat) : Int) == 45) = false := by rw [u8_eq45]; simpa using h4
        go_enter Tryd.func32, Tryd.ntmps32
        go_wp2
        go_loop [3] (fun i => ∃ k : Nat, k ≤ s.size ∧ i = .int .i64 k ∧ Hid ((s.data.toList.take k).all (fun c => innerB c.toNat) = true)) (fun i => s.size - (intOf i).toNat)
        case atStart => exact ⟨0, Nat.zero_le _, rfl, rfl⟩
        case round =>
          obtain ⟨k, hk, rfl, hall⟩ := hrel
          by_cases hlt : k < s.size
          · have hlt' : k < s.data.toList.length := by simpa using hlt
            have hget : s[k] = s.data.toList[k] := by simp [ByteArray.getElem_eq_getElem_data]
            have Hx := Lib.hid hget
            clear hget
            go_wp2
            all_goals first
              | (go_ret
                 refine ⟨ret_bool ?_, rfl⟩
                 have hb : innerB (s[k].toNat : Nat) = false := by simp [innerB] <;> (try simp only [Bool.not_eq_eq_eq_not, Bool.not_true, Bool.not_false, decide_eq_false_iff_not, decide_eq_true_eq, beq_eq_false_iff_ne, beq_iff_eq, ne_eq] at *) <;> omega
                 have : s.data.toList.all (fun c => innerB c.toNat) = false := List.all_eq_false.2 ⟨s[k], by rw [Hx.out]; exact List.getElem_mem _, by simp [hb]⟩
                 simp [validB, this])
              | (go_round
                 case rel =>
                   have hb : innerB (s[k].toNat : Nat) = true := by simp [innerB] <;> (try simp only [Bool.not_eq_eq_eq_not, Bool.not_true, Bool.not_false, decide_eq_false_iff_not, decide_eq_true_eq, beq_eq_false_iff_ne, beq_iff_eq, ne_eq] at *) <;> omega
                   exact ⟨k+1, by omega, by go_num, by show _ = _; rw [take_snoc _ _ hlt', List.all_append, hall.out, ← Hx.out]; simp [hb]⟩
                 case measure => simp [intOf]; omega)
          · have hk' : k = s.size := by omega
            subst hk'
            have h2 : s.data.toList.all (fun c => innerB c.toNat) = true := by have := hall.out; rwa [List.take_of_length_le (by simp)] at this
            have H2 := Lib.hid h2
            clear h2 hall
            go_wp2
            go_ret
            exact ⟨ret_bool (by simp [validB, H2.out, head_eq h1, h1, h3, h4]), rfl⟩
    · have h3' : (32 : Int) < s.size := by omega
      go_enter Tryd.func32, Tryd.ntmps32
      go_wp2
      go_ret
      exact ⟨ret_bool (by simp [validB, h3]), rfl⟩

end Go.Proofs.YtmbffobifiidnaaDoor
