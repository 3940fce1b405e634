/-
  ref1.Split.
-/
import Derived.Test.YtmbffobifiidnaaDoorNameJoin
set_option linter.unusedSimpArgs false
set_option linter.unusedVariables false
namespace Gc
open Go Go.RowKit

theorem drop_at' {s : ByteArray} {i : Nat} (h : i < s.size) : s.data.toList.drop i = s[i] :: s.data.toList.drop (i + 1) := by
  rw [List.drop_eq_getElem_cons (show i < s.data.toList.length from h)]
  simp [ByteArray.getElem_eq_getElem_data]
theorem u8_ne {b : UInt8} (h : ¬ b = 47) : (((b.toNat : Nat) : Int) != 47) = true := by
  rw [bne_iff_ne]
  intro e
  exact h (UInt8.toNat_inj.1 (by show b.toNat = 47; omega))
theorem word_app {s : ByteArray} {k : Nat} (h : k < s.size) (wd : List UInt8) : mkB wd ++ s.extract k (k + 1) = mkB (wd ++ [s[k]]) := by
  apply ba_ext
  have e : (s.extract k (k + 1)).data.toList = [s[k]] := by
    rw [Lib.extract_data]
    have := drop_at' h
    simp [this]
  rw [show (mkB wd ++ s.extract k (k + 1)).data.toList = (mkB wd).data.toList ++ (s.extract k (k + 1)).data.toList from by simp, e]
  rfl
/-- a word begun, and the pieces of what follows -/
def prepL (w : List UInt8) : List (List UInt8) → List (List UInt8)
  | [] => [w]
  | h :: t => (w ++ h) :: t
theorem prep_nil (l : List UInt8) : prepL [] (splitL l) = splitL l := by
  cases h : splitL l with
  | nil => exact absurd h (splitL_ne l)
  | cons a t => rfl
theorem prep_end (w : List UInt8) : prepL w (splitL []) = [w] := by simp [prepL, splitL]
theorem prep_cut (w l : List UInt8) : prepL w (splitL (47 :: l)) = w :: splitL l := by simp [prepL, splitL]
theorem prep_step (w l : List UInt8) {c : UInt8} (h : c ≠ 47) : prepL w (splitL (c :: l)) = prepL (w ++ [c]) (splitL l) := by
  have e : splitL (c :: l) = match splitL l with | [] => [[c]] | h :: t => (c :: h) :: t := by rw [splitL, if_neg h]; cases splitL l <;> rfl
  rw [e]
  cases hs : splitL l with
  | nil => exact absurd hs (splitL_ne l)
  | cons a t => simp [prepL]
/-- what the loop holds before it looks at byte i -/
def SpInv (s : ByteArray) (i : Nat) (ds : List (List UInt8)) (wd : List UInt8) : Prop :=
  (i ≤ s.size ∧ splitL s.data.toList.tail = ds ++ prepL wd (splitL (s.data.toList.drop i)) ∨ i = s.size + 1 ∧ splitL s.data.toList.tail = ds) ∧ ds.all (fun d => validB (mkB d)) = true ∧ wd.length + ds.length ≤ i

theorem spInv_start (s : ByteArray) (h : 1 ≤ s.size) : SpInv s 1 [] [] := by
  refine ⟨.inl ⟨h, ?_⟩, rfl, by simp⟩
  rw [List.drop_one, prep_nil, List.nil_append]
theorem drop_at {s : ByteArray} {i : Nat} (h : i < s.size) : s.data.toList.drop i = s[i] :: s.data.toList.drop (i + 1) := by
  rw [List.drop_eq_getElem_cons (show i < s.data.toList.length from h)]
  simp [ByteArray.getElem_eq_getElem_data]
theorem spInv_step {s : ByteArray} {i : Nat} {ds wd} (h : SpInv s i ds wd) (hi : i < s.size) (hc : s[i] ≠ 47) : SpInv s (i + 1) ds (wd ++ [s[i]]) := by
  obtain ⟨h1 | h1, h2, h3⟩ := h
  · refine ⟨.inl ⟨by omega, ?_⟩, h2, by simp; omega⟩
    rw [h1.2, drop_at hi, prep_step _ _ hc]
  · omega
theorem spInv_cut {s : ByteArray} {i : Nat} {ds wd} (h : SpInv s i ds wd) (hi : i ≤ s.size) (hc : ∀ hi : i < s.size, s[i] = 47) (hv : validB (mkB wd) = true) : SpInv s (i + 1) (ds ++ [wd]) [] := by
  obtain ⟨h1 | h1, h2, h3⟩ := h
  · refine ⟨?_, by rw [List.all_append, h2]; simp [hv], by simp; omega⟩
    by_cases hl : i < s.size
    · refine .inl ⟨by omega, ?_⟩
      rw [h1.2, drop_at hl, hc hl, prep_cut, prep_nil, List.append_assoc]
      rfl
    · refine .inr ⟨by omega, ?_⟩
      rw [h1.2, List.drop_eq_nil_of_le (show s.data.toList.length ≤ i from by have : s.data.toList.length = s.size := rfl; omega), prep_end]
  · omega
theorem spInv_bad {s : ByteArray} {i : Nat} {ds wd} (h : SpInv s i ds wd) (hi : i ≤ s.size) (hc : ∀ hi : i < s.size, s[i] = 47) (hv : validB (mkB wd) = false) : checkN (piecesS (restS s)) = 2 := by
  obtain ⟨h1 | h1, h2, h3⟩ := h
  · have hm : wd ∈ splitL s.data.toList.tail := by
      rw [h1.2]
      by_cases hl : i < s.size
      · rw [drop_at hl, hc hl, prep_cut]; simp
      · rw [List.drop_eq_nil_of_le (show s.data.toList.length ≤ i from by have : s.data.toList.length = s.size := rfl; omega), prep_end]; simp
    unfold checkN
    rw [if_pos]
    rw [List.all_eq_false]
    exact ⟨mkB wd, by unfold piecesS restS; exact List.mem_map.2 ⟨wd, hm, rfl⟩, by rw [hv]; simp⟩
  · omega
theorem spInv_done {s : ByteArray} {i : Nat} {ds wd} (h : SpInv s i ds wd) (hi : s.size < i) : piecesS (restS s) = ds.map mkB ∧ checkN (piecesS (restS s)) = if 8 < ds.length then 7 else 0 := by
  obtain ⟨h1 | h1, h2, h3⟩ := h
  · omega
  · have e : piecesS (restS s) = ds.map mkB := by unfold piecesS restS; rw [mkB_list, h1.2]
    refine ⟨e, ?_⟩
    rw [e]
    unfold checkN
    rw [List.all_map, show (validB ∘ mkB) = fun d => validB (mkB d) from rfl, h2, if_neg (by simp), List.length_map]
end Gc
namespace Go.Proofs.YtmbffobifiidnaaDoor
open Go.RowKit Gc

theorem siStr : SliceTy Tryd.prog 36 9 1 16 := SliceTy.mk' Tryd.underlying36 (z := .string ByteArray.empty) (by kernel_rfl) rfl (by omega)

set_option maxRecDepth 100000 in
set_option maxHeartbeats 4000000 in
theorem rsplit_c (s : ByteArray) (w : World) (hs : s.size ≤ 1048576) :
    Calls Tryd.prog 21 #[.string s] w fun e w' => ∃ A c, e = .returned (.tuple #[.slice A (splitP s).1.length c, .int .i64 (splitP s).2]) ∧ (splitP s).1.length ≤ c ∧ Rd w' 1 A ((splitP s).1.map scell) ∧ Below w.heap.size w w' := by
  have hR := Lib.hid (show splitP s = if slashB s = false then ([], 2) else if (restS s).size = 0 then ([], 0) else if checkN (piecesS (restS s)) = 0 then (piecesS (restS s), 0) else ([], checkN (piecesS (restS s))) from rfl)
  by_cases h0 : s.size = 0
  · have hz : s = ⟨#[]⟩ := ba_size0 h0
    subst hz
    have HR := Lib.hid (show splitP ⟨#[]⟩ = ([], 2) by kernel_rfl)
    go_enter Tryd.func21, Tryd.ntmps21
    go_wp2_with fail
    go_ret2
    exact ⟨none, 0, by rw [HR.out]; rfl, by rw [HR.out]; simp, by rw [HR.out]; exact Rd.nil _ _ _, Below.refl _ _⟩
  · have hne := toList_ne h0
    have h1 : 0 < s.size := by omega
    have hh := head_eq h1
    by_cases hc : s[0] = 47
    · have hsl : slashB s = true := by unfold slashB; rw [hh, hc]; rfl
      have hc' : (((s[0].toNat : Nat) : Int) != 47) = false := by rw [hc]; rfl
      have hR := Lib.hid (show splitP s = if (restS s).size = 0 then ([], 0) else if checkN (piecesS (restS s)) = 0 then (piecesS (restS s), 0) else ([], checkN (piecesS (restS s))) by rw [hR.out, hsl, if_neg (by simp)])
      have hrl : (restS s).size = s.size - 1 := by unfold restS; rw [mkB_size, List.length_tail]; rfl
      by_cases h1' : s.size = 1
      · have hs1 : s = ⟨#[47]⟩ := by
          apply ba_ext
          rw [slash_eq hsl]
          have : s.data.toList.tail.length = 0 := by rw [List.length_tail]; show s.size - 1 = 0; omega
          rw [List.eq_nil_of_length_eq_zero this]
        subst hs1
        have HR := Lib.hid (show splitP ⟨#[47]⟩ = ([], 0) by kernel_rfl)
        clear hR hrl hsl hh hc hc' hne
        go_enter Tryd.func21, Tryd.ntmps21
        go_wp2_with fail
        go_ret2
        exact ⟨none, 0, by rw [HR.out]; rfl, by rw [HR.out]; simp, by rw [HR.out]; exact Rd.nil _ _ _, Below.refl _ _⟩
      · have hR := Lib.hid (show splitP s = if checkN (piecesS (restS s)) = 0 then (piecesS (restS s), 0) else ([], checkN (piecesS (restS s))) by rw [hR.out, if_neg (by omega)])
        have hne1 : (s.toList == [47]) = false := by
          rw [beq_eq_false_iff_ne, ByteArray.toList_eq]
          intro e
          have := congrArg List.length e
          simp only [List.length_cons, List.length_nil] at this
          exact h1' this
        have hst := Lib.hid (spInv_start s (by omega))
        clear hsl hh hc hrl
        go_enter Tryd.func21, Tryd.ntmps21
        go_wp2_with fail
        go_loopw [4, 5, 6] (fun v5 wv i wr => ∃ (k : Nat) (ds : List (List UInt8)) (wd : List UInt8), i = .int .i64 k ∧ 1 ≤ k ∧ k ≤ s.size + 1 ∧ wv = .string (mkB wd) ∧ Own wr w.heap.size 9 1 v5 ((ds.map mkB).map scell) ∧ Hid (SpInv s k ds wd) ∧ Below w.heap.size w wr) (fun _ _ i _ => s.size + 1 - (intOf i).toNat)
        case atStart => exact ⟨1, [], [], rfl, by omega, by omega, rfl, Own.nil _ _ _ _, hst, Below.refl _ _⟩
        case round =>
          obtain ⟨k, ds, wd, rfl, hk1, hk2, rfl, hown, hI, hB⟩ := hrel
          by_cases hstep : ∃ hi : k < s.size, ¬ s[k] = 47
          · obtain ⟨hlt, hc⟩ := hstep
            have hki : (k : Int) < (s.size : Int) := by omega
            have hki2 : (k : Int) ≤ (s.size : Int) := by omega
            have hcb := u8_ne hc
            have hI' := Lib.hid (spInv_step hI.out hlt hc)
            have hwb : (mkB wd).size ≤ 1048577 := by have := hI.out.2.2; rw [mkB_size]; omega
            have HW := Lib.hid (word_app hlt wd)
            generalize mkB wd = wb at *
            clear hc hI
            go_wp2
            go_roundw
            case rel => exact ⟨k + 1, ds, _, by go_num, by omega, by omega, by rw [HW.out], hown, hI', hB⟩
            case measure => simp [intOf]; omega
          · have hcut : ∀ hi : k < s.size, s[k] = 47 := fun hi => Classical.not_not.1 (fun hc => hstep ⟨hi, hc⟩)
            clear hstep
            by_cases hle : k ≤ s.size
            · have hki2 : (k : Int) ≤ (s.size : Int) := by omega
              have hwb : (mkB wd).size ≤ 1048577 := by have := hI.out.2.2; rw [mkB_size]; omega
              have hdl : ds.length ≤ 1048577 := by have := hI.out.2.2; omega
              have hv := Lib.hid (fun W => rvalid_c (mkB wd) W (by omega))
              cases hvb : validB (mkB wd) with
              | false =>
                have HR := Lib.hid (show splitP s = ([], 2) by rw [hR.out, spInv_bad hI.out hle hcut hvb, if_neg (by decide)])
                rw [hvb] at hv
                clear hvb hI
                generalize mkB wd = wb at *
                by_cases hlt : k < s.size
                · have hki : (k : Int) < (s.size : Int) := by omega
                  have hcb : (((s[k].toNat : Nat) : Int) != 47) = false := by rw [hcut hlt]; rfl
                  clear hcut
                  go_wp2_with (go_at_call 32; refine (hv.out _).mono ?_; rintro e w' ⟨rfl, rfl⟩)
                  go_ret2
                  exact ⟨none, 0, by rw [HR.out]; rfl, by rw [HR.out]; simp, by rw [HR.out]; exact Rd.nil _ _ _, hB⟩
                · have hki : ¬ (k : Int) < (s.size : Int) := by omega
                  clear hcut
                  go_wp2_with (go_at_call 32; refine (hv.out _).mono ?_; rintro e w' ⟨rfl, rfl⟩)
                  go_ret2
                  exact ⟨none, 0, by rw [HR.out]; rfl, by rw [HR.out]; simp, by rw [HR.out]; exact Rd.nil _ _ _, hB⟩
              | true =>
                have hI' := Lib.hid (spInv_cut hI.out hle hcut hvb)
                rw [hvb] at hv
                clear hvb hI
                have hBx : Below w.heap.size w wr := hB
                have hzr := hB.size
                have HOW := Lib.hid (show ∀ v w', Own w' w.heap.size 9 1 v ((ds.map mkB).map scell ++ [scell (mkB wd)]) → Own w' w.heap.size 9 1 v (((ds ++ [wd]).map mkB).map scell) from fun v w' h => by rw [List.map_append, List.map_append]; exact h)
                generalize mkB wd = wb at *
                by_cases hlt : k < s.size
                · have hki : (k : Int) < (s.size : Int) := by omega
                  have hcb : (((s[k].toNat : Nat) : Int) != 47) = false := by rw [hcut hlt]; rfl
                  clear hcut
                  go_wp2_with (first
                    | (go_at_call 32; refine (hv.out _).mono ?_; rintro e w' ⟨rfl, rfl⟩)
                    | (at_builtin; refine app1 siStr (scell wb) rfl _ _ rfl rfl rfl hown rfl rfl rfl (by simp; omega) (by omega) hzr hBx ?_; intro v5 w5 hown5 hB5 hg5 hat5))
                  go_roundw
                  case rel => exact ⟨k + 1, ds ++ [wd], [], by go_num, by omega, by omega, rfl, HOW.out _ _ hown5, hI', hB5⟩
                  case measure => simp [intOf]; omega
                · have hki : ¬ (k : Int) < (s.size : Int) := by omega
                  clear hcut
                  go_wp2_with (first
                    | (go_at_call 32; refine (hv.out _).mono ?_; rintro e w' ⟨rfl, rfl⟩)
                    | (at_builtin; refine app1 siStr (scell wb) rfl _ _ rfl rfl rfl hown rfl rfl rfl (by simp; omega) (by omega) hzr hBx ?_; intro v5 w5 hown5 hB5 hg5 hat5))
                  go_roundw
                  case rel => exact ⟨k + 1, ds ++ [wd], [], by go_num, by omega, by omega, rfl, HOW.out _ _ hown5, hI', hB5⟩
                  case measure => simp [intOf]; omega
            · have hki2 : ¬ (k : Int) ≤ (s.size : Int) := by omega
              obtain ⟨hp, hk⟩ := spInv_done hI.out (by omega)
              obtain ⟨A, c, rfl, hcc, -, hrd, -, -⟩ := hown.rd
              rw [List.length_map, List.length_map] at *
              by_cases h8 : 8 < ds.length
              · have h8' : (8 : Int) < (ds.length : Int) := by omega
                have HR := Lib.hid (show splitP s = ([], 7) by rw [hR.out, hk, if_pos h8, if_neg (by decide)])
                clear hk hp
                go_wp2
                go_ret2
                exact ⟨none, 0, by rw [HR.out]; rfl, by rw [HR.out]; simp, by rw [HR.out]; exact Rd.nil _ _ _, hB⟩
              · have h8' : ¬ (8 : Int) < (ds.length : Int) := by omega
                have HR := Lib.hid (show splitP s = (ds.map mkB, 0) by rw [hR.out, hk, if_neg h8, if_pos rfl, hp])
                have HL := Lib.hid (show ds.length = (ds.map mkB).length by rw [List.length_map])
                clear hk hp
                go_wp2
                go_ret2
                exact ⟨A, c, by rw [HR.out]; show _ = Ending.returned (Value.tuple #[.slice A (ds.map mkB).length c, _]); rw [← HL.out]; rfl, by rw [HR.out]; show (ds.map mkB).length ≤ c; rw [List.length_map]; exact hcc, by rw [HR.out]; exact hrd, hB⟩
    · have hsl : slashB s = false := by unfold slashB; rw [hh]; simpa using hc
      have hc' : (((s[0].toNat : Nat) : Int) != 47) = true := by
        exact u8_ne hc
      have HR := Lib.hid (show splitP s = ([], 2) by rw [hR.out, hsl, if_pos rfl])
      clear hR hsl hc
      go_enter Tryd.func21, Tryd.ntmps21
      go_wp2_with fail
      go_ret2
      exact ⟨none, 0, by rw [HR.out]; rfl, by rw [HR.out]; simp, by rw [HR.out]; exact Rd.nil _ _ _, Below.refl _ _⟩
end Go.Proofs.YtmbffobifiidnaaDoor
