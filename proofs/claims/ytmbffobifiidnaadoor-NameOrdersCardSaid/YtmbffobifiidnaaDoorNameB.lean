/-
  name.Split, name.names.
-/
import Derived.Test.YtmbffobifiidnaaDoorNameA
set_option linter.unusedSimpArgs false
set_option linter.unusedVariables false
namespace Gc
open Go Go.RowKit

theorem splitL_len : ∀ l : List UInt8, (splitL l).length ≤ l.length + 1 ∧ ∀ x ∈ splitL l, x.length ≤ l.length
  | [] => by simp [splitL]
  | c :: l => by
    have ih := splitL_len l
    unfold splitL
    split
    · refine ⟨by simp; omega, fun x hx => ?_⟩
      rcases List.mem_cons.1 hx with e | hx
      · subst e; simp
      · have := ih.2 x hx; simp; omega
    · cases hs : splitL l with
      | nil => simp
      | cons a t =>
        rw [hs] at ih
        simp only [List.length_cons] at ih ⊢
        refine ⟨by omega, fun x hx => ?_⟩
        rcases List.mem_cons.1 hx with e | hx
        · subst e; have := ih.2 a (by simp); simp only [List.length_cons]; omega
        · have := ih.2 x (by simp [hx]); omega

theorem mkB_size (l : List UInt8) : (mkB l).size = l.length := rfl
theorem size_list (s : ByteArray) : s.data.toList.length = s.size := rfl
theorem pieces_len (s : ByteArray) : (piecesS s).length ≤ s.size + 1 ∧ ∀ x ∈ piecesS s, x.size ≤ s.size := by
  have h := splitL_len s.data.toList
  rw [size_list] at h
  unfold piecesS
  refine ⟨by rw [List.length_map]; exact h.1, fun x hx => ?_⟩
  obtain ⟨y, hy, rfl⟩ := List.mem_map.1 hx
  exact h.2 y hy
theorem rest_size (s : ByteArray) : (restS s).size ≤ s.size := by
  unfold restS
  rw [mkB_size, List.length_tail, size_list]
  omega
theorem slash_pre (s : ByteArray) : Lib.hasPrefix s.data.toList (⟨#[47]⟩ : ByteArray).data.toList = slashB s := by
  unfold Lib.hasPrefix slashB
  cases s.data.toList with
  | nil => rfl
  | cons c l => simp [List.isPrefixOf, Bool.beq_comm]
theorem slash_trim (s : ByteArray) (h : slashB s = true) : (⟨(Lib.trimPrefix s.data.toList (⟨#[47]⟩ : ByteArray).data.toList).toArray⟩ : ByteArray) = restS s := by
  unfold Lib.trimPrefix restS
  rw [slash_pre, h, if_pos rfl]
  show mkB (s.data.toList.drop 1) = _
  rw [List.drop_one]

theorem split_names (s : ByteArray) : ∀ x ∈ (splitP s).1, x.size ≤ 32 := by
  intro x hx
  unfold splitP at hx
  split at hx
  · simp at hx
  split at hx
  · simp at hx
  split at hx
  · rename_i hc
    unfold checkN at hc
    split at hc
    · cases hc
    · rename_i hv
      have hv : (piecesS (restS s)).all validB = true := by simpa using hv
      have := List.all_eq_true.1 hv x hx
      simp only [validB, Bool.and_eq_true, decide_eq_true_eq] at this
      exact this.1.2
  · simp at hx
theorem split_len (s : ByteArray) : (splitP s).1.length ≤ 8 := by
  unfold splitP
  split
  · simp
  split
  · simp
  split
  · rename_i hc
    unfold checkN at hc
    split at hc
    · cases hc
    · split at hc
      · cases hc
      · simp only; omega
  · simp
end Gc
namespace Go.Proofs.YtmbffobifiidnaaDoor
open Go.RowKit Gc

set_option maxRecDepth 100000 in
set_option maxHeartbeats 1000000 in
theorem split_c (s : ByteArray) (w : World) (hs : s.size ≤ 1048576) :
    Calls Tryd.prog 16 #[.string s] w fun e w' => ∃ A c, e = .returned (.tuple #[.slice A (splitP s).1.length c, .int .i64 (splitP s).2]) ∧ (splitP s).1.length ≤ c ∧ Rd w' 1 A ((splitP s).1.map scell) ∧ Below w.heap.size w w' := by
  have hcp := Any.strings_CutPrefix Tryd.lays103 s ⟨#[47]⟩ w
  rw [slash_pre] at hcp
  have hR := Lib.hid (show splitP s = if slashB s = false then ([], 2) else if (restS s).size = 0 then ([], 0) else if checkN (piecesS (restS s)) = 0 then (piecesS (restS s), 0) else ([], checkN (piecesS (restS s))) from rfl)
  have hrs := rest_size s
  cases hsl : slashB s with
  | false =>
    rw [hsl] at hcp
    have HR := Lib.hid (show splitP s = ([], 2) by rw [hR.out, hsl, if_pos rfl])
    have HC := Lib.hid hcp
    clear hcp hsl hR
    go_enter Tryd.func16, Tryd.ntmps16
    go_wp2_with fail
    refine HC.out.mono ?_
    rintro e w' ⟨rfl, hw⟩
    subst hw
    go_wp2_with fail
    go_ret2
    exact ⟨none, 0, by rw [HR.out]; rfl, by rw [HR.out]; simp, by rw [HR.out]; exact Rd.nil _ _ _, Below.refl _ _⟩
  | true =>
    rw [slash_trim s hsl, hsl] at hcp
    have hR := Lib.hid (show splitP s = if (restS s).size = 0 then ([], 0) else if checkN (piecesS (restS s)) = 0 then (piecesS (restS s), 0) else ([], checkN (piecesS (restS s))) by rw [hR.out, hsl, if_neg (by simp)])
    clear hsl
    generalize restS s = r at *
    by_cases h0 : r.size = 0
    · have hr : r = ⟨#[]⟩ := ba_size0 h0
      have HR := Lib.hid (show splitP s = ([], 0) by rw [hR.out, if_pos h0])
      subst hr
      have HC := Lib.hid hcp
      clear hcp hR h0
      go_enter Tryd.func16, Tryd.ntmps16
      go_wp2_with fail
      refine HC.out.mono ?_
      rintro e w' ⟨rfl, hw⟩
      subst hw
      go_wp2_with fail
      go_ret2
      exact ⟨none, 0, by rw [HR.out]; rfl, by rw [HR.out]; simp, by rw [HR.out]; exact Rd.nil _ _ _, Below.refl _ _⟩
    · have hne := toList_ne h0
      obtain ⟨pl, ps⟩ := pieces_len r
      have hsp := strSplit_c r w (by omega)
      have hB : Below w.heap.size w (w.alloc (.cells ((piecesS r).map Value.string).toArray 9)) := (Below.refl _ _).alloc (Nat.le_refl _) _
      have hrd : Rd (w.alloc (.cells ((piecesS r).map Value.string).toArray 9)) 1 (some ⟨w.heap.size, 0, none⟩) ((piecesS r).map scell) := rd_strs (T := 9) (by show (w.heap.push _)[w.heap.size]? = _; simp)
      have hck := check_c (some ⟨w.heap.size, 0, none⟩) (piecesS r).length (piecesS r) _ hrd (by omega) (fun x hx => by have := ps x hx; omega)
      have hR := Lib.hid (show splitP s = if checkN (piecesS r) = 0 then (piecesS r, 0) else ([], checkN (piecesS r)) by rw [hR.out, if_neg h0])
      generalize hp : piecesS r = p at *
      clear hp ps
      generalize hw1 : w.alloc (.cells (p.map Value.string).toArray 9) = w1 at *
      have HC := Lib.hid hcp
      have HS := Lib.hid hsp
      have HK := Lib.hid hck
      have Hrd := Lib.hid hrd
      clear hcp hsp hck hw1 hrd
      cases hk : decide (checkN p = 0) with
      | true =>
        have hk' := of_decide_eq_true hk
        have HR := Lib.hid (show splitP s = (p, 0) by rw [hR.out, if_pos hk'])
        rw [hk'] at HK
        clear hk hk' hR
        go_enter Tryd.func16, Tryd.ntmps16
        go_wp2_with fail
        refine HC.out.mono ?_
        rintro e w' ⟨rfl, hw⟩
        subst hw
        go_wp2_with fail
        refine HS.out.mono ?_
        rintro e w' ⟨rfl, hw⟩
        subst hw
        go_wp2_with fail
        refine HK.out.mono ?_
        rintro e w' ⟨rfl, hb⟩
        go_wp2_with fail
        go_ret2
        exact ⟨_, _, by rw [HR.out]; rfl, by rw [HR.out]; exact Nat.le_refl _, by rw [HR.out]; exact Hrd.out.below hb (Nat.le_refl _), hB.trans (hb.mono hB.size)⟩
      | false =>
        have hk' := of_decide_eq_false hk
        have HR := Lib.hid (show splitP s = ([], checkN p) by rw [hR.out, if_neg hk'])
        have hkn : (checkN p != 0) = true := by simpa using hk'
        clear hk hk' hR
        generalize checkN p = q at *
        go_enter Tryd.func16, Tryd.ntmps16
        go_wp2_with fail
        refine HC.out.mono ?_
        rintro e w' ⟨rfl, hw⟩
        subst hw
        go_wp2_with fail
        refine HS.out.mono ?_
        rintro e w' ⟨rfl, hw⟩
        subst hw
        go_wp2_with fail
        refine HK.out.mono ?_
        rintro e w' ⟨rfl, hb⟩
        go_wp2_with fail
        go_ret2
        exact ⟨none, 0, by rw [HR.out]; rfl, by rw [HR.out]; simp, by rw [HR.out]; exact Rd.nil _ _ _, hB.trans (hb.mono hB.size)⟩

set_option maxRecDepth 100000 in
set_option maxHeartbeats 1000000 in
theorem names_c (s : ByteArray) (w : World) (hs : s.size ≤ 1048576) :
    Calls Tryd.prog 24 #[.string s] w fun e w' => ∃ A c, e = .returned (.tuple #[.slice A (splitP s).1.length c, .bool (okS s)]) ∧ (splitP s).1.length ≤ c ∧ Rd w' 1 A ((splitP s).1.map scell) ∧ Below w.heap.size w w' := by
  have HS := Lib.hid (split_c s w hs)
  have HO := Lib.hid (show okS s = ((splitP s).2 == 0) from rfl)
  go_enter Tryd.func24, Tryd.ntmps24
  go_wp2_with fail
  refine HS.out.mono ?_
  rintro e w' ⟨A, c, rfl, hc, hr, hb⟩
  go_wp2_with fail
  go_ret2
  exact ⟨A, c, by rw [HO.out]; rfl, hc, hr, hb⟩
end Go.Proofs.YtmbffobifiidnaaDoor
