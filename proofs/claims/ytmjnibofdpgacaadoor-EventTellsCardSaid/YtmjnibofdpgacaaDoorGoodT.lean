/-
  Well-formed trees, plain: by the last node; adding and removing keep them. No program stands here.
-/
import Derived.Test.YtmjnibofdpgacaaDoorR5Add
import Derived.Test.YtmjnibofdpgacaaDoorR5Rem
set_option linter.unusedSimpArgs false
set_option linter.unusedVariables false
namespace Gc
open Go Go.RowKit

inductive Good : List Grp → Prop
  | root (r : Grp) : rootB r = true → ctlB r = true → Good [r]
  | snoc (xs : List Grp) (n : Grp) : Good xs → ctlB n = true → fineB xs n = true → dep xs n.parent + 1 ≤ 8 → Good (xs ++ [n])

theorem Good.pos {xs : List Grp} (h : Good xs) : 0 < xs.length := by cases h <;> simp
theorem lastId_snoc (xs : List Grp) (n : Grp) : lastId (xs ++ [n]) = n.id := by simp [lastId]
theorem Good.tr {xs : List Grp} (h : Good xs) : Tr xs ∧ ∀ x ∈ xs, x.id ≤ lastId xs := by
  induction h with
  | root r h1 h2 =>
    simp only [rootB, Bool.and_eq_true, beq_iff_eq] at h1
    exact ⟨Tr.root r h1.1 h1.2.1, fun x hx => by simp at hx; subst hx; simp [lastId]⟩
  | snoc xs n hG hc hf hd ih =>
    simp only [fineB, headB, Bool.and_eq_true, decide_eq_true_eq] at hf
    obtain ⟨⟨h1, _⟩, _, h2⟩ := hf
    have hlt : ∀ x ∈ xs, x.id < n.id := fun x hx => by have := ih.2 x hx; omega
    obtain ⟨p, hp, e⟩ := List.any_eq_true.1 h2
    refine ⟨Tr.snoc xs n ih.1 hlt ⟨p, hp, by simpa using e⟩, fun x hx => ?_⟩
    rw [lastId_snoc]
    rcases List.mem_append.1 hx with hx | hx
    · have := hlt x hx; omega
    · simp at hx; subst hx; exact Int.le_refl _

theorem good_of_check {xs : List Grp} {next : Int} (h : checkB xs next = true) : Good xs := by
  have hT := tr_of_check h
  simp only [checkB, Bool.and_eq_true, decide_eq_true_eq] at h
  obtain ⟨h1, h2, h3, h4, h5, h6⟩ := h
  have hroot : rootB (xs[0]'(by omega)) = true := by
    have : xs.headD default = xs[0]'(by omega) := by
      cases xs with
      | nil => simp at h1
      | cons x xs => rfl
    rw [this] at h3
    exact h3
  have hst : ∀ k (hk : k < xs.length), ctlB xs[k] = true ∧ (k = 0 ∨ fineB (xs.take k) xs[k] = true) ∧ dep (xs.take (k + 1)) xs[k].id ≤ 8 := by
    intro k hk
    have hs := List.all_eq_true.1 h4 k (List.mem_range.2 hk)
    unfold stepB at hs
    rw [List.getElem?_eq_getElem hk] at hs
    simp only [Bool.and_eq_true, Bool.or_eq_true, decide_eq_true_eq, beq_iff_eq] at hs
    exact ⟨hs.1, hs.2.1, hs.2.2⟩
  have hall : ∀ k, k < xs.length → Good (xs.take (k + 1)) := by
    intro k
    induction k with
    | zero =>
      intro hk
      have e : xs.take (0 + 1) = [xs[0]] := by rw [take_snoc _ _ hk]; simp
      rw [e]
      exact Good.root _ hroot (hst 0 hk).1
    | succ k ih =>
      intro hk
      have i1 := ih (by omega)
      obtain ⟨a, b, c⟩ := hst (k + 1) hk
      rcases b with b | b
      · omega
      rw [take_snoc _ _ hk] at c ⊢
      rw [dep_snoc _ _ (by simp; omega)] at c
      simp only [depStep, if_pos] at c
      exact Good.snoc _ _ i1 a b c
  have := hall (xs.length - 1) (by omega)
  rwa [show xs.length - 1 + 1 = xs.length by omega, List.take_length] at this

theorem Good.steps {xs : List Grp} (h : Good xs) : (List.range xs.length).all (stepB xs) = true ∧ rootB (xs.headD default) = true := by
  induction h with
  | root r h1 h2 =>
    refine ⟨?_, h1⟩
    have hd : dep (List.take 1 [r]) r.id = 0 := by rw [dep_zero]
    have : stepB [r] 0 = true := by
      unfold stepB
      simp only [List.getElem?_cons_zero, h2, Nat.zero_add, hd]
      rfl
    simp [List.range, List.range.loop, this]
  | snoc xs n hG hc hf hd ih =>
    have hp := hG.pos
    refine ⟨?_, ?_⟩
    · rw [List.length_append, List.length_singleton]
      refine range_snoc ?_ ?_
      · refine List.all_eq_true.2 fun i hi => ?_
        have hi' := List.mem_range.1 hi
        have := List.all_eq_true.1 ih.1 i hi
        unfold stepB at this ⊢
        rw [List.getElem?_append_left hi', List.take_append_of_le_length (by omega), List.take_append_of_le_length (by omega)]
        exact this
      · unfold stepB
        have e : (xs ++ [n])[xs.length]? = some n := by simp
        rw [e]
        simp only [hc]
        rw [List.take_append_of_le_length (Nat.le_refl _), List.take_length, hf, List.take_of_length_le (by simp), dep_snoc _ _ hp]
        simp only [depStep, if_pos, Bool.or_true, Bool.true_and, decide_eq_true_eq]
        exact hd
    · have := ih.2
      cases xs with
      | nil => simp at hp
      | cons x xs => exact this

theorem check_of_good {xs : List Grp} {next : Int} (h : Good xs) (hl : xs.length ≤ 64) (h1 : lastId xs < next) (h2 : next ≤ 2147483648) : checkB xs next = true := by
  have hp := h.pos
  obtain ⟨a, b⟩ := h.steps
  simp only [checkB, Bool.and_eq_true, decide_eq_true_eq]
  exact ⟨by omega, hl, b, a, h1, h2⟩

theorem check_next {xs : List Grp} {next : Int} (h : checkB xs next = true) : xs.length ≤ 64 ∧ lastId xs < next ∧ next ≤ 2147483648 ∧ 1 ≤ next := by
  have hG := (good_of_check h)
  have hT := hG.tr
  simp only [checkB, Bool.and_eq_true, decide_eq_true_eq] at h
  obtain ⟨h1, h2, h3, h4, h5, h6⟩ := h
  refine ⟨h2, h5, h6, ?_⟩
  have hx : xs[0]'(by omega) ∈ xs := List.getElem_mem _
  have := hT.2 _ hx
  have := hT.1.pos _ hx
  omega

/-- a tree that the maker gives -/
def OkT (xs : List Grp) (next : Int) : Prop := checkB xs next = true ∧ ∀ x ∈ xs, x.ok

theorem zero64 : I64 0 := ⟨by decide, by decide⟩
theorem lastId_mem {xs : List Grp} (h : 0 < xs.length) : ∃ x ∈ xs, x.id = lastId xs := by
  refine ⟨xs[xs.length - 1]'(by omega), List.getElem_mem _, ?_⟩
  have := lastId_take xs (xs.length - 1) (by omega)
  rw [show xs.length - 1 + 1 = xs.length by omega, List.take_length] at this
  exact this.symm
theorem okT_add {xs : List Grp} {next p : Int} {s : ByteArray} (h : OkT xs next) (hs : s.size ≤ 32) (he : (addT xs next p s).2.2.2 = 0) :
    OkT (addT xs next p s).1 (addT xs next p s).2.1 ∧ (addT xs next p s).1.length = xs.length + 1 := by
  unfold addT at he ⊢
  split at he
  · simp at he
  rename_i g1
  rw [if_neg g1]
  split at he
  · simp at he
  rename_i g2
  rw [if_neg g2]
  split at he
  · simp at he
  rename_i g3
  rw [if_neg g3]
  split at he
  · simp at he
  rename_i g4
  rw [if_neg g4]
  simp only [not_or, Bool.not_eq_false] at g1 g2 g3
  have hG := good_of_check h.1
  obtain ⟨hl, hn1, hn2, hn3⟩ := check_next h.1
  have hR := checkR_of h.1
  have hB : hasB xs p = true := by unfold hasR at g2; rw [hR] at g2; simpa using g2
  obtain ⟨q, hq, hqe⟩ := List.any_eq_true.1 hB
  have hqe : q.id = p := by simpa using hqe
  have hup := hG.tr.1.dep_up q hq
  rw [hqe] at hup
  have hanc : ancR xs next p = upL xs p := by unfold ancR; rw [if_pos g2]
  rw [hanc] at g4
  refine ⟨⟨check_of_good (Good.snoc _ _ hG ?_ ?_ ?_) (by simp; omega) ?_ (show next + 1 ≤ 2147483648 by omega), ?_⟩, by simp⟩
  · show (decide ((0 : Int) ≤ 0) && (decide ((0 : Int) ≤ 31) && (decide ((0 : Int) ≤ 0) && decide ((0 : Int) ≤ 1048576)))) = true
    decide
  · simp only [fineB, headB, Bool.and_eq_true, decide_eq_true_eq]
    refine ⟨⟨hn1, g1.2, by decide⟩, ?_, hB⟩
    have : xs.any (dupB ⟨next, p, s, 0, 0, 0⟩) = takenR xs p s := rfl
    rw [this]
    simpa using g3
  · show dep xs p + 1 ≤ 8
    omega
  · rw [lastId_snoc]
    show next < next + 1
    omega
  · intro x hx
    rcases List.mem_append.1 hx with hx | hx
    · exact h.2 x hx
    · simp at hx
      subst hx
      have hqo := (h.2 q hq).2.1
      rw [hqe] at hqo
      exact ⟨by show s.size ≤ _; omega, ⟨by show _ ≤ next; omega, by show next ≤ _; omega⟩, hqo, zero64, zero64, zero64⟩

theorem dep_filter {xs : List Grp} {id : Int} (h : Good xs) (h1 : ¬ id = 1) (hk : ∀ y ∈ xs, y.parent ≠ id) : Good (xs.filter (fun x => x.id != id)) ∧ ∀ x ∈ xs, x.id ≠ id → dep (xs.filter (fun x => x.id != id)) x.id = dep xs x.id := by
  induction h with
  | root r h2 h3 =>
    have e : [r].filter (fun x => x.id != id) = [r] := by
      have : r.id = 1 := by simp only [rootB, Bool.and_eq_true, beq_iff_eq] at h2; exact h2.1
      simp only [List.filter_cons, List.filter_nil]
      rw [if_pos (by rw [bne_iff_ne]; omega)]
    rw [e]
    exact ⟨Good.root r h2 h3, fun _ _ _ => rfl⟩
  | snoc xs n hG hc hf hd ih =>
    obtain ⟨i1, i2⟩ := ih fun y hy => hk y (by simp [hy])
    have hT := hG.tr
    have hpar : n.parent ≠ id := hk n (by simp)
    have hf' := hf
    simp only [fineB, headB, Bool.and_eq_true, decide_eq_true_eq] at hf'
    obtain ⟨⟨f1, f2⟩, f3, f4⟩ := hf'
    obtain ⟨q, hq, hqe⟩ := List.any_eq_true.1 f4
    have hqe : q.id = n.parent := by simpa using hqe
    have hqf : q ∈ xs.filter (fun x => x.id != id) := List.mem_filter.2 ⟨hq, by rw [bne_iff_ne]; omega⟩
    rw [List.filter_append]
    by_cases hn : n.id = id
    · have e : [n].filter (fun x => x.id != id) = [] := by simp [hn]
      rw [e, List.append_nil]
      refine ⟨i1, fun x hx hxi => ?_⟩
      rcases List.mem_append.1 hx with hx | hx
      · rw [i2 x hx hxi, dep_snoc _ _ hG.pos]
        have := hT.2 x hx
        simp only [depStep]
        rw [if_neg (by omega)]
      · simp at hx; subst hx; exact absurd hn hxi
    · have e : [n].filter (fun x => x.id != id) = [n] := by simp [hn]
      rw [e]
      have hlast : lastId (xs.filter (fun x => x.id != id)) < n.id := by
        obtain ⟨z, hz, hze⟩ := lastId_mem i1.pos
        rw [← hze]
        have := hT.2 _ (List.mem_filter.1 hz).1
        omega
      have hdp := i2 q hq (by omega)
      rw [hqe] at hdp
      refine ⟨Good.snoc _ _ i1 hc ?_ (by rw [hdp]; exact hd), fun x hx hxi => ?_⟩
      · simp only [fineB, headB, Bool.and_eq_true, decide_eq_true_eq]
        refine ⟨⟨hlast, f2⟩, ?_, List.any_eq_true.2 ⟨q, hqf, by simpa using hqe⟩⟩
        rw [Bool.not_eq_true'] at f3 ⊢
        refine List.any_eq_false.2 fun y hy => ?_
        exact List.any_eq_false.1 f3 y (List.mem_filter.1 hy).1
      · rw [dep_snoc _ _ i1.pos, dep_snoc _ _ hG.pos]
        simp only [depStep]
        rcases List.mem_append.1 hx with hx | hx
        · have := hT.2 x hx
          rw [if_neg (by omega), if_neg (by omega), i2 x hx hxi]
        · simp at hx; subst hx
          rw [if_pos rfl, if_pos rfl, hdp]

theorem okT_rem {xs : List Grp} {next id : Int} (h : OkT xs next) (he : (remT xs next id).2.2 = 0) : OkT (remT xs next id).1 (remT xs next id).2.1 ∧ (remT xs next id).1.length ≤ xs.length := by
  unfold remT at he ⊢
  split at he
  · simp at he
  rename_i g1
  rw [if_neg g1]
  split at he
  · simp at he
  rename_i g2
  rw [if_neg g2]
  split at he
  · simp at he
  rename_i g3
  rw [if_neg g3]
  split at he
  · simp at he
  rename_i g4
  rw [if_neg g4]
  have hG := good_of_check h.1
  obtain ⟨hl, hn1, hn2, hn3⟩ := check_next h.1
  have hk : ∀ y ∈ xs, y.parent ≠ id := by
    intro y hy e
    apply g4
    unfold kidsR
    rw [if_pos (by simpa using g2)]
    refine List.length_pos_of_mem (a := y.id) ?_
    unfold children
    exact List.mem_map.2 ⟨y, List.mem_filter.2 ⟨hy, by simpa using e⟩, rfl⟩
  obtain ⟨d1, d2⟩ := dep_filter hG g3 hk
  have hfl : (xs.filter (fun x => x.id != id)).length ≤ xs.length := List.length_filter_le _ _
  refine ⟨⟨check_of_good d1 (show (xs.filter (fun x => x.id != id)).length ≤ 64 by omega) ?_ hn2, fun x hx => h.2 x (List.mem_filter.1 hx).1⟩, hfl⟩
  obtain ⟨z, hz, hze⟩ := lastId_mem d1.pos
  rw [← hze]
  have := hG.tr.2 _ (List.mem_filter.1 hz).1
  show _ < next
  omega
end Gc
