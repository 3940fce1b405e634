/-
  The reference's trees, plain: node, up, Check.
-/
import Derived.Test.YtmjnibofdpgacaaDoorDesc
set_option linter.unusedSimpArgs false
set_option linter.unusedVariables false
namespace Gc
open Go Go.RowKit

def kindR (n : Grp) : Bool := n.kind == 0 || n.kind == 1
def nodeR (xs : List Grp) (i : Nat) : Bool := match xs[i]? with
  | some n => kindR n && (ctlB n && (if i = 0 then rootB n else fineB (xs.take i) n))
  | none => true

/-- up: the IDs from a group up to the root, looking at the first k nodes -/
def upGo (xs : List Grp) : Nat → Int → List Int
  | 0, _ => []
  | k + 1, id => match xs[k]? with
    | some n => if n.id = id then id :: upGo xs k n.parent else upGo xs k id
    | none => []
def upL (xs : List Grp) (id : Int) : List Int := upGo xs xs.length id

def shortR (xs : List Grp) (i : Nat) : Bool := match xs[i]? with
  | some n => decide ((upL xs n.id).length ≤ 9)
  | none => true
def checkR (xs : List Grp) (next : Int) : Bool :=
  decide (1 ≤ xs.length) && (decide (xs.length ≤ 64) && ((List.range xs.length).all (nodeR xs) && ((List.range xs.length).all (shortR xs) && (decide (lastId xs < next) && decide (next ≤ 2147483648)))))

theorem upGo_len (xs : List Grp) : ∀ k id, (upGo xs k id).length ≤ k
  | 0, _ => by simp [upGo]
  | k + 1, id => by
    unfold upGo
    split
    · split
      · rename_i n _ _
        have := upGo_len xs k n.parent
        simp; omega
      · have := upGo_len xs k id
        omega
    · simp
theorem upGo_hit (xs : List Grp) (k : Nat) (h : k < xs.length) (id : Int) (e : xs[k].id = id) : upGo xs (k + 1) id = id :: upGo xs k xs[k].parent := by
  simp only [upGo, List.getElem?_eq_getElem h, if_pos e]
theorem upGo_miss (xs : List Grp) (k : Nat) (h : k < xs.length) (id : Int) (e : ¬ xs[k].id = id) : upGo xs (k + 1) id = upGo xs k id := by
  simp only [upGo, List.getElem?_eq_getElem h, if_neg e]

theorem upGo_take (xs ys : List Grp) : ∀ k id, k ≤ xs.length → upGo (xs ++ ys) k id = upGo xs k id
  | 0, _, _ => rfl
  | k + 1, id, h => by
    have e : (xs ++ ys)[k]? = xs[k]? := List.getElem?_append_left (by omega)
    simp only [upGo, e]
    split
    · split
      · rw [upGo_take xs ys k _ (by omega)]
      · rw [upGo_take xs ys k _ (by omega)]
    · rfl
theorem upL_snoc (xs : List Grp) (n : Grp) (id : Int) : upL (xs ++ [n]) id = if n.id = id then id :: upL xs n.parent else upL xs id := by
  unfold upL
  rw [List.length_append, List.length_singleton]
  have e : (xs ++ [n])[xs.length]? = some n := by simp
  simp only [upGo, e]
  split
  · rw [upGo_take xs [n] _ _ (Nat.le_refl _)]
  · rw [upGo_take xs [n] _ _ (Nat.le_refl _)]

/-- a group is above another exactly if the other is below it -/
theorem Tr.up_under {xs : List Grp} (h : Tr xs) : ∀ g id, g ∈ upL xs id ↔ id ∈ under xs g := by
  induction h with
  | root r e1 e2 =>
    intro g id
    have e : upL [r] id = if r.id = id then [id] else [] := by
      have := upL_snoc [] r id
      simp only [List.nil_append] at this
      rw [this]
      rfl
    rw [e, under_one]
    by_cases h1 : r.id = id
    · subst h1
      by_cases h2 : r.id = g
      · subst h2; simp
      · simp [h2, Ne.symm h2]
    · by_cases h2 : r.id = g
      · subst h2; simp [h1, Ne.symm h1]
      · simp [h1, h2]
  | snoc xs n hT hn hp ih =>
    intro g id
    rw [upL_snoc, under_snoc]
    by_cases h1 : n.id = id
    · rw [if_pos h1]
      subst h1
      have hf := hT.fresh hn g
      constructor
      · intro hm
        rcases List.mem_cons.1 hm with rfl | hm
        · rw [if_pos (.inl rfl)]; simp
        · rw [if_pos (.inr ((ih g n.parent).1 hm))]; simp
      · intro hm
        by_cases h2 : n.id = g ∨ n.parent ∈ under xs g
        · rcases h2 with rfl | h2
          · simp
          · exact List.mem_cons_of_mem _ ((ih g n.parent).2 h2)
        · rw [if_neg h2] at hm
          exact absurd hm hf
    · rw [if_neg h1, ih g id]
      split
      · simp [Ne.symm h1]
      · rfl

theorem dep_snoc (xs : List Grp) (n : Grp) (h : 0 < xs.length) : dep (xs ++ [n]) = depStep (dep xs) n := by
  have := dep_succ (xs ++ [n]) xs.length (by simp) h
  rw [List.take_of_length_le (by simp)] at this
  simpa using this
/-- IDs and parents of the nodes so far: depths -/
theorem Tr.dep_up {xs : List Grp} (h : Tr xs) : ∀ x ∈ xs, dep xs x.id + 1 = ((upL xs x.id).length : Int) := by
  induction h with
  | root r e1 e2 =>
    intro x hx
    simp at hx; subst hx
    have := upL_snoc [] x x.id
    simp only [List.nil_append, if_pos] at this
    rw [this]
    simp [dep, upL, upGo]
  | snoc xs n hT hn hp ih =>
    intro x hx
    have hpos : 0 < xs.length := by cases hT <;> simp
    have hd := dep_snoc xs n hpos
    rw [hd, upL_snoc]
    rcases List.mem_append.1 hx with hx | hx
    · have hne : ¬ x.id = n.id := by have := hn x hx; omega
      rw [if_neg (fun e => hne e.symm)]
      simp only [depStep, if_neg hne]
      exact ih x hx
    · simp at hx; subst hx
      obtain ⟨p, hp, e⟩ := hp
      have := ih p hp
      rw [e] at this
      rw [if_pos rfl]
      simp only [depStep, if_pos, List.length_cons]
      omega

theorem Tr.ids_lt {xs : List Grp} (h : Tr xs) : ∀ i j (hi : i < xs.length) (hj : j < xs.length), i < j → xs[i].id < xs[j].id := by
  induction h with
  | root r _ _ => intro i j hi hj hij; simp at hi hj; omega
  | snoc xs n hT hn hp ih =>
    intro i j hi hj hij
    simp only [List.length_append, List.length_singleton] at hi hj
    by_cases hj2 : j < xs.length
    · rw [List.getElem_append_left (by omega), List.getElem_append_left hj2]
      exact ih i j _ _ hij
    · obtain rfl : j = xs.length := by omega
      rw [List.getElem_append_left (by omega)]
      simp only [List.getElem_concat_length]
      exact hn _ (List.getElem_mem _)

theorem dep_take {xs : List Grp} (h : Tr xs) : ∀ k, k < xs.length → dep (xs.take (k + 1)) (xs.getD k default).id = dep xs (xs.getD k default).id := by
  induction h with
  | root r _ _ => intro k hk; simp at hk; subst hk; simp
  | snoc xs n hT hn hp ih =>
    intro k hk
    simp only [List.length_append, List.length_singleton] at hk
    by_cases hk2 : k < xs.length
    · have hpos : 0 < xs.length := by omega
      have hd := dep_snoc xs n hpos
      have e1 : (xs ++ [n]).getD k default = xs.getD k default := by
        simp only [List.getD_eq_getElem?_getD]
        rw [List.getElem?_append_left hk2]
      rw [e1, hd, List.take_append_of_le_length (by omega), ih k hk2]
      have : (xs.getD k default).id < n.id := by
        rw [List.getD_eq_getElem?_getD, List.getElem?_eq_getElem hk2]
        exact hn _ (List.getElem_mem hk2)
      simp only [depStep]
      rw [if_neg (by omega)]
    · obtain rfl : k = xs.length := by omega
      rw [List.take_of_length_le (by simp)]

/-- what Check takes, the reference's Check takes -/
theorem checkR_of {xs : List Grp} {next : Int} (h : checkB xs next = true) : checkR xs next = true := by
  have hT := tr_of_check h
  have h0 := h
  simp only [checkB, Bool.and_eq_true, decide_eq_true_eq] at h
  obtain ⟨h1, h2, h3, h4, h5, h6⟩ := h
  have hroot : rootB (xs[0]'(by omega)) = true := by
    have : xs.headD default = xs[0]'(by omega) := by
      cases xs with
      | nil => simp at h1
      | cons x xs => rfl
    rw [this] at h3
    exact h3
  have hst : ∀ k (hk : k < xs.length), ctlB xs[k] = true ∧ (k = 0 ∨ fineB (xs.take k) xs[k] = true) ∧ dep (xs.take (k + 1)) xs[k].id ≤ 8 := by
    intro k hk
    have hs := List.all_eq_true.1 h4 k (List.mem_range.2 hk)
    unfold stepB at hs
    rw [List.getElem?_eq_getElem hk] at hs
    simp only [Bool.and_eq_true, Bool.or_eq_true, decide_eq_true_eq, beq_iff_eq] at hs
    exact ⟨hs.1, hs.2.1, hs.2.2⟩
  simp only [checkR, Bool.and_eq_true, decide_eq_true_eq]
  refine ⟨h1, h2, List.all_eq_true.2 fun k hk => ?_, List.all_eq_true.2 fun k hk => ?_, h5, h6⟩
  · have hk := List.mem_range.1 hk
    obtain ⟨a, b, c⟩ := hst k hk
    unfold nodeR
    rw [List.getElem?_eq_getElem hk]
    simp only [Bool.and_eq_true]
    by_cases h00 : k = 0
    · subst h00
      rw [if_pos rfl]
      refine ⟨?_, a, hroot⟩
      simp only [rootB, Bool.and_eq_true, beq_iff_eq] at hroot
      simp [kindR, hroot.2.2.2]
    · rw [if_neg h00]
      rcases b with b | b
      · exact absurd b h00
      refine ⟨?_, a, b⟩
      simp only [fineB, headB, Bool.and_eq_true] at b
      exact b.1.2.2
  · have hk := List.mem_range.1 hk
    obtain ⟨a, b, c⟩ := hst k hk
    unfold shortR
    rw [List.getElem?_eq_getElem hk]
    have e1 := dep_take hT k hk
    have e2 := hT.dep_up _ (List.getElem_mem hk)
    rw [List.getD_eq_getElem?_getD, List.getElem?_eq_getElem hk] at e1
    simp only [Option.getD_some] at e1
    rw [e1] at c
    simp only [decide_eq_true_eq]
    omega

end Gc
