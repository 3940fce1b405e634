/-
  Subtrees of groups, plain: the groups under one ('under'), by the last node; forest.Subtree's loop gives them in some order. No program stands here.
-/
import Derived.Test.YtmjnibofdpgacaaDoorTreeP
set_option linter.unusedSimpArgs false
set_option linter.unusedVariables false
namespace Gc
open Go Go.RowKit

def underStep (g : Int) (acc : List Int) (n : Grp) : List Int := if n.id = g ∨ n.parent ∈ acc then acc ++ [n.id] else acc
/-- a group and all under it, in the order of the nodes -/
def under (xs : List Grp) (g : Int) : List Int := xs.foldl (underStep g) []
theorem under_snoc (xs : List Grp) (n : Grp) (g : Int) : under (xs ++ [n]) g = if n.id = g ∨ n.parent ∈ under xs g then under xs g ++ [n.id] else under xs g := by
  unfold under; rw [List.foldl_append]; rfl

/-- each group's parent comes before it, and IDs ascend -/
inductive Tr : List Grp → Prop
  | root (r : Grp) : r.id = 1 → r.parent = 0 → Tr [r]
  | snoc (xs : List Grp) (n : Grp) : Tr xs → (∀ x ∈ xs, x.id < n.id) → (∃ p ∈ xs, p.id = n.parent) → Tr (xs ++ [n])

theorem under_one (r : Grp) (g : Int) : under [r] g = if r.id = g then [r.id] else [] := by
  simp [under, underStep]

theorem children_snoc (xs : List Grp) (n : Grp) (x : Int) : children (xs ++ [n]) x = children xs x ++ (if n.parent = x then [n.id] else []) := by
  unfold children
  by_cases h : n.parent = x <;> simp [h]

theorem children_in {xs : List Grp} {x c : Int} (h : c ∈ children xs x) : ∃ y ∈ xs, y.id = c ∧ y.parent = x := by
  unfold children at h
  obtain ⟨y, hy, rfl⟩ := List.mem_map.1 h
  obtain ⟨h1, h2⟩ := List.mem_filter.1 hy
  exact ⟨y, h1, rfl, by simpa using h2⟩

theorem Tr.sub {xs : List Grp} (h : Tr xs) : ∀ g a, a ∈ under xs g → ∃ x ∈ xs, x.id = a := by
  induction h with
  | root r _ _ =>
    intro g a ha
    rw [under_one] at ha
    split at ha
    · exact ⟨r, by simp, (List.mem_singleton.1 ha).symm⟩
    · simp at ha
  | snoc xs n _ _ _ ih =>
    intro g a ha
    rw [under_snoc] at ha
    split at ha
    · rcases List.mem_append.1 ha with ha | ha
      · obtain ⟨x, hx, e⟩ := ih g a ha
        exact ⟨x, by simp [hx], e⟩
      · exact ⟨n, by simp, (List.mem_singleton.1 ha).symm⟩
    · obtain ⟨x, hx, e⟩ := ih g a ha
      exact ⟨x, by simp [hx], e⟩

theorem Tr.fresh {xs : List Grp} {n : Grp} (h : Tr xs) (hn : ∀ x ∈ xs, x.id < n.id) (g : Int) : n.id ∉ under xs g := by
  intro hm
  obtain ⟨x, hx, e⟩ := h.sub g _ hm
  have := hn x hx
  omega

theorem Tr.nodup {xs : List Grp} (h : Tr xs) : ∀ g, (under xs g).Nodup := by
  induction h with
  | root r _ _ => intro g; rw [under_one]; split <;> simp
  | snoc xs n hT hn _ ih =>
    intro g
    rw [under_snoc]
    split
    · refine List.nodup_append.2 ⟨ih g, by simp, fun a ha b hb => ?_⟩
      rw [List.mem_singleton] at hb
      subst hb
      rintro rfl
      exact hT.fresh hn g ha
    · exact ih g

theorem Tr.self {xs : List Grp} (h : Tr xs) : ∀ g, (∃ x ∈ xs, x.id = g) → g ∈ under xs g := by
  induction h with
  | root r _ _ =>
    rintro g ⟨x, hx, e⟩
    simp at hx; subst hx
    simp [under_one, e]
  | snoc xs n hT hn _ ih =>
    rintro g ⟨x, hx, e⟩
    rw [under_snoc]
    rcases List.mem_append.1 hx with hx | hx
    · have := ih g ⟨x, hx, e⟩
      split <;> simp [this]
    · simp at hx; subst hx
      simp [e]

theorem Tr.none {xs : List Grp} (h : Tr xs) : ∀ g, (∀ x ∈ xs, x.id ≠ g) → under xs g = [] := by
  induction h with
  | root r _ _ => intro g hg; rw [under_one, if_neg (hg r (by simp))]
  | snoc xs n hT hn _ ih =>
    intro g hg
    rw [under_snoc, ih g fun x hx => hg x (by simp [hx]), if_neg]
    rintro (e | e)
    · exact hg n (by simp) e
    · simp at e

theorem flatMap_put {l : List Int} {f : Int → List Int} {p b : Int} (hn : (l.flatMap f).Nodup) (hp : p ∈ l.flatMap f) :
    (l.flatMap (fun c => if p ∈ f c then f c ++ [b] else f c)).Perm (l.flatMap f ++ [b]) := by
  induction l with
  | nil => simp at hp
  | cons c l ih =>
    simp only [List.flatMap_cons] at hn hp ⊢
    obtain ⟨n1, n2, n3⟩ := List.nodup_append.1 hn
    by_cases hc : p ∈ f c
    · rw [if_pos hc]
      have : l.flatMap (fun c => if p ∈ f c then f c ++ [b] else f c) = l.flatMap f := by
        have : ∀ d ∈ l, p ∉ f d := fun d hd hm => n3 p hc p (List.mem_flatMap.2 ⟨d, hd, hm⟩) rfl
        clear ih n3 hn hp n2
        induction l with
        | nil => rfl
        | cons d l ih =>
          simp only [List.flatMap_cons]
          rw [if_neg (this d (by simp)), ih (fun e he => this e (by simp [he]))]
      rw [this, List.append_assoc, List.append_assoc]
      exact List.Perm.append_left _ List.perm_append_comm
    · rw [if_neg hc, List.append_assoc]
      refine List.Perm.append_left _ (ih n2 ?_)
      rcases List.mem_append.1 hp with h | h
      · exact absurd h hc
      · exact h

theorem flatMap_same {l : List Int} {f g : Int → List Int} (h : ∀ c ∈ l, f c = g c) : l.flatMap f = l.flatMap g := by
  induction l with
  | nil => rfl
  | cons c l ih => simp only [List.flatMap_cons]; rw [h c (by simp), ih fun d hd => h d (by simp [hd])]

theorem Tr.kids {xs : List Grp} (h : Tr xs) : ∀ y ∈ xs, y.parent < y.id := by
  induction h with
  | root r e1 e2 => intro y hy; simp at hy; subst hy; omega
  | snoc xs n hT hn hp ih =>
    intro y hy
    rcases List.mem_append.1 hy with hy | hy
    · exact ih y hy
    · simp at hy; subst hy
      obtain ⟨p, hp, e⟩ := hp
      have := hn p hp
      omega
theorem Tr.pos {xs : List Grp} (h : Tr xs) : ∀ y ∈ xs, 1 ≤ y.id := by
  induction h with
  | root r e1 e2 => intro y hy; simp at hy; subst hy; omega
  | snoc xs n hT hn hp ih =>
    intro y hy
    rcases List.mem_append.1 hy with hy | hy
    · exact ih y hy
    · simp at hy; subst hy
      obtain ⟨p, hp, e⟩ := hp
      have := hn p hp
      have := ih p hp
      omega

/-- a group's subtree is the group and the subtrees of its children -/
theorem Tr.perm {xs : List Grp} (h : Tr xs) : ∀ x, (∃ y ∈ xs, y.id = x) → (under xs x).Perm (x :: (children xs x).flatMap (under xs)) := by
  induction h with
  | root r e1 e2 =>
    rintro x ⟨y, hy, e⟩
    simp at hy; subst hy
    have : children [y] x = [] := by simp [children]; omega
    rw [this, under_one, if_pos e, e]
    simp
  | snoc xs n hT hn hp ih =>
    rintro x ⟨y, hy, e⟩
    have hpar : n.parent < n.id := by
      obtain ⟨p, hp, e⟩ := hp
      have := hn p hp
      omega
    by_cases hx : n.id = x
    · have h1 : under xs x = [] := hT.none x fun z hz => by have := hn z hz; omega
      have h2 : children xs x = [] := by
        rcases hc : children xs x with _ | ⟨c, l⟩
        · rfl
        · obtain ⟨z, hz, _, e2⟩ := children_in (xs := xs) (x := x) (c := c) (by rw [hc]; simp)
          have := hT.kids z hz
          have := hn z hz
          omega
      rw [under_snoc, children_snoc, h1, h2, if_pos (.inl hx), if_neg (by omega)]
      simp [hx]
    · have hin : ∃ y ∈ xs, y.id = x := by
        rcases List.mem_append.1 hy with hy | hy
        · exact ⟨y, hy, e⟩
        · simp at hy; subst hy; exact absurd e hx
      have hP := ih x hin
      have hND : (x :: (children xs x).flatMap (under xs)).Nodup := (hP.nodup_iff).1 (hT.nodup x)
      have hx0 : x ∉ (children xs x).flatMap (under xs) := (List.nodup_cons.1 hND).1
      have hself := hT.self x hin
      have hnid : under (xs ++ [n]) n.id = [n.id] := by
        rw [under_snoc, hT.none n.id fun z hz => by have := hn z hz; omega, if_pos (.inl rfl)]
        rfl
      have hkid : ∀ c ∈ children xs x, n.id ≠ c := by
        rintro c hc rfl
        obtain ⟨z, hz, e1, _⟩ := children_in hc
        have := hn z hz
        omega
      have hmap : (children xs x).flatMap (under (xs ++ [n])) = (children xs x).flatMap (fun c => if n.parent ∈ under xs c then under xs c ++ [n.id] else under xs c) :=
        flatMap_same fun c hc => by
          rw [under_snoc]
          by_cases h : n.parent ∈ under xs c
          · rw [if_pos (.inr h), if_pos h]
          · rw [if_neg (by rintro (h' | h'); exact hkid c hc h'; exact h h'), if_neg h]
      rw [under_snoc, children_snoc, List.flatMap_append, hmap]
      by_cases hnp : n.parent = x
      · rw [if_pos hnp, if_pos (.inr (by rw [hnp]; exact hself))]
        have : (children xs x).flatMap (fun c => if n.parent ∈ under xs c then under xs c ++ [n.id] else under xs c) = (children xs x).flatMap (under xs) :=
          flatMap_same fun c hc => if_neg fun h => hx0 (List.mem_flatMap.2 ⟨c, hc, by rw [← hnp]; exact h⟩)
        rw [this]
        simp only [List.flatMap_cons, List.flatMap_nil, hnid, List.append_nil]
        exact hP.append_right _
      · rw [if_neg hnp]
        simp only [List.flatMap_nil, List.append_nil]
        by_cases hm : n.parent ∈ under xs x
        · rw [if_pos (.inr hm)]
          have hm2 : n.parent ∈ (children xs x).flatMap (under xs) := by
            have := hP.mem_iff.1 hm
            rcases List.mem_cons.1 this with h | h
            · exact absurd h hnp
            · exact h
          exact (hP.append_right _).trans (List.Perm.cons _ (flatMap_put (List.nodup_cons.1 hND).2 hm2).symm)
        · rw [if_neg (by rintro (h | h); exact hx h; exact hm h)]
          have : (children xs x).flatMap (fun c => if n.parent ∈ under xs c then under xs c ++ [n.id] else under xs c) = (children xs x).flatMap (under xs) :=
            flatMap_same fun c hc => if_neg fun h => hm (hP.mem_iff.2 (List.mem_cons_of_mem _ (List.mem_flatMap.2 ⟨c, hc, h⟩)))
          rw [this]
          exact hP

theorem Tr.go {xs : List Grp} (h : Tr xs) : ∀ (n : Nat) (todo out : List Int), (∀ t ∈ todo, ∃ y ∈ xs, y.id = t) → (todo.flatMap (under xs)).length ≤ n → (subGo xs n todo out).Perm (out ++ todo.flatMap (under xs))
  | n, [], out, _, _ => by
    have : subGo xs n [] out = out := by cases n <;> rfl
    rw [this]; simp
  | 0, x :: rest, out, ht, hl => by
    have := h.self x (ht x (by simp))
    have hp := List.length_pos_of_mem this
    simp only [List.flatMap_cons, List.length_append] at hl
    omega
  | n + 1, x :: rest, out, ht, hl => by
    have hP := h.perm x (ht x (by simp))
    have hl1 := hP.length_eq
    simp only [List.length_cons] at hl1
    have ih := Tr.go h n (children xs x ++ rest) (out ++ [x]) (fun t hm => by
      rcases List.mem_append.1 hm with hm | hm
      · obtain ⟨y, hy, e, _⟩ := children_in hm
        exact ⟨y, hy, e⟩
      · exact ht t (by simp [hm])) (by
        simp only [List.flatMap_append, List.length_append, List.flatMap_cons] at hl ⊢
        omega)
    refine ih.trans ?_
    simp only [List.flatMap_append, List.flatMap_cons, List.append_assoc, List.singleton_append]
    refine List.Perm.append_left _ ?_
    rw [← List.cons_append]
    exact hP.symm.append_right _

theorem Tr.len {xs : List Grp} (h : Tr xs) : ∀ g, (under xs g).length ≤ xs.length := by
  induction h with
  | root r _ _ => intro g; rw [under_one]; split <;> simp
  | snoc xs n hT hn _ ih =>
    intro g
    have := ih g
    rw [under_snoc]
    split <;> simp <;> omega

theorem Tr.subtree {xs : List Grp} (h : Tr xs) (g : Int) : (Gc.subtree xs g).Perm (under xs g) := by
  unfold Gc.subtree
  split
  · rename_i hin
    obtain ⟨x, hx, e⟩ := List.any_eq_true.1 hin
    have hg : ∃ y ∈ xs, y.id = g := ⟨x, hx, by simpa using e⟩
    have := h.go xs.length [g] [] (fun t ht => by simp at ht; subst ht; exact hg) (by simp; exact h.len g)
    simpa using this
  · rename_i hin
    rw [h.none g fun x hx e => hin (List.any_eq_true.2 ⟨x, hx, by simpa using e⟩)]

theorem lastId_take (xs : List Grp) (k : Nat) (h : k < xs.length) : lastId (xs.take (k + 1)) = xs[k].id := by
  rw [take_snoc _ _ h]
  simp [lastId, -List.take_append_getElem]

/-- what Check takes is such a list -/
theorem tr_of_check {xs : List Grp} {next : Int} (h : checkB xs next = true) : Tr xs := by
  simp only [checkB, Bool.and_eq_true, decide_eq_true_eq] at h
  obtain ⟨h1, h2, h3, h4, h5, h6⟩ := h
  have hroot : (xs[0]'(by omega)).id = 1 ∧ (xs[0]'(by omega)).parent = 0 := by
    have : xs.headD default = xs[0]'(by omega) := by
      cases xs with
      | nil => simp at h1
      | cons x xs => rfl
    rw [this] at h3
    simp only [rootB, Bool.and_eq_true, beq_iff_eq] at h3
    exact ⟨h3.1, h3.2.1⟩
  have hall : ∀ k, k < xs.length → Tr (xs.take (k + 1)) ∧ ∀ x ∈ xs.take (k + 1), x.id ≤ lastId (xs.take (k + 1)) := by
    intro k
    induction k with
    | zero =>
      intro hk
      have e : xs.take (0 + 1) = [xs[0]] := by rw [take_snoc _ _ hk]; simp
      refine ⟨by rw [e]; exact Tr.root _ hroot.1 hroot.2, fun x hx => ?_⟩
      rw [lastId_take _ _ hk]
      rw [e] at hx
      simp at hx; subst hx
      exact Int.le_refl _
    | succ k ih =>
      intro hk
      obtain ⟨i1, i2⟩ := ih (by omega)
      have hs := List.all_eq_true.1 h4 (k + 1) (List.mem_range.2 hk)
      unfold stepB at hs
      rw [List.getElem?_eq_getElem hk] at hs
      simp only [Bool.and_eq_true, Bool.or_eq_true, fineB, headB, decide_eq_true_eq] at hs
      obtain ⟨_, hs, _⟩ := hs
      rcases hs with hs | hs
      · simp at hs
      obtain ⟨⟨hs1, _⟩, _, hs2⟩ := hs
      have hlt : ∀ x ∈ xs.take (k + 1), x.id < xs[k + 1].id := fun x hx => by have := i2 x hx; omega
      obtain ⟨p, hp, e⟩ := List.any_eq_true.1 hs2
      refine ⟨?_, fun x hx => ?_⟩
      · rw [take_snoc _ _ hk]
        exact Tr.snoc _ _ i1 hlt ⟨p, hp, by simpa using e⟩
      · rw [lastId_take _ _ hk]
        rw [take_snoc _ _ hk] at hx
        rcases List.mem_append.1 hx with hx | hx
        · have := hlt x hx; omega
        · simp at hx; subst hx; exact Int.le_refl _
  have := (hall (xs.length - 1) (by omega)).1
  rwa [show xs.length - 1 + 1 = xs.length by omega, List.take_length] at this

end Gc
