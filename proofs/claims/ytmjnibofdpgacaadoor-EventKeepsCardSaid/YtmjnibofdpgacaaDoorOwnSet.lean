/-
  A write into what a call owns.
-/
import Derived.Test.YtmjnibofdpgacaaDoorBase
set_option linter.unusedSimpArgs false
set_option linter.unusedVariables false
namespace Gc
open Go Go.RowKit

theorem flatten_set (k : Nat) (u : Value) : ∀ (cs : List (List Value)) (i j : Nat) (hi : i < cs.length), (∀ c ∈ cs, c.length = k) → j < k → (cs.set i (cs[i].set j u)).flatten = cs.flatten.set (i * k + j) u
  | [], _, _, hi, _, _ => absurd hi (by simp)
  | c :: cs, 0, j, _, hk, hj => by
    have := hk c (by simp)
    simp only [List.set_cons_zero, List.getElem_cons_zero, List.flatten_cons, Nat.zero_mul, Nat.zero_add]
    rw [List.set_append_left _ _ (by omega)]
  | c :: cs, i + 1, j, hi, hk, hj => by
    have hc := hk c (by simp)
    have ih := flatten_set k u cs i j (by simpa using hi) (fun c' h' => hk c' (by simp [h'])) hj
    simp only [List.set_cons_succ, List.getElem_cons_succ, List.flatten_cons]
    rw [ih, Nat.add_mul, Nat.one_mul, List.set_append_right _ _ (by omega)]
    congr 2
    omega

theorem Own.set {w : World} {B e k : Nat} {v : Value} {cs : List (List Value)} (h : Own w B e k v cs) {g n c : Nat} (hv : v = .slice (some ⟨g, 0, none⟩) n c) {i j : Nat} (hi : i < cs.length) (hj : j < k) (u : Value) :
    Own (w.setCell ⟨g, i * k + j, none⟩ u) B e k v (cs.set i (cs[i].set j u)) := by
  obtain ⟨⟨hl, hw⟩, hk⟩ := h
  have hflen : cs.flatten.length = cs.length * k := by
    have : ∀ l : List (List Value), (∀ d ∈ l, d.length = k) → l.flatten.length = l.length * k := by
      intro l
      induction l with
      | nil => intro _; simp
      | cons d l ih => intro h; rw [List.flatten_cons, List.length_append, ih (fun d' h' => h d' (by simp [h'])), h d (by simp), List.length_cons, Nat.add_mul]; omega
    exact this cs hk
  have hij : i * k + j < cs.length * k := by
    have : (i + 1) * k ≤ cs.length * k := Nat.mul_le_mul_right k hi
    rw [Nat.add_mul] at this
    omega
  refine ⟨⟨?_, ?_⟩, ?_⟩
  · rw [flatten_set k u cs i j hi hk hj]
    simpa using hl
  · rcases hw with ⟨rfl, _⟩ | ⟨g', cap, cur, rfl, hg, hh, hnc, hm, hsz, htake⟩
    · simp at hv
    · simp only [Value.slice.injEq, Option.some.injEq, Addr.mk.injEq, and_true] at hv
      obtain ⟨rfl, rfl, rfl⟩ := hv
      refine .inr ⟨g', cap, cur.setIfInBounds (i * k + j) u, by simp, hg, ?_, by simpa using hnc, hm, by simpa using hsz, ?_⟩
      · simp [World.setCell, Array.getElem?_modify, hh]
      · rw [flatten_set k u cs i j hi hk hj, Array.toList_setIfInBounds, ← htake]
        simp only [List.length_set]
        rw [List.take_set]
  · intro d hd
    rcases List.mem_or_eq_of_mem_set hd with hd | rfl
    · exact hk d hd
    · simpa using hk cs[i] (List.getElem_mem hi)

/-- what is owned and not empty: its block -/
theorem Own.open' {w : World} {B e k : Nat} {v : Value} {cs : List (List Value)} (h : Own w B e k v cs) (hne : 0 < cs.length) : ∃ g c, v = .slice (some ⟨g, 0, none⟩) cs.length c ∧ cs.length ≤ c ∧ c ≤ maxLen ∧ B ≤ g ∧ g < w.heap.size ∧ (∀ off, w.frozen? ⟨g, off, none⟩ = false) ∧ Rd w k (some ⟨g, 0, none⟩) cs := by
  obtain ⟨A, c, rfl, h1, h2, hrd, hb, hlt⟩ := h.rd
  rcases h.1.2 with ⟨_, h0⟩ | ⟨g, cap, cur, hv, hg, hh, _⟩
  · omega
  · simp only [Value.slice.injEq] at hv
    obtain ⟨rfl, _, rfl⟩ := hv
    exact ⟨g, c, rfl, h1, h2, hg, (Array.getElem?_eq_some_iff.1 hh).1, fun off => by simp [World.frozen?, hh], hrd⟩

end Gc
