/-
  EventTells, plain: what watchers have seen, and what they are told. No program stands here.
-/
import Derived.Test.YtmjnibofdpgacaaDoorEvKeepsP
import Derived.Test.YtmjnibofdpgacaaDoorEvPoll
set_option linter.unusedSimpArgs false
set_option linter.unusedVariables false
namespace Gc
open Go Go.RowKit

/-- watchers that watch groups and kinds that there are -/
def WatOk (xs : List Grp) (ws : List Wat) : Prop := ∀ x ∈ ws, (∃ i, ∃ hi : i < xs.length, x.g = xs[i].id) ∧ ∃ kk : Nat, kk < 6 ∧ x.k = kk
/-- has more happened than was seen -/
def hitB (xs : List Grp) (ls : List Tal) (x : Wat) : Bool := totE xs ls x.g x.k != x.s
/-- a watcher that has looked -/
def seenW (xs : List Grp) (ls : List Tal) (x : Wat) : Wat := { x with s := totE xs ls x.g x.k }

theorem tot_other {xs : List Grp} {next : Int} {ls : List Tal} {i k k' : Nat} {n : Int} (h : evB xs next ls = true) (h' : evB xs next (bump ls i k n) = true) (hi : i < xs.length) (hk : k < 6) (hk' : k' < 6) (hne : k' ≠ k) (g : Int) :
    totE xs (bump ls i k n) g k' = totE xs ls g k' := by
  obtain ⟨c1, c2, c3⟩ := ev_ids h
  have hT := (good_of_check c1).tr.1
  rw [totE_under hT, totE_under hT]
  congr 1
  refine List.map_congr_left fun a ha => ?_
  obtain ⟨x, hx, rfl⟩ := hT.sub g a ha
  obtain ⟨j, hj, rfl⟩ := List.mem_iff_getElem.1 hx
  have hkb : kindB (k' : Int) = true := by simp [kindB]; omega
  have hjl : j < ls.length := by omega
  have hil : i < ls.length := by omega
  have e2 := getD_at (xs := bump ls i k n) (show j < (bump ls i k n).length by unfold bump; rw [List.length_set]; omega)
  have e3 := getD_at (xs := ls) hjl
  have e4 := getD_at (xs := ls) hil
  rw [own_node h' hj, own_node h hj, if_pos hkb, if_pos hkb, e2, e3, show ((k' : Nat) : Int).toNat = k' from rfl]
  unfold bump
  rw [List.getElem_set]
  by_cases hij : i = j
  · subst hij
    rw [if_pos rfl, e4, put_at _ _ hk hk', if_neg hne]
  · rw [if_neg hij]

theorem hit_step {xs : List Grp} {next : Int} {ls : List Tal} {i k : Nat} (h : evB xs next ls = true) (h' : evB xs next (bump ls i k 1) = true) (hi : i < xs.length) (hk : k < 6) {x : Wat} (hx : ∃ kk : Nat, kk < 6 ∧ x.k = kk)
    (hs : x.s ≤ totE xs ls x.g x.k) :
    hitB xs (bump ls i k 1) x = (hitB xs ls x || (x.k == (k : Int) && decide (x.g ∈ ancR xs next xs[i].id))) ∧ x.s ≤ totE xs (bump ls i k 1) x.g x.k := by
  obtain ⟨kk, hkk, e⟩ := hx
  unfold hitB
  rw [e] at hs ⊢
  by_cases hk2 : kk = k
  · subst hk2
    rw [tot_bump h h' hi hk, show decide (x.g ∈ ancR xs next xs[i].id) = decide (xs[i].id ∈ under xs x.g) from decide_eq_decide.2 (anc_node (ev_ids h).1 hi x.g)]
    by_cases hm : xs[i].id ∈ under xs x.g
    · rw [if_pos hm, decide_eq_true hm]
      refine ⟨?_, by omega⟩
      rw [show (((kk : Int) == (kk : Int)) && true) = true by simp, Bool.or_true, bne_iff_ne]
      omega
    · rw [if_neg hm, decide_eq_false hm, Int.add_zero]
      exact ⟨by simp, hs⟩
  · rw [tot_other h h' hi hk hkk hk2]
    have : ((kk : Int) == (k : Int)) = false := by simp; omega
    rw [this]
    exact ⟨by simp, hs⟩

theorem news_ok {xs : List Grp} {next : Int} {ls : List Tal} (h : evB xs next ls = true) {x : Wat} (hx : (∃ i, ∃ hi : i < xs.length, x.g = xs[i].id) ∧ ∃ kk : Nat, kk < 6 ∧ x.k = kk) : newsB xs ls x = hitB xs ls x := by
  obtain ⟨⟨i, hi, e1⟩, kk, hkk, e2⟩ := hx
  have h1 := tix_node h hi
  have hkb : kindB (kk : Int) = true := by simp [kindB]; omega
  unfold newsB hitB
  rw [e1, e2, h1, hkb, decide_eq_true (by omega)]
  simp

theorem look_ok {xs : List Grp} {next : Int} {ls : List Tal} (h : evB xs next ls = true) {x : Wat} (hx : (∃ i, ∃ hi : i < xs.length, x.g = xs[i].id) ∧ ∃ kk : Nat, kk < 6 ∧ x.k = kk) : lookE xs ls x = seenW xs ls x := by
  unfold lookE
  rw [news_ok h hx]
  unfold hitB seenW
  split
  · rfl
  · rename_i hn
    have : totE xs ls x.g x.k = x.s := by simpa using hn
    rw [this]

theorem seen_ok {xs : List Grp} {ls : List Tal} {ws : List Wat} (h : WatOk xs ws) : WatOk xs (ws.map (seenW xs ls)) := by
  intro x hx
  obtain ⟨y, hy, rfl⟩ := List.mem_map.1 hx
  exact h y hy

theorem poll_ok {xs : List Grp} {next : Int} {ls : List Tal} {ws : List Wat} (h : evB xs next ls = true) (hw : WatOk xs ws) (hl : ws.length ≤ 32) :
    (pollE xs next ls ws).1 = ws.map (seenW xs ls) ∧ (pollE xs next ls ws).2.2 = 0 ∧ (∀ j (hj : j < ws.length), decide ((j : Int) ∈ (pollE xs next ls ws).2.1) = hitB xs ls ws[j]) ∧ (pollE xs next ls ws).2.1.length ≤ ws.length := by
  unfold pollE
  rw [h, if_neg (by simp), if_neg (by omega)]
  refine ⟨List.map_congr_left fun x hx => look_ok h (hw x hx), rfl, fun j hj => ?_, ?_⟩
  · show decide ((j : Int) ∈ toldE xs ls ws) = _
    rw [← news_ok h (hw _ (List.getElem_mem hj))]
    unfold toldE
    have e : ((j : Int) ∈ List.map (fun i : Nat => (i : Int)) (List.filter (fun i => newsB xs ls (ws.getD i default)) (List.range ws.length))) ↔ newsB xs ls ws[j] = true := by
      simp only [List.mem_map, List.mem_filter, List.mem_range]
      constructor
      · rintro ⟨a, ⟨ha, hn⟩, e⟩
        have : a = j := by omega
        subst this
        rw [getD_at ha] at hn
        exact hn
      · intro hn
        exact ⟨j, ⟨hj, by rw [getD_at hj]; exact hn⟩, rfl⟩
    rw [Bool.eq_iff_iff, decide_eq_true_iff]
    exact e
  · show (toldE xs ls ws).length ≤ _
    unfold toldE
    rw [List.length_map]
    have := List.length_filter_le (fun i => newsB xs ls (ws.getD i default)) (List.range ws.length)
    rw [List.length_range] at this
    exact this

theorem seen_seen (xs : List Grp) (ls : List Tal) (ws : List Wat) : (ws.map (seenW xs ls)).map (seenW xs ls) = ws.map (seenW xs ls) := by
  rw [List.map_map]; rfl

theorem seen_hit (xs : List Grp) (ls : List Tal) (x : Wat) : hitB xs ls (seenW xs ls x) = false := by
  unfold hitB seenW; simp

/-- what the second look tells -/
theorem poll_again {xs : List Grp} {next : Int} {ls : List Tal} {ws : List Wat} (h : evB xs next ls = true) (hw : WatOk xs ws) (hl : ws.length ≤ 32) : pollE xs next ls (ws.map (seenW xs ls)) = (ws.map (seenW xs ls), [], 0) := by
  have hw' := seen_ok (ls := ls) hw
  obtain ⟨e1, e2, e3, e4⟩ := poll_ok h hw' (by rw [List.length_map]; exact hl)
  rw [seen_seen] at e1
  have e5 : (pollE xs next ls (ws.map (seenW xs ls))).2.1 = [] := by
    have e6 : (pollE xs next ls (ws.map (seenW xs ls))).2.1 = toldE xs ls (ws.map (seenW xs ls)) := by
      unfold pollE
      rw [h, if_neg (by simp), if_neg (by rw [List.length_map]; omega)]
    rw [e6]
    unfold toldE
    rw [List.filter_eq_nil_iff.2, List.map_nil]
    intro i hi
    have hi' : i < (ws.map (seenW xs ls)).length := by simpa using hi
    have hi2 : i < ws.length := by simpa using hi
    rw [getD_at hi', news_ok h (hw' _ (List.getElem_mem hi')), List.getElem_map, seen_hit]
    simp
  exact Prod.ext e1 (Prod.ext e5 e2)

/-- nothing has happened to tallies that are new -/
theorem new_zero {xs : List Grp} {next : Int} (h : checkB xs next = true) (g : Int) (k : Int) : totE xs (adjE xs []) g k = 0 := by
  obtain ⟨-, h1, h2⟩ := new_ok h
  have := tot_bounds h1 h2 (by omega) g k
  omega
end Gc
