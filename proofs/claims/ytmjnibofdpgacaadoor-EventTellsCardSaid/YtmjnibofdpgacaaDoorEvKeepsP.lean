/-
  What is added, what is removed: totals of tallies, plain. No program stands here.
  What a slice that a call made gives: its length, its rows.
  EventKeeps, plain: the totals of what is left, whether or not the removal went well.
  EventSums, plain: a count that grows, and the totals of the groups above it; a total and the totals of the children.
-/
import Derived.Test.YtmjnibofdpgacaaDoorGoodT
import Derived.Test.YtmjnibofdpgacaaDoorEvRemove
import Derived.Test.YtmjnibofdpgacaaDoorEvAdjust
import Derived.Test.YtmjnibofdpgacaaDoorBase
import Derived.Test.YtmjnibofdpgacaaDoorEvTotal
import Derived.Test.YtmjnibofdpgacaaDoorR5Kids
set_option linter.unusedSimpArgs false
set_option linter.unusedVariables false
namespace Gc
open Go Go.RowKit

/-- the groups below one when a group without children is gone -/
theorem under_filter {xs : List Grp} {id : Int} (h : Good xs) (h1 : ¬ id = 1) (hk : ∀ y ∈ xs, y.parent ≠ id) : ∀ g, g ≠ id → under (xs.filter (fun x => x.id != id)) g = (under xs g).filter (fun a => a != id) := by
  induction h with
  | root r h2 h3 =>
    intro g hg
    have hr : r.id = 1 := by simp only [rootB, Bool.and_eq_true, beq_iff_eq] at h2; exact h2.1
    have e : [r].filter (fun x => x.id != id) = [r] := by
      simp only [List.filter_cons, List.filter_nil]
      rw [if_pos (by rw [bne_iff_ne]; omega)]
    rw [e, under_one]
    split
    · simp only [List.filter_cons, List.filter_nil]
      rw [if_pos (by rw [bne_iff_ne]; omega)]
    · rfl
  | snoc xs n hG hc hf hd ih =>
    intro g hg
    have i1 := ih (fun y hy => hk y (by simp [hy])) g hg
    have hpar : n.parent ≠ id := hk n (by simp)
    have hfr := hG.tr.1.fresh (n := n) (by
      have hf' := hf
      simp only [fineB, headB, Bool.and_eq_true, decide_eq_true_eq] at hf'
      intro x hx
      have := hG.tr.2 x hx
      omega) g
    rw [List.filter_append, under_snoc]
    by_cases hn : n.id = id
    · have e : [n].filter (fun x => x.id != id) = [] := by simp [hn]
      rw [e, List.append_nil, i1]
      split
      · rw [List.filter_append]
        simp [hn]
      · rfl
    · have e : [n].filter (fun x => x.id != id) = [n] := by simp [hn]
      rw [e, under_snoc, i1]
      have hm : (n.parent ∈ (under xs g).filter (fun a => a != id)) ↔ n.parent ∈ under xs g := by
        rw [List.mem_filter]
        simp [hpar]
      by_cases h5 : n.id = g ∨ n.parent ∈ under xs g
      · rw [if_pos h5, if_pos (by rcases h5 with h | h; exact .inl h; exact .inr (hm.2 h)), List.filter_append]
        simp [hn]
      · rw [if_neg h5, if_neg (by rintro (h | h); exact h5 (.inl h); exact h5 (.inr (hm.1 h)))]

/-- sums over a list without repetitions, when one place is moved onto another -/
theorem sum_moved {f f' : Int → Int} {p id : Int} (hpi : p ≠ id) (hf : ∀ x, x ≠ id → f' x = f x + (if x = p then f id else 0)) : ∀ (l : List Int), l.Nodup → (p ∈ l ↔ id ∈ l) →
    ((l.filter (fun a => a != id)).map f').sum = (l.map f).sum := by
  have key : ∀ (l : List Int), l.Nodup → ((l.filter (fun a => a != id)).map f').sum + (if id ∈ l then f id else 0) = (l.map f).sum + (if p ∈ l then f id else 0) := by
    intro l
    induction l with
    | nil => intro _; simp
    | cons x l ih =>
      intro hn
      obtain ⟨n1, n2⟩ := List.nodup_cons.1 hn
      have := ih n2
      by_cases hx : x = id
      · subst hx
        have e : (x :: l).filter (fun a => a != x) = l.filter (fun a => a != x) := by simp
        rw [e]
        simp only [List.mem_cons, true_or, if_true, List.map_cons, List.sum_cons, hpi, false_or]
        rw [if_neg n1] at this
        omega
      · have e : (x :: l).filter (fun a => a != id) = x :: l.filter (fun a => a != id) := by simp [hx]
        rw [e]
        simp only [List.map_cons, List.sum_cons, List.mem_cons]
        rw [hf x hx]
        have hxi : ¬ id = x := fun h => hx h.symm
        simp only [hxi, false_or]
        by_cases hxp : x = p
        · subst hxp
          rw [if_neg n1] at this
          simp only [if_true, true_or]
          omega
        · have hpx : ¬ p = x := fun h => hxp h.symm
          simp only [hpx, false_or]
          rw [if_neg hxp]
          omega
  intro l hn hiff
  have := key l hn
  by_cases h : p ∈ l
  · rw [if_pos h, if_pos (hiff.1 h)] at this
    omega
  · rw [if_neg h, if_neg (fun e => h (hiff.2 e))] at this
    omega

theorem perm_sum {l l' : List Int} (h : l.Perm l') : l.sum = l'.sum := by
  induction h with
  | nil => rfl
  | cons x _ ih => simp [ih]
  | swap x y l => simp only [List.sum_cons]; omega
  | trans _ _ a b => exact a.trans b
theorem totE_under {xs : List Grp} (h : Tr xs) (ls : List Tal) (g k : Int) : totE xs ls g k = ((under xs g).map (fun a => ownE ls a k)).sum := by
  unfold totE
  exact perm_sum ((h.subtree g).map _)

/-- all counts lie between 0 and K -/
def CB (K : Int) (ls : List Tal) : Prop := ∀ x ∈ ls, ∀ j, j < 6 → 0 ≤ x.at j ∧ x.at j ≤ K

theorem fine_of_CB {x : Tal} {K : Int} (hK : K ≤ 1099511627776) (h : ∀ j, j < 6 → 0 ≤ x.at j ∧ x.at j ≤ K) : x.fineB = true := by
  rw [Tal.fine_eq]
  refine List.all_eq_true.2 fun j hj => ?_
  have := h j (List.mem_range.1 hj)
  simp [cntB]
  omega

theorem evB_mk {xs : List Grp} {next : Int} {ls : List Tal} (hc : checkB xs next = true) (hl : ls.length = xs.length) (hs : ∀ i (h1 : i < ls.length) (h2 : i < xs.length), ls[i].g = xs[i].id ∧ ls[i].fineB = true) : evB xs next ls = true := by
  simp only [evB, Bool.and_eq_true, decide_eq_true_eq]
  refine ⟨hc, hl, List.all_eq_true.2 fun i hi => ?_⟩
  have hi := List.mem_range.1 hi
  unfold evStep
  rw [List.getElem?_eq_getElem hi, List.getElem?_eq_getElem (by omega)]
  have := hs i hi (by omega)
  simp [this.1, this.2]

theorem new_ok {xs : List Grp} {next : Int} (hc : checkB xs next = true) : (adjR xs next []).1 = adjE xs [] ∧ evB xs next (adjE xs []) = true ∧ CB 0 (adjE xs []) := by
  have he : ∀ n, (talE [] n).clamp = ⟨n, 0, 0, 0, 0, 0, 0⟩ := fun n => rfl
  have ha : ∀ i (h1 : i < (adjE xs []).length) (h2 : i < xs.length), (adjE xs [])[i] = ⟨xs[i].id, 0, 0, 0, 0, 0, 0⟩ := by
    intro i h1 h2
    simp only [adjE, List.getElem_map, he]
  refine ⟨by unfold adjR; rw [hc]; rfl, evB_mk hc (adjE_len xs []) fun i h1 h2 => ?_, ?_⟩
  · rw [ha i h1 h2]
    exact ⟨rfl, rfl⟩
  · intro x hx j hj
    obtain ⟨i, hi, rfl⟩ := List.mem_iff_getElem.1 hx
    rw [ha i hi (by rw [adjE_len] at hi; exact hi)]
    obtain rfl | rfl | rfl | rfl | rfl | rfl : j = 0 ∨ j = 1 ∨ j = 2 ∨ j = 3 ∨ j = 4 ∨ j = 5 := by omega
    all_goals simp [Tal.at]

theorem put_at (x : Tal) (n : Int) {k j : Nat} (hk : k < 6) (hj : j < 6) : (x.put n k).at j = if j = k then n else x.at j := by
  obtain rfl | rfl | rfl | rfl | rfl | rfl : k = 0 ∨ k = 1 ∨ k = 2 ∨ k = 3 ∨ k = 4 ∨ k = 5 := by omega
  all_goals
    obtain rfl | rfl | rfl | rfl | rfl | rfl : j = 0 ∨ j = 1 ∨ j = 2 ∨ j = 3 ∨ j = 4 ∨ j = 5 := by omega
    all_goals simp [Tal.put, Tal.at]
theorem put_g (x : Tal) (n : Int) (k : Nat) : (x.put n k).g = x.g := by
  unfold Tal.put
  split <;> rfl

/-- the tally of a group that is there: its place -/
theorem tix_node {xs : List Grp} {next : Int} {ls : List Tal} (h : evB xs next ls = true) {i : Nat} (hi : i < xs.length) : tix ls xs[i].id = i := by
  obtain ⟨c1, c2, c3⟩ := ev_ids h
  have hT := (good_of_check c1).tr.1
  obtain ⟨n, hn, hnl⟩ := tix_in (ls := ls) (id := xs[i].id) ⟨ls[i]'(by omega), List.getElem_mem _, (c3 i (by omega) hi).1⟩
  have hg := tix_at hn hnl
  rw [(c3 n hnl (by omega)).1] at hg
  have : n = i := by
    rcases Nat.lt_trichotomy n i with h' | h' | h'
    · have := hT.ids_lt n i (by omega) hi h'; omega
    · exact h'
    · have := hT.ids_lt i n hi (by omega) h'; omega
  rw [hn, this]

theorem add_ok {xs : List Grp} {next : Int} {ls : List Tal} {K : Int} (h : evB xs next ls = true) (hC : CB K ls) {i k : Nat} {n : Int} (hi : i < xs.length) (hk : k < 6) (h0 : 0 ≤ n) (hn : n + K ≤ 1099511627776) (hK : 0 ≤ K) :
    addE xs next ls xs[i].id k n = (ls.set i ((ls.getD i default).put ((ls.getD i default).at k + n) k), 0) ∧ evB xs next (ls.set i ((ls.getD i default).put ((ls.getD i default).at k + n) k)) = true ∧ CB (K + n) (ls.set i ((ls.getD i default).put ((ls.getD i default).at k + n) k)) := by
  obtain ⟨c1, c2, c3⟩ := ev_ids h
  have hil : i < ls.length := by omega
  have hx := hC _ (List.getElem_mem hil) k hk
  have hCB : CB (K + n) (ls.set i ((ls.getD i default).put ((ls.getD i default).at k + n) k)) := by
    intro x hx j hj
    rcases List.mem_or_eq_of_mem_set hx with hx | rfl
    · have := hC x hx j hj
      omega
    · rw [getD_at hil, put_at _ _ hk hj]
      have := hC _ (List.getElem_mem hil) j hj
      split <;> omega
  refine ⟨?_, evB_mk c1 (by simpa using c2) fun a h1 h2 => ?_, hCB⟩
  · unfold addE
    rw [h, if_neg (by simp), tix_node h hi, if_neg (by omega), if_neg (by simp [kindB, cntB]; omega), show (i : Int).toNat = i from rfl, show (k : Int).toNat = k from rfl, if_neg (by rw [getD_at hil]; omega)]
  · refine ⟨?_, fine_of_CB hn (fun j hj => ?_)⟩
    · rw [List.getElem_set]
      split
      · rename_i e
        subst e
        rw [put_g, getD_at hil]
        exact (c3 _ hil h2).1
      · exact (c3 a (by simpa using h1) h2).1
    · have := hCB _ (List.getElem_mem h1) j hj
      omega
theorem upE_at (x y : Tal) {j : Nat} (hj : j < 6) : (upE x y).at j = min (x.at j + y.at j) 1099511627776 := by
  obtain rfl | rfl | rfl | rfl | rfl | rfl : j = 0 ∨ j = 1 ∨ j = 2 ∨ j = 3 ∨ j = 4 ∨ j = 5 := by omega
  all_goals rfl

theorem hasR_node {xs : List Grp} {next : Int} (h : checkB xs next = true) {i : Nat} (hi : i < xs.length) : hasR xs next xs[i].id = true := by
  unfold hasR
  rw [checkR_of h]
  exact List.any_eq_true.2 ⟨_, List.getElem_mem hi, by simp⟩

theorem under_parent {xs : List Grp} (h : Tr xs) : ∀ {y : Grp}, y ∈ xs → ¬ y.id = 1 → ∀ {g : Int}, g ≠ y.id → (y.id ∈ under xs g ↔ y.parent ∈ under xs g) := by
  induction h with
  | root r e1 e2 => intro y hy h1; simp at hy; subst hy; exact absurd e1 h1
  | snoc xs n hT hn hp ih =>
    intro y hy h1 g hg
    rw [under_snoc]
    have hpar : n.parent < n.id := by obtain ⟨p, hp, e⟩ := hp; have := hn p hp; omega
    rcases List.mem_append.1 hy with hy | hy
    · have i1 := ih hy h1 hg
      have hyn : y.id ≠ n.id := by have := hn y hy; omega
      have hypn : y.parent ≠ n.id := by have := hT.kids y hy; have := hn y hy; omega
      split
      · simp [hyn, hypn, i1]
      · exact i1
    · simp at hy; subst hy
      have hf := hT.fresh hn g
      have hpn : y.parent ≠ y.id := by omega
      by_cases h2 : y.id = g ∨ y.parent ∈ under xs g
      · rw [if_pos h2]
        rcases h2 with h2 | h2
        · exact absurd h2.symm hg
        · simp [h2]
      · rw [if_neg h2]
        rw [not_or] at h2
        exact ⟨fun e => absurd e hf, fun e => absurd e h2.2⟩

/-- the two removals are refused alike -/
theorem rem_alike {xs : List Grp} {next : Int} {ls : List Tal} (h : evB xs next ls = true) {i : Nat} (hi : i < xs.length) : decide ((remT xs next xs[i].id).2.2 = 0) = decide ((remE xs next ls xs[i].id).2 = 0) := by
  have c1 := (ev_ids h).1
  have hk : kidsR xs next xs[i].id = children xs xs[i].id := by unfold kidsR; rw [if_pos (hasR_node c1 hi)]
  have eT : (remT xs next xs[i].id).2.2 = if xs[i].id = 1 then 9 else if 0 < (children xs xs[i].id).length then 6 else 0 := by
    unfold remT
    rw [if_neg (by rw [checkR_of c1]; simp), if_neg (by rw [hasR_node c1 hi]; simp), hk]
    split
    · rfl
    · split <;> rfl
  have eE : (remE xs next ls xs[i].id).2 = if xs[i].id = 1 then 3 else if 0 < (children xs xs[i].id).length then 6 else 0 := by
    unfold remE
    rw [if_neg (by rw [h]; simp), tix_node h hi, if_neg (by omega)]
    split
    · rfl
    · split <;> rfl
  rw [eT, eE]
  split
  · simp
  · split <;> simp

theorem filter_erase : ∀ (xs : List Grp) (i : Nat) (hi : i < xs.length) (id : Int), xs[i].id = id → (∀ j (hj : j < xs.length), j ≠ i → xs[j].id ≠ id) → xs.filter (fun x => x.id != id) = xs.eraseIdx i
  | [], _, hi, _, _, _ => absurd hi (by simp)
  | x :: xs, 0, _, id, e, h => by
    have e' : (x.id != id) = false := by simpa using e
    simp only [List.filter_cons, e', List.eraseIdx_cons_zero]
    refine List.filter_eq_self.2 fun y hy => ?_
    obtain ⟨j, hj, rfl⟩ := List.mem_iff_getElem.1 hy
    have := h (j + 1) (by simpa using hj) (by omega)
    simpa using this
  | x :: xs, i + 1, hi, id, e, h => by
    have e' : (x.id != id) = true := by
      have := h 0 (by simp) (by omega)
      simpa using this
    have ih := filter_erase xs i (by simpa using hi) id (by simpa using e) (fun j hj hne => by
      have := h (j + 1) (by simpa using hj) (by omega)
      simpa using this)
    simp only [List.filter_cons, e', if_true, List.eraseIdx_cons_succ, ih]

theorem own_node {xs : List Grp} {next : Int} {ls : List Tal} (h : evB xs next ls = true) {i : Nat} (hi : i < xs.length) (k : Int) : ownE ls xs[i].id k = if kindB k then (ls.getD i default).at k.toNat else 0 := by
  unfold ownE
  rw [tix_node h hi, if_neg (by omega)]
  rfl
theorem own_none {xs : List Grp} {next : Int} {ls : List Tal} (h : evB xs next ls = true) {x : Int} (hx : ∀ i (hi : i < xs.length), xs[i].id ≠ x) (k : Int) : ownE ls x k = 0 := by
  obtain ⟨c1, c2, c3⟩ := ev_ids h
  have : tix ls x = -1 := by
    rcases idx_cases (fun y : Tal => y.g == x) ls with ⟨n, hn, hl⟩ | hn
    · have hg := tix_at (ls := ls) (id := x) hn hl
      rw [(c3 n hl (by omega)).1] at hg
      exact absurd hg (hx n (by omega))
    · exact hn
  unfold ownE
  rw [this]
  rfl

/-- totals do not change when a group is removed -/
theorem keeps {xs : List Grp} {next : Int} {ls : List Tal} {K : Int} (hok : OkT xs next) (h : evB xs next ls = true) (hC : CB K ls) (hK : K + K ≤ 1099511627776) (h0 : 0 ≤ K) {i : Nat} (hi : i < xs.length) (he : (remT xs next xs[i].id).2.2 = 0) :
    (remT xs next xs[i].id).1 = xs.filter (fun x => x.id != xs[i].id) ∧ evB (remT xs next xs[i].id).1 (remT xs next xs[i].id).2.1 (remE xs next ls xs[i].id).1 = true ∧
    ∀ g k, g ≠ xs[i].id → totE (remT xs next xs[i].id).1 (remE xs next ls xs[i].id).1 g k = totE xs ls g k := by
  obtain ⟨c1, c2, c3⟩ := ev_ids h
  have hG := good_of_check c1
  have hT := hG.tr.1
  have hal := rem_alike h hi
  have hOk2 := okT_rem hok he
  rw [he] at hal
  have he2 : (remE xs next ls xs[i].id).2 = 0 := by simpa using hal.symm
  have hil : i < ls.length := by omega
  have hkids : kidsR xs next xs[i].id = children xs xs[i].id := by unfold kidsR; rw [if_pos (hasR_node c1 hi)]
  have h1 : ¬ xs[i].id = 1 := by
    intro e
    unfold remT at he
    rw [if_neg (by rw [checkR_of c1]; simp), if_neg (by rw [hasR_node c1 hi]; simp), if_pos e] at he
    simp at he
  have h2 : ¬ 0 < (children xs xs[i].id).length := by
    intro e
    unfold remT at he
    rw [if_neg (by rw [checkR_of c1]; simp), if_neg (by rw [hasR_node c1 hi]; simp), if_neg h1, hkids, if_pos e] at he
    simp at he
  have hk : ∀ y ∈ xs, y.parent ≠ xs[i].id := by
    intro y hy e
    apply h2
    refine List.length_pos_of_mem (a := y.id) ?_
    unfold children
    exact List.mem_map.2 ⟨y, List.mem_filter.2 ⟨hy, by simpa using e⟩, rfl⟩
  have eT : remT xs next xs[i].id = (xs.filter (fun x => x.id != xs[i].id), next, 0) := by
    unfold remT
    rw [if_neg (by rw [checkR_of c1]; simp), if_neg (by rw [hasR_node c1 hi]; simp), if_neg h1, hkids, if_neg h2]
  obtain ⟨p, hp, hpl⟩ := ev_parent h (tix_node h hi) hil hi h1
  have eE : remE xs next ls xs[i].id = ((ls.set p (upE (ls.getD p default) (ls.getD i default))).eraseIdx i, 0) := by
    unfold remE
    rw [if_neg (by rw [h]; simp), tix_node h hi, if_neg (by omega), if_neg h1, if_neg h2, show ((i : Nat) : Int).toNat = i from rfl, getD_at hi, hp, show ((p : Nat) : Int).toNat = p from rfl]
  have hpx : xs[p]'(by omega) = xs[p]'(by omega) := rfl
  have hpg := tix_at hp hpl
  have hpid : (xs[p]'(by omega)).id = xs[i].parent := by rw [← (c3 p hpl (by omega)).1]; exact hpg
  have hpi : p ≠ i := by
    rintro rfl
    have := hT.kids _ (List.getElem_mem hi)
    omega
  have hne : ∀ j (hj : j < xs.length), j ≠ i → xs[j].id ≠ xs[i].id := by
    intro j hj hji
    rcases Nat.lt_or_gt_of_ne hji with h' | h'
    · have := hT.ids_lt j i hj hi h'; omega
    · have := hT.ids_lt i j hi hj h'; omega
  have hfil : xs.filter (fun x => x.id != xs[i].id) = xs.eraseIdx i := filter_erase xs i hi _ rfl hne
  have hCi := hC _ (List.getElem_mem hil)
  have hCp := hC _ (List.getElem_mem hpl)
  have hlen2 : (xs.eraseIdx i).length = xs.length - 1 := List.length_eraseIdx_of_lt hi
  have hU : ∀ j, j < 6 → 0 ≤ (upE (ls.getD p default) (ls.getD i default)).at j ∧ (upE (ls.getD p default) (ls.getD i default)).at j ≤ 1099511627776 := by
    intro j hj
    rw [upE_at _ _ hj, getD_at hpl, getD_at hil]
    have := hCi j hj
    have := hCp j hj
    omega
  have hset : ∀ j (hj : j < (ls.set p (upE (ls.getD p default) (ls.getD i default))).length) (hj2 : j < xs.length), (ls.set p (upE (ls.getD p default) (ls.getD i default)))[j].g = xs[j].id ∧ (ls.set p (upE (ls.getD p default) (ls.getD i default)))[j].fineB = true := by
    intro j hj hj2
    rw [List.getElem_set]
    split
    · rename_i e
      subst e
      refine ⟨?_, fine_of_CB (Int.le_refl _) hU⟩
      show (ls.getD p default).g = _
      rw [getD_at hpl]
      exact (c3 p hpl hj2).1
    · exact c3 j (by simpa using hj) hj2
  have hev : evB (xs.filter (fun x => x.id != xs[i].id)) next ((ls.set p (upE (ls.getD p default) (ls.getD i default))).eraseIdx i) = true := by
    rw [eT] at hOk2
    refine evB_mk hOk2.1.1 ?_ fun j h1' h2' => ?_
    · rw [hfil, hlen2, List.length_eraseIdx_of_lt (by simpa using hil), List.length_set, c2]
    · have h2'' : j < (xs.eraseIdx i).length := by rw [← hfil]; exact h2'
      have e : (xs.filter (fun x => x.id != xs[i].id))[j] = (xs.eraseIdx i)[j] := by simp only [hfil]
      rw [e, List.getElem_eraseIdx, List.getElem_eraseIdx]
      split
      · exact hset j (by simp; omega) (by omega)
      · exact hset (j + 1) (by simp; omega) (by omega)
  have hown : ∀ x, x ≠ xs[i].id → ∀ k, ownE ((ls.set p (upE (ls.getD p default) (ls.getD i default))).eraseIdx i) x k = ownE ls x k + (if x = xs[i].parent then ownE ls xs[i].id k else 0) := by
    intro x hx k
    by_cases hin : ∃ j, ∃ hj : j < xs.length, xs[j].id = x
    · obtain ⟨j, hj, rfl⟩ := hin
      have hji : j ≠ i := by rintro rfl; exact hx rfl
      obtain ⟨j', hj', hj2, e1, e2⟩ : ∃ j', ∃ hj' : j' < (xs.filter (fun x => x.id != xs[i].id)).length, ∃ hj2 : j' < ((ls.set p (upE (ls.getD p default) (ls.getD i default))).eraseIdx i).length,
          (xs.filter (fun x => x.id != xs[i].id))[j'] = xs[j] ∧ ((ls.set p (upE (ls.getD p default) (ls.getD i default))).eraseIdx i)[j'] = (ls.set p (upE (ls.getD p default) (ls.getD i default)))[j]'(by simp; omega) := by
        have hl1 : (xs.filter (fun x => x.id != xs[i].id)).length = xs.length - 1 := by rw [hfil, hlen2]
        have hl2 : ((ls.set p (upE (ls.getD p default) (ls.getD i default))).eraseIdx i).length = ls.length - 1 := by rw [List.length_eraseIdx_of_lt (by simpa using hil), List.length_set]
        by_cases hlt : j < i
        · refine ⟨j, by omega, by omega, ?_, ?_⟩
          · simp only [hfil]
            rw [List.getElem_eraseIdx, dif_pos hlt]
          · rw [List.getElem_eraseIdx, dif_pos hlt]
        · refine ⟨j - 1, by omega, by omega, ?_, ?_⟩
          · simp only [hfil]
            rw [List.getElem_eraseIdx, dif_neg (by omega)]
            congr 1
            omega
          · rw [List.getElem_eraseIdx, dif_neg (by omega)]
            congr 1
            omega
      have o1 := own_node hev hj' k
      rw [e1, getD_at hj2, e2, List.getElem_set] at o1
      rw [o1, own_node h hj k, own_node h hi k]
      by_cases hkb : kindB k = true
      · obtain ⟨kk, rfl, hkk⟩ := kindB_cases hkb
        rw [if_pos hkb, if_pos hkb, if_pos hkb, show ((kk : Nat) : Int).toNat = kk from rfl]
        by_cases hjp : p = j
        · subst hjp
          rw [if_pos rfl, if_pos hpid, upE_at _ _ hkk, getD_at hpl, getD_at hil]
          have := hCi kk hkk
          have := hCp kk hkk
          omega
        · have e3 := getD_at (xs := ls) (show j < ls.length by omega)
          rw [if_neg hjp, if_neg, e3]
          · omega
          · intro e
            rw [← hpid] at e
            apply hjp
            rcases Nat.lt_trichotomy p j with h' | h' | h'
            · have := hT.ids_lt p j (by omega) hj h'; omega
            · exact h'
            · have := hT.ids_lt j p hj (by omega) h'; omega
      · rw [if_neg hkb, if_neg hkb, if_neg hkb]
        simp
    · have hn1 : ∀ j (hj : j < xs.length), xs[j].id ≠ x := fun j hj e => hin ⟨j, hj, e⟩
      have hn2 : ∀ j (hj : j < (xs.filter (fun x => x.id != xs[i].id)).length), (xs.filter (fun x => x.id != xs[i].id))[j].id ≠ x := by
        intro j hj e
        have hm := List.getElem_mem hj
        obtain ⟨q, hq, e2⟩ := List.mem_iff_getElem.1 (List.mem_filter.1 hm).1
        rw [← e2] at e
        exact hn1 q hq e
      rw [own_none hev hn2, own_none h hn1, if_neg]
      · rfl
      · intro e
        rw [← hpid] at e
        exact hn1 p (by omega) e.symm
  rw [eT, eE]
  refine ⟨rfl, hev, fun g k hg => ?_⟩
  have hT2 := (dep_filter hG h1 hk).1.tr.1
  rw [totE_under hT2, totE_under hT, under_filter hG h1 hk g hg]
  refine sum_moved (p := xs[i].parent) (hk _ (List.getElem_mem hi)) (fun x hx => hown x hx k) _ (hT.nodup g) ?_
  exact (under_parent hT (List.getElem_mem hi) h1 hg).symm
end Gc

namespace Gc
open Go.RowKit Go

theorem Own.facts {w : World} {B e k n c : Nat} {A : Option Addr} {cs : List (List Value)} (h : Own w B e k (.slice A n c) cs) : n = cs.length ∧ cs.length ≤ c ∧ Rd w k A cs ∧ (A = none → c = 0) ∧ (∀ b, blk A = some b → B ≤ b ∧ b < w.heap.size) := by
  obtain ⟨A', c', e1, h1, h2, hrd, hb, hlt⟩ := h.rd
  simp only [Value.slice.injEq] at e1
  obtain ⟨rfl, rfl, rfl⟩ := e1
  refine ⟨rfl, h1, hrd, fun e => ?_, hlt⟩
  rcases h.1.2 with ⟨hv, h0⟩ | ⟨g, cap, cur, hv, hg, hh, _⟩
  · injection hv
  · rw [e] at hv
    cases hv
end Gc

namespace Gc
open Go Go.RowKit

theorem totR_node {xs : List Grp} {next : Int} {ls : List Tal} (h : evB xs next ls = true) {i k : Nat} (hi : i < xs.length) (hk : k < 6) : totR xs next ls xs[i].id k = (totE xs ls xs[i].id k, 0) := by
  unfold totR
  have hkb : kindB (k : Int) = true := by simp [kindB]; omega
  rw [if_neg (by rw [h]; simp), tix_node h hi, if_neg (by omega), if_neg (by rw [hkb]; simp)]

theorem rem_bounds {xs : List Grp} {next : Int} {ls : List Tal} (h : OkT xs next) (hl : ls.length = xs.length) (id : Int) : (∀ x ∈ (remT xs next id).1, x.ok) ∧ (remT xs next id).1.length ≤ xs.length ∧ (remE xs next ls id).1.length ≤ ls.length := by
  refine ⟨?_, ?_, ?_⟩
  · intro x hx
    unfold remT at hx
    split at hx
    · simp at hx
    split at hx
    · simp at hx
    split at hx
    · simp at hx
    split at hx
    · simp at hx
    exact h.2 x (List.mem_filter.1 hx).1
  · unfold remT
    split
    · simp
    split
    · simp
    split
    · simp
    split
    · simp
    exact List.length_filter_le _ _
  · unfold remE
    split
    · simp
    split
    · simp
    split
    · simp
    split
    · simp
    simp only [List.length_eraseIdx, List.length_set]
    split <;> omega

theorem keeps_all {xs : List Grp} {next : Int} {ls : List Tal} {K : Int} (hok : OkT xs next) (h : evB xs next ls = true) (hC : CB K ls) (hK : K + K ≤ 1099511627776) (h0 : 0 ≤ K) {i : Nat} (hi : i < xs.length)
    {q k : Nat} (hq : q < (remT xs next xs[i].id).1.length) (hk : k < 6) :
    totR xs next ls (remT xs next xs[i].id).1[q].id k = (totE xs ls (remT xs next xs[i].id).1[q].id k, 0) ∧
    totR (remT xs next xs[i].id).1 (remT xs next xs[i].id).2.1 (remE xs next ls xs[i].id).1 (remT xs next xs[i].id).1[q].id k = (totE xs ls (remT xs next xs[i].id).1[q].id k, 0) := by
  by_cases he : (remT xs next xs[i].id).2.2 = 0
  · obtain ⟨e1, e2, e3⟩ := keeps hok h hC hK h0 hi he
    have hm : ∀ x, x ∈ (remT xs next xs[i].id).1 → x ∈ xs.filter (fun x => x.id != xs[i].id) := fun x hx => by rw [← e1]; exact hx
    have hm := hm _ (List.getElem_mem hq)
    have hm := List.mem_filter.1 hm
    have hne : (remT xs next xs[i].id).1[q].id ≠ xs[i].id := by simpa using hm.2
    obtain ⟨j, hj, ej⟩ := List.mem_iff_getElem.1 hm.1
    refine ⟨?_, ?_⟩
    · rw [← ej]
      exact totR_node h hj hk
    · rw [totR_node e2 hq hk, e3 _ _ hne]
  · exfalso
    have : (remT xs next xs[i].id).1 = [] := by
      unfold remT at he ⊢
      by_cases g1 : checkR xs next = false
      · rw [if_pos g1]
      rw [if_neg g1] at he ⊢
      by_cases g2 : hasR xs next xs[i].id = false
      · rw [if_pos g2]
      rw [if_neg g2] at he ⊢
      by_cases g3 : xs[i].id = 1
      · rw [if_pos g3]
      rw [if_neg g3] at he ⊢
      by_cases g4 : 0 < (kidsR xs next xs[i].id).length
      · rw [if_pos g4]
      rw [if_neg g4] at he
      exact absurd rfl he
    rw [this] at hq
    simp at hq
end Gc

namespace Gc
open Go Go.RowKit

theorem sum_at {f f' : Int → Int} {p n : Int} : ∀ (l : List Int), (∀ a ∈ l, f' a = f a + (if a = p then n else 0)) → l.Nodup → (l.map f').sum = (l.map f).sum + (if p ∈ l then n else 0) := by
  intro l
  induction l with
  | nil => intro _ _; simp
  | cons a l ih =>
    intro h hn
    rw [List.nodup_cons] at hn
    have h1 := ih (fun b hb => h b (List.mem_cons_of_mem _ hb)) hn.2
    have h2 := h a List.mem_cons_self
    simp only [List.map_cons, List.sum_cons, h1, h2, List.mem_cons]
    by_cases e : p = a
    · subst e
      rw [if_pos rfl, if_neg hn.1, if_pos (Or.inl rfl)]
      omega
    · rw [if_neg (fun h => e h.symm)]
      by_cases e2 : p ∈ l
      · rw [if_pos e2, if_pos (Or.inr e2)]; omega
      · rw [if_neg e2, if_neg (by rintro (h | h); exact e h; exact e2 h)]; omega

theorem sum_flat (f : Int → List Int) (o : Int → Int) : ∀ l : List Int, ((l.flatMap f).map o).sum = (l.map (fun c => ((f c).map o).sum)).sum
  | [] => by simp
  | c :: l => by simp only [List.flatMap_cons, List.map_append, List.sum_append, List.map_cons, List.sum_cons, sum_flat f o l]

theorem sum_bounds {f : Int → Int} {K : Int} : ∀ l : List Int, (∀ a ∈ l, 0 ≤ f a ∧ f a ≤ K) → 0 ≤ (l.map f).sum ∧ (l.map f).sum ≤ l.length * K := by
  intro l
  induction l with
  | nil => intro _; simp
  | cons a l ih =>
    intro h
    have h1 := ih (fun b hb => h b (List.mem_cons_of_mem _ hb))
    have h2 := h a List.mem_cons_self
    simp only [List.map_cons, List.sum_cons, List.length_cons]
    have : ((l.length + 1 : Nat) : Int) * K = l.length * K + K := by rw [Int.natCast_add, Int.add_mul]; simp
    omega

theorem own_bounds {xs : List Grp} {next : Int} {ls : List Tal} {K : Int} (h : evB xs next ls = true) (hC : CB K ls) (h0 : 0 ≤ K) (a k : Int) : 0 ≤ ownE ls a k ∧ ownE ls a k ≤ K := by
  obtain ⟨c1, c2, c3⟩ := ev_ids h
  by_cases ha : ∃ i, ∃ hi : i < xs.length, xs[i].id = a
  · obtain ⟨i, hi, rfl⟩ := ha
    rw [own_node h hi]
    split
    · rename_i hk
      obtain ⟨kk, rfl, hkk⟩ := kindB_cases hk
      rw [getD_at (show i < ls.length by omega)]
      exact hC _ (List.getElem_mem _) kk hkk
    · omega
  · rw [own_none h (fun i hi e => ha ⟨i, hi, e⟩)]
    omega

theorem tot_bounds {xs : List Grp} {next : Int} {ls : List Tal} {K : Int} (h : evB xs next ls = true) (hC : CB K ls) (h0 : 0 ≤ K) (a k : Int) : 0 ≤ totE xs ls a k ∧ totE xs ls a k ≤ xs.length * K := by
  have hT := (good_of_check (ev_ids h).1).tr.1
  rw [totE_under hT]
  have h1 := sum_bounds (f := fun a => ownE ls a k) (K := K) (under xs a) (fun b _ => own_bounds h hC h0 b k)
  have h2 := hT.len a
  have : ((under xs a).length : Int) * K ≤ xs.length * K := Int.mul_le_mul_of_nonneg_right (by omega) h0
  omega

/-- the tallies behind one more event -/
def bump (ls : List Tal) (i k : Nat) (n : Int) : List Tal := ls.set i ((ls.getD i default).put ((ls.getD i default).at k + n) k)

theorem own_bump {xs : List Grp} {next : Int} {ls : List Tal} {i k : Nat} {n : Int} (h : evB xs next ls = true) (h' : evB xs next (bump ls i k n) = true) (hi : i < xs.length) (hk : k < 6) {a : Int} (ha : ∃ x ∈ xs, x.id = a) :
    ownE (bump ls i k n) a k = ownE ls a k + (if a = xs[i].id then n else 0) := by
  obtain ⟨x, hx, rfl⟩ := ha
  obtain ⟨j, hj, rfl⟩ := List.mem_iff_getElem.1 hx
  obtain ⟨c1, c2, c3⟩ := ev_ids h
  have hT := (good_of_check c1).tr.1
  have hkb : kindB (k : Int) = true := by simp [kindB]; omega
  have hjl : j < ls.length := by omega
  have hil : i < ls.length := by omega
  have e2 := getD_at (xs := bump ls i k n) (show j < (bump ls i k n).length by unfold bump; rw [List.length_set]; omega)
  have e3 := getD_at (xs := ls) hjl
  have e4 := getD_at (xs := ls) hil
  rw [own_node h' hj, own_node h hj, if_pos hkb, if_pos hkb, e2, e3, show ((k : Nat) : Int).toNat = k from rfl]
  unfold bump
  rw [List.getElem_set]
  by_cases hij : i = j
  · subst hij
    rw [if_pos rfl, if_pos rfl, e4, put_at _ _ hk hk, if_pos rfl]
  · rw [if_neg hij, if_neg]
    · omega
    · intro e
      rcases Nat.lt_trichotomy i j with h' | h' | h'
      · have := hT.ids_lt i j hi hj h'; omega
      · exact hij h'
      · have := hT.ids_lt j i hj hi h'; omega

theorem tot_bump {xs : List Grp} {next : Int} {ls : List Tal} {i k : Nat} {n : Int} (h : evB xs next ls = true) (h' : evB xs next (bump ls i k n) = true) (hi : i < xs.length) (hk : k < 6) (g : Int) :
    totE xs (bump ls i k n) g k = totE xs ls g k + (if xs[i].id ∈ under xs g then n else 0) := by
  have hT := (good_of_check (ev_ids h).1).tr.1
  rw [totE_under hT, totE_under hT]
  exact sum_at (under xs g) (fun a ha => own_bump h h' hi hk (hT.sub g a ha)) (hT.nodup g)

theorem anc_node {xs : List Grp} {next : Int} (h : checkB xs next = true) {i : Nat} (hi : i < xs.length) (g : Int) : g ∈ ancR xs next xs[i].id ↔ xs[i].id ∈ under xs g := by
  unfold ancR
  rw [if_pos (hasR_node h hi)]
  exact (good_of_check h).tr.1.up_under g _

theorem sums_step {xs : List Grp} {next : Int} {ls : List Tal} {i k : Nat} {n : Int} (h : evB xs next ls = true) (h' : evB xs next (bump ls i k n) = true) (hi : i < xs.length) (hk : k < 6) (hn : 1 ≤ n) {j : Nat} (hj : j < xs.length) :
    ∃ a b, totR xs next ls xs[j].id k = (a, 0) ∧ totR xs next (bump ls i k n) xs[j].id k = (b, 0) ∧ decide (b > a) = decide (xs[j].id ∈ ancR xs next xs[i].id) ∧ ¬ b < a := by
  refine ⟨_, _, totR_node h hj hk, totR_node h' hj hk, ?_, ?_⟩
  · rw [tot_bump h h' hi hk]
    apply decide_eq_decide.2
    rw [anc_node (ev_ids h).1 hi]
    by_cases hm : xs[i].id ∈ under xs xs[j].id
    · rw [if_pos hm]
      exact ⟨fun _ => hm, fun _ => by omega⟩
    · rw [if_neg hm]
      exact ⟨fun e => by omega, fun e => absurd e hm⟩
  · rw [tot_bump h h' hi hk]
    split <;> omega

theorem kids_node {xs : List Grp} {next : Int} {ls : List Tal} (h : evB xs next ls = true) {i k : Nat} (hi : i < xs.length) (hk : k < 6) :
    (∀ q (hq : q < (kidsR xs next xs[i].id).length), totR xs next ls (kidsR xs next xs[i].id)[q] k = (totE xs ls (kidsR xs next xs[i].id)[q] k, 0)) ∧
    totE xs ls xs[i].id k - ownE ls xs[i].id k - ((kidsR xs next xs[i].id).map (fun c => totE xs ls c k)).sum = 0 ∧ (kidsR xs next xs[i].id).length ≤ xs.length := by
  have hT := (good_of_check (ev_ids h).1).tr.1
  have e : kidsR xs next xs[i].id = children xs xs[i].id := by unfold kidsR; rw [if_pos (hasR_node (ev_ids h).1 hi)]
  refine ⟨fun q hq => ?_, ?_, ?_⟩
  · have hm : (kidsR xs next xs[i].id)[q] ∈ children xs xs[i].id := by rw [← e]; exact List.getElem_mem hq
    obtain ⟨y, hy, hyc, -⟩ := children_in hm
    obtain ⟨j, hj, rfl⟩ := List.mem_iff_getElem.1 hy
    rw [← hyc]
    exact totR_node h hj hk
  · rw [e, totE_under hT, perm_sum ((hT.perm xs[i].id ⟨_, List.getElem_mem hi, rfl⟩).map (fun a => ownE ls a k)), List.map_cons, List.sum_cons, sum_flat]
    have : (fun c => totE xs ls c k) = fun c => ((under xs c).map (fun a => ownE ls a k)).sum := funext fun c => totE_under hT ls c k
    rw [this]
    omega
  · rw [e]
    unfold children
    rw [List.length_map]
    exact List.length_filter_le _ _
end Gc
