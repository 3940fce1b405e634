/-
  slices.Insert at the end; private.give.
-/
import Derived.Test.YtdkcdplpefpgjaaSearch
import Derived.Test.YtdkcdplpefpgjaaOwnSet
import Derived.Test.YtdkcdplpefpgjaaPriv
set_option linter.unusedSimpArgs false
set_option linter.unusedVariables false
namespace Go.Proofs.Ytdkcdplpefpgjaa
open Go.RowKit Gc

set_option maxRecDepth 100000 in
set_option maxHeartbeats 1000000 in
theorem insertEnd_c (B : Nat) (v : Value) (ls : List Q4) (x : Q4) (A : Option Addr) (c : Nat) (w : World) (hown : Own w B 89 4 v (ls.map Q4.cells)) (hB : B ≤ w.heap.size) (hl : ls.length ≤ 1048576) (hR : Rd w 4 A ([x].map Q4.cells)) :
    Calls Try.prog 85 #[v, .int .i64 ls.length, .slice A 1 c] w fun e w' => ∃ v', e = .returned v' ∧ Own w' B 89 4 v' ((ls ++ [x]).map Q4.cells) ∧ w.grownBy w' v.ownBlock ∧ (v'.ownBlock = v.ownBlock ∨ v'.ownBlock = some w.heap.size) := by
  obtain ⟨A', c', rfl, hn, hm, hrd, hb, hlt⟩ := hown.rd
  rw [List.length_map] at *
  have hsl := fun W => cut_l siRes A' ls.length c' ls.length (Nat.le_refl _) (ls.length : Int) rfl .i64 W
  have e1 : (ls.length : Int) ≤ (c' : Int) := by omega
  have HO := Lib.hid hown
  have HR := Lib.hid hR
  clear hown hR
  go_enter Try.func85, Try.ntmps85
  go_wp2_with (at_builtin; refine appAny siRes ([x].map Q4.cells) rfl _ _ rfl rfl rfl HO.out HR.out (by simp) (quad_len _) (quad_one _) (by simp; omega) (by omega) hB ?_; intro v' w1 hown' hg hat)
  go_ret
  exact ⟨_, rfl, by simpa using hown', hg, hat⟩

/-- residents after a process was given pages -/
def giveL (ls : List Q4) (p g a s : Int) : List Q4 :=
  if a + s = 0 then ls else if bsHit ls ⟨p, g, 0, 0⟩ then ls.set (bsAt ls ⟨p, g, 0, 0⟩) ⟨(ls.getD (bsAt ls ⟨p, g, 0, 0⟩) default).a, (ls.getD (bsAt ls ⟨p, g, 0, 0⟩) default).b, (ls.getD (bsAt ls ⟨p, g, 0, 0⟩) default).c + a, (ls.getD (bsAt ls ⟨p, g, 0, 0⟩) default).d + s⟩
  else ls.take (bsAt ls ⟨p, g, 0, 0⟩) ++ ⟨p, g, a, s⟩ :: ls.drop (bsAt ls ⟨p, g, 0, 0⟩)

set_option maxRecDepth 100000 in
set_option maxHeartbeats 1000000 in
theorem give_hit (B : Nat) (v : Value) (ls : List Q4) (p g a s : Int) (w : World) (hown : Own w B 89 4 v (ls.map Q4.cells)) (hB : B ≤ w.heap.size) (hs : Small ls) (ha : -35184372088832 ≤ a ∧ a ≤ 35184372088832) (hs' : -35184372088832 ≤ s ∧ s ≤ 35184372088832)
    (hz : ¬ a + s = 0) (hh : bsHit ls ⟨p, g, 0, 0⟩ = true) :
    Calls Try.prog 50 #[v, .int .i64 p, .int .i64 g, .int .i64 a, .int .i64 s] w fun e w' => ∃ v', e = .returned v' ∧ Own w' B 89 4 v' ((giveL ls p g a s).map Q4.cells) ∧ Below B w w' := by
  have hl := hs.1
  have hi : bsAt ls ⟨p, g, 0, 0⟩ < ls.length := by
    simp only [bsHit, Bool.and_eq_true, decide_eq_true_eq] at hh
    exact hh.1
  obtain ⟨b, c, rfl, hn, hm, hBb, hbs, hf, hrd⟩ := hown.open' (by simp; omega)
  rw [List.length_map] at *
  have hG := Lib.hid (show giveL ls p g a s = ls.set (bsAt ls ⟨p, g, 0, 0⟩) ⟨(ls.getD (bsAt ls ⟨p, g, 0, 0⟩) default).a, (ls.getD (bsAt ls ⟨p, g, 0, 0⟩) default).b, (ls.getD (bsAt ls ⟨p, g, 0, 0⟩) default).c + a, (ls.getD (bsAt ls ⟨p, g, 0, 0⟩) default).d + s⟩ by unfold giveL; rw [if_neg hz, if_pos hh])
  have hS := search_c (some ⟨b, 0, none⟩) c ls ⟨p, g, 0, 0⟩ w hrd (by omega)
  rw [hh] at hS
  generalize bsAt ls ⟨p, g, 0, 0⟩ = i at *
  have hgd : ls.getD i default = ls[i] := by rw [List.getD_eq_getElem?_getD, List.getElem?_eq_getElem hi]; rfl
  have hx := hs.2 _ (List.getElem_mem hi)
  rw [hgd] at hG
  have HS := Lib.hid hS
  have HO := Lib.hid hown
  obtain ⟨b', o', e0, _, hc⟩ := hrd.row (i := i) (c := ls[i].cells) (map_at _ hi)
  simp only [Option.some.injEq, Addr.mk.injEq, and_true] at e0
  obtain ⟨rfl, rfl⟩ := e0
  have hle := Lib.hid (show (ls.map Q4.cells)[i]'(by simpa using hi) = ls[i].cells by simp)
  clear hS hown hh hrd hgd hs
  generalize hxx : ls[i] = x at *
  obtain ⟨xa, xb, xc, xd⟩ := x
  have HXX := Lib.hid hxx
  clear hxx
  simp only [Q4.cells, CellsFrom, Nat.add_zero, Nat.zero_add, Nat.reduceAdd] at hc HS hx
  obtain ⟨c0, c1, c2, c3, -⟩ := hc
  have w1 : -9223372036854775808 ≤ xc + a ∧ xc + a ≤ 9223372036854775807 := by omega
  have w2 : -9223372036854775808 ≤ xd + s ∧ xd + s ≤ 9223372036854775807 := by omega
  have w3 : -9223372036854775808 ≤ a + s ∧ a + s ≤ 9223372036854775807 := by omega
  have z0 : (a + s == 0) = false := by simpa using hz
  have hil : (i : Int) < (ls.length : Int) := by omega
  go_enter Try.func50, Try.ntmps50
  go_wp2_with (go_at_call 84; refine (HS.out).mono ?_; rintro e W ⟨rfl, hb⟩; have k2 := (hb.cell (p := ⟨b, i * 4 + 2, none⟩) hbs).trans c2; have k3 := (hb.cell (p := ⟨b, i * 4 + 3, none⟩) hbs).trans c3; have kf : ∀ off, W.frozen? ⟨b, off, none⟩ = false := fun off => (hb.frozen (p := ⟨b, off, none⟩) hbs).trans (hf off))
  go_ret
  have ho2 := HO.out.below hb (Nat.le_refl _)
  have h3 := (ho2.set rfl (i := i) (j := 2) (by simpa using hi) (by omega) (.int .i64 (xc + a)))
  have h4 := (h3.set rfl (i := i) (j := 3) (by simpa using hi) (by omega) (.int .i64 (xd + s)))
  refine ⟨_, rfl, ?_, ((hb.mono hB).setCell hBb _).setCell hBb _⟩
  have he : (List.map Q4.cells (giveL ls p g a s)) = (((ls.map Q4.cells).set i (((ls.map Q4.cells)[i]'(by simpa using hi)).set 2 (.int .i64 (xc + a)))).set i ((((ls.map Q4.cells).set i (((ls.map Q4.cells)[i]'(by simpa using hi)).set 2 (.int .i64 (xc + a))))[i]'(by simpa using hi)).set 3 (.int .i64 (xd + s)))) := by
    rw [hG.out, List.map_set]
    simp only [List.getElem_set_self, List.set_set]
    rw [hle.out]
    rfl
  rw [he]
  simpa using h4

set_option maxRecDepth 100000 in
set_option maxHeartbeats 1000000 in
theorem give_zero (B : Nat) (v : Value) (ls : List Q4) (p g a s : Int) (w : World) (hown : Own w B 89 4 v (ls.map Q4.cells)) (hz : a + s = 0) :
    Calls Try.prog 50 #[v, .int .i64 p, .int .i64 g, .int .i64 a, .int .i64 s] w fun e w' => ∃ v', e = .returned v' ∧ Own w' B 89 4 v' ((giveL ls p g a s).map Q4.cells) ∧ Below B w w' := by
  have hG : giveL ls p g a s = ls := by unfold giveL; rw [if_pos hz]
  rw [hG]
  have w3 : -9223372036854775808 ≤ a + s ∧ a + s ≤ 9223372036854775807 := by omega
  have z0 : (a + s == 0) = true := by simpa using hz
  have HO := Lib.hid hown
  clear hG hown hz
  go_enter Try.func50, Try.ntmps50
  go_wp2
  go_ret
  exact ⟨_, rfl, HO.out, Below.refl _ _⟩

set_option maxRecDepth 100000 in
set_option maxHeartbeats 1000000 in
theorem give_end (B : Nat) (v : Value) (ls : List Q4) (p g a s : Int) (w : World) (hown : Own w B 89 4 v (ls.map Q4.cells)) (hB : B ≤ w.heap.size) (hl : ls.length ≤ 131072) (ha : -35184372088832 ≤ a ∧ a ≤ 35184372088832) (hs' : -35184372088832 ≤ s ∧ s ≤ 35184372088832)
    (hz : ¬ a + s = 0) (hh : bsHit ls ⟨p, g, 0, 0⟩ = false) (hi : bsAt ls ⟨p, g, 0, 0⟩ = ls.length) :
    Calls Try.prog 50 #[v, .int .i64 p, .int .i64 g, .int .i64 a, .int .i64 s] w fun e w' => ∃ v', e = .returned v' ∧ Own w' B 89 4 v' ((giveL ls p g a s).map Q4.cells) ∧ Below B w w' := by
  obtain ⟨A, c, rfl, hn, hm, hrd, hob, hlt⟩ := hown.rd
  rw [List.length_map] at *
  have hG : giveL ls p g a s = ls ++ [⟨p, g, a, s⟩] := by unfold giveL; rw [if_neg hz, hh, hi]; simp
  rw [hG]
  have HS := Lib.hid (search_c A c ls ⟨p, g, 0, 0⟩ w hrd (by omega))
  rw [hh, hi] at HS
  have HO := Lib.hid hown
  clear hown hh hi hrd hG
  simp only [Q4.cells] at HS
  have w3 : -9223372036854775808 ≤ a + s ∧ a + s ≤ 9223372036854775807 := by omega
  have w4 : -9223372036854775808 ≤ 0 + a ∧ 0 + a ≤ 9223372036854775807 := by omega
  have w5 : -9223372036854775808 ≤ 0 + s ∧ 0 + s ≤ 9223372036854775807 := by omega
  have z0 : (a + s == 0) = false := by simpa using hz
  have hil : (ls.length : Int) < ((ls.length + 1 : Nat) : Int) := by omega
  go_enter Try.func50, Try.ntmps50
  go_wp2_with (go_at_call 84; refine (HS.out).mono ?_; rintro e W ⟨rfl, hb⟩)
  have hbW := hb.size
  have hB2 : Below W.heap.size W (W.alloc (.cells #[.int .i64 p, .int .i64 g, .int .i64 0, .int .i64 0] 89)) := (Below.refl _ _).alloc (Nat.le_refl _) _
  have hR : Rd (W.alloc (.cells #[.int .i64 p, .int .i64 g, .int .i64 0, .int .i64 0] 89)) 4 (some ⟨W.heap.size, 0, none⟩) ([(⟨p, g, 0, 0⟩ : Q4)].map Q4.cells) := by
    intro i hi
    obtain rfl : i = 0 := by simp at hi; omega
    exact ⟨_, _, rfl, by simp, (Box.mk W (Q4.cells ⟨p, g, 0, 0⟩) 89).cells⟩
  refine (insertEnd_c B (.slice A ls.length c) ls ⟨p, g, 0, 0⟩ (some ⟨W.heap.size, 0, none⟩) 1 _ ((HO.out.below hb (Nat.le_refl _)).below hB2 (Nat.le_refl _)) (by simp; omega) (by omega) hR).mono ?_
  rintro e W2 ⟨v', rfl, hown2, hg2, hat2⟩
  have hBB : Below B w W2 := (((hb.mono hB).trans (hB2.mono (by omega)))).grown hg2 (by simp; omega) (fun k e => (hlt k (by rw [← hob]; exact e)).1)
  obtain ⟨b, c2, rfl, hn2, hm2, hBb, hbs, hf, hrd⟩ := hown2.open' (by simp)
  have hlen : (List.map Q4.cells (ls ++ [⟨p, g, 0, 0⟩])).length = ls.length + 1 := by simp
  rw [hlen] at *
  obtain ⟨b', o', e0, _, hc⟩ := hrd.row (i := ls.length) (c := Q4.cells ⟨p, g, 0, 0⟩) (by simp)
  simp only [Option.some.injEq, Addr.mk.injEq, and_true] at e0
  obtain ⟨rfl, rfl⟩ := e0
  simp only [Q4.cells, CellsFrom, Nat.add_zero, Nat.zero_add, Nat.reduceAdd] at hc
  obtain ⟨c0, c1, c22, c3, -⟩ := hc
  have HO2 := Lib.hid hown2
  clear hown2 hg2 hat2 HO HS hR hrd hlt hob
  go_wp2
  go_ret
  have h3 := (HO2.out.set rfl (i := ls.length) (j := 2) (by simp) (by omega) (.int .i64 a))
  have h4 := (h3.set rfl (i := ls.length) (j := 3) (by simp) (by omega) (.int .i64 s))
  refine ⟨_, rfl, ?_, (hBB.setCell hBb _).setCell hBb _⟩
  have he : ∀ (L : List (List Value)) (r : List Value) (n : Nat) (hn : n = L.length) (u u' : Value) (h1 : n < (L ++ [r]).length) (h2 : n < ((L ++ [r]).set n ((L ++ [r])[n].set 2 u)).length),
      (((L ++ [r]).set n ((L ++ [r])[n].set 2 u)).set n ((((L ++ [r]).set n ((L ++ [r])[n].set 2 u))[n]).set 3 u')) = L ++ [(r.set 2 u).set 3 u'] := by
    intro L r n hn u u' h1 h2
    subst hn
    simp
  have h5 := he (ls.map Q4.cells) (Q4.cells ⟨p, g, 0, 0⟩) ls.length (by simp) (.int .i64 a) (.int .i64 s) (by simp) (by simp)
  have h6 : (ls ++ [(⟨p, g, a, s⟩ : Q4)]).map Q4.cells = ls.map Q4.cells ++ [((Q4.cells ⟨p, g, 0, 0⟩).set 2 (.int .i64 a)).set 3 (.int .i64 s)] := by
    rw [List.map_append]; rfl
  rw [h6, ← h5]
  simpa using h4

theorem give_c (B : Nat) (v : Value) (ls : List Q4) (p g a s : Int) (w : World) (hown : Own w B 89 4 v (ls.map Q4.cells)) (hB : B ≤ w.heap.size) (hs : Small ls) (ha : -35184372088832 ≤ a ∧ a ≤ 35184372088832) (hs' : -35184372088832 ≤ s ∧ s ≤ 35184372088832)
    (hend : a + s = 0 ∨ bsHit ls ⟨p, g, 0, 0⟩ = true ∨ bsAt ls ⟨p, g, 0, 0⟩ = ls.length) :
    Calls Try.prog 50 #[v, .int .i64 p, .int .i64 g, .int .i64 a, .int .i64 s] w fun e w' => ∃ v', e = .returned v' ∧ Own w' B 89 4 v' ((giveL ls p g a s).map Q4.cells) ∧ Below B w w' := by
  by_cases hz : a + s = 0
  · exact give_zero B v ls p g a s w hown hz
  · cases hh : bsHit ls ⟨p, g, 0, 0⟩ with
    | true => exact give_hit B v ls p g a s w hown hB hs ha hs' hz hh
    | false => exact give_end B v ls p g a s w hown hB (Nat.le_trans hs.1 (by omega)) ha hs' hz hh ((hend.resolve_left hz).resolve_left (by rw [hh]; simp))

end Go.Proofs.Ytdkcdplpefpgjaa
