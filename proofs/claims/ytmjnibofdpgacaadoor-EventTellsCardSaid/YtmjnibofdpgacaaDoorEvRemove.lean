/-
  event.Remove.
-/
import Derived.Test.YtmjnibofdpgacaaDoorEvDel
import Derived.Test.YtmjnibofdpgacaaDoorForestKids
import Derived.Test.YtmjnibofdpgacaaDoorDesc
set_option linter.unusedSimpArgs false
set_option linter.unusedVariables false
namespace Gc
open Go Go.RowKit

theorem ev_ids {xs : List Grp} {next : Int} {ls : List Tal} (h : evB xs next ls = true) : checkB xs next = true ∧ ls.length = xs.length ∧ ∀ i (h1 : i < ls.length) (h2 : i < xs.length), ls[i].g = xs[i].id ∧ ls[i].fineB = true := by
  simp only [evB, Bool.and_eq_true, decide_eq_true_eq] at h
  obtain ⟨h1, h2, h3⟩ := h
  refine ⟨h1, h2, fun i a b => ?_⟩
  have := List.all_eq_true.1 h3 i (List.mem_range.2 a)
  unfold evStep at this
  rw [List.getElem?_eq_getElem a, List.getElem?_eq_getElem b] at this
  simpa using this

theorem Tr.par {xs : List Grp} (h : Tr xs) : ∀ y ∈ xs, y.id = 1 ∨ ∃ p ∈ xs, p.id = y.parent := by
  induction h with
  | root r e1 e2 => intro y hy; simp at hy; subst hy; exact .inl e1
  | snoc xs n hT hn hp ih =>
    intro y hy
    rcases List.mem_append.1 hy with hy | hy
    · rcases ih y hy with h | ⟨p, hp, e⟩
      · exact .inl h
      · exact .inr ⟨p, by simp [hp], e⟩
    · simp at hy; subst hy
      obtain ⟨p, hp, e⟩ := hp
      exact .inr ⟨p, by simp [hp], e⟩

theorem tix_at {ls : List Tal} {id : Int} {n : Nat} (h : tix ls id = n) (hn : n < ls.length) : ls[n].g = id := by
  unfold tix idx at h
  cases e : ls.findIdx? (fun x => x.g == id) with
  | none => rw [e] at h; simp only at h; omega
  | some i =>
    rw [e] at h
    simp only at h
    obtain rfl : i = n := by omega
    have := (List.findIdx?_eq_some_iff_getElem.1 e).2.1
    simpa using this
theorem tix_in {ls : List Tal} {id : Int} (h : ∃ x ∈ ls, x.g = id) : ∃ n : Nat, tix ls id = n ∧ n < ls.length := by
  obtain ⟨x, hx, e⟩ := h
  rcases idx_cases (fun x : Tal => x.g == id) ls with h | h
  · exact h
  · have : (0 : Int) ≤ idx (fun x : Tal => x.g == id) ls := idx_nonneg (List.any_eq_true.2 ⟨x, hx, by simpa using e⟩)
    omega

/-- the parent of a group that is not the root has a tally -/
theorem ev_parent {xs : List Grp} {next : Int} {ls : List Tal} (h : evB xs next ls = true) {id : Int} {i : Nat} (hi : tix ls id = i) (hl : i < ls.length) (hl2 : i < xs.length) (h1 : ¬ id = 1) : ∃ p : Nat, tix ls xs[i].parent = p ∧ p < ls.length := by
  obtain ⟨c1, c2, c3⟩ := ev_ids h
  have hid := tix_at hi hl
  have := (c3 i hl hl2).1
  rcases (tr_of_check c1).par xs[i] (List.getElem_mem hl2) with e | ⟨p, hp, e⟩
  · omega
  · obtain ⟨j, hj, rfl⟩ := List.mem_iff_getElem.1 hp
    exact tix_in ⟨ls[j]'(by omega), List.getElem_mem _, by rw [(c3 j (by omega) hj).1]; exact e⟩

def Tal.upTo (x y : Tal) (m : Nat) : Tal := ⟨x.g, if 0 < m then min (x.c0 + y.c0) 1099511627776 else x.c0, if 1 < m then min (x.c1 + y.c1) 1099511627776 else x.c1, if 2 < m then min (x.c2 + y.c2) 1099511627776 else x.c2,
  if 3 < m then min (x.c3 + y.c3) 1099511627776 else x.c3, if 4 < m then min (x.c4 + y.c4) 1099511627776 else x.c4, if 5 < m then min (x.c5 + y.c5) 1099511627776 else x.c5⟩
theorem Tal.upTo_zero (x y : Tal) : x.upTo y 0 = x := by simp [Tal.upTo]
theorem Tal.upTo_six (x y : Tal) : x.upTo y 6 = upE x y := by simp [Tal.upTo, upE]
theorem Tal.upTo_at (x y : Tal) {m : Nat} (h : m < 6) : (x.upTo y m).at m = x.at m := by
  obtain rfl | rfl | rfl | rfl | rfl | rfl : m = 0 ∨ m = 1 ∨ m = 2 ∨ m = 3 ∨ m = 4 ∨ m = 5 := by omega
  all_goals simp [Tal.upTo, Tal.at]
theorem Tal.upTo_succ (x y : Tal) {m : Nat} (h : m < 6) : (x.upTo y (m + 1)).cells = (x.upTo y m).cells.set (m + 1) (.int .i64 (min (x.at m + y.at m) 1099511627776)) := by
  obtain rfl | rfl | rfl | rfl | rfl | rfl : m = 0 ∨ m = 1 ∨ m = 2 ∨ m = 3 ∨ m = 4 ∨ m = 5 := by omega
  all_goals simp [Tal.upTo, Tal.cells, Tal.at]
theorem min_if (n : Int) : (if 1099511627776 < n then 1099511627776 else n) = min n 1099511627776 := by split <;> omega
theorem set_map (ls : List Tal) (p : Nat) (hp : p < ls.length) (x x' : Tal) (k : Nat) (v : Value) (h : x'.cells = x.cells.set k v) :
    (ls.set p x').map Tal.cells = ((ls.set p x).map Tal.cells).set p ((((ls.set p x).map Tal.cells)[p]'(by simpa using hp)).set k v) := by
  simp only [List.map_set, List.getElem_set_self, List.set_set, h]
end Gc
namespace Go.Proofs.YtmjnibofdpgacaaDoor
open Go.RowKit Gc

set_option maxRecDepth 100000 in
set_option maxHeartbeats 4000000 in
theorem evRemove_c (A : Option Addr) (c : Nat) (xs : List Grp) (next : Int) (D : Option Addr) (e : Nat) (ls : List Tal) (id : Int) (w : World) (hA : Rd w 6 A (xs.map Grp.cells)) (hok : ∀ x ∈ xs, x.ok) (hlA : xs.length ≤ 1048576) (hcap : xs.length ≤ c)
    (hD : Rd w 7 D (ls.map Tal.cells)) (hnil : D = none → e = 0) (hlD : ls.length ≤ 1048576) :
    Calls Tryd.prog 13 #[.agg #[.slice A xs.length c, .int .i64 next], .slice D ls.length e, .int .i64 id] w fun e w' => ∃ v, e = .returned (.tuple #[v, .int .i64 (remE xs next ls id).2]) ∧
       Own w' w.heap.size 47 7 v ((remE xs next ls id).1.map Tal.cells) ∧ Below w.heap.size w w' := by
  have hB1 : Below w.heap.size w (w.alloc (.cells #[.slice A xs.length c, .int .i64 next] 24)) := (Below.refl _ _).alloc (Nat.le_refl _) _
  have hA1 := hA.below hB1 (Nat.le_refl _)
  have hD1 := hD.below hB1 (Nat.le_refl _)
  have b1 := Box.mk w [.slice A xs.length c, .int .i64 next] 24
  have z1 := hB1.size
  have HV := Lib.hid (fun W hA hD => evValid_c A c xs next D e ls W hA hok (by omega) hcap hD (by omega))
  have HF := Lib.hid (fun id W hD => evFind_c D e ls id W hD (by omega))
  have HCl := Lib.hid (fun W hD => cloneTal_c D e ls W hD hnil hlD)
  have HK := Lib.hid (fun W hA => children_c A c xs next id W hA (by omega))
  have hR := Lib.hid (show remE xs next ls id = if evB xs next ls = false then ([], 1) else if tix ls id < 0 then ([], 4) else if id = 1 then ([], 3) else if 0 < (children xs id).length then ([], 6)
    else ((ls.set (tix ls (xs.getD (tix ls id).toNat default).parent).toNat (upE (ls.getD (tix ls (xs.getD (tix ls id).toNat default).parent).toNat default) (ls.getD (tix ls id).toNat default))).eraseIdx (tix ls id).toNat, 0) from rfl)
  have hz0 : (∃ n : Nat, tix ls id = n ∧ n < ls.length) ∨ tix ls id = -1 := idx_cases _ _
  go_enter Tryd.func13, Tryd.ntmps13
  go_wp2_with fail
  generalize hWx : w.alloc _ = W1 at *
  clear hWx hA hD
  refine (HV.out W1 hA1 hD1).mono ?_
  rintro e0 W ⟨rfl, hb⟩
  have hA2 := hA1.below hb (Nat.le_refl _)
  have hD2 := hD1.below hb (Nat.le_refl _)
  have b2 := b1.below hb (Nat.le_refl _)
  have hB2 := hB1.trans (hb.mono z1)
  clear hB1 hA1 hD1 b1 hb HV
  cases g1 : evB xs next ls with
  | false =>
    have HR := Lib.hid (show remE xs next ls id = ([], 1) by rw [hR.out, if_pos g1])
    clear hR g1 hnil
    go_wp2
    go_ret2
    exact ⟨.slice none 0 0, by rw [HR.out]; rfl, by rw [HR.out]; exact Own.nil _ _ _ _, hB2⟩
  | true =>
    have hR := Lib.hid (show remE xs next ls id = if tix ls id < 0 then ([], 4) else if id = 1 then ([], 3) else if 0 < (children xs id).length then ([], 6)
      else ((ls.set (tix ls (xs.getD (tix ls id).toNat default).parent).toNat (upE (ls.getD (tix ls (xs.getD (tix ls id).toNat default).parent).toNat default) (ls.getD (tix ls id).toNat default))).eraseIdx (tix ls id).toNat, 0) by rw [hR.out, if_neg (by rw [g1]; simp)])
    have HSm := Lib.hid (smallT_of g1)
    have HE := Lib.hid (ev_ids g1).2.1
    have HP := Lib.hid (fun i hi hl hl2 h1 => ev_parent g1 (id := id) (i := i) hi hl hl2 h1)
    clear g1
    generalize hzz : tix ls id = z at *
    go_wp2_with fail
    refine (HF.out id W hD2).mono ?_
    rintro e0 W2 ⟨rfl, hb⟩
    rw [hzz]
    clear hzz
    have hA3 := hA2.below hb (Nat.le_refl _)
    have hD3 := hD2.below hb (Nat.le_refl _)
    have b3 := b2.below hb (Nat.le_refl _)
    have hB3 := hB2.trans (hb.mono hB2.size)
    have z3 := b3.lt
    clear hb hA2 hD2 b2 hB2
    rcases hz0 with ⟨i, rfl, hi⟩ | rfl
    · have g2 : ¬ ((i : Int) < 0) := by omega
      have hii : (i : Int) < (ls.length : Int) := by omega
      have hix : i < xs.length := by have := HE.out; omega
      have hR := Lib.hid (show remE xs next ls id = if id = 1 then ([], 3) else if 0 < (children xs id).length then ([], 6)
        else ((ls.set (tix ls xs[i].parent).toNat (upE (ls.getD (tix ls xs[i].parent).toNat default) ls[i])).eraseIdx i, 0) by rw [hR.out, if_neg g2, show (i : Int).toNat = i from rfl, getD_at hi, getD_at hix])
      by_cases g3 : id = 1
      · have HR := Lib.hid (show remE xs next ls id = ([], 3) by rw [hR.out, if_pos g3])
        clear hR hnil HP
        subst g3
        go_wp2
        go_ret2
        exact ⟨.slice none 0 0, by rw [HR.out]; rfl, by rw [HR.out]; exact Own.nil _ _ _ _, hB3⟩
      · obtain ⟨p, hp, hpl⟩ := HP.out i rfl hi hix g3
        have hR := Lib.hid (show remE xs next ls id = if 0 < (children xs id).length then ([], 6) else ((ls.set p (upE ls[p] ls[i])).eraseIdx i, 0) by rw [hR.out, if_neg g3, hp, show (p : Int).toNat = p from rfl, getD_at hpl])
        have g3' : (id == 1) = false := by simpa using g3
        obtain ⟨t0, t1, -⟩ := b3.cells
        simp only [Nat.zero_add, Nat.add_zero, Nat.reduceAdd] at t0 t1
        go_wp2_with fail
        refine (HK.out W2 hA3).mono ?_
        rintro e0 W4 ⟨vk, rfl, hownk, hb⟩
        obtain ⟨Ak, ck, rfl, -, -, -, -, -⟩ := hownk.rd
        rw [List.length_map]
        have hA4 := hA3.below hb (Nat.le_refl _)
        have hD4 := hD3.below hb (Nat.le_refl _)
        have b4 := b3.below hb (Nat.le_refl _)
        have hB4 := hB3.trans (hb.mono hB3.size)
        have z4 := b4.lt
        clear hb hA3 hD3 b3 hB3 t0 t1 hownk HK
        by_cases g4 : 0 < (children xs id).length
        · have HR := Lib.hid (show remE xs next ls id = ([], 6) by rw [hR.out, if_pos g4])
          have g5 : (0 : Int) < ((children xs id).length : Int) := by omega
          clear hR hnil HP
          generalize (children xs id).length = kl at *
          go_wp2
          go_ret2
          exact ⟨.slice none 0 0, by rw [HR.out]; rfl, by rw [HR.out]; exact Own.nil _ _ _ _, hB4⟩
        · have HR := Lib.hid (show remE xs next ls id = ((ls.set p (upE ls[p] ls[i])).eraseIdx i, 0) by rw [hR.out, if_neg g4])
          have g5 : ¬ (0 : Int) < ((children xs id).length : Int) := by omega
          clear hR hnil HP
          generalize (children xs id).length = kl at *
          go_wp2_with fail
          refine (HCl.out W4 hD4).mono ?_
          rintro e0 W5 ⟨v5, rfl, hown5, hb⟩
          have hA5 := hA4.below hb (Nat.le_refl _)
          have hD5 := hD4.below hb (Nat.le_refl _)
          have b5 := b4.below hb (Nat.le_refl _)
          have hB5 := hB4.trans (hb.mono hB4.size)
          have z45 := hb.size
          have z5 := b5.lt
          clear hb hA4 hD4 b4 HCl
          obtain ⟨t0, t1, -⟩ := b5.cells
          simp only [Nat.zero_add, Nat.add_zero, Nat.reduceAdd] at t0 t1
          obtain ⟨b, o, rfl, hbs, hc⟩ := hA5.row (i := i) (c := xs[i].cells) (map_at _ hix)
          simp only [Grp.cells, CellsFrom, Nat.add_zero, Nat.zero_add, Nat.reduceAdd] at hc
          obtain ⟨c0, c1, -⟩ := hc
          have hixi : (i : Int) < (xs.length : Int) := by omega
          generalize xs[i].parent = par at *
          go_wp2_with fail
          refine (HF.out par W5 hD5).mono ?_
          rintro e0 W6 ⟨rfl, hb⟩
          rw [hp]
          have hppi : (p : Int) < (ls.length : Int) := by omega
          obtain ⟨g, cc, rfl, hn5, -, hBg, hgs, hf, hrd⟩ := hown5.open' (by simp; omega)
          rw [List.length_map] at *
          have hD6 := hD5.below hb (Nat.le_refl _)
          have hown6 := hown5.below hb (Nat.le_refl _)
          have hB6 := hB5.trans (hb.mono hB5.size)
          have zz := hB4.size
          obtain ⟨b', o', rfl, hbs', hc'⟩ := hD6.row (i := i) (c := ls[i].cells) (map_at _ hi)
          simp only [Tal.cells, CellsFrom, Nat.add_zero, Nat.zero_add, Nat.reduceAdd] at hc'
          obtain ⟨d0, d1, d2, d3, d4, d5, d6, -⟩ := hc'
          have HSi := Lib.hid (HSm.out _ (List.getElem_mem hi))
          have HSp := Lib.hid (HSm.out _ (List.getElem_mem hpl))
          have hset0 := Lib.hid (show ls.set p (ls[p].upTo ls[i] 0) = ls by rw [Tal.upTo_zero]; simp)
          clear hD5 hown5 hb t0 t1 c0 c1 hf hrd b5 hA5 hB5 HF
          generalize hy : ls[i] = y at *
          generalize hx : ls[p] = x at *
          clear hy hx
          obtain ⟨yg, y0, y1, y2, y3, y4, y5⟩ := y
          simp only at *
          go_wp2
          go_loopw [49] (fun i2 wr => ∃ m : Nat, m ≤ 6 ∧ i2 = .int .i64 m ∧ Own wr W4.heap.size 47 7 (.slice (some ⟨g, 0, none⟩) ls.length cc) ((ls.set p (x.upTo ⟨yg, y0, y1, y2, y3, y4, y5⟩ m)).map Tal.cells) ∧ Below w.heap.size w wr)
            (fun i2 _ => 6 - (intOf i2).toNat)
          case atStart => exact ⟨0, by omega, rfl, by rw [hset0.out]; exact hown6, hB6⟩
          case round =>
            obtain ⟨m, hm, rfl, hown, hB⟩ := hrel
            by_cases hm6 : m < 6
            · have hmi : (m : Int) < 6 := by omega
              have hix6 := fun W => index6 (Tal.mk yg y0 y1 y2 y3 y4 y5) m hm6 W
              obtain ⟨g', cc', e1, -, -, -, hgs', hf, hrd⟩ := hown.open' (by simp; omega)
              simp only [Value.slice.injEq, Option.some.injEq, Addr.mk.injEq, and_true] at e1
              obtain ⟨rfl, -, rfl⟩ := e1
              obtain ⟨b1, o1, e1, -, hc⟩ := hrd.row (i := p) (c := (x.upTo ⟨yg, y0, y1, y2, y3, y4, y5⟩ m).cells) (by rw [List.getElem?_map, List.getElem?_set_self hpl]; rfl)
              simp only [Option.some.injEq, Addr.mk.injEq, and_true] at e1
              obtain ⟨rfl, rfl⟩ := e1
              have hcell := hc.at_ (m + 1) _ ((x.upTo ⟨yg, y0, y1, y2, y3, y4, y5⟩ m).cells_at hm6)
              rw [Tal.upTo_at _ _ hm6, show 0 + p * 7 + (0 + (m + 1)) = p * 7 + 1 + m from by omega] at hcell
              have hf1 := hf (p * 7 + 1 + m)
              have hSuc := Lib.hid (set_map ls p hpl _ _ _ _ (Tal.upTo_succ x ⟨yg, y0, y1, y2, y3, y4, y5⟩ hm6))
              have hset := Lib.hid (fun v => hown.set rfl (i := p) (j := m + 1) (by simp; omega) (by omega) v)
              have s1 := HSp.out m hm6
              have s2 := HSi.out m hm6
              have hBset := fun v => hB.setCell (p := ⟨g, p * 7 + 1 + m, none⟩) (show w.heap.size ≤ g by omega) v
              simp only at hix6
              generalize (Tal.mk yg y0 y1 y2 y3 y4 y5).at m = ym at *
              generalize x.at m = xm at *
              have w1 : -9223372036854775808 ≤ xm + ym ∧ xm + ym ≤ 9223372036854775807 := by omega
              have hB' := Lib.hid (fun v => (hBset v).drew)
              clear hc hrd hf hown hB hBset d0 d1 d2 d3 d4 d5 d6 hD6 hown6 hset0 hB6 hB4
              go_wp2
              go_region
              go_wp2
              go_roundw
              case rel =>
                refine ⟨m + 1, by omega, by go_num, ?_, hB'.out _⟩
                rw [hSuc.out, ← min_if, show p * 7 + 1 + m = p * 7 + (m + 1) from by omega]
                exact (hset.out _).drew
              case measure => simp [intOf]; omega
            · obtain rfl : m = 6 := by omega
              rw [Tal.upTo_six] at hown
              have zw := hB.size
              have zw4 : W4.heap.size ≤ wr.heap.size := by
                obtain ⟨g', cc', e1, -, -, h1, h2, -, -⟩ := hown.open' (by simp; omega)
                omega
              clear d0 d1 d2 d3 d4 d5 d6 hD6 hown6 hset0 hB6 hB4
              go_wp2_with fail
              refine (delTal_c W4.heap.size (.slice (some ⟨g, 0, none⟩) ls.length cc) (ls.set p (upE x ⟨yg, y0, y1, y2, y3, y4, y5⟩)) i wr hown (by simpa using hi) (by simpa using hlD)).mono ?_
              rintro e0 W7 ⟨v7, rfl, hown7, hb⟩
              have hB7 := hB.trans (hb.mono zz)
              go_wp2
              go_ret2
              exact ⟨_, by rw [HR.out]; rfl, by rw [HR.out]; exact hown7.base zz, hB7⟩
    · have HR := Lib.hid (show remE xs next ls id = ([], 4) by rw [hR.out]; rfl)
      clear hR hnil HP
      go_wp2
      go_ret2
      exact ⟨.slice none 0 0, by rw [HR.out]; rfl, by rw [HR.out]; exact Own.nil _ _ _ _, hB3⟩

end Go.Proofs.YtmjnibofdpgacaaDoor
