/-
  event.Add.
-/
import Derived.Test.YtmjnibofdpgacaaDoorEvTotal
import Derived.Test.YtmjnibofdpgacaaDoorBase
import Derived.BigRegion
set_option linter.unusedSimpArgs false
set_option linter.unusedVariables false
namespace Go.Proofs.YtmjnibofdpgacaaDoor
open Go.RowKit Gc

set_option maxRecDepth 100000 in
set_option maxHeartbeats 4000000 in
theorem evAdd_c (A : Option Addr) (c : Nat) (xs : List Grp) (next : Int) (D : Option Addr) (e : Nat) (ls : List Tal) (id k n : Int) (w : World) (hA : Rd w 6 A (xs.map Grp.cells)) (hok : ∀ x ∈ xs, x.ok) (hlA : xs.length ≤ 1048576) (hcap : xs.length ≤ c)
    (hD : Rd w 7 D (ls.map Tal.cells)) (hnil : D = none → e = 0) (hlD : ls.length ≤ 1048576) :
    Calls Tryd.prog 11 #[.agg #[.slice A xs.length c, .int .i64 next], .slice D ls.length e, .int .i64 id, .int .i64 k, .int .i64 n] w fun e w' => ∃ v, e = .returned (.tuple #[v, .int .i64 (addE xs next ls id k n).2]) ∧
       Own w' w.heap.size 47 7 v ((addE xs next ls id k n).1.map Tal.cells) ∧ Below w.heap.size w w' := by
  have hB1 : Below w.heap.size w (w.alloc (.cells #[.slice A xs.length c, .int .i64 next] 24)) := (Below.refl _ _).alloc (Nat.le_refl _) _
  have hA1 := hA.below hB1 (Nat.le_refl _)
  have hD1 := hD.below hB1 (Nat.le_refl _)
  have z1 := hB1.size
  have HV := Lib.hid (fun W hA hD => evValid_c A c xs next D e ls W hA hok (by omega) hcap hD (by omega))
  have HF := Lib.hid (fun W hD => evFind_c D e ls id W hD (by omega))
  have HCl := Lib.hid (fun W hD => cloneTal_c D e ls W hD hnil hlD)
  have hR := Lib.hid (show addE xs next ls id k n = if evB xs next ls = false then ([], 1) else if tix ls id < 0 then ([], 4) else if (kindB k && cntB n) = false then ([], 3) else if 1099511627776 < (ls.getD (tix ls id).toNat default).at k.toNat + n then ([], 7) else (ls.set (tix ls id).toNat ((ls.getD (tix ls id).toNat default).put ((ls.getD (tix ls id).toNat default).at k.toNat + n) k.toNat), 0) from rfl)
  have hz0 : (∃ n : Nat, tix ls id = n ∧ n < ls.length) ∨ tix ls id = -1 := idx_cases _ _
  go_enter Tryd.func11, Tryd.ntmps11
  go_wp2_with fail
  generalize hWx : w.alloc _ = W1 at *
  clear hWx hA hD
  refine (HV.out W1 hA1 hD1).mono ?_
  rintro e0 W ⟨rfl, hb⟩
  have hD2 := hD1.below hb (Nat.le_refl _)
  have hB2 := hB1.trans (hb.mono z1)
  clear hB1 hA1 hD1 hb HV
  cases g1 : evB xs next ls with
  | false =>
    have HR := Lib.hid (show addE xs next ls id k n = ([], 1) by rw [hR.out, if_pos g1])
    clear hR g1 hnil
    go_wp2
    go_ret2
    exact ⟨.slice none 0 0, by rw [HR.out]; rfl, by rw [HR.out]; exact Own.nil _ _ _ _, hB2⟩
  | true =>
    have hR := Lib.hid (show addE xs next ls id k n = if tix ls id < 0 then ([], 4) else if (kindB k && cntB n) = false then ([], 3) else if 1099511627776 < (ls.getD (tix ls id).toNat default).at k.toNat + n then ([], 7) else (ls.set (tix ls id).toNat ((ls.getD (tix ls id).toNat default).put ((ls.getD (tix ls id).toNat default).at k.toNat + n) k.toNat), 0) by rw [hR.out, if_neg (by rw [g1]; simp)])
    have HSm := Lib.hid (smallT_of g1)
    clear g1
    generalize tix ls id = z at *
    go_wp2_with fail
    refine (HF.out W hD2).mono ?_
    rintro e0 W2 ⟨rfl, hb⟩
    have hD3 := hD2.below hb (Nat.le_refl _)
    have hB3 := hB2.trans (hb.mono hB2.size)
    clear hb hD2 hB2 HF
    rcases hz0 with ⟨i, rfl, hi⟩ | rfl
    · have g2 : ¬ ((i : Int) < 0) := by omega
      have hii : (i : Int) < (ls.length : Int) := by omega
      have hgd := getD_at hi
      have hR := Lib.hid (show addE xs next ls id k n = if (kindB k && cntB n) = false then ([], 3) else if 1099511627776 < ls[i].at k.toNat + n then ([], 7) else (ls.set i (ls[i].put (ls[i].at k.toNat + n) k.toNat), 0) by rw [hR.out, if_neg g2, show (i : Int).toNat = i from rfl, hgd])
      clear hgd
      go_wp2_with fail
      refine (kinds_c k W2).mono ?_
      rintro e0 W3 ⟨rfl, rfl⟩
      cases g3 : kindB k with
      | false =>
        have HR := Lib.hid (show addE xs next ls id k n = ([], 3) by rw [hR.out, g3]; rfl)
        clear hR g3 hnil
        go_wp2
        go_ret2
        exact ⟨.slice none 0 0, by rw [HR.out]; rfl, by rw [HR.out]; exact Own.nil _ _ _ _, hB3⟩
      | true =>
        go_wp2_with fail
        refine (count_c n W3).mono ?_
        rintro e0 W4 ⟨rfl, rfl⟩
        cases g4 : cntB n with
        | false =>
          have HR := Lib.hid (show addE xs next ls id k n = ([], 3) by rw [hR.out, g3, g4]; rfl)
          clear hR g3 g4 hnil
          go_wp2
          go_ret2
          exact ⟨.slice none 0 0, by rw [HR.out]; rfl, by rw [HR.out]; exact Own.nil _ _ _ _, hB3⟩
        | true =>
          have hR := Lib.hid (show addE xs next ls id k n = if 1099511627776 < ls[i].at k.toNat + n then ([], 7) else (ls.set i (ls[i].put (ls[i].at k.toNat + n) k.toNat), 0) by rw [hR.out, g3, g4]; rfl)
          obtain ⟨j, rfl, hj⟩ := kindB_cases g3
          simp only [cntB, Bool.and_eq_true, decide_eq_true_eq] at g4
          obtain ⟨n0, n1⟩ := g4
          have hji : (j : Int) < 6 := by omega
          rw [show (j : Int).toNat = j from rfl] at hR
          have hx := HSm.out _ (List.getElem_mem hi) j hj
          obtain ⟨b, o, rfl, hbs, hc⟩ := hD3.row (i := i) (c := ls[i].cells) (map_at _ hi)
          have hcell := hc.at_ (j + 1) _ (ls[i].cells_at hj)
          rw [show o + i * 7 + (0 + (j + 1)) = o + i * 7 + 1 + j from by omega] at hcell
          have HPut := Lib.hid (fun v => ls[i].cells_put v hj)
          have HCa := Lib.hid (ls[i].cells_at hj)
          have hg : (ls.map Tal.cells)[i]'(by simpa using hi) = ls[i].cells := by simp
          have Hg := Lib.hid hg
          clear hc g3 hg
          generalize hv : ls[i].at j = v at *
          clear hv
          have w1 : -9223372036854775808 ≤ v + n ∧ v + n ≤ 9223372036854775807 := by omega
          by_cases g5 : 1099511627776 < v + n
          · have HR := Lib.hid (show addE xs next ls id j n = ([], 7) by rw [hR.out, if_pos g5])
            clear hR hnil
            go_wp2
            go_ret2
            exact ⟨.slice none 0 0, by rw [HR.out]; rfl, by rw [HR.out]; exact Own.nil _ _ _ _, hB3⟩
          · have HR := Lib.hid (show addE xs next ls id j n = (ls.set i (ls[i].put (v + n) j), 0) by rw [hR.out, if_neg g5])
            clear hR
            go_wp2_with fail
            refine (HCl.out _ hD3).mono ?_
            rintro e0 W5 ⟨v5, rfl, hown5, hb5⟩
            have hB5 := hB3.trans (hb5.mono hB3.size)
            have zz := hB3.size
            obtain ⟨g, cc, rfl, hn5, -, hBg, hgs, hf, hrd⟩ := hown5.open' (by simp; omega)
            rw [List.length_map] at *
            obtain ⟨b', o', e1, _, hc⟩ := hrd.row (i := i) (c := ls[i].cells) (map_at _ hi)
            simp only [Option.some.injEq, Addr.mk.injEq, and_true] at e1
            obtain ⟨rfl, rfl⟩ := e1
            have hcell5 := hc.at_ (j + 1) _ HCa.out
            rw [show 0 + i * 7 + (0 + (j + 1)) = i * 7 + 1 + j from by omega] at hcell5
            have hf5 := hf (i * 7 + 1 + j)
            have hset := Lib.hid (hown5.set rfl (i := i) (j := j + 1) (by simp; omega) (by omega) (.int .i64 (v + n)))
            have hBset := hB5.setCell (p := ⟨g, i * 7 + 1 + j, none⟩) (show w.heap.size ≤ g by omega) (.int .i64 (v + n))
            clear hc hf hrd hown5 hB5 hb5 HCl
            clear hcell hbs hcap hlA hlD hnil
            go_wp2_with fail
            go_region
            go_wp2
            go_ret2
            have hfin : (ls.set i (ls[i].put (v + n) j)).map Tal.cells = (ls.map Tal.cells).set i (((ls.map Tal.cells)[i]'(by simpa using hi)).set (j + 1) (.int .i64 (v + n))) := by
              rw [List.map_set, HPut.out, Hg.out]
            have hs2 := hset.out
            rw [← hfin, show i * 7 + (j + 1) = i * 7 + 1 + j from by omega] at hs2
            exact ⟨_, by rw [HR.out]; rfl, by rw [HR.out]; exact (hs2.base zz).drew, hBset.drew⟩
    · have HR := Lib.hid (show addE xs next ls id k n = ([], 4) by rw [hR.out]; rfl)
      clear hR hnil
      go_wp2
      go_ret2
      exact ⟨.slice none 0 0, by rw [HR.out]; rfl, by rw [HR.out]; exact Own.nil _ _ _ _, hB3⟩

end Go.Proofs.YtmjnibofdpgacaaDoor
