/-
  private.Out.
-/
import Derived.Test.YtdkcdplpefpgjaaPrivValid
import Derived.Test.YtdkcdplpefpgjaaClone
import Derived.Test.YtdkcdplpefpgjaaOwnSet
import Derived.BigRegion
set_option linter.unusedSimpArgs false
set_option linter.unusedVariables false
namespace Go.Proofs.Ytdkcdplpefpgjaa
open Go.RowKit Gc

/-- the loop of private.Out -/
def outGo (g : Int) : List Q4 → Int → List Q4
  | [], _ => []
  | x :: xs, n => if x.b = g then ⟨x.a, x.b, x.c - min n x.c, x.d + min n x.c⟩ :: outGo g xs (n - min n x.c) else x :: outGo g xs n
/-- what is left of n behind the first residents -/
def outN (g : Int) : List Q4 → Int → Int
  | [], n => n
  | x :: xs, n => if x.b = g then outN g xs (n - min n x.c) else outN g xs n

theorem outGo_len (g : Int) : ∀ (xs : List Q4) (n : Int), (outGo g xs n).length = xs.length
  | [], _ => rfl
  | x :: xs, n => by
    unfold outGo
    split <;> simp [outGo_len g xs]

theorem outGo_append (g : Int) : ∀ (xs ys : List Q4) (n : Int), outGo g (xs ++ ys) n = outGo g xs n ++ outGo g ys (outN g xs n)
  | [], ys, n => rfl
  | x :: xs, ys, n => by
    simp only [List.cons_append, outGo, outN]
    split <;> simp [outGo_append g xs ys]

theorem outN_append (g : Int) : ∀ (xs ys : List Q4) (n : Int), outN g (xs ++ ys) n = outN g ys (outN g xs n)
  | [], ys, n => rfl
  | x :: xs, ys, n => by
    simp only [List.cons_append, outN]
    split <;> simp [outN_append g xs ys]

/-- private.Out: residents and an error -/
def outR (xs : List Grp) (next : Int) (ts : List Q4) (hn : Int) (ls : List Q4) (g n : Int) : List Q4 × Int :=
  if resB xs next ts hn ls = false then ([], 1) else if hasB xs g = false then ([], 4) else if n < 0 ∨ sumC (fun x => x.b == g) ls < n then ([], 3)
  else (outGo g ls n, 0)

set_option maxRecDepth 100000 in
set_option maxHeartbeats 4000000 in
theorem out_c (A : Option Addr) (c : Nat) (xs : List Grp) (next : Int) (B : Option Addr) (d : Nat) (ts : List Q4) (hn : Int) (D : Option Addr) (e : Nat) (ls : List Q4) (g n : Int) (w : World) (hA : Rd w 6 A (xs.map Grp.cells)) (hok : ∀ x ∈ xs, x.ok) (hlA : xs.length ≤ 140737488351232) (hcap : xs.length ≤ c) (h : Rd w 4 B (ts.map Q4.cells)) (hl : ts.length ≤ 140737488351232)
    (hD : Rd w 4 D (ls.map Q4.cells)) (hnil : D = none → e = 0) (hs : Small ls) (hnn : resB xs next ts hn ls = true → ∀ x ∈ ls, 0 ≤ x.c) :
    Calls Try.prog 17 #[.agg #[.slice A xs.length c, .int .i64 next, .slice B ts.length d, .int .i64 hn], .slice D ls.length e, .int .i64 g, .int .i64 n] w fun e w' => ∃ v, e = .returned (.tuple #[v, .int .i64 (outR xs next ts hn ls g n).2]) ∧
       Own w' w.heap.size 89 4 v ((outR xs next ts hn ls g n).1.map Q4.cells) ∧ Below w.heap.size w w' := by
  have hlD := hs.1
  have hB1 : Below w.heap.size w (w.alloc (.cells #[.slice A xs.length c, .int .i64 next, .slice B ts.length d, .int .i64 hn] 47)) := (Below.refl _ _).alloc (Nat.le_refl _) _
  have b1 := Box.mk w [.slice A xs.length c, .int .i64 next, .slice B ts.length d, .int .i64 hn] 47
  have hA1 := hA.below hB1 (Nat.le_refl _)
  have h1 := h.below hB1 (Nat.le_refl _)
  have hD1 := hD.below hB1 (Nat.le_refl _)
  have z1 := b1.lt
  have HKn := Lib.hid (fun W h => known_c A c xs next g W h hlA)
  have HV := Lib.hid (fun W hA h hD => privValid_c A c xs next B d ts hn D e ls W hA hok hlA hcap h hl hD (by omega))
  have HCl := Lib.hid (fun W hD => cloneRes_c D e ls W hD hnil (by omega))
  have HCh := Lib.hid (fun W hD => charged_c D e ls g W hD hs)
  have hR := Lib.hid (show outR xs next ts hn ls g n = if resB xs next ts hn ls = false then ([], 1) else if hasB xs g = false then ([], 4) else if n < 0 ∨ sumC (fun x => x.b == g) ls < n then ([], 3) else (outGo g ls n, 0) from rfl)
  have hsc := (sum_le (fun x => x.b == g) ls hs.2)
  have HS := Lib.hid hs
  clear hs
  go_enter Try.func17, Try.ntmps17
  go_wp2_with fail
  generalize hWx : w.alloc _ = W1 at *
  clear hWx hA h hD
  refine (HV.out W1 hA1 h1 hD1).mono ?_
  rintro e0 W ⟨rfl, hb⟩
  have b2 := b1.below hb (Nat.le_refl _)
  have hA2 := hA1.below hb (Nat.le_refl _)
  have hD2 := hD1.below hb (Nat.le_refl _)
  have hB2 := hB1.trans (hb.mono hB1.size)
  have z2 := b2.lt
  obtain ⟨t0, t1, t2, t3, -⟩ := b2.cells
  simp only [Nat.zero_add, Nat.add_zero, Nat.reduceAdd] at t0 t1 t2 t3
  clear hB1 b1 hA1 h1 hD1 z1 hb HV b2
  cases g1 : resB xs next ts hn ls with
  | false =>
    have HR := Lib.hid (show outR xs next ts hn ls g n = ([], 1) by rw [hR.out, if_pos g1])
    clear hR g1 hnil hsc hnn
    go_wp2
    go_ret2
    exact ⟨.slice none 0 0, by rw [HR.out]; rfl, by rw [HR.out]; exact Own.nil _ _ _ _, hB2⟩
  | true =>
    have hR := Lib.hid (show outR xs next ts hn ls g n = if hasB xs g = false then ([], 4) else if n < 0 ∨ sumC (fun x => x.b == g) ls < n then ([], 3) else (outGo g ls n, 0) by rw [hR.out, if_neg (by rw [g1]; simp)])
    have HNN := Lib.hid (hnn g1)
    clear g1 hnn
    generalize hhas : hasB xs g = has at *
    clear hhas
    go_wp2_with fail
    refine (HKn.out W hA2).mono ?_
    rintro e0 W2 ⟨rfl, hb⟩
    have hD3 := hD2.below hb (Nat.le_refl _)
    have hB3 := hB2.trans (hb.mono hB2.size)
    clear hb hA2 hD2 hB2 z2 HKn t0 t1 t2 t3
    cases has with
    | false =>
      have HR := Lib.hid (show outR xs next ts hn ls g n = ([], 4) by rw [hR.out]; rfl)
      clear hR hnil hsc
      go_wp2
      go_ret2
      exact ⟨.slice none 0 0, by rw [HR.out]; rfl, by rw [HR.out]; exact Own.nil _ _ _ _, hB3⟩
    | true =>
      have hR := Lib.hid (show outR xs next ts hn ls g n = if n < 0 ∨ sumC (fun x => x.b == g) ls < n then ([], 3) else (outGo g ls n, 0) by rw [hR.out]; rfl)
      generalize hq1 : sumC (fun x => x.b == g) ls = sc at *
      generalize hq2 : sumD (fun x => x.b == g) ls = sd at *
      clear hq1 hq2
      go_wp2_with fail
      refine (HCh.out W2 hD3).mono ?_
      rintro e0 W3 ⟨rfl, hb⟩
      have hD4 := hD3.below hb (Nat.le_refl _)
      have hB4 := hB3.trans (hb.mono hB3.size)
      clear hb hD3 hB3 HCh
      by_cases g2 : n < 0
      · have HR := Lib.hid (show outR xs next ts hn ls g n = ([], 3) by rw [hR.out, if_pos (.inl g2)])
        clear hR hnil
        go_wp2
        go_ret2
        exact ⟨.slice none 0 0, by rw [HR.out]; rfl, by rw [HR.out]; exact Own.nil _ _ _ _, hB4⟩
      · by_cases g3 : sc < n
        · have HR := Lib.hid (show outR xs next ts hn ls g n = ([], 3) by rw [hR.out, if_pos (.inr g3)])
          clear hR hnil
          go_wp2
          go_ret2
          exact ⟨.slice none 0 0, by rw [HR.out]; rfl, by rw [HR.out]; exact Own.nil _ _ _ _, hB4⟩
        · have HR := Lib.hid (show outR xs next ts hn ls g n = (outGo g ls n, 0) by rw [hR.out, if_neg (by omega)])
          clear hR hnil
          go_wp2_with fail
          refine (HCl.out W3 hD4).mono ?_
          rintro e0 W4 ⟨v4, rfl, hown4, hb4⟩
          clear HCl
          obtain ⟨A4, c4, hv4, hn4, -, -, hob4, -⟩ := hown4.rd
          rw [List.length_map] at hn4 hv4
          subst hv4
          have z4 := hb4.size
          have z5 := hB4.size
          have HO := Lib.hid hown4
          clear hown4
          go_wp2
          go_loopw [3, 42] (fun u i wr => ∃ k : Nat, k ≤ ls.length ∧ i = .int .i64 k ∧ u = .int .i64 (outN g (ls.take k) n) ∧ 0 ≤ outN g (ls.take k) n ∧ outN g (ls.take k) n ≤ n ∧ Aside (Own wr W3.heap.size 89 4 (.slice A4 ls.length c4) ((outGo g (ls.take k) n ++ ls.drop k).map Q4.cells)) ∧ Below W3.heap.size W3 wr)
            (fun _ i _ => ls.length - (intOf i).toNat)
          case atStart => exact ⟨0, Nat.zero_le _, rfl, rfl, (show 0 ≤ n by omega), Int.le_refl _, (show Own _ _ _ _ _ _ by simpa [outGo] using HO.out), hb4⟩
          case round =>
            obtain ⟨k, hk, rfl, rfl, m0, m1, hown, hB⟩ := hrel
            have zr := hB.size
            by_cases hlt : k < ls.length
            · have hki : (k : Int) < (ls.length : Int) := by omega
              have hol : (outGo g (ls.take k) n).length = k := by rw [outGo_len, List.length_take_of_le hk]
              have hm := HS.out.2 _ (List.getElem_mem hlt)
              have hm0 := HNN.out _ (List.getElem_mem hlt)
              have hlen : (List.map Q4.cells (outGo g (ls.take k) n ++ ls.drop k)).length = ls.length := by simp [hol]; omega
              have hat : (List.map Q4.cells (outGo g (ls.take k) n ++ ls.drop k))[k]? = some ls[k].cells := by
                rw [List.getElem?_map, List.getElem?_append_right (by omega), hol, Nat.sub_self, List.getElem?_drop]
                simp [hlt]
              obtain ⟨b, c5, hv5, hn5, -, hBb, hbs, hf, hrd⟩ := hown.out.open' (by omega)
              rw [hlen] at hv5 hn5
              obtain ⟨b', o', e0, _, hc⟩ := hrd.row (i := k) hat
              simp only [Option.some.injEq, Addr.mk.injEq, and_true] at e0
              obtain ⟨rfl, rfl⟩ := e0
              simp only [Value.slice.injEq, true_and] at hv5
              obtain ⟨rfl, rfl⟩ := hv5
              have hnew : ∀ x', outGo g (ls.take (k + 1)) n = outGo g (ls.take k) n ++ [x'] → (outGo g (ls.take (k + 1)) n ++ ls.drop (k + 1)).map Q4.cells = ((outGo g (ls.take k) n ++ ls.drop k).map Q4.cells).set k x'.cells := by
                intro x' hx'
                rw [hx', ← List.map_set, List.set_append_right _ _ (by omega), hol, Nat.sub_self, List.drop_eq_getElem_cons hlt, List.set_cons_zero]
                simp
              have hO1 : outGo g (ls.take (k + 1)) n = outGo g (ls.take k) n ++ outGo g [ls[k]] (outN g (ls.take k) n) := by rw [take_snoc _ _ hlt, outGo_append]
              have hN1 : outN g (ls.take (k + 1)) n = outN g [ls[k]] (outN g (ls.take k) n) := by rw [take_snoc _ _ hlt, outN_append]
              generalize hM : outN g (ls.take k) n = m at *
              have HM := Lib.hid hM
              have HO1 := Lib.hid hO1
              have HN1 := Lib.hid hN1
              have HAT := Lib.hid hat
              have HNEW := Lib.hid hnew
              have HHOL := Lib.hid hol
              have HLEN := Lib.hid hlen
              clear hM hO1 hN1 hat hnew hol hlen
              generalize ls[k] = x at *
              obtain ⟨xa, xb, xc, xd⟩ := x
              simp only [Q4.cells, CellsFrom, Nat.add_zero, Nat.zero_add, Nat.reduceAdd] at hc hm hm0
              obtain ⟨c0, c1, c2, c3, -⟩ := hc
              cases hp : (xb == g) with
              | true =>
                have hbg : xb = g := by simpa using hp
                have HBG := Lib.hid hbg
                have hn5 : n ≤ 2305843009213693952 := by omega
                clear hbg hob4 HO hsc hR hrd
                by_cases hq : m ≤ xc
                · have s1 : -9223372036854775808 ≤ xc - m ∧ xc - m ≤ 9223372036854775807 := by omega
                  have s2 : -9223372036854775808 ≤ xd + m ∧ xd + m ≤ 9223372036854775807 := by omega
                  have s3 : -9223372036854775808 ≤ m - m ∧ m - m ≤ 9223372036854775807 := by omega
                  have hmin : min m xc = m := by omega
                  have HMIN := Lib.hid hmin
                  clear hmin
                  go_wp2
                  go_region
                  go_wp2
                  go_roundw
                  case rel =>
                    have e1 : outGo g (ls.take (k + 1)) n = outGo g (ls.take k) n ++ [⟨xa, xb, xc - m, xd + m⟩] := by rw [HO1.out]; simp only [outGo, HBG.out, if_true, HMIN.out]
                    have e2 : outN g (ls.take (k + 1)) n = m - m := by rw [HN1.out]; simp only [outN, HBG.out, if_true, HMIN.out]
                    refine ⟨k + 1, by omega, by go_num, by simp only [e2, Int.sub_self], by omega, by omega, ?_, ((hB.setCell hBb _).setCell hBb _).drew⟩
                    show Own _ _ _ _ _ _
                    rw [HNEW.out _ e1]
                    have hkl : k < (List.map Q4.cells (outGo g (ls.take k) n ++ ls.drop k)).length := by rw [HLEN.out]; exact hlt
                    have h3 := hown.out.set rfl (i := k) (j := 2) hkl (by omega) (.int .i64 (xc - m))
                    have h4 := (h3.set rfl (i := k) (j := 3) (by simpa using hkl) (by omega) (.int .i64 (xd + m))).drew
                    obtain ⟨h1, h2⟩ := List.getElem?_eq_some_iff.1 HAT.out
                    simp only [List.getElem_set_self, List.set_set, h2] at h4
                    first
                      | exact h4
                      | simpa [Q4.cells] using h4
                  case measure => simp [intOf]; omega
                · have hq' : ¬ m ≤ xc := hq
                  have s1 : -9223372036854775808 ≤ xc - xc ∧ xc - xc ≤ 9223372036854775807 := by omega
                  have s2 : -9223372036854775808 ≤ xd + xc ∧ xd + xc ≤ 9223372036854775807 := by omega
                  have s3 : -9223372036854775808 ≤ m - xc ∧ m - xc ≤ 9223372036854775807 := by omega
                  have hmin : min m xc = xc := by omega
                  have HMIN := Lib.hid hmin
                  clear hmin
                  go_wp2
                  go_region
                  go_wp2
                  go_roundw
                  case rel =>
                    have e1 : outGo g (ls.take (k + 1)) n = outGo g (ls.take k) n ++ [⟨xa, xb, xc - xc, xd + xc⟩] := by rw [HO1.out]; simp only [outGo, HBG.out, if_true, HMIN.out]
                    have e2 : outN g (ls.take (k + 1)) n = m - xc := by rw [HN1.out]; simp only [outN, HBG.out, if_true, HMIN.out]
                    refine ⟨k + 1, by omega, by go_num, by simp only [e2, Int.sub_self], by omega, by omega, ?_, ((hB.setCell hBb _).setCell hBb _).drew⟩
                    show Own _ _ _ _ _ _
                    rw [HNEW.out _ e1]
                    have hkl : k < (List.map Q4.cells (outGo g (ls.take k) n ++ ls.drop k)).length := by rw [HLEN.out]; exact hlt
                    have h3 := hown.out.set rfl (i := k) (j := 2) hkl (by omega) (.int .i64 (xc - xc))
                    have h4 := (h3.set rfl (i := k) (j := 3) (by simpa using hkl) (by omega) (.int .i64 (xd + xc))).drew
                    obtain ⟨h1, h2⟩ := List.getElem?_eq_some_iff.1 HAT.out
                    simp only [List.getElem_set_self, List.set_set, h2] at h4
                    first
                      | exact h4
                      | simpa [Q4.cells] using h4
                  case measure => simp [intOf]; omega
              | false =>
                have hbg : ¬ xb = g := by simpa using hp
                have HBG := Lib.hid hbg
                clear hbg
                go_wp2
                go_roundw
                case rel =>
                  have e1 : outGo g (ls.take (k + 1)) n = outGo g (ls.take k) n ++ [⟨xa, xb, xc, xd⟩] := by rw [HO1.out]; simp [outGo, HBG.out]
                  have e2 : outN g (ls.take (k + 1)) n = m := by rw [HN1.out]; simp [outN, HBG.out]
                  refine ⟨k + 1, by omega, by go_num, by rw [e2], by omega, by omega, ?_, hB⟩
                  show Own _ _ _ _ _ _
                  rw [HNEW.out _ e1]
                  rw [show ((outGo g (ls.take k) n ++ ls.drop k).map Q4.cells).set k (Q4.cells ⟨xa, xb, xc, xd⟩) = (outGo g (ls.take k) n ++ ls.drop k).map Q4.cells from by
                    obtain ⟨h1, h2⟩ := List.getElem?_eq_some_iff.1 HAT.out
                    rw [← h2, List.set_getElem_self]]
                  exact hown.out
                case measure => simp [intOf]; omega
            · obtain rfl : k = ls.length := by omega
              have hki : ¬ (ls.length : Int) < (ls.length : Int) := by omega
              have ho := hown.out
              rw [List.take_length, List.drop_length, List.append_nil] at ho
              generalize outN g (ls.take ls.length) n = m at *
              go_wp2
              go_ret2
              exact ⟨_, by rw [HR.out]; rfl, by rw [HR.out]; exact ho.base z5, hB4.trans (hB.mono z5)⟩

end Go.Proofs.Ytdkcdplpefpgjaa
