/-
  private.Free, where no resident is left without pages.
-/
import Derived.Test.YtdkcdplpefpgjaaPrivValid
import Derived.Test.YtdkcdplpefpgjaaClone
import Derived.Test.YtdkcdplpefpgjaaOwnSet
import Derived.Test.YtdkcdplpefpgjaaDeleteNone
import Derived.BigRegion
set_option linter.unusedSimpArgs false
set_option linter.unusedVariables false
namespace Go.Proofs.Ytdkcdplpefpgjaa
open Go.RowKit Gc

theorem siHold : SliceTy Try.prog 93 100 4 32 := SliceTy.mk' Try.underlying93 (z := .agg #[.int .i64 0, .int .i64 0, .int .i64 0, .int .i64 0]) (by kernel_rfl) rfl (by omega)

def frS (x : Q4) (n : Int) : Int := min n x.d
def frK (x : Q4) (n : Int) : Int := min (n - frS x n) x.c
def frHit (p : Int) (x : Q4) (n : Int) : Prop := x.a = p ∧ ¬ n = 0
instance (p : Int) (x : Q4) (n : Int) : Decidable (frHit p x n) := inferInstanceAs (Decidable (_ ∧ _))

/-- the loop of private.Free: what is left, what is taken, what is still to be taken -/
def frOut (p : Int) : List Q4 → Int → List Q4
  | [], _ => []
  | x :: xs, n => if frHit p x n then ⟨x.a, x.b, x.c - frK x n, x.d - frS x n⟩ :: frOut p xs (n - frS x n - frK x n) else x :: frOut p xs n
def frTaken (p : Int) : List Q4 → Int → List Q4
  | [], _ => []
  | x :: xs, n => if frHit p x n then ⟨x.b, 0, frK x n, frS x n⟩ :: frTaken p xs (n - frS x n - frK x n) else frTaken p xs n
def frN (p : Int) : List Q4 → Int → Int
  | [], n => n
  | x :: xs, n => if frHit p x n then frN p xs (n - frS x n - frK x n) else frN p xs n

theorem frOut_len (p : Int) : ∀ (xs : List Q4) (n : Int), (frOut p xs n).length = xs.length
  | [], _ => rfl
  | x :: xs, n => by
    unfold frOut
    split <;> simp [frOut_len p xs]
theorem frTaken_len (p : Int) : ∀ (xs : List Q4) (n : Int), (frTaken p xs n).length ≤ xs.length
  | [], _ => Nat.le_refl _
  | x :: xs, n => by
    unfold frTaken
    split
    · have := frTaken_len p xs (n - frS x n - frK x n)
      simp; omega
    · have := frTaken_len p xs n
      simp; omega
theorem frOut_append (p : Int) : ∀ (xs ys : List Q4) (n : Int), frOut p (xs ++ ys) n = frOut p xs n ++ frOut p ys (frN p xs n)
  | [], ys, n => rfl
  | x :: xs, ys, n => by
    simp only [List.cons_append, frOut, frN]
    split <;> simp [frOut_append p xs ys]
theorem frTaken_append (p : Int) : ∀ (xs ys : List Q4) (n : Int), frTaken p (xs ++ ys) n = frTaken p xs n ++ frTaken p ys (frN p xs n)
  | [], ys, n => rfl
  | x :: xs, ys, n => by
    simp only [List.cons_append, frTaken, frN]
    split <;> simp [frTaken_append p xs ys]
theorem frN_append (p : Int) : ∀ (xs ys : List Q4) (n : Int), frN p (xs ++ ys) n = frN p ys (frN p xs n)
  | [], ys, n => rfl
  | x :: xs, ys, n => by
    simp only [List.cons_append, frN]
    split <;> simp [frN_append p xs ys]

/-- private.Free: residents, what is taken, and an error -/
def freeR (xs : List Grp) (next : Int) (ts : List Q4) (hn : Int) (ls : List Q4) (p n : Int) : List Q4 × List Q4 × Int :=
  if resB xs next ts hn ls = false then ([], [], 1) else if leaderB ts p = false then ([], [], 4) else if n < 0 ∨ sumC (fun x => x.a == p) ls + sumD (fun x => x.a == p) ls < n then ([], [], 3)
  else (frOut p ls n, frTaken p ls n, 0)

set_option maxRecDepth 100000 in
set_option maxHeartbeats 4000000 in
theorem free_c (A : Option Addr) (c : Nat) (xs : List Grp) (next : Int) (B : Option Addr) (d : Nat) (ts : List Q4) (hn : Int) (D : Option Addr) (e : Nat) (ls : List Q4) (p n : Int) (w : World) (hA : Rd w 6 A (xs.map Grp.cells)) (hok : ∀ x ∈ xs, x.ok) (hlA : xs.length ≤ 140737488351232) (hcap : xs.length ≤ c) (h : Rd w 4 B (ts.map Q4.cells)) (hl : ts.length ≤ 140737488351232)
    (hD : Rd w 4 D (ls.map Q4.cells)) (hnil : D = none → e = 0) (hs : Small ls) (hnn : resB xs next ts hn ls = true → ∀ x ∈ ls, 0 ≤ x.c ∧ 0 ≤ x.d) (hne : (frOut p ls n).all (fun x => !emptyQ x) = true) :
    Calls Try.prog 53 #[.agg #[.slice A xs.length c, .int .i64 next, .slice B ts.length d, .int .i64 hn], .slice D ls.length e, .int .i64 p, .int .i64 n] w fun e w' => ∃ v u, e = .returned (.tuple #[v, u, .int .i64 (freeR xs next ts hn ls p n).2.2]) ∧
       Own w' w.heap.size 89 4 v ((freeR xs next ts hn ls p n).1.map Q4.cells) ∧ Own w' w.heap.size 100 4 u ((freeR xs next ts hn ls p n).2.1.map Q4.cells) ∧ Below w.heap.size w w' := by
  have hlD := hs.1
  have hB1 : Below w.heap.size w (w.alloc (.cells #[.slice A xs.length c, .int .i64 next, .slice B ts.length d, .int .i64 hn] 47)) := (Below.refl _ _).alloc (Nat.le_refl _) _
  have b1 := Box.mk w [.slice A xs.length c, .int .i64 next, .slice B ts.length d, .int .i64 hn] 47
  have hA1 := hA.below hB1 (Nat.le_refl _)
  have h1 := h.below hB1 (Nat.le_refl _)
  have hD1 := hD.below hB1 (Nat.le_refl _)
  have z1 := b1.lt
  have HKn := Lib.hid (fun W h => leader_c A c xs next B d ts hn p W h hl)
  have HV := Lib.hid (fun W hA h hD => privValid_c A c xs next B d ts hn D e ls W hA hok hlA hcap h hl hD (by omega))
  have HCl := Lib.hid (fun W hD => cloneRes_c D e ls W hD hnil (by omega))
  have HCh := Lib.hid (fun W hD => pages_c D e ls p W hD hs)
  have hR := Lib.hid (show freeR xs next ts hn ls p n = if resB xs next ts hn ls = false then ([], [], 1) else if leaderB ts p = false then ([], [], 4) else if n < 0 ∨ sumC (fun x => x.a == p) ls + sumD (fun x => x.a == p) ls < n then ([], [], 3) else (frOut p ls n, frTaken p ls n, 0) from rfl)
  have hsc := (sum_le (fun x => x.a == p) ls hs.2)
  have HS := Lib.hid hs
  clear hs
  go_enter Try.func53, Try.ntmps53
  go_wp2_with fail
  generalize hWx : w.alloc _ = W1 at *
  clear hWx hA h hD
  refine (HV.out W1 hA1 h1 hD1).mono ?_
  rintro e0 W ⟨rfl, hb⟩
  have b2 := b1.below hb (Nat.le_refl _)
  have hA2 := hA1.below hb (Nat.le_refl _)
  have h2 := h1.below hb (Nat.le_refl _)
  have hD2 := hD1.below hb (Nat.le_refl _)
  have hB2 := hB1.trans (hb.mono hB1.size)
  have z2 := b2.lt
  obtain ⟨t0, t1, t2, t3, -⟩ := b2.cells
  simp only [Nat.zero_add, Nat.add_zero, Nat.reduceAdd] at t0 t1 t2 t3
  clear hB1 b1 hA1 h1 hD1 z1 hb HV b2
  cases g1 : resB xs next ts hn ls with
  | false =>
    have HR := Lib.hid (show freeR xs next ts hn ls p n = ([], [], 1) by rw [hR.out, if_pos g1])
    clear hR g1 hnil hsc hnn
    go_wp2
    go_ret3
    exact ⟨.slice none 0 0, .slice none 0 0, by rw [HR.out]; rfl, by rw [HR.out]; exact Own.nil _ _ _ _, by rw [HR.out]; exact Own.nil _ _ _ _, hB2⟩
  | true =>
    have hR := Lib.hid (show freeR xs next ts hn ls p n = if leaderB ts p = false then ([], [], 4) else if n < 0 ∨ sumC (fun x => x.a == p) ls + sumD (fun x => x.a == p) ls < n then ([], [], 3) else (frOut p ls n, frTaken p ls n, 0) by rw [hR.out, if_neg (by rw [g1]; simp)])
    have HNN := Lib.hid (hnn g1)
    clear g1 hnn
    generalize hhas : leaderB ts p = has at *
    clear hhas
    go_wp2_with fail
    refine (HKn.out W h2).mono ?_
    rintro e0 W2 ⟨rfl, hb⟩
    have hD3 := hD2.below hb (Nat.le_refl _)
    have hB3 := hB2.trans (hb.mono hB2.size)
    clear hb hA2 hD2 hB2 z2 HKn t0 t1 t2 t3 h2
    cases has with
    | false =>
      have HR := Lib.hid (show freeR xs next ts hn ls p n = ([], [], 4) by rw [hR.out]; rfl)
      clear hR hnil hsc
      go_wp2
      go_ret3
      exact ⟨.slice none 0 0, .slice none 0 0, by rw [HR.out]; rfl, by rw [HR.out]; exact Own.nil _ _ _ _, by rw [HR.out]; exact Own.nil _ _ _ _, hB3⟩
    | true =>
      have hR := Lib.hid (show freeR xs next ts hn ls p n = if n < 0 ∨ sumC (fun x => x.a == p) ls + sumD (fun x => x.a == p) ls < n then ([], [], 3) else (frOut p ls n, frTaken p ls n, 0) by rw [hR.out]; rfl)
      generalize hq1 : sumC (fun x => x.a == p) ls = sc at *
      generalize hq2 : sumD (fun x => x.a == p) ls = sd at *
      clear hq1 hq2
      go_wp2_with fail
      refine (HCh.out W2 hD3).mono ?_
      rintro e0 W3 ⟨rfl, hb⟩
      have hD4 := hD3.below hb (Nat.le_refl _)
      have hB4 := hB3.trans (hb.mono hB3.size)
      clear hb hD3 hB3 HCh
      have wsum : -9223372036854775808 ≤ sc + sd ∧ sc + sd ≤ 9223372036854775807 := by omega
      by_cases g2 : n < 0
      · have HR := Lib.hid (show freeR xs next ts hn ls p n = ([], [], 3) by rw [hR.out, if_pos (.inl g2)])
        clear hR hnil
        go_wp2
        go_ret3
        exact ⟨.slice none 0 0, .slice none 0 0, by rw [HR.out]; rfl, by rw [HR.out]; exact Own.nil _ _ _ _, by rw [HR.out]; exact Own.nil _ _ _ _, hB4⟩
      · by_cases g3 : sc + sd < n
        · have HR := Lib.hid (show freeR xs next ts hn ls p n = ([], [], 3) by rw [hR.out, if_pos (.inr g3)])
          clear hR hnil
          go_wp2
          go_ret3
          exact ⟨.slice none 0 0, .slice none 0 0, by rw [HR.out]; rfl, by rw [HR.out]; exact Own.nil _ _ _ _, by rw [HR.out]; exact Own.nil _ _ _ _, hB4⟩
        · have HR := Lib.hid (show freeR xs next ts hn ls p n = (frOut p ls n, frTaken p ls n, 0) by rw [hR.out, if_neg (by omega)])
          clear hR hnil
          go_wp2_with fail
          refine (HCl.out W3 hD4).mono ?_
          rintro e0 W4 ⟨v4, rfl, hown4, hb4⟩
          clear HCl
          obtain ⟨A4, c4, hv4, hn4, -, -, hob4, -⟩ := hown4.rd
          rw [List.length_map] at hn4 hv4
          subst hv4
          have z4 := hb4.size
          have z5 := hB4.size
          have HO := Lib.hid hown4
          clear hown4
          go_wp2
          go_loopw [3, 14, 46] (fun u tk i wr => ∃ k : Nat, k ≤ ls.length ∧ i = .int .i64 k ∧ u = .int .i64 (frN p (ls.take k) n) ∧ 0 ≤ frN p (ls.take k) n ∧ frN p (ls.take k) n ≤ n ∧ Aside (Own wr W3.heap.size 89 4 (.slice A4 ls.length c4) ((frOut p (ls.take k) n ++ ls.drop k).map Q4.cells)) ∧
              Aside (Own wr W3.heap.size 100 4 tk ((frTaken p (ls.take k) n).map Q4.cells)) ∧ Hid (∀ b, blk A4 = some b → tk.ownBlock ≠ some b) ∧ Below W3.heap.size W3 wr)
            (fun _ _ i _ => ls.length - (intOf i).toNat)
          case atStart => exact ⟨0, Nat.zero_le _, rfl, rfl, (show 0 ≤ n by omega), Int.le_refl _, (show Own _ _ _ _ _ _ by simpa [frOut] using HO.out), (show Own _ _ _ _ _ _ from Own.nil _ _ _ _), (show ∀ b, _ → _ by simp [Value.ownBlock]), hb4⟩
          case round =>
            obtain ⟨k, hk, rfl, rfl, m0, m1, hown, hownT, hdis, hB⟩ := hrel
            have zr := hB.size
            by_cases hlt : k < ls.length
            · have hki : (k : Int) < (ls.length : Int) := by omega
              have hol : (frOut p (ls.take k) n).length = k := by rw [frOut_len, List.length_take_of_le hk]
              have htl : (frTaken p (ls.take k) n).length ≤ 65536 := by
                have := frTaken_len p (ls.take k) n
                rw [List.length_take_of_le hk] at this
                omega
              have hm := HS.out.2 _ (List.getElem_mem hlt)
              have hm0 := HNN.out _ (List.getElem_mem hlt)
              have hlen : (List.map Q4.cells (frOut p (ls.take k) n ++ ls.drop k)).length = ls.length := by simp [hol]; omega
              have hat : (List.map Q4.cells (frOut p (ls.take k) n ++ ls.drop k))[k]? = some ls[k].cells := by
                rw [List.getElem?_map, List.getElem?_append_right (by omega), hol, Nat.sub_self, List.getElem?_drop]
                simp [hlt]
              obtain ⟨b, c5, hv5, hn5, -, hBb, hbs, hf, hrd⟩ := hown.out.open' (by omega)
              rw [hlen] at hv5 hn5
              obtain ⟨b', o', e0, _, hc⟩ := hrd.row (i := k) hat
              simp only [Option.some.injEq, Addr.mk.injEq, and_true] at e0
              obtain ⟨rfl, rfl⟩ := e0
              simp only [Value.slice.injEq, true_and] at hv5
              obtain ⟨rfl, rfl⟩ := hv5
              have hdb := Lib.hid (hdis.out b rfl)
              have hnew : ∀ x', frOut p (ls.take (k + 1)) n = frOut p (ls.take k) n ++ [x'] → (frOut p (ls.take (k + 1)) n ++ ls.drop (k + 1)).map Q4.cells = ((frOut p (ls.take k) n ++ ls.drop k).map Q4.cells).set k x'.cells := by
                intro x' hx'
                rw [hx', ← List.map_set, List.set_append_right _ _ (by omega), hol, Nat.sub_self, List.drop_eq_getElem_cons hlt, List.set_cons_zero]
                simp
              have hO1 : frOut p (ls.take (k + 1)) n = frOut p (ls.take k) n ++ frOut p [ls[k]] (frN p (ls.take k) n) := by rw [take_snoc _ _ hlt, frOut_append]
              have hT1 : frTaken p (ls.take (k + 1)) n = frTaken p (ls.take k) n ++ frTaken p [ls[k]] (frN p (ls.take k) n) := by rw [take_snoc _ _ hlt, frTaken_append]
              have hN1 : frN p (ls.take (k + 1)) n = frN p [ls[k]] (frN p (ls.take k) n) := by rw [take_snoc _ _ hlt, frN_append]
              generalize hM : frN p (ls.take k) n = m at *
              generalize hTT : frTaken p (ls.take k) n = tt at *
              have HM := Lib.hid hM
              have HTT := Lib.hid hTT
              have HO1 := Lib.hid hO1
              have HT1 := Lib.hid hT1
              have HN1 := Lib.hid hN1
              have HAT := Lib.hid hat
              have HNEW := Lib.hid hnew
              have HLEN := Lib.hid hlen
              clear hM hTT hO1 hT1 hN1 hat hnew hol hlen hdis
              generalize ls[k] = x at *
              obtain ⟨xa, xb, xc, xd⟩ := x
              simp only [Q4.cells, CellsFrom, Nat.add_zero, Nat.zero_add, Nat.reduceAdd] at hc hm hm0
              obtain ⟨c0, c1, c2, c3, -⟩ := hc
              have hn5 : n ≤ 4611686018427387904 := by omega
              clear hob4 HO hsc hR hrd
              have hmiss : ¬ frHit p ⟨xa, xb, xc, xd⟩ m → Own wr W3.heap.size 89 4 (.slice (some ⟨b, 0, none⟩) ls.length c4) ((frOut p (ls.take (k + 1)) n ++ ls.drop (k + 1)).map Q4.cells) ∧ frN p (ls.take (k + 1)) n = m ∧ frTaken p (ls.take (k + 1)) n = tt := by
                intro hno
                have e1 : frOut p (ls.take (k + 1)) n = frOut p (ls.take k) n ++ [⟨xa, xb, xc, xd⟩] := by rw [HO1.out]; simp [frOut, hno]
                refine ⟨?_, by rw [HN1.out]; simp [frN, hno], by rw [HT1.out]; simp [frTaken, hno]⟩
                rw [HNEW.out _ e1]
                rw [show ((frOut p (ls.take k) n ++ ls.drop k).map Q4.cells).set k (Q4.cells ⟨xa, xb, xc, xd⟩) = (frOut p (ls.take k) n ++ ls.drop k).map Q4.cells from by
                  obtain ⟨h1, h2⟩ := List.getElem?_eq_some_iff.1 HAT.out
                  rw [← h2, List.set_getElem_self]]
                exact hown.out
              have HMISS := Lib.hid hmiss
              clear hmiss
              cases hp : (xa != p) with
              | true =>
                obtain ⟨h1, h2, h3⟩ := HMISS.out (fun h => by have := h.1; simp at this hp; exact hp this)
                have H1 := Lib.hid h1
                have H2 := Lib.hid h2
                have H3 := Lib.hid h3
                clear h1 h2 h3
                go_wp2
                go_roundw
                case rel => exact ⟨k + 1, by omega, by go_num, by rw [H2.out], by rw [H2.out]; exact m0, by rw [H2.out]; exact m1, H1.out, (show Own _ _ _ _ _ _ by rw [H3.out]; exact hownT.out), (show ∀ b', _ → _ from fun b' e => by cases e; exact hdb.out), hB⟩
                case measure => simp [intOf]; omega
              | false =>
                cases hm2 : (m == 0) with
                | true =>
                  obtain ⟨h1, h2, h3⟩ := HMISS.out (fun h => h.2 (by simpa using hm2))
                  have H1 := Lib.hid h1
                  have H2 := Lib.hid h2
                  have H3 := Lib.hid h3
                  clear h1 h2 h3
                  go_wp2
                  go_roundw
                  case rel => exact ⟨k + 1, by omega, by go_num, by rw [H2.out], by rw [H2.out]; exact m0, by rw [H2.out]; exact m1, H1.out, (show Own _ _ _ _ _ _ by rw [H3.out]; exact hownT.out), (show ∀ b', _ → _ from fun b' e => by cases e; exact hdb.out), hB⟩
                  case measure => simp [intOf]; omega
                | false =>
                  have hh : frHit p ⟨xa, xb, xc, xd⟩ m := ⟨by simpa using hp, by simpa using hm2⟩
                  have HH := Lib.hid hh
                  clear hh HMISS
                  by_cases q1 : m ≤ xd
                  · have q2 : m - m ≤ xc := by omega
                    have s0 : -9223372036854775808 ≤ m - m ∧ m - m ≤ 9223372036854775807 := by omega
                    have s1 : -9223372036854775808 ≤ xd - m ∧ xd - m ≤ 9223372036854775807 := by omega
                    have s2 : -9223372036854775808 ≤ xc - 0 ∧ xc - 0 ≤ 9223372036854775807 := by omega
                    have s3 : -9223372036854775808 ≤ m - m - 0 ∧ m - m - 0 ≤ 9223372036854775807 := by omega
                    have hS : frS ⟨xa, xb, xc, xd⟩ m = m := by simp only [frS]; omega
                    have hK : frK ⟨xa, xb, xc, xd⟩ m = 0 := by simp only [frK, hS]; omega
                    have hC1 : xc - 0 = xc := by omega
                    have hD1 : xd - m = xd - m := by omega
                    have hN1 : m - m - 0 = 0 := by omega
                    have e1 := Lib.hid (show frOut p (ls.take (k + 1)) n = frOut p (ls.take k) n ++ [⟨xa, xb, xc, xd - m⟩] by rw [HO1.out]; simp only [frOut, HH.out, if_true, hS, hK, hC1, hD1])
                    have e2 := Lib.hid (show frN p (ls.take (k + 1)) n = 0 by rw [HN1.out]; simp only [frN, HH.out, if_true, hS, hK, hN1])
                    have e3 := Lib.hid (show frTaken p (ls.take (k + 1)) n = tt ++ [⟨xb, 0, 0, m⟩] by rw [HT1.out]; simp only [frTaken, HH.out, if_true, hS, hK])
                    clear hS hK hC1 hD1 hN1
                    have hkl : k < (List.map Q4.cells (frOut p (ls.take k) n ++ ls.drop k)).length := by rw [HLEN.out]; exact hlt
                    have hx3 := hown.out.set rfl (i := k) (j := 3) hkl (by omega) (.int .i64 (xd - m))
                    have hx4 := (hx3.set rfl (i := k) (j := 2) (by simpa using hkl) (by omega) (.int .i64 (xc))).drew
                    obtain ⟨hh1, hh2⟩ := List.getElem?_eq_some_iff.1 HAT.out
                    simp only [List.getElem_set_self, List.set_set, hh2, Q4.cells, List.set_cons_succ, List.set_cons_zero] at hx4
                    have hx5 := ((hownT.out.setCell_other (a := ⟨b, k * 4 + 3, none⟩) hdb.out (.int .i64 (xd - m))).setCell_other (a := ⟨b, k * 4 + 2, none⟩) hdb.out (.int .i64 (xc))).drew
                    have hx6 : Below W3.heap.size W3 ((wr.setCell ⟨b, k * 4 + 3, none⟩ (.int .i64 (xd - m))).setCell ⟨b, k * 4 + 2, none⟩ (.int .i64 (xc))).drew := ((hB.setCell hBb _).setCell hBb _).drew
                    have hx7 : ((wr.setCell ⟨b, k * 4 + 3, none⟩ (.int .i64 (xd - m))).setCell ⟨b, k * 4 + 2, none⟩ (.int .i64 (xc))).drew.cell? ⟨b, k * 4 + 1, none⟩ = some (.int .i64 xb) := by
                      rw [show ((wr.setCell ⟨b, k * 4 + 3, none⟩ (.int .i64 (xd - m))).setCell ⟨b, k * 4 + 2, none⟩ (.int .i64 (xc))).drew.cell? ⟨b, k * 4 + 1, none⟩ = ((wr.setCell ⟨b, k * 4 + 3, none⟩ (.int .i64 (xd - m))).setCell ⟨b, k * 4 + 2, none⟩ (.int .i64 (xc))).cell? ⟨b, k * 4 + 1, none⟩ from rfl, World.cell?_setCell_other _ _ _ _ (by simp), World.cell?_setCell_other _ _ _ _ (by simp)]
                      exact c1
                    have hx8 : b < ((wr.setCell ⟨b, k * 4 + 3, none⟩ (.int .i64 (xd - m))).setCell ⟨b, k * 4 + 2, none⟩ (.int .i64 (xc))).drew.heap.size := by simpa [World.setCell] using hbs
                    have HX4 := Lib.hid hx4
                    have HX5 := Lib.hid hx5
                    clear hx3 hx4 hx5 hh2
                    go_wp2
                    go_region
                    have hx7' := hx7
                    have hx6' := hx6
                    have hx8' := hx8
                    have HX4' := HX4
                    have HX5' := HX5
                    clear hx6 hx7 hx8 HX4 HX5
                    generalize hWx : World.drew _ = W5 at *
                    clear hWx c0 c1 c2 c3 hf hown hownT
                    have hz5 := hx6'.size
                    go_wp2_with (at_builtin; refine app1 siHold [.int .i64 xb, .int .i64 0, .int .i64 (0), .int .i64 (m)] rfl _ _ rfl rfl rfl HX5'.out rfl rfl rfl (by simp; omega) (by omega) hz5 hx6' ?_; intro v9 w9 hown9 hB9 hg9 hat9)
                    go_roundw
                    case rel =>
                      have hat3 : v9.ownBlock = u14.ownBlock ∨ _ := hat9
                      refine ⟨k + 1, by omega, by go_num, by simp only [e2.out], by rw [e2.out]; omega, by rw [e2.out]; omega, ?_, ?_, ?_, hB9⟩
                      · show Own _ _ _ _ _ _
                        rw [HNEW.out _ e1.out]
                        exact (HX4'.out.alloc _).kept hg9 (.inr (fun e => hdb.out e.symm))
                      · show Own _ _ _ _ _ _
                        rw [e3.out, List.map_append]
                        exact hown9
                      · show ∀ b', _ → _
                        intro b' e
                        cases e
                        rcases hat3 with h | ⟨_, h⟩
                        · rw [h]; exact hdb.out
                        · rw [h]; simp; omega
                    case measure => simp [intOf]; omega
                  · by_cases q2 : m - xd ≤ xc
                    · skip
                      have s0 : -9223372036854775808 ≤ m - xd ∧ m - xd ≤ 9223372036854775807 := by omega
                      have s1 : -9223372036854775808 ≤ xd - xd ∧ xd - xd ≤ 9223372036854775807 := by omega
                      have s2 : -9223372036854775808 ≤ xc - (m - xd) ∧ xc - (m - xd) ≤ 9223372036854775807 := by omega
                      have s3 : -9223372036854775808 ≤ m - xd - (m - xd) ∧ m - xd - (m - xd) ≤ 9223372036854775807 := by omega
                      have hS : frS ⟨xa, xb, xc, xd⟩ m = xd := by simp only [frS]; omega
                      have hK : frK ⟨xa, xb, xc, xd⟩ m = (m - xd) := by simp only [frK, hS]; omega
                      have hC1 : xc - (m - xd) = xc - (m - xd) := by omega
                      have hD1 : xd - xd = 0 := by omega
                      have hN1 : m - xd - (m - xd) = 0 := by omega
                      have e1 := Lib.hid (show frOut p (ls.take (k + 1)) n = frOut p (ls.take k) n ++ [⟨xa, xb, xc - (m - xd), 0⟩] by rw [HO1.out]; simp only [frOut, HH.out, if_true, hS, hK, hC1, hD1])
                      have e2 := Lib.hid (show frN p (ls.take (k + 1)) n = 0 by rw [HN1.out]; simp only [frN, HH.out, if_true, hS, hK, hN1])
                      have e3 := Lib.hid (show frTaken p (ls.take (k + 1)) n = tt ++ [⟨xb, 0, (m - xd), xd⟩] by rw [HT1.out]; simp only [frTaken, HH.out, if_true, hS, hK])
                      clear hS hK hC1 hD1 hN1
                      have hkl : k < (List.map Q4.cells (frOut p (ls.take k) n ++ ls.drop k)).length := by rw [HLEN.out]; exact hlt
                      have hx3 := hown.out.set rfl (i := k) (j := 3) hkl (by omega) (.int .i64 (0))
                      have hx4 := (hx3.set rfl (i := k) (j := 2) (by simpa using hkl) (by omega) (.int .i64 (xc - (m - xd)))).drew
                      obtain ⟨hh1, hh2⟩ := List.getElem?_eq_some_iff.1 HAT.out
                      simp only [List.getElem_set_self, List.set_set, hh2, Q4.cells, List.set_cons_succ, List.set_cons_zero] at hx4
                      have hx5 := ((hownT.out.setCell_other (a := ⟨b, k * 4 + 3, none⟩) hdb.out (.int .i64 (0))).setCell_other (a := ⟨b, k * 4 + 2, none⟩) hdb.out (.int .i64 (xc - (m - xd)))).drew
                      have hx6 : Below W3.heap.size W3 ((wr.setCell ⟨b, k * 4 + 3, none⟩ (.int .i64 (0))).setCell ⟨b, k * 4 + 2, none⟩ (.int .i64 (xc - (m - xd)))).drew := ((hB.setCell hBb _).setCell hBb _).drew
                      have hx7 : ((wr.setCell ⟨b, k * 4 + 3, none⟩ (.int .i64 (0))).setCell ⟨b, k * 4 + 2, none⟩ (.int .i64 (xc - (m - xd)))).drew.cell? ⟨b, k * 4 + 1, none⟩ = some (.int .i64 xb) := by
                        rw [show ((wr.setCell ⟨b, k * 4 + 3, none⟩ (.int .i64 (0))).setCell ⟨b, k * 4 + 2, none⟩ (.int .i64 (xc - (m - xd)))).drew.cell? ⟨b, k * 4 + 1, none⟩ = ((wr.setCell ⟨b, k * 4 + 3, none⟩ (.int .i64 (0))).setCell ⟨b, k * 4 + 2, none⟩ (.int .i64 (xc - (m - xd)))).cell? ⟨b, k * 4 + 1, none⟩ from rfl, World.cell?_setCell_other _ _ _ _ (by simp), World.cell?_setCell_other _ _ _ _ (by simp)]
                        exact c1
                      have hx8 : b < ((wr.setCell ⟨b, k * 4 + 3, none⟩ (.int .i64 (0))).setCell ⟨b, k * 4 + 2, none⟩ (.int .i64 (xc - (m - xd)))).drew.heap.size := by simpa [World.setCell] using hbs
                      have HX4 := Lib.hid hx4
                      have HX5 := Lib.hid hx5
                      clear hx3 hx4 hx5 hh2
                      go_wp2
                      go_region
                      have hx7' := hx7
                      have hx6' := hx6
                      have hx8' := hx8
                      have HX4' := HX4
                      have HX5' := HX5
                      clear hx6 hx7 hx8 HX4 HX5
                      generalize hWx : World.drew _ = W5 at *
                      clear hWx c0 c1 c2 c3 hf hown hownT
                      have hz5 := hx6'.size
                      go_wp2_with (at_builtin; refine app1 siHold [.int .i64 xb, .int .i64 0, .int .i64 ((m - xd)), .int .i64 (xd)] rfl _ _ rfl rfl rfl HX5'.out rfl rfl rfl (by simp; omega) (by omega) hz5 hx6' ?_; intro v9 w9 hown9 hB9 hg9 hat9)
                      go_roundw
                      case rel =>
                        have hat3 : v9.ownBlock = u14.ownBlock ∨ _ := hat9
                        refine ⟨k + 1, by omega, by go_num, by simp only [e2.out], by rw [e2.out]; omega, by rw [e2.out]; omega, ?_, ?_, ?_, hB9⟩
                        · show Own _ _ _ _ _ _
                          rw [HNEW.out _ e1.out]
                          exact (HX4'.out.alloc _).kept hg9 (.inr (fun e => hdb.out e.symm))
                        · show Own _ _ _ _ _ _
                          rw [e3.out, List.map_append]
                          exact hown9
                        · show ∀ b', _ → _
                          intro b' e
                          cases e
                          rcases hat3 with h | ⟨_, h⟩
                          · rw [h]; exact hdb.out
                          · rw [h]; simp; omega
                      case measure => simp [intOf]; omega
                    · skip
                      have s0 : -9223372036854775808 ≤ m - xd ∧ m - xd ≤ 9223372036854775807 := by omega
                      have s1 : -9223372036854775808 ≤ xd - xd ∧ xd - xd ≤ 9223372036854775807 := by omega
                      have s2 : -9223372036854775808 ≤ xc - xc ∧ xc - xc ≤ 9223372036854775807 := by omega
                      have s3 : -9223372036854775808 ≤ m - xd - xc ∧ m - xd - xc ≤ 9223372036854775807 := by omega
                      have hS : frS ⟨xa, xb, xc, xd⟩ m = xd := by simp only [frS]; omega
                      have hK : frK ⟨xa, xb, xc, xd⟩ m = xc := by simp only [frK, hS]; omega
                      have hC1 : xc - xc = 0 := by omega
                      have hD1 : xd - xd = 0 := by omega
                      have hN1 : m - xd - xc = m - xd - xc := by omega
                      have e1 := Lib.hid (show frOut p (ls.take (k + 1)) n = frOut p (ls.take k) n ++ [⟨xa, xb, 0, 0⟩] by rw [HO1.out]; simp only [frOut, HH.out, if_true, hS, hK, hC1, hD1])
                      have e2 := Lib.hid (show frN p (ls.take (k + 1)) n = m - xd - xc by rw [HN1.out]; simp only [frN, HH.out, if_true, hS, hK, hN1])
                      have e3 := Lib.hid (show frTaken p (ls.take (k + 1)) n = tt ++ [⟨xb, 0, xc, xd⟩] by rw [HT1.out]; simp only [frTaken, HH.out, if_true, hS, hK])
                      clear hS hK hC1 hD1 hN1
                      have hkl : k < (List.map Q4.cells (frOut p (ls.take k) n ++ ls.drop k)).length := by rw [HLEN.out]; exact hlt
                      have hx3 := hown.out.set rfl (i := k) (j := 3) hkl (by omega) (.int .i64 (0))
                      have hx4 := (hx3.set rfl (i := k) (j := 2) (by simpa using hkl) (by omega) (.int .i64 (0))).drew
                      obtain ⟨hh1, hh2⟩ := List.getElem?_eq_some_iff.1 HAT.out
                      simp only [List.getElem_set_self, List.set_set, hh2, Q4.cells, List.set_cons_succ, List.set_cons_zero] at hx4
                      have hx5 := ((hownT.out.setCell_other (a := ⟨b, k * 4 + 3, none⟩) hdb.out (.int .i64 (0))).setCell_other (a := ⟨b, k * 4 + 2, none⟩) hdb.out (.int .i64 (0))).drew
                      have hx6 : Below W3.heap.size W3 ((wr.setCell ⟨b, k * 4 + 3, none⟩ (.int .i64 (0))).setCell ⟨b, k * 4 + 2, none⟩ (.int .i64 (0))).drew := ((hB.setCell hBb _).setCell hBb _).drew
                      have hx7 : ((wr.setCell ⟨b, k * 4 + 3, none⟩ (.int .i64 (0))).setCell ⟨b, k * 4 + 2, none⟩ (.int .i64 (0))).drew.cell? ⟨b, k * 4 + 1, none⟩ = some (.int .i64 xb) := by
                        rw [show ((wr.setCell ⟨b, k * 4 + 3, none⟩ (.int .i64 (0))).setCell ⟨b, k * 4 + 2, none⟩ (.int .i64 (0))).drew.cell? ⟨b, k * 4 + 1, none⟩ = ((wr.setCell ⟨b, k * 4 + 3, none⟩ (.int .i64 (0))).setCell ⟨b, k * 4 + 2, none⟩ (.int .i64 (0))).cell? ⟨b, k * 4 + 1, none⟩ from rfl, World.cell?_setCell_other _ _ _ _ (by simp), World.cell?_setCell_other _ _ _ _ (by simp)]
                        exact c1
                      have hx8 : b < ((wr.setCell ⟨b, k * 4 + 3, none⟩ (.int .i64 (0))).setCell ⟨b, k * 4 + 2, none⟩ (.int .i64 (0))).drew.heap.size := by simpa [World.setCell] using hbs
                      have HX4 := Lib.hid hx4
                      have HX5 := Lib.hid hx5
                      clear hx3 hx4 hx5 hh2
                      go_wp2
                      go_region
                      have hx7' := hx7
                      have hx6' := hx6
                      have hx8' := hx8
                      have HX4' := HX4
                      have HX5' := HX5
                      clear hx6 hx7 hx8 HX4 HX5
                      generalize hWx : World.drew _ = W5 at *
                      clear hWx c0 c1 c2 c3 hf hown hownT
                      have hz5 := hx6'.size
                      go_wp2_with (at_builtin; refine app1 siHold [.int .i64 xb, .int .i64 0, .int .i64 (xc), .int .i64 (xd)] rfl _ _ rfl rfl rfl HX5'.out rfl rfl rfl (by simp; omega) (by omega) hz5 hx6' ?_; intro v9 w9 hown9 hB9 hg9 hat9)
                      go_roundw
                      case rel =>
                        have hat3 : v9.ownBlock = u14.ownBlock ∨ _ := hat9
                        refine ⟨k + 1, by omega, by go_num, by simp only [e2.out], by rw [e2.out]; omega, by rw [e2.out]; omega, ?_, ?_, ?_, hB9⟩
                        · show Own _ _ _ _ _ _
                          rw [HNEW.out _ e1.out]
                          exact (HX4'.out.alloc _).kept hg9 (.inr (fun e => hdb.out e.symm))
                        · show Own _ _ _ _ _ _
                          rw [e3.out, List.map_append]
                          exact hown9
                        · show ∀ b', _ → _
                          intro b' e
                          cases e
                          rcases hat3 with h | ⟨_, h⟩
                          · rw [h]; exact hdb.out
                          · rw [h]; simp; omega
                      case measure => simp [intOf]; omega
            · obtain rfl : k = ls.length := by omega
              have hki : ¬ (ls.length : Int) < (ls.length : Int) := by omega
              have ho := hown.out
              have hoT := hownT.out
              rw [List.take_length, List.drop_length, List.append_nil] at ho
              rw [List.take_length] at hoT
              generalize frN p (ls.take ls.length) n = m at *
              have hrdo : Rd wr 4 A4 ((frOut p ls n).map Q4.cells) := by
                obtain ⟨A9, c9, hv9, _, _, hr9, _⟩ := ho.rd
                simp only [Value.slice.injEq] at hv9
                obtain ⟨rfl, _, _⟩ := hv9
                exact hr9
              have hdel := Lib.hid (deleteNone_c A4 c4 (frOut p ls n) wr hrdo (by rw [frOut_len]; omega) hne)
              rw [frOut_len] at hdel
              have HOO := Lib.hid ho
              have HOT := Lib.hid hoT
              clear ho hoT hne hrdo
              go_wp2_with fail
              refine hdel.out.mono ?_
              rintro e0 W6 ⟨rfl, hb6⟩
              go_wp2
              go_ret3
              exact ⟨_, _, by rw [HR.out]; rfl, by rw [HR.out]; exact (HOO.out.below hb6 (Nat.le_refl _)).base z5, by rw [HR.out]; exact (HOT.out.below hb6 (Nat.le_refl _)).base z5, hB4.trans ((hB.mono z5).trans (hb6.mono (by omega)))⟩

          end Go.Proofs.Ytdkcdplpefpgjaa
