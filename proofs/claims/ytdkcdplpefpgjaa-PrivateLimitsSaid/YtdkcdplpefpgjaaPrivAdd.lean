/-
  private.Add, where pages come at the end or join others.
-/
import Derived.Test.YtdkcdplpefpgjaaPrivValid
import Derived.Test.YtdkcdplpefpgjaaGive
set_option linter.unusedSimpArgs false
set_option linter.unusedVariables false
namespace Go.Proofs.Ytdkcdplpefpgjaa
open Go.RowKit Gc

def sumAll (ls : List Q4) : Int := (ls.map (fun x => x.c + x.d)).sum

theorem sumAll_snoc (ls : List Q4) (k : Nat) (h : k < ls.length) : sumAll (ls.take (k + 1)) = sumAll (ls.take k) + (ls[k].c + ls[k].d) := by
  unfold sumAll
  rw [take_snoc _ _ h, List.map_append, List.sum_append]
  simp

theorem sumAll_le : ∀ (ls : List Q4) (h : ∀ x ∈ ls, -35184372088832 ≤ x.c ∧ x.c ≤ 35184372088832 ∧ -35184372088832 ≤ x.d ∧ x.d ≤ 35184372088832), 
    -(70368744177664 * (ls.length : Int)) ≤ sumAll ls ∧ sumAll ls ≤ 70368744177664 * (ls.length : Int)
  | [], _ => by simp [sumAll]
  | x :: ls, h => by
    have h0 := sumAll_le ls (fun y hy => h y (by simp [hy]))
    have hx := h x (by simp)
    unfold sumAll at *
    simp only [List.map_cons, List.sum_cons, List.length_cons, Int.natCast_add, Int.natCast_one] at *
    omega

/-- private.Add: residents and an error -/
def addR (xs : List Grp) (next : Int) (ts : List Q4) (hn : Int) (ls : List Q4) (p g n : Int) : List Q4 × Int :=
  if resB xs next ts hn ls = false then ([], 1) else if (leaderB ts p && hasB xs g) = false then ([], 4) else if n < 0 ∨ 16777216 < n then ([], 3)
  else if 33554432 < n + sumAll ls then ([], 7) else (giveL ls p g n 0, 0)

set_option maxRecDepth 100000 in
set_option maxHeartbeats 4000000 in
theorem add_c (A : Option Addr) (c : Nat) (xs : List Grp) (next : Int) (B : Option Addr) (d : Nat) (ts : List Q4) (hn : Int) (D : Option Addr) (e : Nat) (ls : List Q4) (p g n : Int) (w : World) (hA : Rd w 6 A (xs.map Grp.cells)) (hok : ∀ x ∈ xs, x.ok) (hlA : xs.length ≤ 140737488351232) (hcap : xs.length ≤ c) (h : Rd w 4 B (ts.map Q4.cells)) (hl : ts.length ≤ 140737488351232)
    (hD : Rd w 4 D (ls.map Q4.cells)) (hnil : D = none → e = 0) (hs : Small ls) (hend : n = 0 ∨ bsHit ls ⟨p, g, 0, 0⟩ = true ∨ bsAt ls ⟨p, g, 0, 0⟩ = ls.length) :
    Calls Try.prog 16 #[.agg #[.slice A xs.length c, .int .i64 next, .slice B ts.length d, .int .i64 hn], .slice D ls.length e, .int .i64 p, .int .i64 g, .int .i64 n] w fun e w' => ∃ v, e = .returned (.tuple #[v, .int .i64 (addR xs next ts hn ls p g n).2]) ∧
       Own w' w.heap.size 89 4 v ((addR xs next ts hn ls p g n).1.map Q4.cells) ∧ Below w.heap.size w w' := by
  have hlD := hs.1
  have hB1 : Below w.heap.size w (w.alloc (.cells #[.slice A xs.length c, .int .i64 next, .slice B ts.length d, .int .i64 hn] 47)) := (Below.refl _ _).alloc (Nat.le_refl _) _
  have b1 := Box.mk w [.slice A xs.length c, .int .i64 next, .slice B ts.length d, .int .i64 hn] 47
  have hA1 := hA.below hB1 (Nat.le_refl _)
  have h1 := h.below hB1 (Nat.le_refl _)
  have hD1 := hD.below hB1 (Nat.le_refl _)
  have z1 := b1.lt
  have HLe := Lib.hid (fun W h => leader_c A c xs next B d ts hn p W h hl)
  have HKn := Lib.hid (fun W h => known_c A c xs next g W h hlA)
  have HV := Lib.hid (fun W hA h hD => privValid_c A c xs next B d ts hn D e ls W hA hok hlA hcap h hl hD (by omega))
  have HCl := Lib.hid (fun W hD => cloneRes_c D e ls W hD hnil (by omega))
  have hR := Lib.hid (show addR xs next ts hn ls p g n = if resB xs next ts hn ls = false then ([], 1) else if (leaderB ts p && hasB xs g) = false then ([], 4) else if n < 0 ∨ 16777216 < n then ([], 3) else if 33554432 < n + sumAll ls then ([], 7) else (giveL ls p g n 0, 0) from rfl)
  go_enter Try.func16, Try.ntmps16
  go_wp2_with fail
  generalize hWx : w.alloc _ = W1 at *
  clear hWx hA h hD
  refine (HV.out W1 hA1 h1 hD1).mono ?_
  rintro e0 W ⟨rfl, hb⟩
  have b2 := b1.below hb (Nat.le_refl _)
  have hA2 := hA1.below hb (Nat.le_refl _)
  have h2 := h1.below hb (Nat.le_refl _)
  have hD2 := hD1.below hb (Nat.le_refl _)
  have hB2 := hB1.trans (hb.mono hB1.size)
  have z2 := b2.lt
  obtain ⟨t0, t1, t2, t3, -⟩ := b2.cells
  simp only [Nat.zero_add, Nat.add_zero, Nat.reduceAdd] at t0 t1 t2 t3
  clear hB1 b1 hA1 h1 hD1 z1 hb HV
  cases g1 : resB xs next ts hn ls with
  | false =>
    have HR := Lib.hid (show addR xs next ts hn ls p g n = ([], 1) by rw [hR.out, if_pos g1])
    clear hR g1 hend hnil
    go_wp2
    go_ret2
    exact ⟨.slice none 0 0, by rw [HR.out]; rfl, by rw [HR.out]; exact Own.nil _ _ _ _, hB2⟩
  | true =>
    have hR := Lib.hid (show addR xs next ts hn ls p g n = if (leaderB ts p && hasB xs g) = false then ([], 4) else if n < 0 ∨ 16777216 < n then ([], 3) else if 33554432 < n + sumAll ls then ([], 7) else (giveL ls p g n 0, 0) by rw [hR.out, if_neg (by rw [g1]; simp)])
    clear g1
    generalize hlead : leaderB ts p = lead at *
    generalize hhas : hasB xs g = has at *
    clear hlead hhas
    go_wp2_with fail
    refine (HLe.out W h2).mono ?_
    rintro e0 W2 ⟨rfl, hb⟩
    have b3 := b2.below hb (Nat.le_refl _)
    have hA3 := hA2.below hb (Nat.le_refl _)
    have hD3 := hD2.below hb (Nat.le_refl _)
    have hB3 := hB2.trans (hb.mono hB2.size)
    have z3 := b3.lt
    obtain ⟨t0, t1, t2, t3, -⟩ := b3.cells
    simp only [Nat.zero_add, Nat.add_zero, Nat.reduceAdd] at t0 t1 t2 t3
    clear hb b2 hA2 h2 hD2 hB2 z2 HLe
    cases lead with
    | false =>
      have HR := Lib.hid (show addR xs next ts hn ls p g n = ([], 4) by rw [hR.out]; rfl)
      clear hR hend hnil
      go_wp2
      go_ret2
      exact ⟨.slice none 0 0, by rw [HR.out]; rfl, by rw [HR.out]; exact Own.nil _ _ _ _, hB3⟩
    | true =>
      go_wp2_with fail
      refine (HKn.out W2 hA3).mono ?_
      rintro e0 W ⟨rfl, hb⟩
      have hD4 := hD3.below hb (Nat.le_refl _)
      have hB4 := hB3.trans (hb.mono hB3.size)
      clear hb b3 hA3 hD3 hB3 z3 HKn
      cases has with
      | false =>
        have HR := Lib.hid (show addR xs next ts hn ls p g n = ([], 4) by rw [hR.out]; rfl)
        clear hR hend hnil
        go_wp2
        go_ret2
        exact ⟨.slice none 0 0, by rw [HR.out]; rfl, by rw [HR.out]; exact Own.nil _ _ _ _, hB4⟩
      | true =>
        have hR := Lib.hid (show addR xs next ts hn ls p g n = if n < 0 ∨ 16777216 < n then ([], 3) else if 33554432 < n + sumAll ls then ([], 7) else (giveL ls p g n 0, 0) by rw [hR.out]; rfl)
        by_cases g2 : n < 0
        · have HR := Lib.hid (show addR xs next ts hn ls p g n = ([], 3) by rw [hR.out, if_pos (.inl g2)])
          clear hR hend hnil
          go_wp2
          go_ret2
          exact ⟨.slice none 0 0, by rw [HR.out]; rfl, by rw [HR.out]; exact Own.nil _ _ _ _, hB4⟩
        · by_cases g3 : 16777216 < n
          · have HR := Lib.hid (show addR xs next ts hn ls p g n = ([], 3) by rw [hR.out, if_pos (.inr g3)])
            clear hR hend hnil
            go_wp2
            go_ret2
            exact ⟨.slice none 0 0, by rw [HR.out]; rfl, by rw [HR.out]; exact Own.nil _ _ _ _, hB4⟩
          · have hR := Lib.hid (show addR xs next ts hn ls p g n = if 33554432 < n + sumAll ls then ([], 7) else (giveL ls p g n 0, 0) by rw [hR.out, if_neg (by omega)])
            have HS := Lib.hid hs
            have HE := Lib.hid hend
            have hsum := Lib.hid (fun k => sumAll_le (ls.take k) (fun x hx => hs.2 x (List.mem_of_mem_take hx)))
            clear hs hend hnil
            go_wp2
            go_loopw [12, 42] (fun u i wr => ∃ k : Nat, k ≤ ls.length ∧ i = .int .i64 k ∧ u = .int .i64 (n + sumAll (ls.take k)) ∧ Below W.heap.size W wr)
              (fun _ i _ => ls.length - (intOf i).toNat)
            case atStart => exact ⟨0, Nat.zero_le _, rfl, by simp [sumAll], Below.refl _ _⟩
            case round =>
              obtain ⟨k, hk, rfl, rfl, hB⟩ := hrel
              have zr := hB.size
              by_cases hlt : k < ls.length
              · obtain ⟨b, o, rfl, hbs, hc⟩ := (hD4.below hB (Nat.le_refl _)).row (i := k) (c := ls[k].cells) (map_at _ hlt)
                have hki : (k : Int) < (ls.length : Int) := by omega
                have hhit := Lib.hid (sumAll_snoc ls k hlt)
                have hm := HS.out.2 _ (List.getElem_mem hlt)
                have s1 := hsum.out k
                rw [List.length_take_of_le hk] at s1
                simp only [Q4.cells, CellsFrom, Nat.add_zero, Nat.zero_add, Nat.reduceAdd] at hc
                obtain ⟨c0, c1, c2, c3, -⟩ := hc
                generalize ls[k] = x at *
                generalize sumAll (ls.take k) = sc at *
                obtain ⟨xa, xb, xc, xd⟩ := x
                simp only at *
                have w1 : -9223372036854775808 ≤ xc + xd ∧ xc + xd ≤ 9223372036854775807 := by omega
                have w2 : -9223372036854775808 ≤ n + sc + (xc + xd) ∧ n + sc + (xc + xd) ≤ 9223372036854775807 := by omega
                clear hsum HS
                go_wp2
                go_roundw
                case rel => exact ⟨k + 1, by omega, by go_num, by rw [hhit.out, Int.add_assoc], hB.alloc (by omega) _⟩
                case measure => simp [intOf]; omega
              · obtain rfl : k = ls.length := by omega
                have hki : ¬ (ls.length : Int) < (ls.length : Int) := by omega
                rw [List.take_length]
                have hBw := hB4.trans (hB.mono hB4.size)
                have hD5 := hD4.below hB (Nat.le_refl _)
                by_cases g4 : 33554432 < n + sumAll ls
                · have HR := Lib.hid (show addR xs next ts hn ls p g n = ([], 7) by rw [hR.out, if_pos g4])
                  clear hR
                  generalize sumAll ls = sc at *
                  go_wp2
                  go_ret2
                  exact ⟨.slice none 0 0, by rw [HR.out]; rfl, by rw [HR.out]; exact Own.nil _ _ _ _, hBw⟩
                · have HR := Lib.hid (show addR xs next ts hn ls p g n = (giveL ls p g n 0, 0) by rw [hR.out, if_neg g4])
                  clear hR hsum
                  generalize sumAll ls = sc at *
                  go_wp2_with fail
                  refine (HCl.out wr hD5).mono ?_
                  rintro e0 W5 ⟨v5, rfl, hown5, hb5⟩
                  go_wp2_with fail
                  refine (give_c wr.heap.size v5 ls p g n 0 W5 hown5 hb5.size HS.out (by omega) (by omega) (by simpa using HE.out)).mono ?_
                  rintro e0 W6 ⟨v6, rfl, hown6, hb6⟩
                  go_wp2
                  go_ret2
                  have zz := hBw.size
                  exact ⟨v6, by rw [HR.out]; rfl, by rw [HR.out]; exact hown6.base zz, hBw.trans ((hb5.mono zz).trans (hb6.mono zz))⟩

end Go.Proofs.Ytdkcdplpefpgjaa
