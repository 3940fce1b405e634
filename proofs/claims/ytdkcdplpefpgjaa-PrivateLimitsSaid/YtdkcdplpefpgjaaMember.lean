/-
  member.fine, member.Check.
-/
import Derived.Test.YtdkcdplpefpgjaaCrew
import Derived.Test.YtdkcdplpefpgjaaForestAt
import Derived.Test.YtdkcdplpefpgjaaCheck
import Derived.Test.YtdkcdplpefpgjaaBox
set_option linter.unusedSimpArgs false
set_option linter.unusedVariables false
namespace Go.Proofs.Ytdkcdplpefpgjaa
open Go.RowKit Gc

set_option maxRecDepth 100000 in
set_option maxHeartbeats 1000000 in
theorem fineT_c (A : Option Addr) (c : Nat) (xs : List Grp) (next : Int) (B : Option Addr) (d : Nat) (ts : List Q4) (hn : Int) (t : Q4) (w : World) (hA : Rd w 6 A (xs.map Grp.cells)) (hlA : xs.length ≤ 140737488351232) (h : Rd w 4 B (ts.map Q4.cells)) (hl : ts.length ≤ 140737488351232) :
    Calls Try.prog 102 #[.agg #[.slice A xs.length c, .int .i64 next, .slice B ts.length d, .int .i64 hn], .agg t.cells.toArray] w fun e w' => e = .returned (.bool (fineT xs ts t)) ∧ Below w.heap.size w w' := by
  have hB1 : Below w.heap.size w ((w.alloc (.cells #[.slice A xs.length c, .int .i64 next, .slice B ts.length d, .int .i64 hn] 47)).alloc (.cells t.cells.toArray 84)) := ((Below.refl _ _).alloc (Nat.le_refl _) _).alloc (by simp) _
  have b1 := (Box.mk w [.slice A xs.length c, .int .i64 next, .slice B ts.length d, .int .i64 hn] 47).alloc (.cells t.cells.toArray 84)
  have b2 := Box.mk (w.alloc (.cells #[.slice A xs.length c, .int .i64 next, .slice B ts.length d, .int .i64 hn] 47)) t.cells 84
  have hA1 := hA.below hB1 (Nat.le_refl _)
  have h1 := h.below hB1 (Nat.le_refl _)
  rw [show (w.alloc (.cells #[.slice A xs.length c, .int .i64 next, .slice B ts.length d, .int .i64 hn] 47)).heap.size = w.heap.size + 1 from by simp] at b2
  have hF := Lib.hid (fun W (h : Rd W 4 B (ts.map Q4.cells)) => crewFind_c A c xs next B d ts hn t.b W h hl)
  have hAt := Lib.hid (fun W (h : Rd W 6 A (xs.map Grp.cells)) => at_c A c xs next t.c W h hlA)
  have hK := Lib.hid (idx_hasB xs t.c)
  obtain ⟨ta, tb, tc, td⟩ := t
  have hR := Lib.hid (show fineT xs ts ⟨ta, tb, tc, td⟩ = (decide (0 ≤ td) && (decide (td ≤ 1048576) && ((taskAt ts tb).2 && ((taskAt ts tb).1.b == (taskAt ts tb).1.a && ((taskAt ts tb).1.d == td && hasB xs tc))))) from rfl)
  generalize taskAt ts tb = L at *
  obtain ⟨⟨la, lb, lc, ld⟩, lok⟩ := L
  simp only [Q4.cells] at *
  have z1 := b1.lt
  have z2 := b2.lt
  go_enter Try.func102, Try.ntmps102
  go_wp2_with fail
  generalize hWx : (w.alloc _).alloc _ = W1 at *
  clear hWx
  refine (hF.out W1 h1).mono ?_
  rintro e W ⟨rfl, hb⟩
  obtain ⟨t0, t1, t2, t3, -⟩ := (b1.below hb (Nat.le_refl _)).cells
  obtain ⟨u0, u1, u2, u3, -⟩ := (b2.below hb (Nat.le_refl _)).cells
  have hA2 := hA1.below hb (Nat.le_refl _)
  have hB2 := hB1.trans (hb.mono hB1.size)
  simp only [Nat.zero_add, Nat.add_zero, Nat.reduceAdd] at t0 t1 t2 t3 u0 u1 u2 u3
  have zz := hb.size
  have z3 : w.heap.size + 1 < W.heap.size := by omega
  have z4 : w.heap.size < W.heap.size := by omega
  clear hF h1 hA1 hA h hB1 b1 b2 hb
  cases e1 : decide (0 ≤ td) with
  | false =>
    have HF := Lib.hid (show fineT xs ts ⟨ta, tb, tc, td⟩ = false by rw [hR.out, e1]; rfl)
    go_wp2
    go_ret
    exact ⟨ret_bool HF.out.symm, hB2.alloc (by omega) _⟩
  | true =>
    cases e2 : decide (td ≤ 1048576) with
    | false =>
      have HF := Lib.hid (show fineT xs ts ⟨ta, tb, tc, td⟩ = false by rw [hR.out, e1, e2]; rfl)
      go_wp2
      go_ret
      exact ⟨ret_bool HF.out.symm, hB2.alloc (by omega) _⟩
    | true =>
      cases lok with
      | false =>
        have HF := Lib.hid (show fineT xs ts ⟨ta, tb, tc, td⟩ = false by rw [hR.out, e1, e2]; rfl)
        go_wp2
        go_ret
        exact ⟨ret_bool HF.out.symm, hB2.alloc (by omega) _⟩
      | true =>
        cases e3 : (lb == la) with
        | false =>
          have HF := Lib.hid (show fineT xs ts ⟨ta, tb, tc, td⟩ = false by rw [hR.out, e1, e2, e3]; rfl)
          go_wp2
          go_ret
          exact ⟨ret_bool HF.out.symm, hB2.alloc (by omega) _⟩
        | true =>
          cases e4 : (ld == td) with
          | false =>
            have HF := Lib.hid (show fineT xs ts ⟨ta, tb, tc, td⟩ = false by rw [hR.out, e1, e2, e3, e4]; rfl)
            go_wp2
            go_ret
            exact ⟨ret_bool HF.out.symm, hB2.alloc (by omega) _⟩
          | true =>
            have HF := Lib.hid (show fineT xs ts ⟨ta, tb, tc, td⟩ = decide (0 ≤ idx (fun x => x.id == tc) xs) by rw [hR.out, e1, e2, e3, e4, hK.out]; rfl)
            have hc := fun W h => hAt.out W h
            generalize idx (fun x : Grp => x.id == tc) xs = v at *
            have HC := Lib.hid hc
            clear hc hAt hK hR
            go_wp2_with (go_at_call 101; refine (HC.out _ (hA2.alloc _)).mono ?_; rintro e W3 ⟨rfl, hb3⟩)
            go_ret
            exact ⟨ret_bool HF.out.symm, (hB2.alloc (by omega) _).trans (hb3.mono (by simp; omega))⟩

end Go.Proofs.Ytdkcdplpefpgjaa
