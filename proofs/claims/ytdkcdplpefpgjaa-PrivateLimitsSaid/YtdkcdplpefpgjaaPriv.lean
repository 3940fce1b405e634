/-
  private.leader, private.known, private.Pages, private.charged.
-/
import Derived.Test.YtdkcdplpefpgjaaCrew
import Derived.Test.YtdkcdplpefpgjaaForestFind
set_option linter.unusedSimpArgs false
set_option linter.unusedVariables false
namespace Go.Proofs.Ytdkcdplpefpgjaa
open Go.RowKit Gc

set_option maxRecDepth 100000 in
set_option maxHeartbeats 1000000 in
theorem leader_c (A : Option Addr) (c : Nat) (xs : List Grp) (next : Int) (B : Option Addr) (d : Nat) (ts : List Q4) (hn p : Int) (w : World) (h : Rd w 4 B (ts.map Q4.cells)) (hl : ts.length ≤ 140737488351232) :
    Calls Try.prog 48 #[.agg #[.slice A xs.length c, .int .i64 next, .slice B ts.length d, .int .i64 hn], .int .i64 p] w fun e w' => e = .returned (.bool (leaderB ts p)) ∧ Below w.heap.size w w' := by
  have hB1 : Below w.heap.size w (w.alloc (.cells #[.slice A xs.length c, .int .i64 next, .slice B ts.length d, .int .i64 hn] 47)) := (Below.refl _ _).alloc (Nat.le_refl _) _
  have hF := Lib.hid (fun W (h : Rd W 4 B (ts.map Q4.cells)) => crewFind_c A c xs next B d ts hn p W h hl)
  have hR := Lib.hid (show leaderB ts p = ((taskAt ts p).2 && (taskAt ts p).1.b == (taskAt ts p).1.a) from rfl)
  generalize taskAt ts p = L at *
  obtain ⟨⟨la, lb, lc, ld⟩, lok⟩ := L
  simp only [Q4.cells] at hF
  have H := Lib.hid h
  clear h
  cases lok with
  | false =>
    have HR := Lib.hid (show leaderB ts p = false from hR.out)
    go_enter Try.func48, Try.ntmps48
    go_wp2_with (go_at_call 83; refine (hF.out _ (H.out.alloc _)).mono ?_; rintro e W ⟨rfl, hb⟩; have hz := hb.size)
    go_ret
    exact ⟨ret_bool HR.out.symm, (hB1.trans (hb.mono (by simp))).alloc (by simp at hz; omega) _⟩
  | true =>
    have HR := Lib.hid (show leaderB ts p = (lb == la) from hR.out)
    go_enter Try.func48, Try.ntmps48
    go_wp2_with (go_at_call 83; refine (hF.out _ (H.out.alloc _)).mono ?_; rintro e W ⟨rfl, hb⟩; have hz := hb.size)
    go_ret
    exact ⟨ret_bool HR.out.symm, (hB1.trans (hb.mono (by simp))).alloc (by simp at hz; omega) _⟩

set_option maxRecDepth 100000 in
set_option maxHeartbeats 1000000 in
theorem known_c (A : Option Addr) (c : Nat) (xs : List Grp) (next id : Int) (w : World) (h : Rd w 6 A (xs.map Grp.cells)) (hl : xs.length ≤ 140737488351232) :
    Calls Try.prog 49 #[.agg #[.slice A xs.length c, .int .i64 next], .int .i64 id] w fun e w' => e = .returned (.bool (hasB xs id)) ∧ Below w.heap.size w w' := by
  have hB1 : Below w.heap.size w (w.alloc (.cells #[.slice A xs.length c, .int .i64 next] 25)) := (Below.refl _ _).alloc (Nat.le_refl _) _
  have hF := Lib.hid (fun W (h : Rd W 6 A (xs.map Grp.cells)) => find_c A c xs next id W h hl)
  have hR := Lib.hid (nodeAt_hasB xs id)
  generalize nodeAt xs id = L at *
  obtain ⟨⟨la, lb, lc, ld, le, lf⟩, lok⟩ := L
  simp only [Grp.cells] at hF
  have H := Lib.hid h
  clear h
  go_enter Try.func49, Try.ntmps49
  go_wp2_with (go_at_call 74; refine (hF.out _ (H.out.alloc _)).mono ?_; rintro e W ⟨rfl, hb⟩; have hz := hb.size)
  go_ret
  exact ⟨ret_bool hR.out, (hB1.trans (hb.mono (by simp))).alloc (by simp at hz; omega) _⟩

/-- sums that stay small -/
def Small (ls : List Q4) : Prop := ls.length ≤ 65536 ∧ ∀ x ∈ ls, -35184372088832 ≤ x.c ∧ x.c ≤ 35184372088832 ∧ -35184372088832 ≤ x.d ∧ x.d ≤ 35184372088832

theorem sum_le (p : Q4 → Bool) : ∀ (ls : List Q4) (h : ∀ x ∈ ls, -35184372088832 ≤ x.c ∧ x.c ≤ 35184372088832 ∧ -35184372088832 ≤ x.d ∧ x.d ≤ 35184372088832), 
    -(35184372088832 * (ls.length : Int)) ≤ sumC p ls ∧ sumC p ls ≤ 35184372088832 * (ls.length : Int) ∧ -(35184372088832 * (ls.length : Int)) ≤ sumD p ls ∧ sumD p ls ≤ 35184372088832 * (ls.length : Int)
  | [], _ => by simp [sumC, sumD]
  | x :: ls, h => by
    have h0 := sum_le p ls (fun y hy => h y (by simp [hy]))
    have hx := h x (by simp)
    unfold sumC sumD at *
    rw [List.filter_cons]
    split <;> simp only [List.map_cons, List.sum_cons, List.length_cons, Int.natCast_add, Int.natCast_one] at * <;> omega

set_option maxRecDepth 100000 in
set_option maxHeartbeats 1000000 in
theorem pages_c (A : Option Addr) (c : Nat) (ls : List Q4) (p : Int) (w : World) (h : Rd w 4 A (ls.map Q4.cells)) (hs : Small ls) :
    Calls Try.prog 18 #[.slice A ls.length c, .int .i64 p] w fun e w' => e = .returned (.tuple #[.int .i64 (sumC (fun x => x.a == p) ls), .int .i64 (sumD (fun x => x.a == p) ls)]) ∧ Below w.heap.size w w' := by
  have hl := hs.1
  have hsum := Lib.hid (fun k => sum_le (fun x => x.a == p) (ls.take k) (fun x hx => hs.2 x (List.mem_of_mem_take hx)))
  have H := Lib.hid h
  have HS := Lib.hid hs
  clear h hs
  go_enter Try.func18, Try.ntmps18
  go_wp2
  go_loopw [4, 5, 10] (fun u v i wr => ∃ k : Nat, k ≤ ls.length ∧ i = .int .i64 k ∧ u = .int .i64 (sumC (fun x => x.a == p) (ls.take k)) ∧ v = .int .i64 (sumD (fun x => x.a == p) (ls.take k)) ∧ Below w.heap.size w wr)
    (fun _ _ i _ => ls.length - (intOf i).toNat)
  case atStart => exact ⟨0, Nat.zero_le _, rfl, rfl, rfl, Below.refl _ _⟩
  case round =>
    obtain ⟨k, hk, rfl, rfl, rfl, hB⟩ := hrel
    by_cases hlt : k < ls.length
    · obtain ⟨b, o, rfl, hbs, hc⟩ := (H.out.below hB (Nat.le_refl _)).row (i := k) (c := ls[k].cells) (map_at _ hlt)
      have hki : (k : Int) < (ls.length : Int) := by omega
      have hhit := Lib.hid (fun e => sum_hit (fun x => x.a == p) ls k hlt e)
      have hmiss := Lib.hid (fun e => sum_miss (fun x => x.a == p) ls k hlt e)
      have hm := HS.out.2 _ (List.getElem_mem hlt)
      have s1 := hsum.out k
      rw [List.length_take_of_le hk] at s1
      simp only [Q4.cells, CellsFrom, Nat.add_zero, Nat.zero_add, Nat.reduceAdd] at hc
      obtain ⟨c0, c1, c2, c3, -⟩ := hc
      have zr := hB.size
      have HSUM := hsum
      generalize ls[k] = x at *
      generalize sumC (fun x => x.a == p) (ls.take k) = sc at *
      generalize sumD (fun x => x.a == p) (ls.take k) = sd at *
      obtain ⟨xa, xb, xc, xd⟩ := x
      simp only at *
      have w1 : -9223372036854775808 ≤ sc + xc ∧ sc + xc ≤ 9223372036854775807 := by omega
      have w2 : -9223372036854775808 ≤ sd + xd ∧ sd + xd ≤ 9223372036854775807 := by omega
      clear hsum HS
      cases hp : (xa == p) with
      | true =>
        obtain ⟨e1, e2⟩ := hhit.out hp
        have E1 := Lib.hid e1
        have E2 := Lib.hid e2
        clear e1 e2
        go_wp2
        go_roundw
        case rel => exact ⟨k + 1, by omega, by go_num, by rw [E1.out], by rw [E2.out], hB.alloc (by omega) _⟩
        case measure => simp [intOf]; omega
      | false =>
        obtain ⟨e1, e2⟩ := hmiss.out hp
        have E1 := Lib.hid e1
        have E2 := Lib.hid e2
        clear e1 e2
        go_wp2
        go_roundw
        case rel => exact ⟨k + 1, by omega, by go_num, by rw [E1.out], by rw [E2.out], hB.alloc (by omega) _⟩
        case measure => simp [intOf]; omega
    · obtain rfl : k = ls.length := by omega
      have hki : ¬ (ls.length : Int) < (ls.length : Int) := by omega
      rw [List.take_length]
      generalize hsc : sumC (fun x => x.a == p) ls = sc at *
      generalize hsd : sumD (fun x => x.a == p) ls = sd at *
      have HC := Lib.hid hsc
      have HD := Lib.hid hsd
      clear hsc hsd
      go_wp2
      go_ret2
      exact ⟨by rw [HC.out, HD.out]; rfl, hB⟩

set_option maxRecDepth 100000 in
set_option maxHeartbeats 1000000 in
theorem charged_c (A : Option Addr) (c : Nat) (ls : List Q4) (p : Int) (w : World) (h : Rd w 4 A (ls.map Q4.cells)) (hs : Small ls) :
    Calls Try.prog 52 #[.slice A ls.length c, .int .i64 p] w fun e w' => e = .returned (.tuple #[.int .i64 (sumC (fun x => x.b == p) ls), .int .i64 (sumD (fun x => x.b == p) ls)]) ∧ Below w.heap.size w w' := by
  have hl := hs.1
  have hsum := Lib.hid (fun k => sum_le (fun x => x.b == p) (ls.take k) (fun x hx => hs.2 x (List.mem_of_mem_take hx)))
  have H := Lib.hid h
  have HS := Lib.hid hs
  clear h hs
  go_enter Try.func52, Try.ntmps52
  go_wp2
  go_loopw [4, 5, 10] (fun u v i wr => ∃ k : Nat, k ≤ ls.length ∧ i = .int .i64 k ∧ u = .int .i64 (sumC (fun x => x.b == p) (ls.take k)) ∧ v = .int .i64 (sumD (fun x => x.b == p) (ls.take k)) ∧ Below w.heap.size w wr)
    (fun _ _ i _ => ls.length - (intOf i).toNat)
  case atStart => exact ⟨0, Nat.zero_le _, rfl, rfl, rfl, Below.refl _ _⟩
  case round =>
    obtain ⟨k, hk, rfl, rfl, rfl, hB⟩ := hrel
    by_cases hlt : k < ls.length
    · obtain ⟨b, o, rfl, hbs, hc⟩ := (H.out.below hB (Nat.le_refl _)).row (i := k) (c := ls[k].cells) (map_at _ hlt)
      have hki : (k : Int) < (ls.length : Int) := by omega
      have hhit := Lib.hid (fun e => sum_hit (fun x => x.b == p) ls k hlt e)
      have hmiss := Lib.hid (fun e => sum_miss (fun x => x.b == p) ls k hlt e)
      have hm := HS.out.2 _ (List.getElem_mem hlt)
      have s1 := hsum.out k
      rw [List.length_take_of_le hk] at s1
      simp only [Q4.cells, CellsFrom, Nat.add_zero, Nat.zero_add, Nat.reduceAdd] at hc
      obtain ⟨c0, c1, c2, c3, -⟩ := hc
      have zr := hB.size
      have HSUM := hsum
      generalize ls[k] = x at *
      generalize sumC (fun x => x.b == p) (ls.take k) = sc at *
      generalize sumD (fun x => x.b == p) (ls.take k) = sd at *
      obtain ⟨xa, xb, xc, xd⟩ := x
      simp only at *
      have w1 : -9223372036854775808 ≤ sc + xc ∧ sc + xc ≤ 9223372036854775807 := by omega
      have w2 : -9223372036854775808 ≤ sd + xd ∧ sd + xd ≤ 9223372036854775807 := by omega
      clear hsum HS
      cases hp : (xb == p) with
      | true =>
        obtain ⟨e1, e2⟩ := hhit.out hp
        have E1 := Lib.hid e1
        have E2 := Lib.hid e2
        clear e1 e2
        go_wp2
        go_roundw
        case rel => exact ⟨k + 1, by omega, by go_num, by rw [E1.out], by rw [E2.out], hB.alloc (by omega) _⟩
        case measure => simp [intOf]; omega
      | false =>
        obtain ⟨e1, e2⟩ := hmiss.out hp
        have E1 := Lib.hid e1
        have E2 := Lib.hid e2
        clear e1 e2
        go_wp2
        go_roundw
        case rel => exact ⟨k + 1, by omega, by go_num, by rw [E1.out], by rw [E2.out], hB.alloc (by omega) _⟩
        case measure => simp [intOf]; omega
    · obtain rfl : k = ls.length := by omega
      have hki : ¬ (ls.length : Int) < (ls.length : Int) := by omega
      rw [List.take_length]
      generalize hsc : sumC (fun x => x.b == p) ls = sc at *
      generalize hsd : sumD (fun x => x.b == p) ls = sd at *
      have HC := Lib.hid hsc
      have HD := Lib.hid hsd
      clear hsc hsd
      go_wp2
      go_ret2
      exact ⟨by rw [HC.out, HD.out]; rfl, hB⟩

end Go.Proofs.Ytdkcdplpefpgjaa
