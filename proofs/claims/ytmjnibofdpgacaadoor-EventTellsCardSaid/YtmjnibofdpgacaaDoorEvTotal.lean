/-
  event.total, event.Total.
-/
import Derived.Test.YtmjnibofdpgacaaDoorEvValid
import Derived.Test.YtmjnibofdpgacaaDoorForestSub
set_option linter.unusedSimpArgs false
set_option linter.unusedVariables false
namespace Gc
open Go Go.RowKit

/-- event.Total: a number and an error -/
def totR (xs : List Grp) (next : Int) (ls : List Tal) (id k : Int) : Int × Int :=
  if evB xs next ls = false then (0, 1) else if tix ls id < 0 then (0, 4) else if kindB k = false then (0, 3) else (totE xs ls id k, 0)

/-- counts that no sum of them leaves the ints -/
def SmallT (ls : List Tal) : Prop := ∀ x ∈ ls, ∀ j, j < 6 → -1099511627776 ≤ x.at j ∧ x.at j ≤ 1099511627776

theorem smallT_of {xs : List Grp} {next : Int} {ls : List Tal} (h : evB xs next ls = true) : SmallT ls := by
  intro x hx j hj
  simp only [evB, Bool.and_eq_true, decide_eq_true_eq] at h
  obtain ⟨h1, h2, h3⟩ := h
  obtain ⟨i, hi, rfl⟩ := List.mem_iff_getElem.1 hx
  have := List.all_eq_true.1 h3 i (List.mem_range.2 hi)
  unfold evStep at this
  rw [List.getElem?_eq_getElem hi, List.getElem?_eq_getElem (by omega)] at this
  simp only [Bool.and_eq_true] at this
  have h4 := this.2
  rw [Tal.fine_eq] at h4
  have := List.all_eq_true.1 h4 j (List.mem_range.2 hj)
  simp only [cntB, Bool.and_eq_true, decide_eq_true_eq] at this
  omega

theorem ownE_small {ls : List Tal} (h : SmallT ls) (id k : Int) : -1099511627776 ≤ ownE ls id k ∧ ownE ls id k ≤ 1099511627776 := by
  unfold ownE
  split
  · omega
  · split
    · rename_i h1 h2
      obtain ⟨j, rfl, hj⟩ := kindB_cases h2
      rcases idx_cases (fun x : Tal => x.g == id) ls with ⟨n, hn, hl⟩ | hn
      · have hn : tix ls id = n := hn
        rw [hn]
        have := h _ (List.getElem_mem hl) j hj
        rw [show ((n : Int).toNat) = n from rfl, getD_at hl]
        exact this
      · have : tix ls id = -1 := hn
        omega
    · omega

theorem sum_small {f : Int → Int} (hf : ∀ g, -1099511627776 ≤ f g ∧ f g ≤ 1099511627776) : ∀ l : List Int, -(1099511627776 * (l.length : Int)) ≤ (l.map f).sum ∧ (l.map f).sum ≤ 1099511627776 * (l.length : Int)
  | [] => by simp
  | x :: l => by
    have := hf x
    have := sum_small hf l
    simp only [List.map_cons, List.sum_cons, List.length_cons, Int.natCast_add, Int.natCast_one] at *
    omega

theorem sum_snoc {f : Int → Int} (l : List Int) (k : Nat) (h : k < l.length) : ((l.take (k + 1)).map f).sum = ((l.take k).map f).sum + f l[k] := by
  rw [take_snoc _ _ h, List.map_append, List.sum_append]
  simp

theorem subGo_len (xs : List Grp) : ∀ (n : Nat) (todo out : List Int), (subGo xs n todo out).length ≤ out.length + n
  | 0, _, _ => by simp [subGo]
  | n + 1, [], _ => by simp [subGo]
  | n + 1, x :: rest, out => by
    have := subGo_len xs n (children xs x ++ rest) (out ++ [x])
    simp only [subGo, List.length_append, List.length_cons, List.length_nil] at *
    omega
theorem subtree_len (xs : List Grp) (g : Int) : (subtree xs g).length ≤ xs.length := by
  unfold subtree
  split
  · have := subGo_len xs xs.length [g] []
    simpa using this
  · simp
end Gc
namespace Go.Proofs.YtmjnibofdpgacaaDoor
open Go.RowKit Gc

set_option maxRecDepth 100000 in
set_option maxHeartbeats 4000000 in
theorem evtotal_c (A : Option Addr) (c : Nat) (xs : List Grp) (next : Int) (D : Option Addr) (e : Nat) (ls : List Tal) (id k : Int) (w : World) (hA : Rd w 6 A (xs.map Grp.cells)) (hlA : xs.length ≤ 1048576)
    (hD : Rd w 7 D (ls.map Tal.cells)) (hlD : ls.length ≤ 140737488351232) (hs : SmallT ls) :
    Calls Tryd.prog 39 #[.agg #[.slice A xs.length c, .int .i64 next], .slice D ls.length e, .int .i64 id, .int .i64 k] w fun e w' => e = .returned (.int .i64 (totE xs ls id k)) ∧ Below w.heap.size w w' := by
  have hB1 : Below w.heap.size w (w.alloc (.cells #[.slice A xs.length c, .int .i64 next] 24)) := (Below.refl _ _).alloc (Nat.le_refl _) _
  have hA1 := hA.below hB1 (Nat.le_refl _)
  have hD1 := hD.below hB1 (Nat.le_refl _)
  have HO := Lib.hid (fun g W hD => own_c D e ls g k W hD hlD)
  have hb2 := Lib.hid (fun i => sum_small (f := fun g => ownE ls g k) (fun g => ownE_small hs g k) ((subtree xs id).take i))
  have hb3 := Lib.hid (fun g => ownE_small hs g k)
  have hlen := subtree_len xs id
  have HR := Lib.hid (show totE xs ls id k = ((subtree xs id).map (fun g => ownE ls g k)).sum from rfl)
  have HSn := Lib.hid (fun i (h : i < (subtree xs id).length) => sum_snoc (f := fun g => ownE ls g k) (subtree xs id) i h)
  go_enter Tryd.func39, Tryd.ntmps39
  go_wp2_with fail
  generalize hWx : w.alloc _ = W1 at *
  clear hWx hA hD
  refine (subtree_c A c xs next id W1 hA1 hlA).mono ?_
  rintro e0 W ⟨v, rfl, hown, hb⟩
  have hD2 := hD1.below hb (Nat.le_refl _)
  have hB2 := hB1.trans (hb.mono hB1.size)
  have z1 := hB1.size
  have z2 := hb.size
  clear hA1 hD1 hb hB1
  obtain ⟨A6, c6, rfl, hn6, -, hrd6, -, hlt6⟩ := hown.rd
  rw [List.length_map] at *
  clear hown hlt6
  generalize subtree xs id = sub at *
  go_wp2
  go_loopw [9, 16] (fun s i wr => ∃ n : Nat, n ≤ sub.length ∧ i = .int .i64 n ∧ s = .int .i64 ((sub.take n).map (fun g => ownE ls g k)).sum ∧ Below W.heap.size W wr)
    (fun _ i _ => sub.length - (intOf i).toNat)
  case atStart => exact ⟨0, Nat.zero_le _, rfl, rfl, Below.refl _ _⟩
  case round =>
    obtain ⟨n, hn, rfl, rfl, hB⟩ := hrel
    have zr := hB.size
    by_cases hlt : n < sub.length
    · have hni : (n : Int) < (sub.length : Int) := by omega
      obtain ⟨b, o, rfl, hbs, hc⟩ := (hrd6.below hB (Nat.le_refl _)).row (i := n) (c := icells sub[n]) (map_at _ hlt)
      have HS := Lib.hid (HSn.out n hlt)
      simp only [icells, CellsFrom, Nat.add_zero, Nat.zero_add, Nat.reduceAdd, Nat.mul_one] at hc
      obtain ⟨c0, -⟩ := hc
      have hbn := hb2.out n
      rw [List.length_take_of_le hn] at hbn
      generalize sub[n] = x at *
      generalize ((sub.take n).map (fun g => ownE ls g k)).sum = sc at *
      have hD3 := hD2.below hB (Nat.le_refl _)
      have h3 := hb3.out x
      go_wp2_with fail
      refine (HO.out x wr hD3).mono ?_
      rintro e0 W5 ⟨rfl, hb⟩
      have hB5 := hB.trans (hb.mono hB.size)
      generalize ownE ls x k = ox at *
      have w1 : -9223372036854775808 ≤ sc + ox ∧ sc + ox ≤ 9223372036854775807 := by omega
      go_wp2
      go_roundw
      case rel => exact ⟨n + 1, by omega, by go_num, by rw [HS.out], hB5⟩
      case measure => simp [intOf]; omega
    · obtain rfl : n = sub.length := by omega
      have hki : ¬ (sub.length : Int) < (sub.length : Int) := by omega
      have hBr := hB2.trans (hB.mono (by omega))
      rw [List.take_length]
      generalize (sub.map (fun g => ownE ls g k)).sum = sc at *
      go_wp2
      go_ret
      exact ⟨ret_int HR.out.symm, hBr⟩

set_option maxRecDepth 100000 in
set_option maxHeartbeats 4000000 in
theorem evTotal_c (A : Option Addr) (c : Nat) (xs : List Grp) (next : Int) (D : Option Addr) (e : Nat) (ls : List Tal) (id k : Int) (w : World) (hA : Rd w 6 A (xs.map Grp.cells)) (hok : ∀ x ∈ xs, x.ok) (hlA : xs.length ≤ 1048576) (hcap : xs.length ≤ c)
    (hD : Rd w 7 D (ls.map Tal.cells)) (hlD : ls.length ≤ 140737488351232) :
    Calls Tryd.prog 24 #[.agg #[.slice A xs.length c, .int .i64 next], .slice D ls.length e, .int .i64 id, .int .i64 k] w fun e w' => e = .returned (.tuple #[.int .i64 (totR xs next ls id k).1, .int .i64 (totR xs next ls id k).2]) ∧ Below w.heap.size w w' := by
  have hB1 : Below w.heap.size w (w.alloc (.cells #[.slice A xs.length c, .int .i64 next] 24)) := (Below.refl _ _).alloc (Nat.le_refl _) _
  have hA1 := hA.below hB1 (Nat.le_refl _)
  have hD1 := hD.below hB1 (Nat.le_refl _)
  have b1 := Box.mk w [.slice A xs.length c, .int .i64 next] 24
  have z1 := b1.lt
  have HV := Lib.hid (fun W hA hD => evValid_c A c xs next D e ls W hA hok (by omega) hcap hD hlD)
  have HF := Lib.hid (fun W hD => evFind_c D e ls id W hD hlD)
  have HT := Lib.hid (fun W hA hD hs => evtotal_c A c xs next D e ls id k W hA hlA hD hlD hs)
  have hR := Lib.hid (show totR xs next ls id k = if evB xs next ls = false then (0, 1) else if tix ls id < 0 then (0, 4) else if kindB k = false then (0, 3) else (totE xs ls id k, 0) from rfl)
  go_enter Tryd.func24, Tryd.ntmps24
  go_wp2_with fail
  generalize hWx : w.alloc _ = W1 at *
  clear hWx hA hD
  refine (HV.out W1 hA1 hD1).mono ?_
  rintro e0 W ⟨rfl, hb⟩
  have b2 := b1.below hb (Nat.le_refl _)
  have hA2 := hA1.below hb (Nat.le_refl _)
  have hD2 := hD1.below hb (Nat.le_refl _)
  have hB2 := hB1.trans (hb.mono hB1.size)
  have z2 := b2.lt
  obtain ⟨t0, t1, -⟩ := b2.cells
  simp only [Nat.zero_add, Nat.add_zero, Nat.reduceAdd] at t0 t1
  clear hB1 b1 hA1 hD1 z1 hb HV
  cases g1 : evB xs next ls with
  | false =>
    have HR := Lib.hid (show totR xs next ls id k = (0, 1) by rw [hR.out, if_pos g1])
    clear hR g1
    go_wp2
    go_ret2
    exact ⟨by rw [HR.out]; rfl, hB2⟩
  | true =>
    have hR := Lib.hid (show totR xs next ls id k = if tix ls id < 0 then (0, 4) else if kindB k = false then (0, 3) else (totE xs ls id k, 0) by rw [hR.out, if_neg (by rw [g1]; simp)])
    have HSm := Lib.hid (smallT_of g1)
    clear g1
    generalize tix ls id = z at *
    go_wp2_with fail
    refine (HF.out W hD2).mono ?_
    rintro e0 W2 ⟨rfl, hb⟩
    have b3 := b2.below hb (Nat.le_refl _)
    have hA3 := hA2.below hb (Nat.le_refl _)
    have hD3 := hD2.below hb (Nat.le_refl _)
    have hB3 := hB2.trans (hb.mono hB2.size)
    have z3 := b3.lt
    obtain ⟨t0, t1, -⟩ := b3.cells
    simp only [Nat.zero_add, Nat.add_zero, Nat.reduceAdd] at t0 t1
    clear hb b2 hA2 hD2 hB2 z2 HF
    by_cases g2 : z < 0
    · have HR := Lib.hid (show totR xs next ls id k = (0, 4) by rw [hR.out, if_pos g2])
      clear hR
      go_wp2
      go_ret2
      exact ⟨by rw [HR.out]; rfl, hB3⟩
    · have hR := Lib.hid (show totR xs next ls id k = if kindB k = false then (0, 3) else (totE xs ls id k, 0) by rw [hR.out, if_neg g2])
      go_wp2_with fail
      refine (kinds_c k W2).mono ?_
      rintro e0 W3 ⟨rfl, rfl⟩
      cases g3 : kindB k with
      | false =>
        have HR := Lib.hid (show totR xs next ls id k = (0, 3) by rw [hR.out, if_pos g3])
        clear hR g3
        go_wp2
        go_ret2
        exact ⟨by rw [HR.out]; rfl, hB3⟩
      | true =>
        have HR := Lib.hid (show totR xs next ls id k = (totE xs ls id k, 0) by rw [hR.out, if_neg (by rw [g3]; simp)])
        clear hR g3
        go_wp2_with fail
        refine (HT.out _ hA3 hD3 HSm.out).mono ?_
        rintro e0 W5 ⟨rfl, hb⟩
        have hB4 := hB3.trans (hb.mono hB3.size)
        go_wp2
        go_ret2
        exact ⟨by rw [HR.out]; rfl, hB4⟩

end Go.Proofs.YtmjnibofdpgacaaDoor
