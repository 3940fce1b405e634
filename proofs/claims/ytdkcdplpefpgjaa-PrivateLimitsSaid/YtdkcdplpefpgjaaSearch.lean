/-
  slices.BinarySearchFunc of residents by private.order, slices.Insert at the end.
-/
import Derived.Test.YtdkcdplpefpgjaaOrder
import Derived.Test.YtdkcdplpefpgjaaClone
set_option linter.unusedSimpArgs false
set_option linter.unusedVariables false
namespace Go.Proofs.Ytdkcdplpefpgjaa
open Go.RowKit Gc

/-- what the search of residents goes through -/
def bsGo (ls : List Q4) (t : Q4) : Nat → Nat → Nat → Nat
  | 0, i, _ => i
  | n + 1, i, j => if i < j then (if ordR (ls.getD ((i + j) / 2) default) t < 0 then bsGo ls t n ((i + j) / 2 + 1) j else bsGo ls t n i ((i + j) / 2)) else i
def bsAt (ls : List Q4) (t : Q4) : Nat := bsGo ls t ls.length 0 ls.length
def bsHit (ls : List Q4) (t : Q4) : Bool := decide (bsAt ls t < ls.length) && (ordR (ls.getD (bsAt ls t) default) t == 0)

set_option maxRecDepth 100000 in
set_option maxHeartbeats 1000000 in
theorem search_c (A : Option Addr) (c : Nat) (ls : List Q4) (t : Q4) (w : World) (h : Rd w 4 A (ls.map Q4.cells)) (hl : ls.length ≤ 1048576) :
    Calls Try.prog 84 #[.slice A ls.length c, .agg t.cells.toArray, .func (.func 82) #[] #[]] w fun e w' => e = .returned (.tuple #[.int .i64 (bsAt ls t), .bool (bsHit ls t)]) ∧ Below w.heap.size w w' := by
  have hB1 : Below w.heap.size w (w.alloc (.cells t.cells.toArray 89)) := (Below.refl _ _).alloc (Nat.le_refl _) _
  have b1 := Box.mk w t.cells 89
  have HO := Lib.hid (fun W x => order_c x t W)
  have hA := Lib.hid (show bsAt ls t = bsGo ls t ls.length 0 ls.length from rfl)
  have hH := Lib.hid (show bsHit ls t = (decide (bsAt ls t < ls.length) && (ordR (ls.getD (bsAt ls t) default) t == 0)) from rfl)
  have H := Lib.hid (h.below hB1 (Nat.le_refl _))
  clear h
  obtain ⟨ta, tb, tc, td⟩ := t
  simp only [Q4.cells] at *
  go_enter Try.func84, Try.ntmps84
  go_wp2
  generalize hWx : w.alloc _ = W1 at *
  clear hWx
  go_loopw [9, 10] (fun u v wr => ∃ i j : Nat, i ≤ j ∧ j ≤ ls.length ∧ u = .int .i64 i ∧ v = .int .i64 j ∧ Below W1.heap.size W1 wr ∧ Hid (∃ n, j - i ≤ n ∧ bsGo ls ⟨ta, tb, tc, td⟩ n i j = bsAt ls ⟨ta, tb, tc, td⟩))
    (fun u v _ => (intOf v).toNat - (intOf u).toNat)
  case atStart => exact ⟨0, ls.length, Nat.zero_le _, Nat.le_refl _, rfl, rfl, Below.refl _ _, (show ∃ n, _ from ⟨ls.length, by omega, hA.out.symm⟩)⟩
  case round =>
    obtain ⟨i, j, hij, hj, rfl, rfl, hB, hgo⟩ := hrel
    by_cases hlt : i < j
    · have hki : (i : Int) < (j : Int) := by omega
      have hm : (i + j) / 2 < ls.length := by omega
      have hmj : (i + j) / 2 < j := by omega
      have hmi : i ≤ (i + j) / 2 := by omega
      have em : ((i : Int) + (j : Int)) / 2 = (((i + j) / 2 : Nat) : Int) := by omega
      obtain ⟨n, hn, hgo⟩ := hgo.out
      obtain ⟨n, rfl⟩ : ∃ n', n = n' + 1 := ⟨n - 1, by omega⟩
      have hgo' : (if ordR (ls.getD ((i + j) / 2) default) ⟨ta, tb, tc, td⟩ < 0 then bsGo ls ⟨ta, tb, tc, td⟩ n ((i + j) / 2 + 1) j else bsGo ls ⟨ta, tb, tc, td⟩ n i ((i + j) / 2)) = bsAt ls ⟨ta, tb, tc, td⟩ := by
        rw [← hgo]
        show _ = if i < j then _ else _
        rw [if_pos hlt]
      have hgd : ls.getD ((i + j) / 2) default = ls[(i + j) / 2] := by rw [List.getD_eq_getElem?_getD, List.getElem?_eq_getElem hm]; rfl
      rw [hgd] at hgo'
      clear hgo hgd
      generalize (i + j) / 2 = m at *
      have hD := H.out.below hB (Nat.le_refl _)
      obtain ⟨b, o, e0, hbs, hc⟩ := hD.row (i := m) (c := ls[m].cells) (map_at _ hm)
      subst e0
      have b2 := b1.below hB (Nat.le_refl _)
      have z1 := b1.lt
      have zr := hB.size
      have hmi' : (m : Int) < (ls.length : Int) := by omega
      have ho := fun W => HO.out W ls[m]
      have HGO := Lib.hid hgo'
      clear hgo'
      generalize ls[m] = x at *
      obtain ⟨xa, xb, xc, xd⟩ := x
      simp only [Q4.cells, CellsFrom, Nat.add_zero, Nat.zero_add, Nat.reduceAdd] at *
      obtain ⟨p0, p1, p2, p3, -⟩ := hc
      obtain ⟨t0, t1, t2, t3, -⟩ := b2.cells
      simp only [Nat.add_zero, Nat.zero_add, Nat.reduceAdd] at t0 t1 t2 t3
      have hz : w.heap.size < wr.heap.size := by omega
      obtain ⟨ι, f, hf1', hf2', hf3'⟩ := fam wr
      have hne : Nonempty ι := ⟨hf1'.choose⟩
      have q0 := fun i => ((hf2' i).cell (p := ⟨b, o + m * 4, none⟩) hbs).trans p0
      have q1 := fun i => ((hf2' i).cell (p := ⟨b, o + m * 4 + 1, none⟩) hbs).trans p1
      have q2 := fun i => ((hf2' i).cell (p := ⟨b, o + m * 4 + 2, none⟩) hbs).trans p2
      have q3 := fun i => ((hf2' i).cell (p := ⟨b, o + m * 4 + 3, none⟩) hbs).trans p3
      have r0 := fun i => ((hf2' i).cell (p := ⟨w.heap.size, 0, none⟩) hz).trans t0
      have r1 := fun i => ((hf2' i).cell (p := ⟨w.heap.size, 1, none⟩) hz).trans t1
      have r2 := fun i => ((hf2' i).cell (p := ⟨w.heap.size, 2, none⟩) hz).trans t2
      have r3 := fun i => ((hf2' i).cell (p := ⟨w.heap.size, 3, none⟩) hz).trans t3
      have v1 := Lib.hid (fun i => fam_call hf2' hf3' (ho (f i)))
      have HF2 := Lib.hid hf2'
      clear ho hf2' hf3' p0 p1 p2 p3 t0 t1 t2 t3 b2 b1
      generalize hord : ordR ⟨xa, xb, xc, xd⟩ ⟨ta, tb, tc, td⟩ = ord at *
      clear hord
      by_cases g : ord < 0
      · have HG := Lib.hid (show bsGo ls ⟨ta, tb, tc, td⟩ n (m + 1) j = bsAt ls ⟨ta, tb, tc, td⟩ by rw [← HGO.out, if_pos g])
        have g' : decide (ord < 0) = true := decide_eq_true g
        clear HGO
        go_wp2
        refine wp_region_fam f hf1' (by kernel_rfl) (by kernel_rfl) ?_
        repeat (go_big_quiet_step ((go_at_call 82; exact v1.out _)))
        refine wpQuiet_nil ?_
        rintro _ ⟨q, rfl⟩
        have hBB := HF2.out q
        clear q0 q1 q2 q3 r0 r1 r2 r3 v1 hf1'
        go_wp2
        go_roundw
        case rel => exact ⟨m + 1, j, by omega, by omega, by go_num, rfl, hB.trans (hBB.mono (by omega)), (show ∃ n, _ from ⟨n, by omega, HG.out⟩)⟩
        case measure => simp [intOf]; omega
      · have HG := Lib.hid (show bsGo ls ⟨ta, tb, tc, td⟩ n i m = bsAt ls ⟨ta, tb, tc, td⟩ by rw [← HGO.out, if_neg g])
        have g' : decide (ord < 0) = false := decide_eq_false g
        clear HGO
        go_wp2
        refine wp_region_fam f hf1' (by kernel_rfl) (by kernel_rfl) ?_
        repeat (go_big_quiet_step ((go_at_call 82; exact v1.out _)))
        refine wpQuiet_nil ?_
        rintro _ ⟨q, rfl⟩
        have hBB := HF2.out q
        clear q0 q1 q2 q3 r0 r1 r2 r3 v1 hf1'
        go_wp2
        go_roundw
        case rel => exact ⟨i, m, by omega, by omega, rfl, by go_num, hB.trans (hBB.mono (by omega)), (show ∃ n, _ from ⟨n, by omega, HG.out⟩)⟩
        case measure => simp [intOf]; omega
    · obtain rfl : i = j := by omega
      have hki : ¬ (i : Int) < (i : Int) := by omega
      obtain ⟨n, hn, hgo⟩ := hgo.out
      have hi : i = bsAt ls ⟨ta, tb, tc, td⟩ := by
        rw [← hgo]
        cases n with
        | zero => rfl
        | succ n => show _ = if _ then _ else _; rw [if_neg hlt]
      have HI := Lib.hid hi
      have hB2 := hB1.trans (hB.mono hB1.size)
      clear hgo hi
      by_cases hil : i < ls.length
      · have e1 : decide ((i : Int) < (ls.length : Int)) = true := decide_eq_true (by omega)
        have e2 : decide (i < ls.length) = true := decide_eq_true (by omega)
        have hil' : (i : Int) < (ls.length : Int) := by omega
        have hD := H.out.below hB (Nat.le_refl _)
        obtain ⟨b, o, e0, hbs, hc⟩ := hD.row (i := i) (c := ls[i].cells) (map_at _ hil)
        subst e0
        have b2 := b1.below hB (Nat.le_refl _)
        have z1 := b1.lt
        have zr := hB.size
        have ho := fun W => HO.out W ls[i]
        have hgd : ls.getD i default = ls[i] := by rw [List.getD_eq_getElem?_getD, List.getElem?_eq_getElem hil]; rfl
        have HR := Lib.hid (show bsHit ls ⟨ta, tb, tc, td⟩ = (ordR ls[i] ⟨ta, tb, tc, td⟩ == 0) by rw [hH.out, ← HI.out, e2, hgd]; rfl)
        clear hgd
        generalize ls[i] = x at *
        obtain ⟨xa, xb, xc, xd⟩ := x
        simp only [Q4.cells, CellsFrom, Nat.add_zero, Nat.zero_add, Nat.reduceAdd] at *
        obtain ⟨p0, p1, p2, p3, -⟩ := hc
        obtain ⟨t0, t1, t2, t3, -⟩ := b2.cells
        simp only [Nat.add_zero, Nat.zero_add, Nat.reduceAdd] at t0 t1 t2 t3
        have hz : w.heap.size < wr.heap.size := by omega
        obtain ⟨ι, f, hf1', hf2', hf3'⟩ := fam wr
        have hne : Nonempty ι := ⟨hf1'.choose⟩
        have q0 := fun i' => ((hf2' i').cell (p := ⟨b, o + i * 4, none⟩) hbs).trans p0
        have q1 := fun i' => ((hf2' i').cell (p := ⟨b, o + i * 4 + 1, none⟩) hbs).trans p1
        have q2 := fun i' => ((hf2' i').cell (p := ⟨b, o + i * 4 + 2, none⟩) hbs).trans p2
        have q3 := fun i' => ((hf2' i').cell (p := ⟨b, o + i * 4 + 3, none⟩) hbs).trans p3
        have r0 := fun i' => ((hf2' i').cell (p := ⟨w.heap.size, 0, none⟩) hz).trans t0
        have r1 := fun i' => ((hf2' i').cell (p := ⟨w.heap.size, 1, none⟩) hz).trans t1
        have r2 := fun i' => ((hf2' i').cell (p := ⟨w.heap.size, 2, none⟩) hz).trans t2
        have r3 := fun i' => ((hf2' i').cell (p := ⟨w.heap.size, 3, none⟩) hz).trans t3
        have v1 := Lib.hid (fun i' => fam_call hf2' hf3' (ho (f i')))
        have HF2 := Lib.hid hf2'
        clear ho hf2' hf3' p0 p1 p2 p3 t0 t1 t2 t3 b2 b1
        generalize hord : ordR ⟨xa, xb, xc, xd⟩ ⟨ta, tb, tc, td⟩ = ord at *
        clear hord
        go_wp2
        refine wp_region_fam f hf1' (by kernel_rfl) (by kernel_rfl) ?_
        repeat (go_big_quiet_step ((go_at_call 82; exact v1.out _)))
        refine wpQuiet_nil ?_
        rintro _ ⟨q, rfl⟩
        go_wp2
        go_ret2
        exact ⟨by rw [HR.out, ← HI.out]; rfl, hB2.trans ((HF2.out q).mono (by omega))⟩
      · have e1 : decide ((i : Int) < (ls.length : Int)) = false := decide_eq_false (by omega)
        have e2 : decide (i < ls.length) = false := decide_eq_false (by omega)
        have HR := Lib.hid (show bsHit ls ⟨ta, tb, tc, td⟩ = false by rw [hH.out, ← HI.out, e2]; rfl)
        go_wp2_with (go_quiet (fail))
        go_ret2
        exact ⟨by rw [HR.out, ← HI.out]; rfl, drewN_below hB2 _⟩

end Go.Proofs.Ytdkcdplpefpgjaa
