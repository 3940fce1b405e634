/-
  r5.Find, r5.Has.
-/
import Derived.Test.YtmjnibofdpgacaaDoorR5Check
import Derived.Test.YtmjnibofdpgacaaDoorQuad
set_option linter.unusedSimpArgs false
set_option linter.unusedVariables false
namespace Gc
open Go Go.RowKit

def zeroG : Grp := ⟨0, 0, ByteArray.empty, 0, 0, 0⟩
def findR (xs : List Grp) (next id : Int) : Grp × Bool := if checkR xs next then nodeAt xs id else (zeroG, false)
def hasR (xs : List Grp) (next id : Int) : Bool := checkR xs next && hasB xs id
theorem findR_has (xs : List Grp) (next id : Int) : (findR xs next id).2 = hasR xs next id := by
  unfold findR hasR
  split
  · rename_i h; rw [h, nodeAt_hasB]; rfl
  · rename_i h; simp [h]
theorem nodeAt_hit (xs : List Grp) (id : Int) (k : Nat) (h : k < xs.length) (e : xs[k].id = id) (hn : (xs.take k).all (fun x => !(x.id == id)) = true) : nodeAt xs id = (xs[k], true) := by
  unfold nodeAt
  have : xs.find? (fun n => n.id == id) = some xs[k] := by
    rw [List.find?_eq_some_iff_getElem]
    refine ⟨by simpa using e, k, h, rfl, fun j hj => ?_⟩
    have := List.all_eq_true.1 hn xs[j] (List.mem_take_iff_getElem.2 ⟨j, by omega, rfl⟩)
    simpa using this
  rw [this]
theorem nodeAt_miss (xs : List Grp) (id : Int) (hn : xs.all (fun x => !(x.id == id)) = true) : nodeAt xs id = (zeroG, false) := by
  unfold nodeAt
  have : xs.find? (fun n => n.id == id) = none := by
    rw [List.find?_eq_none]
    intro x hx
    simpa using List.all_eq_true.1 hn x hx
  rw [this]
  rfl
end Gc
namespace Go.Proofs.YtmjnibofdpgacaaDoor
open Go.RowKit Gc

set_option maxRecDepth 100000 in
set_option maxHeartbeats 4000000 in
theorem rfind_c (A : Option Addr) (c : Nat) (xs : List Grp) (next id : Int) (w : World) (hA : Rd w 6 A (xs.map Grp.cells)) (hok : ∀ x ∈ xs, x.ok) (hlA : xs.length ≤ 1048576) :
    Calls Tryd.prog 73 #[.agg #[.slice A xs.length c, .int .i64 next], .int .i64 id] w fun e w' => e = .returned (.tuple #[.agg (findR xs next id).1.cells.toArray, .bool (findR xs next id).2]) ∧ Below w.heap.size w w' := by
  have hB1 : Below w.heap.size w ((w.alloc (.cells #[.slice A xs.length c, .int .i64 next] 24)).alloc (.cells #[.int .i64 0, .int .i64 0, .string ⟨#[]⟩, .int .i64 0, .int .i64 0, .int .i64 0] 54)) := ((Below.refl _ _).alloc (Nat.le_refl _) _).alloc (by simp) _
  have hA1 := hA.below hB1 (Nat.le_refl _)
  have b1 := (Box.mk w [.slice A xs.length c, .int .i64 next] 24).alloc (.cells #[.int .i64 0, .int .i64 0, .string ⟨#[]⟩, .int .i64 0, .int .i64 0, .int .i64 0] 54)
  have n1 := Box.mk (w.alloc (.cells #[.slice A xs.length c, .int .i64 next] 24)) [.int .i64 0, .int .i64 0, .string ⟨#[]⟩, .int .i64 0, .int .i64 0, .int .i64 0] 54
  rw [show (w.alloc (.cells #[.slice A xs.length c, .int .i64 next] 24)).heap.size = w.heap.size + 1 from by simp] at n1
  have z1 := hB1.size
  have HC := Lib.hid (fun W hA => rcheck_c A c xs next W hA hok hlA)
  have hle : w.heap.size ≤ w.heap.size + 1 := Nat.le_succ _
  obtain ⟨t0, t1, -⟩ := b1.cells
  simp only [Nat.zero_add, Nat.add_zero, Nat.reduceAdd] at t0 t1
  go_enter Tryd.func73, Tryd.ntmps73
  go_wp2_with fail
  generalize hWx : World.alloc (World.alloc w _) _ = W1 at *
  clear hWx hA
  refine (HC.out W1 hA1).mono ?_
  rintro e0 W2 ⟨rfl, hb⟩
  have hA2 := hA1.below hb (Nat.le_refl _)
  have b2 := b1.below hb (Nat.le_refl _)
  have n2 := n1.below hb (Nat.le_refl _)
  have hB2 := hB1.trans (hb.mono z1)
  clear hA1 b1 n1 hB1 hb HC t0 t1
  cases g1 : checkR xs next with
  | false =>
    have HR := Lib.hid (show findR xs next id = (zeroG, false) by unfold findR; rw [g1]; rfl)
    clear g1
    have hf := n2.fro
    obtain ⟨z0, z1', z2, z3, z4, z5, -⟩ := n2.cells
    simp only [Nat.zero_add, Nat.add_zero, Nat.reduceAdd] at z0 z1' z2 z3 z4 z5
    go_wp2
    refine bodyPost_ret (results_box_tmp rfl _ _ rfl ((((((n2.set 0 _).set 1 _).set 2 _).set 3 _).set 4 _).set 5 _) Tryd.underlying54 rfl (by kernel_rfl)) rfl ?_
    exact ⟨by rw [HR.out]; rfl, (((((hB2.setCell hle _).setCell hle _).setCell hle _).setCell hle _).setCell hle _).setCell hle _⟩
  | true =>
    have HR := Lib.hid (show findR xs next id = nodeAt xs id by unfold findR; rw [g1]; rfl)
    clear g1
    go_wp2
    go_loopw [6] (fun i wr => ∃ k : Nat, k ≤ xs.length ∧ i = .int .i64 k ∧ wr = W2 ∧ Hid ((xs.take k).all (fun x => !(x.id == id)) = true)) (fun i _ => xs.length - (intOf i).toNat)
    case atStart => exact ⟨0, Nat.zero_le _, rfl, rfl, rfl⟩
    case round =>
      obtain ⟨k, hk, rfl, rfl, hst⟩ := hrel
      obtain ⟨t0, t1, -⟩ := b2.cells
      simp only [Nat.zero_add, Nat.add_zero, Nat.reduceAdd] at t0 t1
      by_cases hlt : k < xs.length
      · have hki : (k : Int) < (xs.length : Int) := by omega
        have Hhit := Lib.hid (fun e => nodeAt_hit xs id k hlt e hst.out)
        have Hsn := Lib.hid (fun (e : (!(xs[k].id == id)) = true) => all_snoc (p := fun x => !(x.id == id)) hlt hst.out e)
        obtain ⟨b, o, rfl, hbs, hc⟩ := hA2.row (i := k) (c := xs[k].cells) (map_at _ hlt)
        generalize xs[k] = x at *
        obtain ⟨xi, xp, xn, xc, xk, xo⟩ := x
        simp only [Grp.cells, CellsFrom, Nat.add_zero, Nat.zero_add, Nat.reduceAdd] at hc
        obtain ⟨c0, c1, c2, c3, c4, c5, -⟩ := hc
        cases g2 : (xi == id) with
        | true =>
          have HR := Lib.hid (show findR xs next id = (⟨xi, xp, xn, xc, xk, xo⟩, true) by rw [HR.out, Hhit.out (by simpa using g2)])
          have hf := n2.fro
          obtain ⟨z0, z1', z2, z3, z4, z5, -⟩ := n2.cells
          simp only [Nat.zero_add, Nat.add_zero, Nat.reduceAdd] at z0 z1' z2 z3 z4 z5
          clear hst Hhit Hsn
          go_wp2
          try simp only [Exit.inBlock, Exit.then]
          refine bodyPost_ret (results_box_tmp rfl _ _ rfl ((((((n2.set 0 _).set 1 _).set 2 _).set 3 _).set 4 _).set 5 _) Tryd.underlying54 rfl (by kernel_rfl)) rfl ?_
          exact ⟨by rw [HR.out]; rfl, (((((hB2.setCell hle _).setCell hle _).setCell hle _).setCell hle _).setCell hle _).setCell hle _⟩
        | false =>
          have hst' := Lib.hid (Hsn.out (by simp only [g2]; rfl))
          clear hst Hhit Hsn
          go_wp2
          go_roundw
          case rel => exact ⟨k + 1, by omega, by go_num, by first | trivial | rfl, hst'⟩
          case measure => simp [intOf] <;> omega
      · obtain rfl : k = xs.length := by omega
        have hki : ¬ (xs.length : Int) < (xs.length : Int) := by omega
        have HR := Lib.hid (show findR xs next id = (zeroG, false) by
          have := hst.out
          rw [List.take_length] at this
          rw [HR.out, nodeAt_miss xs id this])
        have hf := n2.fro
        obtain ⟨z0, z1', z2, z3, z4, z5, -⟩ := n2.cells
        simp only [Nat.zero_add, Nat.add_zero, Nat.reduceAdd] at z0 z1' z2 z3 z4 z5
        clear hst
        go_wp2
        try simp only [Exit.inBlock, Exit.then]
        refine bodyPost_ret (results_box_tmp rfl _ _ rfl ((((((n2.set 0 _).set 1 _).set 2 _).set 3 _).set 4 _).set 5 _) Tryd.underlying54 rfl (by kernel_rfl)) rfl ?_
        exact ⟨by rw [HR.out]; rfl, (((((hB2.setCell hle _).setCell hle _).setCell hle _).setCell hle _).setCell hle _).setCell hle _⟩

set_option maxRecDepth 100000 in
set_option maxHeartbeats 1000000 in
theorem rhas_c (A : Option Addr) (c : Nat) (xs : List Grp) (next id : Int) (w : World) (hA : Rd w 6 A (xs.map Grp.cells)) (hok : ∀ x ∈ xs, x.ok) (hlA : xs.length ≤ 1048576) :
    Calls Tryd.prog 56 #[.agg #[.slice A xs.length c, .int .i64 next], .int .i64 id] w fun e w' => e = .returned (.bool (hasR xs next id)) ∧ Below w.heap.size w w' := by
  have hB1 : Below w.heap.size w (w.alloc (.cells #[.slice A xs.length c, .int .i64 next] 24)) := (Below.refl _ _).alloc (Nat.le_refl _) _
  have hA1 := hA.below hB1 (Nat.le_refl _)
  have HF := Lib.hid (rfind_c A c xs next id _ hA1 hok hlA)
  have HR := Lib.hid (findR_has xs next id)
  generalize findR xs next id = fr at *
  obtain ⟨⟨xi, xp, xn, xc, xk, xo⟩, fb⟩ := fr
  simp only [Grp.cells] at HF
  go_enter Tryd.func56, Tryd.ntmps56
  go_wp2_with fail
  refine HF.out.mono ?_
  rintro e0 W2 ⟨rfl, hb⟩
  have hB2 := hB1.trans (hb.mono (by simp))
  have hB3 := hB2.alloc hB2.size (.cells #[.int .i64 xi, .int .i64 xp, .string xn, .int .i64 xc, .int .i64 xk, .int .i64 xo] 54)
  go_wp2
  go_ret
  exact ⟨ret_bool HR.out, hB3⟩

end Go.Proofs.YtmjnibofdpgacaaDoor
