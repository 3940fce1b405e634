/-
  r5.Remove.  (printed by wip/gen/r5rem.py)
-/
import Derived.Test.YtmjnibofdpgacaaDoorR5Copy
import Derived.Test.YtmjnibofdpgacaaDoorBase
import Derived.Deep.RegionLaw
set_option linter.unusedSimpArgs false
set_option linter.unusedVariables false
namespace Gc
open Go Go.RowKit

/-- the reference's Remove: nodes, next, and an error -/
def remT (xs : List Grp) (next id : Int) : List Grp × Int × Int :=
  if checkR xs next = false then ([], 0, 1) else if hasR xs next id = false then ([], 0, 4) else if id = 1 then ([], 0, 9) else if 0 < (kidsR xs next id).length then ([], 0, 6)
  else (xs.filter (fun x => x.id != id), next, 0)
theorem filter_hit (xs : List Grp) (k : Nat) (h : k < xs.length) (id : Int) (e : (xs[k].id != id) = true) : (xs.take (k + 1)).filter (fun x => x.id != id) = (xs.take k).filter (fun x => x.id != id) ++ [xs[k]] := by
  rw [take_snoc _ _ h, List.filter_append]
  simp only [List.filter_cons, List.filter_nil, e, if_true]
theorem filter_miss (xs : List Grp) (k : Nat) (h : k < xs.length) (id : Int) (e : (xs[k].id != id) = false) : (xs.take (k + 1)).filter (fun x => x.id != id) = (xs.take k).filter (fun x => x.id != id) := by
  rw [take_snoc _ _ h, List.filter_append]
  simp only [List.filter_cons, List.filter_nil, e]
  simp
end Gc
namespace Go.Proofs.YtmjnibofdpgacaaDoor
open Go.RowKit Gc

set_option maxRecDepth 100000 in
set_option maxHeartbeats 4000000 in
theorem rrem_c (A : Option Addr) (c : Nat) (xs : List Grp) (next id : Int) (w : World) (hA : Rd w 6 A (xs.map Grp.cells)) (hok : ∀ x ∈ xs, x.ok) (hlA : xs.length ≤ 1048576) :
    Calls Tryd.prog 28 #[.agg #[.slice A xs.length c, .int .i64 next], .int .i64 id] w fun e w' => ∃ v, e = .returned (.tuple #[.agg #[v, .int .i64 (remT xs next id).2.1], .int .i64 (remT xs next id).2.2]) ∧
      Own w' w.heap.size 54 6 v ((remT xs next id).1.map Grp.cells) ∧ Below w.heap.size w w' := by
  have hB1 : Below w.heap.size w ((w.alloc (.cells #[.slice A xs.length c, .int .i64 next] 24)).alloc (.cells #[.slice none 0 0, .int .i64 0] 24)) := ((Below.refl _ _).alloc (Nat.le_refl _) _).alloc (by simp) _
  have hA1 := hA.below hB1 (Nat.le_refl _)
  have b1 := (Box.mk w [.slice A xs.length c, .int .i64 next] 24).alloc (.cells #[.slice none 0 0, .int .i64 0] 24)
  have n1 := Box.mk (w.alloc (.cells #[.slice A xs.length c, .int .i64 next] 24)) [.slice none 0 0, .int .i64 0] 24
  rw [show (w.alloc (.cells #[.slice A xs.length c, .int .i64 next] 24)).heap.size = w.heap.size + 1 from by simp] at n1
  have hle : w.heap.size ≤ w.heap.size + 1 := Nat.le_succ _
  have HA := Lib.hid hA
  have HC := Lib.hid (fun W hA => rcheck_c A c xs next W hA hok hlA)
  have HH := Lib.hid (fun W hA => rhas_c A c xs next id W hA hok hlA)
  have HK := Lib.hid (fun W hA => rkids_c A c xs next id W hA hok hlA)
  have hR := Lib.hid (show remT xs next id = if checkR xs next = false then ([], 0, 1) else if hasR xs next id = false then ([], 0, 4) else if id = 1 then ([], 0, 9) else if 0 < (kidsR xs next id).length then ([], 0, 6)
    else (xs.filter (fun x => x.id != id), next, 0) from rfl)
  go_enter Tryd.func28, Tryd.ntmps28
  go_wp2_with fail
  generalize hWx : World.alloc (World.alloc w _) _ = W1 at *
  clear hWx hA
  refine (HC.out W1 hA1).mono ?_
  rintro e0 W2 ⟨rfl, hb⟩
  have hA2 := hA1.below hb (Nat.le_refl _)
  have b2 := b1.below hb (Nat.le_refl _)
  have n2 := n1.below hb (Nat.le_refl _)
  have hB2 := hB1.trans (hb.mono hB1.size)
  clear hA1 b1 n1 hB1 hb
  cases g1 : checkR xs next with
  | false =>
    have HR := Lib.hid (show remT xs next id = ([], 0, 1) by rw [hR.out, if_pos g1])
    clear hR
    have hf := n2.fro
    obtain ⟨z0, z1', -⟩ := n2.cells
    simp only [Nat.zero_add, Nat.add_zero, Nat.reduceAdd] at z0 z1'
    go_wp2
    try simp only [Exit.inBlock, Exit.then]
    refine bodyPost_ret (results_box_tmp rfl _ _ rfl ((n2.set 0 _).set 1 _) Tryd.underlying24 rfl (by kernel_rfl)) rfl ?_
    exact ⟨.slice none 0 0, by rw [HR.out]; rfl, by rw [HR.out]; exact Own.nil _ _ _ _, (hB2.setCell hle _).setCell hle _⟩
  | true =>
    have hR := Lib.hid (show remT xs next id = if hasR xs next id = false then ([], 0, 4) else if id = 1 then ([], 0, 9) else if 0 < (kidsR xs next id).length then ([], 0, 6)
      else (xs.filter (fun x => x.id != id), next, 0) by rw [hR.out, if_neg (by rw [g1]; simp)])
    clear g1
    obtain ⟨t0, t1, -⟩ := b2.cells
    simp only [Nat.zero_add, Nat.add_zero, Nat.reduceAdd] at t0 t1
    go_wp2_with fail
    refine (HH.out W2 hA2).mono ?_
    rintro e0 W3 ⟨rfl, hb⟩
    clear t0 t1
    have hA3 := hA2.below hb (Nat.le_refl _)
    have b3 := b2.below hb (Nat.le_refl _)
    have n3 := n2.below hb (Nat.le_refl _)
    have hB3 := hB2.trans (hb.mono hB2.size)
    clear hA2 b2 n2 hB2 hb
    cases g3 : hasR xs next id with
    | false =>
      have HR := Lib.hid (show remT xs next id = ([], 0, 4) by rw [hR.out, if_pos g3])
      clear hR
      have hf := n3.fro
      obtain ⟨z0, z1', -⟩ := n3.cells
      simp only [Nat.zero_add, Nat.add_zero, Nat.reduceAdd] at z0 z1'
      go_wp2
      try simp only [Exit.inBlock, Exit.then]
      refine bodyPost_ret (results_box_tmp rfl _ _ rfl ((n3.set 0 _).set 1 _) Tryd.underlying24 rfl (by kernel_rfl)) rfl ?_
      exact ⟨.slice none 0 0, by rw [HR.out]; rfl, by rw [HR.out]; exact Own.nil _ _ _ _, (hB3.setCell hle _).setCell hle _⟩
    | true =>
      have hR := Lib.hid (show remT xs next id = if id = 1 then ([], 0, 9) else if 0 < (kidsR xs next id).length then ([], 0, 6) else (xs.filter (fun x => x.id != id), next, 0) by rw [hR.out, if_neg (by rw [g3]; simp)])
      clear g3
      by_cases g4 : id = 1
      · have g4' : (id == 1) = true := by simpa using g4
        have HR := Lib.hid (show remT xs next id = ([], 0, 9) by rw [hR.out, if_pos g4])
        clear hR
        have hf := n3.fro
        obtain ⟨z0, z1', -⟩ := n3.cells
        simp only [Nat.zero_add, Nat.add_zero, Nat.reduceAdd] at z0 z1'
        go_wp2
        try simp only [Exit.inBlock, Exit.then]
        refine bodyPost_ret (results_box_tmp rfl _ _ rfl ((n3.set 0 _).set 1 _) Tryd.underlying24 rfl (by kernel_rfl)) rfl ?_
        exact ⟨.slice none 0 0, by rw [HR.out]; rfl, by rw [HR.out]; exact Own.nil _ _ _ _, (hB3.setCell hle _).setCell hle _⟩
      have hR := Lib.hid (show remT xs next id = if 0 < (kidsR xs next id).length then ([], 0, 6) else (xs.filter (fun x => x.id != id), next, 0) by rw [hR.out, if_neg g4])
      have g4' : (id == 1) = false := by simpa using g4
      obtain ⟨t0, t1, -⟩ := b3.cells
      simp only [Nat.zero_add, Nat.add_zero, Nat.reduceAdd] at t0 t1
      go_wp2_with fail
      refine (HK.out W3 hA3).mono ?_
      rintro e0 W4 ⟨vk, rfl, hownk, hb⟩
      obtain ⟨Ak, ck, rfl, -, -, -, -, -⟩ := hownk.rd
      rw [List.length_map]
      clear t0 t1 hownk
      have hA4 := hA3.below hb (Nat.le_refl _)
      have b4 := b3.below hb (Nat.le_refl _)
      have n4 := n3.below hb (Nat.le_refl _)
      have hB4 := hB3.trans (hb.mono hB3.size)
      clear hA3 b3 n3 hB3 hb
      generalize (kidsR xs next id).length = kl at *
      by_cases g5 : 0 < kl
      · have g5' : (0 : Int) < (kl : Int) := by omega
        have HR := Lib.hid (show remT xs next id = ([], 0, 6) by rw [hR.out, if_pos g5])
        clear hR
        have hf := n4.fro
        obtain ⟨z0, z1', -⟩ := n4.cells
        simp only [Nat.zero_add, Nat.add_zero, Nat.reduceAdd] at z0 z1'
        go_wp2
        try simp only [Exit.inBlock, Exit.then]
        refine bodyPost_ret (results_box_tmp rfl _ _ rfl ((n4.set 0 _).set 1 _) Tryd.underlying24 rfl (by kernel_rfl)) rfl ?_
        exact ⟨.slice none 0 0, by rw [HR.out]; rfl, by rw [HR.out]; exact Own.nil _ _ _ _, (hB4.setCell hle _).setCell hle _⟩
      have HR := Lib.hid (show remT xs next id = (xs.filter (fun x => x.id != id), next, 0) by rw [hR.out, if_neg g5])
      have g5' : ¬ (0 : Int) < (kl : Int) := by omega
      have hB5 : Below w.heap.size w (W4.alloc (.cells #[.slice none 0 0, .int .i64 next] 24)) := hB4.alloc hB4.size _
      have b5 := b4.alloc (.cells #[.slice none 0 0, .int .i64 next] 24)
      have n5 := n4.alloc (.cells #[.slice none 0 0, .int .i64 next] 24)
      have m5 := Box.mk W4 [.slice none 0 0, .int .i64 next] 24
      have zn := n4.lt
      obtain ⟨t0, t1, -⟩ := b4.cells
      simp only [Nat.zero_add, Nat.add_zero, Nat.reduceAdd] at t0 t1
      clear hR b4 n4 hB4 hA4 HC HH HK
      go_wp2
      generalize hWx : World.alloc W4 _ = W5 at *
      clear hWx
      clear t0 t1
      generalize W4.heap.size = gb at *
      have zg := m5.lt
      go_loopw [7] (fun i wr => ∃ (k : Nat) (v : Value), k ≤ xs.length ∧ i = .int .i64 k ∧ Box wr w.heap.size [.slice A xs.length c, .int .i64 next] 24 ∧ Box wr (w.heap.size + 1) [.slice none 0 0, .int .i64 0] 24 ∧
          Box wr gb [v, .int .i64 next] 24 ∧ Own wr (gb + 1) 54 6 v (((xs.take k).filter (fun x => x.id != id)).map Grp.cells) ∧ Below w.heap.size w wr)
        (fun i _ => xs.length - (intOf i).toNat)
      case atStart => exact ⟨0, _, Nat.zero_le _, rfl, b5, n5, m5, Own.nil _ _ _ _, hB5⟩
      case round =>
        obtain ⟨k, v, hk, rfl, b6, n6, m6, hown, hB⟩ := hrel
        have zr := m6.lt
        obtain ⟨A6, c6, rfl, -, -, -, -, -⟩ := hown.rd
        have hfl : ((xs.take k).filter (fun x => x.id != id)).length ≤ k := Nat.le_trans (List.length_filter_le _ _) (by simp; omega)
        rw [List.length_map] at *
        obtain ⟨t0, t1, -⟩ := b6.cells
        simp only [Nat.zero_add, Nat.add_zero, Nat.reduceAdd] at t0 t1
        obtain ⟨m0, m1, -⟩ := m6.cells
        simp only [Nat.zero_add, Nat.add_zero, Nat.reduceAdd] at m0 m1
        by_cases hlt : k < xs.length
        · have hki : (k : Int) < (xs.length : Int) := by omega
          have Hhit := Lib.hid (filter_hit xs k hlt id)
          have Hmiss := Lib.hid (filter_miss xs k hlt id)
          have hA6 := HA.out.below hB (Nat.le_refl _)
          obtain ⟨b, o, rfl, hbs, hc⟩ := hA6.row (i := k) (c := xs[k].cells) (map_at _ hlt)
          obtain ⟨b', o', e1, hbw, -⟩ := HA.out.row (i := k) (c := xs[k].cells) (map_at _ hlt)
          simp only [Option.some.injEq, Addr.mk.injEq, and_true] at e1
          obtain ⟨rfl, rfl⟩ := e1
          generalize xs[k] = x at *
          obtain ⟨xi, xp, xn, xc, xk, xo⟩ := x
          simp only [Grp.cells, CellsFrom, Nat.add_zero, Nat.zero_add, Nat.reduceAdd] at hc
          obtain ⟨c0, c1, c2, c3, c4, c5, -⟩ := hc
          simp only at *
          generalize hfx : (xs.take k).filter (fun x => x.id != id) = fl at *
          clear hfx
          cases g6 : (xi != id) with
          | false =>
            have HS := Lib.hid (Hmiss.out g6)
            clear Hhit Hmiss
            go_wp2
            go_roundw
            case rel => exact ⟨k + 1, _, by omega, by go_num, b6, n6, m6, by rw [HS.out]; exact hown, hB⟩
            case measure => simp [intOf] <;> omega
          | true =>
            have HS := Lib.hid (Hhit.out g6)
            clear Hhit Hmiss hA6
            have hfro6 := m6.fro
            have hBd : Below w.heap.size w (wr.drew.alloc (.cells #[.int .i64 xi, .int .i64 xp, .string xn, .int .i64 xc, .int .i64 xk, .int .i64 xo] 54)) := hB.drew.alloc hB.size _
            have hod := (hown.drew).alloc (.cells #[.int .i64 xi, .int .i64 xp, .string xn, .int .i64 xc, .int .i64 xk, .int .i64 xo] 54)
            have b7 := (b6.drewN 1).alloc (.cells #[.int .i64 xi, .int .i64 xp, .string xn, .int .i64 xc, .int .i64 xk, .int .i64 xo] 54)
            have n7 := (n6.drewN 1).alloc (.cells #[.int .i64 xi, .int .i64 xp, .string xn, .int .i64 xc, .int .i64 xk, .int .i64 xo] 54)
            have m7 := (m6.drewN 1).alloc (.cells #[.int .i64 xi, .int .i64 xp, .string xn, .int .i64 xc, .int .i64 xk, .int .i64 xo] 54)
            have hrn := rd_new wr.drew 6 [Grp.cells ⟨xi, xp, xn, xc, xk, xo⟩] 54 (by simp [Grp.cells])
            have hlt6 : ∀ q, (Value.slice A6 fl.length c6).ownBlock = some q → gb + 1 ≤ q := fun q e => (hown.lt e).1
            have hso : Below w.heap.size w wr.drew := hB.drew
            have hp0 : (fl.map Grp.cells).length + 1 ≤ 2199023255552 := by rw [List.length_map]; omega
            have HHod := Lib.hid hod
            have HHrn := Lib.hid hrn
            have hzz : gb + 1 ≤ (wr.drew.alloc (.cells #[.int .i64 xi, .int .i64 xp, .string xn, .int .i64 xc, .int .i64 xk, .int .i64 xo] 54)).heap.size := by simp; omega
            have hbg : ∀ q, q ≤ gb → some q ≠ (Value.slice A6 fl.length c6).ownBlock := fun q hq e => by have := hlt6 _ e.symm; omega
            go_wp2_with fail
            go_region_law (refine step_appAny siNode [Grp.cells ⟨xi, xp, xn, xc, xk, xo⟩] rfl _ _ rfl rfl rfl HHod.out HHrn.out (by simp) (by simp [Grp.cells]) (grp_one [⟨xi, xp, xn, xc, xk, xo⟩]) hp0 (by omega) hzz ?_; intro v8 w8 hown8 hg8 hat8; replace hg8 : World.grownBy (wr.drew.alloc (.cells #[.int .i64 xi, .int .i64 xp, .string xn, .int .i64 xc, .int .i64 xk, .int .i64 xo] 54)) w8 (Value.slice A6 fl.length c6).ownBlock := hg8; obtain ⟨A8, c8, rfl, -, -, -, -, -⟩ := hown8.rd; have b8 := b7.grown hg8 (hbg _ (by omega)); have n8 := n7.grown hg8 (hbg _ (by omega)); have m8 := m7.grown hg8 (hbg _ (Nat.le_refl _)); have hf8 := m8.fro; obtain ⟨s0, s1, -⟩ := m8.cells; simp only [Nat.zero_add, Nat.add_zero, Nat.reduceAdd] at s0 s1)
            all_goals
              have hq8 : (Value.slice A8 (fl.map Grp.cells ++ [Grp.cells ⟨xi, xp, xn, xc, xk, xo⟩]).length c8).ownBlock ≠ some gb := fun e => by have := (hown8.lt e).1; omega
              have hown9 := Lib.hid (hown8.setCell_other (a := ⟨gb, 0, none⟩) hq8 (.slice A8 (fl.length + 1) c8))
              have b9 := b8.setO (q := ⟨gb, 0, none⟩) (show w.heap.size ≠ gb by omega) (.slice A8 (fl.length + 1) c8)
              have n9 := n8.setO (q := ⟨gb, 0, none⟩) (show w.heap.size + 1 ≠ gb by omega) (.slice A8 (fl.length + 1) c8)
              have m9 := m8.set 0 (.slice A8 (fl.length + 1) c8)
              have hB9 := (hBd.grown hg8 (by simp; omega) (fun q e => by have := hlt6 q e; omega)).setCell (p := ⟨gb, 0, none⟩) (show w.heap.size ≤ gb by omega) (.slice A8 (fl.length + 1) c8)
              simp only [List.set_cons_zero] at m9
              clear hat8 hg8 hown8 hq8 b8 n8 m8 hf8 s0 s1 HHod HHrn hBd b7 n7 m7
              go_wp2
              go_roundw
              case rel => exact ⟨k + 1, _, by omega, by go_num, b9, n9, m9, by rw [HS.out, List.map_append]; simpa using hown9.out, hB9⟩
              case measure => simp [intOf] <;> omega
        · obtain rfl : k = xs.length := by omega
          have hki : ¬ (xs.length : Int) < (xs.length : Int) := by omega
          rw [List.take_length] at hown
          have hnn := n6.fro
          obtain ⟨z0, z1', -⟩ := n6.cells
          simp only [Nat.zero_add, Nat.add_zero, Nat.reduceAdd] at z0 z1'
          rw [List.take_length] at m0
          clear m6
          generalize xs.filter (fun x => x.id != id) = fl at *
          have hq8 : (Value.slice A6 fl.length c6).ownBlock ≠ some (w.heap.size + 1) := fun e => by have := (hown.lt e).1; omega
          have hown9 := ((hown.setCell_other (a := ⟨w.heap.size + 1, 0, none⟩) hq8 (.slice A6 fl.length c6)).setCell_other (a := ⟨w.heap.size + 1, 1, none⟩) hq8 (.int .i64 next)).base (show w.heap.size ≤ gb + 1 by omega)
          have hB9 := (hB.setCell (p := ⟨w.heap.size + 1, 0, none⟩) hle (.slice A6 fl.length c6)).setCell (p := ⟨w.heap.size + 1, 1, none⟩) hle (.int .i64 next)
          have HO9 := Lib.hid hown9
          clear hown9
          go_wp2
          refine bodyPost_ret (results_box_tmp rfl _ _ rfl ((n6.set 0 _).set 1 _) Tryd.underlying24 rfl (by kernel_rfl)) rfl ?_
          exact ⟨_, by rw [HR.out]; rfl, by rw [HR.out]; exact HO9.out, hB9⟩

end Go.Proofs.YtmjnibofdpgacaaDoor
