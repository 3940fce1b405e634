/-
  r5.Add.
-/
import Derived.Test.YtmjnibofdpgacaaDoorR5Copy
import Derived.Test.YtmjnibofdpgacaaDoorValid
import Derived.Test.YtmjnibofdpgacaaDoorBase
import Derived.BigRegion
set_option linter.unusedSimpArgs false
set_option linter.unusedVariables false
namespace Gc
open Go Go.RowKit

def takenR (xs : List Grp) (p : Int) (s : ByteArray) : Bool := xs.any fun x => x.parent == p && x.name.toList == s.toList
theorem takenR_hit (xs : List Grp) (p : Int) (s : ByteArray) (k : Nat) (h : k < xs.length) (e : (xs[k].parent == p && xs[k].name.toList == s.toList) = true) : takenR xs p s = true := List.any_eq_true.2 ⟨_, List.getElem_mem h, e⟩
/-- the reference's Add: nodes, next, the new group's ID, and an error -/
def addT (xs : List Grp) (next p : Int) (s : ByteArray) : List Grp × Int × Int × Int :=
  if checkR xs next = false ∨ validB s = false then ([], 0, 0, 1) else if hasR xs next p = false then ([], 0, 0, 4) else if takenR xs p s then ([], 0, 0, 5)
  else if 8 ≤ ((ancR xs next p).length : Int) - 1 ∨ 64 ≤ xs.length ∨ 2147483647 < next then ([], 0, 0, 7)
  else (xs ++ [⟨next, p, s, 0, 0, 0⟩], next + 1, next, 0)
end Gc
namespace Go.Proofs.YtmjnibofdpgacaaDoor
open Go.RowKit Gc

set_option maxRecDepth 100000 in
set_option maxHeartbeats 4000000 in
theorem radd_c (A : Option Addr) (c : Nat) (xs : List Grp) (next p : Int) (s : ByteArray) (w : World) (hA : Rd w 6 A (xs.map Grp.cells)) (hok : ∀ x ∈ xs, x.ok) (hlA : xs.length ≤ 1048576) (hs : s.size ≤ 140737488351232) (hn : I64 next) :
    Calls Tryd.prog 43 #[.agg #[.slice A xs.length c, .int .i64 next], .int .i64 p, .string s] w fun e w' => ∃ v, e = .returned (.tuple #[.agg #[v, .int .i64 (addT xs next p s).2.1], .int .i64 (addT xs next p s).2.2.1, .int .i64 (addT xs next p s).2.2.2]) ∧
      Own w' w.heap.size 54 6 v ((addT xs next p s).1.map Grp.cells) ∧ Below w.heap.size w w' := by
  have hB1 : Below w.heap.size w ((w.alloc (.cells #[.slice A xs.length c, .int .i64 next] 24)).alloc (.cells #[.slice none 0 0, .int .i64 0] 24)) := ((Below.refl _ _).alloc (Nat.le_refl _) _).alloc (by simp) _
  have hA1 := hA.below hB1 (Nat.le_refl _)
  have b1 := (Box.mk w [.slice A xs.length c, .int .i64 next] 24).alloc (.cells #[.slice none 0 0, .int .i64 0] 24)
  have n1 := Box.mk (w.alloc (.cells #[.slice A xs.length c, .int .i64 next] 24)) [.slice none 0 0, .int .i64 0] 24
  rw [show (w.alloc (.cells #[.slice A xs.length c, .int .i64 next] 24)).heap.size = w.heap.size + 1 from by simp] at n1
  have z1 := hB1.size
  have hle : w.heap.size ≤ w.heap.size + 1 := Nat.le_succ _
  have HC := Lib.hid (fun W hA => rcheck_c A c xs next W hA hok hlA)
  have HH := Lib.hid (fun W hA => rhas_c A c xs next p W hA hok hlA)
  have HD := Lib.hid (fun W hA => rdepth_c A c xs next p W hA hok hlA)
  have HCo := Lib.hid (fun W hA => rcopy_c A c xs next W hA hlA)
  have HVa := Lib.hid (fun W => rvalid_c s W hs)
  have hR := Lib.hid (show addT xs next p s = if checkR xs next = false ∨ validB s = false then ([], 0, 0, 1) else if hasR xs next p = false then ([], 0, 0, 4) else if takenR xs p s then ([], 0, 0, 5)
    else if 8 ≤ ((ancR xs next p).length : Int) - 1 ∨ 64 ≤ xs.length ∨ 2147483647 < next then ([], 0, 0, 7)
    else (xs ++ [⟨next, p, s, 0, 0, 0⟩], next + 1, next, 0) from rfl)
  have hal := ancR_len xs next p
  go_enter Tryd.func43, Tryd.ntmps43
  go_wp2_with fail
  generalize hWx : World.alloc (World.alloc w _) _ = W1 at *
  clear hWx hA
  refine (HC.out W1 hA1).mono ?_
  rintro e0 W2 ⟨rfl, hb⟩
  have hA2 := hA1.below hb (Nat.le_refl _)
  have b2 := b1.below hb (Nat.le_refl _)
  have n2 := n1.below hb (Nat.le_refl _)
  have hB2 := hB1.trans (hb.mono hB1.size)
  clear hA1 b1 n1 hB1 hb
  cases g1 : checkR xs next with
  | false =>
    have HR := Lib.hid (show addT xs next p s = ([], 0, 0, 1) by rw [hR.out, if_pos (.inl g1)])
    clear hR
    have hf := n2.fro
    obtain ⟨z0, z1', -⟩ := n2.cells
    simp only [Nat.zero_add, Nat.add_zero, Nat.reduceAdd] at z0 z1'
    go_wp2
    try simp only [Exit.inBlock, Exit.then]
    refine bodyPost_ret (results_box_tmp2 rfl _ _ rfl ((n2.set 0 _).set 1 _) Tryd.underlying24 rfl (by kernel_rfl)) rfl ?_
    exact ⟨.slice none 0 0, by rw [HR.out]; rfl, by rw [HR.out]; exact Own.nil _ _ _ _, (hB2.setCell hle _).setCell hle _⟩
  | true =>
    go_wp2_with fail
    refine (HVa.out W2).mono ?_
    rintro e0 W2' ⟨rfl, rfl⟩
    cases g2 : validB s with
    | false =>
      have HR := Lib.hid (show addT xs next p s = ([], 0, 0, 1) by rw [hR.out, if_pos (.inr g2)])
      clear hR
      have hf := n2.fro
      obtain ⟨z0, z1', -⟩ := n2.cells
      simp only [Nat.zero_add, Nat.add_zero, Nat.reduceAdd] at z0 z1'
      go_wp2
      try simp only [Exit.inBlock, Exit.then]
      refine bodyPost_ret (results_box_tmp2 rfl _ _ rfl ((n2.set 0 _).set 1 _) Tryd.underlying24 rfl (by kernel_rfl)) rfl ?_
      exact ⟨.slice none 0 0, by rw [HR.out]; rfl, by rw [HR.out]; exact Own.nil _ _ _ _, (hB2.setCell hle _).setCell hle _⟩
    | true =>
      have hR := Lib.hid (show addT xs next p s = if hasR xs next p = false then ([], 0, 0, 4) else if takenR xs p s then ([], 0, 0, 5)
        else if 8 ≤ ((ancR xs next p).length : Int) - 1 ∨ 64 ≤ xs.length ∨ 2147483647 < next then ([], 0, 0, 7) else (xs ++ [⟨next, p, s, 0, 0, 0⟩], next + 1, next, 0) by rw [hR.out, if_neg (by rw [g1, g2]; simp)])
      clear g1 g2
      obtain ⟨t0, t1, -⟩ := b2.cells
      simp only [Nat.zero_add, Nat.add_zero, Nat.reduceAdd] at t0 t1
      go_wp2_with fail
      refine (HH.out W2 hA2).mono ?_
      rintro e0 W3 ⟨rfl, hb⟩
      clear t0 t1
      have hA3 := hA2.below hb (Nat.le_refl _)
      have b3 := b2.below hb (Nat.le_refl _)
      have n3 := n2.below hb (Nat.le_refl _)
      have hB3 := hB2.trans (hb.mono hB2.size)
      clear hA2 b2 n2 hB2 hb
      cases g3 : hasR xs next p with
      | false =>
        have HR := Lib.hid (show addT xs next p s = ([], 0, 0, 4) by rw [hR.out, if_pos g3])
        clear hR
        have hf := n3.fro
        obtain ⟨z0, z1', -⟩ := n3.cells
        simp only [Nat.zero_add, Nat.add_zero, Nat.reduceAdd] at z0 z1'
        go_wp2
        try simp only [Exit.inBlock, Exit.then]
        refine bodyPost_ret (results_box_tmp2 rfl _ _ rfl ((n3.set 0 _).set 1 _) Tryd.underlying24 rfl (by kernel_rfl)) rfl ?_
        exact ⟨.slice none 0 0, by rw [HR.out]; rfl, by rw [HR.out]; exact Own.nil _ _ _ _, (hB3.setCell hle _).setCell hle _⟩
      | true =>
        have hR := Lib.hid (show addT xs next p s = if takenR xs p s then ([], 0, 0, 5)
          else if 8 ≤ ((ancR xs next p).length : Int) - 1 ∨ 64 ≤ xs.length ∨ 2147483647 < next then ([], 0, 0, 7) else (xs ++ [⟨next, p, s, 0, 0, 0⟩], next + 1, next, 0) by rw [hR.out, if_neg (by rw [g3]; simp)])
        clear g3
        go_wp2
        go_loopw [9] (fun i wr => ∃ k : Nat, k ≤ xs.length ∧ i = .int .i64 k ∧ wr = W3 ∧ Hid ((xs.take k).any (fun x => x.parent == p && x.name.toList == s.toList) = false)) (fun i _ => xs.length - (intOf i).toNat)
        case atStart => exact ⟨0, Nat.zero_le _, rfl, rfl, rfl⟩
        case round =>
          obtain ⟨k, hk, rfl, rfl, hst⟩ := hrel
          obtain ⟨t0, t1, -⟩ := b3.cells
          simp only [Nat.zero_add, Nat.add_zero, Nat.reduceAdd] at t0 t1
          by_cases hlt : k < xs.length
          · have hki : (k : Int) < (xs.length : Int) := by omega
            have Hhit := Lib.hid (takenR_hit xs p s k hlt)
            have Hsn := Lib.hid (any_snoc (p := fun x => x.parent == p && x.name.toList == s.toList) hlt)
            obtain ⟨b, o, rfl, hbs, hc⟩ := hA3.row (i := k) (c := xs[k].cells) (map_at _ hlt)
            generalize xs[k] = x at *
            obtain ⟨xi, xp, xn, xc, xk, xo⟩ := x
            simp only [Grp.cells, CellsFrom, Nat.add_zero, Nat.zero_add, Nat.reduceAdd] at hc
            obtain ⟨c0, c1, c2, c3, c4, c5, -⟩ := hc
            simp only at *
            cases g4 : (xp == p) with
            | false =>
              have hst' := Lib.hid (show (xs.take (k + 1)).any (fun x => x.parent == p && x.name.toList == s.toList) = false by rw [Hsn.out, hst.out]; simp only [g4]; rfl)
              clear hst Hhit Hsn
              go_wp2
              go_roundw
              case rel => exact ⟨k + 1, by omega, by go_num, by first | trivial | rfl, hst'⟩
              case measure => simp [intOf] <;> omega
            | true =>
              cases g5 : (xn.toList == s.toList) with
              | false =>
                have hst' := Lib.hid (show (xs.take (k + 1)).any (fun x => x.parent == p && x.name.toList == s.toList) = false by rw [Hsn.out, hst.out]; simp only [g4, g5]; rfl)
                clear hst Hhit Hsn
                go_wp2
                go_roundw
                case rel => exact ⟨k + 1, by omega, by go_num, by first | trivial | rfl, hst'⟩
                case measure => simp [intOf] <;> omega
              | true =>
                have HT := Lib.hid (Hhit.out (by simp only [g4, g5]; rfl))
                clear hst Hhit Hsn
                have HR := Lib.hid (show addT xs next p s = ([], 0, 0, 5) by rw [hR.out, if_pos HT.out])
                clear hR
                have hf := n3.fro
                obtain ⟨z0, z1', -⟩ := n3.cells
                simp only [Nat.zero_add, Nat.add_zero, Nat.reduceAdd] at z0 z1'
                go_wp2
                try simp only [Exit.inBlock, Exit.then]
                refine bodyPost_ret (results_box_tmp2 rfl _ _ rfl ((n3.set 0 _).set 1 _) Tryd.underlying24 rfl (by kernel_rfl)) rfl ?_
                exact ⟨.slice none 0 0, by rw [HR.out]; rfl, by rw [HR.out]; exact Own.nil _ _ _ _, (hB3.setCell hle _).setCell hle _⟩
          · obtain rfl : k = xs.length := by omega
            have hki : ¬ (xs.length : Int) < (xs.length : Int) := by omega
            have HT := Lib.hid (show takenR xs p s = false by have := hst.out; rw [List.take_length] at this; exact this)
            have hR := Lib.hid (show addT xs next p s = if 8 ≤ ((ancR xs next p).length : Int) - 1 ∨ 64 ≤ xs.length ∨ 2147483647 < next then ([], 0, 0, 7) else (xs ++ [⟨next, p, s, 0, 0, 0⟩], next + 1, next, 0) by rw [hR.out, if_neg (by rw [HT.out]; simp)])
            clear hst
            go_wp2_with fail
            refine (HD.out wr hA3).mono ?_
            rintro e0 W4 ⟨rfl, hb⟩
            clear t0 t1
            have hA4 := hA3.below hb (Nat.le_refl _)
            have b4 := b3.below hb (Nat.le_refl _)
            have n4 := n3.below hb (Nat.le_refl _)
            have hB4 := hB3.trans (hb.mono hB3.size)
            clear hA3 b3 n3 hB3 hb
            generalize (ancR xs next p).length = al at *
            obtain ⟨t0, t1, -⟩ := b4.cells
            simp only [Nat.zero_add, Nat.add_zero, Nat.reduceAdd] at t0 t1
            by_cases g4 : 8 ≤ (al : Int) - 1
            · have g4' : (al : Int) - 1 ≥ 8 := g4
              have HR := Lib.hid (show addT xs next p s = ([], 0, 0, 7) by rw [hR.out, if_pos (.inl g4)])
              clear hR
              have hf := n4.fro
              obtain ⟨z0, z1', -⟩ := n4.cells
              simp only [Nat.zero_add, Nat.add_zero, Nat.reduceAdd] at z0 z1'
              go_wp2
              try simp only [Exit.inBlock, Exit.then]
              refine bodyPost_ret (results_box_tmp2 rfl _ _ rfl ((n4.set 0 _).set 1 _) Tryd.underlying24 rfl (by kernel_rfl)) rfl ?_
              exact ⟨.slice none 0 0, by rw [HR.out]; rfl, by rw [HR.out]; exact Own.nil _ _ _ _, (hB4.setCell hle _).setCell hle _⟩
            by_cases g5 : 64 ≤ xs.length
            · have g4' : ¬ (al : Int) - 1 ≥ 8 := g4
              have g5' : (xs.length : Int) ≥ 64 := by omega
              have HR := Lib.hid (show addT xs next p s = ([], 0, 0, 7) by rw [hR.out, if_pos (.inr (.inl g5))])
              clear hR
              have hf := n4.fro
              obtain ⟨z0, z1', -⟩ := n4.cells
              simp only [Nat.zero_add, Nat.add_zero, Nat.reduceAdd] at z0 z1'
              go_wp2
              try simp only [Exit.inBlock, Exit.then]
              refine bodyPost_ret (results_box_tmp2 rfl _ _ rfl ((n4.set 0 _).set 1 _) Tryd.underlying24 rfl (by kernel_rfl)) rfl ?_
              exact ⟨.slice none 0 0, by rw [HR.out]; rfl, by rw [HR.out]; exact Own.nil _ _ _ _, (hB4.setCell hle _).setCell hle _⟩
            by_cases g6 : 2147483647 < next
            · have g4' : ¬ (al : Int) - 1 ≥ 8 := g4
              have g5' : ¬ (xs.length : Int) ≥ 64 := by omega
              have HR := Lib.hid (show addT xs next p s = ([], 0, 0, 7) by rw [hR.out, if_pos (.inr (.inr g6))])
              clear hR
              have hf := n4.fro
              obtain ⟨z0, z1', -⟩ := n4.cells
              simp only [Nat.zero_add, Nat.add_zero, Nat.reduceAdd] at z0 z1'
              go_wp2
              try simp only [Exit.inBlock, Exit.then]
              refine bodyPost_ret (results_box_tmp2 rfl _ _ rfl ((n4.set 0 _).set 1 _) Tryd.underlying24 rfl (by kernel_rfl)) rfl ?_
              exact ⟨.slice none 0 0, by rw [HR.out]; rfl, by rw [HR.out]; exact Own.nil _ _ _ _, (hB4.setCell hle _).setCell hle _⟩
            have HR := Lib.hid (show addT xs next p s = (xs ++ [⟨next, p, s, 0, 0, 0⟩], next + 1, next, 0) by rw [hR.out, if_neg (by omega)])
            have g4' : ¬ (al : Int) - 1 ≥ 8 := g4
            have g5' : ¬ (xs.length : Int) ≥ 64 := by omega
            clear hR
            go_wp2_with fail
            refine (HCo.out W4 hA4).mono ?_
            rintro e0 W5 ⟨v5, rfl, hown5, hb⟩
            have zb4 := hb.size
            have zz4 := hB4.size
            have zn4 := n4.lt
            clear t0 t1
            have hA5 := hA4.below hb (Nat.le_refl _)
            have b5 := b4.below hb (Nat.le_refl _)
            have n5 := n4.below hb (Nat.le_refl _)
            have hB5 := hB4.trans (hb.mono hB4.size)
            clear hA4 b4 n4 hB4 hb
            obtain ⟨A5, c5, rfl, -, -, -, -, -⟩ := hown5.rd
            rw [List.length_map] at *
            have hB6 : Below w.heap.size w (W5.alloc (.cells #[.slice A5 xs.length c5, .int .i64 next] 24)) := hB5.alloc hB5.size _
            have b6 := b5.alloc (.cells #[.slice A5 xs.length c5, .int .i64 next] 24)
            have n6 := n5.alloc (.cells #[.slice A5 xs.length c5, .int .i64 next] 24)
            have m6 := Box.mk W5 [.slice A5 xs.length c5, .int .i64 next] 24
            have hown6 := hown5.alloc (.cells #[.slice A5 xs.length c5, .int .i64 next] 24)
            have z6 : W4.heap.size ≤ (W5.alloc (.cells #[.slice A5 xs.length c5, .int .i64 next] 24)).heap.size := by simp; omega
            have hlt6 : ∀ q, (Value.slice A5 xs.length c5).ownBlock = some q → W4.heap.size ≤ q ∧ q < W5.heap.size := fun q e => hown5.lt e
            clear b5 n5 hB5 hown5 hA5
            obtain ⟨t0, t1, -⟩ := b6.cells
            simp only [Nat.zero_add, Nat.add_zero, Nat.reduceAdd] at t0 t1
            obtain ⟨m0, m1, -⟩ := m6.cells
            simp only [Nat.zero_add, Nat.add_zero, Nat.reduceAdd] at m0 m1
            have k5 : -9223372036854775808 ≤ next + 1 ∧ next + 1 ≤ 9223372036854775807 := by have := hn.1; omega
            have HO6 := Lib.hid hown6
            have hself := Below.refl W4.heap.size (W5.alloc (.cells #[.slice A5 xs.length c5, .int .i64 next] 24))
            have hp0 : (xs.map Grp.cells).length ≤ 1099511627776 := by rw [List.length_map]; omega
            have b6' := b6.alloc (.cells #[.int .i64 next, .int .i64 p, .string s, .int .i64 0, .int .i64 0, .int .i64 0] 54)
            have n6' := n6.alloc (.cells #[.int .i64 next, .int .i64 p, .string s, .int .i64 0, .int .i64 0, .int .i64 0] 54)
            have m6' := m6.alloc (.cells #[.int .i64 next, .int .i64 p, .string s, .int .i64 0, .int .i64 0, .int .i64 0] 54)
            go_wp2_with (at_builtin; refine app1 siNode (Grp.cells ⟨next, p, s, 0, 0, 0⟩) rfl _ _ rfl rfl rfl HO6.out (by simp) rfl rfl hp0 (by omega) z6 hself ?_; intro v7 w7 hown7 hB7 hg7 hat7; have b7 := b6'.grown hg7 (fun e => by have := (hlt6 _ e.symm).1; omega); have n7 := n6'.grown hg7 (fun e => by have := (hlt6 _ e.symm).1; omega); have m7 := m6'.grown hg7 (fun e => by have := (hlt6 _ e.symm).2; omega); obtain ⟨A7, c7, rfl, -, -, -, -, -⟩ := hown7.rd; have hf7 := m7.fro; clear t0 t1 m0 m1; obtain ⟨t0, t1, -⟩ := b7.cells; obtain ⟨m0, m1, -⟩ := m7.cells; obtain ⟨z0, z1', -⟩ := n7.cells; have hfn := n7.fro; simp only [Nat.zero_add, Nat.add_zero, Nat.reduceAdd] at t0 t1 m0 m1 z0 z1')
            have hne1 : w.heap.size ≠ W5.heap.size := by omega
            have hne2 : w.heap.size + 1 ≠ W5.heap.size := by omega
            have b8 := (b7.setO (q := ⟨W5.heap.size, 0, none⟩) hne1 (.slice A7 (xs.length + 1) c7)).setO (q := ⟨W5.heap.size, 1, none⟩) hne1 (.int .i64 (next + 1))
            have n8 := (n7.setO (q := ⟨W5.heap.size, 0, none⟩) hne2 (.slice A7 (xs.length + 1) c7)).setO (q := ⟨W5.heap.size, 1, none⟩) hne2 (.int .i64 (next + 1))
            have m8 := (m7.set 0 (.slice A7 (xs.length + 1) c7)).set 1 (.int .i64 (next + 1))
            simp only [List.set_cons_zero, List.set_cons_succ] at m8
            have hB8 := ((hB6.trans (hB7.mono (by omega))).setCell (p := ⟨W5.heap.size, 0, none⟩) (show w.heap.size ≤ W5.heap.size by omega) (.slice A7 (xs.length + 1) c7)).setCell (p := ⟨W5.heap.size, 1, none⟩) (show w.heap.size ≤ W5.heap.size by omega) (.int .i64 (next + 1))
            have hsz7 := hB7.size
            have hq7 : (Value.slice A7 (xs.map Grp.cells ++ [Grp.cells ⟨next, p, s, 0, 0, 0⟩]).length c7).ownBlock ≠ some W5.heap.size := by
              intro e
              rcases hat7 with h | ⟨_, h⟩
              · have := (hlt6 _ (h.symm.trans e)).2; omega
              · have h2 := h.symm.trans e
                injection h2 with h2
                simp at h2
                try omega
            have hown8 := (hown7.setCell_other (a := ⟨W5.heap.size, 0, none⟩) hq7 (.slice A7 (xs.length + 1) c7)).setCell_other (a := ⟨W5.heap.size, 1, none⟩) hq7 (.int .i64 (next + 1))
            generalize hWx : World.setCell (World.setCell w7 _ _) _ _ = W8 at *
            clear hWx t0 t1 m0 m1 z0 z1' hf7 hfn b7 n7 m7 hown7 hq7 hB7 hat7 hg7 b6 n6 m6 b6' n6' m6' hB6 HO6 hself z6
            obtain ⟨t0, t1, -⟩ := b8.cells
            obtain ⟨m0, m1, -⟩ := m8.cells
            obtain ⟨z0, z1', -⟩ := n8.cells
            have hfn := n8.fro
            simp only [Nat.zero_add, Nat.add_zero, Nat.reduceAdd] at t0 t1 m0 m1 z0 z1'
            have hq8 : (Value.slice A7 (xs.map Grp.cells ++ [Grp.cells ⟨next, p, s, 0, 0, 0⟩]).length c7).ownBlock ≠ some (w.heap.size + 1) := fun e => by have := (hown8.lt e).1; omega
            have hown9 := ((hown8.setCell_other (a := ⟨w.heap.size + 1, 0, none⟩) hq8 (.slice A7 (xs.length + 1) c7)).setCell_other (a := ⟨w.heap.size + 1, 1, none⟩) hq8 (.int .i64 (next + 1))).base zz4
            have hB9 := (hB8.setCell (p := ⟨w.heap.size + 1, 0, none⟩) hle (.slice A7 (xs.length + 1) c7)).setCell (p := ⟨w.heap.size + 1, 1, none⟩) hle (.int .i64 (next + 1))
            have HO9 := Lib.hid hown9
            have HB9 := Lib.hid hB9
            clear hown9 hB9 hown8 hB8 hq8
            go_region
            go_wp2
            refine bodyPost_ret (results_box_tmp2 rfl _ _ rfl (((n8.set 0 _).set 1 _).drewN 1) Tryd.underlying24 rfl (by kernel_rfl)) rfl ?_
            exact ⟨_, by rw [HR.out]; rfl, by rw [HR.out, List.map_append]; simpa using HO9.out.drew, HB9.out.drew⟩

end Go.Proofs.YtmjnibofdpgacaaDoor
