/-
  EventLimits: the walk.
-/
import Derived.Test.YtmjnibofdpgacaaDoorSane37
import Derived.Test.YtmjnibofdpgacaaDoorRoll
import Derived.Laws.OwnMore
set_option linter.unusedSimpArgs false
set_option linter.unusedVariables false
namespace Go.Proofs.YtmjnibofdpgacaaDoor
open Go.RowKit Gc

set_option maxRecDepth 100000 in
set_option maxHeartbeats 4000000 in
theorem evLimits_c (n : Int) (w : World) : Calls Tryd.prog 3 #[.int .i64 n] w fun e w' => e = .returned (.bool true) ∧ Below w.heap.size w w' := by
  go_enter Tryd.func3, Tryd.ntmps3
  go_wp2_with fail
  refine (small_c w).mono ?_
  rintro e W1 ⟨a, rfl, hA1, hB1⟩
  have bx := (Box.mk W1 [.slice (some a) 3 3, .int .i64 4] 24).alloc (.cells #[.int .i64 n] 3)
  have hA2 := (hA1.alloc (.cells #[.slice (some a) 3 3, .int .i64 4] 24)).alloc (.cells #[.int .i64 n] 3)
  have hBx : Below w.heap.size w ((W1.alloc (.cells #[.slice (some a) 3 3, .int .i64 4] 24)).alloc (.cells #[.int .i64 n] 3)) := (hB1.alloc hB1.size _).alloc (by have := hB1.size; simp; omega) _
  have br := Box.mk (W1.alloc (.cells #[.slice (some a) 3 3, .int .i64 4] 24)) (([n].map icells).flatten) 3
  rw [show (W1.alloc (.cells #[.slice (some a) 3 3, .int .i64 4] 24)).heap.size = W1.heap.size + 1 from by simp] at br
  have hN : Rd ((W1.alloc (.cells #[.slice (some a) 3 3, .int .i64 4] 24)).alloc (.cells #[.int .i64 n] 3)) 1 (some ⟨W1.heap.size + 1, 0, none⟩) ([n].map icells) := rd_box br (by simp [icells])
  have hz1 : W1.heap.size + 1 < ((W1.alloc (.cells #[.slice (some a) 3 3, .int .i64 4] 24)).alloc (.cells #[.int .i64 n] 3)).heap.size := br.lt
  have zb0 : W1.heap.size < ((W1.alloc (.cells #[.slice (some a) 3 3, .int .i64 4] 24)).alloc (.cells #[.int .i64 n] 3)).heap.size := by omega
  clear br hA1 hB1
  go_wp2_with fail
  generalize hWx : (W1.alloc _).alloc _ = W2 at *
  clear hWx
  refine (roll_c (some ⟨W1.heap.size + 1, 0, none⟩) 1 [n] W2 hN (by intro b' e; cases e; exact hz1) (by simp) (by simp)).mono ?_
  rintro e W3 ⟨dd, rfl, hD, hd, hb⟩
  have hA3 := hA2.below hb (Nat.le_refl _)
  have bx3 := bx.below hb (Nat.le_refl _)
  have hB3 := hBx.trans (hb.mono hBx.size)
  have hW2 := hBx.size
  have zA : ∀ q, blk (some a) = some q → q < W2.heap.size := by
    intro q e
    obtain ⟨b', o', e', hlt, _⟩ := hA2.row (i := 0) (c := Grp.cells ⟨1, 0, ⟨#[]⟩, 0, 0, 0⟩) rfl
    cases e'
    cases e
    exact hlt
  clear hA2 bx hBx hb hN hz1
  go_wp2_with fail
  refine (next_c dd 1000 W3 hD (by decide)).mono ?_
  rintro e W4 ⟨x, rfl, hx0, hx1, -, -, hg⟩
  replace hx1 := hx1 (by decide)
  have hA4 := hA3.grown hg (fun q e h => by have := zA q e; cases h; omega)
  have bx4 := bx3.grown hg (by intro h; cases h; omega)
  have hB4 : Below w.heap.size w W4 := hB3.grown hg hB3.size (fun k e => by cases e; omega)
  clear hA3 bx3 hB3 hg hD hd zA hW2 zb0
  have Hx0 := Lib.hid hx0
  have Hx1 := Lib.hid hx1
  have h1 : (1099511627776 : Int) - x ≤ 1099511627776 := by omega
  have v1 : cntB (1099511627776 - x) = true := by simp [cntB]; omega
  have A1 := Lib.hid (show addE smallX 4 (sL 0 0) 3 2 (1099511627776 - x) = (sL 0 (1099511627776 - x), 0) by rw [sL_small 0 0 (by decide) (by decide) (by decide) (by decide), v1, if_neg (by simp), if_neg (by omega), Int.zero_add])
  clear v1
  obtain ⟨t0, t1, -⟩ := bx4.cells
  simp only [Nat.zero_add, Nat.add_zero, Nat.reduceAdd] at t0 t1
  have zb := bx4.lt
  have hself : Below W4.heap.size W4 W4 := Below.refl _ _
  have HNew := Lib.hid (fun W (hW : Below W4.heap.size W4 W) => evNew_c (some a) 3 smallX 4 W (hA4.below hW (Nat.le_refl _)) small_ok (by decide) (by decide))
  have HAdd := Lib.hid (show ∀ W, Below W4.heap.size W4 W → ∀ D e m, m = 1099511627776 - x → Rd W 7 D ((sL 0 0).map Tal.cells) → (D = none → e = 0) → Calls Tryd.prog 11 #[.agg #[.slice (some a) 3 3, .int .i64 4], .slice D 3 e, .int .i64 3, .int .i64 2, .int .i64 m] W fun e w' => ∃ v, e = .returned (.tuple #[v, .int .i64 0]) ∧
       Own w' W.heap.size 47 7 v ((sL 0 (1099511627776 - x)).map Tal.cells) ∧ Below W.heap.size W w' by
    intro W hW D e m hm hD hn
    have h := evAdd_c (some a) 3 smallX 4 D e (sL 0 0) 3 2 (1099511627776 - x) W (hA4.below hW (Nat.le_refl _)) small_ok (by decide) (by decide) hD hn (by simp [sL])
    rw [A1.out, ← hm] at h
    rw [← hm]
    exact h)
  rw [small_new] at HNew
  have HSub := Lib.hid (show -9223372036854775808 ≤ (1099511627776 : Int) - x ∧ (1099511627776 : Int) - x ≤ 9223372036854775807 by omega)
  clear h1 hx0 hx1
  go_wp2_with fail
  generalize hM : (1099511627776 : Int) = M at *
  go_region_held3 (fun W => W.cell? ⟨W1.heap.size, 0, none⟩ = some (.slice (some a) 3 3) ∧ W.cell? ⟨W1.heap.size, 1, none⟩ = some (.int .i64 4) ∧ Below W4.heap.size W4 W)
    (first
      | exact hself.drew
      | exact hx4
      | exact hx3
      | exact ⟨t0, t1, hself.drew⟩
      | exact ⟨(hx4.cell (p := ⟨W1.heap.size, 0, none⟩) zb).trans t0, (hx4.cell (p := ⟨W1.heap.size, 1, none⟩) zb).trans t1, hx4⟩
      | exact ⟨(hx3.cell (p := ⟨W1.heap.size, 0, none⟩) zb).trans t0, (hx3.cell (p := ⟨W1.heap.size, 1, none⟩) zb).trans t1, hx3⟩
      | go_keep)
    ((first
      | (go_at_call 12; go_split_ands; refine (HNew.out _ (by assumption)).mono ?_; rintro e w3 ⟨v3, rfl, hown30, hb3⟩; have hx3 := below_step (w0 := W4) (by assumption) hb3; have hown3 := own_step (w0 := W4) (by assumption) hown30; clear hown30 hb3; obtain ⟨g3, c3, rfl, hle3, -, -, -, -, hrd3⟩ := hown3.open' (by decide))
      | (go_at_call 11; go_split_ands; refine (HAdd.out _ (by assumption) _ _ _ (by first | rfl | exact wrap_in _ HSub.out.1 HSub.out.2) hrd3 (fun e => by cases e)).mono ?_; rintro e w4 ⟨v4, rfl, hown40, hb4⟩; have hx4 := below_step (w0 := W4) (by assumption) hb4; have hown4 := own_step (w0 := W4) (by assumption) hown40; clear hown40 hb4)))
  subst hM
  have hx0 := Hx0.out
  have hx1 := Hx1.out
  have v2 : cntB (x + 5) = true := by simp [cntB]; omega
  have v3 : cntB (x + 1) = true := by simp [cntB]; omega
  have v4 : cntB x = true := by simp [cntB]; omega
  have A2 := Lib.hid (show addE smallX 4 (sL 0 (1099511627776 - x)) 2 2 (x + 5) = (sL (x + 5) (1099511627776 - x), 0) by rw [sL_small2 0 _ (by decide) (by decide) (by omega) (by omega), v2, if_neg (by simp), if_neg (by omega), Int.zero_add])
  have A3 := Lib.hid (show addE smallX 4 (sL (x + 5) (1099511627776 - x)) 3 2 (x + 1) = ([], 7) by rw [sL_small _ _ (by omega) (by omega) (by omega) (by omega), v3, if_neg (by simp), if_pos (by omega)])
  have A4 := Lib.hid (show addE smallX 4 (sL (x + 5) (1099511627776 - x)) 3 2 x = (sL (x + 5) 1099511627776, 0) by rw [sL_small _ _ (by omega) (by omega) (by omega) (by omega), v4, if_neg (by simp), if_neg (by omega), show (1099511627776 : Int) - x + x = 1099511627776 from by omega])
  have A5 := Lib.hid (show remE smallX 4 (sL (x + 5) (1099511627776 - x)) 3 = ([⟨1, 0, 0, 0, 0, 0, 0⟩, ⟨2, 0, 0, 1099511627776, 0, 0, 0⟩], 0) by rw [sL_rem _ _ (by omega) (by omega) (by omega) (by omega), show min (x + 5 + (1099511627776 - x)) (1099511627776 : Int) = 1099511627776 from by omega])
  have A6 := Lib.hid (fun ws (h : ws.length ≤ 32) => sL_poll (x + 5) (1099511627776 - x) (by omega) (by omega) (by omega) (by omega) ws h)
  have A7 := Lib.hid (fun ws (h : ws.length = 33) => sL_poll33 (x + 5) (1099511627776 - x) (by omega) (by omega) (by omega) (by omega) ws h)
  clear v2 v3 v4
  have hA5 := hA4.below hx4 (Nat.le_refl _)
  have bx5 := bx4.below hx4 (Nat.le_refl _)
  have hB5 := hB4.trans (hx4.mono hB4.size)
  clear hA4 bx4 hB4 hself HNew HAdd hx3 t0 t1 hown3 hrd3 hx4 zb
  obtain ⟨g4, c4, rfl, hle4, -, -, -, -, hrd4⟩ := hown4.open' (by simp [sL])
  clear hown4
  simp only [sL, List.map_cons, List.map_nil, List.length_cons, List.length_nil, Nat.zero_add, Nat.reduceAdd] at hle4 ⊢
  obtain ⟨t0, t1, -⟩ := bx5.cells
  simp only [Nat.zero_add, Nat.add_zero, Nat.reduceAdd] at t0 t1
  go_wp2_with fail
  have hF := evAdd_c (some a) 3 smallX 4 _ c4 (sL 0 (1099511627776 - x)) 2 2 (x + 5) w4 hA5 small_ok (by decide) (by decide) hrd4 (fun e => by cases e) (by simp [sL])
  rw [A2.out] at hF
  refine hF.mono ?_
  rintro e W6 ⟨v6, rfl, hown6, hb⟩
  clear hF
  have hA6 := hA5.below hb (Nat.le_refl _)
  have bx6 := bx5.below hb (Nat.le_refl _)
  have hB6 := hB5.trans (hb.mono hB5.size)
  clear hA5 bx5 hB5 hb t0 t1 hrd4
  obtain ⟨g6, c6, rfl, hle6, -, -, -, -, hl6⟩ := hown6.open' (by simp [sL])
  clear hown6
  simp only [sL, List.map_cons, List.map_nil, List.length_cons, List.length_nil, Nat.zero_add, Nat.reduceAdd] at hle6 ⊢
  obtain ⟨t0, t1, -⟩ := bx6.cells
  simp only [Nat.zero_add, Nat.add_zero, Nat.reduceAdd] at t0 t1
  go_wp2_with fail
  have hF := evAdd_c (some a) 3 smallX 4 _ c6 (sL (x + 5) (1099511627776 - x)) 3 2 (x + 1) W6 hA6 small_ok (by decide) (by decide) hl6 (fun e => by cases e) (by simp [sL])
  rw [A3.out] at hF
  refine hF.mono ?_
  rintro e W7 ⟨v7, rfl, -, hb⟩
  clear hF
  have hA7 := hA6.below hb (Nat.le_refl _)
  have bx7 := bx6.below hb (Nat.le_refl _)
  have hB7 := hB6.trans (hb.mono hB6.size)
  have hl7 := hl6.below hb (Nat.le_refl _)
  clear hA6 bx6 hB6 hb t0 t1 hl6
  obtain ⟨t0, t1, -⟩ := bx7.cells
  simp only [Nat.zero_add, Nat.add_zero, Nat.reduceAdd] at t0 t1
  go_wp2_with fail
  have hF := evAdd_c (some a) 3 smallX 4 _ c6 (sL (x + 5) (1099511627776 - x)) 3 2 x W7 hA7 small_ok (by decide) (by decide) hl7 (fun e => by cases e) (by simp [sL])
  rw [A4.out] at hF
  refine hF.mono ?_
  rintro e W8 ⟨v8, rfl, hown8, hb⟩
  clear hF
  have hA8 := hA7.below hb (Nat.le_refl _)
  have bx8 := bx7.below hb (Nat.le_refl _)
  have hB8 := hB7.trans (hb.mono hB7.size)
  have hl8 := hl7.below hb (Nat.le_refl _)
  clear hA7 bx7 hB7 hb t0 t1 hl7
  obtain ⟨t0, t1, -⟩ := bx8.cells
  simp only [Nat.zero_add, Nat.add_zero, Nat.reduceAdd] at t0 t1
  go_wp2_with fail
  have hF := evRemove_c (some a) 3 smallX 4 _ c6 (sL (x + 5) (1099511627776 - x)) 3 W8 hA8 small_ok (by decide) (by decide) hl8 (fun e => by cases e) (by simp [sL])
  rw [A5.out] at hF
  refine hF.mono ?_
  rintro e W9 ⟨v9, rfl, hown9, hb⟩
  clear hF
  have hA9 := hA8.below hb (Nat.le_refl _)
  have bx9 := bx8.below hb (Nat.le_refl _)
  have hB9 := hB8.trans (hb.mono hB8.size)
  have hl9 := hl8.below hb (Nat.le_refl _)
  have hk9 := hown8.below hb (Nat.le_refl _)
  clear hA8 bx8 hB8 hb t0 t1 hl8 hown8
  obtain ⟨g8, c8, rfl, -, -, -, -, -, hk⟩ := hk9.open' (by simp [sL])
  obtain ⟨g9, c9, rfl, -, -, -, -, -, hm⟩ := hown9.open' (by decide)
  clear hk9 hown9
  simp only [sL, List.map_cons, List.map_nil, List.length_cons, List.length_nil, Nat.zero_add, Nat.reduceAdd]
  obtain ⟨_, _, ti, tz, hti, htz, hts, htb, htzs⟩ := siWat
  have hz99 : (madeCells (Value.agg #[.int .i64 0, .int .i64 0, .int .i64 0]).cells (33 * 3)).toList = ((List.replicate 33 (Wat.mk 0 0 0)).map Wat.cells).flatten := by kernel_rfl
  have htz' : tz = Value.agg #[.int .i64 0, .int .i64 0, .int .i64 0] := by
    have h : (Tryd.prog).info? 62 = some ti := hti
    have h2 : ((Tryd.prog).info? 62).bind (·.zero) = some (Value.agg #[.int .i64 0, .int .i64 0, .int .i64 0]) := by kernel_rfl
    rw [h] at h2
    simp only [Option.bind_some, htz, Option.some.injEq] at h2
    exact h2
  obtain ⟨W10, hmake, hrow, hg10⟩ := run_makeSlice_full (P := Tryd.prog) (w := W9) W9.heap.size 36 62 ti tz 3 Tryd.underlying36 hti htz hts .i64 .i64 33 (by decide) (by rw [htb]; decide) (by decide) (Nat.le_refl _)
  subst htz'
  rw [hz99] at hrow
  have hb10 : Below W9.heap.size W9 W10 := ⟨hg10.os, hg10.tape, hg10.output, hg10.size, fun i hi => hg10.block i hi (by simp)⟩
  have hownw : Own W10 W9.heap.size 62 3 (.slice (some ⟨W9.heap.size, 0, none⟩) 33 33) ((List.replicate 33 (Wat.mk 0 0 0)).map Wat.cells) := ⟨by simpa using hrow, Wat.cells_len _⟩
  obtain ⟨gw, cw, e1, -, -, -, hgw, -, hrw⟩ := hownw.open' (by simp)
  simp only [Value.slice.injEq, Option.some.injEq, Addr.mk.injEq, and_true] at e1
  obtain ⟨rfl, -, rfl⟩ := e1
  have hrw2 : Rd W10 3 (some ⟨W9.heap.size, 3, none⟩) ((List.replicate 32 (Wat.mk 0 0 0)).map Wat.cells) := by
    have h := hrw.cut (l := 1) (c := 33) (by simp)
    have hadd : (⟨W9.heap.size, 0, none⟩ : Addr).add (1 * 3) = ⟨W9.heap.size, 3, none⟩ := by unfold Addr.add; split <;> simp_all
    unfold cutA at h
    rw [if_neg (by decide), Option.map_some, hadd] at h
    exact h
  have hsl : ∀ W, (Instr.slice 36 (.slice (some ⟨W9.heap.size, 0, none⟩) 33 33) (some (.int .i64 1)) none none).run Tryd.prog W = .ok (.slice (some ⟨W9.heap.size, 3, none⟩) 32 32) W := fun W => by
    rw [cut_l siWat (some ⟨W9.heap.size, 0, none⟩) 33 33 1 (by decide) 1 rfl .i64 W]
    have hadd : (⟨W9.heap.size, 0, none⟩ : Addr).add (1 * 3) = ⟨W9.heap.size, 3, none⟩ := by unfold Addr.add; split <;> simp_all
    unfold cutA
    rw [if_neg (by decide), Option.map_some, hadd]
  have hA10 := hA9.below hb10 (Nat.le_refl _)
  have bx10 := bx9.below hb10 (Nat.le_refl _)
  have hB10 := hB9.trans (hb10.mono hB9.size)
  have hl10 := hl9.below hb10 (Nat.le_refl _)
  have hk10 := hk.below hb10 (Nat.le_refl _)
  have hm10 := hm.below hb10 (Nat.le_refl _)
  have hmake : ((Instr.makeSlice 36 (.int .i64 33) (.int .i64 33)).run Tryd.prog W9) = .ok (.slice (some ⟨W9.heap.size, 0, none⟩) 33 33) W10 := hmake
  clear hA9 bx9 hB9 hl9 hk hm hb10 hg10 hrow hownw hz99 hti htz hts htb htzs
  obtain ⟨t0, t1, -⟩ := bx10.cells
  simp only [Nat.zero_add, Nat.add_zero, Nat.reduceAdd] at t0 t1
  have zb := bx10.lt
  have hself : Below W10.heap.size W10 W10 := Below.refl _ _
  have HPoll := Lib.hid (show ∀ W, Below W10.heap.size W10 W → Calls Tryd.prog 14 #[.agg #[.slice (some a) 3 3, .int .i64 4], .slice (some ⟨g6, 0, none⟩) 3 c6, .slice (some ⟨W9.heap.size, 3, none⟩) 32 32] W fun e w' => ∃ v v', e = .returned (.tuple #[v, v', .int .i64 0]) ∧ Below W.heap.size W w' by
    intro W hW
    have h := evPoll_c (some a) 3 smallX 4 (some ⟨g6, 0, none⟩) c6 (sL (x + 5) (1099511627776 - x)) (some ⟨W9.heap.size, 3, none⟩) 32 (List.replicate 32 ⟨0, 0, 0⟩) W (hA10.below hW (Nat.le_refl _)) small_ok (by decide) (by decide) (hl10.below hW (Nat.le_refl _)) (by simp [sL]) (hrw2.below hW (Nat.le_refl _)) (fun e => by cases e) (by simp)
    rw [A6.out _ (by simp)] at h
    refine h.mono ?_
    rintro e w' ⟨v, v', he, -, -, hb⟩
    exact ⟨v, v', he, hb⟩)
  go_wp2_with fail
  go_region_held3 (fun W => W.cell? ⟨W1.heap.size, 0, none⟩ = some (.slice (some a) 3 3) ∧ W.cell? ⟨W1.heap.size, 1, none⟩ = some (.int .i64 4) ∧ Below W10.heap.size W10 W)
    (first
      | exact hself.drew
      | exact hx3
      | exact ⟨t0, t1, hself.drew⟩
      | exact ⟨(hx3.cell (p := ⟨W1.heap.size, 0, none⟩) zb).trans t0, (hx3.cell (p := ⟨W1.heap.size, 1, none⟩) zb).trans t1, hx3⟩
      | go_keep)
    ((go_at_call 14; go_split_ands; refine (HPoll.out _ (by assumption)).mono ?_; rintro e w3 ⟨v13, v14, rfl, hb3⟩; have hx3 := below_step (w0 := W10) (by assumption) hb3))
  have hA11 := hA10.below hx3 (Nat.le_refl _)
  have bx11 := bx10.below hx3 (Nat.le_refl _)
  have hB11 := hB10.trans (hx3.mono hB10.size)
  have hl11 := hl10.below hx3 (Nat.le_refl _)
  have hk11 := hk10.below hx3 (Nat.le_refl _)
  have hm11 := hm10.below hx3 (Nat.le_refl _)
  have hw11 := hrw.below hx3 (Nat.le_refl _)
  clear t0 t1 hself HPoll hrw2 hsl hmake hA10 bx10 hB10 hl10 hk10 hm10 hrw hx3 zb
  obtain ⟨t0, t1, -⟩ := bx11.cells
  simp only [Nat.zero_add, Nat.add_zero, Nat.reduceAdd] at t0 t1
  go_wp2_with fail
  have hF := evPoll_c (some a) 3 smallX 4 (some ⟨g6, 0, none⟩) c6 (sL (x + 5) (1099511627776 - x)) (some ⟨W9.heap.size, 0, none⟩) 33 (List.replicate 33 ⟨0, 0, 0⟩) w3 hA11 small_ok (by decide) (by decide) hl11 (by simp [sL]) hw11 (fun e => by cases e) (by simp)
  rw [A7.out _ (by simp)] at hF
  refine hF.mono ?_
  rintro e W12 ⟨v17, v18, rfl, -, -, hb⟩
  clear hF
  have hB12 := hB11.trans (hb.mono hB11.size)
  have hk12 := hk11.below hb (Nat.le_refl _)
  have hm12 := hm11.below hb (Nat.le_refl _)
  clear hA11 bx11 hB11 hl11 hk11 hm11 hw11 hb t0 t1
  go_wp2_with fail
  have hF := own_c _ c8 (sL (x + 5) 1099511627776) 3 2 W12 hk12 (by simp [sL])
  rw [sL_own3] at hF
  refine hF.mono ?_
  rintro e W13 ⟨rfl, hb⟩
  clear hF hk12
  have hB13 := hB12.trans (hb.mono hB12.size)
  have hm13 := hm12.below hb (Nat.le_refl _)
  clear hB12 hm12 hb
  go_wp2_with fail
  have hF := own_c _ c9 [⟨1, 0, 0, 0, 0, 0, 0⟩, ⟨2, 0, 0, 1099511627776, 0, 0, 0⟩] 2 2 W13 hm13 (by decide)
  rw [sL_own2] at hF
  refine hF.mono ?_
  rintro e W14 ⟨rfl, hb⟩
  clear hF hm13
  have hB14 := hB13.trans (hb.mono hB13.size)
  clear hB13 hb
  go_wp2_with fail
  refine (sane37_c W14).mono ?_
  rintro e W15 ⟨rfl, hb⟩
  have hB15 := hB14.trans (hb.mono hB14.size)
  go_wp2
  go_ret
  exact ⟨rfl, hB15⟩

end Go.Proofs.YtmjnibofdpgacaaDoor
