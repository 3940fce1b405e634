/-
  law37.sane.
-/
import Derived.Test.YtmjnibofdpgacaaDoorEvSmall
import Derived.Test.YtmjnibofdpgacaaDoorSameInt
import Derived.Deep.RegionHeld3
set_option linter.unusedSimpArgs false
set_option linter.unusedVariables false
namespace Go.Proofs.YtmjnibofdpgacaaDoor
open Go.RowKit Gc

set_option maxRecDepth 100000 in
set_option maxHeartbeats 4000000 in
theorem sane37_c (w : World) : Calls Tryd.prog 16 #[] w fun e w' => e = .returned (.bool true) ∧ Below w.heap.size w w' := by
  go_enter Tryd.func16, Tryd.ntmps16
  go_wp2_with fail
  refine (small_c w).mono ?_
  rintro e W1 ⟨a, rfl, hA1, hB1⟩
  have bx := Box.mk W1 [.slice (some a) 3 3, .int .i64 4] 24
  have hBx : Below w.heap.size w (W1.alloc (.cells #[.slice (some a) 3 3, .int .i64 4] 24)) := hB1.alloc hB1.size _
  have hA2 := hA1.alloc (.cells #[.slice (some a) 3 3, .int .i64 4] 24)
  clear hA1 hB1
  go_wp2_with fail
  generalize hWx : W1.alloc _ = W2 at *
  clear hWx
  obtain ⟨t0, t1, -⟩ := bx.cells
  simp only [Nat.zero_add, Nat.add_zero, Nat.reduceAdd] at t0 t1
  have zb := bx.lt
  have hself : Below W2.heap.size W2 W2 := Below.refl _ _
  have HNew := Lib.hid (fun W (hW : Below W2.heap.size W2 W) => evNew_c (some a) 3 smallX 4 W (hA2.below hW (Nat.le_refl _)) small_ok (by decide) (by decide))
  have HAdd := Lib.hid (fun W (hW : Below W2.heap.size W2 W) D e hD hn => evAdd_c (some a) 3 smallX 4 D e (sS 0 0) 3 4 2 W (hA2.below hW (Nat.le_refl _)) small_ok (by decide) (by decide) hD hn (by decide))
  rw [small_new] at HNew
  rw [sS_add0] at HAdd
  go_region_held3 (fun W => W.cell? ⟨W1.heap.size, 0, none⟩ = some (.slice (some a) 3 3) ∧ W.cell? ⟨W1.heap.size, 1, none⟩ = some (.int .i64 4) ∧ Below W2.heap.size W2 W)
    (first
      | exact hself.drew
      | exact hx4
      | exact hx3
      | exact ⟨t0, t1, hself.drew⟩
      | exact ⟨(hx4.cell (p := ⟨W1.heap.size, 0, none⟩) zb).trans t0, (hx4.cell (p := ⟨W1.heap.size, 1, none⟩) zb).trans t1, hx4⟩
      | exact ⟨(hx3.cell (p := ⟨W1.heap.size, 0, none⟩) zb).trans t0, (hx3.cell (p := ⟨W1.heap.size, 1, none⟩) zb).trans t1, hx3⟩
      | go_keep)
    ((first
      | (go_at_call 12; go_split_ands; refine (HNew.out _ (by assumption)).mono ?_; rintro e w3 ⟨v3, rfl, hown30, hb3⟩; have hx3 := below_step (w0 := W2) (by assumption) hb3; have hown3 := own_step (w0 := W2) (by assumption) hown30; clear hown30 hb3; obtain ⟨g3, c3, rfl, hle3, -, -, -, -, hrd3⟩ := hown3.open' (by decide))
      | (go_at_call 11; go_split_ands; refine (HAdd.out _ (by assumption) _ _ hrd3 (fun e => by cases e)).mono ?_; rintro e w4 ⟨v4, rfl, hown40, hb4⟩; have hx4 := below_step (w0 := W2) (by assumption) hb4; have hown4 := own_step (w0 := W2) (by assumption) hown40; clear hown40 hb4)))
  have hA3 := hA2.below hx4 (Nat.le_refl _)
  have bx3 := bx.below hx4 (Nat.le_refl _)
  have hB3 := hBx.trans (hx4.mono hBx.size)
  clear hA2 bx hBx hself HNew HAdd hx3 t0 t1 hown3 hrd3 hx4 zb
  obtain ⟨g4, c4, rfl, hle4, -, -, -, -, hrd4⟩ := hown4.open' (by decide)
  clear hown4
  simp only [sS, List.map_cons, List.map_nil, List.length_cons, List.length_nil, Nat.zero_add, Nat.reduceAdd] at hle4 ⊢
  obtain ⟨t0, t1, -⟩ := bx3.cells
  simp only [Nat.zero_add, Nat.add_zero, Nat.reduceAdd] at t0 t1
  go_wp2_with fail
  have hF := evAdd_c (some a) 3 smallX 4 _ c4 (sS 0 2) 2 4 1 w4 hA3 small_ok (by decide) (by decide) hrd4 (fun e => by cases e) (by decide)
  rw [sS_add1] at hF
  refine hF.mono ?_
  rintro e W4 ⟨v5, rfl, hown5, hb⟩
  clear hF
  have hA4 := hA3.below hb (Nat.le_refl _)
  have bx4 := bx3.below hb (Nat.le_refl _)
  have hB4 := hB3.trans (hb.mono hB3.size)
  clear hA3 bx3 hB3 hb t0 t1 hrd4
  obtain ⟨g5, c5, rfl, hle5, -, -, -, -, hrd5⟩ := hown5.open' (by decide)
  clear hown5
  simp only [sS, List.map_cons, List.map_nil, List.length_cons, List.length_nil, Nat.zero_add, Nat.reduceAdd] at hle5 ⊢
  obtain ⟨t0, t1, -⟩ := bx4.cells
  simp only [Nat.zero_add, Nat.add_zero, Nat.reduceAdd] at t0 t1
  go_wp2_with fail
  have hF := evTotal_c (some a) 3 smallX 4 _ c5 (sS 1 2) 2 4 W4 hA4 small_ok (by decide) (by decide) hrd5 (by decide)
  rw [sS_tot] at hF
  refine hF.mono ?_
  rintro e W5 ⟨rfl, hb⟩
  clear hF
  have hA5 := hA4.below hb (Nat.le_refl _)
  have bx5 := bx4.below hb (Nat.le_refl _)
  have hB5 := hB4.trans (hb.mono hB4.size)
  have hl5 := hrd5.below hb (Nat.le_refl _)
  clear hA4 bx4 hB4 hb t0 t1 hrd5
  obtain ⟨t0, t1, -⟩ := bx5.cells
  simp only [Nat.zero_add, Nat.add_zero, Nat.reduceAdd] at t0 t1
  go_wp2_with fail
  have hF := evRemove_c (some a) 3 smallX 4 _ c5 (sS 1 2) 3 W5 hA5 small_ok (by decide) (by decide) hl5 (fun e => by cases e) (by decide)
  rw [sS_rem] at hF
  refine hF.mono ?_
  rintro e W6 ⟨v7, rfl, hown7, hb⟩
  clear hF
  have hA6 := hA5.below hb (Nat.le_refl _)
  have bx6 := bx5.below hb (Nat.le_refl _)
  have hB6 := hB5.trans (hb.mono hB5.size)
  have hl6 := hl5.below hb (Nat.le_refl _)
  clear hA5 bx5 hB5 hb t0 t1 hl5
  have hWw : Below W6.heap.size W6 (W6.alloc (.cells (([⟨2, 4, 0⟩] : List Wat).map Wat.cells).flatten.toArray 62)) := (Below.refl _ _).alloc (Nat.le_refl _) _
  have hE7 := rd_new W6 3 (([⟨2, 4, 0⟩] : List Wat).map Wat.cells) 62 (Wat.cells_len _)
  have hA7 := hA6.below hWw (Nat.le_refl _)
  have bx7 := bx6.below hWw (Nat.le_refl _)
  have hB7 := hB6.trans (hWw.mono hB6.size)
  have hl7 := hl6.below hWw (Nat.le_refl _)
  have hm7 := hown7.below hWw (Nat.le_refl _)
  obtain ⟨t0, t1, -⟩ := bx6.cells
  simp only [Nat.zero_add, Nat.add_zero, Nat.reduceAdd] at t0 t1
  clear hA6 bx6 hB6 hl6 hown7 hWw
  go_wp2_with fail
  have hF := evPoll_c (some a) 3 smallX 4 _ c5 (sS 1 2) _ 1 [⟨2, 4, 0⟩] _ hA7 small_ok (by decide) (by decide) hl7 (by decide) hE7 (fun e => by cases e) (by decide)
  rw [sS_poll] at hF
  refine hF.mono ?_
  rintro e W8 ⟨v8, v9, rfl, hown8, hown9, hb⟩
  clear hF
  have hA8 := hA7.below hb (Nat.le_refl _)
  have bx8 := bx7.below hb (Nat.le_refl _)
  have hB8 := hB7.trans (hb.mono hB7.size)
  have hl8 := hl7.below hb (Nat.le_refl _)
  have hm8 := hm7.below hb (Nat.le_refl _)
  clear hA7 bx7 hB7 hl7 hm7 hb t0 t1 hE7
  obtain ⟨t0, t1, -⟩ := bx8.cells
  simp only [Nat.zero_add, Nat.add_zero, Nat.reduceAdd] at t0 t1
  go_wp2_with fail
  have hF := evText01_c (some a) 3 smallX 4 _ c5 (sS 1 2) 2 W8 hA8 small_ok (by decide) (by decide) hl8 (by decide) sS_valid (by decide) sS_01
  rw [sS_text] at hF
  refine hF.mono ?_
  rintro e W9 ⟨rfl, hb⟩
  clear hF
  have hB9 := hB8.trans (hb.mono hB8.size)
  have hl9 := hl8.below hb (Nat.le_refl _)
  have hm9 := hm8.below hb (Nat.le_refl _)
  have hw9 := hown8.below hb (Nat.le_refl _)
  have ht9 := hown9.below hb (Nat.le_refl _)
  clear hA8 bx8 hB8 hl8 hm8 hown8 hown9 hb t0 t1
  go_wp2_with fail
  have hF := own_c _ c5 (sS 1 2) 2 4 W9 hl9 (by decide)
  rw [sS_own] at hF
  refine hF.mono ?_
  rintro e W10 ⟨rfl, hb⟩
  clear hF hl9
  have hB10 := hB9.trans (hb.mono hB9.size)
  have hm10 := hm9.below hb (Nat.le_refl _)
  have hw10 := hw9.below hb (Nat.le_refl _)
  have ht10 := ht9.below hb (Nat.le_refl _)
  clear hB9 hm9 hw9 ht9 hb
  obtain ⟨g7, c7, rfl, -, -, -, -, -, hrd7⟩ := hm10.open' (by decide)
  clear hm10
  simp only [List.map_cons, List.map_nil, List.length_cons, List.length_nil, Nat.zero_add, Nat.reduceAdd]
  go_wp2_with fail
  have hF := own_c _ c7 [⟨1, 0, 0, 0, 0, 0, 0⟩, ⟨2, 0, 0, 0, 0, 3, 0⟩] 2 4 W10 hrd7 (by decide)
  rw [sS_own2] at hF
  refine hF.mono ?_
  rintro e W11 ⟨rfl, hb⟩
  clear hF hrd7
  have hB11 := hB10.trans (hb.mono hB10.size)
  have hw11 := hw10.below hb (Nat.le_refl _)
  have ht11 := ht10.below hb (Nat.le_refl _)
  clear hB10 hw10 ht10 hb
  obtain ⟨g8, c8, rfl, -, -, -, hg8, -, hrd8⟩ := hw11.open' (by decide)
  obtain ⟨g9, c9, rfl, -, -, -, hg9, -, hrd9⟩ := ht11.open' (by decide)
  clear hw11 ht11
  simp only [List.map_cons, List.map_nil, List.length_cons, List.length_nil, Nat.zero_add, Nat.reduceAdd]
  go_wp2_with fail
  have hF := sameInt_c _ c9 [0] (some ⟨W11.heap.size, 0, none⟩) 1 [0] (W11.alloc (.cells (([0] : List Int).map icells).flatten.toArray 3)) (hrd9.alloc _) (rd_new W11 1 _ _ (by simp [icells])) (by decide) (by decide)
  rw [decide_eq_true rfl] at hF
  refine hF.mono ?_
  rintro e W12 ⟨rfl, hb⟩
  clear hF
  have hx := ((Below.refl W11.heap.size W11).alloc (Nat.le_refl _) (.cells (([0] : List Int).map icells).flatten.toArray 3)).trans (hb.mono (by simp))
  have hB12 := hB11.trans (hx.mono hB11.size)
  obtain ⟨b', o', e1, hbs, hc⟩ := (hrd8.below hx (Nat.le_refl _)).row (i := 0) (c := Wat.cells ⟨2, 4, 3⟩) rfl
  simp only [Option.some.injEq, Addr.mk.injEq, and_true] at e1
  obtain ⟨rfl, rfl⟩ := e1
  simp only [Wat.cells, CellsFrom, Nat.add_zero, Nat.zero_add, Nat.reduceAdd, Nat.zero_mul] at hc
  obtain ⟨d0, d1, d2, -⟩ := hc
  clear hB11 hrd8 hrd9 hb hx
  go_wp2
  go_ret
  exact ⟨rfl, hB12⟩

end Go.Proofs.YtmjnibofdpgacaaDoor
