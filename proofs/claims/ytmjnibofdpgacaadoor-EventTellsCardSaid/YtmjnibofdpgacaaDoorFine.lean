/-
  tree.root and tree.fine: which nodes can stand first, and which behind others.
-/
import Derived.Test.YtmjnibofdpgacaaDoorProg
import Derived.Test.YtmjnibofdpgacaaDoorTreeP
import Derived.Test.YtmjnibofdpgacaaDoorValid
import Derived.Deep.RegionHeld3
set_option linter.unusedSimpArgs false
set_option linter.unusedVariables false
namespace Go.Proofs.YtmjnibofdpgacaaDoor
open Go.RowKit Gc

set_option maxRecDepth 100000 in
set_option maxHeartbeats 1000000 in
theorem root_c (x : Grp) (w : World) :
    Calls Tryd.prog 75 #[.agg x.cells.toArray] w fun e w' => e = .returned (.bool (rootB x)) ∧ Below w.heap.size w w' := by
  simp only [Grp.cells]
  go_enter Tryd.func75, Tryd.ntmps75
  go_wp2
  all_goals go_ret
  all_goals refine ⟨ret_bool ?_, (Below.refl _ _).alloc (Nat.le_refl _) _⟩
  all_goals (simp [rootB] <;> simp_all)

set_option maxRecDepth 100000 in
set_option maxHeartbeats 1000000 in
theorem fine_c (A : Option Addr) (c : Nat) (xs : List Grp) (n : Grp) (w : World) (h : Rd w 6 A (xs.map Grp.cells)) (hl : xs.length ≤ 1048576) (h0 : 0 < xs.length) (hn : n.ok) :
    Calls Tryd.prog 76 #[.slice A xs.length c, .agg n.cells.toArray] w fun e w' => e = .returned (.bool (fineB xs n)) ∧ Below w.heap.size w w' := by
  have hlast : xs[xs.length - 1]? = some xs[xs.length - 1] := by simp <;> omega
  have hL := Lib.hid (show lastId xs = xs[xs.length - 1].id by
    unfold lastId
    rw [List.getLast?_eq_getElem?, hlast])
  have hW1 : Below w.heap.size w (w.alloc (.cells n.cells.toArray 54)) := (Below.refl _ _).alloc (Nat.le_refl _) _
  have hb := box_cells w n.cells 54
  have hrd := h.below hW1 (Nat.le_refl _)
  obtain ⟨b, o, rfl, hbs, hc⟩ := hrd.row (i := xs.length - 1) (c := xs[xs.length - 1].cells) (by rw [List.getElem?_map, hlast]; rfl)
  clear hlast h
  generalize xs[xs.length - 1] = z at *
  have hvp := Lib.hid (fun W => valid_c n.name W hn.1)
  have e3 : IntKind.i64.wrap ((xs.length : Int) - 1) = ((xs.length - 1 : Nat) : Int) := wrap_pred _ h0 (by omega)
  have e4 : ((xs.length - 1 : Nat) : Int) < (xs.length : Int) := by omega
  simp only [Grp.cells, CellsFrom, Nat.add_zero, Nat.zero_add, Nat.reduceAdd] at hc hb
  obtain ⟨b0, b1, b2, b3, b4, b5, -⟩ := hb
  obtain ⟨h0', -⟩ := hc
  have hsz : w.heap.size + 1 = (w.alloc (.cells n.cells.toArray 54)).heap.size := by simp
  simp only [Grp.cells] at hsz
  have Hsz := Lib.hid hsz
  clear hsz
  simp only [Grp.cells] at *
  go_enter Tryd.func76, Tryd.ntmps76
  go_wp2
  generalize hWx : w.alloc _ = W1 at *
  clear hWx
  have hwb : w.heap.size < W1.heap.size := by have := Hsz.out; omega
  by_cases hid : n.id ≤ z.id
  · have hfalse : fineB xs n = false := by
      simp only [fineB, headB, hL.out]
      rw [decide_eq_false (by omega)]
      rfl
    go_quiet (fail)
    go_wp2
    go_ret
    exact ⟨ret_bool hfalse.symm, drewN_below hW1 _⟩
  · have d1 : decide (n.id ≤ z.id) = false := decide_eq_false hid
    obtain ⟨ι, f, hf1, hf2, hf3⟩ := fam W1
    have hne : Nonempty ι := ⟨hf1.choose⟩
    have f0 : ∀ i, (f i).cell? ⟨w.heap.size, 0, none⟩ = some (.int .i64 n.id) := fun i => ((hf2 i).cell (p := ⟨w.heap.size, 0, none⟩) hwb).trans b0
    have f2 : ∀ i, (f i).cell? ⟨w.heap.size, 2, none⟩ = some (.string n.name) := fun i => ((hf2 i).cell (p := ⟨w.heap.size, 2, none⟩) hwb).trans b2
    have f4 : ∀ i, (f i).cell? ⟨w.heap.size, 4, none⟩ = some (.int .i64 n.kind) := fun i => ((hf2 i).cell (p := ⟨w.heap.size, 4, none⟩) hwb).trans b4
    have fz : ∀ i, (f i).cell? ⟨b, o + (xs.length - 1) * 6, none⟩ = some (.int .i64 z.id) := fun i => ((hf2 i).cell (p := ⟨b, _, none⟩) hbs).trans h0'
    have HF2 := Lib.hid hf2
    have HF3 := Lib.hid hf3
    have hd : headB xs n = (validB n.name && (n.kind == 0 || n.kind == 1)) := by
      simp only [headB, hL.out]
      rw [decide_eq_true (by omega)]
      rfl
    have Hd := Lib.hid hd
    have HR := Lib.hid hrd
    clear hd hL hf2 hf3 hrd
    have hv := fun i => fam_call HF2.out HF3.out (hvp.out (f i))
    cases hvb : validB n.name with
    | false =>
      have hfalse : fineB xs n = false := by simp only [fineB, Hd.out, hvb]; rfl
      rw [hvb] at hv
      have HF := Lib.hid hfalse
      have HV := Lib.hid hv
      clear hvb hfalse hv b0 b1 b2 b3 b4 b5 h0'
      refine wp_region_fam f hf1 (by kernel_rfl) (by kernel_rfl) ?_
      repeat (go_big_quiet_step ((go_at_call 79; exact HV.out _)))
      refine wpQuiet_nil ?_
      rintro _ ⟨i, rfl⟩
      go_wp2
      go_ret
      exact ⟨ret_bool HF.out.symm, hW1.trans ((HF2.out i).mono (by omega))⟩
    | true =>
      rw [hvb] at hv
      have HV := Lib.hid hv
      by_cases hk : n.kind = 0 ∨ n.kind = 1
      · have hd' : headB xs n = true := by rw [Hd.out, hvb]; simpa using hk
        have HD := Lib.hid hd'
        clear hd' Hd hvb hv b0 b3 b4 b5 h0'
        have k0 : (n.kind != 0) = false ∨ ((n.kind != 0) = true ∧ (n.kind != 1) = false) := by
          rcases hk with e | e <;> simp [e]
        refine wp_region_fam f hf1 (by kernel_rfl) (by kernel_rfl) ?_
        rcases k0 with k0 | ⟨k0, k1⟩
        all_goals
          repeat (go_big_quiet_step ((go_at_call 79; exact HV.out _)))
          refine wpQuiet_nil ?_
          rintro _ ⟨i, rfl⟩
          have hB2 := HF2.out i
          clear f0 f2 f4 fz hf1 hid d1 e3 e4
          generalize f i = W2 at *
          go_wp2
          go_loopw [5, 36] (fun v5 i wr => ∃ k : Nat, k ≤ xs.length ∧ i = .int .i64 k ∧ v5 = .bool ((xs.take k).any (fun x => x.id == n.parent)) ∧ Hid ((xs.take k).any (dupB n) = false) ∧ Below W1.heap.size W1 wr) (fun _ i _ => xs.length - (intOf i).toNat)
          case atStart => exact ⟨0, Nat.zero_le _, rfl, rfl, rfl, hB2⟩
          case round =>
            obtain ⟨k, hk', rfl, rfl, hdup, hB⟩ := hrel
            by_cases hlt : k < xs.length
            · obtain ⟨b', o', e, hbs', hc⟩ := (HR.out.below hB (Nat.le_refl _)).row (i := k) (c := xs[k].cells) (by simp [hlt])
              simp only [Option.some.injEq, Addr.mk.injEq, and_true] at e
              obtain ⟨rfl, rfl⟩ := e
              simp only [Grp.cells, CellsFrom, Nat.add_zero, Nat.reduceAdd] at hc
              obtain ⟨g0, g1, g2, g3, g4, g5, -⟩ := hc
              have hp1 : wr.cell? ⟨w.heap.size, 1, none⟩ = some (.int .i64 n.parent) := (hB.cell (p := ⟨w.heap.size, 1, none⟩) hwb).trans b1
              have hp2 : wr.cell? ⟨w.heap.size, 2, none⟩ = some (.string n.name) := (hB.cell (p := ⟨w.heap.size, 2, none⟩) hwb).trans b2
              have hwr : w.heap.size < wr.heap.size := by have := hB.size; omega
              have HA := Lib.hid (any_snoc (p := fun x => x.id == n.parent) hlt)
              have HD2 := Lib.hid (any_snoc (p := dupB n) hlt)
              have hlti : (k : Int) < (xs.length : Int) := by omega
              cases q1 : (xs[k].parent == n.parent) with
              | false =>
                have HE := Lib.hid (show dupB n xs[k] = false by simp only [dupB, q1]; rfl)
                cases hb : (xs.take k).any (fun x => x.id == n.parent) with
                | false =>
                  have HBB := Lib.hid hb
                  clear hb
                  go_wp2
                  go_roundw
                  case rel => exact ⟨k + 1, by omega, by go_num, by rw [HA.out, HBB.out]; rfl, (show _ = _ by rw [HD2.out, hdup.out, HE.out]; rfl), hB.alloc hB.size _⟩
                  case measure => simp [intOf]; omega
                | true =>
                  have HBB := Lib.hid hb
                  clear hb
                  go_wp2
                  go_roundw
                  case rel => exact ⟨k + 1, by omega, by go_num, by rw [HA.out, HBB.out]; rfl, (show _ = _ by rw [HD2.out, hdup.out, HE.out]; rfl), hB.alloc hB.size _⟩
                  case measure => simp [intOf]; omega
              | true =>
                cases q2 : (xs[k].name.toList == n.name.toList) with
                | false =>
                  have HE := Lib.hid (show dupB n xs[k] = false by simp only [dupB, q2, Bool.and_false])
                  cases hb : (xs.take k).any (fun x => x.id == n.parent) with
                  | false =>
                    have HBB := Lib.hid hb
                    clear hb
                    go_wp2
                    go_roundw
                    case rel => exact ⟨k + 1, by omega, by go_num, by rw [HA.out, HBB.out]; rfl, (show _ = _ by rw [HD2.out, hdup.out, HE.out]; rfl), hB.alloc hB.size _⟩
                    case measure => simp [intOf]; omega
                  | true =>
                    have HBB := Lib.hid hb
                    clear hb
                    go_wp2
                    go_roundw
                    case rel => exact ⟨k + 1, by omega, by go_num, by rw [HA.out, HBB.out]; rfl, (show _ = _ by rw [HD2.out, hdup.out, HE.out]; rfl), hB.alloc hB.size _⟩
                    case measure => simp [intOf]; omega
                | true =>
                  have HE := Lib.hid (show fineB xs n = false by
                    have : xs.any (dupB n) = true := any_of_at hlt (by simp only [dupB, q1, q2, Bool.and_true])
                    simp only [fineB, this, Bool.not_true, Bool.false_and, Bool.and_false])
                  cases hb : (xs.take k).any (fun x => x.id == n.parent) with
                  | false =>
                    clear hb
                    go_wp2
                    go_ret
                    exact ⟨ret_bool HE.out.symm, hW1.trans ((hB.alloc hB.size _).mono (by omega))⟩
                  | true =>
                    clear hb
                    go_wp2
                    go_ret
                    exact ⟨ret_bool HE.out.symm, hW1.trans ((hB.alloc hB.size _).mono (by omega))⟩
            · have hkl : k = xs.length := by omega
              subst hkl
              have HE := Lib.hid (show fineB xs n = xs.any (fun x => x.id == n.parent) by
                have := hdup.out
                rw [List.take_length] at this
                simp only [fineB, HD.out, this, Bool.not_false, Bool.true_and])
              rw [List.take_length]
              go_wp2
              go_ret
              exact ⟨ret_bool HE.out.symm, hW1.trans (hB.mono (by omega))⟩
      · have k0 : (n.kind != 0) = true := by rw [bne_iff_ne]; omega
        have k1 : (n.kind != 1) = true := by rw [bne_iff_ne]; omega
        have hfalse : fineB xs n = false := by
          simp only [fineB, Hd.out]
          rw [show (n.kind == 0) = false from by rw [beq_eq_false_iff_ne]; omega, show (n.kind == 1) = false from by rw [beq_eq_false_iff_ne]; omega]
          simp
        have HF := Lib.hid hfalse
        clear hvb hfalse hv b0 b1 b2 b3 b4 b5 h0'
        refine wp_region_fam f hf1 (by kernel_rfl) (by kernel_rfl) ?_
        repeat (go_big_quiet_step ((go_at_call 79; exact HV.out _)))
        refine wpQuiet_nil ?_
        rintro _ ⟨i, rfl⟩
        go_wp2
        go_ret
        exact ⟨ret_bool HF.out.symm, hW1.trans ((HF2.out i).mono (by omega))⟩

end Go.Proofs.YtmjnibofdpgacaaDoor
