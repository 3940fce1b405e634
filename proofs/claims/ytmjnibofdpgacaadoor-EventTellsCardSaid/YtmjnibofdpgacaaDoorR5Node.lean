/-
  r5.node: 'nodeR'.
-/
import Derived.Test.YtmjnibofdpgacaaDoorProg
import Derived.Test.YtmjnibofdpgacaaDoorR5P
import Derived.Test.YtmjnibofdpgacaaDoorValid
import Derived.Test.YtmjnibofdpgacaaDoorBase
import Derived.BigQuiet
set_option linter.unusedSimpArgs false
set_option linter.unusedVariables false
namespace Go.Proofs.YtmjnibofdpgacaaDoor
open Go.RowKit Gc

set_option maxRecDepth 100000 in
set_option maxHeartbeats 4000000 in
theorem node_c (A : Option Addr) (c : Nat) (xs : List Grp) (next : Int) (i : Nat) (w : World) (hA : Rd w 6 A (xs.map Grp.cells)) (hok : ∀ x ∈ xs, x.ok) (hlA : xs.length ≤ 1048576) (hi : i < xs.length) :
    Calls Tryd.prog 74 #[.agg #[.slice A xs.length c, .int .i64 next], .int .i64 i] w fun e w' => e = .returned (.bool (nodeR xs i)) ∧ Below w.heap.size w w' := by
  have hB1 : Below w.heap.size w (w.alloc (.cells #[.slice A xs.length c, .int .i64 next] 24)) := (Below.refl _ _).alloc (Nat.le_refl _) _
  have hA1 := hA.below hB1 (Nat.le_refl _)
  have b1 := Box.mk w [.slice A xs.length c, .int .i64 next] 24
  have hR := Lib.hid (show nodeR xs i = (kindR xs[i] && (ctlB xs[i] && (if i = 0 then rootB xs[i] else fineB (xs.take i) xs[i]))) by unfold nodeR; rw [List.getElem?_eq_getElem hi])
  have hnok := hok _ (List.getElem_mem hi)
  obtain ⟨b, o, rfl, hbs, hc⟩ := hA1.row (i := i) (c := xs[i].cells) (map_at _ hi)
  have hii : (i : Int) < (xs.length : Int) := by omega
  generalize hx : xs[i] = n at *
  clear hx
  obtain ⟨ni, np, nn, nc, nk, no⟩ := n
  have hW2 : Below w.heap.size w ((w.alloc (.cells #[.slice (some ⟨b, o, none⟩) xs.length c, .int .i64 next] 24)).alloc (.cells #[.int .i64 ni, .int .i64 np, .string nn, .int .i64 nc, .int .i64 nk, .int .i64 no] 54)) := hB1.alloc (by simp) _
  have hA2 := hA1.alloc (.cells #[.int .i64 ni, .int .i64 np, .string nn, .int .i64 nc, .int .i64 nk, .int .i64 no] 54)
  have b2 := b1.alloc (.cells #[.int .i64 ni, .int .i64 np, .string nn, .int .i64 nc, .int .i64 nk, .int .i64 no] 54)
  have b3 := Box.mk (w.alloc (.cells #[.slice (some ⟨b, o, none⟩) xs.length c, .int .i64 next] 24)) [.int .i64 ni, .int .i64 np, .string nn, .int .i64 nc, .int .i64 nk, .int .i64 no] 54
  rw [show (w.alloc (.cells #[.slice (some ⟨b, o, none⟩) xs.length c, .int .i64 next] 24)).heap.size = w.heap.size + 1 from by simp] at b3
  obtain ⟨x0, x1, x2, x3, x4, x5, -⟩ := b3.cells
  simp only [Nat.zero_add, Nat.add_zero, Nat.reduceAdd] at x0 x1 x2 x3 x4 x5
  have hbs2 : b < ((w.alloc (.cells #[.slice (some ⟨b, o, none⟩) xs.length c, .int .i64 next] 24)).alloc (.cells #[.int .i64 ni, .int .i64 np, .string nn, .int .i64 nc, .int .i64 nk, .int .i64 no] 54)).heap.size := by simp at hbs ⊢; omega
  simp only [Grp.cells, CellsFrom, Nat.add_zero, Nat.zero_add, Nat.reduceAdd] at hc
  obtain ⟨c0, c1, c2, c3, c4, c5, -⟩ := hc
  clear hA hA1 b1 hB1
  by_cases hk : nk = 0 ∨ nk = 1
  · have hR := Lib.hid (show nodeR xs i = (ctlB ⟨ni, np, nn, nc, nk, no⟩ && (if i = 0 then rootB ⟨ni, np, nn, nc, nk, no⟩ else fineB (xs.take i) ⟨ni, np, nn, nc, nk, no⟩)) by
      rw [hR.out, show kindR ⟨ni, np, nn, nc, nk, no⟩ = true from by simpa [kindR] using hk]; rfl)
    rcases hk with rfl | rfl
    · by_cases g1 : nc < 0
      · have HR := Lib.hid (show nodeR xs i = false by rw [hR.out, show ctlB ⟨ni, np, nn, nc, 0, no⟩ = false from by simp [ctlB]; intros; omega]; rfl)
        clear hR
        go_enter Tryd.func74, Tryd.ntmps74
        go_wp2
        go_ret
        exact ⟨ret_bool HR.out.symm, hW2⟩
      by_cases g2 : 31 < nc
      · have HR := Lib.hid (show nodeR xs i = false by rw [hR.out, show ctlB ⟨ni, np, nn, nc, 0, no⟩ = false from by simp [ctlB]; intros; omega]; rfl)
        clear hR
        go_enter Tryd.func74, Tryd.ntmps74
        go_wp2
        go_ret
        exact ⟨ret_bool HR.out.symm, hW2⟩
      by_cases g3 : no < 0
      · have HR := Lib.hid (show nodeR xs i = false by rw [hR.out, show ctlB ⟨ni, np, nn, nc, 0, no⟩ = false from by simp [ctlB]; intros; omega]; rfl)
        clear hR
        go_enter Tryd.func74, Tryd.ntmps74
        go_wp2
        go_ret
        exact ⟨ret_bool HR.out.symm, hW2⟩
      by_cases g4 : 1048576 < no
      · have HR := Lib.hid (show nodeR xs i = false by rw [hR.out, show ctlB ⟨ni, np, nn, nc, 0, no⟩ = false from by simp [ctlB]; intros; omega]; rfl)
        clear hR
        go_enter Tryd.func74, Tryd.ntmps74
        go_wp2
        go_ret
        exact ⟨ret_bool HR.out.symm, hW2⟩
      have hR := Lib.hid (show nodeR xs i = if i = 0 then rootB ⟨ni, np, nn, nc, 0, no⟩ else fineB (xs.take i) ⟨ni, np, nn, nc, 0, no⟩ by
        rw [hR.out, show ctlB ⟨ni, np, nn, nc, 0, no⟩ = true from by simp [ctlB]; omega]; rfl)
      by_cases g5 : i = 0
      · have HR := Lib.hid (show nodeR xs i = rootB ⟨ni, np, nn, nc, 0, no⟩ by rw [hR.out, if_pos g5])
        have g6 : ((i : Int) == 0) = true := by simp; omega
        clear hR g5
        go_enter Tryd.func74, Tryd.ntmps74
        go_wp2
        all_goals go_ret
        all_goals refine ⟨ret_bool (Eq.trans ?_ HR.out.symm), ((Below.refl w.heap.size w).alloc (Nat.le_refl _) _).alloc (by simp) _⟩
        all_goals (simp [rootB] <;> simp_all)
      · have HR := Lib.hid (show nodeR xs i = fineB (xs.take i) ⟨ni, np, nn, nc, 0, no⟩ by rw [hR.out, if_neg g5])
        clear hR
        have g6 : ((i : Int) == 0) = false := by simp; omega
        have hi1 : i - 1 < xs.length := by omega
        have hpi : (((i - 1 : Nat)) : Int) < (xs.length : Int) := by omega
        have hwi : IntKind.i64.wrap ((i : Int) - 1) = ((i - 1 : Nat) : Int) := wrap_pred _ (by omega) (by omega)
        have HL := Lib.hid (show lastId (xs.take i) = xs[i - 1].id by have := lastId_take xs (i - 1) hi1; rwa [show i - 1 + 1 = i from by omega] at this)
        obtain ⟨b', o', e1, _, hp⟩ := hA2.row (i := i - 1) (c := xs[i - 1].cells) (map_at _ hi1)
        simp only [Option.some.injEq, Addr.mk.injEq, and_true] at e1
        obtain ⟨rfl, rfl⟩ := e1
        simp only [Grp.cells, CellsFrom, Nat.add_zero, Nat.zero_add, Nat.reduceAdd] at hp
        obtain ⟨pz, -⟩ := hp
        generalize xs[i - 1].id = zid at *
        obtain ⟨t0, t1, -⟩ := b2.cells
        simp only [Nat.zero_add, Nat.add_zero, Nat.reduceAdd] at t0 t1
        have zb := b2.lt
        have zn := b3.lt
        go_enter Tryd.func74, Tryd.ntmps74
        go_wp2_with fail
        generalize hWx : World.alloc (World.alloc w _) _ = W1 at *
        clear hWx c0 c1 c2 c3 c4 c5 b2 b3
        by_cases g7 : ni ≤ zid
        · have HR := Lib.hid (show nodeR xs i = false by rw [HR.out]; simp only [fineB, headB, HL.out]; rw [decide_eq_false (by omega)]; rfl)
          go_quiet (fail)
          go_wp2
          go_ret
          exact ⟨ret_bool HR.out.symm, drewN_below hW2 _⟩
        · have d1 : decide (ni ≤ zid) = false := decide_eq_false g7
          obtain ⟨ι, f, hf1, hf2, hf3⟩ := fam W1
          have hne : Nonempty ι := ⟨hf1.choose⟩
          have f0 : ∀ i', (f i').cell? ⟨w.heap.size, 0, none⟩ = some (.slice (some ⟨b, o, none⟩) xs.length c) := fun i' => ((hf2 i').cell (p := ⟨w.heap.size, 0, none⟩) zb).trans t0
          have f1 : ∀ i', (f i').cell? ⟨w.heap.size + 1, 0, none⟩ = some (.int .i64 ni) := fun i' => ((hf2 i').cell (p := ⟨w.heap.size + 1, 0, none⟩) zn).trans x0
          have f2 : ∀ i', (f i').cell? ⟨w.heap.size + 1, 2, none⟩ = some (.string nn) := fun i' => ((hf2 i').cell (p := ⟨w.heap.size + 1, 2, none⟩) zn).trans x2
          have fz : ∀ i', (f i').cell? ⟨b, o + (i - 1) * 6, none⟩ = some (.int .i64 zid) := fun i' => ((hf2 i').cell (p := ⟨b, o + (i - 1) * 6, none⟩) hbs2).trans pz
          have HF2 := Lib.hid hf2
          have HF3 := Lib.hid hf3
          have HV := Lib.hid (fun i' => fam_call_same (f := f) (i := i') ((rvalid_c nn (f i') hnok.1).mono (fun _ _ h => h)))
          have hd := Lib.hid (show fineB (xs.take i) ⟨ni, np, nn, nc, 0, no⟩ = (validB nn && (!(xs.take i).any (dupB ⟨ni, np, nn, nc, 0, no⟩) && (xs.take i).any (fun x => x.id == np))) by
            simp only [fineB, headB, HL.out]
            rw [decide_eq_true (by omega)]
            simp)
          cases hvb : validB nn with
          | false =>
            have HR := Lib.hid (show nodeR xs i = false by rw [HR.out, hd.out, hvb]; rfl)
            rw [hvb] at HV
            clear hvb hf2 hf3 hd
            refine wp_region_fam f hf1 (by kernel_rfl) (by kernel_rfl) ?_
            repeat (go_big_quiet_step ((go_at_call 65; exact HV.out _)))
            refine wpQuiet_nil ?_
            rintro _ ⟨i', rfl⟩
            go_wp2
            go_ret
            exact ⟨ret_bool HR.out.symm, hW2.trans ((HF2.out i').mono (by omega))⟩
          | true =>
            have HR := Lib.hid (show nodeR xs i = (!(xs.take i).any (dupB ⟨ni, np, nn, nc, 0, no⟩) && (xs.take i).any (fun x => x.id == np)) by rw [HR.out, hd.out, hvb]; rfl)
            rw [hvb] at HV
            clear hvb hf2 hf3 hd
            refine wp_region_fam f hf1 (by kernel_rfl) (by kernel_rfl) ?_
            repeat (go_big_quiet_step ((go_at_call 65; exact HV.out _)))
            refine wpQuiet_nil ?_
            rintro _ ⟨i', rfl⟩
            have hB2 := HF2.out i'
            clear f0 f1 f2 fz hf1
            generalize f i' = W2 at *
            have hwsz : w.heap.size ≤ W1.heap.size := by omega
            have y0 := (hB2.cell (p := ⟨w.heap.size + 1, 1, none⟩) zn).trans x1
            have y2 := (hB2.cell (p := ⟨w.heap.size + 1, 2, none⟩) zn).trans x2
            have s0 := (hB2.cell (p := ⟨w.heap.size, 0, none⟩) zb).trans t0
            have hA3 := hA2.below hB2 (Nat.le_refl _)
            have hsz2 := hB2.size
            clear hA2 x0 x1 x2 x3 x4 x5 t0 t1 pz
            go_wp2
            go_loopw [6, 7] (fun fd i2 wr => ∃ k : Nat, k ≤ i ∧ i2 = .int .i64 k ∧ fd = .bool ((xs.take k).any (fun x => x.id == np)) ∧ Hid ((xs.take k).any (dupB ⟨ni, np, nn, nc, 0, no⟩) = false) ∧ Below W2.heap.size W2 wr)
              (fun _ i2 _ => i - (intOf i2).toNat)
            case atStart => exact ⟨0, Nat.zero_le _, rfl, rfl, rfl, Below.refl _ _⟩
            case round =>
              obtain ⟨k, hk, rfl, rfl, hdup, hB⟩ := hrel
              have hBr := hW2.trans ((hB2.mono hwsz).trans (hB.mono (by omega)))
              by_cases hlt : k < i
              · have hlx : k < xs.length := by omega
                have hki : (k : Int) < (i : Int) := by omega
                have hki2 : (k : Int) < (xs.length : Int) := by omega
                have HA := Lib.hid (any_snoc (p := fun x => x.id == np) hlx)
                have HD2 := Lib.hid (any_snoc (p := dupB ⟨ni, np, nn, nc, 0, no⟩) hlx)
                have HT := Lib.hid (fun h : (xs.take (k + 1)).any (dupB ⟨ni, np, nn, nc, 0, no⟩) = true => (show (xs.take i).any (dupB ⟨ni, np, nn, nc, 0, no⟩) = true by
                  obtain ⟨z, hz, hz2⟩ := List.any_eq_true.1 h
                  have hpre : (xs.take (k + 1)) = (xs.take i).take (k + 1) := by rw [List.take_take, Nat.min_eq_left (by omega)]
                  rw [hpre] at hz
                  exact List.any_eq_true.2 ⟨z, List.mem_of_mem_take hz, hz2⟩))
                obtain ⟨b', o', e1, _, hc⟩ := (hA3.below hB (Nat.le_refl _)).row (i := k) (c := xs[k].cells) (map_at _ hlx)
                simp only [Option.some.injEq, Addr.mk.injEq, and_true] at e1
                obtain ⟨rfl, rfl⟩ := e1
                simp only [Grp.cells, CellsFrom, Nat.add_zero, Nat.zero_add, Nat.reduceAdd] at hc
                obtain ⟨g0, g1, g2, -⟩ := hc
                generalize xs[k] = z at *
                obtain ⟨zi, zp, zn', zc, zk, zo⟩ := z
                simp only at *
                have q0 := (hB.cell (p := ⟨w.heap.size + 1, 1, none⟩) (by show w.heap.size + 1 < W2.heap.size; omega)).trans y0
                have q2 := (hB.cell (p := ⟨w.heap.size + 1, 2, none⟩) (by show w.heap.size + 1 < W2.heap.size; omega)).trans y2
                have q3 := (hB.cell (p := ⟨w.heap.size, 0, none⟩) (by show w.heap.size < W2.heap.size; omega)).trans s0
                have hBn := fun n => drewN_below hB n
                have hdp : dupB ⟨ni, np, nn, nc, 0, no⟩ ⟨zi, zp, zn', zc, zk, zo⟩ = (zp == np && zn'.toList == nn.toList) := rfl
                have HDP := Lib.hid hdp
                clear hdp
                cases hb : (xs.take k).any (fun x => x.id == np) with
                | true =>
                  have HBB := Lib.hid hb
                  cases r1 : (zp == np) with
                  | false =>
                    have HE := Lib.hid (show (xs.take (k + 1)).any (dupB ⟨ni, np, nn, nc, 0, no⟩) = false by rw [HD2.out, hdup.out, HDP.out, r1]; rfl)
                    go_wp2_with (go_quiet (fail))
                    go_roundw
                    case rel => exact ⟨k + 1, by omega, by go_num, by rw [HA.out]; rw [HBB.out]; rfl, HE.out, (hBn _)⟩
                    case measure => simp [intOf] <;> omega
                  | true =>
                    cases r2 : (zn'.toList == nn.toList) with
                    | false =>
                      have HE := Lib.hid (show (xs.take (k + 1)).any (dupB ⟨ni, np, nn, nc, 0, no⟩) = false by rw [HD2.out, hdup.out, HDP.out, r1, r2]; rfl)
                      go_wp2_with (go_quiet (fail))
                      go_roundw
                      case rel => exact ⟨k + 1, by omega, by go_num, by rw [HA.out]; rw [HBB.out]; rfl, HE.out, (hBn _)⟩
                      case measure => simp [intOf] <;> omega
                    | true =>
                      have HE := Lib.hid (show nodeR xs i = false by rw [HR.out, HT.out (by rw [HD2.out, HDP.out, r1, r2]; simp)]; rfl)
                      go_wp2_with (go_quiet (fail))
                      go_ret
                      exact ⟨ret_bool HE.out.symm, drewN_below (drewN_below hBr _) _⟩
                | false =>
                  have HBB := Lib.hid hb
                  cases r0 : (zi == np) with
                  | true =>
                    have HR0 := Lib.hid r0
                    cases r1 : (zp == np) with
                    | false =>
                      have HE := Lib.hid (show (xs.take (k + 1)).any (dupB ⟨ni, np, nn, nc, 0, no⟩) = false by rw [HD2.out, hdup.out, HDP.out, r1]; rfl)
                      go_wp2_with (go_quiet (fail))
                      go_roundw
                      case rel => exact ⟨k + 1, by omega, by go_num, by rw [HA.out]; rw [HBB.out]; exact congrArg Value.bool HR0.out.symm, HE.out, (hBn _)⟩
                      case measure => simp [intOf] <;> omega
                    | true =>
                      cases r2 : (zn'.toList == nn.toList) with
                      | false =>
                        have HE := Lib.hid (show (xs.take (k + 1)).any (dupB ⟨ni, np, nn, nc, 0, no⟩) = false by rw [HD2.out, hdup.out, HDP.out, r1, r2]; rfl)
                        go_wp2_with (go_quiet (fail))
                        go_roundw
                        case rel => exact ⟨k + 1, by omega, by go_num, by rw [HA.out]; rw [HBB.out]; exact congrArg Value.bool HR0.out.symm, HE.out, (hBn _)⟩
                        case measure => simp [intOf] <;> omega
                      | true =>
                        have HE := Lib.hid (show nodeR xs i = false by rw [HR.out, HT.out (by rw [HD2.out, HDP.out, r1, r2]; simp)]; rfl)
                        go_wp2_with (go_quiet (fail))
                        go_ret
                        exact ⟨ret_bool HE.out.symm, drewN_below (drewN_below hBr _) _⟩
                  | false =>
                    have HR0 := Lib.hid r0
                    cases r1 : (zp == np) with
                    | false =>
                      have HE := Lib.hid (show (xs.take (k + 1)).any (dupB ⟨ni, np, nn, nc, 0, no⟩) = false by rw [HD2.out, hdup.out, HDP.out, r1]; rfl)
                      go_wp2_with (go_quiet (fail))
                      go_roundw
                      case rel => exact ⟨k + 1, by omega, by go_num, by rw [HA.out]; rw [HBB.out]; exact congrArg Value.bool HR0.out.symm, HE.out, (hBn _)⟩
                      case measure => simp [intOf] <;> omega
                    | true =>
                      cases r2 : (zn'.toList == nn.toList) with
                      | false =>
                        have HE := Lib.hid (show (xs.take (k + 1)).any (dupB ⟨ni, np, nn, nc, 0, no⟩) = false by rw [HD2.out, hdup.out, HDP.out, r1, r2]; rfl)
                        go_wp2_with (go_quiet (fail))
                        go_roundw
                        case rel => exact ⟨k + 1, by omega, by go_num, by rw [HA.out]; rw [HBB.out]; exact congrArg Value.bool HR0.out.symm, HE.out, (hBn _)⟩
                        case measure => simp [intOf] <;> omega
                      | true =>
                        have HE := Lib.hid (show nodeR xs i = false by rw [HR.out, HT.out (by rw [HD2.out, HDP.out, r1, r2]; simp)]; rfl)
                        go_wp2_with (go_quiet (fail))
                        go_ret
                        exact ⟨ret_bool HE.out.symm, drewN_below (drewN_below hBr _) _⟩
              · obtain rfl : k = i := by omega
                have hki : ¬ (k : Int) < (k : Int) := by omega
                have HE := Lib.hid (show nodeR xs k = (xs.take k).any (fun x => x.id == np) by rw [HR.out, hdup.out]; rfl)
                go_wp2
                go_ret
                exact ⟨ret_bool HE.out.symm, hBr⟩
    · by_cases g1 : nc < 0
      · have HR := Lib.hid (show nodeR xs i = false by rw [hR.out, show ctlB ⟨ni, np, nn, nc, 1, no⟩ = false from by simp [ctlB]; intros; omega]; rfl)
        clear hR
        go_enter Tryd.func74, Tryd.ntmps74
        go_wp2
        go_ret
        exact ⟨ret_bool HR.out.symm, hW2⟩
      by_cases g2 : 31 < nc
      · have HR := Lib.hid (show nodeR xs i = false by rw [hR.out, show ctlB ⟨ni, np, nn, nc, 1, no⟩ = false from by simp [ctlB]; intros; omega]; rfl)
        clear hR
        go_enter Tryd.func74, Tryd.ntmps74
        go_wp2
        go_ret
        exact ⟨ret_bool HR.out.symm, hW2⟩
      by_cases g3 : no < 0
      · have HR := Lib.hid (show nodeR xs i = false by rw [hR.out, show ctlB ⟨ni, np, nn, nc, 1, no⟩ = false from by simp [ctlB]; intros; omega]; rfl)
        clear hR
        go_enter Tryd.func74, Tryd.ntmps74
        go_wp2
        go_ret
        exact ⟨ret_bool HR.out.symm, hW2⟩
      by_cases g4 : 1048576 < no
      · have HR := Lib.hid (show nodeR xs i = false by rw [hR.out, show ctlB ⟨ni, np, nn, nc, 1, no⟩ = false from by simp [ctlB]; intros; omega]; rfl)
        clear hR
        go_enter Tryd.func74, Tryd.ntmps74
        go_wp2
        go_ret
        exact ⟨ret_bool HR.out.symm, hW2⟩
      have hR := Lib.hid (show nodeR xs i = if i = 0 then rootB ⟨ni, np, nn, nc, 1, no⟩ else fineB (xs.take i) ⟨ni, np, nn, nc, 1, no⟩ by
        rw [hR.out, show ctlB ⟨ni, np, nn, nc, 1, no⟩ = true from by simp [ctlB]; omega]; rfl)
      by_cases g5 : i = 0
      · have HR := Lib.hid (show nodeR xs i = rootB ⟨ni, np, nn, nc, 1, no⟩ by rw [hR.out, if_pos g5])
        have g6 : ((i : Int) == 0) = true := by simp; omega
        clear hR g5
        go_enter Tryd.func74, Tryd.ntmps74
        go_wp2
        all_goals go_ret
        all_goals refine ⟨ret_bool (Eq.trans ?_ HR.out.symm), ((Below.refl w.heap.size w).alloc (Nat.le_refl _) _).alloc (by simp) _⟩
        all_goals (simp [rootB] <;> simp_all)
      · have HR := Lib.hid (show nodeR xs i = fineB (xs.take i) ⟨ni, np, nn, nc, 1, no⟩ by rw [hR.out, if_neg g5])
        clear hR
        have g6 : ((i : Int) == 0) = false := by simp; omega
        have hi1 : i - 1 < xs.length := by omega
        have hpi : (((i - 1 : Nat)) : Int) < (xs.length : Int) := by omega
        have hwi : IntKind.i64.wrap ((i : Int) - 1) = ((i - 1 : Nat) : Int) := wrap_pred _ (by omega) (by omega)
        have HL := Lib.hid (show lastId (xs.take i) = xs[i - 1].id by have := lastId_take xs (i - 1) hi1; rwa [show i - 1 + 1 = i from by omega] at this)
        obtain ⟨b', o', e1, _, hp⟩ := hA2.row (i := i - 1) (c := xs[i - 1].cells) (map_at _ hi1)
        simp only [Option.some.injEq, Addr.mk.injEq, and_true] at e1
        obtain ⟨rfl, rfl⟩ := e1
        simp only [Grp.cells, CellsFrom, Nat.add_zero, Nat.zero_add, Nat.reduceAdd] at hp
        obtain ⟨pz, -⟩ := hp
        generalize xs[i - 1].id = zid at *
        obtain ⟨t0, t1, -⟩ := b2.cells
        simp only [Nat.zero_add, Nat.add_zero, Nat.reduceAdd] at t0 t1
        have zb := b2.lt
        have zn := b3.lt
        go_enter Tryd.func74, Tryd.ntmps74
        go_wp2_with fail
        generalize hWx : World.alloc (World.alloc w _) _ = W1 at *
        clear hWx c0 c1 c2 c3 c4 c5 b2 b3
        by_cases g7 : ni ≤ zid
        · have HR := Lib.hid (show nodeR xs i = false by rw [HR.out]; simp only [fineB, headB, HL.out]; rw [decide_eq_false (by omega)]; rfl)
          go_quiet (fail)
          go_wp2
          go_ret
          exact ⟨ret_bool HR.out.symm, drewN_below hW2 _⟩
        · have d1 : decide (ni ≤ zid) = false := decide_eq_false g7
          obtain ⟨ι, f, hf1, hf2, hf3⟩ := fam W1
          have hne : Nonempty ι := ⟨hf1.choose⟩
          have f0 : ∀ i', (f i').cell? ⟨w.heap.size, 0, none⟩ = some (.slice (some ⟨b, o, none⟩) xs.length c) := fun i' => ((hf2 i').cell (p := ⟨w.heap.size, 0, none⟩) zb).trans t0
          have f1 : ∀ i', (f i').cell? ⟨w.heap.size + 1, 0, none⟩ = some (.int .i64 ni) := fun i' => ((hf2 i').cell (p := ⟨w.heap.size + 1, 0, none⟩) zn).trans x0
          have f2 : ∀ i', (f i').cell? ⟨w.heap.size + 1, 2, none⟩ = some (.string nn) := fun i' => ((hf2 i').cell (p := ⟨w.heap.size + 1, 2, none⟩) zn).trans x2
          have fz : ∀ i', (f i').cell? ⟨b, o + (i - 1) * 6, none⟩ = some (.int .i64 zid) := fun i' => ((hf2 i').cell (p := ⟨b, o + (i - 1) * 6, none⟩) hbs2).trans pz
          have HF2 := Lib.hid hf2
          have HF3 := Lib.hid hf3
          have HV := Lib.hid (fun i' => fam_call_same (f := f) (i := i') ((rvalid_c nn (f i') hnok.1).mono (fun _ _ h => h)))
          have hd := Lib.hid (show fineB (xs.take i) ⟨ni, np, nn, nc, 1, no⟩ = (validB nn && (!(xs.take i).any (dupB ⟨ni, np, nn, nc, 1, no⟩) && (xs.take i).any (fun x => x.id == np))) by
            simp only [fineB, headB, HL.out]
            rw [decide_eq_true (by omega)]
            simp)
          cases hvb : validB nn with
          | false =>
            have HR := Lib.hid (show nodeR xs i = false by rw [HR.out, hd.out, hvb]; rfl)
            rw [hvb] at HV
            clear hvb hf2 hf3 hd
            refine wp_region_fam f hf1 (by kernel_rfl) (by kernel_rfl) ?_
            repeat (go_big_quiet_step ((go_at_call 65; exact HV.out _)))
            refine wpQuiet_nil ?_
            rintro _ ⟨i', rfl⟩
            go_wp2
            go_ret
            exact ⟨ret_bool HR.out.symm, hW2.trans ((HF2.out i').mono (by omega))⟩
          | true =>
            have HR := Lib.hid (show nodeR xs i = (!(xs.take i).any (dupB ⟨ni, np, nn, nc, 1, no⟩) && (xs.take i).any (fun x => x.id == np)) by rw [HR.out, hd.out, hvb]; rfl)
            rw [hvb] at HV
            clear hvb hf2 hf3 hd
            refine wp_region_fam f hf1 (by kernel_rfl) (by kernel_rfl) ?_
            repeat (go_big_quiet_step ((go_at_call 65; exact HV.out _)))
            refine wpQuiet_nil ?_
            rintro _ ⟨i', rfl⟩
            have hB2 := HF2.out i'
            clear f0 f1 f2 fz hf1
            generalize f i' = W2 at *
            have hwsz : w.heap.size ≤ W1.heap.size := by omega
            have y0 := (hB2.cell (p := ⟨w.heap.size + 1, 1, none⟩) zn).trans x1
            have y2 := (hB2.cell (p := ⟨w.heap.size + 1, 2, none⟩) zn).trans x2
            have s0 := (hB2.cell (p := ⟨w.heap.size, 0, none⟩) zb).trans t0
            have hA3 := hA2.below hB2 (Nat.le_refl _)
            have hsz2 := hB2.size
            clear hA2 x0 x1 x2 x3 x4 x5 t0 t1 pz
            go_wp2
            go_loopw [6, 7] (fun fd i2 wr => ∃ k : Nat, k ≤ i ∧ i2 = .int .i64 k ∧ fd = .bool ((xs.take k).any (fun x => x.id == np)) ∧ Hid ((xs.take k).any (dupB ⟨ni, np, nn, nc, 1, no⟩) = false) ∧ Below W2.heap.size W2 wr)
              (fun _ i2 _ => i - (intOf i2).toNat)
            case atStart => exact ⟨0, Nat.zero_le _, rfl, rfl, rfl, Below.refl _ _⟩
            case round =>
              obtain ⟨k, hk, rfl, rfl, hdup, hB⟩ := hrel
              have hBr := hW2.trans ((hB2.mono hwsz).trans (hB.mono (by omega)))
              by_cases hlt : k < i
              · have hlx : k < xs.length := by omega
                have hki : (k : Int) < (i : Int) := by omega
                have hki2 : (k : Int) < (xs.length : Int) := by omega
                have HA := Lib.hid (any_snoc (p := fun x => x.id == np) hlx)
                have HD2 := Lib.hid (any_snoc (p := dupB ⟨ni, np, nn, nc, 1, no⟩) hlx)
                have HT := Lib.hid (fun h : (xs.take (k + 1)).any (dupB ⟨ni, np, nn, nc, 1, no⟩) = true => (show (xs.take i).any (dupB ⟨ni, np, nn, nc, 1, no⟩) = true by
                  obtain ⟨z, hz, hz2⟩ := List.any_eq_true.1 h
                  have hpre : (xs.take (k + 1)) = (xs.take i).take (k + 1) := by rw [List.take_take, Nat.min_eq_left (by omega)]
                  rw [hpre] at hz
                  exact List.any_eq_true.2 ⟨z, List.mem_of_mem_take hz, hz2⟩))
                obtain ⟨b', o', e1, _, hc⟩ := (hA3.below hB (Nat.le_refl _)).row (i := k) (c := xs[k].cells) (map_at _ hlx)
                simp only [Option.some.injEq, Addr.mk.injEq, and_true] at e1
                obtain ⟨rfl, rfl⟩ := e1
                simp only [Grp.cells, CellsFrom, Nat.add_zero, Nat.zero_add, Nat.reduceAdd] at hc
                obtain ⟨g0, g1, g2, -⟩ := hc
                generalize xs[k] = z at *
                obtain ⟨zi, zp, zn', zc, zk, zo⟩ := z
                simp only at *
                have q0 := (hB.cell (p := ⟨w.heap.size + 1, 1, none⟩) (by show w.heap.size + 1 < W2.heap.size; omega)).trans y0
                have q2 := (hB.cell (p := ⟨w.heap.size + 1, 2, none⟩) (by show w.heap.size + 1 < W2.heap.size; omega)).trans y2
                have q3 := (hB.cell (p := ⟨w.heap.size, 0, none⟩) (by show w.heap.size < W2.heap.size; omega)).trans s0
                have hBn := fun n => drewN_below hB n
                have hdp : dupB ⟨ni, np, nn, nc, 1, no⟩ ⟨zi, zp, zn', zc, zk, zo⟩ = (zp == np && zn'.toList == nn.toList) := rfl
                have HDP := Lib.hid hdp
                clear hdp
                cases hb : (xs.take k).any (fun x => x.id == np) with
                | true =>
                  have HBB := Lib.hid hb
                  cases r1 : (zp == np) with
                  | false =>
                    have HE := Lib.hid (show (xs.take (k + 1)).any (dupB ⟨ni, np, nn, nc, 1, no⟩) = false by rw [HD2.out, hdup.out, HDP.out, r1]; rfl)
                    go_wp2_with (go_quiet (fail))
                    go_roundw
                    case rel => exact ⟨k + 1, by omega, by go_num, by rw [HA.out]; rw [HBB.out]; rfl, HE.out, (hBn _)⟩
                    case measure => simp [intOf] <;> omega
                  | true =>
                    cases r2 : (zn'.toList == nn.toList) with
                    | false =>
                      have HE := Lib.hid (show (xs.take (k + 1)).any (dupB ⟨ni, np, nn, nc, 1, no⟩) = false by rw [HD2.out, hdup.out, HDP.out, r1, r2]; rfl)
                      go_wp2_with (go_quiet (fail))
                      go_roundw
                      case rel => exact ⟨k + 1, by omega, by go_num, by rw [HA.out]; rw [HBB.out]; rfl, HE.out, (hBn _)⟩
                      case measure => simp [intOf] <;> omega
                    | true =>
                      have HE := Lib.hid (show nodeR xs i = false by rw [HR.out, HT.out (by rw [HD2.out, HDP.out, r1, r2]; simp)]; rfl)
                      go_wp2_with (go_quiet (fail))
                      go_ret
                      exact ⟨ret_bool HE.out.symm, drewN_below (drewN_below hBr _) _⟩
                | false =>
                  have HBB := Lib.hid hb
                  cases r0 : (zi == np) with
                  | true =>
                    have HR0 := Lib.hid r0
                    cases r1 : (zp == np) with
                    | false =>
                      have HE := Lib.hid (show (xs.take (k + 1)).any (dupB ⟨ni, np, nn, nc, 1, no⟩) = false by rw [HD2.out, hdup.out, HDP.out, r1]; rfl)
                      go_wp2_with (go_quiet (fail))
                      go_roundw
                      case rel => exact ⟨k + 1, by omega, by go_num, by rw [HA.out]; rw [HBB.out]; exact congrArg Value.bool HR0.out.symm, HE.out, (hBn _)⟩
                      case measure => simp [intOf] <;> omega
                    | true =>
                      cases r2 : (zn'.toList == nn.toList) with
                      | false =>
                        have HE := Lib.hid (show (xs.take (k + 1)).any (dupB ⟨ni, np, nn, nc, 1, no⟩) = false by rw [HD2.out, hdup.out, HDP.out, r1, r2]; rfl)
                        go_wp2_with (go_quiet (fail))
                        go_roundw
                        case rel => exact ⟨k + 1, by omega, by go_num, by rw [HA.out]; rw [HBB.out]; exact congrArg Value.bool HR0.out.symm, HE.out, (hBn _)⟩
                        case measure => simp [intOf] <;> omega
                      | true =>
                        have HE := Lib.hid (show nodeR xs i = false by rw [HR.out, HT.out (by rw [HD2.out, HDP.out, r1, r2]; simp)]; rfl)
                        go_wp2_with (go_quiet (fail))
                        go_ret
                        exact ⟨ret_bool HE.out.symm, drewN_below (drewN_below hBr _) _⟩
                  | false =>
                    have HR0 := Lib.hid r0
                    cases r1 : (zp == np) with
                    | false =>
                      have HE := Lib.hid (show (xs.take (k + 1)).any (dupB ⟨ni, np, nn, nc, 1, no⟩) = false by rw [HD2.out, hdup.out, HDP.out, r1]; rfl)
                      go_wp2_with (go_quiet (fail))
                      go_roundw
                      case rel => exact ⟨k + 1, by omega, by go_num, by rw [HA.out]; rw [HBB.out]; exact congrArg Value.bool HR0.out.symm, HE.out, (hBn _)⟩
                      case measure => simp [intOf] <;> omega
                    | true =>
                      cases r2 : (zn'.toList == nn.toList) with
                      | false =>
                        have HE := Lib.hid (show (xs.take (k + 1)).any (dupB ⟨ni, np, nn, nc, 1, no⟩) = false by rw [HD2.out, hdup.out, HDP.out, r1, r2]; rfl)
                        go_wp2_with (go_quiet (fail))
                        go_roundw
                        case rel => exact ⟨k + 1, by omega, by go_num, by rw [HA.out]; rw [HBB.out]; exact congrArg Value.bool HR0.out.symm, HE.out, (hBn _)⟩
                        case measure => simp [intOf] <;> omega
                      | true =>
                        have HE := Lib.hid (show nodeR xs i = false by rw [HR.out, HT.out (by rw [HD2.out, HDP.out, r1, r2]; simp)]; rfl)
                        go_wp2_with (go_quiet (fail))
                        go_ret
                        exact ⟨ret_bool HE.out.symm, drewN_below (drewN_below hBr _) _⟩
              · obtain rfl : k = i := by omega
                have hki : ¬ (k : Int) < (k : Int) := by omega
                have HE := Lib.hid (show nodeR xs k = (xs.take k).any (fun x => x.id == np) by rw [HR.out, hdup.out]; rfl)
                go_wp2
                go_ret
                exact ⟨ret_bool HE.out.symm, hBr⟩
  · have HR := Lib.hid (show nodeR xs i = false by rw [hR.out, show kindR ⟨ni, np, nn, nc, nk, no⟩ = false from by simpa [kindR, not_or] using hk]; rfl)
    have k0 : (nk != 0) = true := by rw [bne_iff_ne]; omega
    have k1 : (nk != 1) = true := by rw [bne_iff_ne]; omega
    clear hR hk
    go_enter Tryd.func74, Tryd.ntmps74
    go_wp2
    go_ret
    exact ⟨ret_bool HR.out.symm, hW2⟩

end Go.Proofs.YtmjnibofdpgacaaDoor
