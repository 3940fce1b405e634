/-
  tree.Check: 'checkB' of the nodes and of Next.
-/
import Derived.Test.YtmjnibofdpgacaaDoorProg
import Derived.Test.YtmjnibofdpgacaaDoorFine
import Derived.Test.YtmjnibofdpgacaaDoorMapInt
set_option linter.unusedSimpArgs false
set_option linter.unusedVariables false
namespace Go.Proofs.YtmjnibofdpgacaaDoor
open Go.RowKit Gc Go.Maps

theorem siNode : SliceTy Tryd.prog 22 54 6 56 := SliceTy.mk' Tryd.underlying22 (z := .agg #[.int .i64 0, .int .i64 0, .string ByteArray.empty, .int .i64 0, .int .i64 0, .int .i64 0]) (by kernel_rfl) rfl (by omega)

set_option maxRecDepth 100000 in
set_option maxHeartbeats 1000000 in
theorem check_long (A : Option Addr) (c : Nat) (xs : List Grp) (next : Int) (w : World) (hl : xs.length ≤ 140737488351232) (h : xs.length < 1 ∨ 64 < xs.length) :
    Calls Tryd.prog 59 #[.agg #[.slice A xs.length c, .int .i64 next]] w fun e w' => e = .returned (.bool (checkB xs next)) ∧ Below w.heap.size w w' := by
  have HF := Lib.hid (show checkB xs next = false by
    unfold checkB
    rcases h with h | h
    · rw [decide_eq_false (by omega)]; rfl
    · rw [decide_eq_false (show ¬ xs.length ≤ 64 by omega), Bool.false_and, Bool.and_false])
  rcases h with h | h
  · have h' : (xs.length : Int) < 1 := by omega
    go_enter Tryd.func59, Tryd.ntmps59
    go_wp2
    go_ret
    exact ⟨ret_bool HF.out.symm, (Below.refl _ _).alloc (Nat.le_refl _) _⟩
  · have h' : (64 : Int) < xs.length := by omega
    have h1 : ¬ (xs.length : Int) < 1 := by omega
    go_enter Tryd.func59, Tryd.ntmps59
    go_wp2
    go_ret
    exact ⟨ret_bool HF.out.symm, (Below.refl _ _).alloc (Nat.le_refl _) _⟩

set_option maxRecDepth 100000 in
set_option maxHeartbeats 1000000 in
theorem check_c (A : Option Addr) (c : Nat) (xs : List Grp) (next : Int) (w : World) (h : Rd w 6 A (xs.map Grp.cells)) (hok : ∀ x ∈ xs, x.ok) (hl : xs.length ≤ 140737488351232) (hcap : xs.length ≤ c) :
    Calls Tryd.prog 59 #[.agg #[.slice A xs.length c, .int .i64 next]] w fun e w' => e = .returned (.bool (checkB xs next)) ∧ Below w.heap.size w w' := by
  by_cases h1 : xs.length < 1 ∨ 64 < xs.length
  · exact check_long A c xs next w hl h1
  · have h2 : 1 ≤ xs.length := by omega
    have h3 : xs.length ≤ 64 := by omega
    clear h1 hl
    have hW1 : Below w.heap.size w (w.alloc (.cells #[.slice A xs.length c, .int .i64 next] 24)) := (Below.refl _ _).alloc (Nat.le_refl _) _
    obtain ⟨b, o, rfl, hbs, hc⟩ := (h.below hW1 (Nat.le_refl _)).row (i := 0) (c := xs[0].cells) (map_at _ (by omega))
    have hC := Lib.hid (show checkB xs next = (rootB xs[0] && ((List.range xs.length).all (stepB xs) && (decide (lastId xs < next) && decide (next ≤ 2147483648)))) by
      unfold checkB
      rw [decide_eq_true h2, decide_eq_true h3, List.headD_eq_head?_getD, List.head?_eq_getElem?, List.getElem?_eq_getElem (by omega)]
      rfl)
    have i2 : ¬ (xs.length : Int) < 1 := by omega
    have i3 : ¬ (64 : Int) < xs.length := by omega
    have i4 : (0 : Int) < xs.length := by omega
    simp only [Grp.cells, CellsFrom, Nat.add_zero, Nat.zero_mul, Nat.zero_add, Nat.reduceAdd] at hc
    obtain ⟨c0, c1, c2, c3, c4, c5, -⟩ := hc
    have hr := fun W => root_c xs[0] W
    simp only [Grp.cells] at hr
    have H := Lib.hid h
    clear h
    have hmm := @run_makeMap Tryd.prog
    cases hrb : rootB xs[0] with
    | false =>
      rw [hrb] at hr
      have HF := Lib.hid (show checkB xs next = false by rw [hC.out, hrb]; rfl)
      have HR := Lib.hid hr
      clear hrb hr
      go_enter Tryd.func59, Tryd.ntmps59
      go_wp2_with (go_at_call 75; refine (HR.out _).mono ?_; rintro e w1 ⟨rfl, hb1⟩)
      go_ret
      exact ⟨ret_bool HF.out.symm, hW1.trans (hb1.mono (by simp))⟩
    | true =>
      rw [hrb] at hr
      have HC := Lib.hid (show checkB xs next = ((List.range xs.length).all (stepB xs) && (decide (lastId xs < next) && decide (next ≤ 2147483648))) by rw [hC.out, hrb]; rfl)
      have HR := Lib.hid hr
      clear hrb hr hC
      go_enter Tryd.func59, Tryd.ntmps59
      go_wp2_with (go_at_call 75; refine (HR.out _).mono ?_; rintro e w1 ⟨rfl, hb1⟩; have t0 : w1.cell? ⟨w.heap.size, 0, none⟩ = some (.slice (some ⟨b, o, none⟩) xs.length c) := (hb1.cell (p := ⟨w.heap.size, 0, none⟩) (by simp)).trans (by simp); have t1 : w1.cell? ⟨w.heap.size, 1, none⟩ = some (.int .i64 next) := (hb1.cell (p := ⟨w.heap.size, 1, none⟩) (by simp)).trans (by simp); have z1 : w.heap.size < w1.heap.size := by have := hb1.size; simp at this; omega)
      have hB1 : Below w.heap.size w w1 := hW1.trans (hb1.mono (by simp))
      clear c0 c1 c2 c3 c4 c5 hW1 hb1 HR hbs
      go_loopw [28] (fun i wr => ∃ k : Nat, k ≤ xs.length ∧ w1.heap.size < wr.heap.size ∧ i = .int .i64 k ∧ Aside (MapIs wr w1.heap.size k (dep (xs.take k))) ∧ Below w1.heap.size w1 wr ∧ Hid ((List.range k).all (stepB xs) = true) ∧ Hid (∀ x, 0 ≤ dep (xs.take k) x ∧ dep (xs.take k) x ≤ 8))
        (fun i _ => xs.length - (intOf i).toNat)
      case atStart => exact ⟨0, Nat.zero_le _, by simp, rfl, (show MapIs _ _ _ _ by simpa [dep] using MapIs.made w1), (Below.refl _ _).alloc (Nat.le_refl _) _, rfl, fun x => by simp [dep]⟩
      case round =>
        obtain ⟨k, hk, zr1, rfl, hmap, hB, hst, hdp⟩ := hrel
        have t0' : wr.cell? ⟨w.heap.size, 0, none⟩ = some (.slice (some ⟨b, o, none⟩) xs.length c) := (hB.cell (p := ⟨w.heap.size, 0, none⟩) z1).trans t0
        have t1' : wr.cell? ⟨w.heap.size, 1, none⟩ = some (.int .i64 next) := (hB.cell (p := ⟨w.heap.size, 1, none⟩) z1).trans t1
        have zr : w1.heap.size ≤ wr.heap.size := hB.size
        by_cases hlt : k < xs.length
        · have hki : (k : Int) < (xs.length : Int) := by omega
          have hW2 : Below wr.heap.size wr (wr.alloc (.cells xs[k].cells.toArray 54)) := (Below.refl _ _).alloc (Nat.le_refl _) _
          have hrd2 := (H.out.below hB1 (Nat.le_refl _)).below hB (Nat.le_refl _)
          obtain ⟨b', o', e, hbs', hc⟩ := hrd2.row (i := k) (c := xs[k].cells) (map_at _ hlt)
          simp only [Option.some.injEq, Addr.mk.injEq, and_true] at e
          obtain ⟨rfl, rfl⟩ := e
          have hbx := box_cells wr xs[k].cells 54
          have t02 : (wr.alloc (.cells xs[k].cells.toArray 54)).cell? ⟨w.heap.size, 0, none⟩ = some (.slice (some ⟨b, o, none⟩) xs.length c) := (hW2.cell (p := ⟨w.heap.size, 0, none⟩) (by simp; omega)).trans t0'
          have t12 : (wr.alloc (.cells xs[k].cells.toArray 54)).cell? ⟨w.heap.size, 1, none⟩ = some (.int .i64 next) := (hW2.cell (p := ⟨w.heap.size, 1, none⟩) (by simp; omega)).trans t1'
          have hrd3 := hrd2.below hW2 (Nat.le_refl _)
          have hz2 : wr.heap.size < (wr.alloc (.cells xs[k].cells.toArray 54)).heap.size := by simp
          have hn : xs[k].ok := hok _ (List.getElem_mem hlt)
          have hx : xs[k]? = some xs[k] := List.getElem?_eq_getElem hlt
          have hds := Lib.hid (fun h0 : 0 < k => dep_succ xs k hlt h0)
          have hlen : (xs.take k).length = k := List.length_take_of_le hk
          have hfn := fun W (h : Rd W 6 (some ⟨b, o, none⟩) (xs.map Grp.cells)) (h0 : 0 < k) => fine_c (some ⟨b, o, none⟩) c (xs.take k) xs[k] W (by rw [List.map_take]; exact h.take k) (by omega) (by rw [hlen]; exact h0) hn
          rw [hlen] at hfn
          have HFN := Lib.hid hfn
          clear hfn hlen
          generalize xs[k] = n at *
          obtain ⟨n1, n2, n3, n4, n5, n6⟩ := n
          simp only [Grp.cells, CellsFrom, Nat.add_zero, Nat.zero_add, Nat.reduceAdd] at *
          go_wp2
          generalize hWx : wr.alloc _ = W2 at *
          clear hWx
          obtain ⟨d0, d1, d2, d3, d4, d5, -⟩ := hbx
          have hctl : Hid (stepB xs k = (ctlB ⟨n1, n2, n3, n4, n5, n6⟩ && ((k == 0 || fineB (xs.take k) ⟨n1, n2, n3, n4, n5, n6⟩) && decide (dep (xs.take (k + 1)) n1 ≤ 8)))) := by
            show _ = _
            simp only [stepB, hx]
          clear hx
          have hB2 : Below w.heap.size w W2 := hB1.trans ((hB.mono (by omega)).trans (hW2.mono (by omega)))
          obtain ⟨hn0, hn1, hn2, hn4, hn5, hn6⟩ := hn
          simp only at hn0 hn1 hn2 hn4 hn5 hn6
          by_cases hct : ctlB ⟨n1, n2, n3, n4, n5, n6⟩ = true
          · have hm2 : Aside (MapIs W2 w1.heap.size k (dep (xs.take k))) := MapIs.below hmap.out hW2 (Nat.le_refl _)
            have q1 := (hdp.out n1).2
            have q2 := (hdp.out n2).1
            have q3 := (hdp.out n2).2
            have hct' := hct
            simp only [ctlB, Bool.and_eq_true, decide_eq_true_eq] at hct'
            obtain ⟨r1, r2, r3, r4⟩ := hct'
            have b2 := andNot31_no n4 r1 r2
            have b1 : decide (n4 < 0) = false := decide_eq_false (by omega)
            have b3 : decide (n6 < 0) = false := decide_eq_false (by omega)
            have b4 : decide ((1048576 : Int) < n6) = false := decide_eq_false (by omega)
            clear r1 r2 r3 r4
            by_cases hk0 : k = 0
            · have e0 : decide ((0 : Int) < (k : Int)) = false := decide_eq_false (by omega)
              have e0' : decide (0 < k) = false := decide_eq_false (by omega)
              have hd1 : dep (xs.take (k + 1)) = dep (xs.take k) := by rw [hk0, dep_zero]; rfl
              have HS := Lib.hid (show stepB xs k = true by
                rw [hctl.out, hct, hd1, decide_eq_true q1, hk0]; rfl)
              have HD := Lib.hid hd1
              clear hd1 hk0
              generalize hff : dep (xs.take k) = ff at *
              have HFF := Lib.hid hff
              clear hff
              go_quiet (fail)
              go_wp2_with (at_lookup; refine map_look rfl _ _ rfl rfl (MapIs.drewN hm2.out _) n1 rfl hn1 ?_)
              go_roundw
              case rel => exact ⟨k + 1, by omega, by simp; omega, by go_num, (show MapIs _ _ _ _ by rw [HD.out]; exact (MapIs.drewN hm2.out _).mono (by omega)), drewN_below (hB.trans (hW2.mono (by omega))) _, range_snoc hst.out HS.out, (show ∀ x, _ by rw [HD.out]; exact hdp.out)⟩
              case measure => simp [intOf]; omega
            · have e0 : (0 : Int) < (k : Int) := by omega
              have e1 : decide ((0 : Int) < (k : Int)) = true := decide_eq_true (by omega)
              have e2 : decide (0 < k) = true := decide_eq_true (by omega)
              have hkc : k ≤ c := by omega
              have hds' := hds.out (by omega)
              have HD := Lib.hid hds'
              clear hds'
              have hk0' : (k == 0) = false := by simp [hk0]
              have hHS : stepB xs k = (fineB (xs.take k) ⟨n1, n2, n3, n4, n5, n6⟩ && decide (dep (xs.take (k + 1)) n1 ≤ 8)) := by
                rw [hctl.out, hct, hk0']; rfl
              have HS := Lib.hid hHS
              clear hHS hctl hct hk0'
              obtain ⟨ι, f, hf1, hf2, hf3⟩ := fam W2
              have hne : Nonempty ι := ⟨hf1.choose⟩
              have f0 : ∀ i, (f i).cell? ⟨wr.heap.size, 0, none⟩ = some (.int .i64 n1) := fun i => ((hf2 i).cell (p := ⟨wr.heap.size, 0, none⟩) hz2).trans d0
              have f1 : ∀ i, (f i).cell? ⟨wr.heap.size, 1, none⟩ = some (.int .i64 n2) := fun i => ((hf2 i).cell (p := ⟨wr.heap.size, 1, none⟩) hz2).trans d1
              have f2 : ∀ i, (f i).cell? ⟨wr.heap.size, 2, none⟩ = some (.string n3) := fun i => ((hf2 i).cell (p := ⟨wr.heap.size, 2, none⟩) hz2).trans d2
              have f3 : ∀ i, (f i).cell? ⟨wr.heap.size, 3, none⟩ = some (.int .i64 n4) := fun i => ((hf2 i).cell (p := ⟨wr.heap.size, 3, none⟩) hz2).trans d3
              have f4 : ∀ i, (f i).cell? ⟨wr.heap.size, 4, none⟩ = some (.int .i64 n5) := fun i => ((hf2 i).cell (p := ⟨wr.heap.size, 4, none⟩) hz2).trans d4
              have f5 : ∀ i, (f i).cell? ⟨wr.heap.size, 5, none⟩ = some (.int .i64 n6) := fun i => ((hf2 i).cell (p := ⟨wr.heap.size, 5, none⟩) hz2).trans d5
              have ft : ∀ i, (f i).cell? ⟨w.heap.size, 0, none⟩ = some (.slice (some ⟨b, o, none⟩) xs.length c) := fun i => ((hf2 i).cell (p := ⟨w.heap.size, 0, none⟩) (by simp only []; omega)).trans t02
              have hv0 := fun i => fam_call hf2 hf3 (HFN.out (f i) (hrd3.below (hf2 i) (Nat.le_refl _)) (by omega))
              have HF2 := Lib.hid hf2
              have HF3 := Lib.hid hf3
              have hsl := fun i => cut_h siNode (some ⟨b, o, none⟩) xs.length c k hkc (k : Int) rfl .i64 (f i)
              simp only [cutA_zero, Grp.cells] at hsl hv0
              clear hf2 hf3 d0 d1 d2 d3 d4 d5 t02 hc t0 t1 t0' t1' hmm hrd2 hrd3 HFN
              cases hfb : fineB (xs.take k) ⟨n1, n2, n3, n4, n5, n6⟩ with
              | false =>
                rw [hfb] at hv0
                have HF := Lib.hid (show checkB xs next = false by
                  rw [HC.out, range_at hlt (by rw [HS.out, hfb]; rfl)]; rfl)
                have HV := Lib.hid hv0
                clear hfb hv0
                refine wp_region_fam f hf1 (by kernel_rfl) (by kernel_rfl) ?_
                repeat (go_big_quiet_step ((go_at_call 76; exact HV.out _)))
                refine wpQuiet_nil ?_
                rintro _ ⟨i, rfl⟩
                go_wp2
                go_ret
                exact ⟨ret_bool HF.out.symm, hB2.trans ((HF2.out i).mono (by omega))⟩
              | true =>
                rw [hfb] at hv0
                have HSS := Lib.hid (show stepB xs k = decide (dep (xs.take (k + 1)) n1 ≤ 8) by rw [HS.out, hfb]; rfl)
                have HV := Lib.hid hv0
                clear hfb hv0 HS
                refine wp_region_fam f hf1 (by kernel_rfl) (by kernel_rfl) ?_
                repeat (go_big_quiet_step ((go_at_call 76; exact HV.out _)))
                refine wpQuiet_nil ?_
                rintro _ ⟨i, rfl⟩
                have hB3 := HF2.out i
                have f0' := f0 i
                have f1' := f1 i
                clear f0 f1 f2 f3 f4 f5 ft hf1 hsl HV HF2 HF3
                generalize f i = W3 at *
                have hm3 : Aside (MapIs W3 w1.heap.size k (dep (xs.take k))) := MapIs.below hm2.out hB3 (Nat.le_refl _)
                have zz := hB3.size
                generalize hff : dep (xs.take k) = ff at *
                have HFF := Lib.hid hff
                clear hff
                have hi2 : I64 (ff n2 + 1) := ⟨by omega, by omega⟩
                have hne1 : some wr.heap.size ≠ some w1.heap.size := by simp; omega
                have hB4 : ∀ W, W3.grownBy W (some w1.heap.size) → Below w1.heap.size w1 W := fun W hg => (hB.trans ((hW2.trans (hB3.mono (Nat.le_of_lt hz2))).mono (by omega))).grown hg (by omega) (fun j e => by simp at e; omega)
                have HB4 := Lib.hid hB4
                clear hB4
                by_cases hde : dep (xs.take (k + 1)) n1 ≤ 8
                · have hde' : ff n2 + 1 ≤ 8 := by
                    rw [HD.out] at hde; simpa [depStep, HFF.out] using hde
                  have hde'' : decide (8 < ff n2 + 1) = false := decide_eq_false (by omega)
                  have hst' := range_snoc hst.out (by rw [HSS.out, decide_eq_true hde])
                  have hdn : ∀ x, 0 ≤ dep (xs.take (k + 1)) x ∧ dep (xs.take (k + 1)) x ≤ 8 := by
                    intro x
                    rw [HD.out]
                    unfold depStep
                    have h1 := hdp.out x
                    simp only
                    split
                    · omega
                    · exact h1
                  have HDN := Lib.hid hdn
                  have HST := Lib.hid hst'
                  clear hde hdn hst'
                  go_wp2_with (first
                    | (at_lookup; refine map_look rfl _ _ rfl rfl hm3.out n2 rfl hn2 ?_)
                    | (at_lookup; refine map_look rfl _ _ rfl rfl hm4.out n1 rfl hn1 ?_; simp only [if_true])
                    | (at_mapUpdate; refine map_put rfl _ _ _ rfl rfl hm3.out n1 (ff n2 + 1) rfl rfl hn1 hi2 (by omega) ?_; intro W4 hm4' hg4; have hm4 : Aside (MapIs W4 w1.heap.size (k + 1) fun y => if y = n1 then ff n2 + 1 else ff y) := hm4'; clear hm4'; have g0 := hg4.cell f0' hne1))
                  go_roundw
                  case rel => exact ⟨k + 1, by omega, by have := hg4.size; omega, by go_num, (show MapIs _ _ _ _ by rw [HD.out]; exact hm4.out), HB4.out _ hg4, HST.out, HDN.out⟩
                  case measure => simp [intOf]; omega
                · have HF := Lib.hid (show checkB xs next = false by
                    rw [HC.out, range_at hlt (by rw [HSS.out]; simpa using hde)]; rfl)
                  have hde' : ¬ (ff n2 + 1 ≤ 8) := by
                    intro h; apply hde; rw [HD.out]; simpa [depStep, HFF.out] using h
                  have hde'' : decide (8 < ff n2 + 1) = true := by simpa using hde'
                  clear hde
                  go_wp2_with (first
                    | (at_lookup; refine map_look rfl _ _ rfl rfl hm3.out n2 rfl hn2 ?_)
                    | (at_lookup; refine map_look rfl _ _ rfl rfl hm4.out n1 rfl hn1 ?_; simp only [if_true])
                    | (at_mapUpdate; refine map_put rfl _ _ _ rfl rfl hm3.out n1 (ff n2 + 1) rfl rfl hn1 hi2 (by omega) ?_; intro W4 hm4' hg4; have hm4 : Aside (MapIs W4 w1.heap.size (k + 1) fun y => if y = n1 then ff n2 + 1 else ff y) := hm4'; clear hm4'; have g0 := hg4.cell f0' hne1))
                  go_ret
                  exact ⟨ret_bool HF.out.symm, hB1.trans ((HB4.out _ hg4).mono (by omega))⟩
          · have HF := Lib.hid (show checkB xs next = false by
              rw [HC.out, range_at hlt (by rw [hctl.out, Bool.eq_false_iff.2 hct]; rfl)]; rfl)
            simp only [ctlB, Bool.and_eq_true, decide_eq_true_eq] at hct
            clear d0 d1 d2 d4 t0' t1' t02 t12 t0 t1
            by_cases a1 : n4 < 0
            · go_quiet (fail)
              go_wp2
              go_ret
              exact ⟨ret_bool HF.out.symm, drewN_below hB2 _⟩
            · by_cases a2 : n4 ≤ 31
              · have b2 := andNot31_no n4 (by omega) a2
                by_cases a3 : n6 < 0
                · go_quiet (fail)
                  go_wp2
                  go_ret
                  exact ⟨ret_bool HF.out.symm, drewN_below hB2 _⟩
                · have a4 : 1048576 < n6 := by omega
                  go_quiet (fail)
                  go_wp2
                  go_ret
                  exact ⟨ret_bool HF.out.symm, drewN_below hB2 _⟩
              · have b2 := andNot31_yes n4 (by omega) hn4.2
                go_quiet (fail)
                go_wp2
                go_ret
                exact ⟨ret_bool HF.out.symm, drewN_below hB2 _⟩
        · obtain rfl : k = xs.length := by omega
          have hki : ¬ (xs.length : Int) < (xs.length : Int) := by omega
          have hrd2 := (H.out.below hB1 (Nat.le_refl _)).below hB (Nat.le_refl _)
          obtain ⟨b', o', e, hbs', hc⟩ := hrd2.row (i := xs.length - 1) (c := xs[xs.length - 1].cells) (map_at _ (by omega))
          simp only [Option.some.injEq, Addr.mk.injEq, and_true] at e
          obtain ⟨rfl, rfl⟩ := e
          have hL : lastId xs = xs[xs.length - 1].id := by
            unfold lastId
            rw [List.getLast?_eq_getElem?, List.getElem?_eq_getElem (by omega)]
          have hE := Lib.hid (show checkB xs next = (decide (xs[xs.length - 1].id < next) && decide (next ≤ 2147483648)) by
            rw [HC.out, hst.out, hL]; rfl)
          simp only [Grp.cells, CellsFrom, Nat.add_zero, Nat.zero_add, Nat.reduceAdd] at hc
          obtain ⟨h0', -⟩ := hc
          generalize xs[xs.length - 1].id = z at *
          have e3 : (xs.length : Int) - 1 = ((xs.length - 1 : Nat) : Int) := by omega
          have e4 : ((xs.length - 1 : Nat) : Int) < (xs.length : Int) := by omega
          have e5 : (0 : Int) ≤ (xs.length : Int) - 1 := by omega
          have hBz := hB1.trans (hB.mono (by omega))
          clear HC hL hst hdp hmap H hrd2 t0 t1
          cases g2 : decide (z < next) with
          | true =>
            have g1 : z < next := of_decide_eq_true g2
            cases g3 : decide (next ≤ 2147483648) with
            | true =>
              have hR := Lib.hid (show checkB xs next = true by rw [hE.out, g2, g3]; rfl)
              go_wp2_with (go_quiet (fail))
              go_ret
              exact ⟨ret_bool hR.out.symm, drewN_below hBz _⟩
            | false =>
              have hR := Lib.hid (show checkB xs next = false by rw [hE.out, g2, g3]; rfl)
              go_wp2_with (go_quiet (fail))
              go_ret
              exact ⟨ret_bool hR.out.symm, drewN_below hBz _⟩
          | false =>
            have hR := Lib.hid (show checkB xs next = false by rw [hE.out, g2]; rfl)
            go_wp2_with (go_quiet (fail))
            go_ret
            exact ⟨ret_bool hR.out.symm, drewN_below hBz _⟩

end Go.Proofs.YtmjnibofdpgacaaDoor
