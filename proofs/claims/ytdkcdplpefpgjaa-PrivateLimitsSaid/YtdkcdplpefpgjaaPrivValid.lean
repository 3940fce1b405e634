/-
  private.Valid: 'resB'.  (printed by wip/gen/privvalid.py)
-/
import Derived.Test.YtdkcdplpefpgjaaHier
import Derived.Test.YtdkcdplpefpgjaaPriv
import Derived.Test.YtdkcdplpefpgjaaOrder
set_option linter.unusedSimpArgs false
set_option linter.unusedVariables false
namespace Go.Proofs.Ytdkcdplpefpgjaa
open Go.RowKit Gc

theorem siRes : SliceTy Try.prog 49 89 4 32 := SliceTy.mk' Try.underlying49 (z := .agg #[.int .i64 0, .int .i64 0, .int .i64 0, .int .i64 0]) (by kernel_rfl) rfl (by omega)

set_option maxRecDepth 100000 in
set_option maxHeartbeats 4000000 in
theorem privValid_c (A : Option Addr) (c : Nat) (xs : List Grp) (next : Int) (B : Option Addr) (d : Nat) (ts : List Q4) (hn : Int) (D : Option Addr) (e : Nat) (ls : List Q4) (w : World) (hA : Rd w 6 A (xs.map Grp.cells)) (hok : ∀ x ∈ xs, x.ok) (hlA : xs.length ≤ 140737488351232) (hcap : xs.length ≤ c) (h : Rd w 4 B (ts.map Q4.cells)) (hl : ts.length ≤ 140737488351232)
    (hD : Rd w 4 D (ls.map Q4.cells)) (hlD : ls.length ≤ 140737488351232) :
    Calls Try.prog 47 #[.agg #[.slice A xs.length c, .int .i64 next, .slice B ts.length d, .int .i64 hn], .slice D ls.length e] w fun e w' => e = .returned (.bool (resB xs next ts hn ls)) ∧ Below w.heap.size w w' := by
  have hB1 : Below w.heap.size w (w.alloc (.cells #[.slice A xs.length c, .int .i64 next, .slice B ts.length d, .int .i64 hn] 47)) := (Below.refl _ _).alloc (Nat.le_refl _) _
  have hHB := Lib.hid (show resB xs next ts hn ls = (hierB xs next ts hn && (List.range ls.length).all (rstep xs ts ls)) from rfl)
  have hC := Lib.hid (fun W hA h => hier_c A c xs next B d ts hn W hA hok hlA hcap h hl)
  have b1 := Box.mk w [.slice A xs.length c, .int .i64 next, .slice B ts.length d, .int .i64 hn] 47
  have hA1 := hA.below hB1 (Nat.le_refl _)
  have h1 := h.below hB1 (Nat.le_refl _)
  have hD1 := hD.below hB1 (Nat.le_refl _)
  have z1 := b1.lt
  have HLe := Lib.hid (fun W p h => leader_c A c xs next B d ts hn p W h hl)
  have HKn := Lib.hid (fun W id h => known_c A c xs next id W h hlA)
  go_enter Try.func47, Try.ntmps47
  go_wp2_with fail
  generalize hWx : w.alloc _ = W1 at *
  clear hWx hA h hD
  refine (hC.out W1 hA1 h1).mono ?_
  rintro e0 W ⟨rfl, hb⟩
  have b2 := b1.below hb (Nat.le_refl _)
  have hA2 := hA1.below hb (Nat.le_refl _)
  have h2 := h1.below hb (Nat.le_refl _)
  have hD2 := hD1.below hb (Nat.le_refl _)
  have hB2 := hB1.trans (hb.mono hB1.size)
  have z2 := b2.lt
  clear hB1 b1 hA1 h1 hD1 z1 hb hC
  cases g3 : hierB xs next ts hn with
  | false =>
    have HR := Lib.hid (show resB xs next ts hn ls = false by rw [hHB.out, g3]; rfl)
    clear g3 hHB
    go_wp2
    go_ret
    exact ⟨ret_bool HR.out.symm, hB2⟩
  | true =>
    have HR := Lib.hid (show resB xs next ts hn ls = (List.range ls.length).all (rstep xs ts ls) by rw [hHB.out, g3]; rfl)
    clear g3 hHB
    go_wp2
    go_loopw [5, 13] (fun l i wr => ∃ k : Nat, k ≤ ls.length ∧ i = .int .i64 k ∧ l = .int .i64 (leftR (ls.take k)) ∧ 0 ≤ leftR (ls.take k) ∧ leftR (ls.take k) ≤ 33554432 ∧ Below W.heap.size W wr ∧ Hid ((List.range k).all (rstep xs ts ls) = true))
      (fun _ i _ => ls.length - (intOf i).toNat)
    case atStart => exact ⟨0, Nat.zero_le _, rfl, rfl, by simp [leftR], by simp [leftR], Below.refl _ _, rfl⟩
    case round =>
      obtain ⟨k, hk, rfl, rfl, hf1, hf2, hB, hst⟩ := hrel
      have b3 := b2.below hB (Nat.le_refl _)
      have zr : W.heap.size ≤ wr.heap.size := hB.size
      have z3 : w.heap.size < wr.heap.size := by omega
      by_cases hlt : k < ls.length
      · have hki : (k : Int) < (ls.length : Int) := by omega
        have hBr := hB2.trans (hB.mono (by omega))
        have hx : ls[k]? = some ls[k] := List.getElem?_eq_getElem hlt
        have hy : ls.getD (k - 1) default = ls[k - 1] := by rw [List.getD_eq_getElem?_getD, List.getElem?_eq_getElem (by omega)]; rfl
        have hS := Lib.hid (show rstep xs ts ls k = (leaderB ts ls[k].a && (hasB xs ls[k].b && ((k == 0 || decide (ordR ls[k - 1] ls[k] < 0)) && (decide (0 ≤ ls[k].c) && (decide (0 ≤ ls[k].d) && (decide (ls[k].c ≤ leftR (ls.take k)) && (decide (ls[k].d ≤ leftR (ls.take k) - ls[k].c) && !(ls[k].c + ls[k].d == 0)))))))) by simp only [rstep, hx, hy])
        have hL := Lib.hid (leftR_snoc ls k hlt)
        have hA3 := hA2.below hB (Nat.le_refl _)
        have h3 := h2.below hB (Nat.le_refl _)
        have hD3 := hD2.below hB (Nat.le_refl _)
        obtain ⟨b, o, e0, hbs, hc⟩ := hD3.row (i := k) (c := ls[k].cells) (map_at _ hlt)
        obtain ⟨b', o', e1, _, hp⟩ := hD3.row (i := k - 1) (c := ls[k - 1].cells) (map_at _ (by omega))
        subst e0
        simp only [Option.some.injEq, Addr.mk.injEq, and_true] at e1
        obtain ⟨rfl, rfl⟩ := e1
        have hW2 : Below wr.heap.size wr (wr.alloc (.cells ls[k].cells.toArray 89)) := (Below.refl _ _).alloc (Nat.le_refl _) _
        have b4 := Box.mk wr ls[k].cells 89
        have b5 := b3.alloc (.cells ls[k].cells.toArray 89)
        have hA4 := hA3.below hW2 (Nat.le_refl _)
        have h4 := h3.below hW2 (Nat.le_refl _)
        have HO := Lib.hid (fun W => order_c ls[k - 1] ls[k] W)
        have HN := Lib.hid hp
        clear hx hy hp
        generalize hlf : leftR (ls.take k) = lf at *
        have HLF := Lib.hid hlf
        clear hlf
        generalize ls[k - 1] = y at *
        generalize ls[k] = x at *
        obtain ⟨xa, xb, xc, xd⟩ := x
        obtain ⟨ya, yb, yc, yd⟩ := y
        simp only [Q4.cells, CellsFrom, Nat.add_zero, Nat.zero_add, Nat.reduceAdd] at *
        go_wp2
        generalize hWx : wr.alloc _ = W2 at *
        clear hWx
        have z4 := b4.lt
        have z5 := b5.lt
        have hB3 : Below w.heap.size w W2 := hBr.trans (hW2.mono (by omega))
        have hp : CellsFrom W2 b (o + (k - 1) * 4) 0 [.int .i64 ya, .int .i64 yb, .int .i64 yc, .int .i64 yd] := CellsFrom.keep (fun p hp => hW2.cell (p := p) (by omega)) HN.out
        simp only [CellsFrom, Nat.add_zero, Nat.zero_add, Nat.reduceAdd] at hp
        obtain ⟨p0, p1, p2, p3, -⟩ := hp
        obtain ⟨ι, f, hf1', hf2', hf3'⟩ := fam W2
        have hne : Nonempty ι := ⟨hf1'.choose⟩
        have hbW : b < W2.heap.size := Nat.lt_of_lt_of_le hbs hW2.size
        have fx : ∀ i, (f i).cell? ⟨b, o + (k - 1) * 4, none⟩ = some (.int .i64 ya) ∧ (f i).cell? ⟨b, o + (k - 1) * 4 + 1, none⟩ = some (.int .i64 yb) ∧ (f i).cell? ⟨b, o + (k - 1) * 4 + 2, none⟩ = some (.int .i64 yc) ∧ (f i).cell? ⟨b, o + (k - 1) * 4 + 3, none⟩ = some (.int .i64 yd) := fun i =>
          ⟨((hf2' i).cell (p := ⟨b, o + (k - 1) * 4, none⟩) hbW).trans p0, ((hf2' i).cell (p := ⟨b, o + (k - 1) * 4 + 1, none⟩) hbW).trans p1, ((hf2' i).cell (p := ⟨b, o + (k - 1) * 4 + 2, none⟩) hbW).trans p2, ((hf2' i).cell (p := ⟨b, o + (k - 1) * 4 + 3, none⟩) hbW).trans p3⟩
        have q0 := fun i => (fx i).1
        have q1 := fun i => (fx i).2.1
        have q2 := fun i => (fx i).2.2.1
        have q3 := fun i => (fx i).2.2.2
        have fb : ∀ i, CellsFrom (f i) wr.heap.size 0 0 [.int .i64 xa, .int .i64 xb, .int .i64 xc, .int .i64 xd] := fun i => (b4.below (hf2' i) (Nat.le_refl _)).cells
        have fh : ∀ i, CellsFrom (f i) w.heap.size 0 0 [.slice A xs.length c, .int .i64 next, .slice B ts.length d, .int .i64 hn] := fun i => (b5.below (hf2' i) (Nat.le_refl _)).cells
        simp only [CellsFrom, Nat.add_zero, Nat.zero_add, Nat.reduceAdd] at fb fh
        have r0 := fun i => (fb i).1
        have r1 := fun i => (fb i).2.1
        have r2 := fun i => (fb i).2.2.1
        have r3 := fun i => (fb i).2.2.2.1
        have s0 := fun i => (fh i).1
        have s1 := fun i => (fh i).2.1
        have s2 := fun i => (fh i).2.2.1
        have s3 := fun i => (fh i).2.2.2.1
        have v1 := Lib.hid (fun i => fam_call hf2' hf3' (HLe.out (f i) xa (h4.below (hf2' i) (Nat.le_refl _))))
        have v2 := Lib.hid (fun i => fam_call hf2' hf3' (HKn.out (f i) xb (hA4.below (hf2' i) (Nat.le_refl _))))
        have v3 := Lib.hid (fun i => fam_call hf2' hf3' (HO.out (f i)))
        have HF2 := Lib.hid hf2'
        have hgo : ∀ i : ι, Below w.heap.size w (f i) := fun i => hB3.trans ((hf2' i).mono hB3.size)
        have HG := Lib.hid hgo
        have u1 : (∃ b : Bool, leaderB ts xa = b) := ⟨_, rfl⟩
        clear hf2' hf3' hgo fx fb fh p0 p1 p2 p3 hc b2 b3 b4 b5 HN HO HLe HKn hA4 h4 hA3 h3
        generalize hlead : leaderB ts xa = lead at *
        generalize hhas : hasB xs xb = has at *
        generalize hord : ordR ⟨ya, yb, yc, yd⟩ ⟨xa, xb, xc, xd⟩ = ord at *
        clear hlead hhas hord u1
        have e3 : IntKind.i64.wrap ((k : Int) - 1) = ((k - 1 : Nat) : Int) ∨ k = 0 := by
          rcases Nat.eq_zero_or_pos k with h | h
          · exact .inr h
          · exact .inl (wrap_pred k h (by omega))
        have e4 : ((k - 1 : Nat) : Int) < (ls.length : Int) := by omega
        cases lead with
        | false =>
          have HF := Lib.hid (show resB xs next ts hn ls = false by
            rw [HR.out, range_at hlt (by rw [hS.out]; rfl)])
          refine wp_region_fam f hf1' (by kernel_rfl) (by kernel_rfl) ?_
          repeat (go_big_quiet_step ((first | (go_at_call 48; exact v1.out _) | (go_at_call 49; exact v2.out _) | (go_at_call 82; exact v3.out _))))
          refine wpQuiet_nil ?_
          rintro _ ⟨i, rfl⟩
          go_wp2
          go_ret
          exact ⟨ret_bool HF.out.symm, HG.out i⟩
        | true =>
          cases has with
          | false =>
            have HF := Lib.hid (show resB xs next ts hn ls = false by
              rw [HR.out, range_at hlt (by rw [hS.out]; rfl)])
            refine wp_region_fam f hf1' (by kernel_rfl) (by kernel_rfl) ?_
            repeat (go_big_quiet_step ((first | (go_at_call 48; exact v1.out _) | (go_at_call 49; exact v2.out _) | (go_at_call 82; exact v3.out _))))
            refine wpQuiet_nil ?_
            rintro _ ⟨i, rfl⟩
            go_wp2
            go_ret
            exact ⟨ret_bool HF.out.symm, HG.out i⟩
          | true =>
            by_cases hk0 : k = 0
            · have e5 : decide ((0 : Int) < (k : Int)) = false := decide_eq_false (by omega)
              have e6 : decide (0 < k) = false := decide_eq_false (by omega)
              have e7 : (k == 0) = true := by simp [hk0]
              have hS := Lib.hid (show rstep xs ts ls k = (decide (0 ≤ xc) && (decide (0 ≤ xd) && (decide (xc ≤ lf) && (decide (xd ≤ lf - xc) && !(xc + xd == 0))))) by rw [hS.out, e7]; rfl)
              clear e3 e7 hk0
              by_cases m0 : (xc < 0)
              · have m0' : decide (0 ≤ xc) = false := decide_eq_false (by omega)
                have HF := Lib.hid (show resB xs next ts hn ls = false by
                  rw [HR.out, range_at hlt (by rw [hS.out, m0']; rfl)])
                refine wp_region_fam f hf1' (by kernel_rfl) (by kernel_rfl) ?_
                repeat (go_big_quiet_step ((first | (go_at_call 48; exact v1.out _) | (go_at_call 49; exact v2.out _) | (go_at_call 82; exact v3.out _))))
                refine wpQuiet_nil ?_
                rintro _ ⟨i, rfl⟩
                go_wp2
                go_ret
                exact ⟨ret_bool HF.out.symm, HG.out i⟩
              · have m0' : decide (0 ≤ xc) = true := decide_eq_true (by omega)
                have m0'' : decide (xc < 0) = false := decide_eq_false (by omega)
                by_cases m1 : (xd < 0)
                · have m1' : decide (0 ≤ xd) = false := decide_eq_false (by omega)
                  have HF := Lib.hid (show resB xs next ts hn ls = false by
                    rw [HR.out, range_at hlt (by rw [hS.out, m0', m1']; rfl)])
                  refine wp_region_fam f hf1' (by kernel_rfl) (by kernel_rfl) ?_
                  repeat (go_big_quiet_step ((first | (go_at_call 48; exact v1.out _) | (go_at_call 49; exact v2.out _) | (go_at_call 82; exact v3.out _))))
                  refine wpQuiet_nil ?_
                  rintro _ ⟨i, rfl⟩
                  go_wp2
                  go_ret
                  exact ⟨ret_bool HF.out.symm, HG.out i⟩
                · have m1' : decide (0 ≤ xd) = true := decide_eq_true (by omega)
                  have m1'' : decide (xd < 0) = false := decide_eq_false (by omega)
                  by_cases m2 : (lf < xc)
                  · have m2' : decide (xc ≤ lf) = false := decide_eq_false (by omega)
                    have HF := Lib.hid (show resB xs next ts hn ls = false by
                      rw [HR.out, range_at hlt (by rw [hS.out, m0', m1', m2']; rfl)])
                    refine wp_region_fam f hf1' (by kernel_rfl) (by kernel_rfl) ?_
                    repeat (go_big_quiet_step ((first | (go_at_call 48; exact v1.out _) | (go_at_call 49; exact v2.out _) | (go_at_call 82; exact v3.out _))))
                    refine wpQuiet_nil ?_
                    rintro _ ⟨i, rfl⟩
                    go_wp2
                    go_ret
                    exact ⟨ret_bool HF.out.symm, HG.out i⟩
                  · have m2' : decide (xc ≤ lf) = true := decide_eq_true (by omega)
                    have m2'' : decide (lf < xc) = false := decide_eq_false (by omega)
                    by_cases m3 : (lf - xc < xd)
                    · have m3' : decide (xd ≤ lf - xc) = false := decide_eq_false (by omega)
                      have ws : IntKind.i64.wrap (lf - xc) = lf - xc := wrap_in _ (by omega) (by omega)
                      have HF := Lib.hid (show resB xs next ts hn ls = false by
                        rw [HR.out, range_at hlt (by rw [hS.out, m0', m1', m2', m3']; rfl)])
                      refine wp_region_fam f hf1' (by kernel_rfl) (by kernel_rfl) ?_
                      repeat (go_big_quiet_step ((first | (go_at_call 48; exact v1.out _) | (go_at_call 49; exact v2.out _) | (go_at_call 82; exact v3.out _))))
                      refine wpQuiet_nil ?_
                      rintro _ ⟨i, rfl⟩
                      go_wp2
                      go_ret
                      exact ⟨ret_bool HF.out.symm, HG.out i⟩
                    · have m3' : decide (xd ≤ lf - xc) = true := decide_eq_true (by omega)
                      have m3'' : decide (lf - xc < xd) = false := decide_eq_false (by omega)
                      have ws : IntKind.i64.wrap (lf - xc) = lf - xc := wrap_in _ (by omega) (by omega)
                      have wt : IntKind.i64.wrap (xc + xd) = xc + xd := wrap_in _ (by omega) (by omega)
                      cases m4 : (xc + xd == 0) with
                      | true =>
                        have HF := Lib.hid (show resB xs next ts hn ls = false by
                          rw [HR.out, range_at hlt (by rw [hS.out, m0', m1', m2', m3', m4]; rfl)])
                        refine wp_region_fam f hf1' (by kernel_rfl) (by kernel_rfl) ?_
                        repeat (go_big_quiet_step ((first | (go_at_call 48; exact v1.out _) | (go_at_call 49; exact v2.out _) | (go_at_call 82; exact v3.out _))))
                        refine wpQuiet_nil ?_
                        rintro _ ⟨i, rfl⟩
                        go_wp2
                        go_ret
                        exact ⟨ret_bool HF.out.symm, HG.out i⟩
                      | false =>
                        have HST := Lib.hid (range_snoc hst.out (by rw [hS.out, m0', m1', m2', m3', m4]; rfl))
                        have wl : -9223372036854775808 ≤ lf - (xc + xd) ∧ lf - (xc + xd) ≤ 9223372036854775807 := by omega
                        refine wp_region_fam f hf1' (by kernel_rfl) (by kernel_rfl) ?_
                        repeat (go_big_quiet_step ((first | (go_at_call 48; exact v1.out _) | (go_at_call 49; exact v2.out _) | (go_at_call 82; exact v3.out _))))
                        refine wpQuiet_nil ?_
                        rintro _ ⟨i, rfl⟩
                        have r2' := r2 i
                        have r3' := r3 i
                        have hBB := HF2.out i
                        clear r0 r1 r2 r3 s0 s1 s2 s3 q0 q1 q2 q3 v1 v2 v3 hf1'
                        generalize f i = W3 at *
                        go_wp2
                        go_roundw
                        case rel => exact ⟨k + 1, by omega, by go_num, by rw [hL.out], by rw [hL.out]; omega, by rw [hL.out]; omega, hB.trans ((hW2.mono (by omega)).trans (hBB.mono (by omega))), HST.out⟩
                        case measure => simp [intOf]; omega
            · have e5 : decide ((0 : Int) < (k : Int)) = true := decide_eq_true (by omega)
              have e6 : decide (0 < k) = true := decide_eq_true (by omega)
              have e7 : (k == 0) = false := by simp [hk0]
              replace e3 := e3.resolve_right hk0
              clear hk0
              by_cases m5 : 0 ≤ ord
              · have m6 : decide (ord < 0) = false := decide_eq_false (by omega)
                have HF := Lib.hid (show resB xs next ts hn ls = false by
                  rw [HR.out, range_at hlt (by rw [hS.out, e7, m6]; rfl)])
                refine wp_region_fam f hf1' (by kernel_rfl) (by kernel_rfl) ?_
                repeat (go_big_quiet_step ((first | (go_at_call 48; exact v1.out _) | (go_at_call 49; exact v2.out _) | (go_at_call 82; exact v3.out _))))
                refine wpQuiet_nil ?_
                rintro _ ⟨i, rfl⟩
                go_wp2
                go_ret
                exact ⟨ret_bool HF.out.symm, HG.out i⟩
              · have m6 : decide (ord < 0) = true := decide_eq_true (by omega)
                have m7 : decide (0 ≤ ord) = false := decide_eq_false m5
                have hS := Lib.hid (show rstep xs ts ls k = (decide (0 ≤ xc) && (decide (0 ≤ xd) && (decide (xc ≤ lf) && (decide (xd ≤ lf - xc) && !(xc + xd == 0))))) by rw [hS.out, e7, m6]; rfl)
                clear e7 m6
                by_cases m0 : (xc < 0)
                · have m0' : decide (0 ≤ xc) = false := decide_eq_false (by omega)
                  have HF := Lib.hid (show resB xs next ts hn ls = false by
                    rw [HR.out, range_at hlt (by rw [hS.out, m0']; rfl)])
                  refine wp_region_fam f hf1' (by kernel_rfl) (by kernel_rfl) ?_
                  repeat (go_big_quiet_step ((first | (go_at_call 48; exact v1.out _) | (go_at_call 49; exact v2.out _) | (go_at_call 82; exact v3.out _))))
                  refine wpQuiet_nil ?_
                  rintro _ ⟨i, rfl⟩
                  go_wp2
                  go_ret
                  exact ⟨ret_bool HF.out.symm, HG.out i⟩
                · have m0' : decide (0 ≤ xc) = true := decide_eq_true (by omega)
                  have m0'' : decide (xc < 0) = false := decide_eq_false (by omega)
                  by_cases m1 : (xd < 0)
                  · have m1' : decide (0 ≤ xd) = false := decide_eq_false (by omega)
                    have HF := Lib.hid (show resB xs next ts hn ls = false by
                      rw [HR.out, range_at hlt (by rw [hS.out, m0', m1']; rfl)])
                    refine wp_region_fam f hf1' (by kernel_rfl) (by kernel_rfl) ?_
                    repeat (go_big_quiet_step ((first | (go_at_call 48; exact v1.out _) | (go_at_call 49; exact v2.out _) | (go_at_call 82; exact v3.out _))))
                    refine wpQuiet_nil ?_
                    rintro _ ⟨i, rfl⟩
                    go_wp2
                    go_ret
                    exact ⟨ret_bool HF.out.symm, HG.out i⟩
                  · have m1' : decide (0 ≤ xd) = true := decide_eq_true (by omega)
                    have m1'' : decide (xd < 0) = false := decide_eq_false (by omega)
                    by_cases m2 : (lf < xc)
                    · have m2' : decide (xc ≤ lf) = false := decide_eq_false (by omega)
                      have HF := Lib.hid (show resB xs next ts hn ls = false by
                        rw [HR.out, range_at hlt (by rw [hS.out, m0', m1', m2']; rfl)])
                      refine wp_region_fam f hf1' (by kernel_rfl) (by kernel_rfl) ?_
                      repeat (go_big_quiet_step ((first | (go_at_call 48; exact v1.out _) | (go_at_call 49; exact v2.out _) | (go_at_call 82; exact v3.out _))))
                      refine wpQuiet_nil ?_
                      rintro _ ⟨i, rfl⟩
                      go_wp2
                      go_ret
                      exact ⟨ret_bool HF.out.symm, HG.out i⟩
                    · have m2' : decide (xc ≤ lf) = true := decide_eq_true (by omega)
                      have m2'' : decide (lf < xc) = false := decide_eq_false (by omega)
                      by_cases m3 : (lf - xc < xd)
                      · have m3' : decide (xd ≤ lf - xc) = false := decide_eq_false (by omega)
                        have ws : IntKind.i64.wrap (lf - xc) = lf - xc := wrap_in _ (by omega) (by omega)
                        have HF := Lib.hid (show resB xs next ts hn ls = false by
                          rw [HR.out, range_at hlt (by rw [hS.out, m0', m1', m2', m3']; rfl)])
                        refine wp_region_fam f hf1' (by kernel_rfl) (by kernel_rfl) ?_
                        repeat (go_big_quiet_step ((first | (go_at_call 48; exact v1.out _) | (go_at_call 49; exact v2.out _) | (go_at_call 82; exact v3.out _))))
                        refine wpQuiet_nil ?_
                        rintro _ ⟨i, rfl⟩
                        go_wp2
                        go_ret
                        exact ⟨ret_bool HF.out.symm, HG.out i⟩
                      · have m3' : decide (xd ≤ lf - xc) = true := decide_eq_true (by omega)
                        have m3'' : decide (lf - xc < xd) = false := decide_eq_false (by omega)
                        have ws : IntKind.i64.wrap (lf - xc) = lf - xc := wrap_in _ (by omega) (by omega)
                        have wt : IntKind.i64.wrap (xc + xd) = xc + xd := wrap_in _ (by omega) (by omega)
                        cases m4 : (xc + xd == 0) with
                        | true =>
                          have HF := Lib.hid (show resB xs next ts hn ls = false by
                            rw [HR.out, range_at hlt (by rw [hS.out, m0', m1', m2', m3', m4]; rfl)])
                          refine wp_region_fam f hf1' (by kernel_rfl) (by kernel_rfl) ?_
                          repeat (go_big_quiet_step ((first | (go_at_call 48; exact v1.out _) | (go_at_call 49; exact v2.out _) | (go_at_call 82; exact v3.out _))))
                          refine wpQuiet_nil ?_
                          rintro _ ⟨i, rfl⟩
                          go_wp2
                          go_ret
                          exact ⟨ret_bool HF.out.symm, HG.out i⟩
                        | false =>
                          have HST := Lib.hid (range_snoc hst.out (by rw [hS.out, m0', m1', m2', m3', m4]; rfl))
                          have wl : -9223372036854775808 ≤ lf - (xc + xd) ∧ lf - (xc + xd) ≤ 9223372036854775807 := by omega
                          refine wp_region_fam f hf1' (by kernel_rfl) (by kernel_rfl) ?_
                          repeat (go_big_quiet_step ((first | (go_at_call 48; exact v1.out _) | (go_at_call 49; exact v2.out _) | (go_at_call 82; exact v3.out _))))
                          refine wpQuiet_nil ?_
                          rintro _ ⟨i, rfl⟩
                          have r2' := r2 i
                          have r3' := r3 i
                          have hBB := HF2.out i
                          clear r0 r1 r2 r3 s0 s1 s2 s3 q0 q1 q2 q3 v1 v2 v3 hf1'
                          generalize f i = W3 at *
                          go_wp2
                          go_roundw
                          case rel => exact ⟨k + 1, by omega, by go_num, by rw [hL.out], by rw [hL.out]; omega, by rw [hL.out]; omega, hB.trans ((hW2.mono (by omega)).trans (hBB.mono (by omega))), HST.out⟩
                          case measure => simp [intOf]; omega
      · obtain rfl : k = ls.length := by omega
        have hki : ¬ (ls.length : Int) < (ls.length : Int) := by omega
        have HR2 := Lib.hid (show resB xs next ts hn ls = true by rw [HR.out, hst.out])
        generalize leftR (ls.take ls.length) = lf at *
        go_wp2
        go_ret
        exact ⟨ret_bool HR2.out.symm, hB2.trans (hB.mono (by omega))⟩

end Go.Proofs.Ytdkcdplpefpgjaa
