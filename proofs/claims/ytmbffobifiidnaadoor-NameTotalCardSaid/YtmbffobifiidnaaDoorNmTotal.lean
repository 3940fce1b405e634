/-
  NameTotal: the walk.
-/
import Derived.Test.YtmbffobifiidnaaDoorSane1
import Derived.Test.YtmbffobifiidnaaDoorMadePath
import Derived.Test.YtmbffobifiidnaaDoorRoll
import Derived.Test.YtmbffobifiidnaaDoorRdNew
import Derived.Deep.CutRange
set_option linter.unusedSimpArgs false
set_option linter.unusedVariables false
namespace Go.Proofs.YtmbffobifiidnaaDoor
open Go.RowKit Gc

theorem flat_scell : ∀ L : List ByteArray, (L.map scell).flatten = L.map Value.string
  | [] => rfl
  | s :: L => by rw [List.map_cons, List.flatten_cons, flat_scell L]; rfl

set_option maxRecDepth 100000 in
set_option maxHeartbeats 8000000 in
theorem nameTotal_c (x y z : ByteArray) (A0 : Option Addr) (c0 : Nat) (ts : List Int) (w : World) (hx : x.size ≤ 140737488351232) (hy : y.size ≤ 140737488351232) (hz : z.size ≤ 140737488351232)
    (h : Rd w 1 A0 (ts.map icells)) (hp : ∀ b, blk A0 = some b → b < w.heap.size) (hc : ts.length ≤ c0) :
    Calls Tryd.prog 4 #[.string x, .string y, .string z, .slice A0 ts.length c0] w fun e w' => e = .returned (.bool true) ∧ Below w.heap.size w w' := by
  by_cases hbig : 500 < x.size + y.size + z.size
  · have hb1 : (500 : Int) < (x.size : Int) + (y.size : Int) + (z.size : Int) := by omega
    go_enter Tryd.func4, Tryd.ntmps4
    go_wp2_with fail
    refine (sane1_c w).mono ?_
    rintro e w1 ⟨rfl, hb⟩
    go_wp2_with fail
    go_ret
    exact ⟨rfl, hb⟩
  have hb1 : ¬ (500 : Int) < (x.size : Int) + (y.size : Int) + (z.size : Int) := by omega
  go_enter Tryd.func4, Tryd.ntmps4
  go_wp2_with fail
  refine (light_c A0 ts.length c0 w).mono ?_
  rintro e w1 ⟨rfl, rfl⟩
  obtain ⟨b, hb0, hL⟩ : ∃ b : Bool, decide ((ts.length : Int) ≤ 600) = b ∧ (b = true → (ts.length : Int) ≤ 600) := ⟨_, rfl, fun h => of_decide_eq_true h⟩
  rw [hb0]
  clear hb0
  cases b
  case false =>
    go_wp2_with fail
    refine (sane1_c w).mono ?_
    rintro e w1 ⟨rfl, hb⟩
    go_wp2_with fail
    go_ret
    exact ⟨rfl, hb⟩
  replace hL := hL rfl
  go_wp2_with fail
  refine (roll_c A0 c0 ts w h hp hc (by omega)).mono ?_
  rintro e W1 ⟨d, rfl, hD1, hd, hb1'⟩
  clear h hp hc hL
  go_wp2_with fail
  refine (path_c d _ hD1).mono ?_
  rintro e W2 ⟨p, rfl, hps, hD2, hg2⟩
  go_wp2_with fail
  refine (path_c d _ hD2).mono ?_
  rintro e W3 ⟨q, rfl, hqs, hD3, hg3⟩
  go_wp2_with fail
  refine (word_c d _ hD3).mono ?_
  rintro e W4 ⟨u, rfl, hus, hD4, hg4⟩
  have hbw : Below w.heap.size w W4 := ((hb1'.grown hg2 hb1'.size (fun k e => by injection e with e; omega)).grown hg3 (Nat.le_trans hb1'.size hg2.size) (fun k e => by injection e with e; omega)).grown hg4 (Nat.le_trans hb1'.size (Nat.le_trans hg2.size hg3.size)) (fun k e => by injection e with e; omega)
  clear hD1 hb1' hD2 hg2 hD3 hg3 hD4 hg4
  obtain ⟨L, hL6, hLe, hLs⟩ : ∃ L : List ByteArray, L.length = 6 ∧ L.map Value.string = [.string x, .string y, .string z, .string p, .string q, .string u] ∧ ∀ s ∈ L, s.size ≤ 1048576 :=
    ⟨[x, y, z, p, q, u], rfl, rfl, by simp; omega⟩
  have bx := Box.mk W4 (L.map Value.string) 9
  rw [hLe] at bx
  have hb5 : Below W4.heap.size W4 (W4.alloc (.cells #[.string x, .string y, .string z, .string p, .string q, .string u] 9)) := (Below.refl _ _).alloc (Nat.le_refl _) _
  have hbw5 := hbw.trans (hb5.mono hbw.size)
  have hrd : Rd (W4.alloc (.cells #[.string x, .string y, .string z, .string p, .string q, .string u] 9)) 1 (some ⟨W4.heap.size, 0, none⟩) (L.map scell) := by
    refine rd_box (T := 9) ?_ (by intro c hc; obtain ⟨s, -, rfl⟩ := List.mem_map.1 hc; rfl)
    rw [flat_scell, hLe]
    exact bx
  have HLs := Lib.hid hLs
  have HL6 := Lib.hid hL6
  clear hL6 hLe hLs bx hbw hb5
  go_wp2_with fail
  generalize hWx : W4.alloc _ = W5 at *
  generalize W4.heap.size = lb at *
  clear hWx
  have HR := Lib.hid (show ∀ W, Below W5.heap.size W5 W → Rd W 1 (some ⟨lb, 0, none⟩) (L.map scell) from fun W hW => hrd.below hW (Nat.le_refl _))
  clear hrd
  go_loopw [47] (fun i wr => ∃ k : Nat, i = .int .i64 k ∧ k ≤ 6 ∧ Below W5.heap.size W5 wr) (fun i _ => 6 - (intOf i).toNat)
  case atStart => exact ⟨0, rfl, by omega, Below.refl _ _⟩
  case round =>
    obtain ⟨i, rfl, hi, hbi⟩ := hrel
    by_cases hi6 : i = 6
    · subst hi6
      rw [show ((6 : Nat) : Int) = (6 : Int) from rfl]
      go_wp2_with fail
      refine (sane1_c _).mono ?_
      rintro e w9 ⟨rfl, hb9⟩
      have hfin := hbw5.trans ((hbi.trans (hb9.mono hbi.size)).mono hbw5.size)
      go_wp2_with fail
      go_ret
      exact ⟨rfl, hfin⟩
    · have hilt : (i : Int) < 6 := by omega
      have hii : i < L.length := by rw [HL6.out]; omega
      obtain ⟨bb, oo, e1, hbs, hcc⟩ := (HR.out _ hbi).row (i := i) (c := scell L[i]) (map_at _ hii)
      simp only [Option.some.injEq, Addr.mk.injEq, and_true] at e1
      obtain ⟨rfl, rfl⟩ := e1
      simp only [scell, CellsFrom, Nat.add_zero, Nat.mul_one, Nat.zero_add] at hcc
      obtain ⟨c0', -⟩ := hcc
      have has := HLs.out L[i] (List.getElem_mem hii)
      generalize L[i] = a at *
      go_wp2_with fail
      go_loopw [53] (fun j wr => ∃ k : Nat, j = .int .i64 k ∧ k ≤ 6 ∧ Below W5.heap.size W5 wr) (fun j _ => 6 - (intOf j).toNat)
      case atStart => exact ⟨0, rfl, by omega, hbi⟩
      case round =>
        clear hbi c0' hbs
        obtain ⟨j, rfl, hj, hbj⟩ := hrel
        by_cases hj6 : j = 6
        · subst hj6
          rw [show ((6 : Nat) : Int) = (6 : Int) from rfl]
          have h1b : -9223372036854775808 ≤ (i : Int) + 1 ∧ (i : Int) + 1 ≤ 9223372036854775807 := by omega
          go_wp2
          go_roundw
          case rel => exact ⟨i + 1, by go_num, by omega, hbj⟩
          case measure => simp [intOf]; omega
        · have hjlt : (j : Int) < 6 := by omega
          have hjj : j < L.length := by rw [HL6.out]; omega
          obtain ⟨bb, oo, e1, hbs, hcc⟩ := (HR.out _ hbj).row (i := j) (c := scell L[j]) (map_at _ hjj)
          simp only [Option.some.injEq, Addr.mk.injEq, and_true] at e1
          obtain ⟨rfl, rfl⟩ := e1
          simp only [scell, CellsFrom, Nat.add_zero, Nat.mul_one, Nat.zero_add] at hcc
          obtain ⟨c1', -⟩ := hcc
          have hbsz := HLs.out L[j] (List.getElem_mem hjj)
          generalize L[j] = b at *
          have hv := linN.val a b
          have han := linN.anti a b
          have hze := linN.zero a b
          have heq := eq_str a b
          have hun := @under_lt a b
          have hbe := fun c => @under_below a b c
          have htr := fun c => linN.trans a b c
          have H1 := Lib.hid (fun W => compare_c a b W has hbsz)
          have H2 := Lib.hid (fun W => compare_c b a W hbsz has)
          have H3 := Lib.hid (fun W => under_c a b W has hbsz)
          rw [han] at H2
          generalize cmpS a b = n at *
          have Hun := Lib.hid hun
          have Hbe := Lib.hid hbe
          have Htr := Lib.hid htr
          have hnn : (n != - -n) = false := by rw [Int.neg_neg]; simp
          have hnb : -1 ≤ n ∧ n ≤ 1 := by omega
          obtain ⟨t, ht1, ht2, ht3⟩ : ∃ t : Bool, (n == 0) = t ∧ (a.toList == b.toList) = t ∧ (t = true ↔ a = b) := by
            refine ⟨decide (a = b), ?_, ?_, by simp⟩
            · rw [Bool.eq_iff_iff, beq_iff_eq, decide_eq_true_iff]; exact hze
            · rw [heq, decide_eq_decide]; exact linS.zero a b
          have Ht3 := Lib.hid ht3
          clear hun hbe htr ht3 heq hze han hv
          generalize underS a b = ub at *
          go_wp2_with fail
          refine (H1.out _).mono ?_
          rintro e w1 ⟨rfl, hb1⟩
          go_wp2_with fail
          refine (H2.out _).mono ?_
          rintro e w2 ⟨rfl, hb2⟩
          go_wp2_with fail
          refine (H3.out _).mono ?_
          rintro e w3 ⟨rfl, hb3⟩
          have hb13 := hbj.trans ((hb1.trans ((hb2.trans (hb3.mono hb2.size)).mono hb1.size)).mono hbj.size)
          have hU : ub = true → t = false → (n != -1) = false := fun e1 e2 => by
            rw [Hun.out e1 (fun e3 => by rw [Ht3.out.2 e3] at e2; cases e2)]
            rfl
          have HU := Lib.hid hU
          clear hU Hun c1' hbs hb1 hb2 hb3 hbj H1 H2
          have hfin : ∀ (ub' : Bool), ub' = ub → (ub' = false ∨ ub' = true ∧ t = true ∨ ub' = true ∧ t = false ∧ (n != -1) = false) := fun ub' e => by
            subst e
            cases hub : ub'
            · exact .inl rfl
            · cases ht : t
              · exact .inr (.inr ⟨rfl, rfl, HU.out hub ht⟩)
              · exact .inr (.inl ⟨rfl, rfl⟩)
          rcases hfin ub rfl with rfl | ⟨rfl, rfl⟩ | ⟨rfl, rfl, hn1⟩
          all_goals
            clear hfin HU
            go_wp2_with fail
            go_loopw [88] (fun l wr => ∃ k : Nat, l = .int .i64 k ∧ k ≤ 6 ∧ Below W5.heap.size W5 wr) (fun l _ => 6 - (intOf l).toNat)
            case atStart => exact ⟨0, rfl, by omega, hb13⟩
            case round =>
              clear hb13
              obtain ⟨l, rfl, hl, hbl⟩ := hrel
              by_cases hl6 : l = 6
              · subst hl6
                rw [show ((6 : Nat) : Int) = (6 : Int) from rfl]
                have h1b : -9223372036854775808 ≤ (j : Int) + 1 ∧ (j : Int) + 1 ≤ 9223372036854775807 := by omega
                go_wp2
                go_roundw
                case rel => exact ⟨j + 1, by go_num, by omega, hbl⟩
                case measure => simp [intOf]; omega
              · have hllt : (l : Int) < 6 := by omega
                have hll : l < L.length := by rw [HL6.out]; omega
                obtain ⟨bb, oo, e1, hbs, hcc⟩ := (HR.out _ hbl).row (i := l) (c := scell L[l]) (map_at _ hll)
                simp only [Option.some.injEq, Addr.mk.injEq, and_true] at e1
                obtain ⟨rfl, rfl⟩ := e1
                simp only [scell, CellsFrom, Nat.add_zero, Nat.mul_one, Nat.zero_add] at hcc
                obtain ⟨c2', -⟩ := hcc
                have hcsz := HLs.out L[l] (List.getElem_mem hll)
                generalize L[l] = cc at *
                have HAB := Lib.hid (show ∀ W, Below W5.heap.size W5 W → _ from fun W hW => (H3.out W).mono (fun e w' (hh : _ ∧ _) => (⟨hh.1, hW.trans (hh.2.mono hW.size)⟩ : _ ∧ Below W5.heap.size W5 w')))
                have HBC := Lib.hid (show ∀ W, Below W5.heap.size W5 W → _ from fun W hW => (compare_c b cc W hbsz hcsz).mono (fun e w' (hh : _ ∧ _) => (⟨hh.1, hW.trans (hh.2.mono hW.size)⟩ : _ ∧ Below W5.heap.size W5 w')))
                have HAC := Lib.hid (show ∀ W, Below W5.heap.size W5 W → _ from fun W hW => (compare_c a cc W has hcsz).mono (fun e w' (hh : _ ∧ _) => (⟨hh.1, hW.trans (hh.2.mono hW.size)⟩ : _ ∧ Below W5.heap.size W5 w')))
                have HUC := Lib.hid (show ∀ W, Below W5.heap.size W5 W → _ from fun W hW => (under_c a cc W has hcsz).mono (fun e w' (hh : _ ∧ _) => (⟨hh.1, hW.trans (hh.2.mono hW.size)⟩ : _ ∧ Below W5.heap.size W5 w')))
                have HF1 := Lib.hid (Htr.out cc)
                have HF2 := Lib.hid (Hbe.out cc)
                clear hbs
                generalize cmpS b cc = m at *
                generalize cmpS a cc = k at *
                generalize underS a cc = uc at *
                have h1b : -9223372036854775808 ≤ (l : Int) + 1 ∧ (l : Int) + 1 ≤ 9223372036854775807 := by omega
                clear ht1 ht2 H3 Htr Hbe Ht3
                by_cases hn : n ≤ 0 <;> by_cases hm : m ≤ 0 <;> by_cases hk : k < 0 <;> cases uc
                all_goals
                  have hk0 : n ≤ 0 → m ≤ 0 → k ≤ 0 := HF1.out
                  have hk1 : n ≤ 0 ∧ m ≤ 0 → ¬ 0 < k := fun e => by have := hk0 e.1 e.2; omega
                  first | (have hk2 := hk1 ⟨hn, hm⟩) | skip
                  first | (have hm2 : m < 0 := (by first | exact HF2.out trivial rfl hk | exact HF2.out rfl rfl hk); have hm3 : ¬ 0 ≤ m := by omega) | skip
                  clear hk0 hk1 HF1 HF2
                  go_wp2_with (first
                    | (go_at_call 13; first | ((with_reducible refine (HBC.out _ (by assumption)).mono ?_); rintro e w' ⟨rfl, hb'⟩) | ((with_reducible refine (HAC.out _ (by assumption)).mono ?_); rintro e w' ⟨rfl, hb'⟩))
                    | (go_at_call 11; first | ((with_reducible refine (HAB.out _ (by assumption)).mono ?_); rintro e w' ⟨rfl, hb'⟩) | ((with_reducible refine (HUC.out _ (by assumption)).mono ?_); rintro e w' ⟨rfl, hb'⟩)))
                  all_goals
                    first
                      | (exfalso; omega)
                      | (refine ⟨⟨l + 1, by go_num, by omega, by assumption⟩, ?_⟩; simp [intOf]; omega)
end Go.Proofs.YtmbffobifiidnaaDoor
