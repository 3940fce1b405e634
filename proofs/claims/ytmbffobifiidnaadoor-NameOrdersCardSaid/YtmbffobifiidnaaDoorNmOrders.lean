/-
  NameOrders: the walk.
-/
import Derived.Test.YtmbffobifiidnaaDoorSane1
import Derived.Test.YtmbffobifiidnaaDoorMadePath
import Derived.Test.YtmbffobifiidnaaDoorRoll
import Derived.Test.YtmbffobifiidnaaDoorRdNew
import Derived.Test.YtmbffobifiidnaaDoorRef1B
import Derived.Deep.RegionHeld3
import Derived.Deep.CutRange
set_option linter.unusedSimpArgs false
set_option linter.unusedVariables false
namespace Go.Proofs.YtmbffobifiidnaaDoor
open Go.RowKit Gc

def pcell (p : ByteArray × ByteArray) : List Value := [.string p.1, .string p.2]
theorem bel_trans' {a b c : World} (h : Below a.heap.size a b) (k : Below b.heap.size b c) : Below a.heap.size a c := h.trans (k.mono h.size)

set_option maxRecDepth 100000 in
set_option maxHeartbeats 8000000 in
theorem nameOrders_c (x y : ByteArray) (A0 : Option Addr) (c0 : Nat) (ts : List Int) (w : World) (hx : x.size ≤ 140737488351232) (hy : y.size ≤ 140737488351232)
    (h : Rd w 1 A0 (ts.map icells)) (hp : ∀ b, blk A0 = some b → b < w.heap.size) (hc : ts.length ≤ c0) :
    Calls Tryd.prog 3 #[.string x, .string y, .slice A0 ts.length c0] w fun e w' => e = .returned (.bool true) ∧ Below w.heap.size w w' := by
  by_cases hbig : 500 < x.size + y.size
  · have hb1 : (500 : Int) < (x.size : Int) + (y.size : Int) := by omega
    go_enter Tryd.func3, Tryd.ntmps3
    go_wp2_with fail
    refine (sane1_c w).mono ?_
    rintro e w1 ⟨rfl, hb⟩
    go_wp2_with fail
    go_ret
    exact ⟨rfl, hb⟩
  have hb1 : ¬ (500 : Int) < (x.size : Int) + (y.size : Int) := by omega
  go_enter Tryd.func3, Tryd.ntmps3
  go_wp2_with fail
  refine (light_c A0 ts.length c0 w).mono ?_
  rintro e w1 ⟨rfl, rfl⟩
  obtain ⟨b, hb0, hL⟩ : ∃ b : Bool, decide ((ts.length : Int) ≤ 600) = b ∧ (b = true → (ts.length : Int) ≤ 600) := ⟨_, rfl, fun h => of_decide_eq_true h⟩
  rw [hb0]
  clear hb0
  cases b
  case false =>
    go_wp2_with fail
    refine (sane1_c w).mono ?_
    rintro e w1 ⟨rfl, hb⟩
    go_wp2_with fail
    go_ret
    exact ⟨rfl, hb⟩
  replace hL := hL rfl
  go_wp2_with fail
  refine (roll_c A0 c0 ts w h hp hc (by omega)).mono ?_
  rintro e W1 ⟨d, rfl, hD1, hd, hb1'⟩
  clear h hp hc hL
  go_wp2_with fail
  refine (path_c d _ hD1).mono ?_
  rintro e W2 ⟨p, rfl, hps, hD2, hg2⟩
  go_wp2_with fail
  refine (path_c d _ hD2).mono ?_
  rintro e W3 ⟨q, rfl, hqs, hD3, hg3⟩
  go_wp2_with fail
  refine (path_c d _ hD3).mono ?_
  rintro e W4 ⟨u, rfl, hus, hD4, hg4⟩
  have hbw : Below w.heap.size w W4 := ((hb1'.grown hg2 hb1'.size (fun k e => by injection e with e; omega)).grown hg3 (Nat.le_trans hb1'.size hg2.size) (fun k e => by injection e with e; omega)).grown hg4 (Nat.le_trans hb1'.size (Nat.le_trans hg2.size hg3.size)) (fun k e => by injection e with e; omega)
  clear hD1 hb1' hD2 hg2 hD3 hg3 hD4 hg4
  obtain ⟨L, hL4, hLe, hLs⟩ : ∃ L : List (ByteArray × ByteArray), L.length = 4 ∧ (L.map pcell).flatten = [.string x, .string y, .string p, .string q, .string p, .string (p ++ ⟨#[47, 97]⟩), .string u, .string x] ∧ ∀ s ∈ L, s.1.size ≤ 1048576 ∧ s.2.size ≤ 1048576 :=
    ⟨[(x, y), (p, q), (p, p ++ ⟨#[47, 97]⟩), (u, x)], rfl, rfl, by
      have : (p ++ ⟨#[47, 97]⟩ : ByteArray).size = p.size + 2 := by rw [ba_app]; rfl
      simp [this]
      omega⟩
  have bx := Box.mk W4 ((L.map pcell).flatten) 28
  rw [hLe] at bx
  have hrd : Rd (W4.alloc (.cells #[.string x, .string y, .string p, .string q, .string p, .string (p ++ ⟨#[47, 97]⟩), .string u, .string x] 28)) 2 (some ⟨W4.heap.size, 0, none⟩) (L.map pcell) := by
    refine rd_box (T := 28) ?_ (by intro c hc; obtain ⟨s, -, rfl⟩ := List.mem_map.1 hc; rfl)
    rw [hLe]
    exact bx
  have hb5 : Below W4.heap.size W4 (W4.alloc (.cells #[.string x, .string y, .string p, .string q, .string p, .string (p ++ ⟨#[47, 97]⟩), .string u, .string x] 28)) := (Below.refl _ _).alloc (Nat.le_refl _) _
  have hbw5 := hbw.trans (hb5.mono hbw.size)
  have HLs := Lib.hid hLs
  have HL4 := Lib.hid hL4
  clear hL4 hLe hLs bx hbw hb5
  go_wp2_with fail
  generalize hWx : W4.alloc _ = W5 at *
  generalize W4.heap.size = lb at *
  clear hWx
  have HR := Lib.hid (show ∀ W, Below W5.heap.size W5 W → Rd W 2 (some ⟨lb, 0, none⟩) (L.map pcell) from fun W hW => hrd.below hW (Nat.le_refl _))
  clear hrd
  go_loopw [48] (fun i wr => ∃ k : Nat, i = .int .i64 k ∧ k ≤ 4 ∧ Below W5.heap.size W5 wr) (fun i _ => 4 - (intOf i).toNat)
  case atStart => exact ⟨0, rfl, by omega, Below.refl _ _⟩
  case round =>
    obtain ⟨i, rfl, hi, hbi⟩ := hrel
    by_cases hi4 : i = 4
    · subst hi4
      rw [show ((4 : Nat) : Int) = (4 : Int) from rfl]
      go_wp2_with fail
      refine (sane1_c _).mono ?_
      rintro e w9 ⟨rfl, hb9⟩
      have hfin := bel_trans' hbw5 (bel_trans' hbi hb9)
      go_wp2_with fail
      go_ret
      exact ⟨rfl, hfin⟩
    · have hilt : (i : Int) < 4 := by omega
      have hii : i < L.length := by rw [HL4.out]; omega
      obtain ⟨bb, oo, e1, hbs, hcc⟩ := (HR.out _ hbi).row (i := i) (c := pcell L[i]) (map_at _ hii)
      simp only [Option.some.injEq, Addr.mk.injEq, and_true] at e1
      obtain ⟨rfl, rfl⟩ := e1
      simp only [pcell, CellsFrom, Nat.add_zero, Nat.zero_add, Nat.reduceAdd] at hcc
      obtain ⟨c1, c2, -⟩ := hcc
      have hsz := HLs.out L[i] (List.getElem_mem hii)
      obtain ⟨hsa, hsb⟩ := hsz
      generalize (L[i]).1 = a at *
      generalize (L[i]).2 = b at *
      have bq := Box.mk wr [.string a, .string b] 28
      have hbq : Below wr.heap.size wr (wr.alloc (.cells #[.string a, .string b] 28)) := (Below.refl _ _).alloc (Nat.le_refl _) _
      have hbi6 := bel_trans' hbi hbq
      have H1 := Lib.hid (fun W => common_c a b W hsa hsb)
      have H2 := Lib.hid (fun W => rcommon_c a b W hsa hsb)
      have H3 := Lib.hid (fun W => under_c a b W hsa hsb)
      have H4 := Lib.hid (fun W => runder_c a b W hsa hsb)
      have H5 := Lib.hid (fun W => compare_c a b W hsa hsb)
      have H6 := Lib.hid (fun W => rcompare_c a b W hsa hsb)
      generalize (commonP a b).1 = cs at *
      generalize (commonP a b).2 = ce at *
      generalize underS a b = ub at *
      generalize cmpS a b = n at *
      have hzq := bq.lt
      obtain ⟨q0, q1, -⟩ := bq.cells
      simp only [Nat.zero_add, Nat.add_zero, Nat.reduceAdd] at q0 q1
      go_wp2_with fail
      generalize hWy : wr.alloc _ = wq at *
      generalize wr.heap.size = qb at *
      clear hWy hbq
      refine (H1.out _).mono ?_
      rintro e w1 ⟨rfl, hb1'⟩
      have r0 := (hb1'.cell (p := ⟨qb, 0, none⟩) hzq).trans q0
      have r1 := (hb1'.cell (p := ⟨qb, 1, none⟩) hzq).trans q1
      go_wp2_with fail
      refine (H2.out _).mono ?_
      rintro e w2 ⟨rfl, hb2'⟩
      have hb12 := bel_trans' hb1' hb2'
      have HS := Lib.hid (show ∀ W, Below wq.heap.size wq W → W.cell? ⟨qb, 0, none⟩ = some (.string a) ∧ W.cell? ⟨qb, 1, none⟩ = some (.string b) ∧ Below wq.heap.size wq W from fun W hW => ⟨(hW.cell (p := ⟨qb, 0, none⟩) hzq).trans q0, (hW.cell (p := ⟨qb, 1, none⟩) hzq).trans q1, hW⟩)
      have hbd : Below wq.heap.size wq w2.drew := hb12.drew
      have hS0 := HS.out _ hbd
      have h1b : -9223372036854775808 ≤ (i : Int) + 1 ∧ (i : Int) + 1 ≤ 9223372036854775807 := by omega
      clear r0 r1 q0 q1 c1 c2 H1 H2 hb1'
      have hS2 := HS.out _ hb12
      cases ub
      all_goals
        go_wp2_with fail
        go_region_held3 (fun W => W.cell? ⟨qb, 0, none⟩ = some (.string a) ∧ W.cell? ⟨qb, 1, none⟩ = some (.string b) ∧ Below wq.heap.size wq W)
          (first
            | exact hS0
            | exact HS.out _ (by first | exact hb6 | exact hb5 | exact hb4 | exact hb3 | assumption)
            | go_keep)
          ((first
            | (go_at_call 11; go_split_ands; refine (H3.out _).mono ?_; rintro e w3 ⟨rfl, hb3'⟩; have hb3 := bel_trans' hbd hb3')
            | (go_at_call 12; go_split_ands; refine (H4.out _).mono ?_; rintro e w4 ⟨rfl, hb4'⟩; have hb4 := bel_trans' hb3 hb4')
            | (go_at_call 13; go_split_ands; refine (H5.out _).mono ?_; rintro e w5 ⟨rfl, hb5'⟩; have hb5 := bel_trans' hb4 hb5')
            | (go_at_call 14; go_split_ands; refine (H6.out _).mono ?_; rintro e w6 ⟨rfl, hb6'⟩; have hb6 := bel_trans' hb5 hb6')))
        have hbf := bel_trans' hbi6 hb6
        go_wp2
        go_roundw
        case rel => exact ⟨i + 1, by go_num, by omega, hbf⟩
        case measure => simp [intOf]; omega
end Go.Proofs.YtmbffobifiidnaaDoor
