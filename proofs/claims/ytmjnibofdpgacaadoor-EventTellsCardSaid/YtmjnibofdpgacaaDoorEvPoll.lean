/-
  event.Poll.
-/
import Derived.Test.YtmjnibofdpgacaaDoorEvAdd
set_option linter.unusedSimpArgs false
set_option linter.unusedVariables false
namespace Gc
open Go Go.RowKit

/-- the watchers when n of them have looked -/
def looked (xs : List Grp) (ls : List Tal) (ws : List Wat) (n : Nat) : List Wat := (ws.take n).map (lookE xs ls) ++ ws.drop n
theorem looked_zero (xs : List Grp) (ls : List Tal) (ws : List Wat) : looked xs ls ws 0 = ws := by simp [looked]
theorem looked_all (xs : List Grp) (ls : List Tal) (ws : List Wat) : looked xs ls ws ws.length = ws.map (lookE xs ls) := by simp [looked]
theorem looked_len (xs : List Grp) (ls : List Tal) (ws : List Wat) (n : Nat) (h : n ≤ ws.length) : (looked xs ls ws n).length = ws.length := by simp [looked]; omega
theorem looked_at (xs : List Grp) (ls : List Tal) (ws : List Wat) (n : Nat) (h : n < ws.length) : (looked xs ls ws n)[n]'(by rw [looked_len xs ls ws n (by omega)]; exact h) = ws[n] := by
  simp only [looked]
  rw [List.getElem_append_right (by simp; omega)]
  have e : n - ((ws.take n).map (lookE xs ls)).length = 0 := by simp; omega
  simp only [e, List.getElem_drop, Nat.add_zero]
theorem looked_succ (xs : List Grp) (ls : List Tal) (ws : List Wat) (n : Nat) (h : n < ws.length) : looked xs ls ws (n + 1) = (looked xs ls ws n).set n (lookE xs ls ws[n]) := by
  unfold looked
  have e : n - ((ws.take n).map (lookE xs ls)).length = 0 := by simp; omega
  rw [take_snoc _ _ h, List.map_append, List.set_append_right _ _ (by simp; omega), e, List.drop_eq_getElem_cons h, List.set_cons_zero]
  simp [-List.take_append_getElem]
theorem set_self {α : Type} (l : List α) (n : Nat) (h : n < l.length) : l.set n l[n] = l := by simp

/-- the indexes told among the first n watchers -/
def toldN (xs : List Grp) (ls : List Tal) (ws : List Wat) (n : Nat) : List Int := ((List.range n).filter (fun i => newsB xs ls (ws.getD i default))).map (fun i : Nat => (i : Int))
theorem toldN_hit (xs : List Grp) (ls : List Tal) (ws : List Wat) (n : Nat) (h : n < ws.length) (e : newsB xs ls ws[n] = true) : toldN xs ls ws (n + 1) = toldN xs ls ws n ++ [(n : Int)] := by
  unfold toldN
  have hf : List.filter (fun i => newsB xs ls (ws.getD i default)) [n] = [n] := by simp only [List.filter_cons, List.filter_nil]; rw [getD_at h, e]; rfl
  rw [List.range_succ, List.filter_append, List.map_append, hf]
  rfl
theorem toldN_miss (xs : List Grp) (ls : List Tal) (ws : List Wat) (n : Nat) (h : n < ws.length) (e : newsB xs ls ws[n] = false) : toldN xs ls ws (n + 1) = toldN xs ls ws n := by
  unfold toldN
  have hf : List.filter (fun i => newsB xs ls (ws.getD i default)) [n] = [] := by simp only [List.filter_cons, List.filter_nil]; rw [getD_at h, e]; rfl
  rw [List.range_succ, List.filter_append, List.map_append, hf]
  simp
theorem toldN_len (xs : List Grp) (ls : List Tal) (ws : List Wat) (n : Nat) : (toldN xs ls ws n).length ≤ n := by
  unfold toldN
  rw [List.length_map]
  exact Nat.le_trans (List.length_filter_le _ _) (by simp)
end Gc
namespace Go.Proofs.YtmjnibofdpgacaaDoor
open Go.RowKit Gc

theorem siWat : SliceTy Tryd.prog 36 62 3 24 := SliceTy.mk' Tryd.underlying36 (z := .agg #[.int .i64 0, .int .i64 0, .int .i64 0]) (by kernel_rfl) rfl (by omega)

set_option maxRecDepth 100000 in
set_option maxHeartbeats 1000000 in
theorem cloneWat_c (A : Option Addr) (c : Nat) (ls : List Wat) (w : World) (h : Rd w 3 A (ls.map Wat.cells)) (hnil : A = none → c = 0) (hl : ls.length ≤ 1048576) :
    Calls Tryd.prog 38 #[.slice A ls.length c] w fun e w' => ∃ v, e = .returned v ∧ Own w' w.heap.size 62 3 v (ls.map Wat.cells) ∧ Below w.heap.size w w' := by
  have hq := fun (w : World) a n c => Lib.run_eql_slice_nil (P := Tryd.prog) w 36 62 a n c 0 0 Tryd.underlying36
  rcases A with _ | a
  · obtain rfl := hnil rfl
    have : ls = [] := by
      rcases ls with _ | ⟨x, ls⟩
      · rfl
      · obtain ⟨b, o, e, _⟩ := h 0 (by simp)
        cases e
    subst this
    go_enter Tryd.func38, Tryd.ntmps38
    go_wp2
    go_ret
    exact ⟨_, rfl, Own.nil _ _ _ _, Below.refl _ _⟩
  · go_enter Tryd.func38, Tryd.ntmps38
    have ho : Own (w.alloc (.cells #[] 62)) w.heap.size 62 3 (.slice (some ⟨w.heap.size, 0, none⟩) 0 0) [] :=
      ⟨⟨rfl, .inr ⟨w.heap.size, 0, #[], rfl, Nat.le_refl _, by show (w.heap.push _)[w.heap.size]? = _; simp, Nat.le_refl _, by simp [maxLen], by simp, by simp⟩⟩, by simp⟩
    have hB : Below w.heap.size w (w.alloc (.cells #[] 62)) := (Below.refl _ _).alloc (Nat.le_refl _) _
    have hR := h.below hB (Nat.le_refl _)
    have hz : w.heap.size ≤ (w.alloc (.cells #[] 62)).heap.size := by simp
    go_wp2_with (at_builtin; refine appAny siWat (ls.map Wat.cells) rfl _ _ rfl rfl rfl ho hR (by simp) (Wat.cells_len _) (Wat.cells_one _) (by simp; omega) (by omega) hz ?_; intro v w1 hown hg hat)
    go_ret
    exact ⟨_, rfl, by simpa using hown, hB.grown hg hz (fun k e => by cases e; exact Nat.le_refl _)⟩

set_option maxRecDepth 100000 in
set_option maxHeartbeats 4000000 in
theorem evPoll_c (A : Option Addr) (c : Nat) (xs : List Grp) (next : Int) (D : Option Addr) (e : Nat) (ls : List Tal) (E : Option Addr) (d : Nat) (ws : List Wat) (w : World) (hA : Rd w 6 A (xs.map Grp.cells)) (hok : ∀ x ∈ xs, x.ok) (hlA : xs.length ≤ 1048576) (hcap : xs.length ≤ c)
    (hD : Rd w 7 D (ls.map Tal.cells)) (hlD : ls.length ≤ 1048576) (hE : Rd w 3 E (ws.map Wat.cells)) (hnil : E = none → d = 0) (hlE : ws.length ≤ 1048576) :
    Calls Tryd.prog 14 #[.agg #[.slice A xs.length c, .int .i64 next], .slice D ls.length e, .slice E ws.length d] w fun e w' => ∃ v v', e = .returned (.tuple #[v, v', .int .i64 (pollE xs next ls ws).2.2]) ∧
       Own w' w.heap.size 62 3 v ((pollE xs next ls ws).1.map Wat.cells) ∧ Own w' w.heap.size 3 1 v' ((pollE xs next ls ws).2.1.map icells) ∧ Below w.heap.size w w' := by
  have hB1 : Below w.heap.size w (w.alloc (.cells #[.slice A xs.length c, .int .i64 next] 24)) := (Below.refl _ _).alloc (Nat.le_refl _) _
  have hA1 := hA.below hB1 (Nat.le_refl _)
  have hD1 := hD.below hB1 (Nat.le_refl _)
  have hE1 := hE.below hB1 (Nat.le_refl _)
  have z1 := hB1.size
  have b1 := Box.mk w [.slice A xs.length c, .int .i64 next] 24
  have HV := Lib.hid (fun W hA hD => evValid_c A c xs next D e ls W hA hok (by omega) hcap hD (by omega))
  have HF := Lib.hid (fun id W hD => evFind_c D e ls id W hD (by omega))
  have HT := Lib.hid (fun id k W hA hD hs => evtotal_c A c xs next D e ls id k W hA hlA hD (by omega) hs)
  have HCl := Lib.hid (fun W hE => cloneWat_c E d ws W hE hnil hlE)
  have hR := Lib.hid (show pollE xs next ls ws = if evB xs next ls = false then ([], [], 1) else if 32 < ws.length then ([], [], 7) else (ws.map (lookE xs ls), toldE xs ls ws, 0) from rfl)
  go_enter Tryd.func14, Tryd.ntmps14
  go_wp2_with fail
  generalize hWx : w.alloc _ = W1 at *
  clear hWx hA hD hE
  refine (HV.out W1 hA1 hD1).mono ?_
  rintro e0 W ⟨rfl, hb⟩
  have b2 := b1.below hb (Nat.le_refl _)
  have hA2 := hA1.below hb (Nat.le_refl _)
  have hD2 := hD1.below hb (Nat.le_refl _)
  have hE2 := hE1.below hb (Nat.le_refl _)
  have hB2 := hB1.trans (hb.mono z1)
  have z2 := b2.lt
  clear hB1 hA1 hD1 hE1 b1 hb HV z1
  cases g1 : evB xs next ls with
  | false =>
    have HR := Lib.hid (show pollE xs next ls ws = ([], [], 1) by rw [hR.out, if_pos g1])
    clear hR g1 hnil
    go_wp2
    go_ret3
    exact ⟨.slice none 0 0, .slice none 0 0, by rw [HR.out]; rfl, by rw [HR.out]; exact Own.nil _ _ _ _, by rw [HR.out]; exact Own.nil _ _ _ _, hB2⟩
  | true =>
    have hR := Lib.hid (show pollE xs next ls ws = if 32 < ws.length then ([], [], 7) else (ws.map (lookE xs ls), toldE xs ls ws, 0) by rw [hR.out, if_neg (by rw [g1]; simp)])
    have HSm := Lib.hid (smallT_of g1)
    clear g1
    by_cases g2 : 32 < ws.length
    · have HR := Lib.hid (show pollE xs next ls ws = ([], [], 7) by rw [hR.out, if_pos g2])
      have g3 : (32 : Int) < (ws.length : Int) := by omega
      clear hR hnil
      go_wp2
      go_ret3
      exact ⟨.slice none 0 0, .slice none 0 0, by rw [HR.out]; rfl, by rw [HR.out]; exact Own.nil _ _ _ _, by rw [HR.out]; exact Own.nil _ _ _ _, hB2⟩
    · have HR := Lib.hid (show pollE xs next ls ws = (ws.map (lookE xs ls), toldE xs ls ws, 0) by rw [hR.out, if_neg g2])
      have g3 : ¬ (32 : Int) < (ws.length : Int) := by omega
      clear hR hnil
      go_wp2_with fail
      refine (HCl.out W hE2).mono ?_
      rintro e0 W2 ⟨v5, rfl, hown5, hb⟩
      have b3 := b2.below hb (Nat.le_refl _)
      have HA2 := Lib.hid hA2
      have HD2 := Lib.hid hD2
      have Hb2 := Lib.hid b2
      have hB3 := hB2.trans (hb.mono hB2.size)
      have z3 := b3.lt
      have z5 := hb.size
      obtain ⟨A5, c5, rfl, hn5, -, -, hb5, hlt5⟩ := hown5.rd
      rw [List.length_map] at *
      clear hA2 hD2 hE2 b2 hB2 HCl
      go_wp2
      go_loopw [10, 25] (fun t i wr => ∃ n : Nat, n ≤ ws.length ∧ i = .int .i64 n ∧ Own wr W.heap.size 62 3 (.slice A5 ws.length c5) ((looked xs ls ws n).map Wat.cells) ∧ Own wr W2.heap.size 3 1 t ((toldN xs ls ws n).map icells) ∧ Below W.heap.size W2 wr)
        (fun _ i _ => ws.length - (intOf i).toNat)
      case atStart => exact ⟨0, Nat.zero_le _, rfl, by rw [looked_zero]; exact hown5, Own.nil _ _ _ _, Below.refl _ _⟩
      case round =>
        obtain ⟨n, hn, rfl, hown, htold, hB⟩ := hrel
        have zr := hB.size
        have hBr := hB3.trans (hB.mono (by omega))
        by_cases hlt : n < ws.length
        · have hni : (n : Int) < (ws.length : Int) := by omega
          have hll := looked_len xs ls ws n hn
          obtain ⟨g, c6, e1, hn6, -, hBg, hgs, hf, hrd⟩ := hown.open' (by rw [List.length_map]; omega)
          simp only [Value.slice.injEq, List.length_map] at e1
          obtain ⟨rfl, -, rfl⟩ := e1
          have hg2 := (hlt5 g rfl).2
          obtain ⟨b', o', e2, -, hc⟩ := hrd.row (i := n) (c := ws[n].cells) (by rw [List.getElem?_map, List.getElem?_eq_getElem (by omega), looked_at xs ls ws n hlt]; rfl)
          simp only [Option.some.injEq, Addr.mk.injEq, and_true] at e2
          obtain ⟨rfl, rfl⟩ := e2
          have HL := Lib.hid (looked_succ xs ls ws n hlt)
          have Hat := Lib.hid (looked_at xs ls ws n hlt)
          have Hhit := Lib.hid (toldN_hit xs ls ws n hlt)
          have Hmiss := Lib.hid (toldN_miss xs ls ws n hlt)
          have htl := toldN_len xs ls ws n
          have hWr : Below W.heap.size W wr := hb.trans hB
          have hA4 := HA2.out.below hWr (Nat.le_refl _)
          have hD4 := HD2.out.below hWr (Nat.le_refl _)
          have b4 := Hb2.out.below hWr (Nat.le_refl _)
          generalize ws[n] = x at *
          obtain ⟨pg, pk, ps⟩ := x
          have HLk := Lib.hid (show lookE xs ls ⟨pg, pk, ps⟩ = if newsB xs ls ⟨pg, pk, ps⟩ then ⟨pg, pk, totE xs ls pg pk⟩ else ⟨pg, pk, ps⟩ from rfl)
          have HN := Lib.hid (show newsB xs ls ⟨pg, pk, ps⟩ = (decide (0 ≤ tix ls pg) && (kindB pk && (totE xs ls pg pk != ps))) from rfl)
          have hsame := Lib.hid (fun (h : newsB xs ls ⟨pg, pk, ps⟩ = false) => (show looked xs ls ws (n + 1) = looked xs ls ws n by
            have e3 := set_self (looked xs ls ws n) n (by omega)
            rw [Hat.out] at e3
            rw [HL.out, HLk.out, h]
            exact e3))
          have hz0 : (∃ m : Nat, tix ls pg = m ∧ m < ls.length) ∨ tix ls pg = -1 := idx_cases _ _
          simp only [Wat.cells, CellsFrom, Nat.add_zero, Nat.zero_add, Nat.reduceAdd] at hc
          obtain ⟨c0, c1, c2, -⟩ := hc
          go_wp2_with fail
          refine (HF.out pg wr hD4).mono ?_
          rintro e0 W4 ⟨rfl, hb4⟩
          have c0 := (hb4.cell (p := ⟨g, n * 3, none⟩) hgs).trans c0
          have c1 := (hb4.cell (p := ⟨g, n * 3 + 1, none⟩) hgs).trans c1
          have c2 := (hb4.cell (p := ⟨g, n * 3 + 2, none⟩) hgs).trans c2
          have hf4 := (hb4.frozen (p := ⟨g, n * 3 + 2, none⟩) hgs).trans (hf _)
          have hA5 := hA4.below hb4 (Nat.le_refl _)
          have hD5 := hD4.below hb4 (Nat.le_refl _)
          have b5 := b4.below hb4 (Nat.le_refl _)
          have hown4 := hown.below hb4 (Nat.le_refl _)
          have htold4 := htold.below hb4 (Nat.le_refl _)
          have hB4 := hB.trans (hb4.mono (by omega))
          have z4 := hb4.size
          clear hA4 hD4 b4 hrd hown htold hf hWr hb
          rcases hz0 with ⟨m, hm, hml⟩ | hm
          · rw [hm] at HN ⊢
            have g4 : ¬ ((m : Int) < 0) := by omega
            go_wp2_with fail
            refine (kinds_c pk W4).mono ?_
            rintro e0 W5 ⟨rfl, rfl⟩
            cases g5 : kindB pk with
            | false =>
              have hnf := Lib.hid (show newsB xs ls ⟨pg, pk, ps⟩ = false by rw [HN.out, g5]; simp)
              clear g5
              go_wp2
              go_roundw
              case rel => exact ⟨n + 1, by omega, by go_num, by rw [hsame.out hnf.out]; exact hown4, by rw [Hmiss.out hnf.out]; exact htold4, hB4⟩
              case measure => simp [intOf]; omega
            | true =>
              have HN := Lib.hid (show newsB xs ls ⟨pg, pk, ps⟩ = (totE xs ls pg pk != ps) by rw [HN.out, g5, decide_eq_true (by omega)]; rfl)
              clear g5
              obtain ⟨t0, t1, -⟩ := b5.cells
              simp only [Nat.zero_add, Nat.add_zero, Nat.reduceAdd] at t0 t1
              have zb := b5.lt
              have hgs4 : g < W5.heap.size := by omega
              obtain ⟨ι, f, hf1, hf2, hf3⟩ := fam W5
              have hne : Nonempty ι := ⟨hf1.choose⟩
              have f0 : ∀ i, (f i).cell? ⟨w.heap.size, 0, none⟩ = some (.slice A xs.length c) := fun i => ((hf2 i).cell (p := ⟨w.heap.size, 0, none⟩) zb).trans t0
              have f1 : ∀ i, (f i).cell? ⟨w.heap.size, 1, none⟩ = some (.int .i64 next) := fun i => ((hf2 i).cell (p := ⟨w.heap.size, 1, none⟩) zb).trans t1
              have f2 : ∀ i, (f i).cell? ⟨g, n * 3, none⟩ = some (.int .i64 pg) := fun i => ((hf2 i).cell (p := ⟨g, n * 3, none⟩) hgs4).trans c0
              have f3 : ∀ i, (f i).cell? ⟨g, n * 3 + 1, none⟩ = some (.int .i64 pk) := fun i => ((hf2 i).cell (p := ⟨g, n * 3 + 1, none⟩) hgs4).trans c1
              have HF2 := Lib.hid hf2
              have HF3 := Lib.hid hf3
              have HV := Lib.hid (fun i => fam_call hf2 hf3 (HT.out pg pk (f i) (hA5.below (hf2 i) (Nat.le_refl _)) (hD5.below (hf2 i) (Nat.le_refl _)) HSm.out))
              clear hf2 hf3 t0 t1 c0 c1
              generalize totE xs ls pg pk = tt at *
              go_wp2_with fail
              refine wp_region_fam f hf1 (by kernel_rfl) (by kernel_rfl) ?_
              repeat (go_big_quiet_step ((go_at_call 39; exact HV.out _)))
              refine wpQuiet_nil ?_
              rintro _ ⟨i, rfl⟩
              have hb6 := HF2.out i
              clear f0 f1 f2 f3 hf1 HV
              generalize f i = W6 at *
              have c2 := (hb6.cell (p := ⟨g, n * 3 + 2, none⟩) hgs4).trans c2
              have hf6 := (hb6.frozen (p := ⟨g, n * 3 + 2, none⟩) hgs4).trans hf4
              have hown6 := hown4.below hb6 (Nat.le_refl _)
              have htold6 := htold4.below hb6 (Nat.le_refl _)
              have hB6 := hB4.trans (hb6.mono (by omega))
              have z6 := hb6.size
              clear hown4 htold4 hB4 hf4
              cases g6 : (tt != ps) with
              | false =>
                have hnf := Lib.hid (show newsB xs ls ⟨pg, pk, ps⟩ = false by rw [HN.out, g6])
                go_wp2
                go_roundw
                case rel => exact ⟨n + 1, by omega, by go_num, by rw [hsame.out hnf.out]; exact hown6, by rw [Hmiss.out hnf.out]; exact htold6, hB6⟩
                case measure => simp [intOf]; omega
              | true =>
                have hnt := Lib.hid (show newsB xs ls ⟨pg, pk, ps⟩ = true by rw [HN.out, g6])
                have hblk : u10.ownBlock ≠ some g := fun e => by have := (htold6.lt e).1; omega
                have hown7 := hown6.set rfl (i := n) (j := 2) (by rw [List.length_map]; omega) (by omega) (.int .i64 tt)
                have hfin : (looked xs ls ws (n + 1)).map Wat.cells = ((looked xs ls ws n).map Wat.cells).set n ((((looked xs ls ws n).map Wat.cells)[n]'(by rw [List.length_map]; omega)).set 2 (.int .i64 tt)) := by
                  rw [HL.out, List.map_set, HLk.out, hnt.out, if_pos rfl]
                  have : ((looked xs ls ws n).map Wat.cells)[n]'(by rw [List.length_map]; omega) = Wat.cells ⟨pg, pk, ps⟩ := by rw [List.getElem_map, Hat.out]
                  rw [this]
                  rfl
                rw [← hfin] at hown7
                have htold7 := htold6.setCell_other (a := ⟨g, n * 3 + 2, none⟩) hblk (.int .i64 tt)
                have hB7 := hB6.setCell (p := ⟨g, n * 3 + 2, none⟩) hBg (.int .i64 tt)
                have z7 : W2.heap.size ≤ (W6.setCell ⟨g, n * 3 + 2, none⟩ (.int .i64 tt)).heap.size := by simp [World.setCell]; omega
                have HO7 := Lib.hid hown7
                have HB7 := Lib.hid hB7
                clear hown6 htold6 hB6 hown7 hB7 hfin
                go_wp2_with (at_builtin; refine app1 siInt (icells n) rfl _ _ rfl rfl rfl htold7 (by simp [World.setCell]) rfl rfl (by rw [List.length_map]; omega) (by omega) z7 (Below.refl _ _) ?_; intro v8 w8 htold8 hB8 hg8 hat8)
                go_roundw
                case rel =>
                  refine ⟨n + 1, by omega, by go_num, ?_, by rw [Hhit.out hnt.out, List.map_append]; exact htold8, HB7.out.trans (hB8.mono (by omega))⟩
                  exact (HO7.out.alloc _).kept hg8 (.inr (fun e => hblk e.symm))
                case measure => simp [intOf]; omega
          · have hnf := Lib.hid (show newsB xs ls ⟨pg, pk, ps⟩ = false by rw [HN.out, hm]; rfl)
            rw [hm]
            go_wp2
            go_roundw
            case rel => exact ⟨n + 1, by omega, by go_num, by rw [hsame.out hnf.out]; exact hown4, by rw [Hmiss.out hnf.out]; exact htold4, hB4⟩
            case measure => simp [intOf]; omega
        · obtain rfl : n = ws.length := by omega
          have hki : ¬ (ws.length : Int) < (ws.length : Int) := by omega
          rw [looked_all] at hown
          go_wp2
          go_ret3
          exact ⟨_, _, by rw [HR.out]; rfl, by rw [HR.out]; exact hown.base (by omega), by rw [HR.out]; exact htold.base (by omega), hBr⟩

end Go.Proofs.YtmjnibofdpgacaaDoor
