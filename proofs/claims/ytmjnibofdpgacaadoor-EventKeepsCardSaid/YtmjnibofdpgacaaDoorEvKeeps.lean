/-
  EventKeeps: the walk.
-/
import Derived.Test.YtmjnibofdpgacaaDoorEvKeepsP
import Derived.Test.YtmjnibofdpgacaaDoorMadeTree
import Derived.Test.YtmjnibofdpgacaaDoorLight
import Derived.Test.YtmjnibofdpgacaaDoorEvAdd
import Derived.Test.YtmjnibofdpgacaaDoorEvRemove
import Derived.Test.YtmjnibofdpgacaaDoorEvTotal
import Derived.Test.YtmjnibofdpgacaaDoorEvAdjust
import Derived.Test.YtmjnibofdpgacaaDoorSane37
import Derived.Deep.RegionHeld3
import Derived.Deep.CutRange
set_option linter.unusedSimpArgs false
set_option linter.unusedVariables false
namespace Gc
open Go Go.RowKit
theorem bel_alloc {a W : World} (h : Below a.heap.size a W) (o : Obj) : Below a.heap.size a (W.alloc o) := h.alloc h.size o
theorem bel_set {a W : World} (h : Below a.heap.size a W) {q : Addr} (hq : a.heap.size ≤ q.block) (x : Value) : Below a.heap.size a (W.setCell q x) :=
  ⟨h.os, h.tape, h.output, by have := h.size; simpa [World.setCell] using this, fun i hi => by rw [Below.heap_setCell _ _ _ _ (show i ≠ q.block by omega)]; exact h.block i hi⟩
theorem bel_trans {a b c : World} (h : Below a.heap.size a b) (k : Below b.heap.size b c) : Below a.heap.size a c := h.trans (k.mono h.size)
end Gc
namespace Go.Proofs.YtmjnibofdpgacaaDoor
open Go.RowKit Gc

set_option maxRecDepth 100000 in
set_option maxHeartbeats 8000000 in
theorem evKeeps_c (A0 : Option Addr) (c0 : Nat) (ts : List Int) (w : World) (h : Rd w 1 A0 (ts.map icells)) (hp : ∀ b, blk A0 = some b → b < w.heap.size) (hc : ts.length ≤ c0) :
    Calls Tryd.prog 6 #[.slice A0 ts.length c0] w fun e w' => e = .returned (.bool true) ∧ Below w.heap.size w w' := by
  go_enter Tryd.func6, Tryd.ntmps6
  go_wp2_with fail
  refine (light_c A0 ts.length c0 w).mono ?_
  rintro e w1 ⟨rfl, rfl⟩
  obtain ⟨b, hb0, hL⟩ : ∃ b : Bool, decide ((ts.length : Int) ≤ 600) = b ∧ (b = true → (ts.length : Int) ≤ 600) := ⟨_, rfl, fun h => of_decide_eq_true h⟩
  rw [hb0]
  clear hb0
  cases b
  case false =>
    go_wp2_with fail
    refine (sane37_c w).mono ?_
    rintro e w1 ⟨rfl, hb⟩
    go_wp2_with fail
    go_ret
    exact ⟨rfl, hb⟩
  replace hL := hL rfl
  go_wp2_with fail
  refine (roll_c A0 c0 ts w h hp hc (by omega)).mono ?_
  rintro e W1 ⟨d, rfl, hD1, hd, hb1⟩
  have hdl := hD1.lt
  clear h hp hc hL
  go_wp2_with fail
  refine (tree_c d 6 W1 hD1 (by decide)).mono ?_
  rintro e W2 ⟨v, xs, next, rfl, hown2, hok, hlen, hD2, hg2⟩
  have t3 := Box.mk W2 [v, .int .i64 next] 24
  have hown3 := hown2.alloc (.cells #[v, .int .i64 next] 24)
  have hD3 := hD2.alloc (.cells #[v, .int .i64 next] 24)
  have hg3 := grown_trans hg2 (grown_below ((Below.refl W2.heap.size W2).alloc (Nat.le_refl _) (.cells #[v, .int .i64 next] 24)) (Nat.le_refl _) (some d))
  have hpos := (good_of_check hok.1).pos
  obtain ⟨g, c, rfl, hcl, -, hgB, hgl2, -, -⟩ := hown2.open' (by rw [List.length_map]; exact hpos)
  rw [List.length_map] at *
  have hB3 : Below w.heap.size w (W2.alloc (.cells #[.slice (some ⟨g, 0, none⟩) xs.length c, .int .i64 next] 24)) := hb1.grown hg3 hb1.size (fun k e => by injection e with e; omega)
  have hgs := hg2.size
  go_wp2_with fail
  generalize hWx : W2.alloc _ = W3 at *
  clear hWx
  generalize htb : W2.heap.size = tb at *
  clear hown2 hD2 hg2 hD1 hb1
  have zt := t3.lt
  obtain ⟨t0, t1, -⟩ := t3.cells
  simp only [Nat.zero_add, Nat.add_zero, Nat.reduceAdd] at t0 t1
  go_wp2_with fail
  have hcn := check_next hok.1
  have hrd3 := (hown3.rd)
  obtain ⟨A', c', e1, -, -, hrd3, -, -⟩ := hrd3
  rw [List.length_map] at e1
  simp only [Value.slice.injEq, true_and] at e1
  obtain ⟨rfl, rfl⟩ := e1
  refine (evNew_c (some ⟨g, 0, none⟩) c xs next W3 hrd3 hok.2 (by omega) hcl).mono ?_
  rintro e W4 ⟨v, rfl, hl4, hb4⟩
  obtain ⟨n1, n2, n3⟩ := new_ok hok.1
  rw [n1] at hl4
  have zd : d < W3.heap.size := hD3.lt
  have hgd : g ≠ d := by have := hdl; omega
  have hD4 := hD3.below hb4 (Nat.le_refl _)
  have hg4 : W3.grownBy W4 (some d) := grown_below hb4 (Nat.le_refl _) _
  have hnd : (Value.slice (some ⟨g, 0, none⟩) xs.length c).ownBlock ≠ some d := fun e => by injection e with e; exact hgd e
  have HR := Lib.hid (show ∀ W, W3.grownBy W (some d) → Rd W 6 (some ⟨g, 0, none⟩) (xs.map Grp.cells) by
    intro W hgW
    obtain ⟨A', c', e1, -, -, hrd', -, -⟩ := (hown3.kept hgW (.inr hnd)).rd
    simp only [Value.slice.injEq] at e1
    obtain ⟨rfl, -, rfl⟩ := e1
    exact hrd')
  obtain ⟨fid, hfid⟩ : ∃ fid : Nat → Int, ∀ q (h : q < xs.length), fid q = xs[q].id := ⟨fun q => (xs.getD q default).id, fun q h => by simp [List.getD_eq_getElem?_getD, List.getElem?_eq_getElem h]⟩
  have HC := Lib.hid (show ∀ W, W3.grownBy W (some d) → W.cell? ⟨tb, 0, none⟩ = some (.slice (some ⟨g, 0, none⟩) xs.length c) ∧ W.cell? ⟨tb, 1, none⟩ = some (.int .i64 next) ∧ (∀ q, q < xs.length → W.cell? ⟨g, q * 6, none⟩ = some (.int .i64 (fid q))) by
    intro W hgW
    have t6 := t3.grown hgW (by intro h; injection h with h; omega)
    obtain ⟨s0, s1, -⟩ := t6.cells
    simp only [Nat.zero_add, Nat.add_zero, Nat.reduceAdd] at s0 s1
    refine ⟨s0, s1, fun q hq => ?_⟩
    obtain ⟨b, o, e2, hbl, hc⟩ := (HR.out W hgW).row (i := q) (c := xs[q].cells) (map_at _ hq)
    simp only [Option.some.injEq, Addr.mk.injEq, and_true] at e2
    obtain ⟨rfl, rfl⟩ := e2
    simp only [Grp.cells, CellsFrom, Nat.add_zero, Nat.zero_add, Nat.reduceAdd] at hc
    rw [hfid q hq]
    exact hc.1)
  have Hfid := Lib.hid hfid
  have hcb0 : CB (8 * ((0 : Nat) : Int)) (adjE xs []) := by simpa using n3
  clear hown3 t3 t0 t1 hD3 n1 n3 hrd3 hb4 hfid hgl2 hgs
  have hol : xs.length ≤ 7 := hlen
  go_wp2_with fail
  go_loopw [5, 6] (fun x i wr => ∃ (m : Nat) (ls : List Tal), i = .int .i64 m ∧ m ≤ 6 ∧ evB xs next ls = true ∧ CB (8 * (m : Int)) ls ∧ Own wr W3.heap.size 47 7 x (ls.map Tal.cells) ∧ DiceAt wr d ∧ W3.grownBy wr (some d))
    (fun _ i _ => 6 - (intOf i).toNat)
  case atStart => exact ⟨0, _, rfl, by omega, n2, hcb0, hl4, hD4, hg4⟩
  case round =>
    obtain ⟨m, ls, rfl, hm, hev, hcb, hownx, hDx, hgx⟩ := hrel
    obtain ⟨D, e, rfl, hce, -, hrdx, hobx, hltx⟩ := hownx.rd
    have hnilx := hownx.facts.2.2.2.1
    rw [List.length_map] at *
    by_cases hm6 : m = 6
    · subst hm6
      rw [show ((6 : Nat) : Int) = (6 : Int) from rfl]
      have hbw : Below w.heap.size w wr := hB3.grown hgx hB3.size (fun k e => by injection e with e; omega)
      have hzx := hgx.size
      have HC6 := Lib.hid (show ∀ W, Below wr.heap.size wr W → W.cell? ⟨tb, 0, none⟩ = some (.slice (some ⟨g, 0, none⟩) xs.length c) ∧ W.cell? ⟨tb, 1, none⟩ = some (.int .i64 next) ∧ (∀ q, q < xs.length → W.cell? ⟨g, q * 6, none⟩ = some (.int .i64 (fid q))) from
        fun W hW => HC.out W (grown_trans hgx (grown_below hW (Nat.le_refl _) _)))
      have HR6 := Lib.hid (show ∀ W, Below wr.heap.size wr W → Rd W 6 (some ⟨g, 0, none⟩) (xs.map Grp.cells) from
        fun W hW => HR.out W (grown_trans hgx (grown_below hW (Nat.le_refl _) _)))
      have HT6 := Lib.hid (show ∀ W, Below wr.heap.size wr W → Rd W 7 D (ls.map Tal.cells) from
        fun W hW => hrdx.below hW (Nat.le_refl _))
      have HEV := Lib.hid hev
      have HCB := Lib.hid hcb
      have Hls := Lib.hid (ev_ids hev).2.1
      have hzt : tb < wr.heap.size := by omega
      have hzg : g < wr.heap.size := by
        obtain ⟨b, o, e2, hbl, -⟩ := (HR.out wr hgx).row (i := 0) (c := xs[0].cells) (map_at _ hpos)
        injection e2 with e2
        injection e2 with e2
        omega
      clear hgx hownx hrdx hltx hobx hDx hev hcb HR HC hB3 hg3 hl4 hD4 hg4 hcb0 n2 hzx
      obtain ⟨W6, hW6⟩ : ∃ W6, W6 = wr := ⟨_, rfl⟩
      subst hW6
      go_wp2_with fail
      go_loopw [9] (fun i wr => ∃ (m : Nat), i = .int .i64 m ∧ m ≤ xs.length ∧ Below W6.heap.size W6 wr) (fun i _ => xs.length - (intOf i).toNat)
      case atStart => exact ⟨0, rfl, by omega, Below.refl _ _⟩
      case round =>
        obtain ⟨m, rfl, hm, hbx⟩ := hrel
        have hzz := hbx.size
        obtain ⟨s0, s1, srow⟩ := HC6.out _ hbx
        by_cases hme : m = xs.length
        · subst hme
          go_wp2_with fail
          refine (sane37_c _).mono ?_
          rintro e w9 ⟨rfl, hb9⟩
          have hfin := bel_trans hbw (bel_trans hbx hb9)
          go_wp2_with fail
          go_ret
          exact ⟨rfl, hfin⟩
        · have hmx : m < xs.length := by omega
          have hmi : (m : Int) < (xs.length : Int) := by omega
          have HS := Lib.hid (show ∀ W, Below wr.heap.size wr W → W.cell? ⟨tb, 0, none⟩ = some (.slice (some ⟨g, 0, none⟩) xs.length c) ∧ W.cell? ⟨tb, 1, none⟩ = some (.int .i64 next) ∧ Below wr.heap.size wr W ∧ (∀ q, q < xs.length → W.cell? ⟨g, q * 6, none⟩ = some (.int .i64 (fid q))) from fun W hW => by
            obtain ⟨s0, s1, s2⟩ := HC6.out W (bel_trans hbx hW)
            exact ⟨s0, s1, hW, s2⟩)
          have hbd : Below wr.heap.size wr wr.drew := (Below.refl _ _).drew
          have hS0 := HS.out _ hbd
          have HRm := Lib.hid (show ∀ W, Below wr.heap.size wr W → Calls Tryd.prog 28 #[.agg #[.slice (some ⟨g, 0, none⟩) xs.length c, .int .i64 next], .int .i64 (fid m)] W fun e w' => ∃ A' c', e = .returned (.tuple #[.agg #[.slice A' (remT xs next (fid m)).1.length c', .int .i64 (remT xs next (fid m)).2.1], .int .i64 (remT xs next (fid m)).2.2]) ∧
              Own w' W.heap.size 54 6 (.slice A' (remT xs next (fid m)).1.length c') ((remT xs next (fid m)).1.map Grp.cells) ∧ Below W.heap.size W w' by
            intro W hW
            refine (rrem_c (some ⟨g, 0, none⟩) c xs next (fid m) W (HR6.out _ (bel_trans hbx hW)) hok.2 (by omega)).mono ?_
            rintro e w' ⟨v', rfl, ho', hb'⟩
            obtain ⟨A', c', rfl, -, -, -, -, -⟩ := ho'.rd
            rw [List.length_map] at *
            exact ⟨A', c', rfl, ho', hb'⟩)
          go_wp2_with fail
          go_cut [10, 11] from 56 to 139 (fun s10 s11 wy => ∃ (ub : Nat) (A8 : Option Addr) (c8 : Nat), s10 = .pointer (some ⟨ub, 0, none⟩) ∧ s11 = .int .i64 (remT xs next (fid m)).2.2 ∧
              Box wy ub [.slice A8 (remT xs next (fid m)).1.length c8, .int .i64 (remT xs next (fid m)).2.1] 24 ∧ Own wy wr.heap.size 54 6 (.slice A8 (remT xs next (fid m)).1.length c8) ((remT xs next (fid m)).1.map Grp.cells) ∧ Below wr.heap.size wr wy)
          case first =>
            go_region_held3 (fun W => W.cell? ⟨tb, 0, none⟩ = some (.slice (some ⟨g, 0, none⟩) xs.length c) ∧ W.cell? ⟨tb, 1, none⟩ = some (.int .i64 next) ∧ Below wr.heap.size wr W ∧ (∀ q, q < xs.length → W.cell? ⟨g, q * 6, none⟩ = some (.int .i64 (fid q))))
              (first
                | exact hS0
                | exact HS.out _ (by first | exact hb8 | exact bel_alloc hb8 _ | exact bel_alloc hbd _ | exact bel_set (bel_set hb8 (Nat.le_refl _) _) (Nat.le_refl _) _)
                | go_keep)
              ((go_at_call 28; go_split_ands; refine (HRm.out _ (by first | exact hbd | exact bel_alloc hbd _ | assumption)).mono ?_; rintro e w8 ⟨A8, c8, rfl, hown8, hbl8⟩; have hb8 : Below wr.heap.size wr w8 := (by first | exact bel_trans hbd hbl8 | exact bel_trans (bel_alloc hbd _) hbl8); have na8 := Box.mk w8 [.slice none 0 0, .int .i64 0] 24; obtain ⟨v0, v1, -⟩ := na8.cells; have fv := na8.fro; simp only [Nat.zero_add, Nat.add_zero, Nat.reduceAdd] at v0 v1; try (have tb8 : Box w8 wr.heap.size [.slice none 0 0, .int .i64 0] 24 := (Box.mk wr.drew [.slice none 0 0, .int .i64 0] 24).below hbl8 (Nat.le_refl _); obtain ⟨y0, y1, -⟩ := tb8.cells; have fy := tb8.fro; simp only [Nat.zero_add, Nat.add_zero, Nat.reduceAdd] at y0 y1)))
            all_goals
              go_wp2_with fail
              go_meet
              first
                | exact ⟨w8.heap.size, A8, c8, rfl, rfl, Box.mk w8 [.slice A8 (remT xs next (fid m)).1.length c8, .int .i64 (remT xs next (fid m)).2.1] 24, (hown8.alloc _).base (Nat.le_refl _), bel_alloc hb8 _⟩
                | (have hne : (Value.slice A8 (remT xs next (fid m)).1.length c8).ownBlock ≠ some wr.heap.size := fun e => by have := (hown8.lt e).1; simp at this; omega
                   exact ⟨wr.heap.size, A8, c8, rfl, rfl, (tb8.set 0 _).set 1 _, ((hown8.setCell_other (a := ⟨wr.heap.size, 0, none⟩) hne _).setCell_other (a := ⟨wr.heap.size, 1, none⟩) hne _).base (by simp), bel_set (bel_set hb8 (Nat.le_refl _) _) (Nat.le_refl _) _⟩)
          case rest =>
            obtain ⟨ub, A8, c8, rfl, rfl, bt, own8, hb8⟩ := hcut
            clear HRm HS hS0 hbd
            have e0 := Hfid.out m hmx
            have hbc := bel_trans hbx hb8
            have HB := Lib.hid (rem_bounds hok Hls.out (fid m))
            have HAL := Lib.hid (show decide ((remT xs next (fid m)).2.2 = 0) = decide ((remE xs next ls (fid m)).2 = 0) by rw [e0]; exact rem_alike HEV.out hmx)
            have HK := Lib.hid (show ∀ (q k : Nat) (hq : q < (remT xs next (fid m)).1.length), k < 6 → totR xs next ls (remT xs next (fid m)).1[q].id k = (totE xs ls (remT xs next (fid m)).1[q].id k, 0) ∧
              totR (remT xs next (fid m)).1 (remT xs next (fid m)).2.1 (remE xs next ls (fid m)).1 (remT xs next (fid m)).1[q].id k = (totE xs ls (remT xs next (fid m)).1[q].id k, 0) by
                rw [e0]
                intro q k hq hk
                exact keeps_all hok HEV.out HCB.out (by decide) (by decide) hmx hq hk)
            clear e0
            have HS := Lib.hid (show ∀ W, Below wc.heap.size wc W → W.cell? ⟨tb, 0, none⟩ = some (.slice (some ⟨g, 0, none⟩) xs.length c) ∧ W.cell? ⟨tb, 1, none⟩ = some (.int .i64 next) ∧ Below wc.heap.size wc W ∧ (∀ q, q < xs.length → W.cell? ⟨g, q * 6, none⟩ = some (.int .i64 (fid q))) from fun W hW => by
              obtain ⟨s0, s1, s2⟩ := HC6.out W (bel_trans hbc hW)
              exact ⟨s0, s1, hW, s2⟩)
            have hbd : Below wc.heap.size wc wc.drew := (Below.refl _ _).drew
            have hS0 := HS.out _ hbd
            have HRe := Lib.hid (show ∀ W, Below wc.heap.size wc W → Calls Tryd.prog 13 #[.agg #[.slice (some ⟨g, 0, none⟩) xs.length c, .int .i64 next], .slice D ls.length e, .int .i64 (fid m)] W fun e w' => ∃ A' c', e = .returned (.tuple #[.slice A' (remE xs next ls (fid m)).1.length c', .int .i64 (remE xs next ls (fid m)).2]) ∧
                Own w' wc.heap.size 47 7 (.slice A' (remE xs next ls (fid m)).1.length c') ((remE xs next ls (fid m)).1.map Tal.cells) ∧ Below wc.heap.size wc w' by
              intro W hW
              refine (evRemove_c (some ⟨g, 0, none⟩) c xs next D e ls (fid m) W (HR6.out _ (bel_trans hbc hW)) hok.2 (by omega) hcl (HT6.out _ (bel_trans hbc hW)) hnilx (by have := Hls.out; omega)).mono ?_
              rintro e w' ⟨v', rfl, ho', hb'⟩
              obtain ⟨A', c', rfl, -, -, -, -, -⟩ := ho'.rd
              rw [List.length_map] at *
              exact ⟨A', c', rfl, ho'.base hW.size, bel_trans hW hb'⟩)
            go_wp2_with fail
            go_region_held3 (fun W => W.cell? ⟨tb, 0, none⟩ = some (.slice (some ⟨g, 0, none⟩) xs.length c) ∧ W.cell? ⟨tb, 1, none⟩ = some (.int .i64 next) ∧ Below wc.heap.size wc W ∧ (∀ q, q < xs.length → W.cell? ⟨g, q * 6, none⟩ = some (.int .i64 (fid q))))
              (first
                | exact hS0
                | exact HS.out _ (by first | exact hb9 | assumption)
                | go_keep)
              ((go_at_call 13; go_split_ands; refine (HRe.out _ (by first | exact hbd | assumption)).mono ?_; rintro e w9 ⟨A9, c9, rfl, hown9, hb9⟩))
            have bt9 := bt.below hb9 (Nat.le_refl _)
            have own9u := (own8.below hb9 (Nat.le_refl _)).base (show W6.heap.size ≤ wr.heap.size from hzz)
            have own9x := hown9.base hbc.size
            have hbx9 := bel_trans hbc hb9
            clear HRe HS bt own8 hown9 hb9 hb8 hbc hbx s0 s1 srow hmi
            obtain ⟨uid, T, huid, hKK⟩ : ∃ (uid : Nat → Int) (T : Nat → Nat → Int), (∀ q (h : q < (remT xs next (fid m)).1.length), uid q = (remT xs next (fid m)).1[q].id) ∧ ∀ q k : Nat, q < (remT xs next (fid m)).1.length → k < 6 →
                totR xs next ls (uid q) k = (T q k, 0) ∧ totR (remT xs next (fid m)).1 (remT xs next (fid m)).2.1 (remE xs next ls (fid m)).1 (uid q) k = (T q k, 0) := by
              refine ⟨fun q => ((remT xs next (fid m)).1.getD q default).id, fun q k => totE xs ls ((remT xs next (fid m)).1.getD q default).id k, fun q h => by simp only [getD_at h], fun q k hq hk => ?_⟩
              have := HK.out q k hq hk
              simp only [getD_at hq]
              exact this
            have HKK := Lib.hid hKK
            have Huid := Lib.hid huid
            clear hKK huid HK
            generalize (remE xs next ls (fid m)).2 = ee at *
            generalize (remE xs next ls (fid m)).1 = ys at *
            generalize (remT xs next (fid m)).2.2 = er at *
            generalize (remT xs next (fid m)).2.1 = nz at *
            generalize (remT xs next (fid m)).1 = us at *
            have hs : (!((er == 0) == (ee == 0))) = false := by
              have h1 := HAL.out
              have h2 : (er == 0) = decide (er = 0) := rfl
              have h3 : (ee == 0) = decide (ee = 0) := rfl
              rw [h2, h3, h1]
              cases decide (ee = 0) <;> rfl
            clear HAL
            have hus : us.length ≤ 7 := by have := HB.out.2.1; omega
            go_wp2_with fail
            clear hs hmx
            go_loopw [14] (fun i wz => ∃ k : Nat, i = .int .i64 k ∧ k ≤ us.length * 6 ∧ Below w9.heap.size w9 wz) (fun i _ => us.length * 6 - (intOf i).toNat)
            case atStart => exact ⟨0, rfl, by omega, Below.refl _ _⟩
            case round =>
              obtain ⟨k, rfl, hk, hbz⟩ := hrel
              have btz := bt9.below hbz (Nat.le_refl _)
              have hbW := bel_trans hbx9 hbz
              obtain ⟨u0, u1, -⟩ := btz.cells
              simp only [Nat.zero_add, Nat.add_zero, Nat.reduceAdd] at u0 u1
              have hmb : -9223372036854775808 ≤ (us.length : Int) * 6 ∧ (us.length : Int) * 6 ≤ 9223372036854775807 := by omega
              by_cases hke : k = us.length * 6
              · have hnl : ¬ (k : Int) < (us.length : Int) * 6 := by omega
                have h1b : -9223372036854775808 ≤ (m : Int) + 1 ∧ (m : Int) + 1 ≤ 9223372036854775807 := by omega
                go_wp2
                go_roundw
                case rel => exact ⟨m + 1, by go_num, by omega, hbW⟩
                case measure => simp [intOf]; omega
              · have hlt : (k : Int) < (us.length : Int) * 6 := by omega
                have hku : k / 6 < us.length := by omega
                obtain ⟨g8, c8', e8, -, -, -, hg8, -, -⟩ := (own9u.below hbz (Nat.le_refl _)).open' (by rw [List.length_map]; omega)
                rw [List.length_map] at e8
                simp only [Value.slice.injEq, true_and] at e8
                obtain ⟨rfl, rfl⟩ := e8
                have HU := Lib.hid (show ∀ W, Below wr.heap.size wr W → Rd W 6 (some ⟨g8, 0, none⟩) (us.map Grp.cells) from fun W hW => ((own9u.below hbz (Nat.le_refl _)).below hW (Nat.le_refl _)).facts.2.2.1)
                have HY := Lib.hid (show ∀ W, Below wr.heap.size wr W → Rd W 7 A9 (ys.map Tal.cells) from fun W hW => ((own9x.below hbz (Nat.le_refl _)).below hW (Nat.le_refl _)).facts.2.2.1)
                have HS := Lib.hid (show ∀ W, Below wr.heap.size wr W → W.cell? ⟨tb, 0, none⟩ = some (.slice (some ⟨g, 0, none⟩) xs.length c) ∧ W.cell? ⟨tb, 1, none⟩ = some (.int .i64 next) ∧ W.cell? ⟨ub, 0, none⟩ = some (.slice (some ⟨g8, 0, none⟩) us.length c8) ∧ W.cell? ⟨ub, 1, none⟩ = some (.int .i64 nz) ∧ Below wr.heap.size wr W ∧ (∀ q, q < us.length → W.cell? ⟨g8, q * 6, none⟩ = some (.int .i64 (uid q))) from fun W hW => by
                  obtain ⟨s0, s1, s2⟩ := HC6.out W (bel_trans hbW hW)
                  obtain ⟨u0, u1, -⟩ := (btz.below hW (Nat.le_refl _)).cells
                  simp only [Nat.zero_add, Nat.add_zero, Nat.reduceAdd] at u0 u1
                  refine ⟨s0, s1, u0, u1, hW, fun q hq => ?_⟩
                  obtain ⟨b, o, e2, hbl, hc⟩ := (HU.out W hW).row (i := q) (c := us[q].cells) (map_at _ hq)
                  simp only [Option.some.injEq, Addr.mk.injEq, and_true] at e2
                  obtain ⟨rfl, rfl⟩ := e2
                  simp only [Grp.cells, CellsFrom, Nat.add_zero, Nat.zero_add, Nat.reduceAdd] at hc
                  rw [Huid.out q hq]
                  exact hc.1)
                have hbd : Below wr.heap.size wr wr.drew := (Below.refl _ _).drew
                have hS0 := HS.out _ hbd
                have hquo : (k : Int).tdiv 6 = ((k / 6 : Nat) : Int) := by rw [Int.tdiv_eq_ediv_of_nonneg (by omega)]; omega
                have hrem : (k : Int).tmod 6 = ((k % 6 : Nat) : Int) := by rw [Int.tmod_eq_emod_of_nonneg (by omega)]; omega
                obtain ⟨q, r, hq, hr, hqu, hr6⟩ : ∃ q r, k / 6 = q ∧ k % 6 = r ∧ q < us.length ∧ r < 6 := ⟨_, _, rfl, rfl, hku, by omega⟩
                have hqi : (q : Int) < (us.length : Int) := by omega
                have HT1 := Lib.hid (show ∀ W, Below wr.heap.size wr W → Calls Tryd.prog 24 #[.agg #[.slice (some ⟨g, 0, none⟩) xs.length c, .int .i64 next], .slice D ls.length e, .int .i64 (uid q), .int .i64 r] W fun e w' => e = .returned (.tuple #[.int .i64 (T q r), .int .i64 0]) ∧ Below wr.heap.size wr w' by
                  intro W hW
                  refine (evTotal_c (some ⟨g, 0, none⟩) c xs next D e ls (uid q) r W (HR6.out _ (bel_trans hbW hW)) hok.2 (by omega) hcl (HT6.out _ (bel_trans hbW hW)) (by have := Hls.out; omega)).mono ?_
                  rintro e w' ⟨rfl, hb'⟩
                  rw [(HKK.out q r hqu hr6).1]
                  exact ⟨rfl, bel_trans hW hb'⟩)
                have HT2 := Lib.hid (show ∀ W, Below wr.heap.size wr W → Calls Tryd.prog 24 #[.agg #[.slice (some ⟨g8, 0, none⟩) us.length c8, .int .i64 nz], .slice A9 ys.length c9, .int .i64 (uid q), .int .i64 r] W fun e w' => e = .returned (.tuple #[.int .i64 (T q r), .int .i64 0]) ∧ Below wr.heap.size wr w' by
                  intro W hW
                  have hcu := (own9u).facts.2.1
                  rw [List.length_map] at hcu
                  refine (evTotal_c (some ⟨g8, 0, none⟩) c8 us nz A9 c9 ys (uid q) r W (HU.out _ hW) HB.out.1 (by omega) hcu (HY.out _ hW) (by have := Hls.out; have := HB.out.2.2; omega)).mono ?_
                  rintro e w' ⟨rfl, hb'⟩
                  rw [(HKK.out q r hqu hr6).2]
                  exact ⟨rfl, bel_trans hW hb'⟩)
                rw [hq] at hquo
                rw [hr] at hrem
                have h0q : (0 : Int) ≤ (q : Int) := by omega
                have hwq : IntKind.i64.wrap (q : Int) = (q : Int) := wrap_in _ (by omega) (by omega)
                have hwk : IntKind.i64.wrap ((k : Int).tdiv 6) = (q : Int) := by rw [hquo, hwq]
                have hnq : (q : Int).toNat = q := rfl
                go_wp2_with fail
                go_region_held3 (fun W => W.cell? ⟨tb, 0, none⟩ = some (.slice (some ⟨g, 0, none⟩) xs.length c) ∧ W.cell? ⟨tb, 1, none⟩ = some (.int .i64 next) ∧ W.cell? ⟨ub, 0, none⟩ = some (.slice (some ⟨g8, 0, none⟩) us.length c8) ∧ W.cell? ⟨ub, 1, none⟩ = some (.int .i64 nz) ∧ Below wr.heap.size wr W ∧ (∀ q, q < us.length → W.cell? ⟨g8, q * 6, none⟩ = some (.int .i64 (uid q))))
                  (first
                    | exact hS0
                    | exact HS.out _ (by first | exact hb10 | assumption)
                    | go_keep)
                  ((go_at_call 24; go_split_ands; refine (HT1.out _ (by first | exact hbd | assumption)).mono ?_; rintro e w10 ⟨rfl, hb10⟩))
                have hbd2 : Below wr.heap.size wr w10.drew := hb10.drew
                have hS2 := HS.out _ hbd2
                clear HT1
                go_wp2_with fail
                go_region_held3 (fun W => W.cell? ⟨tb, 0, none⟩ = some (.slice (some ⟨g, 0, none⟩) xs.length c) ∧ W.cell? ⟨tb, 1, none⟩ = some (.int .i64 next) ∧ W.cell? ⟨ub, 0, none⟩ = some (.slice (some ⟨g8, 0, none⟩) us.length c8) ∧ W.cell? ⟨ub, 1, none⟩ = some (.int .i64 nz) ∧ Below wr.heap.size wr W ∧ (∀ q, q < us.length → W.cell? ⟨g8, q * 6, none⟩ = some (.int .i64 (uid q))))
                  (first
                    | exact hS2
                    | exact HS.out _ (by first | exact hb11 | assumption)
                    | go_keep)
                  ((go_at_call 24; go_split_ands; refine (HT2.out _ (by first | exact hbd2 | assumption)).mono ?_; rintro e w11 ⟨rfl, hb11⟩))
                clear hquo hrem hwk hwq HT2 hnq
                have hb12 := bel_trans hbz hb11
                have h1k : -9223372036854775808 ≤ (k : Int) + 1 ∧ (k : Int) + 1 ≤ 9223372036854775807 := by omega
                go_wp2
                go_roundw
                case rel => exact ⟨k + 1, by go_num, by omega, hb12⟩
                case measure => simp [intOf]; omega
    · have hlt6 : (m : Int) < 6 := by omega
      have HS := Lib.hid (show ∀ W, wr.grownBy W (some d) → DiceAt W d → W.cell? ⟨tb, 0, none⟩ = some (.slice (some ⟨g, 0, none⟩) xs.length c) ∧ W.cell? ⟨tb, 1, none⟩ = some (.int .i64 next) ∧ wr.grownBy W (some d) ∧ DiceAt W d ∧ (∀ q, q < xs.length → W.cell? ⟨g, q * 6, none⟩ = some (.int .i64 (fid q))) from fun W hgW hDW => by
        obtain ⟨s0, s1, s2⟩ := HC.out W (grown_trans hgx hgW)
        exact ⟨s0, s1, hgW, hDW, s2⟩)
      have hS0 := HS.out wr.drew (grown_drewN (grown_refl wr _) 1) (hDx.grown (grown_drewN (grown_refl wr none) 1) (by simp))
      have HNx := Lib.hid (show ∀ W (n : Int), 1 ≤ n → n ≤ 100 → wr.grownBy W (some d) → DiceAt W d → Calls Tryd.prog 10 #[.pointer (some ⟨d, 0, none⟩), .int .i64 n] W fun e w' => ∃ k : Nat, e = .returned (.int .i64 k) ∧ (k : Int) < n ∧ (w'.cell? ⟨tb, 0, none⟩ = some (.slice (some ⟨g, 0, none⟩) xs.length c) ∧ w'.cell? ⟨tb, 1, none⟩ = some (.int .i64 next) ∧ wr.grownBy w' (some d) ∧ DiceAt w' d ∧ (∀ q, q < xs.length → w'.cell? ⟨g, q * 6, none⟩ = some (.int .i64 (fid q)))) by
        intro W n h1 h2 hgW hDW
        refine (next_c d n W hDW (by omega)).mono ?_
        rintro e w' ⟨x, rfl, hx0, hx1, -, hd', hg'⟩
        replace hx1 := hx1 (by omega)
        obtain ⟨k, rfl⟩ := Int.eq_ofNat_of_zero_le hx0
        exact ⟨k, rfl, hx1, HS.out w' (grown_trans hgW hg') hd'⟩)
      have HAd := Lib.hid (show ∀ W (k1 k2 k3 : Nat), (k1 : Int) < (xs.length : Int) → (k2 : Int) < 6 → (k3 : Int) < 9 → wr.grownBy W (some d) → DiceAt W d → Calls Tryd.prog 11 #[.agg #[.slice (some ⟨g, 0, none⟩) xs.length c, .int .i64 next], .slice D ls.length e, .int .i64 (fid k1), .int .i64 k2, .int .i64 k3] W fun e w' =>
          ∃ v ls', e = .returned (.tuple #[v, .int .i64 0]) ∧ Own w' W.heap.size 47 7 v (ls'.map Tal.cells) ∧ evB xs next ls' = true ∧ CB (8 * ((m + 1 : Nat) : Int)) ls' ∧ (w'.cell? ⟨tb, 0, none⟩ = some (.slice (some ⟨g, 0, none⟩) xs.length c) ∧ w'.cell? ⟨tb, 1, none⟩ = some (.int .i64 next) ∧ wr.grownBy w' (some d) ∧ DiceAt w' d ∧ (∀ q, q < xs.length → w'.cell? ⟨g, q * 6, none⟩ = some (.int .i64 (fid q)))) by
        intro W k1 k2 k3 h1 h2 h3 hgW hDW
        have hev' := ev_ids hev
        obtain ⟨a1, a2, a3⟩ := add_ok (i := k1) (k := k2) (n := (k3 : Int)) hev hcb (by omega) (by omega) (by omega) (by omega) (by omega)
        rw [Hfid.out k1 (by omega)]
        refine (evAdd_c (some ⟨g, 0, none⟩) c xs next D e ls xs[k1].id k2 k3 W (HR.out W (grown_trans hgx hgW)) hok.2 (by omega) hcl (hownx.kept hgW (.inr (fun e => by have := (hownx.lt e).1; omega))).facts.2.2.1 hnilx (by omega)).mono ?_
        rw [a1]
        rintro e w' ⟨v, rfl, ho, hb⟩
        exact ⟨v, _, rfl, ho, a2, fun x hx j hj => by have := a3 x hx j hj; omega, HS.out w' (grown_trans hgW (grown_below hb (Nat.le_refl _) _)) (hDW.below hb (Nat.le_refl _))⟩)
      go_wp2_with fail
      go_cut [7, 8] from 29 to 55 (fun s7 s8 wx => ∃ ls', s8 = .int .i64 0 ∧ Own wx wr.heap.size 47 7 s7 (ls'.map Tal.cells) ∧ evB xs next ls' = true ∧ CB (8 * ((m + 1 : Nat) : Int)) ls' ∧ wr.grownBy wx (some d) ∧ DiceAt wx d)
      case first =>
        go_region_held3 (fun W => W.cell? ⟨tb, 0, none⟩ = some (.slice (some ⟨g, 0, none⟩) xs.length c) ∧ W.cell? ⟨tb, 1, none⟩ = some (.int .i64 next) ∧ wr.grownBy W (some d) ∧ DiceAt W d ∧ (∀ q, q < xs.length → W.cell? ⟨g, q * 6, none⟩ = some (.int .i64 (fid q))))
          (first
            | exact hS0
            | exact hx4
            | exact hx3
            | exact hx2
            | exact hx1
            | go_keep)
          ((first
            | (go_at_call 10; go_split_ands; refine (HNx.out _ _ (by omega) (by omega) (by assumption) (by assumption)).mono ?_; first
                | (have _h3 := hk2; rintro e w3 ⟨k3, rfl, hk3, hx3⟩; have hc3 := hx3.2.2.2.2 k1 hq1)
                | (have _h2 := hk1; rintro e w2 ⟨k2, rfl, hk2, hx2⟩; have hc2 := hx2.2.2.2.2 k1 hq1)
                | (rintro e w1 ⟨k1, rfl, hk1, hx1⟩; have hq1 : k1 < xs.length := (by omega); have hc1 := hx1.2.2.2.2 k1 hq1))
            | (go_at_call 11; go_split_ands; refine (HAd.out _ k1 k2 k3 hk1 hk2 hk3 (by assumption) (by assumption)).mono ?_; rintro e w4 ⟨v4, ls4, rfl, ho4, hev4, hcb4, hx4⟩)))
        all_goals
          go_wp2_with fail
          go_meet
          have hz3 : wr.heap.size ≤ w3.heap.size := (show wr.grownBy w3 (some d) by assumption).size
          have hS4 : wr.grownBy w4 (some d) ∧ DiceAt w4 d := by first | exact ⟨hx4.2.2.1, hx4.2.2.2.1⟩ | exact ⟨by assumption, by assumption⟩
          exact ⟨ls4, rfl, ho4.base hz3, hev4, hcb4, hS4.1, hS4.2⟩
      case rest =>
        obtain ⟨ls', rfl, ownN, hevN, hcbN, hgN, hDN⟩ := hcut
        have ownN := ownN.base (show W3.heap.size ≤ wr.heap.size from hgx.size)
        have hggN := grown_trans hgx hgN
        have h1b : -9223372036854775808 ≤ (m : Int) + 1 ∧ (m : Int) + 1 ≤ 9223372036854775807 := by omega
        go_wp2
        go_roundw
        case rel => exact ⟨m + 1, ls', by go_num, by omega, hevN, hcbN, ownN, hDN, hggN⟩
        case measure => simp [intOf]; omega
end Go.Proofs.YtmjnibofdpgacaaDoor
