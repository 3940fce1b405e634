/-
  EventTells: the walk.
-/
import Derived.Test.YtmjnibofdpgacaaDoorEvTellsP
import Derived.Test.YtmjnibofdpgacaaDoorMadeTree
import Derived.Test.YtmjnibofdpgacaaDoorRoll
import Derived.Test.YtmjnibofdpgacaaDoorEvAdd
import Derived.Test.YtmjnibofdpgacaaDoorEvTotal
import Derived.Test.YtmjnibofdpgacaaDoorEvAdjust
import Derived.Test.YtmjnibofdpgacaaDoorEvPoll
import Derived.Test.YtmjnibofdpgacaaDoorSane37
import Derived.Test.YtmjnibofdpgacaaDoorR5Kids
import Derived.Test.YtmjnibofdpgacaaDoorSameInt
import Derived.Test.YtmjnibofdpgacaaDoorSameWat
import Derived.Deep.RegionHeld3
import Derived.Deep.CutRange
import Derived.BigRegion
import Derived.Deep.RegionWith
set_option linter.unusedSimpArgs false
set_option linter.unusedVariables false
namespace Go.Proofs.YtmjnibofdpgacaaDoor
open Go.RowKit Gc

theorem grown_far {a b c : World} {row : Option Nat} {r : Nat} (h : a.grownBy b row) (k : b.grownBy c (some r)) (hr : a.heap.size ≤ r) : a.grownBy c row :=
  ⟨k.os.trans h.os, k.tape.trans h.tape, k.output.trans h.output, Nat.le_trans h.size k.size, fun i hi hne => (k.block i (Nat.lt_of_lt_of_le hi h.size) (fun e => by injection e with e; omega)).trans (h.block i hi hne)⟩

theorem grown_row {a b c : World} {row row' : Option Nat} (h : a.grownBy b row) (k : b.grownBy c row') (hr : ∀ r, row' = some r → a.heap.size ≤ r) : a.grownBy c row :=
  ⟨k.os.trans h.os, k.tape.trans h.tape, k.output.trans h.output, Nat.le_trans h.size k.size, fun i hi hne => (k.block i (Nat.lt_of_lt_of_le hi h.size) (fun e => by have := hr i e.symm; omega)).trans (h.block i hi hne)⟩

theorem hits0 {xs : List Grp} {ls : List Tal} {ws : List Wat} (h : ws.length = 3) (hs : ∀ y ∈ ws, y.s = totE xs ls y.g y.k) : [false, false, false] = ws.map (hitB xs ls) := by
  have e : ∀ y ∈ ws, hitB xs ls y = false := fun y hy => by unfold hitB; rw [hs y hy]; simp
  match ws, h with
  | [a, b, c], _ => simp [e a (by simp), e b (by simp), e c (by simp)]

theorem hits_all {n : Nat} {hs : List Bool} {ws : List Wat} {f g : Wat → Bool} (h : hs.length = n ∧ ∀ q (h1 : q < hs.length) (h2 : q < ws.length), hs[q] = if q < n then f ws[q] else g ws[q]) (hw : ws.length = n) : hs = ws.map f := by
  apply List.ext_getElem
  · rw [List.length_map, h.1, hw]
  · intro q h1 h2
    have h3 : q < ws.length := by simpa using h2
    rw [h.2 q h1 h3, if_pos (by omega), List.getElem_map]

theorem hits_set {j : Nat} {hs : List Bool} {ws : List Wat} {f g : Wat → Bool} (h : hs.length = 3 ∧ ∀ q (h1 : q < hs.length) (h2 : q < ws.length), hs[q] = if q < j then f ws[q] else g ws[q]) (hj : j < ws.length) {b : Bool} (hb : f ws[j] = b) :
    (hs.set j b).length = 3 ∧ ∀ q (h1 : q < (hs.set j b).length) (h2 : q < ws.length), (hs.set j b)[q] = if q < j + 1 then f ws[q] else g ws[q] := by
  refine ⟨by rw [List.length_set, h.1], fun q h1 h2 => ?_⟩
  rw [List.getElem_set]
  by_cases e : j = q
  · subst e
    rw [if_pos rfl, if_pos (by omega), hb]
  · rw [if_neg e, h.2 q (by simpa using h1) h2]
    by_cases e2 : q < j
    · rw [if_pos e2, if_pos (by omega)]
    · rw [if_neg e2, if_neg (by omega)]

set_option maxRecDepth 100000 in
set_option maxHeartbeats 16000000 in
theorem evTells_c (A0 : Option Addr) (c0 : Nat) (ts : List Int) (w : World) (h : Rd w 1 A0 (ts.map icells)) (hp : ∀ b, blk A0 = some b → b < w.heap.size) (hc : ts.length ≤ c0) :
    Calls Tryd.prog 7 #[.slice A0 ts.length c0] w fun e w' => e = .returned (.bool true) ∧ Below w.heap.size w w' := by
  go_enter Tryd.func7, Tryd.ntmps7
  go_wp2_with fail
  refine (light_c A0 ts.length c0 w).mono ?_
  rintro e w1 ⟨rfl, rfl⟩
  obtain ⟨b, hb0, hL⟩ : ∃ b : Bool, decide ((ts.length : Int) ≤ 600) = b ∧ (b = true → (ts.length : Int) ≤ 600) := ⟨_, rfl, fun h => of_decide_eq_true h⟩
  rw [hb0]
  clear hb0
  cases b
  case false =>
    go_wp2_with fail
    refine (sane37_c w).mono ?_
    rintro e w1 ⟨rfl, hb⟩
    go_wp2_with fail
    go_ret
    exact ⟨rfl, hb⟩
  replace hL := hL rfl
  go_wp2_with fail
  refine (roll_c A0 c0 ts w h hp hc (by omega)).mono ?_
  rintro e W1 ⟨d, rfl, hD1, hd, hb1⟩
  have hdl := hD1.lt
  clear h hp hc hL
  go_wp2_with fail
  refine (tree_c d 5 W1 hD1 (by decide)).mono ?_
  rintro e W2 ⟨v, xs, next, rfl, hown2, hok, hlen, hD2, hg2⟩
  have t3 := Box.mk W2 [v, .int .i64 next] 24
  have hown3 := hown2.alloc (.cells #[v, .int .i64 next] 24)
  have hD3 := hD2.alloc (.cells #[v, .int .i64 next] 24)
  have hg3 := grown_trans hg2 (grown_below ((Below.refl W2.heap.size W2).alloc (Nat.le_refl _) (.cells #[v, .int .i64 next] 24)) (Nat.le_refl _) (some d))
  have hpos := (good_of_check hok.1).pos
  obtain ⟨g, c, rfl, hcl, -, hgB, hgl2, -, -⟩ := hown2.open' (by rw [List.length_map]; exact hpos)
  rw [List.length_map] at *
  have hB3 : Below w.heap.size w (W2.alloc (.cells #[.slice (some ⟨g, 0, none⟩) xs.length c, .int .i64 next] 24)) := hb1.grown hg3 hb1.size (fun k e => by injection e with e; omega)
  have hgs := hg2.size
  go_wp2_with fail
  generalize hWx : W2.alloc _ = W3 at *
  clear hWx
  generalize htb : W2.heap.size = tb at *
  clear hown2 hD2 hg2 hD1 hb1
  have zt := t3.lt
  obtain ⟨t0, t1, -⟩ := t3.cells
  simp only [Nat.zero_add, Nat.add_zero, Nat.reduceAdd] at t0 t1
  go_wp2_with fail
  have hcn := check_next hok.1
  have hrd3 := (hown3.rd)
  obtain ⟨A', c', e1, -, -, hrd3, -, -⟩ := hrd3
  rw [List.length_map] at e1
  simp only [Value.slice.injEq, true_and] at e1
  obtain ⟨rfl, rfl⟩ := e1
  refine (evNew_c (some ⟨g, 0, none⟩) c xs next W3 hrd3 hok.2 (by omega) hcl).mono ?_
  rintro e W4 ⟨v, rfl, hl4, hb4⟩
  obtain ⟨n1, n2, n3⟩ := new_ok hok.1
  rw [n1] at hl4
  have zd : d < W3.heap.size := hD3.lt
  have hgd : g ≠ d := by have := hdl; omega
  have hD4 := hD3.below hb4 (Nat.le_refl _)
  have hg4 : W3.grownBy W4 (some d) := grown_below hb4 (Nat.le_refl _) _
  have hnd : (Value.slice (some ⟨g, 0, none⟩) xs.length c).ownBlock ≠ some d := fun e => by injection e with e; exact hgd e
  have HR := Lib.hid (show ∀ W, W3.grownBy W (some d) → Rd W 6 (some ⟨g, 0, none⟩) (xs.map Grp.cells) by
    intro W hgW
    obtain ⟨A', c', e1, -, -, hrd', -, -⟩ := (hown3.kept hgW (.inr hnd)).rd
    simp only [Value.slice.injEq] at e1
    obtain ⟨rfl, -, rfl⟩ := e1
    exact hrd')
  obtain ⟨fid, hfid⟩ : ∃ fid : Nat → Int, ∀ q (h : q < xs.length), fid q = xs[q].id := ⟨fun q => (xs.getD q default).id, fun q h => by simp [List.getD_eq_getElem?_getD, List.getElem?_eq_getElem h]⟩
  have HC := Lib.hid (show ∀ W, W3.grownBy W (some d) → W.cell? ⟨tb, 0, none⟩ = some (.slice (some ⟨g, 0, none⟩) xs.length c) ∧ W.cell? ⟨tb, 1, none⟩ = some (.int .i64 next) ∧ (∀ q, q < xs.length → W.cell? ⟨g, q * 6, none⟩ = some (.int .i64 (fid q))) by
    intro W hgW
    have t6 := t3.grown hgW (by intro h; injection h with h; omega)
    obtain ⟨s0, s1, -⟩ := t6.cells
    simp only [Nat.zero_add, Nat.add_zero, Nat.reduceAdd] at s0 s1
    refine ⟨s0, s1, fun q hq => ?_⟩
    obtain ⟨b, o, e2, hbl, hc⟩ := (HR.out W hgW).row (i := q) (c := xs[q].cells) (map_at _ hq)
    simp only [Option.some.injEq, Addr.mk.injEq, and_true] at e2
    obtain ⟨rfl, rfl⟩ := e2
    simp only [Grp.cells, CellsFrom, Nat.add_zero, Nat.zero_add, Nat.reduceAdd] at hc
    rw [hfid q hq]
    exact hc.1)
  have Hfid := Lib.hid hfid
  have hcb0 : CB (4 * ((0 : Nat) : Int)) (adjE xs []) := by simpa using n3
  clear hown3 t3 t0 t1 hD3 n1 n3 hrd3 hb4 hfid hgl2 hgs
  have hol : xs.length ≤ 6 := hlen
  go_wp2_with fail
  have zd4 : d < W4.heap.size := hD4.lt
  have hz34 := hg4.size
  have hgx4 : W4.grownBy W4 (some d) := grown_refl _ _
  go_loopw [6, 7] (fun x i wr => ∃ (m : Nat) (ws : List Wat), i = .int .i64 m ∧ m ≤ 3 ∧ Hid (ws.length = m) ∧ Hid (WatOk xs ws) ∧ Hid (∀ y ∈ ws, y.s = 0) ∧ Own wr W4.heap.size 62 3 x (ws.map Wat.cells) ∧ DiceAt wr d ∧ W4.grownBy wr (some d))
    (fun _ i _ => 3 - (intOf i).toNat)
  case atStart => exact ⟨0, [], rfl, by omega, Lib.hid rfl, Lib.hid (fun _ h => by cases h), Lib.hid (fun _ h => by cases h), Own.nil _ _ _ _, hD4, hgx4⟩
  case round =>
    obtain ⟨m, ws, rfl, hm, Hlw, Hwok, Hw0, hownw, hDx, hgx⟩ := hrel
    by_cases hm3 : m = 3
    · subst hm3
      rw [show ((3 : Nat) : Int) = (3 : Int) from rfl]
      have hgx0 := grown_trans hg4 hgx
      have hownt := hl4.kept hgx (.inr (fun e => by have := (hl4.lt e).1; omega))
      have hownw0 := hownw.base hz34
      have Hn2 := Lib.hid n2
      have Hcb0 := Lib.hid hcb0
      have Hset0 := Lib.hid (show ∀ y ∈ ws, y.s = totE xs (adjE xs []) y.g y.k from fun y hy => by rw [Hw0.out y hy, new_zero hok.1])
      clear n2 hcb0 hownw hl4 hD4 hgx Hw0 hg4
      go_wp2_with fail
      go_loopw [5, 6, 8] (fun x y i wz => ∃ (m : Nat) (ls : List Tal) (ws : List Wat), i = .int .i64 m ∧ m ≤ 8 ∧ Hid (evB xs next ls = true) ∧ Hid (CB (4 * (m : Int)) ls) ∧ Hid (ws.length = 3) ∧ Hid (WatOk xs ws) ∧ Hid (∀ y ∈ ws, y.s = totE xs ls y.g y.k) ∧
          Own wz W3.heap.size 47 7 x (ls.map Tal.cells) ∧ Own wz W3.heap.size 62 3 y (ws.map Wat.cells) ∧ DiceAt wz d ∧ W3.grownBy wz (some d)) (fun _ _ i _ => 8 - (intOf i).toNat)
      case atStart => exact ⟨0, _, ws, rfl, by omega, Hn2, Hcb0, Hlw, Hwok, Hset0, hownt, hownw0, hDx, hgx0⟩
      case round =>
        clear Hn2 Hcb0 Hset0 hownt hownw0 hDx hgx0 Hlw Hwok
        obtain ⟨m, ls, ws, rfl, hm, Hev, Hcb, Hlw, Hwok, Hset, hownx, hownw, hDx, hgx⟩ := hrel
        by_cases hm8 : m = 8
        · subst hm8
          rw [show ((8 : Nat) : Int) = (8 : Int) from rfl]
          have hbw : Below w.heap.size w wr := hB3.grown hgx hB3.size (fun k e => by injection e with e; omega)
          go_wp2_with fail
          refine (sane37_c _).mono ?_
          rintro e w9 ⟨rfl, hb9⟩
          have hfin := bel_trans hbw hb9
          go_wp2_with fail
          go_ret
          exact ⟨rfl, hfin⟩
        · have hlt8 : (m : Int) < 8 := by omega
          obtain ⟨gw, cw, rfl, hcw, -, hgwB, hgwl, -, -⟩ := hownw.open' (by rw [List.length_map, Hlw.out]; omega)
          simp only [List.length_map, Hlw.out] at hcw hownw ⊢
          obtain ⟨W0, hW0⟩ : ∃ W0, W0 = wr := ⟨_, rfl⟩
          subst hW0
          have bx0 := Box.mk W0 ([false, false, false].map Value.bool) 63
          have hD0 := hDx.alloc (.cells #[.bool false, .bool false, .bool false] 63)
          have hb0 : Below W0.heap.size W0 (W0.alloc (.cells #[.bool false, .bool false, .bool false] 63)) := (Below.refl _ _).alloc (Nat.le_refl _) _
          have zd0 := hDx.lt
          have z30 := hgx.size
          go_wp2_with fail
          refine (next_c d 4 _ hD0 (by decide)).mono ?_
          rintro e W1' ⟨x, rfl, hx0, hx1, -, hD1, hg1⟩
          replace hx1 := hx1 (by decide)
          obtain ⟨n0, rfl⟩ := Int.eq_ofNat_of_zero_le hx0
          have bx1 := bx0.grown hg1 (fun h => by injection h with h; omega)
          have hgb1 : W0.grownBy W1' (some d) := grown_trans (grown_below hb0 (Nat.le_refl _) _) hg1
          have hownx1 := hownx.kept hgb1 (.inr (fun e => by have := (hownx.lt e).1; omega))
          clear bx0 hD0 hb0 hg1 hx0
          generalize hhb : W0.heap.size = hb at *
          have hnex : ∀ xv, Own W0 W3.heap.size 47 7 xv (ls.map Tal.cells) → xv.ownBlock ≠ some hb := fun xv h e => by have := (h.lt e).2; omega
          have hnex := hnex _ hownx
          have ztb : tb < hb := by omega
          have zghb : g ≠ hb := by
            have := (HR.out W0 hgx).row (i := 0) (c := xs[0].cells) (map_at _ hpos)
            obtain ⟨b, o, e2, hbl, -⟩ := this
            injection e2 with e2
            injection e2 with e2
            omega
          go_wp2_with fail
          go_loopw [5, 10] (fun x k wz => ∃ (n : Nat) (ls' : List Tal) (hs : List Bool), k = .int .i64 n ∧ n ≤ 3 ∧ Hid (evB xs next ls' = true) ∧ Hid (CB (4 * (m : Int) + 4 - n) ls') ∧ Own wz W3.heap.size 47 7 x (ls'.map Tal.cells) ∧ Hid (x.ownBlock ≠ some hb) ∧ Box wz hb (hs.map Value.bool) 63 ∧
              Hid (hs = ws.map (hitB xs ls')) ∧ Hid (∀ y ∈ ws, y.s ≤ totE xs ls' y.g y.k) ∧ DiceAt wz d ∧ W0.grownBy wz (some d)) (fun _ k _ => (intOf k).toNat)
          case atStart => exact ⟨n0, ls, [false, false, false], rfl, by omega, Hev, Lib.hid (fun x hx j hj => by have := Hcb.out x hx j hj; omega), hownx1, Lib.hid hnex, bx1, Lib.hid (hits0 Hlw.out Hset.out), Lib.hid (fun y hy => by rw [Hset.out y hy]; omega), hD1, hgb1⟩
          case round =>
            clear hownx1 hnex bx1 hD1 hgb1 hx1 Hset Hev Hcb
            obtain ⟨n, ls', hs, rfl, hn, Hev, Hcb, hownx', Hnex, bxr, Hhs, Hmono, hDr, hgr⟩ := hrel
            obtain ⟨D', e', rfl, hce', -, hrdx', -, -⟩ := hownx'.rd
            have hnil' := hownx'.facts.2.2.2.1
            rw [List.length_map] at *
            have hgr3 := grown_trans hgx hgr
            by_cases hn0 : n = 0
            · subst hn0
              rw [show ((0 : Nat) : Int) = (0 : Int) from rfl]
              obtain ⟨q0, q1, -⟩ := HC.out wr hgr3
              obtain ⟨pe1, pe2, pe3, pe4⟩ := poll_ok Hev.out Hwok.out (by rw [Hlw.out]; omega)
              have pa := poll_again Hev.out Hwok.out (by rw [Hlw.out]; omega)
              have hls := (ev_ids Hev.out).2.1
              have hwr := (hownw.kept hgr (.inr (fun e => by injection e with e; change gw = d at e; omega))).facts.2.2.1
              have hP1 := evPoll_c (some ⟨g, 0, none⟩) c xs next D' e' ls' (some ⟨gw, 0, none⟩) cw ws wr (HR.out wr hgr3) hok.2 (by omega) hcl hownx'.facts.2.2.1 (by omega) hwr (fun e => by cases e) (by rw [Hlw.out]; omega)
              rw [pe1, pe2, Hlw.out] at hP1
              have HP1 := Lib.hid hP1
              have Hp3 := Lib.hid pe3
              have Hp4 := Lib.hid pe4
              have Hpa := Lib.hid pa
              have Hls := Lib.hid hls
              clear hP1 pe1 pe2 pe3 pe4 pa hls
              go_wp2_with fail
              refine HP1.out.mono ?_
              rintro e w5 ⟨vu, vt, rfl, hou, hot, hb5⟩
              obtain ⟨gu, cu, rfl, hcu, -, hguB, hgul, -, hru⟩ := hou.open' (by rw [List.length_map, List.length_map, Hlw.out]; omega)
              obtain ⟨At, ct, rfl, hct, -, hrt, -, -⟩ := hot.rd
              simp only [List.length_map, Hlw.out] at hcu hou hot ⊢
              have hR5 := (HR.out wr hgr3).below hb5 (Nat.le_refl _)
              have hx5 := hownx'.below hb5 (Nat.le_refl _)
              have hP2 := evPoll_c (some ⟨g, 0, none⟩) c xs next D' e' ls' (some ⟨gu, 0, none⟩) cu (ws.map (seenW xs ls')) w5 hR5 hok.2 (by omega) hcl hx5.facts.2.2.1 (by have := Hls.out; omega) hru (fun e => by cases e) (by rw [List.length_map, Hlw.out]; omega)
              rw [Hpa.out, List.length_map, Hlw.out] at hP2
              have HP2 := Lib.hid hP2
              clear hP2 HP1
              have hztb : tb < wr.heap.size := by have := bxr.lt; omega
              have q0' := (hb5.cell (p := ⟨tb, 0, none⟩) hztb).trans q0
              have q1' := (hb5.cell (p := ⟨tb, 1, none⟩) hztb).trans q1
              go_wp2_with fail
              refine HP2.out.mono ?_
              rintro e w6 ⟨vv, va, rfl, hov, hoa, hb6⟩
              obtain ⟨gv, cv, rfl, hcv, -, -, -, -, hrv⟩ := hov.open' (by rw [List.length_map, List.length_map, Hlw.out]; omega)
              obtain ⟨Aa, ca, rfl, -, -, -, -, -⟩ := hoa.rd
              simp only [List.length_map, Hlw.out, List.map_nil, List.length_nil] at hcv hov hoa ⊢
              have hb56 := bel_trans hb5 hb6
              have hSa := sameWat_c (some ⟨gu, 0, none⟩) cu (ws.map (seenW xs ls')) (some ⟨gv, 0, none⟩) cv (ws.map (seenW xs ls')) w6 (hru.below hb6 (Nat.le_refl _)) hrv (by rw [List.length_map, Hlw.out]; omega) (by rw [List.length_map, Hlw.out]; omega)
              rw [decide_eq_true rfl, List.length_map, Hlw.out] at hSa
              have HSa := Lib.hid hSa
              clear hSa HP2 q0 q1 q0' q1'
              go_wp2_with fail
              refine HSa.out.mono ?_
              rintro e w7 ⟨rfl, hb7⟩
              have hb57 := bel_trans hb56 hb7
              have bx7 := bxr.below hb57 (Nat.le_refl _)
              have hrt7 := hrt.below (bel_trans hb6 hb7) (Nat.le_refl _)
              have hou7 := (hou.below (bel_trans hb6 hb7) (Nat.le_refl _)).base (show W3.heap.size ≤ wr.heap.size from hgr3.size)
              have hx7 := hownx'.below hb57 (Nat.le_refl _)
              have hD7 := hDr.below hb57 (Nat.le_refl _)
              have hg7 : W3.grownBy w7 (some d) := grown_trans hgr3 (grown_below hb57 (Nat.le_refl _) _)
              clear hb5 hb6 hb7 hb56 hb57 bxr hrt hou hot hov hoa hownx' hDr hgr hgr3 hR5 hx5 hru hrv HSa hrdx'
              generalize (pollE xs next ls' ws).2.1 = told at *
              have htl : told.length ≤ 3 := by have := Hp4.out; rw [Hlw.out] at this; exact this
              have Hset' := Lib.hid (show ∀ y ∈ ws.map (seenW xs ls'), y.s = totE xs ls' y.g y.k from fun y hy => by obtain ⟨z, hz, rfl⟩ := List.mem_map.1 hy; rfl)
              have Hcb' := Lib.hid (show CB (4 * ((m + 1 : Nat) : Int)) ls' from fun x hx j hj => by have := Hcb.out x hx j hj; omega)
              have Hlw' := Lib.hid (show (ws.map (seenW xs ls')).length = 3 by rw [List.length_map, Hlw.out])
              have Hwok' := Lib.hid (seen_ok (ls := ls') Hwok.out)
              clear Hcb
              go_wp2_with fail
              go_loopw [22] (fun i wz => ∃ j : Nat, i = .int .i64 j ∧ j ≤ 3 ∧ Below w7.heap.size w7 wz) (fun i _ => 3 - (intOf i).toNat)
              case atStart => exact ⟨0, rfl, by omega, Below.refl _ _⟩
              case round =>
                obtain ⟨j, rfl, hj, hbj⟩ := hrel
                by_cases hj3 : j = 3
                · subst hj3
                  rw [show ((3 : Nat) : Int) = (3 : Int) from rfl]
                  have o1 := hx7.below hbj (Nat.le_refl _)
                  have o2 := hou7.below hbj (Nat.le_refl _)
                  have o3 := hD7.below hbj (Nat.le_refl _)
                  have o4 : W3.grownBy wr (some d) := grown_trans hg7 (grown_below hbj (Nat.le_refl _) _)
                  have h1b : -9223372036854775808 ≤ (m : Int) + 1 ∧ (m : Int) + 1 ≤ 9223372036854775807 := by omega
                  go_wp2
                  go_roundw
                  case rel => exact ⟨m + 1, ls', ws.map (seenW xs ls'), by go_num, by omega, Hev, Hcb', Hlw', Hwok', Hset', o1, o2, o3, o4⟩
                  case measure => simp [intOf]; omega
                · have hjlt : (j : Int) < 3 := by omega
                  have hjw : j < ws.length := by rw [Hlw.out]; omega
                  have hjh : j < hs.length := by rw [Hhs.out, List.length_map]; exact hjw
                  have hnj : (j : Int).toNat = j := rfl
                  have h0j : (0 : Int) ≤ (j : Int) := by omega
                  have hbxj := bx7.below hbj (Nat.le_refl _)
                  have hj1 := Hp3.out j hjw
                  have hj2 : hs[j] = hitB xs ls' ws[j] := by simp [Hhs.out]
                  have c9 := hbxj.cells.at_ j (.bool hs[j]) (by simp [List.getElem?_eq_getElem hjh])
                  simp only [Nat.zero_add] at c9
                  rw [hj2] at c9
                  generalize hitB xs ls' ws[j] = t at *
                  have Ht := Lib.hid hj1
                  clear hj1 hj2
                  have hzb : hb < wr.heap.size := hbxj.lt
                  have HS := Lib.hid (show ∀ W, Below wr.heap.size wr W → Below wr.heap.size wr W ∧ W.cell? ⟨hb, j, none⟩ = some (.bool t) from fun W hW => ⟨hW, (hW.cell (p := ⟨hb, j, none⟩) hzb).trans c9⟩)
                  have hbd : Below wr.heap.size wr wr.drew := (Below.refl _ _).drew
                  have hS0 := HS.out _ hbd
                  have HHa := Lib.hid (show ∀ W, Below wr.heap.size wr W → Calls Tryd.prog 25 #[.slice At told.length ct, .int .i64 j] W fun e w' => e = .returned (.bool t) ∧ Below wr.heap.size wr w' by
                    intro W hW
                    refine (hasI_c At ct told j W (hrt7.below (bel_trans hbj hW) (Nat.le_refl _)) (by omega)).mono ?_
                    rintro e w' ⟨rfl, hb'⟩
                    rw [Ht.out]
                    exact ⟨rfl, bel_trans hW hb'⟩)
                  go_wp2_with fail
                  cases t
                  case false =>
                    go_region_held3 (fun W => Below wr.heap.size wr W ∧ W.cell? ⟨hb, j, none⟩ = some (.bool false))
                      (first
                        | exact hS0
                        | exact HS.out _ (by first | exact hb8 | assumption)
                        | go_keep)
                      ((go_at_call 25; go_split_ands; refine (HHa.out _ (by first | exact hbd | assumption)).mono ?_; rintro e w8 ⟨rfl, hb8⟩))
                    have hbj8 := bel_trans hbj hb8
                    have h1b : -9223372036854775808 ≤ (j : Int) + 1 ∧ (j : Int) + 1 ≤ 9223372036854775807 := by omega
                    go_wp2
                    go_roundw
                    case rel => exact ⟨j + 1, by go_num, by omega, hbj8⟩
                    case measure => simp [intOf]; omega
                  case true =>
                    go_region_held3 (fun W => Below wr.heap.size wr W ∧ W.cell? ⟨hb, j, none⟩ = some (.bool true))
                      (first
                        | exact hS0
                        | exact HS.out _ (by first | exact hb8 | assumption)
                        | go_keep)
                      ((go_at_call 25; go_split_ands; refine (HHa.out _ (by first | exact hbd | assumption)).mono ?_; rintro e w8 ⟨rfl, hb8⟩))
                    have hbj8 := bel_trans hbj hb8
                    have h1b : -9223372036854775808 ≤ (j : Int) + 1 ∧ (j : Int) + 1 ≤ 9223372036854775807 := by omega
                    go_wp2
                    go_roundw
                    case rel => exact ⟨j + 1, by go_num, by omega, hbj8⟩
                    case measure => simp [intOf]; omega
            · have hnpos : (0 : Int) < (n : Int) := by omega
              have HS := Lib.hid (show ∀ W, wr.grownBy W (some d) → DiceAt W d → W.cell? ⟨tb, 0, none⟩ = some (.slice (some ⟨g, 0, none⟩) xs.length c) ∧ W.cell? ⟨tb, 1, none⟩ = some (.int .i64 next) ∧ wr.grownBy W (some d) ∧ DiceAt W d ∧ (∀ q, q < xs.length → W.cell? ⟨g, q * 6, none⟩ = some (.int .i64 (fid q))) from fun W hgW hDW => by
                obtain ⟨s0, s1, s2⟩ := HC.out W (grown_trans hgr3 hgW)
                exact ⟨s0, s1, hgW, hDW, s2⟩)
              have hS0 := HS.out wr.drew (grown_drewN (grown_refl wr _) 1) (hDr.grown (grown_drewN (grown_refl wr none) 1) (by simp))
              have HNx := Lib.hid (show ∀ W (n : Int), 1 ≤ n → n ≤ 100 → wr.grownBy W (some d) → DiceAt W d → Calls Tryd.prog 10 #[.pointer (some ⟨d, 0, none⟩), .int .i64 n] W fun e w' => ∃ k : Nat, e = .returned (.int .i64 k) ∧ (k : Int) < n ∧ (w'.cell? ⟨tb, 0, none⟩ = some (.slice (some ⟨g, 0, none⟩) xs.length c) ∧ w'.cell? ⟨tb, 1, none⟩ = some (.int .i64 next) ∧ wr.grownBy w' (some d) ∧ DiceAt w' d ∧ (∀ q, q < xs.length → w'.cell? ⟨g, q * 6, none⟩ = some (.int .i64 (fid q)))) by
                intro W n h1 h2 hgW hDW
                refine (next_c d n W hDW (by omega)).mono ?_
                rintro e w' ⟨x, rfl, hx0, hx1, -, hd', hg'⟩
                replace hx1 := hx1 (by omega)
                obtain ⟨k, rfl⟩ := Int.eq_ofNat_of_zero_le hx0
                exact ⟨k, rfl, hx1, HS.out w' (grown_trans hgW hg') hd'⟩)
              go_wp2_with fail
              go_cut [11, 12] from 59 to 114 (fun s11 s12 wx => ∃ k1 k2 : Nat, k1 < xs.length ∧ k2 < 3 ∧ s11 = .int .i64 (fid k1) ∧ s12 = .int .i64 k2 ∧ wr.grownBy wx (some d) ∧ DiceAt wx d)
              case first =>
                go_region_held3 (fun W => W.cell? ⟨tb, 0, none⟩ = some (.slice (some ⟨g, 0, none⟩) xs.length c) ∧ W.cell? ⟨tb, 1, none⟩ = some (.int .i64 next) ∧ wr.grownBy W (some d) ∧ DiceAt W d ∧ (∀ q, q < xs.length → W.cell? ⟨g, q * 6, none⟩ = some (.int .i64 (fid q))))
                  (first
                    | exact hS0
                    | exact hx2
                    | exact hx1
                    | go_keep)
                  ((first
                    | (go_at_call 10; go_split_ands; refine (HNx.out _ _ (by omega) (by omega) (by assumption) (by assumption)).mono ?_; first
                        | (have _h2 := hk1; rintro e w2 ⟨k2, rfl, hk2, hx2⟩)
                        | (rintro e w1 ⟨k1, rfl, hk1, hx1⟩; have hq1 : k1 < xs.length := (by omega); have hc1 := hx1.2.2.2.2 k1 hq1))))
                all_goals
                  go_wp2_with fail
                  go_meet
                  have hk2' : k2 < 3 := by omega
                  have hS4 : wr.grownBy w2 (some d) ∧ DiceAt w2 d := by first | exact ⟨hx2.2.2.1, hx2.2.2.2.1⟩ | exact ⟨by assumption, by assumption⟩
                  exact ⟨k1, k2, hq1, hk2', rfl, rfl, hS4.1, hS4.2⟩
              case rest =>
                clear HNx hS0 HS
                obtain ⟨k1, k2, hk1, hk2, rfl, rfl, hgc, hDc⟩ := hcut
                obtain ⟨a1, a2, a3⟩ := add_ok (i := k1) (k := k2) (n := 1) Hev.out Hcb.out hk1 (by omega) (by omega) (by omega) (by omega)
                have hstep := fun y (hy : y ∈ ws) => hit_step (k := k2) Hev.out a2 hk1 (by omega) (Hwok.out y hy).2 (Hmono.out y hy)
                change addE xs next ls' xs[k1].id k2 1 = (bump ls' k1 k2 1, 0) at a1
                change evB xs next (bump ls' k1 k2 1) = true at a2
                change CB _ (bump ls' k1 k2 1) at a3
                rw [← Hfid.out k1 hk1] at a1 hstep
                have A2 := Lib.hid a2
                have A3 := Lib.hid (show CB (4 * (m : Int) + 4 - ((n - 1 : Nat) : Int)) (bump ls' k1 k2 1) from fun x hx j hj => by have := a3 x hx j hj; omega)
                have Hst := Lib.hid hstep
                have hownc := hownx'.kept hgc (.inr (fun e => by have := (hownx'.lt e).1; omega))
                have hAd := evAdd_c (some ⟨g, 0, none⟩) c xs next D' e' ls' (fid k1) k2 1 wc (HR.out wc (grown_trans hgr3 hgc)) hok.2 (by omega) hcl hownc.facts.2.2.1 hnil' (by have := (ev_ids Hev.out).2.1; omega)
                rw [a1] at hAd
                have HAd := Lib.hid hAd
                clear hAd a1 a2 a3 hstep
                obtain ⟨q0, q1, -⟩ := HC.out wc (grown_trans hgr3 hgc)
                go_wp2_with fail
                refine HAd.out.mono ?_
                rintro e w4 ⟨v4, rfl, ho4, hb4⟩
                have bx4 := (bxr.grown hgc (fun h => by injection h with h; omega)).below hb4 (Nat.le_refl _)
                have hD4 := hDc.below hb4 (Nat.le_refl _)
                have hg04 : W0.grownBy w4 (some d) := grown_trans hgr (grown_trans hgc (grown_below hb4 (Nat.le_refl _) _))
                have hg34 := grown_trans hgx hg04
                have Hne4 := Lib.hid (show v4.ownBlock ≠ some hb from fun e => by have := (ho4.lt e).1; have := bxr.lt; have := hgc.size; omega)
                have ho4' := ho4.base (show W3.heap.size ≤ wc.heap.size from (grown_trans hgr3 hgc).size)
                have hownw4 := hownw.kept hg04 (.inr (fun e => by have := (hownw.lt e).1; omega))
                clear q0 q1 HAd ho4 hb4 hgc hDc hownc bxr hDr hgr hownx' hrdx' Hnex Hev Hcb hgr3
                go_wp2_with fail
                go_loopw [15] (fun i wz => ∃ (j : Nat) (hs' : List Bool), i = .int .i64 j ∧ j ≤ 3 ∧ Box wz hb (hs'.map Value.bool) 63 ∧ Hid (hs'.length = 3 ∧ ∀ q (h1 : q < hs'.length) (h2 : q < ws.length), hs'[q] = if q < j then hitB xs (bump ls' k1 k2 1) ws[q] else hitB xs ls' ws[q]) ∧ w4.grownBy wz (some hb)) (fun i _ => 3 - (intOf i).toNat)
                case atStart => exact ⟨0, hs, rfl, by omega, bx4, Lib.hid ⟨by rw [Hhs.out, List.length_map, Hlw.out], fun q h1 h2 => by rw [if_neg (by omega)]; simp [Hhs.out]⟩, grown_refl _ _⟩
                case round =>
                  obtain ⟨j, hs', rfl, hj, bxj, Hj, hgj⟩ := hrel
                  by_cases hj3 : j = 3
                  · subst hj3
                    rw [show ((3 : Nat) : Int) = (3 : Int) from rfl]
                    have o1 := ho4'.kept hgj (.inr Hne4.out)
                    have o2 := hD4.grown hgj (fun r e => by injection e with e; omega)
                    have o3 := grown_far hg04 hgj (by omega)
                    have o4 := Lib.hid (hits_all Hj.out Hlw.out)
                    have o5 := Lib.hid (show ∀ y ∈ ws, y.s ≤ totE xs (bump ls' k1 k2 1) y.g y.k from fun y hy => (Hst.out y hy).2)
                    have h1b : -9223372036854775808 ≤ (n : Int) - 1 ∧ (n : Int) - 1 ≤ 9223372036854775807 := by omega
                    go_wp2
                    go_roundw
                    case rel => exact ⟨n - 1, bump ls' k1 k2 1, hs', by rw [show ((n - 1 : Nat) : Int) = (n : Int) - 1 from by omega], by omega, A2, A3, o1, Hne4, bxj, o4, o5, o2, o3⟩
                    case measure => simp [intOf]; omega
                  · have hjlt : (j : Int) < 3 := by omega
                    have hjw : j < ws.length := by rw [Hlw.out]; omega
                    have hnj : (j : Int).toNat = j := rfl
                    have h0j : (0 : Int) ≤ (j : Int) := by omega
                    have hjh : j < hs'.length := by rw [Hj.out.1]; omega
                    have hst := (Hst.out ws[j] (List.getElem_mem hjw)).1
                    have hold : hs'[j] = hitB xs ls' ws[j] := by rw [Hj.out.2 j hjh hjw, if_neg (by omega)]
                    have hgj4 := grown_far hg34 hgj (by omega)
                    obtain ⟨q0, q1, -⟩ := HC.out wr (grown_far hg34 hgj (by omega))
                    have hwr := (hownw4.kept hgj (.inr (fun e => by injection e with e; change gw = hb at e; omega))).facts.2.2.1
                    obtain ⟨b, o, e2, hbl, hcc⟩ := hwr.row (i := j) (c := ws[j].cells) (map_at _ hjw)
                    simp only [Option.some.injEq, Addr.mk.injEq, and_true] at e2
                    obtain ⟨rfl, rfl⟩ := e2
                    simp only [Wat.cells, CellsFrom, Nat.add_zero, Nat.zero_add, Nat.reduceAdd] at hcc
                    obtain ⟨w0, w1, -, -⟩ := hcc
                    have c9 := bxj.cells.at_ j (.bool hs'[j]) (by simp [List.getElem?_eq_getElem hjh])
                    simp only [Nat.zero_add] at c9
                    have f9 := bxj.fro j
                    have Hset := Lib.hid (fun b (hb : hitB xs (bump ls' k1 k2 1) ws[j] = b) => hits_set Hj.out hjw hb)
                    rw [hold] at c9
                    generalize hitB xs ls' ws[j] = old at *
                    generalize hitB xs (bump ls' k1 k2 1) ws[j] = new at *
                    have hzb : hb < wr.heap.size := bxj.lt
                    have hztb : tb < wr.heap.size := by omega
                    have HRj := Lib.hid (show ∀ W, Below wr.heap.size wr W → Rd W 6 (some ⟨g, 0, none⟩) (xs.map Grp.cells) from fun W hW => by
                      have h1 := (HR.out w4 hg34).grown hgj (fun b e h => by injection h with h; simp [blk] at e; omega)
                      exact h1.below hW (Nat.le_refl _))
                    generalize ws[j].k = yk at *
                    generalize ws[j].g = yg at *
                    have HS := Lib.hid (show ∀ W, Below wr.heap.size wr W → W.cell? ⟨tb, 0, none⟩ = some (.slice (some ⟨g, 0, none⟩) xs.length c) ∧ W.cell? ⟨tb, 1, none⟩ = some (.int .i64 next) ∧ Below wr.heap.size wr W ∧ W.cell? ⟨gw, j * 3, none⟩ = some (.int .i64 yg) ∧ W.cell? ⟨gw, j * 3 + 1, none⟩ = some (.int .i64 yk) ∧ W.cell? ⟨hb, j, none⟩ = some (.bool old) ∧ W.frozen? ⟨hb, j, none⟩ = false from fun W hW => by
                      refine ⟨(hW.cell (p := ⟨tb, 0, none⟩) hztb).trans q0, (hW.cell (p := ⟨tb, 1, none⟩) hztb).trans q1, hW, (hW.cell (p := ⟨gw, j * 3, none⟩) hbl).trans w0, (hW.cell (p := ⟨gw, j * 3 + 1, none⟩) hbl).trans w1, (hW.cell (p := ⟨hb, j, none⟩) hzb).trans c9, (hW.frozen (p := ⟨hb, j, none⟩) hzb).trans f9⟩)
                    have hbd : Below wr.heap.size wr wr.drew := (Below.refl _ _).drew
                    have hS0 := HS.out _ hbd
                    have hgS : ∀ W (u : Value), Below wr.heap.size wr W → w4.grownBy (W.setCell ⟨hb, j, none⟩ u) (some hb) := fun W u hW => grown_trans (grown_trans hgj (grown_below hW (Nat.le_refl _) _)) (grown_set W hb j u)
                    have hbxS : ∀ W (u : Bool), Below wr.heap.size wr W → Box (W.setCell ⟨hb, j, none⟩ (.bool u)) hb ((hs'.set j u).map Value.bool) 63 := fun W u hW => by
                      rw [List.map_set]
                      exact (bxj.below hW (Nat.le_refl _)).set j (.bool u)
                    have HgS := Lib.hid hgS
                    have HbxS := Lib.hid hbxS
                    have Hst1 := Lib.hid hst
                    have h1b : -9223372036854775808 ≤ (j : Int) + 1 ∧ (j : Int) + 1 ≤ 9223372036854775807 := by omega
                    clear hgS hbxS hst hold hwr hgj4
                    cases old
                    case true =>
                      have hR := Hset.out true (by rw [Hst1.out, Bool.true_or])
                      go_wp2_with fail
                      go_region
                      all_goals
                        go_wp2
                        go_roundw
                        case rel => exact ⟨j + 1, hs'.set j true, by go_num, by omega, HbxS.out _ true (by first | exact hbd | exact Below.refl _ _), Lib.hid hR, grown_drewN (HgS.out _ _ (Below.refl _ _)) 1⟩
                        case measure => simp [intOf]; omega
                    case false =>
                      cases hke : (yk == (k2 : Int)) with
                      | false =>
                        have hR := Hset.out false (by rw [Hst1.out, Bool.false_or, hke, Bool.false_and])
                        go_wp2_with fail
                        go_region
                        all_goals
                          go_wp2
                          go_roundw
                          case rel => exact ⟨j + 1, hs'.set j false, by go_num, by omega, HbxS.out _ false (by first | exact hbd | exact Below.refl _ _), Lib.hid hR, grown_drewN (HgS.out _ _ (Below.refl _ _)) 1⟩
                          case measure => simp [intOf]; omega
                      | true =>
                        obtain ⟨t, ht⟩ : ∃ t : Bool, decide (yg ∈ ancR xs next (fid k1)) = t := ⟨_, rfl⟩
                        have hR := Hset.out t (by rw [Hst1.out, Bool.false_or, hke, Bool.true_and, ht])
                        have Ht := Lib.hid ht
                        have HRr := Lib.hid hR
                        clear ht hR
                        have HAn := Lib.hid (show ∀ W, Below wr.heap.size wr W → Calls Tryd.prog 26 #[.agg #[.slice (some ⟨g, 0, none⟩) xs.length c, .int .i64 next], .int .i64 (fid k1)] W fun e w' => ∃ A' n' c', e = .returned (.slice A' n' c') ∧ Hid (n' = (ancR xs next (fid k1)).length) ∧ Rd w' 1 A' ((ancR xs next (fid k1)).map icells) ∧ Below wr.heap.size wr w' by
                          intro W hW
                          refine (ranc_c (some ⟨g, 0, none⟩) c xs next (fid k1) W (HRj.out _ hW) hok.2 (by omega)).mono ?_
                          rintro e w' ⟨v', rfl, ho', hb'⟩
                          obtain ⟨A', c', rfl, -, -, hr', -, -⟩ := ho'.rd
                          rw [List.length_map] at *
                          exact ⟨A', _, c', rfl, Lib.hid rfl, hr', bel_trans hW hb'⟩)
                        have HHa := Lib.hid (show ∀ W A' n' c', Hid (n' = (ancR xs next (fid k1)).length) → Rd W 1 A' ((ancR xs next (fid k1)).map icells) → Below wr.heap.size wr W → Calls Tryd.prog 25 #[.slice A' n' c', .int .i64 yg] W fun e w' => e = .returned (.bool t) ∧ Below wr.heap.size wr w' by
                          intro W A' n' c' hn' hr' hW
                          have hn' := hn'.out
                          subst hn'
                          have hal := ancR_len xs next (fid k1)
                          refine (hasI_c A' c' _ yg W hr' (by omega)).mono ?_
                          rintro e w' ⟨rfl, hb'⟩
                          rw [Ht.out]
                          exact ⟨rfl, bel_trans hW hb'⟩)
                        go_wp2_with fail
                        obtain ⟨y0, y1, -, y2, y3, y4, y5⟩ := hS0
                        go_region_with ((first
                            | (go_at_call 26; go_split_ands; refine (HAn.out _ (by first | exact hbd | assumption)).mono ?_; rintro e w12 ⟨A12, n12, c12, rfl, hn12, hr12, hb12⟩; obtain ⟨x0, x1, -, x2, x3, x4, x5⟩ := HS.out _ hb12)
                            | (go_at_call 25; go_split_ands; refine (HHa.out _ _ _ _ hn12 hr12 (by first | exact hb12 | assumption)).mono ?_; rintro e w13 ⟨rfl, hb13⟩; obtain ⟨p0, p1, -, p2, p3, p4, p5⟩ := HS.out _ hb13)))
                        all_goals
                          go_wp2
                          go_roundw
                          case rel => exact ⟨j + 1, hs'.set j t, by go_num, by omega, HbxS.out _ t hb13, Lib.hid HRr.out, HgS.out _ _ hb13⟩
                          case measure => simp [intOf]; omega
    · have hlt3 : (m : Int) < 3 := by omega
      have HS := Lib.hid (show ∀ W, W4.grownBy W (some d) → DiceAt W d → W.cell? ⟨tb, 0, none⟩ = some (.slice (some ⟨g, 0, none⟩) xs.length c) ∧ W.cell? ⟨tb, 1, none⟩ = some (.int .i64 next) ∧ W4.grownBy W (some d) ∧ DiceAt W d ∧ (∀ q, q < xs.length → W.cell? ⟨g, q * 6, none⟩ = some (.int .i64 (fid q))) from fun W hgW hDW => by
        obtain ⟨s0, s1, s2⟩ := HC.out W (grown_trans hg4 hgW)
        exact ⟨s0, s1, hgW, hDW, s2⟩)
      have hgd : wr.grownBy wr.drew (some d) := grown_drewN (grown_refl wr _) 1
      have hS0 := HS.out wr.drew (grown_trans hgx hgd) (hDx.grown (grown_drewN (grown_refl wr none) 1) (by simp))
      have HNx := Lib.hid (show ∀ W (n : Int), 1 ≤ n → n ≤ 100 → wr.grownBy W (some d) → DiceAt W d → Calls Tryd.prog 10 #[.pointer (some ⟨d, 0, none⟩), .int .i64 n] W fun e w' => ∃ k : Nat, e = .returned (.int .i64 k) ∧ (k : Int) < n ∧ wr.grownBy w' (some d) ∧ (w'.cell? ⟨tb, 0, none⟩ = some (.slice (some ⟨g, 0, none⟩) xs.length c) ∧ w'.cell? ⟨tb, 1, none⟩ = some (.int .i64 next) ∧ W4.grownBy w' (some d) ∧ DiceAt w' d ∧ (∀ q, q < xs.length → w'.cell? ⟨g, q * 6, none⟩ = some (.int .i64 (fid q)))) by
        intro W n h1 h2 hgW hDW
        refine (next_c d n W hDW (by omega)).mono ?_
        rintro e w' ⟨x, rfl, hx0, hx1, -, hd', hg'⟩
        replace hx1 := hx1 (by omega)
        obtain ⟨k, rfl⟩ := Int.eq_ofNat_of_zero_le hx0
        exact ⟨k, rfl, hx1, grown_trans hgW hg', HS.out w' (grown_trans hgx (grown_trans hgW hg')) hd'⟩)
      go_wp2_with fail
      go_region_held3 (fun W => W.cell? ⟨tb, 0, none⟩ = some (.slice (some ⟨g, 0, none⟩) xs.length c) ∧ W.cell? ⟨tb, 1, none⟩ = some (.int .i64 next) ∧ W4.grownBy W (some d) ∧ DiceAt W d ∧ (∀ q, q < xs.length → W.cell? ⟨g, q * 6, none⟩ = some (.int .i64 (fid q))))
        (first
          | exact hS0
          | exact hx5
          | exact hx3
          | exact hx2
          | exact hx1
          | go_keep)
        ((first
          | (go_at_call 10; go_split_ands; refine (HNx.out _ _ (by omega) (by omega) (by first | exact hgw1 | exact hgd) (by assumption)).mono ?_; first
              | (have _h2 := hk1; rintro e w2 ⟨k2, rfl, hk2, hgw2, hx2⟩; have hDw2 := hx2.2.2.2.1; have hownN := (hownw.kept hgw2 (.inr (fun e => by have := (hownw.lt e).1; omega))).alloc (.cells #[.int .i64 (fid k1), .int .i64 k2, .int .i64 0] 62); have hrdN := rd_box (k := 3) (cs := [Wat.cells ⟨fid k1, k2, 0⟩]) (Box.mk w2 [.int .i64 (fid k1), .int .i64 k2, .int .i64 0] 62) (Wat.cells_len [_]); have hgw3 : wr.grownBy (w2.alloc (.cells #[.int .i64 (fid k1), .int .i64 k2, .int .i64 0] 62)) (some d) := grown_trans hgw2 (grown_below ((Below.refl w2.heap.size w2).alloc (Nat.le_refl _) _) (Nat.le_refl _) _); have hDw3 := hDw2.alloc (.cells #[.int .i64 (fid k1), .int .i64 k2, .int .i64 0] 62); have hx3 := HS.out _ (grown_trans hgx hgw3) hDw3)
              | (rintro e w1 ⟨k1, rfl, hk1, hgw1, hx1⟩; have hq1 : k1 < xs.length := (by omega); have hc1 := hx1.2.2.2.2 k1 hq1))
          | (go_split_ands; refine step_appAny siWat [Wat.cells ⟨fid k1, k2, 0⟩] rfl _ _ rfl rfl rfl hownN hrdN (by simp) (Wat.cells_len [_]) (Wat.cells_one [_]) (by rw [List.length_map]; have := Hlw.out; omega) (by omega) (by simp; have := hgx.size; have := hgw2.size; omega) ?_; intro v5 w5 hown5 hg5 hat5; have hgw5 : W4.grownBy w5 (some d) := grown_row (grown_trans hgx hgw3) hg5 (fun r e => (hownw.lt e).1); have hDw5 := hDw3.grown hg5 (fun r e => by have := (hownw.lt e).1; omega); have hx5 := HS.out w5 hgw5 hDw5)))
      all_goals
        have h1b : -9223372036854775808 ≤ (m : Int) + 1 ∧ (m : Int) + 1 ≤ 9223372036854775807 := by omega
        have hk2' : k2 < 6 := by omega
        have HW5 : Hid ((ws ++ [(⟨fid k1, k2, 0⟩ : Wat)]).length = m + 1) ∧ Hid (WatOk xs (ws ++ [⟨fid k1, k2, 0⟩])) ∧ Hid (∀ y ∈ ws ++ [(⟨fid k1, k2, 0⟩ : Wat)], y.s = 0) := by
          refine ⟨Lib.hid (by rw [List.length_append, Hlw.out]; rfl), Lib.hid (fun y hy => ?_), Lib.hid (fun y hy => ?_)⟩
          · rcases List.mem_append.1 hy with hy | hy
            · exact Hwok.out y hy
            · rw [List.mem_singleton] at hy
              subst hy
              exact ⟨⟨k1, hq1, Hfid.out k1 hq1⟩, k2, hk2', rfl⟩
          · rcases List.mem_append.1 hy with hy | hy
            · exact Hw0.out y hy
            · rw [List.mem_singleton] at hy
              subst hy
              rfl
        have hown5' : Own w5 W4.heap.size 62 3 v5 ((ws ++ [(⟨fid k1, k2, 0⟩ : Wat)]).map Wat.cells) := by rw [List.map_append]; exact hown5
        go_wp2
        go_roundw
        case rel => exact ⟨m + 1, _, by go_num, by omega, HW5.1, HW5.2.1, HW5.2.2, hown5', hDw5, hgw5⟩
        case measure => simp [intOf]; omega
end Go.Proofs.YtmjnibofdpgacaaDoor
