/-
  EventSums: the walk.
-/
import Derived.Test.YtmjnibofdpgacaaDoorEvKeepsP
import Derived.Test.YtmjnibofdpgacaaDoorBase
import Derived.Test.YtmjnibofdpgacaaDoorMadeTree
import Derived.Test.YtmjnibofdpgacaaDoorRoll
import Derived.Test.YtmjnibofdpgacaaDoorEvAdd
import Derived.Test.YtmjnibofdpgacaaDoorEvTotal
import Derived.Test.YtmjnibofdpgacaaDoorEvAdjust
import Derived.Test.YtmjnibofdpgacaaDoorSane37
import Derived.Deep.RegionHeld3
import Derived.Deep.CutRange
import Derived.Test.YtmjnibofdpgacaaDoorR5Kids
import Derived.Test.YtmjnibofdpgacaaDoorSameInt
set_option linter.unusedSimpArgs false
set_option linter.unusedVariables false
namespace Go.Proofs.YtmjnibofdpgacaaDoor
open Go.RowKit Gc

set_option maxRecDepth 100000 in
set_option maxHeartbeats 8000000 in
theorem evSums_c (A0 : Option Addr) (c0 : Nat) (ts : List Int) (kd : Int) (w : World) (h : Rd w 1 A0 (ts.map icells)) (hp : ∀ b, blk A0 = some b → b < w.heap.size) (hc : ts.length ≤ c0) :
    Calls Tryd.prog 5 #[.slice A0 ts.length c0, .int .i64 kd] w fun e w' => e = .returned (.bool true) ∧ Below w.heap.size w w' := by
  go_enter Tryd.func5, Tryd.ntmps5
  go_wp2_with fail
  refine (light_c A0 ts.length c0 w).mono ?_
  rintro e w1 ⟨rfl, rfl⟩
  obtain ⟨b, hb0, hL⟩ : ∃ b : Bool, decide ((ts.length : Int) ≤ 600) = b ∧ (b = true → (ts.length : Int) ≤ 600) := ⟨_, rfl, fun h => of_decide_eq_true h⟩
  rw [hb0]
  clear hb0
  cases b
  case false =>
    go_wp2_with fail
    refine (sane37_c w).mono ?_
    rintro e w1 ⟨rfl, hb⟩
    go_wp2_with fail
    go_ret
    exact ⟨rfl, hb⟩
  replace hL := hL rfl
  go_wp2_with fail
  refine (roll_c A0 c0 ts w h hp hc (by omega)).mono ?_
  rintro e W1 ⟨d, rfl, hD1, hd, hb1⟩
  have hdl := hD1.lt
  clear h hp hc hL
  go_wp2_with fail
  refine (tree_c d 7 W1 hD1 (by decide)).mono ?_
  rintro e W2 ⟨v, xs, next, rfl, hown2, hok, hlen, hD2, hg2⟩
  have hpos := (good_of_check hok.1).pos
  obtain ⟨g, c, rfl, hcl, -, hgB, hgl2, -, -⟩ := hown2.open' (by rw [List.length_map]; exact hpos)
  rw [List.length_map] at *
  have hk1 : Below W2.heap.size W2 ((W2.alloc (.cells #[.slice (some ⟨g, 0, none⟩) xs.length c, .int .i64 next] 24)).alloc (.cells #[.int .i64 kd] 3)) := ((Below.refl _ _).alloc (Nat.le_refl _) _).alloc (by simp) _
  have t3 := (Box.mk W2 [.slice (some ⟨g, 0, none⟩) xs.length c, .int .i64 next] 24).alloc (.cells #[.int .i64 kd] 3)
  have br := Box.mk (W2.alloc (.cells #[.slice (some ⟨g, 0, none⟩) xs.length c, .int .i64 next] 24)) (([kd].map icells).flatten) 3
  rw [show (W2.alloc (.cells #[.slice (some ⟨g, 0, none⟩) xs.length c, .int .i64 next] 24)).heap.size = W2.heap.size + 1 from by simp] at br
  have hN : Rd ((W2.alloc (.cells #[.slice (some ⟨g, 0, none⟩) xs.length c, .int .i64 next] 24)).alloc (.cells #[.int .i64 kd] 3)) 1 (some ⟨W2.heap.size + 1, 0, none⟩) ([kd].map icells) := rd_box br (by simp [icells])
  have hz1 : W2.heap.size + 1 < ((W2.alloc (.cells #[.slice (some ⟨g, 0, none⟩) xs.length c, .int .i64 next] 24)).alloc (.cells #[.int .i64 kd] 3)).heap.size := br.lt
  clear br
  go_wp2_with fail
  generalize hWx : (W2.alloc _).alloc _ = Wk at *
  clear hWx
  refine (roll_c (some ⟨W2.heap.size + 1, 0, none⟩) 1 [kd] Wk hN (by intro b' e; cases e; exact hz1) (by simp) (by simp)).mono ?_
  rintro e W2' ⟨dd, rfl, hDD, hdd, hbk⟩
  clear hN
  go_wp2_with fail
  refine (next_c dd 6 W2' hDD (by decide)).mono ?_
  rintro e W3 ⟨x, rfl, hx0, hx1, -, -, hgk⟩
  replace hx1 := hx1 (by decide)
  obtain ⟨kk, rfl⟩ := Int.eq_ofNat_of_zero_le hx0
  have hkk : kk < 6 := by omega
  have hbk3 : Below Wk.heap.size Wk W3 := hbk.grown hgk hbk.size (fun k e => by injection e with e; omega)
  have hb23 := bel_trans hk1 hbk3
  have t3 := t3.below hbk3 (Nat.le_refl _)
  have hown3 := hown2.below hb23 (Nat.le_refl _)
  have hD3 := hD2.below hb23 (Nat.le_refl _)
  have hg3 := grown_trans hg2 (grown_below hb23 (Nat.le_refl _) (some d))
  have hB3 : Below w.heap.size w W3 := hb1.grown hg3 hb1.size (fun k e => by injection e with e; omega)
  have hgs := hg2.size
  generalize htb : W2.heap.size = tb at *
  clear hown2 hD2 hg2 hD1 hb1 hbk hgk hDD hdd hk1 hz1 hbk3 hb23 hx0 hx1 htb
  have zt := t3.lt
  obtain ⟨t0, t1, -⟩ := t3.cells
  simp only [Nat.zero_add, Nat.add_zero, Nat.reduceAdd] at t0 t1
  go_wp2_with fail
  have hcn := check_next hok.1
  have hrd3 := (hown3.rd)
  obtain ⟨A', c', e1, -, -, hrd3, -, -⟩ := hrd3
  rw [List.length_map] at e1
  simp only [Value.slice.injEq, true_and] at e1
  obtain ⟨rfl, rfl⟩ := e1
  refine (evNew_c (some ⟨g, 0, none⟩) c xs next W3 hrd3 hok.2 (by omega) hcl).mono ?_
  rintro e W4 ⟨v, rfl, hl4, hb4⟩
  obtain ⟨n1, n2, n3⟩ := new_ok hok.1
  rw [n1] at hl4
  have zd : d < W3.heap.size := hD3.lt
  have hgd : g ≠ d := by have := hdl; omega
  have hD4 := hD3.below hb4 (Nat.le_refl _)
  have hg4 : W3.grownBy W4 (some d) := grown_below hb4 (Nat.le_refl _) _
  have hnd : (Value.slice (some ⟨g, 0, none⟩) xs.length c).ownBlock ≠ some d := fun e => by injection e with e; exact hgd e
  have HR := Lib.hid (show ∀ W, W3.grownBy W (some d) → Rd W 6 (some ⟨g, 0, none⟩) (xs.map Grp.cells) by
    intro W hgW
    obtain ⟨A', c', e1, -, -, hrd', -, -⟩ := (hown3.kept hgW (.inr hnd)).rd
    simp only [Value.slice.injEq] at e1
    obtain ⟨rfl, -, rfl⟩ := e1
    exact hrd')
  obtain ⟨fid, hfid⟩ : ∃ fid : Nat → Int, ∀ q (h : q < xs.length), fid q = xs[q].id := ⟨fun q => (xs.getD q default).id, fun q h => by simp [List.getD_eq_getElem?_getD, List.getElem?_eq_getElem h]⟩
  have HC := Lib.hid (show ∀ W, W3.grownBy W (some d) → W.cell? ⟨tb, 0, none⟩ = some (.slice (some ⟨g, 0, none⟩) xs.length c) ∧ W.cell? ⟨tb, 1, none⟩ = some (.int .i64 next) ∧ (∀ q, q < xs.length → W.cell? ⟨g, q * 6, none⟩ = some (.int .i64 (fid q))) by
    intro W hgW
    have t6 := t3.grown hgW (by intro h; injection h with h; omega)
    obtain ⟨s0, s1, -⟩ := t6.cells
    simp only [Nat.zero_add, Nat.add_zero, Nat.reduceAdd] at s0 s1
    refine ⟨s0, s1, fun q hq => ?_⟩
    obtain ⟨b, o, e2, hbl, hc⟩ := (HR.out W hgW).row (i := q) (c := xs[q].cells) (map_at _ hq)
    simp only [Option.some.injEq, Addr.mk.injEq, and_true] at e2
    obtain ⟨rfl, rfl⟩ := e2
    simp only [Grp.cells, CellsFrom, Nat.add_zero, Nat.zero_add, Nat.reduceAdd] at hc
    rw [hfid q hq]
    exact hc.1)
  have Hfid := Lib.hid hfid
  have hcb0 : CB (4 * ((0 : Nat) : Int)) (adjE xs []) := by simpa using n3
  clear hown3 t3 t0 t1 hD3 n1 n3 hrd3 hb4 hfid hgl2 hgs hcn
  have hol : xs.length ≤ 8 := hlen
  go_wp2_with fail
  go_loopw [7, 8] (fun x i wr => ∃ (m : Nat) (ls : List Tal), i = .int .i64 m ∧ m ≤ 8 ∧ evB xs next ls = true ∧ CB (4 * (m : Int)) ls ∧ Own wr W3.heap.size 47 7 x (ls.map Tal.cells) ∧ DiceAt wr d ∧ W3.grownBy wr (some d))
    (fun _ i _ => 8 - (intOf i).toNat)
  case atStart => exact ⟨0, _, rfl, by omega, n2, hcb0, hl4, hD4, hg4⟩
  case round =>
    obtain ⟨m, ls, rfl, hm, hev, hcb, hownx, hDx, hgx⟩ := hrel
    obtain ⟨D, e, rfl, hce, -, hrdx, hobx, hltx⟩ := hownx.rd
    have hnilx := hownx.facts.2.2.2.1
    rw [List.length_map] at *
    by_cases hm8 : m = 8
    · subst hm8
      rw [show ((8 : Nat) : Int) = (8 : Int) from rfl]
      have hbw : Below w.heap.size w wr := hB3.grown hgx hB3.size (fun k e => by injection e with e; omega)
      have hzx := hgx.size
      have HC6 := Lib.hid (show ∀ W, Below wr.heap.size wr W → W.cell? ⟨tb, 0, none⟩ = some (.slice (some ⟨g, 0, none⟩) xs.length c) ∧ W.cell? ⟨tb, 1, none⟩ = some (.int .i64 next) ∧ (∀ q, q < xs.length → W.cell? ⟨g, q * 6, none⟩ = some (.int .i64 (fid q))) from
        fun W hW => HC.out W (grown_trans hgx (grown_below hW (Nat.le_refl _) _)))
      have HR6 := Lib.hid (show ∀ W, Below wr.heap.size wr W → Rd W 6 (some ⟨g, 0, none⟩) (xs.map Grp.cells) from
        fun W hW => HR.out W (grown_trans hgx (grown_below hW (Nat.le_refl _) _)))
      have HT6 := Lib.hid (show ∀ W, Below wr.heap.size wr W → Rd W 7 D (ls.map Tal.cells) from
        fun W hW => hrdx.below hW (Nat.le_refl _))
      have HEV := Lib.hid hev
      have HCB := Lib.hid hcb
      have Hls := Lib.hid (ev_ids hev).2.1
      clear hgx hownx hrdx hltx hobx hDx hev hcb HR HC hB3 hg3 hl4 hD4 hg4 hcb0 n2 hzx
      obtain ⟨W6, hW6⟩ : ∃ W6, W6 = wr := ⟨_, rfl⟩
      subst hW6
      go_wp2_with fail
      go_loopw [17] (fun i wr => ∃ (m : Nat), i = .int .i64 m ∧ m ≤ xs.length ∧ Below W6.heap.size W6 wr) (fun i _ => xs.length - (intOf i).toNat)
      case atStart => exact ⟨0, rfl, by omega, Below.refl _ _⟩
      case round =>
        obtain ⟨m, rfl, hm, hbx⟩ := hrel
        obtain ⟨s0, s1, srow⟩ := HC6.out _ hbx
        by_cases hme : m = xs.length
        · subst hme
          go_wp2_with fail
          refine (sane37_c _).mono ?_
          rintro e w9 ⟨rfl, hb9⟩
          have hfin := bel_trans hbw (bel_trans hbx hb9)
          go_wp2_with fail
          go_ret
          exact ⟨rfl, hfin⟩
        · have hmx : m < xs.length := by omega
          have hmi : (m : Int) < (xs.length : Int) := by omega
          have hnm : (m : Int).toNat = m := rfl
          have h0m : (0 : Int) ≤ (m : Int) := by omega
          obtain ⟨kN, kI, kL⟩ := kids_node HEV.out hmx hkk
          have tN := totR_node HEV.out hmx hkk
          have tB := tot_bounds HEV.out HCB.out (by decide) xs[m].id kk
          have oB := own_bounds HEV.out HCB.out (by decide) xs[m].id kk
          rw [← Hfid.out m hmx] at kN kI kL tN tB oB
          have tB2 : 0 ≤ totE xs ls (fid m) kk ∧ totE xs ls (fid m) kk ≤ 256 := ⟨tB.1, by have := tB.2; omega⟩
          have hpB : ∀ k, 0 ≤ (((kidsR xs next (fid m)).take k).map (fun c => totE xs ls c kk)).sum ∧ (((kidsR xs next (fid m)).take k).map (fun c => totE xs ls c kk)).sum ≤ 100000 := by
            intro k
            have h1 := sum_bounds (f := fun c => totE xs ls c kk) (K := 256) ((kidsR xs next (fid m)).take k) (fun c _ => by have := tot_bounds HEV.out HCB.out (by decide) c kk; exact ⟨this.1, by omega⟩)
            have h2 : ((kidsR xs next (fid m)).take k).length ≤ 8 := by rw [List.length_take]; omega
            omega
          obtain ⟨F, P, hPF⟩ : ∃ F P : Nat → Int, (∀ k (hk : k < (kidsR xs next (fid m)).length), totR xs next ls (kidsR xs next (fid m))[k] kk = (F k, 0)) ∧ P 0 = 0 ∧ (∀ k, k < (kidsR xs next (fid m)).length → P (k + 1) = P k + F k) ∧ (∀ k, 0 ≤ P k ∧ P k ≤ 100000) ∧ totE xs ls (fid m) kk - ownE ls (fid m) kk - P (kidsR xs next (fid m)).length = 0 := by
            refine ⟨fun k => totE xs ls ((kidsR xs next (fid m)).getD k 0) kk, fun k => (((kidsR xs next (fid m)).take k).map (fun c => totE xs ls c kk)).sum, ?_, by simp, ?_, hpB, ?_⟩
            · intro k hk
              rw [kN k hk]
              simp [List.getD_eq_getElem?_getD, List.getElem?_eq_getElem hk]
            · intro k hk
              simp only [take_snoc _ k hk, List.map_append, List.sum_append, List.map_cons, List.map_nil, List.sum_cons, List.sum_nil]
              simp [List.getD_eq_getElem?_getD, List.getElem?_eq_getElem hk]
            · show totE xs ls (fid m) kk - ownE ls (fid m) kk - (((kidsR xs next (fid m)).take (kidsR xs next (fid m)).length).map (fun c => totE xs ls c kk)).sum = 0
              rw [List.take_length]
              exact kI
          have HPF := Lib.hid hPF
          clear hPF hpB kN kI tB
          have HTN := Lib.hid tN
          clear tN
          have hkl : (kidsR xs next (fid m)).length ≤ 8 := by omega
          have HS := Lib.hid (show ∀ W, Below wr.heap.size wr W → W.cell? ⟨tb, 0, none⟩ = some (.slice (some ⟨g, 0, none⟩) xs.length c) ∧ W.cell? ⟨tb, 1, none⟩ = some (.int .i64 next) ∧ Below wr.heap.size wr W ∧ (∀ q, q < xs.length → W.cell? ⟨g, q * 6, none⟩ = some (.int .i64 (fid q))) from fun W hW => by
            obtain ⟨s0, s1, s2⟩ := HC6.out W (bel_trans hbx hW)
            exact ⟨s0, s1, hW, s2⟩)
          have hbd : Below wr.heap.size wr wr.drew := (Below.refl _ _).drew
          have hS0 := HS.out _ hbd
          have HT1 := Lib.hid (show ∀ W (id T : Int), totR xs next ls id kk = (T, 0) → Below wr.heap.size wr W → Calls Tryd.prog 24 #[.agg #[.slice (some ⟨g, 0, none⟩) xs.length c, .int .i64 next], .slice D ls.length e, .int .i64 id, .int .i64 kk] W fun e w' => e = .returned (.tuple #[.int .i64 T, .int .i64 0]) ∧ Below W.heap.size W w' by
            intro W id T hT hW
            refine (evTotal_c (some ⟨g, 0, none⟩) c xs next D e ls id kk W (HR6.out _ (bel_trans hbx hW)) hok.2 (by omega) hcl (HT6.out _ (bel_trans hbx hW)) (by have := Hls.out; omega)).mono ?_
            rintro e w' ⟨rfl, hb'⟩
            rw [hT]
            exact ⟨rfl, hb'⟩)
          have HOw := Lib.hid (show ∀ W, Below wr.heap.size wr W → Calls Tryd.prog 15 #[.slice D ls.length e, .int .i64 (fid m), .int .i64 kk] W fun e w' => e = .returned (.int .i64 (ownE ls (fid m) kk)) ∧ Below wr.heap.size wr w' by
            intro W hW
            refine (own_c D e ls (fid m) kk W (HT6.out _ (bel_trans hbx hW)) (by have := Hls.out; omega)).mono ?_
            rintro e w' ⟨rfl, hb'⟩
            exact ⟨rfl, bel_trans hW hb'⟩)
          have HKi := Lib.hid (show ∀ W, Below wr.heap.size wr W → Calls Tryd.prog 27 #[.agg #[.slice (some ⟨g, 0, none⟩) xs.length c, .int .i64 next], .int .i64 (fid m)] W fun e w' => ∃ A' c', e = .returned (.slice A' (kidsR xs next (fid m)).length c') ∧ Rd w' 1 A' ((kidsR xs next (fid m)).map icells) ∧ Below wr.heap.size wr w' by
            intro W hW
            refine (rkids_c (some ⟨g, 0, none⟩) c xs next (fid m) W (HR6.out _ (bel_trans hbx hW)) hok.2 (by omega)).mono ?_
            rintro e w' ⟨v', rfl, ho', hb'⟩
            obtain ⟨A', c', rfl, -, -, hr', -, -⟩ := ho'.rd
            rw [List.length_map] at *
            exact ⟨A', c', rfl, hr', bel_trans hW hb'⟩)
          go_wp2_with fail
          go_region_held3 (fun W => W.cell? ⟨tb, 0, none⟩ = some (.slice (some ⟨g, 0, none⟩) xs.length c) ∧ W.cell? ⟨tb, 1, none⟩ = some (.int .i64 next) ∧ Below wr.heap.size wr W ∧ (∀ q, q < xs.length → W.cell? ⟨g, q * 6, none⟩ = some (.int .i64 (fid q))))
            (first
              | exact hS0
              | exact HS.out _ (by first | exact hb10 | assumption)
              | go_keep)
            ((go_at_call 24; go_split_ands; refine (HT1.out _ _ _ HTN.out (by first | exact hbd | assumption)).mono ?_; rintro e w10 ⟨rfl, hb10'⟩; have hb10 : Below wr.heap.size wr w10 := bel_trans (by first | exact hbd | assumption) hb10'))
          have q10 := HS.out _ hb10
          obtain ⟨s0', s1', -, srow'⟩ := q10
          have srm := srow' m hmx
          generalize totE xs ls (fid m) kk = T at *
          generalize ownE ls (fid m) kk = O at *
          go_wp2_with fail
          refine (HOw.out _ (by assumption)).mono ?_
          rintro e w11 ⟨rfl, hb11⟩
          have q11 := HS.out _ hb11.drew
          have hb11d := hb11.drew
          clear s0' s1' srow' srm
          go_wp2_with fail
          go_region_held3 (fun W => W.cell? ⟨tb, 0, none⟩ = some (.slice (some ⟨g, 0, none⟩) xs.length c) ∧ W.cell? ⟨tb, 1, none⟩ = some (.int .i64 next) ∧ Below wr.heap.size wr W ∧ (∀ q, q < xs.length → W.cell? ⟨g, q * 6, none⟩ = some (.int .i64 (fid q))))
            (first
              | exact q11
              | exact HS.out _ (by first | exact hb12 | assumption)
              | go_keep)
            ((go_at_call 27; go_split_ands; refine (HKi.out _ (by first | exact hb11d | assumption)).mono ?_; rintro e w12 ⟨A12, c12, rfl, hr12, hb12⟩))
          clear hb11 hb10 hbd HOw HKi HTN
          have hkids : ∃ kids : List Int, kids = kidsR xs next (fid m) := ⟨_, rfl⟩
          generalize kidsR xs next (fid m) = kids at *
          clear hkids
          go_wp2_with fail
          go_loopw [18, 21] (fun n i wz => ∃ k : Nat, i = .int .i64 k ∧ k ≤ kids.length ∧ n = .int .i64 (T - O - P k) ∧ Below w12.heap.size w12 wz) (fun _ i _ => kids.length - (intOf i).toNat)
          case atStart => exact ⟨0, rfl, by omega, by rw [HPF.out.2.1]; simp, Below.refl _ _⟩
          case round =>
            obtain ⟨k, rfl, hk, rfl, hbz⟩ := hrel
            have hb12z := bel_trans hb12 hbz
            obtain ⟨z0, z1, -, -⟩ := HS.out _ hb12z
            have pb := HPF.out.2.2.2.1 k
            by_cases hke : k = kids.length
            · subst hke
              have e0 := HPF.out.2.2.2.2
              have hn0 : (T - O - P kids.length != 0) = false := by rw [e0]; rfl
              have hnl : ¬ (kids.length : Int) < (kids.length : Int) := by omega
              have h1b : -9223372036854775808 ≤ (m : Int) + 1 ∧ (m : Int) + 1 ≤ 9223372036854775807 := by omega
              have hbW := bel_trans hbx hb12z
              clear e0
              go_wp2
              go_roundw
              case rel => exact ⟨m + 1, by go_num, by omega, hbW⟩
              case measure => simp [intOf]; omega
            · have hkl' : k < kids.length := by omega
              have hki : (k : Int) < (kids.length : Int) := by omega
              have hnk : (k : Int).toNat = k := rfl
              have h0k : (0 : Int) ≤ (k : Int) := by omega
              have pb1 := HPF.out.2.2.2.1 (k + 1)
              have ps := Lib.hid (HPF.out.2.2.1 k hkl')
              have fb : -100000 ≤ F k ∧ F k ≤ 100000 := by have := ps.out; omega
              obtain ⟨bb, oo, e1, hbs, hcc⟩ := (hr12.below hbz (Nat.le_refl _)).row (i := k) (c := icells kids[k]) (map_at _ hkl')
              subst e1
              simp only [icells, CellsFrom, Nat.add_zero, Nat.zero_add, Nat.reduceAdd, Nat.mul_one] at hcc
              obtain ⟨cc0, -⟩ := hcc
              have HTk := Lib.hid (HPF.out.1 k hkl')
              have HS2 := Lib.hid (show ∀ W, Below wr.heap.size wr W → W.cell? ⟨tb, 0, none⟩ = some (.slice (some ⟨g, 0, none⟩) xs.length c) ∧ W.cell? ⟨tb, 1, none⟩ = some (.int .i64 next) ∧ Below wr.heap.size wr W ∧ W.cell? ⟨bb, oo + k, none⟩ = some (.int .i64 kids[k]) from fun W hW => by
                obtain ⟨s0, s1, -, -⟩ := HS.out W (bel_trans hb12z hW)
                exact ⟨s0, s1, hW, (hW.cell (p := ⟨bb, oo + k, none⟩) hbs).trans cc0⟩)
              have hbd2 : Below wr.heap.size wr wr.drew := (Below.refl _ _).drew
              have hS2 := HS2.out _ hbd2
              have HT2 := Lib.hid (show ∀ W, Below wr.heap.size wr W → Calls Tryd.prog 24 #[.agg #[.slice (some ⟨g, 0, none⟩) xs.length c, .int .i64 next], .slice D ls.length e, .int .i64 kids[k], .int .i64 kk] W fun e w' => e = .returned (.tuple #[.int .i64 (F k), .int .i64 0]) ∧ Below wr.heap.size wr w' by
                intro W hW
                refine (HT1.out W kids[k] (F k) HTk.out (bel_trans hb12z hW)).mono ?_
                rintro e w' ⟨rfl, hb'⟩
                exact ⟨rfl, bel_trans hW hb'⟩)
              generalize kids[k] = kid at *
              go_wp2_with fail
              go_region_held3 (fun W => W.cell? ⟨tb, 0, none⟩ = some (.slice (some ⟨g, 0, none⟩) xs.length c) ∧ W.cell? ⟨tb, 1, none⟩ = some (.int .i64 next) ∧ Below wr.heap.size wr W ∧ W.cell? ⟨bb, oo + k, none⟩ = some (.int .i64 kid))
                (first
                  | exact hS2
                  | exact HS2.out _ (by first | exact hb13 | assumption)
                  | go_keep)
                ((go_at_call 24; go_split_ands; refine (HT2.out _ (by first | exact hbd2 | assumption)).mono ?_; rintro e w13 ⟨rfl, hb13⟩))
              have hbz13 := bel_trans hbz hb13
              have hpe : T - O - P k - F k = T - O - P (k + 1) := by have := ps.out; omega
              have h1k : -9223372036854775808 ≤ (k : Int) + 1 ∧ (k : Int) + 1 ≤ 9223372036854775807 := by omega
              have hsb : -9223372036854775808 ≤ T - O - P k - F k ∧ T - O - P k - F k ≤ 9223372036854775807 := by omega
              have Hpe := Lib.hid hpe
              clear hpe
              go_wp2
              go_roundw
              case rel => exact ⟨k + 1, by go_num, by omega, by rw [← Hpe.out], hbz13⟩
              case measure => simp [intOf]; omega
    · have hlt8 : (m : Int) < 8 := by omega
      have HS := Lib.hid (show ∀ W, wr.grownBy W (some d) → DiceAt W d → W.cell? ⟨tb, 0, none⟩ = some (.slice (some ⟨g, 0, none⟩) xs.length c) ∧ W.cell? ⟨tb, 1, none⟩ = some (.int .i64 next) ∧ wr.grownBy W (some d) ∧ DiceAt W d ∧ (∀ q, q < xs.length → W.cell? ⟨g, q * 6, none⟩ = some (.int .i64 (fid q))) from fun W hgW hDW => by
        obtain ⟨s0, s1, s2⟩ := HC.out W (grown_trans hgx hgW)
        exact ⟨s0, s1, hgW, hDW, s2⟩)
      have hS0 := HS.out wr.drew (grown_drewN (grown_refl wr _) 1) (hDx.grown (grown_drewN (grown_refl wr none) 1) (by simp))
      have HNx := Lib.hid (show ∀ W (n : Int), 1 ≤ n → n ≤ 100 → wr.grownBy W (some d) → DiceAt W d → Calls Tryd.prog 10 #[.pointer (some ⟨d, 0, none⟩), .int .i64 n] W fun e w' => ∃ k : Nat, e = .returned (.int .i64 k) ∧ (k : Int) < n ∧ (w'.cell? ⟨tb, 0, none⟩ = some (.slice (some ⟨g, 0, none⟩) xs.length c) ∧ w'.cell? ⟨tb, 1, none⟩ = some (.int .i64 next) ∧ wr.grownBy w' (some d) ∧ DiceAt w' d ∧ (∀ q, q < xs.length → w'.cell? ⟨g, q * 6, none⟩ = some (.int .i64 (fid q)))) by
        intro W n h1 h2 hgW hDW
        refine (next_c d n W hDW (by omega)).mono ?_
        rintro e w' ⟨x, rfl, hx0, hx1, -, hd', hg'⟩
        replace hx1 := hx1 (by omega)
        obtain ⟨k, rfl⟩ := Int.eq_ofNat_of_zero_le hx0
        exact ⟨k, rfl, hx1, HS.out w' (grown_trans hgW hg') hd'⟩)
      go_wp2_with fail
      go_cut [9] from 38 to 125 (fun s9 wx => ∃ k1 : Nat, k1 < xs.length ∧ s9 = .int .i64 (fid k1) ∧ wr.grownBy wx (some d) ∧ DiceAt wx d)
      case first =>
        go_region_held3 (fun W => W.cell? ⟨tb, 0, none⟩ = some (.slice (some ⟨g, 0, none⟩) xs.length c) ∧ W.cell? ⟨tb, 1, none⟩ = some (.int .i64 next) ∧ wr.grownBy W (some d) ∧ DiceAt W d ∧ (∀ q, q < xs.length → W.cell? ⟨g, q * 6, none⟩ = some (.int .i64 (fid q))))
          (first
            | exact hS0
            | exact hx1
            | go_keep)
          ((go_at_call 10; go_split_ands; refine (HNx.out _ _ (by omega) (by omega) (by assumption) (by assumption)).mono ?_; rintro e w1 ⟨k1, rfl, hk1, hx1⟩; have hq1 : k1 < xs.length := (by omega); have hc1 := hx1.2.2.2.2 k1 hq1))
        all_goals
          go_wp2_with fail
          go_meet
          have hS4 : wr.grownBy w1 (some d) ∧ DiceAt w1 d := by first | exact ⟨hx1.2.2.1, hx1.2.2.2.1⟩ | exact ⟨by assumption, by assumption⟩
          exact ⟨k1, hq1, rfl, hS4.1, hS4.2⟩
      case rest =>
        obtain ⟨k1, hk1, rfl, hgc, hDc⟩ := hcut
        have hS1 := HS.out wc.drew (grown_drewN hgc 1) (hDc.grown (grown_drewN (grown_refl wc none) 1) (by simp))
        have HAd := Lib.hid (show ∀ W (k3 : Nat) (n : Int), (k3 : Int) < 4 → n = 1 + (k3 : Int) → wr.grownBy W (some d) → DiceAt W d → Calls Tryd.prog 11 #[.agg #[.slice (some ⟨g, 0, none⟩) xs.length c, .int .i64 next], .slice D ls.length e, .int .i64 (fid k1), .int .i64 kk, .int .i64 n] W fun e w' =>
            ∃ v, e = .returned (.tuple #[v, .int .i64 0]) ∧ Own w' W.heap.size 47 7 v ((bump ls k1 kk n).map Tal.cells) ∧ evB xs next (bump ls k1 kk n) = true ∧ CB (4 * ((m + 1 : Nat) : Int)) (bump ls k1 kk n) ∧ (w'.cell? ⟨tb, 0, none⟩ = some (.slice (some ⟨g, 0, none⟩) xs.length c) ∧ w'.cell? ⟨tb, 1, none⟩ = some (.int .i64 next) ∧ wr.grownBy w' (some d) ∧ DiceAt w' d ∧ (∀ q, q < xs.length → w'.cell? ⟨g, q * 6, none⟩ = some (.int .i64 (fid q)))) by
          intro W k3 n h3 hn hgW hDW
          have hev' := ev_ids hev
          obtain ⟨a1, a2, a3⟩ := add_ok (i := k1) (k := kk) (n := n) hev hcb hk1 hkk (by omega) (by omega) (by omega)
          rw [Hfid.out k1 hk1]
          refine (evAdd_c (some ⟨g, 0, none⟩) c xs next D e ls xs[k1].id kk n W (HR.out W (grown_trans hgx hgW)) hok.2 (by omega) hcl (hownx.kept hgW (.inr (fun e => by have := (hownx.lt e).1; omega))).facts.2.2.1 hnilx (by omega)).mono ?_
          rw [a1]
          rintro e w' ⟨v, rfl, ho, hb⟩
          exact ⟨v, rfl, ho, a2, fun x hx j hj => by have := a3 x hx j hj; omega, HS.out w' (grown_trans hgW (grown_below hb (Nat.le_refl _) _)) (hDW.below hb (Nat.le_refl _))⟩)
        go_wp2_with fail
        go_cut [10, 11] from 52 to 125 (fun s10 s11 wx => ∃ n : Int, 1 ≤ n ∧ s11 = .int .i64 0 ∧ Own wx wr.heap.size 47 7 s10 ((bump ls k1 kk n).map Tal.cells) ∧ evB xs next (bump ls k1 kk n) = true ∧ CB (4 * ((m + 1 : Nat) : Int)) (bump ls k1 kk n) ∧ wr.grownBy wx (some d) ∧ DiceAt wx d)
        case first =>
          go_region_held3 (fun W => W.cell? ⟨tb, 0, none⟩ = some (.slice (some ⟨g, 0, none⟩) xs.length c) ∧ W.cell? ⟨tb, 1, none⟩ = some (.int .i64 next) ∧ wr.grownBy W (some d) ∧ DiceAt W d ∧ (∀ q, q < xs.length → W.cell? ⟨g, q * 6, none⟩ = some (.int .i64 (fid q))))
            (first
              | exact hS1
              | exact hx4
              | exact hx1
              | go_keep)
            ((first
              | (go_at_call 10; go_split_ands; refine (HNx.out _ _ (by omega) (by omega) (by assumption) (by assumption)).mono ?_; rintro e w1 ⟨k3, rfl, hk3, hx1⟩)
              | (go_at_call 11; go_split_ands; refine (HAd.out _ k3 _ hk3 (by first | rfl | exact wrap_in _ (by omega) (by omega)) (by assumption) (by assumption)).mono ?_; rintro e w4 ⟨v4, rfl, ho4, hev4, hcb4, hx4⟩)))
          all_goals
            go_wp2_with fail
            go_meet
            have hz3 : wr.heap.size ≤ w1.heap.size := (show wr.grownBy w1 (some d) by assumption).size
            have hS4 : wr.grownBy w4 (some d) ∧ DiceAt w4 d := by first | exact ⟨hx4.2.2.1, hx4.2.2.2.1⟩ | exact ⟨by assumption, by assumption⟩
            exact ⟨_, by first | (have h1 : (0 : Int) ≤ (k3 : Int) := by omega; omega) | (rw [wrap_in _ (by omega) (by omega)]; omega), rfl, ho4.base hz3, hev4, hcb4, hS4.1, hS4.2⟩
        case rest =>
          obtain ⟨n, hn1, rfl, ownN, hevN, hcbN, hgN, hDN⟩ := hcut
          clear HAd hS1 HNx hS0 HS hgc hDc
          obtain ⟨D', e', rfl, hce', -, hrdN, -, -⟩ := ownN.rd
          rw [List.length_map] at *
          have hlN : (bump ls k1 kk n).length = ls.length := by unfold bump; rw [List.length_set]
          have HlN := Lib.hid hlN
          clear hlN
          have HST := Lib.hid (fun j (hj : j < xs.length) => sums_step hev hevN hk1 hkk hn1 hj)
          rw [← Hfid.out k1 hk1] at HST
          have Hls := Lib.hid (ev_ids hev).2.1
          have HR8 := Lib.hid (show ∀ W, Below wc.heap.size wc W → Rd W 6 (some ⟨g, 0, none⟩) (xs.map Grp.cells) from
            fun W hW => HR.out W (grown_trans hgx (grown_trans hgN (grown_below hW (Nat.le_refl _) _))))
          have HC8 := Lib.hid (show ∀ W, Below wc.heap.size wc W → W.cell? ⟨tb, 0, none⟩ = some (.slice (some ⟨g, 0, none⟩) xs.length c) ∧ W.cell? ⟨tb, 1, none⟩ = some (.int .i64 next) ∧ (∀ q, q < xs.length → W.cell? ⟨g, q * 6, none⟩ = some (.int .i64 (fid q))) from
            fun W hW => HC.out W (grown_trans hgx (grown_trans hgN (grown_below hW (Nat.le_refl _) _))))
          have HT8 := Lib.hid (show ∀ W, Below wc.heap.size wc W → Rd W 7 D (ls.map Tal.cells) from
            fun W hW => (hownx.kept (grown_trans hgN (grown_below hW (Nat.le_refl _) _)) (.inr (fun e => by have := (hownx.lt e).1; omega))).facts.2.2.1)
          have HN8 := Lib.hid (show ∀ W, Below wc.heap.size wc W → Rd W 7 D' ((bump ls k1 kk n).map Tal.cells) from
            fun W hW => hrdN.below hW (Nat.le_refl _))
          have hgxN := grown_trans hgx hgN
          have ownN' := ownN.base hgx.size
          clear ownN hrdN hgN hgx hownx hrdx hobx hltx hDx
          generalize hlb : bump ls k1 kk n = ls' at *
          clear hlb
          obtain ⟨W8, hW8⟩ : ∃ W8, W8 = wc := ⟨_, rfl⟩
          subst hW8
          go_wp2_with fail
          go_loopw [12] (fun i wz => ∃ q : Nat, i = .int .i64 q ∧ q ≤ xs.length ∧ Below W8.heap.size W8 wz) (fun i _ => xs.length - (intOf i).toNat)
          case atStart => exact ⟨0, rfl, by omega, Below.refl _ _⟩
          case round =>
            obtain ⟨q, rfl, hq, hbz⟩ := hrel
            obtain ⟨s0, s1, srow⟩ := HC8.out _ hbz
            by_cases hqe : q = xs.length
            · subst hqe
              have hnl : ¬ (xs.length : Int) < (xs.length : Int) := by omega
              have hgr : W8.grownBy wr (some d) := grown_below hbz (Nat.le_refl _) _
              have o1 := ownN'.below hbz (Nat.le_refl _)
              have o2 := hDN.below hbz (Nat.le_refl _)
              have o3 := grown_trans hgxN hgr
              have h1b : -9223372036854775808 ≤ (m : Int) + 1 ∧ (m : Int) + 1 ≤ 9223372036854775807 := by omega
              go_wp2
              go_roundw
              case rel => exact ⟨m + 1, ls', by go_num, by omega, hevN, hcbN, o1, o2, o3⟩
              case measure => simp [intOf]; omega
            · have hqx : q < xs.length := by omega
              have hqi : (q : Int) < (xs.length : Int) := by omega
              have hnq : (q : Int).toNat = q := rfl
              have h0q : (0 : Int) ≤ (q : Int) := by omega
              obtain ⟨a, b, ea, eb, hab, hba⟩ := HST.out q hqx
              rw [← Hfid.out q hqx] at ea eb hab
              have Ea := Lib.hid ea
              have Eb := Lib.hid eb
              clear ea eb
              obtain ⟨t, ht1, ht2⟩ : ∃ t : Bool, decide (fid q ∈ ancR xs next (fid k1)) = t ∧ decide (a < b) = t := ⟨_, rfl, hab⟩
              have Ht1 := Lib.hid ht1
              clear ht1 hab
              have HS := Lib.hid (show ∀ W, Below wr.heap.size wr W → W.cell? ⟨tb, 0, none⟩ = some (.slice (some ⟨g, 0, none⟩) xs.length c) ∧ W.cell? ⟨tb, 1, none⟩ = some (.int .i64 next) ∧ Below wr.heap.size wr W ∧ (∀ q, q < xs.length → W.cell? ⟨g, q * 6, none⟩ = some (.int .i64 (fid q))) from fun W hW => by
                obtain ⟨s0, s1, s2⟩ := HC8.out W (bel_trans hbz hW)
                exact ⟨s0, s1, hW, s2⟩)
              have hbd : Below wr.heap.size wr wr.drew := (Below.refl _ _).drew
              have hS0 := HS.out _ hbd
              have HT1 := Lib.hid (show ∀ W, Below wr.heap.size wr W → Calls Tryd.prog 24 #[.agg #[.slice (some ⟨g, 0, none⟩) xs.length c, .int .i64 next], .slice D ls.length e, .int .i64 (fid q), .int .i64 kk] W fun e w' => e = .returned (.tuple #[.int .i64 a, .int .i64 0]) ∧ Below wr.heap.size wr w' by
                intro W hW
                refine (evTotal_c (some ⟨g, 0, none⟩) c xs next D e ls (fid q) kk W (HR8.out _ (bel_trans hbz hW)) hok.2 (by omega) hcl (HT8.out _ (bel_trans hbz hW)) (by have := Hls.out; omega)).mono ?_
                rintro e w' ⟨rfl, hb'⟩
                rw [Ea.out]
                exact ⟨rfl, bel_trans hW hb'⟩)
              have HT2 := Lib.hid (show ∀ W, Below wr.heap.size wr W → Calls Tryd.prog 24 #[.agg #[.slice (some ⟨g, 0, none⟩) xs.length c, .int .i64 next], .slice D' ls'.length e', .int .i64 (fid q), .int .i64 kk] W fun e w' => e = .returned (.tuple #[.int .i64 b, .int .i64 0]) ∧ Below wr.heap.size wr w' by
                intro W hW
                refine (evTotal_c (some ⟨g, 0, none⟩) c xs next D' e' ls' (fid q) kk W (HR8.out _ (bel_trans hbz hW)) hok.2 (by omega) hcl (HN8.out _ (bel_trans hbz hW)) (by have := Hls.out; have := HlN.out; omega)).mono ?_
                rintro e w' ⟨rfl, hb'⟩
                rw [Eb.out]
                exact ⟨rfl, bel_trans hW hb'⟩)
              have HAn := Lib.hid (show ∀ W, Below wr.heap.size wr W → Calls Tryd.prog 26 #[.agg #[.slice (some ⟨g, 0, none⟩) xs.length c, .int .i64 next], .int .i64 (fid k1)] W fun e w' => ∃ A' n' c', e = .returned (.slice A' n' c') ∧ Hid (n' = (ancR xs next (fid k1)).length) ∧ Rd w' 1 A' ((ancR xs next (fid k1)).map icells) ∧ Below wr.heap.size wr w' by
                intro W hW
                refine (ranc_c (some ⟨g, 0, none⟩) c xs next (fid k1) W (HR8.out _ (bel_trans hbz hW)) hok.2 (by omega)).mono ?_
                rintro e w' ⟨v', rfl, ho', hb'⟩
                obtain ⟨A', c', rfl, -, -, hr', -, -⟩ := ho'.rd
                rw [List.length_map] at *
                exact ⟨A', _, c', rfl, Lib.hid rfl, hr', bel_trans hW hb'⟩)
              have HHa := Lib.hid (show ∀ W A' n' c', Hid (n' = (ancR xs next (fid k1)).length) → Rd W 1 A' ((ancR xs next (fid k1)).map icells) → Below wr.heap.size wr W → Calls Tryd.prog 25 #[.slice A' n' c', .int .i64 (fid q)] W fun e w' => e = .returned (.bool t) ∧ Below wr.heap.size wr w' by
                intro W A' n' c' hn' hr' hW
                have hn' := hn'.out
                subst hn'
                have hal := ancR_len xs next (fid k1)
                refine (hasI_c A' c' _ (fid q) W hr' (by omega)).mono ?_
                rintro e w' ⟨rfl, hb'⟩
                rw [Ht1.out]
                exact ⟨rfl, bel_trans hW hb'⟩)
              clear Ea Eb Ht1 HST
              go_wp2_with fail
              go_region_held3 (fun W => W.cell? ⟨tb, 0, none⟩ = some (.slice (some ⟨g, 0, none⟩) xs.length c) ∧ W.cell? ⟨tb, 1, none⟩ = some (.int .i64 next) ∧ Below wr.heap.size wr W ∧ (∀ q, q < xs.length → W.cell? ⟨g, q * 6, none⟩ = some (.int .i64 (fid q))))
                (first
                  | exact hS0
                  | exact HS.out _ (by first | exact hb10 | assumption)
                  | go_keep)
                ((go_at_call 24; go_split_ands; refine (HT1.out _ (by first | exact hbd | assumption)).mono ?_; rintro e w10 ⟨rfl, hb10⟩))
              have hbd2 : Below wr.heap.size wr w10.drew := hb10.drew
              have hS2 := HS.out _ hbd2
              clear HT1
              go_wp2_with fail
              go_region_held3 (fun W => W.cell? ⟨tb, 0, none⟩ = some (.slice (some ⟨g, 0, none⟩) xs.length c) ∧ W.cell? ⟨tb, 1, none⟩ = some (.int .i64 next) ∧ Below wr.heap.size wr W ∧ (∀ q, q < xs.length → W.cell? ⟨g, q * 6, none⟩ = some (.int .i64 (fid q))))
                (first
                  | exact hS2
                  | exact HS.out _ (by first | exact hb11 | assumption)
                  | go_keep)
                ((go_at_call 24; go_split_ands; refine (HT2.out _ (by first | exact hbd2 | assumption)).mono ?_; rintro e w11 ⟨rfl, hb11⟩))
              have hbd3 : Below wr.heap.size wr w11.drew := hb11.drew
              have hS3 := HS.out _ hbd3
              clear HT2
              have hba' : decide (b < a) = false := decide_eq_false (by omega)
              cases t
              all_goals
                go_wp2_with fail
                go_region_held3 (fun W => W.cell? ⟨tb, 0, none⟩ = some (.slice (some ⟨g, 0, none⟩) xs.length c) ∧ W.cell? ⟨tb, 1, none⟩ = some (.int .i64 next) ∧ Below wr.heap.size wr W ∧ (∀ q, q < xs.length → W.cell? ⟨g, q * 6, none⟩ = some (.int .i64 (fid q))))
                  (first
                    | exact hS3
                    | exact HS.out _ (by first | exact hb12 | exact hb13 | assumption)
                    | go_keep)
                  ((first
                    | (go_at_call 26; go_split_ands; refine (HAn.out _ (by first | exact hbd3 | assumption)).mono ?_; rintro e w12 ⟨A12, n12, c12, rfl, hn12, hr12, hb12⟩)
                    | (go_at_call 25; go_split_ands; refine (HHa.out _ _ _ _ hn12 hr12 (by first | exact hb12 | assumption)).mono ?_; rintro e w13 ⟨rfl, hb13⟩)))
                have hbz13 := bel_trans hbz hb13
                have h1q : -9223372036854775808 ≤ (q : Int) + 1 ∧ (q : Int) + 1 ≤ 9223372036854775807 := by omega
                go_wp2
                go_roundw
                case rel => exact ⟨q + 1, by go_num, by omega, hbz13⟩
                case measure => simp [intOf]; omega
end Go.Proofs.YtmjnibofdpgacaaDoor
