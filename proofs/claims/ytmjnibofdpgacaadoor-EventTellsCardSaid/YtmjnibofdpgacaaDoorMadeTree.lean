/-
  The dice's Tree.
-/
import Derived.Test.YtmjnibofdpgacaaDoorGoodT
import Derived.Test.YtmjnibofdpgacaaDoorMadeName
import Derived.Test.YtmjnibofdpgacaaDoorRoll
import Derived.Deep.RegionHeld3
import Derived.Deep.CutRange
import Derived.Test.YtmjnibofdpgacaaDoorBase
set_option linter.unusedSimpArgs false
set_option linter.unusedVariables false
namespace Go.Proofs.YtmjnibofdpgacaaDoor
open Go.RowKit Gc

theorem DiceAt.setO {w : World} {d : Nat} (h : DiceAt w d) {q : Addr} (hq : d < q.block) (v : Value) : DiceAt (w.setCell q v) d :=
  h.grown (row := some q.block) (by
    refine ⟨rfl, rfl, rfl, by simp [World.setCell], fun i hi hne => ?_⟩
    exact Below.heap_setCell _ _ _ _ (fun e => hne (by rw [e]))) (fun r e => by cases e; exact hq)
theorem hold_alloc {d gb : Nat} {wr W : World} {v u : Value} (o : Obj) (h : W.cell? ⟨gb, 0, none⟩ = some v ∧ W.cell? ⟨gb, 1, none⟩ = some u ∧ wr.grownBy W (some d) ∧ DiceAt W d) (hg : gb < wr.heap.size) :
    (W.alloc o).cell? ⟨gb, 0, none⟩ = some v ∧ (W.alloc o).cell? ⟨gb, 1, none⟩ = some u ∧ wr.grownBy (W.alloc o) (some d) ∧ DiceAt (W.alloc o) d := by
  obtain ⟨h1, h2, h3, h4⟩ := h
  have := h3.size
  exact ⟨(World.cell?_alloc_lt W o _ (show gb < W.heap.size by omega)).trans h1, (World.cell?_alloc_lt W o _ (show gb < W.heap.size by omega)).trans h2,
    grown_trans h3 (grown_below ((Below.refl W.heap.size W).alloc (Nat.le_refl _) o) (Nat.le_refl _) _), h4.alloc o⟩
theorem hold_set {d gb : Nat} {wr W : World} {v u : Value} {q : Addr} (x : Value) (h : W.cell? ⟨gb, 0, none⟩ = some v ∧ W.cell? ⟨gb, 1, none⟩ = some u ∧ wr.grownBy W (some d) ∧ DiceAt W d) (hg : gb < wr.heap.size) (hd : d < wr.heap.size) (hq : wr.heap.size ≤ q.block) :
    (W.setCell q x).cell? ⟨gb, 0, none⟩ = some v ∧ (W.setCell q x).cell? ⟨gb, 1, none⟩ = some u ∧ wr.grownBy (W.setCell q x) (some d) ∧ DiceAt (W.setCell q x) d := by
  obtain ⟨h1, h2, h3, h4⟩ := h
  refine ⟨(World.cell?_setCell_other W q _ x (by intro e; subst e; simp at hq; omega)).trans h1, (World.cell?_setCell_other W q _ x (by intro e; subst e; simp at hq; omega)).trans h2,
    ⟨h3.os, h3.tape, h3.output, by have := h3.size; simpa [World.setCell] using this, fun i hi hne => ?_⟩, h4.setO (by omega) x⟩
  rw [Below.heap_setCell _ _ _ _ (by omega)]
  exact h3.block i hi hne

theorem grown_set2 {a w : World} {gb : Nat} {row : Option Nat} (h : a.grownBy w row) (hg : a.heap.size ≤ gb) (u v : Value) : a.grownBy ((w.setCell ⟨gb, 0, none⟩ u).setCell ⟨gb, 1, none⟩ v) row :=
  ⟨h.os, h.tape, h.output, by have := h.size; simpa [World.setCell] using this, fun i hi hne => by
    rw [Below.heap_setCell _ _ _ _ (show i ≠ gb by omega), Below.heap_setCell _ _ _ _ (show i ≠ gb by omega)]
    exact h.block i hi hne⟩
theorem holdR_alloc {d gb g L : Nat} {f : Nat → Value} {wr W : World} {v u : Value} (o : Obj) (h : W.cell? ⟨gb, 0, none⟩ = some v ∧ W.cell? ⟨gb, 1, none⟩ = some u ∧ wr.grownBy W (some d) ∧ DiceAt W d ∧ (∀ q, q < L → W.cell? ⟨g, q * 6, none⟩ = some (f q))) (hg : gb < wr.heap.size) (hg2 : g < wr.heap.size) :
    (W.alloc o).cell? ⟨gb, 0, none⟩ = some v ∧ (W.alloc o).cell? ⟨gb, 1, none⟩ = some u ∧ wr.grownBy (W.alloc o) (some d) ∧ DiceAt (W.alloc o) d ∧ (∀ q, q < L → (W.alloc o).cell? ⟨g, q * 6, none⟩ = some (f q)) := by
  obtain ⟨h1, h2, h3, h4, h5⟩ := h
  have := h3.size
  obtain ⟨a1, a2, a3, a4⟩ := hold_alloc o ⟨h1, h2, h3, h4⟩ hg
  exact ⟨a1, a2, a3, a4, fun q hq => (World.cell?_alloc_lt W o _ (show g < W.heap.size by omega)).trans (h5 q hq)⟩
theorem holdR_set {d gb g L : Nat} {f : Nat → Value} {wr W : World} {v u : Value} {p : Addr} (x : Value) (h : W.cell? ⟨gb, 0, none⟩ = some v ∧ W.cell? ⟨gb, 1, none⟩ = some u ∧ wr.grownBy W (some d) ∧ DiceAt W d ∧ (∀ q, q < L → W.cell? ⟨g, q * 6, none⟩ = some (f q))) (hg : gb < wr.heap.size) (hd : d < wr.heap.size) (hg2 : g < wr.heap.size) (hq : wr.heap.size ≤ p.block) :
    (W.setCell p x).cell? ⟨gb, 0, none⟩ = some v ∧ (W.setCell p x).cell? ⟨gb, 1, none⟩ = some u ∧ wr.grownBy (W.setCell p x) (some d) ∧ DiceAt (W.setCell p x) d ∧ (∀ q, q < L → (W.setCell p x).cell? ⟨g, q * 6, none⟩ = some (f q)) := by
  obtain ⟨h1, h2, h3, h4, h5⟩ := h
  obtain ⟨a1, a2, a3, a4⟩ := hold_set (q := p) x ⟨h1, h2, h3, h4⟩ hg hd hq
  exact ⟨a1, a2, a3, a4, fun q hq' => (World.cell?_setCell_other W p _ x (by intro e; subst e; simp at hq; omega)).trans (h5 q hq')⟩

set_option maxRecDepth 100000 in
set_option maxHeartbeats 8000000 in
theorem tree_c (d : Nat) (n : Nat) (w : World) (hD : DiceAt w d) (hn : n ≤ 60) :
    Calls Tryd.prog 18 #[.pointer (some ⟨d, 0, none⟩), .int .i64 n] w fun e w' => ∃ (v : Value) (xs : List Grp) (next : Int), e = .returned (.agg #[v, .int .i64 next]) ∧ Own w' w.heap.size 54 6 v (xs.map Grp.cells) ∧
      OkT xs next ∧ xs.length ≤ n + 1 ∧ DiceAt w' d ∧ w.grownBy w' (some d) := by
  have hd0 := hD.lt
  have r1 := Box.mk w [.slice none 0 0, .int .i64 0] 24
  have hg1 : w.grownBy (w.alloc (.cells #[.slice none 0 0, .int .i64 0] 24)) (some d) := grown_below ((Below.refl w.heap.size w).alloc (Nat.le_refl _) _) (Nat.le_refl _) _
  have hD1 := hD.alloc (.cells #[.slice none 0 0, .int .i64 0] 24)
  go_enter Tryd.func18, Tryd.ntmps18
  go_wp2_with fail
  generalize hWx : w.alloc _ = W1 at *
  clear hWx
  refine (rnew_c W1).mono ?_
  rintro e W2 ⟨a, rfl, hown, hb⟩
  have r2 := r1.below hb (Nat.le_refl _)
  have hg2 := grown_trans hg1 (grown_below hb (Nat.le_refl _) (some d))
  have hD2 := hD1.below hb (Nat.le_refl _)
  have zr := r1.lt
  have z12 := hb.size
  have t3 := Box.mk W2 [.slice (some a) 1 1, .int .i64 2] 24
  have r3 := r2.alloc (.cells #[.slice (some a) 1 1, .int .i64 2] 24)
  have hg3 := grown_trans hg2 (grown_below ((Below.refl W2.heap.size W2).alloc (Nat.le_refl _) (.cells #[.slice (some a) 1 1, .int .i64 2] 24)) (Nat.le_refl _) (some d))
  have hD3 := hD2.alloc (.cells #[.slice (some a) 1 1, .int .i64 2] 24)
  have hnb : ∀ q, (Value.slice (some a) 1 1).ownBlock = some q → q < W2.heap.size := fun q e => (hown.lt e).2
  have hown3 := hown.alloc (.cells #[.slice (some a) 1 1, .int .i64 2] 24)
  have hsg := hg2.size
  have en : -9223372036854775808 ≤ (n : Int) + 1 ∧ (n : Int) + 1 ≤ 9223372036854775807 := by omega
  clear r1 hg1 hD1 hb r2 hg2 hD2 hown hD
  go_wp2_with fail
  generalize hWx : World.alloc W2 _ = W3 at *
  clear hWx
  generalize W2.heap.size = gb at *
  have zgb : w.heap.size < gb ∧ d < gb := by omega
  have hA : W1.heap.size ≤ gb := by omega
  refine (next_c d ((n : Int) + 1) W3 hD3 (by omega)).mono ?_
  rintro e W4 ⟨x, rfl, hx0, hx1, -, hD4, hg⟩
  replace hx1 := hx1 (by omega)
  have t4 := t3.grown hg (by intro h; cases h; omega)
  have r4 := r3.grown hg (by intro h; cases h; omega)
  have hown4 := hown3.kept hg (.inr (fun e => by have := (hown3.lt e).1; omega))
  have hg4 := grown_trans hg3 hg
  clear t3 r3 hown3 hg3 hD3 hg
  have hng4 : (Value.slice (some a) 1 1).ownBlock ≠ some gb := by
    intro e
    have := hnb _ e
    omega
  have hx : ∃ m : Nat, x = (m : Int) ∧ m ≤ n := by
    obtain ⟨m, rfl⟩ := Int.eq_ofNat_of_zero_le hx0
    exact ⟨m, rfl, by omega⟩
  obtain ⟨m0, rfl, hm0⟩ := hx
  have hok0 : OkT [rootG] 2 := ⟨by kernel_rfl, by
    intro y hy
    simp at hy
    subst hy
    exact ⟨by decide, ⟨by decide, by decide⟩, ⟨by decide, by decide⟩, ⟨by decide, by decide⟩, ⟨by decide, by decide⟩, ⟨by decide, by decide⟩⟩⟩
  clear hx0 hx1 en hnb
  go_wp2
  go_loopw [6] (fun i wr => ∃ (m : Nat) (v : Value) (xs : List Grp) (next : Int), i = .int .i64 m ∧ m ≤ n ∧ Box wr gb [v, .int .i64 next] 24 ∧ Box wr w.heap.size [.slice none 0 0, .int .i64 0] 24 ∧
      Own wr W1.heap.size 54 6 v (xs.map Grp.cells) ∧ v.ownBlock ≠ some gb ∧ OkT xs next ∧ xs.length + m ≤ n + 1 ∧ DiceAt wr d ∧ w.grownBy wr (some d) ∧ Hid (0 < xs.length))
    (fun i _ => (intOf i).toNat)
  case atStart => exact ⟨m0, _, [rootG], 2, rfl, hm0, t4, r4, hown4, hng4, hok0, by simp; omega, hD4, hg4, (show _ < _ by simp)⟩
  case round =>
    obtain ⟨m, v, xs, next, rfl, hm, t5, r5, hown, hng, hok, hlen, hD5, hg5, hpos⟩ := hrel
    have zg := t5.lt
    obtain ⟨A, c, rfl, hcl, -, hrd, hob, hlt⟩ := hown.rd
    rw [List.length_map] at *
    have hnd : (Value.slice A xs.length c).ownBlock ≠ some d := fun e => by have := (hown.lt e).1; omega
    rcases m with _ | m
    · have hge : ¬ ((0 : Nat) : Int) > 0 := by omega
      obtain ⟨t0, t1, -⟩ := t5.cells
      obtain ⟨q0, q1, -⟩ := r5.cells
      have hf := r5.fro
      simp only [Nat.zero_add, Nat.add_zero, Nat.reduceAdd] at t0 t1 q0 q1
      have hnw : (Value.slice A xs.length c).ownBlock ≠ some w.heap.size := fun e => by have := (hown.lt e).1; omega
      have hown9 := Lib.hid (((hown.setCell_other (a := ⟨w.heap.size, 0, none⟩) hnw (.slice A xs.length c)).setCell_other (a := ⟨w.heap.size, 1, none⟩) hnw (.int .i64 next)).base (show w.heap.size ≤ W1.heap.size by omega))
      have hD9 := (hD5.setO (q := ⟨w.heap.size, 0, none⟩) hd0 (.slice A xs.length c)).setO (q := ⟨w.heap.size, 1, none⟩) hd0 (.int .i64 next)
      have hg9 : w.grownBy ((wr.setCell ⟨w.heap.size, 0, none⟩ (.slice A xs.length c)).setCell ⟨w.heap.size, 1, none⟩ (.int .i64 next)) (some d) :=
        ⟨hg5.os, hg5.tape, hg5.output, by have := hg5.size; simpa [World.setCell] using this, fun i hi hne => by rw [Below.heap_setCell _ _ _ _ (by show i ≠ w.heap.size; omega), Below.heap_setCell _ _ _ _ (by show i ≠ w.heap.size; omega)]; exact hg5.block i hi hne⟩
      go_wp2
      refine bodyPost_ret (results_box rfl _ _ rfl ((r5.set 0 _).set 1 _) Tryd.underlying24 rfl (by kernel_rfl)) rfl ?_
      exact ⟨_, xs, next, rfl, hown9.out, hok, by omega, hD9, hg9⟩
    · have hge : ((m + 1 : Nat) : Int) > 0 := by omega
      have hpos := hpos.out
      obtain ⟨t0, t1, -⟩ := t5.cells
      simp only [Nat.zero_add, Nat.add_zero, Nat.reduceAdd] at t0 t1
      have hdg : d < gb := zgb.2
      have hdz : d < wr.heap.size := by omega
      obtain ⟨g5, cg5, e5, -, -, hgB5, hgl5, -, -⟩ := hown.open' (by rw [List.length_map]; exact hpos)
      rw [List.length_map] at e5
      simp only [Value.slice.injEq, true_and] at e5
      obtain ⟨rfl, rfl⟩ := e5
      obtain ⟨fid5, hfid5⟩ : ∃ fid : Nat → Int, ∀ q (h : q < xs.length), fid q = xs[q].id := ⟨fun q => (xs.getD q default).id, fun q h => by simp [List.getD_eq_getElem?_getD, List.getElem?_eq_getElem h]⟩
      have Hrows5 := Lib.hid (show ∀ W, wr.grownBy W (some d) → ∀ q, q < xs.length → W.cell? ⟨g5, q * 6, none⟩ = some (.int .i64 (fid5 q)) by
        intro W hgW q hq
        obtain ⟨A', c', e1, -, -, hrd', -, -⟩ := (hown.kept hgW (.inr hnd)).rd
        simp only [Value.slice.injEq] at e1
        obtain ⟨rfl, -, rfl⟩ := e1
        obtain ⟨b, o, e2, hbl, hc⟩ := hrd'.row (i := q) (c := xs[q].cells) (map_at _ hq)
        simp only [Option.some.injEq, Addr.mk.injEq, and_true] at e2
        obtain ⟨rfl, rfl⟩ := e2
        simp only [Grp.cells, CellsFrom, Nat.add_zero, Nat.zero_add, Nat.reduceAdd] at hc
        rw [hfid5 q hq]
        exact hc.1)
      clear hfid5
      have hS0 : wr.drew.cell? ⟨gb, 0, none⟩ = some (.slice (some ⟨g5, 0, none⟩) xs.length c) ∧ wr.drew.cell? ⟨gb, 1, none⟩ = some (.int .i64 next) ∧ wr.grownBy wr.drew (some d) ∧ DiceAt wr.drew d ∧ (∀ q, q < xs.length → wr.drew.cell? ⟨g5, q * 6, none⟩ = some (.int .i64 (fid5 q))) := ⟨t0, t1, grown_drewN (grown_refl wr _) 1, hD5.grown (grown_drewN (grown_refl wr none) 1) (by simp), Hrows5.out _ (grown_drewN (grown_refl wr _) 1)⟩
      have HNx := Lib.hid (show ∀ W, wr.grownBy W (some d) → DiceAt W d → Calls Tryd.prog 10 #[.pointer (some ⟨d, 0, none⟩), .int .i64 xs.length] W fun e w' => ∃ k : Nat, e = .returned (.int .i64 k) ∧ k < xs.length ∧
          (w'.cell? ⟨gb, 0, none⟩ = some (.slice (some ⟨g5, 0, none⟩) xs.length c) ∧ w'.cell? ⟨gb, 1, none⟩ = some (.int .i64 next) ∧ wr.grownBy w' (some d) ∧ DiceAt w' d ∧ (∀ q, q < xs.length → w'.cell? ⟨g5, q * 6, none⟩ = some (.int .i64 (fid5 q)))) by
        intro W hgW hDW
        have hol : xs.length ≤ 64 := (check_next hok.1).1
        refine (next_c d xs.length W hDW (by omega)).mono ?_
        rintro e w' ⟨x, rfl, hx0, hx1, -, hd', hg'⟩
        replace hx1 := hx1 (by omega)
        obtain ⟨k, rfl⟩ := Int.eq_ofNat_of_zero_le hx0
        have hk : k < xs.length := by omega
        have hgg := grown_trans hgW hg'
        have t6 := t5.grown hgg (by intro h; cases h; omega)
        obtain ⟨s0, s1, -⟩ := t6.cells
        simp only [Nat.zero_add, Nat.add_zero, Nat.reduceAdd] at s0 s1
        exact ⟨k, rfl, hk, s0, s1, hgg, hd', Hrows5.out _ hgg⟩)
      go_wp2_with fail
      go_region_held3 (fun W => W.cell? ⟨gb, 0, none⟩ = some (.slice (some ⟨g5, 0, none⟩) xs.length c) ∧ W.cell? ⟨gb, 1, none⟩ = some (.int .i64 next) ∧ wr.grownBy W (some d) ∧ DiceAt W d ∧ (∀ q, q < xs.length → W.cell? ⟨g5, q * 6, none⟩ = some (.int .i64 (fid5 q))))
        (first
          | exact hS0
          | exact hx3
          | go_keep)
        ((go_at_call 10; go_split_ands; refine (HNx.out _ (by assumption) (by assumption)).mono ?_; rintro e w3 ⟨k, rfl, hk, hx3⟩; have hki : (k : Int) < (xs.length : Int) := (by omega); have hcx := hx3.2.2.2.2 k hk))
      have hg3 := hx3.2.2.1
      have hD3' := hx3.2.2.2.1
      have zz3 := hg3.size
      have t6 := t5.grown hg3 (by intro h; cases h; omega)
      have r6 := r5.grown hg3 (by intro h; cases h; omega)
      have hown6 := hown.kept hg3 (.inr hnd)
      have hg6 := grown_trans hg5 hg3
      clear HNx t5 r5 hown hg5 hD5 t0 t1 hrd hlt hob hcl hcx hki hx3
      generalize fid5 k = xi at *
      obtain ⟨t0, t1, -⟩ := t6.cells
      simp only [Nat.zero_add, Nat.add_zero, Nat.reduceAdd] at t0 t1
      have zg6 := t6.lt
      have hS0 : w3.drew.cell? ⟨gb, 0, none⟩ = some (.slice (some ⟨g5, 0, none⟩) xs.length c) ∧ w3.drew.cell? ⟨gb, 1, none⟩ = some (.int .i64 next) ∧ w3.grownBy w3.drew (some d) ∧ DiceAt w3.drew d := ⟨t0, t1, grown_drewN (grown_refl w3 _) 1, hD3'.grown (grown_drewN (grown_refl w3 none) 1) (by simp)⟩
      have HNm := Lib.hid (show ∀ W, w3.grownBy W (some d) → DiceAt W d → Calls Tryd.prog 44 #[.pointer (some ⟨d, 0, none⟩)] W fun e w' => ∃ s : ByteArray, e = .returned (.string s) ∧ s.size ≤ 32 ∧ W.grownBy w' (some d) ∧
          (w'.cell? ⟨gb, 0, none⟩ = some (.slice (some ⟨g5, 0, none⟩) xs.length c) ∧ w'.cell? ⟨gb, 1, none⟩ = some (.int .i64 next) ∧ w3.grownBy w' (some d) ∧ DiceAt w' d) by
        intro W hgW hDW
        refine (name_c d W hDW).mono ?_
        rintro e w' ⟨s, rfl, hs, hd', hg'⟩
        have hgg := grown_trans hgW hg'
        have t7 := t6.grown hgg (by intro h; cases h; omega)
        obtain ⟨s0, s1, -⟩ := t7.cells
        simp only [Nat.zero_add, Nat.add_zero, Nat.reduceAdd] at s0 s1
        exact ⟨s, rfl, hs, hg', s0, s1, hgg, hd'⟩)
      have HAd := Lib.hid (show ∀ W s, s.size ≤ 32 → w3.grownBy W (some d) → DiceAt W d → Calls Tryd.prog 43 #[.agg #[.slice (some ⟨g5, 0, none⟩) xs.length c, .int .i64 next], .int .i64 xi, .string s] W fun e w' => ∃ A' c', e = .returned (.tuple #[.agg #[.slice A' (addT xs next xi s).1.length c', .int .i64 (addT xs next xi s).2.1], .int .i64 (addT xs next xi s).2.2.1, .int .i64 (addT xs next xi s).2.2.2]) ∧
          Own w' W.heap.size 54 6 (.slice A' (addT xs next xi s).1.length c') ((addT xs next xi s).1.map Grp.cells) ∧ Below W.heap.size W w' ∧
          (w'.cell? ⟨gb, 0, none⟩ = some (.slice (some ⟨g5, 0, none⟩) xs.length c) ∧ w'.cell? ⟨gb, 1, none⟩ = some (.int .i64 next) ∧ w3.grownBy w' (some d) ∧ DiceAt w' d) by
        intro W s hs hgW hDW
        obtain ⟨A', c', e1, -, -, hrd', -, -⟩ := (hown6.kept hgW (.inr hnd)).rd
        rw [List.length_map] at *
        simp only [Value.slice.injEq] at e1
        obtain ⟨rfl, -, rfl⟩ := e1
        have hcn := check_next hok.1
        refine (radd_c _ c xs next xi s W hrd' hok.2 (by omega) (by omega) ⟨by omega, by omega⟩).mono ?_
        rintro e w' ⟨v', rfl, ho', hb'⟩
        have hgg := grown_trans hgW (grown_below hb' (Nat.le_refl _) (some d))
        obtain ⟨A', c', rfl, -, -, -, -, -⟩ := ho'.rd
        rw [List.length_map] at *
        have t7 := t6.grown hgg (by intro h; cases h; omega)
        obtain ⟨s0, s1, -⟩ := t7.cells
        simp only [Nat.zero_add, Nat.add_zero, Nat.reduceAdd] at s0 s1
        exact ⟨A', c', rfl, ho', hb', s0, s1, hgg, hDW.below hb' (Nat.le_refl _)⟩)
      have hdz3 : d < w3.heap.size := by omega
      go_wp2_with fail
      go_cut [8, 10] from 18 to 63 (fun s8 s10 wx => ∃ (tb : Nat) (A8 : Option Addr) (c8 : Nat) (nm : ByteArray), s8 = .pointer (some ⟨tb, 0, none⟩) ∧ s10 = .int .i64 (addT xs next xi nm).2.2.2 ∧ nm.size ≤ 32 ∧
          Box wx tb [.slice A8 (addT xs next xi nm).1.length c8, .int .i64 (addT xs next xi nm).2.1] 24 ∧ Own wx w3.heap.size 54 6 (.slice A8 (addT xs next xi nm).1.length c8) ((addT xs next xi nm).1.map Grp.cells) ∧
          w3.heap.size ≤ tb ∧ tb < wx.heap.size ∧ w3.grownBy wx (some d) ∧ DiceAt wx d)
      case first =>
        go_region_held3 (fun W => W.cell? ⟨gb, 0, none⟩ = some (.slice (some ⟨g5, 0, none⟩) xs.length c) ∧ W.cell? ⟨gb, 1, none⟩ = some (.int .i64 next) ∧ w3.grownBy W (some d) ∧ DiceAt W d)
          (first
            | exact hS0
            | exact hx8
            | exact hx7
            | exact hold_alloc _ hx8 zg6
            | exact hold_alloc _ hx7 zg6
            | exact hold_alloc _ hS0 zg6
            | exact hold_set _ (hold_set _ hx8 zg6 hdz3 (by first | exact hz7 | exact hz8 | exact Nat.le_refl _)) zg6 hdz3 (by first | exact hz7 | exact hz8 | exact Nat.le_refl _)
            | exact hold_set _ (hold_set _ (hold_alloc _ hx8 zg6) zg6 hdz3 (by first | exact hz7 | exact hz8 | exact Nat.le_refl _)) zg6 hdz3 (by first | exact hz7 | exact hz8 | exact Nat.le_refl _)
            | exact hold_alloc _ ⟨by assumption, by assumption, by assumption, by assumption⟩ zg6
            | exact hold_set _ ⟨by assumption, by assumption, by assumption, by assumption⟩ zg6 hdz3 (by first | assumption | (show w3.heap.size ≤ _; omega))
            | exact hold_set _ (hold_set _ ⟨by assumption, by assumption, by assumption, by assumption⟩ zg6 hdz3 (by first | assumption | (show w3.heap.size ≤ _; omega))) zg6 hdz3 (by first | assumption | (show w3.heap.size ≤ _; omega))
            | go_keep)
          ((first
            | (go_at_call 44; go_split_ands; refine (HNm.out _ (by assumption) (by assumption)).mono ?_; rintro e w7 ⟨nm, rfl, hnm, hgr7, hx7⟩; have hz7 := hx7.2.2.1.size; try (have tb7 : Box w7 w3.heap.size [.slice none 0 0, .int .i64 0] 24 := (Box.mk w3.drew [.slice none 0 0, .int .i64 0] 24).grown hgr7 (by intro h; injection h with h; have : w3.heap.size = d := h; omega)))
            | (go_at_call 43; go_split_ands; refine (HAd.out _ _ hnm (by assumption) (by assumption)).mono ?_; rintro e w8 ⟨A8, c8, rfl, hown8, hbl8, hx8⟩; have hz8 := hx8.2.2.1.size; have na8 := Box.mk w8 [.slice none 0 0, .int .i64 0] 24; obtain ⟨v0, v1, -⟩ := na8.cells; have fv := na8.fro; simp only [Nat.zero_add, Nat.add_zero, Nat.reduceAdd] at v0 v1; try (first | (have tb8 : Box w8 w7.heap.size [.slice none 0 0, .int .i64 0] 24 := (Box.mk w7 [.slice none 0 0, .int .i64 0] 24).below hbl8 (Nat.le_refl _); obtain ⟨y0, y1, -⟩ := tb8.cells; have fy := tb8.fro; simp only [Nat.zero_add, Nat.add_zero, Nat.reduceAdd] at y0 y1) | (have tb8 : Box w8 w3.heap.size [.slice none 0 0, .int .i64 0] 24 := tb7.below hbl8 (Nat.le_refl _); obtain ⟨y0, y1, -⟩ := tb8.cells; have fy := tb8.fro; simp only [Nat.zero_add, Nat.add_zero, Nat.reduceAdd] at y0 y1)))))
        all_goals
          go_wp2_with fail
          go_meet
          have hS8 : w8.cell? ⟨gb, 0, none⟩ = some (.slice (some ⟨g5, 0, none⟩) xs.length c) ∧ w8.cell? ⟨gb, 1, none⟩ = some (.int .i64 next) ∧ w3.grownBy w8 (some d) ∧ DiceAt w8 d := by first | exact hx8 | exact ⟨by assumption, by assumption, by assumption, by assumption⟩
          first
            | (have hS9 := hold_alloc (.cells #[.slice A8 (addT xs next xi nm).1.length c8, .int .i64 (addT xs next xi nm).2.1] 24) hS8 zg6
               exact ⟨w8.heap.size, A8, c8, nm, rfl, rfl, hnm, Box.mk w8 [.slice A8 (addT xs next xi nm).1.length c8, .int .i64 (addT xs next xi nm).2.1] 24, (hown8.alloc _).base (by omega), hz8, by simp, hS9.2.2.1, hS9.2.2.2⟩)
            | (have hne : (Value.slice A8 (addT xs next xi nm).1.length c8).ownBlock ≠ some w7.heap.size := fun e => by have := (hown8.lt e).1; simp at this; omega
               have hS9 := hold_set (q := ⟨w7.heap.size, 1, none⟩) (.int .i64 (addT xs next xi nm).2.1) (hold_set (q := ⟨w7.heap.size, 0, none⟩) (.slice A8 (addT xs next xi nm).1.length c8) hS8 zg6 hdz3 hz7) zg6 hdz3 hz7
               have hlt8 := tb8.lt
               exact ⟨w7.heap.size, A8, c8, nm, rfl, rfl, hnm, (tb8.set 0 _).set 1 _, ((hown8.setCell_other (a := ⟨w7.heap.size, 0, none⟩) hne _).setCell_other (a := ⟨w7.heap.size, 1, none⟩) hne _).base (by simp; omega), hz7, by simpa [World.setCell] using hlt8, hS9.2.2.1, hS9.2.2.2⟩)
            | (have hlt7 := tb7.lt
               have hne : (Value.slice A8 (addT xs next xi nm).1.length c8).ownBlock ≠ some w3.heap.size := fun e => by have := (hown8.lt e).1; omega
               have hS9 := hold_set (q := ⟨w3.heap.size, 1, none⟩) (.int .i64 (addT xs next xi nm).2.1) (hold_set (q := ⟨w3.heap.size, 0, none⟩) (.slice A8 (addT xs next xi nm).1.length c8) hS8 zg6 hdz3 (Nat.le_refl _)) zg6 hdz3 (Nat.le_refl _)
               have hlt8 := tb8.lt
               exact ⟨w3.heap.size, A8, c8, nm, rfl, rfl, hnm, (tb8.set 0 _).set 1 _, ((hown8.setCell_other (a := ⟨w3.heap.size, 0, none⟩) hne _).setCell_other (a := ⟨w3.heap.size, 1, none⟩) hne _).base (by omega), Nat.le_refl _, by simpa [World.setCell] using hlt8, hS9.2.2.1, hS9.2.2.2⟩)
      case rest =>
        obtain ⟨tb, A8, c8, nm, rfl, rfl, hnm, bt, hown8, htb, htlt, hg8, hD8⟩ := hcut
        have tC := t6.grown hg8 (by intro h; injection h with h; omega)
        have rC := r6.grown hg8 (by intro h; injection h with h; omega)
        have ownC := hown6.kept hg8 (.inr hnd)
        have gC := grown_trans hg6 hg8
        have HOK := Lib.hid (fun he => okT_add (p := xi) (s := nm) hok hnm he)
        generalize (addT xs next xi nm).2.2.2 = er at *
        generalize (addT xs next xi nm).2.1 = nz at *
        generalize (addT xs next xi nm).1 = zs at *
        clear HNm HAd hS0 t6 r6 hown6 hg6 t0 t1
        obtain ⟨k0, k1, -⟩ := bt.cells
        obtain ⟨t0, t1, -⟩ := tC.cells
        have hfC := tC.fro
        simp only [Nat.zero_add, Nat.add_zero, Nat.reduceAdd] at k0 k1 t0 t1
        have hposC := Lib.hid hpos
        clear hpos
        go_upto_if 42 with fail
        go_cut [] from 18 to 63 (fun wx => ∃ (ys : List Grp) (ny : Int) (Ay : Option Addr) (cy : Nat), Box wx gb [.slice Ay ys.length cy, .int .i64 ny] 24 ∧ Box wx w.heap.size [.slice none 0 0, .int .i64 0] 24 ∧ Own wx W1.heap.size 54 6 (.slice Ay ys.length cy) (ys.map Grp.cells) ∧
            (Value.slice Ay ys.length cy).ownBlock ≠ some gb ∧ OkT ys ny ∧ ys.length + m ≤ n + 1 ∧ DiceAt wx d ∧ w.grownBy wx (some d) ∧ Hid (0 < ys.length))
        case first =>
          by_cases he : er = 0
          · subst he
            obtain ⟨okB, hle2⟩ := HOK.out rfl
            have posB := Lib.hid (show 0 < zs.length by omega)
            have ngB : (Value.slice A8 zs.length c8).ownBlock ≠ some gb := fun e => by have := (hown8.lt e).1; omega
            have ownB := ((hown8.setCell_other (a := ⟨gb, 0, none⟩) ngB (.slice A8 zs.length c8)).setCell_other (a := ⟨gb, 1, none⟩) ngB (.int .i64 nz)).base (show W1.heap.size ≤ w3.heap.size by omega)
            have tB := (tC.set 0 (.slice A8 zs.length c8)).set 1 (.int .i64 nz)
            have rB := (rC.setO (q := ⟨gb, 0, none⟩) (show w.heap.size ≠ gb by omega) (.slice A8 zs.length c8)).setO (q := ⟨gb, 1, none⟩) (show w.heap.size ≠ gb by omega) (.int .i64 nz)
            have dB := (hD8.setO (q := ⟨gb, 0, none⟩) (show d < gb by omega) (.slice A8 zs.length c8)).setO (q := ⟨gb, 1, none⟩) (show d < gb by omega) (.int .i64 nz)
            have gB := grown_set2 gC (show w.heap.size ≤ gb by omega) (.slice A8 zs.length c8) (.int .i64 nz)
            simp only [List.set_cons_zero, List.set_cons_succ] at tB
            have lenB : zs.length + m ≤ n + 1 := by omega
            clear hle2 HOK
            go_wp2_with fail
            go_meet
            exact ⟨zs, nz, A8, c8, tB, rB, ownB, ngB, okB, lenB, dB, gB, posB⟩
          · have he' : (er == 0) = false := by simpa using he
            have lenB : xs.length + m ≤ n + 1 := by omega
            clear HOK k0 k1 bt hown8 htb htlt
            go_wp2_with fail
            go_meet
            exact ⟨xs, next, some ⟨g5, 0, none⟩, c, tC, rC, ownC, hng, hok, lenB, hD8, gC, hposC⟩
        case rest =>
          clear tC rC ownC gC HOK k0 k1 t0 t1 hfC bt hown8 hD8 hg8 hok hng hnd hposC htb htlt hnm hlen hk
          obtain ⟨ys, ny, Ay, cy, tB, rB, ownB, ngB, okB, lenB, dB, gB, posB⟩ := hcut
          generalize wc = Wb at *
          have zgb2 := tB.lt
          have hsz2 := gB.size
          go_wp2_with fail
          refine (bool_c d 6 Wb dB (by decide) (by decide)).mono ?_
          rintro e0 W9 ⟨xb, rfl, hD9, hgb9⟩
          have t9 := tB.grown hgb9 (by intro h; injection h with h; omega)
          have r9 := rB.grown hgb9 (by intro h; injection h with h; omega)
          have hndB : (Value.slice Ay ys.length cy).ownBlock ≠ some d := fun e => by have := (ownB.lt e).1; omega
          have own9 := ownB.kept hgb9 (.inr hndB)
          have hg9 := grown_trans gB hgb9
          clear tB rB ownB gB dB hgb9
          cases xb with
          | false =>
            go_wp2
            go_roundw
            case rel => exact ⟨m, _, ys, ny, by go_num, by omega, t9, r9, own9, ngB, okB, by omega, hD9, hg9, posB⟩
            case measure => simp [intOf]
          | true =>
            have hposB := posB.out
            obtain ⟨g, cg, e1, -, -, hgB, hgl, -, -⟩ := own9.open' (by rw [List.length_map]; exact hposB)
            rw [List.length_map] at e1
            simp only [Value.slice.injEq, true_and] at e1
            obtain ⟨rfl, rfl⟩ := e1
            have hgd : g ≠ d := by intro e; subst e; exact hndB rfl
            obtain ⟨t0, t1, -⟩ := t9.cells
            simp only [Nat.zero_add, Nat.add_zero, Nat.reduceAdd] at t0 t1
            have zg9 := t9.lt
            have hdz9 : d < W9.heap.size := by omega
            obtain ⟨fid, hfid⟩ : ∃ fid : Nat → Int, ∀ q (h : q < ys.length), fid q = ys[q].id := ⟨fun q => (ys.getD q default).id, fun q h => by simp [List.getD_eq_getElem?_getD, List.getElem?_eq_getElem h]⟩
            have Hrows := Lib.hid (show ∀ W, W9.grownBy W (some d) → ∀ q, q < ys.length → W.cell? ⟨g, q * 6, none⟩ = some (.int .i64 (fid q)) by
              intro W hgW q hq
              obtain ⟨A', c', e1, -, -, hrd', -, -⟩ := (own9.kept hgW (.inr hndB)).rd
              simp only [Value.slice.injEq] at e1
              obtain ⟨rfl, -, rfl⟩ := e1
              obtain ⟨b, o, e2, hbl, hc⟩ := hrd'.row (i := q) (c := ys[q].cells) (map_at _ hq)
              simp only [Option.some.injEq, Addr.mk.injEq, and_true] at e2
              obtain ⟨rfl, rfl⟩ := e2
              simp only [Grp.cells, CellsFrom, Nat.add_zero, Nat.zero_add, Nat.reduceAdd] at hc
              rw [hfid q hq]
              exact hc.1)
            clear hfid
            have hS0 : W9.drew.cell? ⟨gb, 0, none⟩ = some (.slice (some ⟨g, 0, none⟩) ys.length cy) ∧ W9.drew.cell? ⟨gb, 1, none⟩ = some (.int .i64 ny) ∧ W9.grownBy W9.drew (some d) ∧ DiceAt W9.drew d ∧ (∀ q, q < ys.length → W9.drew.cell? ⟨g, q * 6, none⟩ = some (.int .i64 (fid q))) := ⟨t0, t1, grown_drewN (grown_refl W9 _) 1, hD9.grown (grown_drewN (grown_refl W9 none) 1) (by simp), Hrows.out _ (grown_drewN (grown_refl W9 _) 1)⟩
            have HNx := Lib.hid (show ∀ W, W9.grownBy W (some d) → DiceAt W d → Calls Tryd.prog 10 #[.pointer (some ⟨d, 0, none⟩), .int .i64 ys.length] W fun e w' => ∃ k : Nat, e = .returned (.int .i64 k) ∧ k < ys.length ∧ W.grownBy w' (some d) ∧ (w'.cell? ⟨gb, 0, none⟩ = some (.slice (some ⟨g, 0, none⟩) ys.length cy) ∧ w'.cell? ⟨gb, 1, none⟩ = some (.int .i64 ny) ∧ W9.grownBy w' (some d) ∧ DiceAt w' d ∧ (∀ q, q < ys.length → w'.cell? ⟨g, q * 6, none⟩ = some (.int .i64 (fid q)))) by
              intro W hgW hDW
              have hol : ys.length ≤ 64 := (check_next okB.1).1
              refine (next_c d ys.length W hDW (by omega)).mono ?_
              rintro e w' ⟨x, rfl, hx0, hx1, -, hd', hg'⟩
              replace hx1 := hx1 (by omega)
              obtain ⟨k, rfl⟩ := Int.eq_ofNat_of_zero_le hx0
              have hgg := grown_trans hgW hg'
              have t6 := t9.grown hgg (by intro h; injection h with h; omega)
              obtain ⟨s0, s1, -⟩ := t6.cells
              simp only [Nat.zero_add, Nat.add_zero, Nat.reduceAdd] at s0 s1
              exact ⟨k, rfl, by omega, hg', s0, s1, hgg, hd', Hrows.out _ hgg⟩)
            have HRm := Lib.hid (show ∀ W yi, W9.grownBy W (some d) → DiceAt W d → Calls Tryd.prog 28 #[.agg #[.slice (some ⟨g, 0, none⟩) ys.length cy, .int .i64 ny], .int .i64 yi] W fun e w' => ∃ A' c', e = .returned (.tuple #[.agg #[.slice A' (remT ys ny yi).1.length c', .int .i64 (remT ys ny yi).2.1], .int .i64 (remT ys ny yi).2.2]) ∧
                Own w' W.heap.size 54 6 (.slice A' (remT ys ny yi).1.length c') ((remT ys ny yi).1.map Grp.cells) ∧ Below W.heap.size W w' ∧ (w'.cell? ⟨gb, 0, none⟩ = some (.slice (some ⟨g, 0, none⟩) ys.length cy) ∧ w'.cell? ⟨gb, 1, none⟩ = some (.int .i64 ny) ∧ W9.grownBy w' (some d) ∧ DiceAt w' d ∧ (∀ q, q < ys.length → w'.cell? ⟨g, q * 6, none⟩ = some (.int .i64 (fid q)))) by
              intro W yi hgW hDW
              obtain ⟨A', c', e1, -, -, hrd', -, -⟩ := (own9.kept hgW (.inr hndB)).rd
              rw [List.length_map] at *
              simp only [Value.slice.injEq] at e1
              obtain ⟨rfl, -, rfl⟩ := e1
              have hcn := check_next okB.1
              refine (rrem_c _ cy ys ny yi W hrd' okB.2 (by omega)).mono ?_
              rintro e w' ⟨v', rfl, ho', hb'⟩
              have hgg := grown_trans hgW (grown_below hb' (Nat.le_refl _) (some d))
              obtain ⟨A', c', rfl, -, -, -, -, -⟩ := ho'.rd
              rw [List.length_map] at *
              have t7 := t9.grown hgg (by intro h; injection h with h; omega)
              obtain ⟨s0, s1, -⟩ := t7.cells
              simp only [Nat.zero_add, Nat.add_zero, Nat.reduceAdd] at s0 s1
              exact ⟨A', c', rfl, ho', hb', s0, s1, hgg, hDW.below hb' (Nat.le_refl _), Hrows.out _ hgg⟩)
            go_wp2_with fail
            go_cut [11, 12] from 18 to 63 (fun s11 s12 wx => ∃ (tb : Nat) (A8 : Option Addr) (c8 : Nat) (yi : Int), s11 = .pointer (some ⟨tb, 0, none⟩) ∧ s12 = .int .i64 (remT ys ny yi).2.2 ∧
                Box wx tb [.slice A8 (remT ys ny yi).1.length c8, .int .i64 (remT ys ny yi).2.1] 24 ∧ Own wx W9.heap.size 54 6 (.slice A8 (remT ys ny yi).1.length c8) ((remT ys ny yi).1.map Grp.cells) ∧
                W9.heap.size ≤ tb ∧ tb < wx.heap.size ∧ W9.grownBy wx (some d) ∧ DiceAt wx d)
            case first =>
              go_region_held3 (fun W => W.cell? ⟨gb, 0, none⟩ = some (.slice (some ⟨g, 0, none⟩) ys.length cy) ∧ W.cell? ⟨gb, 1, none⟩ = some (.int .i64 ny) ∧ W9.grownBy W (some d) ∧ DiceAt W d ∧ (∀ q, q < ys.length → W.cell? ⟨g, q * 6, none⟩ = some (.int .i64 (fid q))))
                (first
                  | exact hS0
                  | exact hx8
                  | exact hx7
                  | exact holdR_alloc _ hx8 zg9 hgl
                  | exact holdR_alloc _ hx7 zg9 hgl
                  | exact holdR_alloc _ hS0 zg9 hgl
                  | exact holdR_set _ (holdR_set _ hx8 zg9 hdz9 hgl (by first | exact hz7 | exact hz8 | exact Nat.le_refl _)) zg9 hdz9 hgl (by first | exact hz7 | exact hz8 | exact Nat.le_refl _)
                  | exact holdR_set _ (holdR_set _ (holdR_alloc _ hx8 zg9 hgl) zg9 hdz9 hgl (by first | exact hz7 | exact hz8 | exact Nat.le_refl _)) zg9 hdz9 hgl (by first | exact hz7 | exact hz8 | exact Nat.le_refl _)
                  | exact holdR_alloc _ ⟨by assumption, by assumption, by assumption, by assumption, by assumption⟩ zg9 hgl
                  | go_keep)
                ((first
                  | (go_at_call 10; go_split_ands; refine (HNx.out _ (by assumption) (by assumption)).mono ?_; rintro e w7 ⟨k2, rfl, hk2, hgr7, hx7⟩; have hki2 : (k2 : Int) < (ys.length : Int) := (by omega); have hcy := hx7.2.2.2.2 k2 hk2; have hcy2 := (holdR_alloc (.cells #[.slice none 0 0, .int .i64 0] 24) hx7 zg9 hgl).2.2.2.2 k2 hk2; have hz7 := hx7.2.2.1.size; try (have tb7 : Box w7 W9.heap.size [.slice none 0 0, .int .i64 0] 24 := (Box.mk W9.drew [.slice none 0 0, .int .i64 0] 24).grown hgr7 (by intro h; injection h with h; have : W9.heap.size = d := h; omega)))
                  | (go_at_call 28; go_split_ands; refine (HRm.out _ _ (by assumption) (by assumption)).mono ?_; rintro e w8 ⟨A8, c8, rfl, hown8, hbl8, hx8⟩; have hz8 := hx8.2.2.1.size; have na8 := Box.mk w8 [.slice none 0 0, .int .i64 0] 24; obtain ⟨v0, v1, -⟩ := na8.cells; have fv := na8.fro; simp only [Nat.zero_add, Nat.add_zero, Nat.reduceAdd] at v0 v1; try (first | (have tb8 : Box w8 w7.heap.size [.slice none 0 0, .int .i64 0] 24 := (Box.mk w7 [.slice none 0 0, .int .i64 0] 24).below hbl8 (Nat.le_refl _); obtain ⟨y0, y1, -⟩ := tb8.cells; have fy := tb8.fro; simp only [Nat.zero_add, Nat.add_zero, Nat.reduceAdd] at y0 y1) | (have tb8 : Box w8 W9.heap.size [.slice none 0 0, .int .i64 0] 24 := tb7.below hbl8 (Nat.le_refl _); obtain ⟨y0, y1, -⟩ := tb8.cells; have fy := tb8.fro; simp only [Nat.zero_add, Nat.add_zero, Nat.reduceAdd] at y0 y1)))))
              all_goals
                go_wp2_with fail
                go_meet
                have hS8 : w8.cell? ⟨gb, 0, none⟩ = some (.slice (some ⟨g, 0, none⟩) ys.length cy) ∧ w8.cell? ⟨gb, 1, none⟩ = some (.int .i64 ny) ∧ W9.grownBy w8 (some d) ∧ DiceAt w8 d ∧ (∀ q, q < ys.length → w8.cell? ⟨g, q * 6, none⟩ = some (.int .i64 (fid q))) := by first | exact hx8 | exact ⟨by assumption, by assumption, by assumption, by assumption, by assumption⟩
                first
                  | (have hS9 := holdR_alloc (.cells #[.slice A8 (remT ys ny (fid k2)).1.length c8, .int .i64 (remT ys ny (fid k2)).2.1] 24) hS8 zg9 hgl
                     exact ⟨w8.heap.size, A8, c8, (fid k2), rfl, rfl, Box.mk w8 [.slice A8 (remT ys ny (fid k2)).1.length c8, .int .i64 (remT ys ny (fid k2)).2.1] 24, (hown8.alloc _).base (by omega), hz8, by simp, hS9.2.2.1, hS9.2.2.2.1⟩)
                  | (have hne : (Value.slice A8 (remT ys ny (fid k2)).1.length c8).ownBlock ≠ some w7.heap.size := fun e => by have := (hown8.lt e).1; simp at this; omega
                     have hS9 := holdR_set (p := ⟨w7.heap.size, 1, none⟩) (.int .i64 (remT ys ny (fid k2)).2.1) (holdR_set (p := ⟨w7.heap.size, 0, none⟩) (.slice A8 (remT ys ny (fid k2)).1.length c8) hS8 zg9 hdz9 hgl hz7) zg9 hdz9 hgl hz7
                     have hlt8 := tb8.lt
                     exact ⟨w7.heap.size, A8, c8, (fid k2), rfl, rfl, (tb8.set 0 _).set 1 _, ((hown8.setCell_other (a := ⟨w7.heap.size, 0, none⟩) hne _).setCell_other (a := ⟨w7.heap.size, 1, none⟩) hne _).base (by simp; omega), hz7, by simpa [World.setCell] using hlt8, hS9.2.2.1, hS9.2.2.2.1⟩)
                  | (have hlt7 := tb7.lt
                     have hne : (Value.slice A8 (remT ys ny (fid k2)).1.length c8).ownBlock ≠ some W9.heap.size := fun e => by have := (hown8.lt e).1; omega
                     have hS9 := holdR_set (p := ⟨W9.heap.size, 1, none⟩) (.int .i64 (remT ys ny (fid k2)).2.1) (holdR_set (p := ⟨W9.heap.size, 0, none⟩) (.slice A8 (remT ys ny (fid k2)).1.length c8) hS8 zg9 hdz9 hgl (Nat.le_refl _)) zg9 hdz9 hgl (Nat.le_refl _)
                     have hlt8 := tb8.lt
                     exact ⟨W9.heap.size, A8, c8, (fid k2), rfl, rfl, (tb8.set 0 _).set 1 _, ((hown8.setCell_other (a := ⟨W9.heap.size, 0, none⟩) hne _).setCell_other (a := ⟨W9.heap.size, 1, none⟩) hne _).base (by omega), Nat.le_refl _, by simpa [World.setCell] using hlt8, hS9.2.2.1, hS9.2.2.2.1⟩)
            case rest =>
              obtain ⟨tb2, A9, c9, yi, rfl, rfl, bt2, hown9, htb2, htlt2, hg10, hD10⟩ := hcut
              have t10 := t9.grown hg10 (by intro h; injection h with h; omega)
              have r10 := r9.grown hg10 (by intro h; injection h with h; omega)
              have own10 := own9.kept hg10 (.inr hndB)
              have hgg10 := grown_trans hg9 hg10
              have HOK := Lib.hid (fun he => okT_rem (id := yi) okB he)
              have HPOS := Lib.hid (fun he => (good_of_check ((okT_rem (id := yi) okB he).1.1)).pos)
              generalize (remT ys ny yi).2.2 = eq at *
              generalize (remT ys ny yi).2.1 = nq at *
              generalize (remT ys ny yi).1 = qs at *
              clear hS0 HNx HRm t9 r9 own9 hg9 t0 t1
              obtain ⟨k0, k1, -⟩ := bt2.cells
              obtain ⟨t0, t1, -⟩ := t10.cells
              have hf10 := t10.fro
              simp only [Nat.zero_add, Nat.add_zero, Nat.reduceAdd] at k0 k1 t0 t1
              by_cases he : eq = 0
              · subst he
                obtain ⟨hok2, hle2⟩ := HOK.out rfl
                have hpos2 := Lib.hid (HPOS.out rfl)
                have hne2 : (Value.slice A9 qs.length c9).ownBlock ≠ some gb := fun e => by have := (hown9.lt e).1; omega
                have own11 := ((hown9.setCell_other (a := ⟨gb, 0, none⟩) hne2 (.slice A9 qs.length c9)).setCell_other (a := ⟨gb, 1, none⟩) hne2 (.int .i64 nq)).base (show W1.heap.size ≤ W9.heap.size by omega)
                have t11 := (t10.set 0 (.slice A9 qs.length c9)).set 1 (.int .i64 nq)
                have r11 := (r10.setO (q := ⟨gb, 0, none⟩) (show w.heap.size ≠ gb by omega) (.slice A9 qs.length c9)).setO (q := ⟨gb, 1, none⟩) (show w.heap.size ≠ gb by omega) (.int .i64 nq)
                have hD11 := (hD10.setO (q := ⟨gb, 0, none⟩) (show d < gb by omega) (.slice A9 qs.length c9)).setO (q := ⟨gb, 1, none⟩) (show d < gb by omega) (.int .i64 nq)
                have hgg11 := grown_set2 hgg10 (show w.heap.size ≤ gb by omega) (.slice A9 qs.length c9) (.int .i64 nq)
                simp only [List.set_cons_zero, List.set_cons_succ] at t11
                have hlen2 : qs.length + m ≤ n + 1 := by omega
                clear HOK HPOS hle2
                go_wp2
                go_roundw
                case rel => exact ⟨m, _, qs, nq, by go_num, by omega, t11, r11, own11, hne2, hok2, hlen2, hD11, hgg11, hpos2⟩
                case measure => simp [intOf]
              · have he' : (eq == 0) = false := by simpa using he
                clear HOK HPOS
                go_wp2
                go_roundw
                case rel => exact ⟨m, _, ys, ny, by go_num, by omega, t10, r10, own10, ngB, okB, lenB, hD10, hgg10, posB⟩
                case measure => simp [intOf]

end Go.Proofs.YtmjnibofdpgacaaDoor
