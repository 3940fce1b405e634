/-
  Dice: whatever numbers they hold, Next(n) hands back some number from 0 to n - 1 (0 where n < 1), and turns the dice's own block alone; so Bool, Pick.
-/
import Derived.Test.YtmbffobifiidnaaDoorProg
import Derived.Test.YtmbffobifiidnaaDoorStr
set_option linter.unusedSimpArgs false
set_option linter.unusedVariables false
namespace Go.Proofs.YtmbffobifiidnaaDoor
open Go.RowKit Gc

/-- dice at block d: a list that lies below d, and a place in it -/
def DiceAt (w : World) (d : Nat) : Prop :=
  ∃ (p : Option Addr) (ts : List Int) (c k : Nat) (T : TypeId), w.heap[d]? = some (.cells #[.slice p ts.length c, .int .i64 k] T (0, 0)) ∧ Rd w 1 p (ts.map icells) ∧
    (∀ b, blk p = some b → b < d) ∧ k ≤ ts.length ∧ ts.length ≤ c ∧ ts.length ≤ 140737488351232

theorem grown_set (w : World) (d i : Nat) (v : Value) : w.grownBy (w.setCell ⟨d, i, none⟩ v) (some d) :=
  ⟨rfl, rfl, rfl, by simp [World.setCell], fun k hk hne => Below.heap_setCell w ⟨d, i, none⟩ v k (fun e => hne (by rw [e]))⟩
theorem grown_drewN {a w : World} {row : Option Nat} (h : a.grownBy w row) (n : Nat) : a.grownBy (w.drewN n) row := ⟨h.os, h.tape, h.output, h.size, h.block⟩
theorem grown_below {w w' : World} {B : Nat} (h : Below B w w') (hB : w.heap.size ≤ B) (row : Option Nat) : w.grownBy w' row := ⟨h.os, h.tape, h.output, h.size, fun i hi _ => h.block i (by omega)⟩
theorem grown_trans {a b c : World} {row : Option Nat} (h : a.grownBy b row) (k : b.grownBy c row) : a.grownBy c row :=
  ⟨k.os.trans h.os, k.tape.trans h.tape, k.output.trans h.output, Nat.le_trans h.size k.size, fun i hi hne => (k.block i (Nat.lt_of_lt_of_le hi h.size) hne).trans (h.block i hi hne)⟩
theorem grown_refl (w : World) (row : Option Nat) : w.grownBy w row := ⟨rfl, rfl, rfl, Nat.le_refl _, fun _ _ _ => rfl⟩

theorem blk_set {w : World} {g : Nat} {t : TypeId} {cs : Array Value} (h : w.heap[g]? = some (.cells cs t (0, 0))) (i : Nat) (u : Value) : (w.setCell ⟨g, i, none⟩ u).heap[g]? = some (.cells (cs.setIfInBounds i u) t (0, 0)) := by
  simp [World.setCell, Array.getElem?_modify, h]

theorem DiceAt.lt {w : World} {d : Nat} (h : DiceAt w d) : d < w.heap.size := by
  obtain ⟨_, _, _, _, _, hd, _⟩ := h
  exact (Array.getElem?_eq_some_iff.1 hd).1

theorem DiceAt.grown {w w' : World} {d : Nat} {row : Option Nat} (h : DiceAt w d) (hg : w.grownBy w' row) (hr : ∀ r, row = some r → d < r) : DiceAt w' d := by
  have hlt := h.lt
  obtain ⟨p, ts, c, k, T, hd, hrd, hp, h1, h2, h3⟩ := h
  refine ⟨p, ts, c, k, T, (hg.block d hlt (fun e => by have := hr _ e.symm; omega)).trans hd, hrd.grown hg (fun b e he => ?_), hp, h1, h2, h3⟩
  have := hp b e
  have := hr _ he.symm
  omega

theorem DiceAt.below {w w' : World} {d B : Nat} (h : DiceAt w d) (hb : Below B w w') (hB : w.heap.size ≤ B) : DiceAt w' d :=
  h.grown (grown_below hb hB none) (by simp)
theorem DiceAt.alloc {w : World} {d : Nat} (h : DiceAt w d) (o : Obj) : DiceAt (w.alloc o) d := h.below ((Below.refl w.heap.size w).alloc (Nat.le_refl _) o) (Nat.le_refl _)

theorem tmod_lt (x n : Int) (hn : 1 ≤ n) (h : 0 ≤ x.tmod n) : x.tmod n < n := by
  have := Int.tmod_lt_of_pos x (show 0 < n by omega)
  exact this
theorem tmod_gt (x n : Int) (hn : 1 ≤ n) : -n < x.tmod n := by
  have := Int.lt_tmod_of_pos x (show 0 < n by omega)
  omega

theorem dice_after {w : World} {d : Nat} {p : Option Addr} {ts : List Int} {c k : Nat} {T : TypeId} (hd : w.heap[d]? = some (.cells #[.slice p ts.length c, .int .i64 k] T (0, 0))) (hrd : Rd w 1 p (ts.map icells))
    (hp : ∀ b, blk p = some b → b < d) (hk : k < ts.length) (h2 : ts.length ≤ c) (h3 : ts.length ≤ 140737488351232) (a b : Nat) :
    DiceAt (((w.drewN a).setCell ⟨d, 1, none⟩ (.int .i64 ((k : Int) + 1))).drewN b) d ∧ w.grownBy (((w.drewN a).setCell ⟨d, 1, none⟩ (.int .i64 ((k : Int) + 1))).drewN b) (some d) := by
  have g : w.grownBy (((w.drewN a).setCell ⟨d, 1, none⟩ (.int .i64 ((k : Int) + 1))).drewN b) (some d) := grown_drewN (grown_trans (grown_drewN (grown_refl w _) a) (grown_set _ d 1 _)) b
  refine ⟨⟨p, ts, c, k + 1, T, ?_, hrd.grown g (fun b e he => ?_), hp, by omega, h2, h3⟩, g⟩
  · have := blk_set (w := w.drewN a) hd 1 (.int .i64 ((k : Int) + 1))
    simpa using this
  · have := hp b e
    simp at he
    omega

set_option maxRecDepth 100000 in
set_option maxHeartbeats 1000000 in
theorem next_c (d : Nat) (n : Int) (w : World) (h : DiceAt w d) (hmax : n ≤ 4611686018427387904) :
    Calls Tryd.prog 17 #[.pointer (some ⟨d, 0, none⟩), .int .i64 n] w fun e w' => ∃ x : Int, e = .returned (.int .i64 x) ∧ 0 ≤ x ∧ (1 ≤ n → x < n) ∧ (n < 1 → x = 0) ∧ DiceAt w' d ∧ w.grownBy w' (some d) := by
  have hD := h
  obtain ⟨p, ts, c, k, T, hd, hrd, hp, h1, h2, h3⟩ := h
  have hL : w.cell? ⟨d, 0, none⟩ = some (.slice p ts.length c) := cell_of_row w d 0 _ T (0, 0) hd
  have hA : w.cell? ⟨d, 1, none⟩ = some (.int .i64 k) := cell_of_row w d 1 _ T (0, 0) hd
  have hf : w.frozen? ⟨d, 1, none⟩ = false := by simp [World.frozen?, hd]
  have HD := Lib.hid hd
  clear hd
  by_cases hk : k < ts.length
  · by_cases hn : 1 ≤ n
    · have fin := dice_after HD.out hrd hp hk h2 h3
      obtain ⟨b, o, rfl, hb, hc⟩ := hrd.row (i := k) (c := icells ts[k]) (by simp [hk])
      have hbd := hp b rfl
      simp only [icells, CellsFrom, Nat.add_zero, Nat.mul_one, and_true] at hc
      have hne : b ≠ d := by omega
      have e1 : decide ((ts.length : Int) ≤ (k : Int)) = false := by simp; omega
      have e2 : (k : Int) < (ts.length : Int) := by omega
      have e3 : IntKind.i64.wrap ((k : Int) + 1 - 1) = k := by rw [show (k : Int) + 1 - 1 = k from by omega]; exact IntWalk.i64_in _ (by omega)
      generalize ts[k] = x at *
      have t1 := tmod_gt x n hn
      have t2 := tmod_lt x n hn
      go_enter Tryd.func17, Tryd.ntmps17
      go_wp2
      go_quiet (fail)
      go_wp2
      go_quiet (fail)
      clear hL hA hrd e1 e2 e3
      go_wp2
      · go_ret
        have hlt : x.tmod n < 0 := by assumption
        exact ⟨x.tmod n + n, rfl, by omega, fun _ => by omega, fun h => by omega, fin _ _⟩
      · go_ret
        have hge : 0 ≤ x.tmod n := by assumption
        exact ⟨x.tmod n, rfl, hge, fun _ => t2 hge, fun h => by omega, fin _ _⟩
    · have e1 : decide ((ts.length : Int) ≤ (k : Int)) = false := by simp; omega
      have e2 : (k : Int) < (ts.length : Int) := by omega
      have e3 : n < 1 := by omega
      go_enter Tryd.func17, Tryd.ntmps17
      go_wp2
      go_quiet (fail)
      go_wp2
      go_ret
      exact ⟨0, rfl, by omega, fun h => absurd h (by omega), fun _ => rfl, hD.grown (grown_drewN (grown_refl w none) _) (by simp), grown_drewN (grown_refl w _) _⟩
  · have e1 : (ts.length : Int) ≤ (k : Int) := by omega
    go_enter Tryd.func17, Tryd.ntmps17
    go_wp2
    go_quiet (fail)
    go_wp2
    go_ret
    exact ⟨0, rfl, by omega, fun h => by omega, fun _ => rfl, hD.grown (grown_drewN (grown_refl w none) _) (by simp), grown_drewN (grown_refl w _) _⟩

end Go.Proofs.YtmbffobifiidnaaDoor
