/-
  A box in memory: a block of cells with its frozen flags.
-/
import Derived.Test.YtmjnibofdpgacaaDoorBase
import Derived.Laws.Rows
import Derived.Laws.ResultCell
set_option linter.unusedSimpArgs false
set_option linter.unusedVariables false
namespace Gc
open Go Go.RowKit

def Box (w : World) (b : Nat) (cs : List Value) (T : TypeId) : Prop := w.heap[b]? = some (.cells cs.toArray T (0, 0))

theorem Box.mk (w : World) (cs : List Value) (T : TypeId) : Box (w.alloc (.cells cs.toArray T)) w.heap.size cs T := by
  show (w.heap.push _)[w.heap.size]? = _
  simp
theorem Box.lt {w : World} {b : Nat} {cs : List Value} {T : TypeId} (h : Box w b cs T) : b < w.heap.size := (Array.getElem?_eq_some_iff.1 h).1
theorem Box.below {w w' : World} {b B : Nat} {cs : List Value} {T : TypeId} (h : Box w b cs T) (hb : Below B w w') (hB : w.heap.size ≤ B) : Box w' b cs T := (hb.block b (by have := h.lt; omega)).trans h
theorem Box.alloc {w : World} {b : Nat} {cs : List Value} {T : TypeId} (h : Box w b cs T) (o : Obj) : Box (w.alloc o) b cs T := h.below ((Below.refl w.heap.size w).alloc (Nat.le_refl _) o) (Nat.le_refl _)
theorem Box.grown {w w' : World} {b : Nat} {row : Option Nat} {cs : List Value} {T : TypeId} (h : Box w b cs T) (hg : w.grownBy w' row) (hr : some b ≠ row) : Box w' b cs T := (hg.block b h.lt hr).trans h
theorem Box.drewN {w : World} {b : Nat} {cs : List Value} {T : TypeId} (h : Box w b cs T) (n : Nat) : Box (w.drewN n) b cs T := h
theorem Box.cells {w : World} {b : Nat} {cs : List Value} {T : TypeId} (h : Box w b cs T) : CellsFrom w b 0 0 cs :=
  CellsFrom.mk fun i v hv => by
    rw [cell_of_row w b _ _ T (0, 0) h]
    simpa using hv
theorem Box.fro {w : World} {b : Nat} {cs : List Value} {T : TypeId} (h : Box w b cs T) (off : Nat) : w.frozen? ⟨b, off, none⟩ = false := by
  unfold Box at h
  simp [World.frozen?, h]

/-- a write into a block at or above B keeps what lies below it -/
theorem below_set {B : Nat} {a w : World} (h : Below B a w) {p : Addr} (hp : B ≤ p.block) (v : Value) : Below B a (w.setCell p v) := h.setCell hp v

theorem Box.set {w : World} {b : Nat} {cs : List Value} {T : TypeId} (h : Box w b cs T) (i : Nat) (v : Value) : Box (w.setCell ⟨b, i, none⟩ v) b (cs.set i v) T := by
  unfold Box at *
  simp [World.setCell, Array.getElem?_modify, h]

/-- a function that returns a named struct from its box, and a second result -/
theorem results_box_tmp {P : Program} {fn : Func} {p u : Tmp} {ty : TypeId} (h : fn.results = #[.cell p ty, .tmp u]) (tmps : Array Value) (w : World) {g : Nat} {T : TypeId} {cs : List Value} (hp : tmps.getD p undef = .pointer (some ⟨g, 0, none⟩)) (hb : Box w g cs T) {d : TypeDesc}
    (hu : P.underlying ty = some d) (hd : (match d with | .struct _ | .array _ _ => true | _ => false) = true) (hi : (P.info? ty).map (·.size) = some cs.length) :
    (results fn tmps).run P w = .ok (.tuple #[.agg cs.toArray, tmps.getD u undef]) w := by
  rw [results_cell_tmp h, hp]
  have := run_loadVar_row (P := P) w g T ty cs.toArray (0, 0) d hb hu hd (by simpa using hi)
  simp [asAddr, Result.andThen, this]

theorem results_box {P : Program} {fn : Func} {p : Tmp} {ty : TypeId} (h : fn.results = #[.cell p ty]) (tmps : Array Value) (w : World) {g : Nat} {T : TypeId} {cs : List Value} (hp : tmps.getD p undef = .pointer (some ⟨g, 0, none⟩)) (hb : Box w g cs T) {d : TypeDesc}
    (hu : P.underlying ty = some d) (hd : (match d with | .struct _ | .array _ _ => true | _ => false) = true) (hi : (P.info? ty).map (·.size) = some cs.length) :
    (results fn tmps).run P w = .ok (.agg cs.toArray) w :=
  results_cell_row h tmps w g T cs.toArray (0, 0) d hp hb hu hd (by simpa using hi)

end Gc
