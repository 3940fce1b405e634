/-
  A box beside a write; a struct and two more results.
-/
import Derived.Test.YtmjnibofdpgacaaDoorBox
set_option linter.unusedSimpArgs false
set_option linter.unusedVariables false
namespace Gc
open Go Go.RowKit

theorem results_box_tmp2 {P : Program} {fn : Func} {p u u' : Tmp} {ty : TypeId} (h : fn.results = #[.cell p ty, .tmp u, .tmp u']) (tmps : Array Value) (w : World) {g : Nat} {T : TypeId} {cs : List Value} (hp : tmps.getD p undef = .pointer (some ⟨g, 0, none⟩)) (hb : Box w g cs T) {d : TypeDesc}
    (hu : P.underlying ty = some d) (hd : (match d with | .struct _ | .array _ _ => true | _ => false) = true) (hi : (P.info? ty).map (·.size) = some cs.length) :
    (results fn tmps).run P w = .ok (.tuple #[.agg cs.toArray, tmps.getD u undef, tmps.getD u' undef]) w := by
  have h1 : (results fn tmps).run P w = ((asAddr (tmps.getD p undef)).run P w).andThen fun a w₁ => ((loadVar ty a).run P w₁).andThen fun v w₂ => .ok (.tuple #[v, tmps.getD u undef, tmps.getD u' undef]) w₂ := by
    simp only [results, h]
    simp [Sem.run_bind, Result.andThen]
  rw [h1, hp]
  have := run_loadVar_row (P := P) w g T ty cs.toArray (0, 0) d hb hu hd (by simpa using hi)
  simp [asAddr, Result.andThen, this]

theorem Box.setO {w : World} {b : Nat} {cs : List Value} {T : TypeId} (h : Box w b cs T) {q : Addr} (hq : b ≠ q.block) (v : Value) : Box (w.setCell q v) b cs T := by
  unfold Box at *
  rw [Below.heap_setCell _ _ _ _ (by first | exact hq | exact hq.symm)]
  exact h
end Gc
