/-
  Rows in a block that has just been laid.
-/
import Derived.Test.YtmbffobifiidnaaDoorBase
set_option linter.unusedSimpArgs false
set_option linter.unusedVariables false
namespace Gc
open Go Go.RowKit

theorem flatten_at (k : Nat) : ∀ (cs : List (List Value)) (i j : Nat) (v : Value) (hi : i < cs.length), (∀ c ∈ cs, c.length = k) → cs[i][j]? = some v → cs.flatten[i * k + j]? = some v
  | [], _, _, _, hi, _, _ => absurd hi (by simp)
  | c :: cs, i, j, v, hi, hall, hv => by
    have hc0 := hall c (by simp)
    rw [List.flatten_cons]
    cases i with
    | zero =>
      have hv' : c[j]? = some v := by simpa using hv
      have hj := (List.getElem?_eq_some_iff.1 hv').1
      rw [List.getElem?_append_left (by omega)]
      simpa using hv
    | succ i =>
      have hlen : c.length ≤ (i + 1) * k + j := by rw [Nat.add_mul]; omega
      rw [List.getElem?_append_right hlen]
      have := flatten_at k cs i j v (by simpa using hi) (fun c' h' => hall c' (by simp [h'])) (by simpa using hv)
      rw [← this]
      congr 1
      rw [Nat.add_mul]; omega

theorem rd_box {w : World} {b k : Nat} {cs : List (List Value)} {T : TypeId} (h : Box w b cs.flatten T) (hk : ∀ c ∈ cs, c.length = k) : Rd w k (some ⟨b, 0, none⟩) cs := by
  intro i hi
  refine ⟨b, 0, rfl, h.lt, CellsFrom.mk fun j v hv => ?_⟩
  have := h.cells.at_ (i * k + j) v (flatten_at k cs i j v hi hk hv)
  simpa using this

theorem rd_new (w : World) (k : Nat) (cs : List (List Value)) (T : TypeId) (hk : ∀ c ∈ cs, c.length = k) : Rd (w.alloc (.cells cs.flatten.toArray T)) k (some ⟨w.heap.size, 0, none⟩) cs := rd_box (Box.mk w cs.flatten T) hk

end Gc
