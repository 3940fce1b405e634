/-
  A map[int]int that the call makes, as a function on numbers: a look-up and a store at the operation.
-/
import Derived.Test.YtmjnibofdpgacaaDoorProg
import Derived.Test.YtmjnibofdpgacaaDoorTreeP
import Derived.Maps.Own
import Derived.Maps.OwnOps
import Derived.Maps.OwnSet
import Derived.Maps.Views
set_option linter.unusedSimpArgs false
set_option linter.unusedVariables false
namespace Go.Proofs.YtmjnibofdpgacaaDoor
open Go.RowKit Gc Go.Maps

theorem lawInt : Keyed Tryd.prog 3 := int_keyed Tryd.underlying3
theorem zeroInt (w : World) : (zeroValue 3).run Tryd.prog w = .ok (.int .i64 0) w := by kernel_rfl
theorem wf_I64 {x : Int} (h : I64 x) : (Lit.int .i64 x).wf = true := WalkArith.wf_i64 (by have := h.1; have := h.2; omega)

/-- block m is a map of at most n ints that reads as f -/
def MapIs (w : World) (m n : Nat) (f : Int → Int) : Prop :=
  ∃ D : DataW Unit, w.ownsMap Tryd.prog 3 (plainElem (H := Unit) Tryd.prog 3) m n D ∧ ∀ x, D.atKey (.int .i64 x) (.lit (.int .i64 0)) = .lit (.int .i64 (f x))

theorem MapIs.made (w : World) : MapIs (w.alloc (.map #[] 0)) w.heap.size 0 (fun _ => 0) := ⟨_, World.ownsMap_made _ _ _ _, fun _ => rfl⟩
theorem MapIs.grown {w w' : World} {m n : Nat} {f : Int → Int} {row : Option Nat} (h : MapIs w m n f) (hg : w.grownBy w' row) (hne : some m ≠ row) : MapIs w' m n f :=
  let ⟨D, h1, h2⟩ := h
  ⟨D, h1.kept hg hne, h2⟩
theorem MapIs.below {w w' : World} {m n B : Nat} {f : Int → Int} (h : MapIs w m n f) (hb : Below B w w') (hB : w.heap.size ≤ B) : MapIs w' m n f :=
  h.grown (row := none) ⟨hb.os, hb.tape, hb.output, hb.size, fun i hi _ => hb.block i (by omega)⟩ (by simp)
theorem MapIs.drewN {w : World} {m n : Nat} {f : Int → Int} (h : MapIs w m n f) (q : Nat) : MapIs (w.drewN q) m n f := h
theorem MapIs.mono {w : World} {m n n' : Nat} {f : Int → Int} (h : MapIs w m n f) (hn : n ≤ n') : MapIs w m n' f :=
  let ⟨D, h1, h2⟩ := h
  ⟨D, h1.mono hn, h2⟩

section
variable {ops : Array Oper} {rest : List Oper} {o : Oper} {a : Act} {Q : Exit → Act → World → Prop}

theorem map_look {w : World} {m n : Nat} {f : Int → Int} (hgd : o.guard = none) (mo xo : Operand) (ho : o.op = .lookup 97 mo xo false) (hm : a.eval mo = .map (some m)) (h : MapIs w m n f) (x : Int) (hx : a.eval xo = .int .i64 x) (hwf : I64 x)
    (hK : wpList Tryd.prog ops Q rest (a.put o.dst (.int .i64 (f x))) w) : wpList Tryd.prog ops Q (o :: rest) a w := by
  obtain ⟨D, hown, hat⟩ := h
  refine wpList_lookup_own_int w hgd mo xo 97 ho 3 3 .i64 lawInt Tryd.underlying97 Tryd.underlying3 (zeroInt _) m n D hm hown _ _ hx (keyOf_int_mk Tryd.underlying3 (wf_I64 hwf)) fun c hc _ => ?_
  rw [hat] at hc
  simp only [DataW.lit.injEq, Lit.int.injEq, true_and] at hc
  rw [← hc]
  exact hK

theorem map_put {w : World} {m n : Nat} {f : Int → Int} (hgd : o.guard = none) (mo xo vo : Operand) (ho : o.op = .mapUpdate 97 mo xo vo) (hm : a.eval mo = .map (some m)) (h : MapIs w m n f) (x v : Int) (hx : a.eval xo = .int .i64 x) (hv : a.eval vo = .int .i64 v) (hwf : I64 x) (hvf : I64 v) (hn : n ≤ 1048576)
    (hK : ∀ w', MapIs w' m (n + 1) (fun y => if y = x then v else f y) → w.grownBy w' (some m) → wpList Tryd.prog ops Q rest (a.put o.dst undef) w') : wpList Tryd.prog ops Q (o :: rest) a w := by
  obtain ⟨D, hown, hat⟩ := h
  refine wpList_mapUpdate_own w hgd mo xo vo 97 ho 3 3 lawInt Tryd.underlying97 _ m n D hm hown (by unfold maxLen; omega) _ _ _ hx hv (keyOf_int_mk Tryd.underlying3 (wf_I64 hwf)) _ [] (plainElem_int Tryd.underlying3 (wf_I64 hvf)) fun w' h1 h2 => hK w' ⟨_, h1, fun y => ?_⟩ h2
  by_cases e : y = x
  · subst e
    rw [atKey_put_same hown.isMap (by trivial)]
    simp
  · rw [atKey_put_other (by intro e'; injection e' with _ e'; exact e e'), hat]
    simp [e]
end

end Go.Proofs.YtmjnibofdpgacaaDoor
