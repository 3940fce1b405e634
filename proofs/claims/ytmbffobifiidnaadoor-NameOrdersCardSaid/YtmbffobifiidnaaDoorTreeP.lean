/-
  Trees of groups as plain data: what Check, forest's functions and the reference's functions compute, as plain Lean functions. Nothing of the program stands here.
-/
import Derived.Test.YtmbffobifiidnaaDoorStr
set_option linter.unusedSimpArgs false
set_option linter.unusedVariables false
namespace Gc
open Go Go.RowKit

structure Grp where
  id : Int
  parent : Int
  name : ByteArray
  control : Int
  kind : Int
  owner : Int

instance : Inhabited Grp := ⟨⟨0, 0, ByteArray.empty, 0, 0, 0⟩⟩

def Grp.cells (x : Grp) : List Value := [.int .i64 x.id, .int .i64 x.parent, .string x.name, .int .i64 x.control, .int .i64 x.kind, .int .i64 x.owner]

/-- an int of 64 bits -/
def I64 (x : Int) : Prop := -9223372036854775808 ≤ x ∧ x ≤ 9223372036854775807

/-- what every node that lies in memory meets: its name is no longer than memory is, its numbers are ints -/
def Grp.ok (x : Grp) : Prop := x.name.size ≤ 140737488351232 ∧ I64 x.id ∧ I64 x.parent ∧ I64 x.control ∧ I64 x.kind ∧ I64 x.owner

/-- the index of the first element that p takes -/
def idx {α : Type} (p : α → Bool) (xs : List α) : Int := match xs.findIdx? p with | some i => (i : Int) | none => -1

theorem idx_hit {α : Type} (p : α → Bool) (xs : List α) (k : Nat) (h : k < xs.length) (hp : p xs[k] = true) (hn : (xs.take k).all (fun x => !p x) = true) : idx p xs = k := by
  have : xs.findIdx? p = some k := by
    rw [List.findIdx?_eq_some_iff_getElem]
    refine ⟨h, hp, fun j hj => ?_⟩
    have := List.all_eq_true.1 hn xs[j] (List.mem_take_iff_getElem.2 ⟨j, by omega, rfl⟩)
    simpa using this
  simp [idx, this]

theorem idx_miss {α : Type} (p : α → Bool) (xs : List α) (hn : xs.all (fun x => !p x) = true) : idx p xs = -1 := by
  have : xs.findIdx? p = none := by
    rw [List.findIdx?_eq_none_iff]
    intro x hx
    simpa using List.all_eq_true.1 hn x hx
  simp [idx, this]

theorem idx_nonneg {α : Type} {p : α → Bool} {xs : List α} (h : xs.any p = true) : 0 ≤ idx p xs := by
  unfold idx
  cases e : xs.findIdx? p with
  | some i => simp
  | none =>
    rw [List.findIdx?_eq_none_iff] at e
    obtain ⟨x, hx, hp⟩ := List.any_eq_true.1 h
    have := e x hx
    simp [hp] at this
theorem idx_neg {α : Type} {p : α → Bool} {xs : List α} (h : xs.any p = false) : idx p xs = -1 := by
  refine idx_miss p xs (List.all_eq_true.2 fun x hx => ?_)
  have := List.any_eq_false.1 h x hx
  simpa using this

theorem all_snoc {α : Type} {p : α → Bool} {xs : List α} {k : Nat} (h : k < xs.length) (ha : (xs.take k).all p = true) (hp : p xs[k] = true) : (xs.take (k + 1)).all p = true := by
  rw [take_snoc _ _ h, List.all_append, ha]; simp [hp]

/-! ## children, subtrees -/
def children (xs : List Grp) (id : Int) : List Int := (xs.filter fun x => x.parent == id).map (·.id)

theorem children_le (xs : List Grp) (id : Int) : (children xs id).length ≤ xs.length := by
  simp only [children, List.length_map]; exact List.length_filter_le _ _
theorem children_hit (xs : List Grp) (k : Nat) (h : k < xs.length) (id : Int) (e : xs[k].parent = id) : children (xs.take (k + 1)) id = children (xs.take k) id ++ [xs[k].id] := by
  rw [take_snoc _ _ h]; simp [children, e, -List.take_append_getElem]
theorem children_miss (xs : List Grp) (k : Nat) (h : k < xs.length) (id : Int) (e : ¬ xs[k].parent = id) : children (xs.take (k + 1)) id = children (xs.take k) id := by
  rw [take_snoc _ _ h]; simp [children, e, -List.take_append_getElem]

/-- forest.Subtree's loop: what is still to be looked at, and what has been given out -/
def subGo (xs : List Grp) : Nat → List Int → List Int → List Int
  | 0, _, out => out
  | _ + 1, [], out => out
  | n + 1, x :: rest, out => subGo xs n (children xs x ++ rest) (out ++ [x])
def subtree (xs : List Grp) (id : Int) : List Int := if xs.any (fun x => x.id == id) then subGo xs xs.length [id] [] else []

/-! ## tree.Check -/
def rootB (x : Grp) : Bool := x.id == 1 && (x.parent == 0 && (x.name.toList.isEmpty && x.kind == 0))

def dupB (n x : Grp) : Bool := x.parent == n.parent && x.name.toList == n.name.toList
/-- the last node's ID -/
def lastId (xs : List Grp) : Int := match xs.getLast? with | some x => x.id | none => 0
def headB (before : List Grp) (n : Grp) : Bool := decide (lastId before < n.id) && (validB n.name && (n.kind == 0 || n.kind == 1))
theorem any_snoc {α : Type} {p : α → Bool} {xs : List α} {k : Nat} (h : k < xs.length) : (xs.take (k + 1)).any p = ((xs.take k).any p || p xs[k]) := by
  rw [take_snoc _ _ h, List.any_append]; simp
theorem any_of_at {α : Type} {p : α → Bool} {xs : List α} {k : Nat} (h : k < xs.length) (hp : p xs[k] = true) : xs.any p = true := List.any_eq_true.2 ⟨_, List.getElem_mem h, hp⟩
def fineB (before : List Grp) (n : Grp) : Bool := headB before n && (!before.any (dupB n) && before.any (fun x => x.id == n.parent))

def ctlB (n : Grp) : Bool := decide (0 ≤ n.control) && (decide (n.control ≤ 31) && (decide (0 ≤ n.owner) && decide (n.owner ≤ 1048576)))

/-- the depths that Check's map holds -/
def depStep (f : Int → Int) (n : Grp) : Int → Int := fun x => if x = n.id then f n.parent + 1 else f x
def dep (xs : List Grp) : Int → Int := (xs.drop 1).foldl depStep (fun _ => 0)
theorem dep_zero (xs : List Grp) : dep (xs.take 1) = fun _ => 0 := by
  cases xs <;> simp [dep]
theorem dep_nil : dep [] = fun _ => 0 := rfl
theorem dep_succ (xs : List Grp) (k : Nat) (h : k < xs.length) (h0 : 0 < k) : dep (xs.take (k + 1)) = depStep (dep (xs.take k)) xs[k] := by
  rw [take_snoc _ _ h]
  unfold dep
  rw [List.drop_append_of_le_length (by rw [List.length_take]; omega), List.foldl_append]
  rfl

def stepB (xs : List Grp) (i : Nat) : Bool := match xs[i]? with
  | some n => ctlB n && ((i == 0 || fineB (xs.take i) n) && decide (dep (xs.take (i + 1)) n.id ≤ 8))
  | none => true
def checkB (xs : List Grp) (next : Int) : Bool :=
  decide (1 ≤ xs.length) && (decide (xs.length ≤ 64) && (rootB (xs.headD default) && ((List.range xs.length).all (stepB xs) && (decide (lastId xs < next) && decide (next ≤ 2147483648)))))

theorem range_snoc {p : Nat → Bool} {k : Nat} (h : (List.range k).all p = true) (hk : p k = true) : (List.range (k + 1)).all p = true := by
  rw [List.range_succ, List.all_append, h]; simp [hk]
theorem range_at {p : Nat → Bool} {k n : Nat} (h : k < n) (hk : p k = false) : (List.range n).all p = false :=
  List.all_eq_false.2 ⟨k, List.mem_range.2 h, by simp [hk]⟩

end Gc
