/-
  Four ints in a row (tasks, residents, holdings), plain: no program stands here.
-/
import Derived.Test.YtmjnibofdpgacaaDoorTreeP
set_option linter.unusedSimpArgs false
set_option linter.unusedVariables false
namespace Gc
open Go Go.RowKit

structure Q4 where
  (a b c d : Int)
  deriving Repr, DecidableEq

instance : Inhabited Q4 := ⟨⟨0, 0, 0, 0⟩⟩

def Q4.cells (x : Q4) : List Value := [.int .i64 x.a, .int .i64 x.b, .int .i64 x.c, .int .i64 x.d]
def Q4.ok (x : Q4) : Prop := I64 x.a ∧ I64 x.b ∧ I64 x.c ∧ I64 x.d

/-! ## tasks: a ID, b process, c group, d user -/

/-- the task with an ID: zeros and false if there is none -/
def taskAt (ts : List Q4) (id : Int) : Q4 × Bool := match ts.find? (fun t => t.a == id) with
  | some t => (t, true)
  | none => (⟨0, 0, 0, 0⟩, false)

theorem find_idx {α : Type} (p : α → Bool) (xs : List α) : (∃ k x, idx p xs = (k : Nat) ∧ k < xs.length ∧ xs[k]? = some x ∧ xs.find? p = some x ∧ p x = true) ∨ (idx p xs = -1 ∧ xs.find? p = none) := by
  unfold idx
  cases hf : xs.findIdx? p with
  | none =>
    right
    refine ⟨rfl, ?_⟩
    rw [List.findIdx?_eq_none_iff] at hf
    exact List.find?_eq_none.2 fun x hx => by simp [hf x hx]
  | some k =>
    left
    have h1 := List.findIdx?_eq_some_iff_findIdx_eq.1 hf
    obtain ⟨hk, he⟩ := h1
    refine ⟨k, xs[k], rfl, hk, List.getElem?_eq_getElem hk, ?_, ?_⟩
    · rw [List.find?_eq_getElem?_findIdx, he, List.getElem?_eq_getElem hk]
    · subst he
      exact List.findIdx_getElem (w := hk)

/-- the node with an ID: zeros and false if there is none -/
def nodeAt (xs : List Grp) (id : Int) : Grp × Bool := match xs.find? (fun n => n.id == id) with
  | some n => (n, true)
  | none => (⟨0, 0, ByteArray.empty, 0, 0, 0⟩, false)

theorem find_any {α : Type} (p : α → Bool) : ∀ xs : List α, (xs.find? p).isSome = xs.any p
  | [] => rfl
  | x :: xs => by
    rw [List.find?_cons, List.any_cons, ← find_any p xs]
    cases p x <;> rfl

def hasB (xs : List Grp) (id : Int) : Bool := xs.any fun n => n.id == id

theorem nodeAt_hasB (xs : List Grp) (id : Int) : (nodeAt xs id).2 = hasB xs id := by
  unfold nodeAt hasB
  rw [← find_any]
  cases xs.find? (fun n => n.id == id) <;> rfl

theorem idx_hasB (xs : List Grp) (id : Int) : decide (0 ≤ idx (fun n => n.id == id) xs) = hasB xs id := by
  unfold hasB
  rcases find_idx (fun n : Grp => n.id == id) xs with ⟨k, x, h1, _, _, h2, _⟩ | ⟨h1, h2⟩
  · rw [h1, ← find_any, h2]
    exact decide_eq_true (by omega)
  · rw [h1, ← find_any, h2]
    rfl

/-- whether a task is as it must be -/
def fineT (xs : List Grp) (ts : List Q4) (t : Q4) : Bool :=
  decide (0 ≤ t.d) && (decide (t.d ≤ 1048576) && ((taskAt ts t.b).2 && ((taskAt ts t.b).1.b == (taskAt ts t.b).1.a && ((taskAt ts t.b).1.d == t.d && hasB xs t.c))))

def lastT (ts : List Q4) : Int := match ts.getLast? with | some t => t.a | none => 0
def tstep (xs : List Grp) (ts : List Q4) (i : Nat) : Bool := match ts[i]? with
  | some t => decide (lastT (ts.take i) < t.a) && fineT xs ts t
  | none => true
def hierB (xs : List Grp) (next : Int) (ts : List Q4) (hn : Int) : Bool :=
  decide (ts.length ≤ 128) && (decide (hn ≤ 2147483648) && (checkB xs next && ((List.range ts.length).all (tstep xs ts) && decide (lastT ts < hn))))

theorem lastT_snoc (ts : List Q4) (k : Nat) (h : k < ts.length) : lastT (ts.take (k + 1)) = ts[k].a := by
  unfold lastT
  rw [take_snoc _ _ h, List.getLast?_append]
  rfl

def leaderB (ts : List Q4) (p : Int) : Bool := (taskAt ts p).2 && (taskAt ts p).1.b == (taskAt ts p).1.a

/-! ## residents: a process, b group, c anon, d swap -/

def ordR (x y : Q4) : Int := if x.a < y.a then -1 else if y.a < x.a then 1 else if x.b < y.b then -1 else if y.b < x.b then 1 else 0

def leftR (ls : List Q4) : Int := 33554432 - (ls.map (fun x => x.c + x.d)).sum
def rstep (xs : List Grp) (ts ls : List Q4) (i : Nat) : Bool := match ls[i]? with
  | some x => leaderB ts x.a && (hasB xs x.b && ((i == 0 || decide (ordR (ls.getD (i - 1) default) x < 0)) && (decide (0 ≤ x.c) && (decide (0 ≤ x.d) && (decide (x.c ≤ leftR (ls.take i)) && (decide (x.d ≤ leftR (ls.take i) - x.c) && !(x.c + x.d == 0)))))))
  | none => true
def resB (xs : List Grp) (next : Int) (ts : List Q4) (hn : Int) (ls : List Q4) : Bool := hierB xs next ts hn && (List.range ls.length).all (rstep xs ts ls)

theorem leftR_snoc (ls : List Q4) (k : Nat) (h : k < ls.length) : leftR (ls.take (k + 1)) = leftR (ls.take k) - (ls[k].c + ls[k].d) := by
  unfold leftR
  rw [take_snoc _ _ h, List.map_append, List.sum_append]
  simp; omega

/-- pages of a process (p := a) or of a group (p := b) -/
def sumC (p : Q4 → Bool) (ls : List Q4) : Int := ((ls.filter p).map (·.c)).sum
def sumD (p : Q4 → Bool) (ls : List Q4) : Int := ((ls.filter p).map (·.d)).sum

theorem sum_hit (p : Q4 → Bool) (ls : List Q4) (k : Nat) (h : k < ls.length) (e : p ls[k] = true) : sumC p (ls.take (k + 1)) = sumC p (ls.take k) + ls[k].c ∧ sumD p (ls.take (k + 1)) = sumD p (ls.take k) + ls[k].d := by
  unfold sumC sumD
  rw [take_snoc _ _ h, List.filter_append]
  simp [e]
theorem sum_miss (p : Q4 → Bool) (ls : List Q4) (k : Nat) (h : k < ls.length) (e : p ls[k] = false) : sumC p (ls.take (k + 1)) = sumC p (ls.take k) ∧ sumD p (ls.take (k + 1)) = sumD p (ls.take k) := by
  unfold sumC sumD
  rw [take_snoc _ _ h, List.filter_append]
  simp [e]

end Gc
