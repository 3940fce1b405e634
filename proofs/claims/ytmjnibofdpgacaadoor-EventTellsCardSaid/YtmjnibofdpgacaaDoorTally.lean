/-
  Tallies of events, plain: a group and six counts. No program stands here.
-/
import Derived.Test.YtmjnibofdpgacaaDoorTreeP
import Derived.Test.YtmjnibofdpgacaaDoorBase
set_option linter.unusedSimpArgs false
set_option linter.unusedVariables false
namespace Gc
open Go Go.RowKit

structure Tal where
  (g c0 c1 c2 c3 c4 c5 : Int)
  deriving Repr, DecidableEq

instance : Inhabited Tal := ⟨⟨0, 0, 0, 0, 0, 0, 0⟩⟩

def Tal.cells (x : Tal) : List Value := [.int .i64 x.g, .int .i64 x.c0, .int .i64 x.c1, .int .i64 x.c2, .int .i64 x.c3, .int .i64 x.c4, .int .i64 x.c5]
def Tal.at (x : Tal) : Nat → Int
  | 0 => x.c0
  | 1 => x.c1
  | 2 => x.c2
  | 3 => x.c3
  | 4 => x.c4
  | 5 => x.c5
  | _ => 0
def Tal.put (x : Tal) (n : Int) : Nat → Tal
  | 0 => { x with c0 := n }
  | 1 => { x with c1 := n }
  | 2 => { x with c2 := n }
  | 3 => { x with c3 := n }
  | 4 => { x with c4 := n }
  | 5 => { x with c5 := n }
  | _ => x
def cntB (n : Int) : Bool := decide (0 ≤ n) && decide (n ≤ 1099511627776)
def kindB (k : Int) : Bool := decide (0 ≤ k) && decide (k < 6)
def Tal.fineB (x : Tal) : Bool := cntB x.c0 && (cntB x.c1 && (cntB x.c2 && (cntB x.c3 && (cntB x.c4 && cntB x.c5))))
def clampE (n : Int) : Int := min (max n 0) 1099511627776
def Tal.clamp (x : Tal) : Tal := ⟨x.g, clampE x.c0, clampE x.c1, clampE x.c2, clampE x.c3, clampE x.c4, clampE x.c5⟩

theorem Tal.cells_len (l : List Tal) : ∀ d ∈ l.map Tal.cells, d.length = 7 := by intro d hd; obtain ⟨x, _, rfl⟩ := List.mem_map.1 hd; rfl
theorem Tal.cells_one (l : List Tal) : ∀ d ∈ l.map Tal.cells, d.all Value.oneCell' = true := by intro d hd; obtain ⟨x, _, rfl⟩ := List.mem_map.1 hd; rfl
theorem Tal.cells_at (x : Tal) {k : Nat} (hk : k < 6) : x.cells[k + 1]? = some (.int .i64 (x.at k)) := by
  match k, hk with
  | 0, _ | 1, _ | 2, _ | 3, _ | 4, _ | 5, _ => rfl
theorem Tal.cells_put (x : Tal) (n : Int) {k : Nat} (hk : k < 6) : (x.put n k).cells = x.cells.set (k + 1) (.int .i64 n) := by
  match k, hk with
  | 0, _ | 1, _ | 2, _ | 3, _ | 4, _ | 5, _ => rfl

/-- the tally of a group: its index -/
def tix (ls : List Tal) (id : Int) : Int := idx (fun x => x.g == id) ls

def evStep (xs : List Grp) (ls : List Tal) (i : Nat) : Bool := match ls[i]?, xs[i]? with
  | some x, some n => x.g == n.id && x.fineB
  | _, _ => true
def evB (xs : List Grp) (next : Int) (ls : List Tal) : Bool := checkB xs next && (decide (ls.length = xs.length) && (List.range ls.length).all (evStep xs ls))

/-- event.Own -/
def ownE (ls : List Tal) (id k : Int) : Int := if tix ls id < 0 then 0 else if kindB k then (ls.getD (tix ls id).toNat default).at k.toNat else 0

/-- event.Add: tallies and an error -/
def addE (xs : List Grp) (next : Int) (ls : List Tal) (id k n : Int) : List Tal × Int :=
  if evB xs next ls = false then ([], 1) else if tix ls id < 0 then ([], 4) else if (kindB k && cntB n) = false then ([], 3)
  else if 1099511627776 < (ls.getD (tix ls id).toNat default).at k.toNat + n then ([], 7)
  else (ls.set (tix ls id).toNat ((ls.getD (tix ls id).toNat default).put ((ls.getD (tix ls id).toNat default).at k.toNat + n) k.toNat), 0)

/-- event.Adjust -/
def talE (ls : List Tal) (id : Int) : Tal := if tix ls id < 0 then ⟨id, 0, 0, 0, 0, 0, 0⟩ else ls.getD (tix ls id).toNat default
def adjE (xs : List Grp) (ls : List Tal) : List Tal := xs.map fun n => (talE ls n.id).clamp

def upE (x y : Tal) : Tal := ⟨x.g, min (x.c0 + y.c0) 1099511627776, min (x.c1 + y.c1) 1099511627776, min (x.c2 + y.c2) 1099511627776, min (x.c3 + y.c3) 1099511627776, min (x.c4 + y.c4) 1099511627776, min (x.c5 + y.c5) 1099511627776⟩

/-- event.Remove: tallies and an error -/
def remE (xs : List Grp) (next : Int) (ls : List Tal) (id : Int) : List Tal × Int :=
  if evB xs next ls = false then ([], 1) else if tix ls id < 0 then ([], 4) else if id = 1 then ([], 3) else if 0 < (children xs id).length then ([], 6)
  else ((ls.set (tix ls (xs.getD (tix ls id).toNat default).parent).toNat (upE (ls.getD (tix ls (xs.getD (tix ls id).toNat default).parent).toNat default) (ls.getD (tix ls id).toNat default))).eraseIdx (tix ls id).toNat, 0)

/-- event.total -/
def totE (xs : List Grp) (ls : List Tal) (id k : Int) : Int := ((subtree xs id).map (fun g => ownE ls g k)).sum

/-- watchers: a group, a kind, the count that was seen -/
structure Wat where
  (g k s : Int)
  deriving Repr, DecidableEq

instance : Inhabited Wat := ⟨⟨0, 0, 0⟩⟩

def Wat.cells (x : Wat) : List Value := [.int .i64 x.g, .int .i64 x.k, .int .i64 x.s]
theorem Wat.cells_len (l : List Wat) : ∀ d ∈ l.map Wat.cells, d.length = 3 := by intro d hd; obtain ⟨x, _, rfl⟩ := List.mem_map.1 hd; rfl
theorem Wat.cells_one (l : List Wat) : ∀ d ∈ l.map Wat.cells, d.all Value.oneCell' = true := by intro d hd; obtain ⟨x, _, rfl⟩ := List.mem_map.1 hd; rfl

/-- does a watcher see something new -/
def newsB (xs : List Grp) (ls : List Tal) (x : Wat) : Bool := decide (0 ≤ tix ls x.g) && (kindB x.k && (totE xs ls x.g x.k != x.s))
def lookE (xs : List Grp) (ls : List Tal) (x : Wat) : Wat := if newsB xs ls x then { x with s := totE xs ls x.g x.k } else x
def toldE (xs : List Grp) (ls : List Tal) (ws : List Wat) : List Int := ((List.range ws.length).filter (fun i => newsB xs ls (ws.getD i default))).map (fun i : Nat => (i : Int))

/-- event.Poll: watchers, those that were told, and an error -/
def pollE (xs : List Grp) (next : Int) (ls : List Tal) (ws : List Wat) : List Wat × List Int × Int :=
  if evB xs next ls = false then ([], [], 1) else if 32 < ws.length then ([], [], 7) else (ws.map (lookE xs ls), toldE xs ls ws, 0)

end Gc
