/-
  Names and paths, plain: what a path's names are, how paths are ordered. No program stands here.
-/
import Derived.Lib.SplitLaws
import Derived.Test.YtmbffobifiidnaaDoorStr
set_option linter.unusedSimpArgs false
set_option linter.unusedVariables false
namespace Gc
open Go Go.RowKit

def mkB (l : List UInt8) : ByteArray := ⟨l.toArray⟩
theorem mkB_list (l : List UInt8) : (mkB l).data.toList = l := rfl
theorem ba_ext {a b : ByteArray} (h : a.data.toList = b.data.toList) : a = b := by
  obtain ⟨⟨x⟩⟩ := a
  obtain ⟨⟨y⟩⟩ := b
  simp only at h
  rw [h]
theorem ba_size0 {a : ByteArray} (h : a.size = 0) : a = ⟨#[]⟩ := by
  obtain ⟨⟨x⟩⟩ := a
  cases x with
  | nil => rfl
  | cons c x => simp [ByteArray.size] at h
theorem mkB_of (s : ByteArray) : mkB s.data.toList = s := ba_ext rfl

/-- cut at each slash -/
def splitL : List UInt8 → List (List UInt8)
  | [] => [[]]
  | c :: l => if c = 47 then [] :: splitL l else match splitL l with
    | [] => [[c]]
    | h :: t => (c :: h) :: t
/-- and put together again -/
def unsplit : List (List UInt8) → List UInt8
  | [] => []
  | [a] => a
  | a :: b :: l => a ++ 47 :: unsplit (b :: l)

theorem splitL_ne (l : List UInt8) : splitL l ≠ [] := by
  cases l with
  | nil => simp [splitL]
  | cons c l =>
    unfold splitL
    split
    · simp
    · split <;> simp

theorem unsplit_splitL : ∀ l : List UInt8, unsplit (splitL l) = l
  | [] => rfl
  | c :: l => by
    have ih := unsplit_splitL l
    have hne := splitL_ne l
    unfold splitL
    split
    · rename_i h
      subst h
      cases hs : splitL l with
      | nil => exact absurd hs hne
      | cons a t => rw [← ih, hs]; rfl
    · cases hs : splitL l with
      | nil => exact absurd hs hne
      | cons a t =>
        rw [hs] at ih
        cases t with
        | nil => simp only [unsplit] at ih ⊢; rw [ih]
        | cons b t => simp only [unsplit, List.cons_append] at ih ⊢; rw [ih]

theorem splitK_cons (c : UInt8) (h : c ≠ 47) (k : Nat) (l : List UInt8) : Lib.splitK [47] 0 k (c :: l) = match Lib.splitK [47] 0 k l with
    | [] => [[c]]
    | a :: t => (c :: a) :: t := by
  cases k with
  | zero => rfl
  | succ k =>
    have hge := Lib.index_ge l [47]
    have e : Lib.index (c :: l) [47] = if Lib.index l [47] == -1 then -1 else Lib.index l [47] + 1 := by
      rw [Lib.index]
      have : ([47] : List UInt8).isPrefixOf (c :: l) = false := by simp [List.isPrefixOf]; exact fun h' => h h'.symm
      rw [this]
      rfl
    unfold Lib.splitK
    rw [e]
    by_cases hm : Lib.index l [47] = -1
    · rw [hm]
      rfl
    · have hm' : (Lib.index l [47] == -1) = false := by simpa using hm
      rw [hm']
      obtain ⟨i, hi⟩ := Int.eq_ofNat_of_zero_le (show 0 ≤ Lib.index l [47] by omega)
      rw [hi]
      have e2 : ((i : Int) + 1 == -1) = false := by simp; omega
      simp only [Bool.false_eq_true, if_false, e2]
      rw [show ((i : Int) + 1).toNat = i + 1 by omega, show ((i : Int)).toNat = i from rfl]
      simp only [Nat.add_zero, List.length_singleton, List.take_succ_cons, List.drop_succ_cons]

theorem splitK_all : ∀ l : List UInt8, Lib.splitK [47] 0 (l.count 47) l = splitL l
  | [] => rfl
  | c :: l => by
    have ih := splitK_all l
    unfold splitL
    by_cases h : c = 47
    · subst h
      rw [if_pos rfl, List.count_cons_self]
      unfold Lib.splitK
      have hix : Lib.index ((47 : UInt8) :: l) [47] = 0 := by rw [Lib.index]; simp [List.isPrefixOf]
      rw [hix]
      simp only [show ((0 : Int) == -1) = false from rfl, Bool.false_eq_true, if_false, Int.toNat_zero, Nat.zero_add, List.take_zero, List.length_singleton, List.drop_succ_cons, List.drop_zero]
      rw [ih]
    · rw [if_neg h, List.count_cons_of_ne (by simpa using h), splitK_cons c h, ih]

theorem splitB_all' (s : ByteArray) : Lib.splitB ⟨#[47]⟩ 0 (Lib.countB s ⟨#[47]⟩) s = (splitL s.data.toList).map mkB := by
  have h1 := Lib.splitB_data ⟨#[47]⟩ 0 (Lib.countB s ⟨#[47]⟩) s
  have h2 : Lib.countB s ⟨#[47]⟩ = s.data.toList.count 47 := Lib.count_one 47 s.data.toList
  rw [h2] at h1 ⊢
  have h3 := splitK_all s.data.toList
  rw [show (⟨#[47]⟩ : ByteArray).data.toList = [47] from rfl, h3] at h1
  rw [← h1, List.map_map]
  have : (mkB ∘ fun x : ByteArray => x.data.toList) = id := funext fun x => mkB_of x
  rw [this, List.map_id]

/-! ## the names of a path -/
def piecesS (s : ByteArray) : List ByteArray := (splitL s.data.toList).map mkB
/-- what is wrong with names -/
def checkN (p : List ByteArray) : Int := if p.all validB = false then 2 else if 8 < p.length then 7 else 0
/-- begins with a slash -/
def slashB (s : ByteArray) : Bool := s.data.toList.head? == some 47
def restS (s : ByteArray) : ByteArray := mkB s.data.toList.tail
/-- name.Split: names, and an error -/
def splitP (s : ByteArray) : List ByteArray × Int :=
  if slashB s = false then ([], 2) else if (restS s).size = 0 then ([], 0) else if checkN (piecesS (restS s)) = 0 then (piecesS (restS s), 0) else ([], checkN (piecesS (restS s)))
def okS (s : ByteArray) : Bool := (splitP s).2 == 0

theorem pieces_inj {a b : ByteArray} (h : piecesS a = piecesS b) : a = b := by
  have : ∀ x : ByteArray, unsplit ((piecesS x).map (fun y => y.data.toList)) = x.data.toList := fun x => by
    unfold piecesS
    rw [List.map_map, show ((fun y : ByteArray => y.data.toList) ∘ mkB) = id from rfl, List.map_id, unsplit_splitL]
  apply ba_ext
  rw [← this a, ← this b, h]

theorem split_ok {s : ByteArray} (h : (splitP s).2 = 0) : slashB s = true ∧ ((restS s).size = 0 ∧ (splitP s).1 = [] ∨ (restS s).size ≠ 0 ∧ (splitP s).1 = piecesS (restS s)) := by
  unfold splitP at *
  cases hs : slashB s with
  | false => rw [hs, if_pos rfl] at h; cases h
  | true =>
    rw [hs, if_neg (by simp)] at h
    rw [if_neg (by simp)]
    refine ⟨rfl, ?_⟩
    by_cases h0 : (restS s).size = 0
    · rw [if_pos h0]; exact .inl ⟨h0, rfl⟩
    · rw [if_neg h0] at h ⊢
      split at h
      · rename_i hc
        rw [if_pos hc]
        exact .inr ⟨h0, rfl⟩
      · rename_i hc
        exact absurd h hc

theorem slash_eq {s : ByteArray} (h : slashB s = true) : s.data.toList = 47 :: s.data.toList.tail := by
  unfold slashB at h
  cases hl : s.data.toList with
  | nil => rw [hl] at h; cases h
  | cons c l =>
    rw [hl] at h
    have : c = 47 := by simpa using h
    rw [this]
    rfl

theorem names_inj {a b : ByteArray} (ha : (splitP a).2 = 0) (hb : (splitP b).2 = 0) (h : (splitP a).1 = (splitP b).1) : a = b := by
  obtain ⟨sa, ca⟩ := split_ok ha
  obtain ⟨sb, cb⟩ := split_ok hb
  have hp : ∀ x, piecesS x ≠ [] := fun x e => splitL_ne x.data.toList (by unfold piecesS at e; simpa using e)
  have hr : restS a = restS b := by
    rcases ca with ⟨c1, c2⟩ | ⟨c1, c2⟩ <;> rcases cb with ⟨d1, d2⟩ | ⟨d1, d2⟩ <;> rw [c2, d2] at h
    · exact (ba_size0 c1).trans (ba_size0 d1).symm
    · exact absurd h.symm (hp _)
    · exact absurd h (hp _)
    · exact pieces_inj h
  apply ba_ext
  rw [slash_eq sa, slash_eq sb]
  have := congrArg (fun x : ByteArray => x.data.toList) hr
  simpa [restS, mkB] using this

/-! ## orders -/
structure LinC {α : Type} (c : α → α → Int) : Prop where
  anti : ∀ x y, c y x = - c x y
  zero : ∀ x y, c x y = 0 ↔ x = y
  val : ∀ x y, c x y = -1 ∨ c x y = 0 ∨ c x y = 1
  trans : ∀ x y z, c x y ≤ 0 → c y z ≤ 0 → c x z ≤ 0

theorem LinC.lt_le {α : Type} {c : α → α → Int} (h : LinC c) {x y z : α} (h1 : c x y < 0) (h2 : c y z ≤ 0) : c x z < 0 := by
  have h3 := h.trans x y z (by omega) h2
  rcases Int.lt_or_eq_of_le h3 with h4 | h4
  · exact h4
  · have e := (h.zero x z).1 h4
    subst e
    have := h.anti x y
    omega
theorem LinC.le_lt {α : Type} {c : α → α → Int} (h : LinC c) {x y z : α} (h1 : c x y ≤ 0) (h2 : c y z < 0) : c x z < 0 := by
  have h3 := h.trans x y z h1 (by omega)
  rcases Int.lt_or_eq_of_le h3 with h4 | h4
  · exact h4
  · have e := (h.zero x z).1 h4
    subst e
    have := h.anti x y
    omega

def lexC {α : Type} (c : α → α → Int) : List α → List α → Int
  | [], [] => 0
  | [], _ :: _ => -1
  | _ :: _, [] => 1
  | a :: x, b :: y => if c a b = 0 then lexC c x y else c a b

theorem LinC.lex {α : Type} {c : α → α → Int} (h : LinC c) : LinC (lexC c) where
  anti := by
    intro x
    induction x with
    | nil => intro y; cases y <;> simp [lexC]
    | cons a x ih =>
      intro y
      cases y with
      | nil => simp [lexC]
      | cons b y =>
        unfold lexC
        have h1 := h.anti a b
        by_cases e : c a b = 0
        · rw [if_pos e, if_pos (by omega), ih]
        · rw [if_neg e, if_neg (by omega), h1]
  zero := by
    intro x
    induction x with
    | nil => intro y; cases y <;> simp [lexC]
    | cons a x ih =>
      intro y
      cases y with
      | nil => simp [lexC]
      | cons b y =>
        unfold lexC
        by_cases e : c a b = 0
        · rw [if_pos e, ih, (h.zero a b).1 e]
          simp
        · rw [if_neg e]
          constructor
          · intro e2; exact absurd e2 e
          · intro e2
            injection e2 with e2 e3
            exact absurd ((h.zero a b).2 e2) e
  val := by
    intro x
    induction x with
    | nil => intro y; cases y <;> simp [lexC]
    | cons a x ih =>
      intro y
      cases y with
      | nil => simp [lexC]
      | cons b y =>
        unfold lexC
        split
        · exact ih y
        · exact h.val a b
  trans := by
    intro x
    induction x with
    | nil => intro y z; cases y <;> cases z <;> simp [lexC]
    | cons a x ih =>
      intro y z
      cases y with
      | nil => simp [lexC]
      | cons b y =>
        cases z with
        | nil => simp [lexC]
        | cons d z =>
          unfold lexC
          intro h1 h2
          by_cases e1 : c a b = 0
          · rw [if_pos e1] at h1
            have ee := (h.zero a b).1 e1
            subst ee
            by_cases e2 : c a d = 0
            · rw [if_pos e2] at h2 ⊢
              exact ih y z h1 h2
            · rw [if_neg e2] at h2 ⊢
              exact h2
          · rw [if_neg e1] at h1
            by_cases e2 : c b d = 0
            · have ee := (h.zero b d).1 e2
              subst ee
              rw [if_neg e1]
              exact h1
            · rw [if_neg e2] at h2
              have h3 := h.lt_le (x := a) (y := b) (z := d) (by omega) h2
              rw [if_neg (by omega)]
              omega

def cmp8 (a b : UInt8) : Int := if a < b then -1 else if b < a then 1 else 0
theorem lin8 : LinC cmp8 where
  anti := by intro x y; unfold cmp8; simp only [UInt8.lt_iff_toNat_lt]; (repeat' split) <;> omega
  zero := by
    intro x y; unfold cmp8; simp only [UInt8.lt_iff_toNat_lt, ← UInt8.toNat_inj]; (repeat' split) <;> omega
  val := by intro x y; unfold cmp8; (repeat' split) <;> simp
  trans := by intro x y z; unfold cmp8; simp only [UInt8.lt_iff_toNat_lt]; (repeat' split) <;> omega

theorem compareBytes_lex : ∀ a b, Lib.compareBytes a b = lexC cmp8 a b
  | [], [] => rfl
  | [], _ :: _ => rfl
  | _ :: _, [] => rfl
  | a :: x, b :: y => by
    have ih := compareBytes_lex x y
    show (if a < b then -1 else if b < a then 1 else Lib.compareBytes x y) = (if cmp8 a b = 0 then lexC cmp8 x y else cmp8 a b)
    by_cases h1 : a < b
    · rw [if_pos h1, show cmp8 a b = -1 by simp [cmp8, h1]]; rfl
    · by_cases h2 : b < a
      · rw [if_neg h1, if_pos h2, show cmp8 a b = 1 by simp [cmp8, h1, h2]]; rfl
      · rw [if_neg h1, if_neg h2, ih, show cmp8 a b = 0 by simp [cmp8, h1, h2], if_pos rfl]

/-- strings, byte by byte -/
def strC (a b : ByteArray) : Int := lexC cmp8 a.data.toList b.data.toList
theorem linS : LinC strC where
  anti x y := lin8.lex.anti _ _
  zero x y := (lin8.lex.zero _ _).trans ⟨fun h => ba_ext h, fun h => by rw [h]⟩
  val x y := lin8.lex.val _ _
  trans x y z := lin8.lex.trans _ _ _

/-- name.Compare -/
def cmpS (a b : ByteArray) : Int :=
  if okS a = true then (if okS b = true then lexC strC (splitP a).1 (splitP b).1 else -1) else if okS b = true then 1 else strC a b

theorem linN : LinC cmpS where
  anti x y := by
    unfold cmpS
    cases okS x <;> cases okS y <;> simp [linS.anti x y, linS.lex.anti (splitP x).1 (splitP y).1]
  zero x y := by
    unfold cmpS
    cases hx : okS x <;> cases hy : okS y <;> simp
    · exact linS.zero x y
    · intro e; subst e; rw [hx] at hy; cases hy
    · intro e; subst e; rw [hx] at hy; cases hy
    · rw [linS.lex.zero]
      exact ⟨fun h => names_inj (by simpa [okS] using hx) (by simpa [okS] using hy) h, fun h => by rw [h]⟩
  val x y := by
    unfold cmpS
    cases okS x <;> cases okS y <;> simp
    · exact linS.val x y
    · exact linS.lex.val _ _
  trans x y z := by
    unfold cmpS
    cases okS x <;> cases okS y <;> cases okS z <;> simp
    · exact linS.trans x y z
    · exact linS.lex.trans _ _ _

/-- how many names at the beginnings are equal -/
def alikeN : List ByteArray → List ByteArray → Nat
  | a :: x, b :: y => if a = b then alikeN x y + 1 else 0
  | _, _ => 0
/-- name.Under -/
def underS (a b : ByteArray) : Bool := okS a && (okS b && decide (alikeN (splitP a).1 (splitP b).1 = (splitP a).1.length))

theorem alike_le : ∀ x y, alikeN x y ≤ x.length ∧ alikeN x y ≤ y.length
  | [], _ => by simp [alikeN]
  | _ :: _, [] => by simp [alikeN]
  | a :: x, b :: y => by
    have := alike_le x y
    unfold alikeN
    split <;> simp <;> omega

theorem alike_pre : ∀ x y, alikeN x y = x.length → ∃ t, y = x ++ t
  | [], y, _ => ⟨y, rfl⟩
  | _ :: _, [], h => by simp [alikeN] at h
  | a :: x, b :: y, h => by
    unfold alikeN at h
    split at h
    · rename_i e
      subst e
      obtain ⟨t, rfl⟩ := alike_pre x y (by simpa using h)
      exact ⟨t, rfl⟩
    · simp at h
theorem alike_app : ∀ x t, alikeN x (x ++ t) = x.length
  | [], t => by cases t <;> rfl
  | a :: x, t => by
    have := alike_app x t
    simp only [List.cons_append, alikeN, if_pos, this, List.length_cons]

theorem lex_pre : ∀ x t : List ByteArray, t ≠ [] → lexC strC x (x ++ t) = -1
  | [], [], h => absurd rfl h
  | [], _ :: _, _ => rfl
  | a :: x, t, h => by
    have e := (linS.zero a a).2 rfl
    rw [List.cons_append]
    unfold lexC
    rw [if_pos e]
    exact lex_pre x t h

/-- x < z and z does not begin with x: whatever begins with x is below z -/
theorem lex_under : ∀ x t z : List ByteArray, lexC strC x z < 0 → alikeN x z ≠ x.length → lexC strC (x ++ t) z < 0
  | [], t, z, _, h => by cases z <;> simp [alikeN] at h
  | a :: x, t, [], h, _ => by simp [lexC] at h
  | a :: x, t, b :: z, h, h2 => by
    rw [List.cons_append]
    unfold lexC at h ⊢
    by_cases e : strC a b = 0
    · rw [if_pos e] at h ⊢
      have ee := (linS.zero a b).1 e
      subst ee
      refine lex_under x t z h (fun e2 => h2 ?_)
      simp only [alikeN, if_pos, e2, List.length_cons]
    · rw [if_neg e] at h ⊢
      exact h

theorem under_lt {a b : ByteArray} (h : underS a b = true) (hne : a ≠ b) : cmpS a b = -1 := by
  simp only [underS, Bool.and_eq_true, decide_eq_true_eq] at h
  obtain ⟨h1, h2, h3⟩ := h
  unfold cmpS
  rw [if_pos h1, if_pos h2]
  obtain ⟨t, ht⟩ := alike_pre _ _ h3
  rw [ht]
  refine lex_pre _ t (fun e => hne ?_)
  subst e
  rw [List.append_nil] at ht
  exact names_inj (by simpa [okS] using h1) (by simpa [okS] using h2) ht.symm

theorem under_below {a b c : ByteArray} (h : underS a b = true) (h2 : underS a c = false) (h3 : cmpS a c < 0) : cmpS b c < 0 := by
  simp only [underS, Bool.and_eq_true, decide_eq_true_eq] at h
  obtain ⟨ha, hb, hab⟩ := h
  unfold cmpS at *
  rw [if_pos ha] at h3
  rw [if_pos hb]
  by_cases hc : okS c = true
  · rw [if_pos hc] at h3 ⊢
    obtain ⟨t, ht⟩ := alike_pre _ _ hab
    rw [ht]
    refine lex_under _ t _ h3 (fun e => ?_)
    simp only [underS, ha, hc, e, decide_true, Bool.and_true] at h2
    cases h2
  · rw [if_neg hc]
    decide
end Gc
