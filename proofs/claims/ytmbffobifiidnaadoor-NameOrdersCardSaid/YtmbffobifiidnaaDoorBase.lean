/-
  Words and laws for memory that the seat's contracts share: slices of flat structs read as lists; a row that a call owns; an append of one element; nothing of the program stands here.
  A box in memory: a block of cells with its frozen flags.
  A box beside a write; a struct and two more results.
  A write into what a call owns.
  Worlds that only grew: small steps.
-/
import Derived.WalkKit
import Derived.WalkSpells
import Derived.WalkLawsBesides
import Derived.Lib.Hide
import Derived.Maps.AppendAt
import Derived.Deep.AppendLies
import Derived.Deep.Draws
import Derived.Deep.QuietTactic
import Derived.BigQuiet
import Derived.Shelf.Abstract
import Derived.Laws.Rows
import Derived.Laws.ResultCell
set_option linter.unusedSimpArgs false
set_option linter.unusedVariables false
namespace Gc
open Go Go.RowKit

/-! ## cells -/

/-- the cells of a list of values, from (b, o + j) on -/
def CellsFrom (w : World) (b o : Nat) : Nat → List Value → Prop
  | _, [] => True
  | j, v :: vs => w.cell? ⟨b, o + j, none⟩ = some v ∧ CellsFrom w b o (j + 1) vs

theorem CellsFrom.at_ {w : World} {b o : Nat} : ∀ {vs : List Value} {j : Nat}, CellsFrom w b o j vs → ∀ i v, vs[i]? = some v → w.cell? ⟨b, o + (j + i), none⟩ = some v
  | [], _, _, i, v, h => by simp at h
  | _ :: vs, j, hc, 0, v, h => by simp at h; subst h; exact hc.1
  | _ :: vs, j, hc, i + 1, v, h => by
    have := CellsFrom.at_ hc.2 i v (by simpa using h)
    rw [show j + (i + 1) = j + 1 + i from by omega]
    exact this

theorem CellsFrom.mk {w : World} {b o : Nat} : ∀ {vs : List Value} {j : Nat}, (∀ i v, vs[i]? = some v → w.cell? ⟨b, o + (j + i), none⟩ = some v) → CellsFrom w b o j vs
  | [], _, _ => trivial
  | v :: vs, j, h => ⟨by simpa using h 0 v rfl, CellsFrom.mk fun i u hu => by
      have := h (i + 1) u (by simpa using hu)
      rw [show j + 1 + i = j + (i + 1) from by omega]
      exact this⟩

theorem CellsFrom.keep {w w' : World} {b o : Nat} (hk : ∀ p : Addr, p.block = b → w'.cell? p = w.cell? p) : ∀ {vs : List Value} {j : Nat}, CellsFrom w b o j vs → CellsFrom w' b o j vs
  | [], _, _ => trivial
  | _ :: _, _, ⟨h1, h2⟩ => ⟨(hk _ rfl).trans h1, CellsFrom.keep hk h2⟩

/-- the block that an address lies in -/
def blk (A : Option Addr) : Option Nat := A.map (·.block)

/-- rows of k cells each, read from address A on -/
def Rd (w : World) (k : Nat) (A : Option Addr) (cs : List (List Value)) : Prop :=
  ∀ i (h : i < cs.length), ∃ b o, A = some ⟨b, o, none⟩ ∧ b < w.heap.size ∧ CellsFrom w b (o + i * k) 0 cs[i]

theorem Rd.nil (w : World) (k : Nat) (A : Option Addr) : Rd w k A [] := fun i h => absurd h (by simp)

theorem Rd.keep {w w' : World} {k : Nat} {A : Option Addr} {cs : List (List Value)} (h : Rd w k A cs) (hs : w.heap.size ≤ w'.heap.size)
    (hk : ∀ p : Addr, p.block < w.heap.size → some p.block = A.map (·.block) → w'.cell? p = w.cell? p) : Rd w' k A cs := by
  intro i hi
  obtain ⟨b, o, rfl, hlt, hc⟩ := h i hi
  exact ⟨b, o, rfl, Nat.lt_of_lt_of_le hlt hs, hc.keep fun p hp => hk p (by omega) (by simp [hp])⟩

theorem Rd.below {w w' : World} {B k : Nat} {A : Option Addr} {cs : List (List Value)} (h : Rd w k A cs) (hb : Below B w w') (hB : w.heap.size ≤ B) : Rd w' k A cs :=
  h.keep hb.size fun p hp _ => hb.cell (p := p) (by omega)

theorem Rd.drewN {w : World} {k : Nat} {A : Option Addr} {cs : List (List Value)} (h : Rd w k A cs) (n : Nat) : Rd (w.drewN n) k A cs := h.keep (Nat.le_refl _) fun _ _ _ => rfl
theorem Rd.drew {w : World} {k : Nat} {A : Option Addr} {cs : List (List Value)} (h : Rd w k A cs) : Rd w.drew k A cs := h.keep (Nat.le_refl _) fun _ _ _ => rfl

theorem Rd.alloc {w : World} {k : Nat} {A : Option Addr} {cs : List (List Value)} (h : Rd w k A cs) (o : Obj) : Rd (w.alloc o) k A cs :=
  h.keep (by simp) fun p hp _ => World.cell?_alloc_lt w o p hp

theorem Rd.setCell {w : World} {k : Nat} {A : Option Addr} {cs : List (List Value)} (h : Rd w k A cs) {q : Addr} (hq : ∀ b, blk A = some b → b ≠ q.block) (v : Value) : Rd (w.setCell q v) k A cs := by
  intro i hi
  obtain ⟨b, o, rfl, hlt, hc⟩ := h i hi
  exact ⟨b, o, rfl, by simpa [World.setCell] using hlt, hc.keep fun p hp => World.cell?_setCell_other w q p v (fun e => by subst e; exact hq _ rfl hp.symm)⟩

theorem Rd.grown {w w' : World} {k : Nat} {row : Option Nat} {A : Option Addr} {cs : List (List Value)} (h : Rd w k A cs) (hg : w.grownBy w' row) (hr : ∀ b, blk A = some b → some b ≠ row) : Rd w' k A cs := by
  intro i hi
  obtain ⟨b, o, rfl, hlt, hc⟩ := h i hi
  exact ⟨b, o, rfl, Nat.lt_of_lt_of_le hlt hg.size, hc.keep fun p hp => World.cell?_of_block (hg.block p.block (by omega) (by rw [hp]; exact hr _ rfl))⟩

theorem Rd.take {w : World} {k : Nat} {A : Option Addr} {cs : List (List Value)} (h : Rd w k A cs) (n : Nat) : Rd w k A (cs.take n) := by
  intro i hi
  have hi' : i < cs.length := by simp at hi; omega
  obtain ⟨b, o, rfl, hlt, hc⟩ := h i hi'
  exact ⟨b, o, rfl, hlt, by simpa using hc⟩

/-- the row with an index: its address, and its cells -/
theorem Rd.row {w : World} {k : Nat} {A : Option Addr} {cs : List (List Value)} (h : Rd w k A cs) {i : Nat} {c : List Value} (hi : cs[i]? = some c) : ∃ b o, A = some ⟨b, o, none⟩ ∧ b < w.heap.size ∧ CellsFrom w b (o + i * k) 0 c := by
  obtain ⟨hl, rfl⟩ := List.getElem?_eq_some_iff.1 hi
  exact h i hl

/-- the cells of a part, as one flat list from its start -/
theorem Rd.flat {w : World} {k b o : Nat} : ∀ {cs : List (List Value)} {n : Nat}, (∀ i (h : i < cs.length), CellsFrom w b (o + (n + i) * k) 0 cs[i]) → (∀ c ∈ cs, c.length = k) →
    ∀ j u, cs.flatten[j]? = some u → w.cell? ⟨b, o + n * k + j, none⟩ = some u
  | [], _, _, _, j, u, h => by simp at h
  | c :: cs, n, hc, hl, j, u, h => by
    rw [List.flatten_cons] at h
    have hck : c.length = k := hl c (by simp)
    by_cases hj : j < k
    · rw [List.getElem?_append_left (by omega)] at h
      have := (hc 0 (by simp)).at_ j u (by simpa using h)
      simpa using this
    · rw [List.getElem?_append_right (by omega)] at h
      have := Rd.flat (cs := cs) (n := n + 1) (fun i hi => by
        have := hc (i + 1) (by simpa using hi)
        rw [show n + 1 + i = n + (i + 1) from by omega]
        simpa using this) (fun c' h' => hl c' (by simp [h'])) (j - c.length) u h
      rw [← this]
      congr 2
      rw [Nat.add_mul]; omega

/-! ## a slice type's row of the table -/

/-- t is a slice type of elements e: size cells, so many bytes -/
def SliceTy (P : Program) (t e size bytes : Nat) : Prop :=
  P.underlying t = some (.slice e) ∧ 0 < size ∧ ∃ i z, P.info? e = some i ∧ i.zero = some z ∧ i.size = size ∧ i.bytes = bytes ∧ z.cells.size = size

theorem SliceTy.mk' {P : Program} {t e size bytes : Nat} {z : Value} (ht : P.underlying t = some (.slice e)) (h : (P.info? e).map (fun i => (i.zero, i.size, i.bytes)) = some (some z, size, bytes)) (hz : z.cells.size = size) (hs : 0 < size) : SliceTy P t e size bytes := by
  obtain ⟨i, h1, h2, h3, h4⟩ := info_parts h
  exact ⟨ht, hs, i, z, h1, h2, h3, h4, hz⟩

/-! ## what a call owns -/

/-- the slice value v owns the rows cs: nil, or at the head of a block from B on -/
def Own (w : World) (B : Nat) (e : TypeId) (k : Nat) (v : Value) (cs : List (List Value)) : Prop :=
  w.ownsRow B e k v cs.length cs.flatten ∧ ∀ c ∈ cs, c.length = k

theorem Own.nil (w : World) (B e k : Nat) : Own w B e k (.slice none 0 0) [] := ⟨World.ownsRow_nil _ _ _ _, by simp⟩

theorem Own.kept {w w' : World} {B e k : Nat} {v : Value} {cs : List (List Value)} {row : Option Nat} (h : Own w B e k v cs) (hg : w.grownBy w' row) (hne : v.ownBlock = none ∨ v.ownBlock ≠ row) : Own w' B e k v cs :=
  ⟨h.1.kept hg hne, h.2⟩

theorem Own.alloc {w : World} {B e k : Nat} {v : Value} {cs : List (List Value)} (h : Own w B e k v cs) (o : Obj) : Own (w.alloc o) B e k v cs := ⟨h.1.alloc o, h.2⟩
theorem Own.drew {w : World} {B e k : Nat} {v : Value} {cs : List (List Value)} (h : Own w B e k v cs) : Own w.drew B e k v cs := ⟨h.1.drew, h.2⟩
theorem Own.drewN {w : World} {B e k : Nat} {v : Value} {cs : List (List Value)} (h : Own w B e k v cs) (n : Nat) : Own (w.drewN n) B e k v cs := h

theorem Own.below {w w' : World} {B B' e k : Nat} {v : Value} {cs : List (List Value)} (h : Own w B e k v cs) (hb : Below B' w w') (hB : w.heap.size ≤ B') : Own w' B e k v cs :=
  h.kept (row := none) ⟨hb.os, hb.tape, hb.output, hb.size, fun i hi _ => hb.block i (by omega)⟩ (by cases v.ownBlock <;> simp)

theorem Own.base {w : World} {B B' e k : Nat} {v : Value} {cs : List (List Value)} (h : Own w B e k v cs) (hB : B' ≤ B) : Own w B' e k v cs := by
  refine ⟨⟨h.1.1, ?_⟩, h.2⟩
  rcases h.1.2 with h1 | ⟨g, cap, cur, h1, h2, h3⟩
  · exact .inl h1
  · exact .inr ⟨g, cap, cur, h1, Nat.le_trans hB h2, h3⟩

theorem Own.setCell_other {w : World} {B e k : Nat} {v : Value} {cs : List (List Value)} (h : Own w B e k v cs) {a : Addr} (ha : v.ownBlock ≠ some a.block) (u : Value) : Own (w.setCell a u) B e k v cs := by
  refine ⟨⟨h.1.1, ?_⟩, h.2⟩
  rcases h.1.2 with h2 | ⟨g, cap, cur, hv, hg, hh, r⟩
  · exact .inl h2
  · refine .inr ⟨g, cap, cur, hv, hg, ?_, r⟩
    rw [Below.heap_setCell _ _ _ _ (fun e => ha (by rw [hv, ← e]; rfl))]
    exact hh

/-- what is owned reads as a slice -/
theorem Own.rd {w : World} {B e k : Nat} {v : Value} {cs : List (List Value)} (h : Own w B e k v cs) : ∃ A c, v = .slice A cs.length c ∧ cs.length ≤ c ∧ c ≤ maxLen ∧ Rd w k A cs ∧ v.ownBlock = blk A ∧ (∀ b, blk A = some b → B ≤ b ∧ b < w.heap.size) := by
  obtain ⟨⟨hl, hv⟩, hk⟩ := h
  rcases hv with ⟨rfl, h0⟩ | ⟨g, cap, cur, rfl, hg, hh, hnc, hm, hsz, htake⟩
  · have : cs = [] := List.eq_nil_of_length_eq_zero h0
    subst this
    exact ⟨none, 0, rfl, Nat.le_refl _, by simp [maxLen], Rd.nil _ _ _, rfl, by simp [blk]⟩
  · have hlt := (Array.getElem?_eq_some_iff.1 hh).1
    refine ⟨_, cap, rfl, hnc, hm, fun i hi => ⟨g, 0, rfl, (Array.getElem?_eq_some_iff.1 hh).1, CellsFrom.mk fun j v hv => ?_⟩, rfl, fun b e => by simp [blk] at e; omega⟩
    rw [cell_of_row w g _ cur e (0, 0) hh]
    have hck := hk cs[i] (List.getElem_mem hi)
    have hjk : j < k := by
      have := (List.getElem?_eq_some_iff.1 hv).1
      omega
    have hflat : cs.flatten[i * k + j]? = some v := by
      have : ∀ (cs : List (List Value)) (i : Nat) (hi : i < cs.length), (∀ c ∈ cs, c.length = k) → cs[i][j]? = some v → cs.flatten[i * k + j]? = some v := by
        intro cs
        induction cs with
        | nil => intro i hi; simp at hi
        | cons c cs ih =>
          intro i hi hall hv
          have hc0 := hall c (by simp)
          rw [List.flatten_cons]
          cases i with
          | zero =>
            rw [List.getElem?_append_left (by omega)]
            simpa using hv
          | succ i =>
            have hlen : c.length ≤ (i + 1) * k + j := by rw [Nat.add_mul]; omega
            rw [List.getElem?_append_right hlen]
            have := ih i (by simpa using hi) (fun c' h' => hall c' (by simp [h'])) (by simpa using hv)
            rw [← this]
            congr 1
            rw [Nat.add_mul]; omega
      exact this cs i hi hk hv
    rw [← htake, List.getElem?_take] at hflat
    split at hflat
    · simpa using hflat
    · cases hflat

theorem Own.lt {w : World} {B e k : Nat} {v : Value} {cs : List (List Value)} (h : Own w B e k v cs) {b : Nat} (hv : v.ownBlock = some b) : B ≤ b ∧ b < w.heap.size := h.1.lt b hv

theorem below_grown {B : Nat} {w0 w w' : World} {v : Value} {e k : Nat} {cs : List (List Value)} (h : Below B w0 w) (ho : Own w B e k v cs) (hg : w.grownBy w' v.ownBlock) (hB : B ≤ w.heap.size) : Below B w0 w' :=
  h.grown hg hB fun _ hk => (ho.lt hk).1

/-- the cells of a block that has just been laid -/
theorem cells_new (w : World) (cs : List Value) (e : TypeId) : ∀ (j : Nat) (u : Value), cs[j]? = some u → (w.alloc (.cells cs.toArray e)).cell? ((⟨w.heap.size, 0, none⟩ : Addr).add j) = some u := by
  intro j u hu
  have hadd : (⟨w.heap.size, 0, none⟩ : Addr).add j = ⟨w.heap.size, j, none⟩ := by unfold Addr.add; split <;> simp_all
  rw [hadd, World.cell?_alloc_new]
  simpa using hu

/-- the cells of a box that has just been laid -/
theorem box_cells (w : World) (cs : List Value) (e : TypeId) : CellsFrom (w.alloc (.cells cs.toArray e)) w.heap.size 0 0 cs :=
  CellsFrom.mk fun i v hv => by
    rw [World.cell?_alloc_new]
    simpa using hv

section
variable {P : Program} {ops : Array Oper} {rest : List Oper} {o : Oper} {a : Act} {Q : Exit → Act → World → Prop}

/-- 'out = append(out, x)': x has just been laid in a block of its own. -/
theorem app1 {t e k bytes : Nat} (T : SliceTy P t e k bytes) {B : Nat} {w0 w : World} {cs : List (List Value)} (news : List Value) {v : Value} {g : Nat} (hgd : o.guard = none) (s x : Operand)
    (ho : o.op = .call { callee := .builtin .append, args := #[s, x], argTypes := #[t, t] })
    (hs : a.eval s = v) (hx : a.eval x = .slice (some ⟨g, 0, none⟩) 1 1) (hown : Own w B e k v cs) (hg : g = w.heap.size)
    (hl : news.length = k) (h1 : news.all Value.oneCell' = true) (h63 : cs.length ≤ 1099511627776) (hby : bytes ≤ 64) (hB : B ≤ w.heap.size) (hbel : Below B w0 w)
    (h : ∀ v' w', Own w' B e k v' (cs ++ [news]) → Below B w0 w' → (w.alloc (.cells news.toArray e)).grownBy w' v.ownBlock → (v'.ownBlock = v.ownBlock ∨ w.heap.size < w'.heap.size ∧ v'.ownBlock = some (w.heap.size + 1)) → wpList P ops Q rest (a.put o.dst v') w') :
    wpList P ops Q (o :: rest) a (w.alloc (.cells news.toArray e)) := by
  subst hg
  obtain ⟨ht, hk0, i, z, hi, hz, hsize, hbytes, hzs⟩ := T
  have hm : (cs.length + 1) * bytes ≤ (1099511627776 + 1) * 64 := Nat.mul_le_mul (by omega) hby
  refine wpList_plain hgd fun K hK => ?_
  obtain ⟨v', w', hrun, h2, h3, _, h5⟩ := run_append_own_at (P := P) (w.alloc (.cells news.toArray e)) B t o.type e i z k bytes ht hi hz hsize hbytes hzs hk0 v cs.length cs.flatten (hown.1.alloc _) ⟨w.heap.size, 0, none⟩ 1 1 news (by omega) (cells_new w news e)
    (fun u hu => List.all_eq_true.1 h1 u hu) (by unfold maxLen; omega) (by omega) (by simp; omega)
  unfold Oper.wp execOp
  simp only [ho, resolve, invoke, builtin, Sem.run_bind, Sem.run_pure, Result.andThen_ok, List.map_toArray, List.map_cons, List.map_nil, hs, hx, hrun]
  refine hK _ _ (h v' w' ⟨by simpa using h2, ?_⟩ (below_grown (hbel.alloc hB _) (hown.alloc _) h3 (by simp; omega)) h3 ?_)
  · intro c hc
    rcases List.mem_append.1 hc with hc | hc
    · exact hown.2 c hc
    · simp at hc; subst hc; exact hl
  · rcases h5 with h5 | h5
    · exact .inl h5
    · refine .inr ⟨?_, by simpa using h5⟩
      have := h3.size
      simp at this
      omega
end

/-! ## append of a slice; cuts -/

theorem SliceTy.elem {P : Program} {t e k bytes : Nat} (T : SliceTy P t e k bytes) : P.elem t = e := by
  have := T.1
  simp [Program.elem, this]

theorem SliceTy.size {P : Program} {t e k bytes : Nat} (T : SliceTy P t e k bytes) (w : World) : (Go.sizeOf e).run P w = .ok k w := by
  obtain ⟨_, _, i, z, hi, _, hs, _, _⟩ := T
  simp [Go.sizeOf, typeInfo, hi, hs]

theorem run_app_nil {P : Program} {t ty e k bytes : Nat} (T : SliceTy P t e k bytes) {B : Nat} {w : World} {v : Value} {cs : List (List Value)} (hown : Own w B e k v cs) (c : Nat) : (Builtin.append_ #[t, t] ty #[v, .slice none 0 c]).run P w = .ok v w := by
  have hsz := T.size
  obtain ⟨ht, hk0, i, z, hi, hz, hsize, hbytes, hzs⟩ := T
  rcases hown.1.2 with ⟨rfl, _⟩ | ⟨g, cap, cur, rfl, _, _, hnc, _⟩
  · simp [Builtin.append_, run_underlying ht, hsz, Builtin.lenOf, Builtin.firstCells]
  · simp [Builtin.append_, run_underlying ht, hsz, Builtin.lenOf, Builtin.firstCells, hnc, storeCells]

theorem run_app_any {P : Program} {t ty e k bytes : Nat} (T : SliceTy P t e k bytes) {B : Nat} {w : World} {v : Value} {cs ds : List (List Value)} (hown : Own w B e k v cs) {A : Option Addr} {m c : Nat} (hr : Rd w k A ds) (hm : ds.length = m)
    (hl : ∀ d ∈ ds, d.length = k) (h1 : ∀ d ∈ ds, d.all Value.oneCell' = true) (h63 : cs.length + m ≤ 2199023255552) (hby : bytes ≤ 64) (hB : B ≤ w.heap.size) :
    ∃ v' w', (Builtin.append_ #[t, t] ty #[v, .slice A m c]).run P w = .ok v' w' ∧ Own w' B e k v' (cs ++ ds) ∧ w.grownBy w' v.ownBlock ∧ (v'.ownBlock = v.ownBlock ∨ v'.ownBlock = some w.heap.size) := by
  subst hm
  rcases A with _ | ad
  · have hnil : ds = [] := by
      rcases ds with _ | ⟨d, ds⟩
      · rfl
      · obtain ⟨b, o, h, _⟩ := hr 0 (by simp)
        cases h
    subst hnil
    exact ⟨v, w, run_app_nil T hown c, by simpa using hown, World.grownBy.refl w _, .inl rfl⟩
  · have T' := T
    obtain ⟨ht, hk0, i, z, hi, hz, hsize, hbytes, hzs⟩ := T
    have hmul : (cs.length + ds.length) * bytes ≤ 2199023255552 * 64 := Nat.mul_le_mul h63 hby
    have hflen : ∀ l : List (List Value), (∀ d ∈ l, d.length = k) → l.flatten.length = l.length * k := by
      intro l
      induction l with
      | nil => intro _; simp
      | cons d l ih => intro h; rw [List.flatten_cons, List.length_append, ih (fun d' h' => h d' (by simp [h'])), h d (by simp), List.length_cons, Nat.add_mul]; omega
    have hcells : ∀ (j : Nat) (u : Value), ds.flatten[j]? = some u → w.cell? (ad.add j) = some u := by
      intro j u hu
      rcases ds with _ | ⟨d, ds⟩
      · simp at hu
      · obtain ⟨b, o, hA, hb, hc⟩ := hr 0 (by simp)
        injection hA with hA
        subst hA
        have := Rd.flat (w := w) (k := k) (b := b) (o := o) (cs := d :: ds) (n := 0) (fun i hi => by
          obtain ⟨b', o', hA', _, hc'⟩ := hr i hi
          injection hA' with hA'
          injection hA' with hb' ho'
          subst hb' ho'
          simpa using hc') hl j u hu
        have hadd : (⟨b, o, none⟩ : Addr).add j = ⟨b, o + j, none⟩ := by unfold Addr.add; split <;> simp_all
        rw [hadd]
        simpa using this
    obtain ⟨v', w', hrun, h2, h3, _, h5⟩ := run_append_own_at (P := P) w B t ty e i z k bytes ht hi hz hsize hbytes hzs hk0 v cs.length cs.flatten hown.1 ad ds.length c ds.flatten (hflen ds hl) hcells
      (fun u hu => by
        obtain ⟨d, hd, hud⟩ := List.mem_flatten.1 hu
        exact List.all_eq_true.1 (h1 d hd) u hud) (by unfold maxLen; omega) (by omega) hB
    refine ⟨v', w', hrun, ⟨by simpa using h2, fun d hd => ?_⟩, h3, h5⟩
    rcases List.mem_append.1 hd with hd | hd
    · exact hown.2 d hd
    · exact hl d hd

section
variable {P : Program} {ops : Array Oper} {rest : List Oper} {o : Oper} {a : Act} {Q : Exit → Act → World → Prop}

theorem wp_appAny {K : Act → World → Prop} {t e k bytes : Nat} (T : SliceTy P t e k bytes) {B : Nat} {w : World} {v : Value} {cs : List (List Value)} (ds : List (List Value)) (s x : Operand)
    (ho : o.op = .call { callee := .builtin .append, args := #[s, x], argTypes := #[t, t] }) (hs : a.eval s = v) {A : Option Addr} {m c : Nat} (hx : a.eval x = .slice A m c) (hown : Own w B e k v cs) (hr : Rd w k A ds) (hm : ds.length = m)
    (hl : ∀ d ∈ ds, d.length = k) (h1 : ∀ d ∈ ds, d.all Value.oneCell' = true) (h63 : cs.length + m ≤ 2199023255552) (hby : bytes ≤ 64) (hB : B ≤ w.heap.size)
    (h : ∀ v' w', Own w' B e k v' (cs ++ ds) → w.grownBy w' v.ownBlock → (v'.ownBlock = v.ownBlock ∨ v'.ownBlock = some w.heap.size) → K (a.put o.dst v') w') : o.wp P a w K Q := by
  obtain ⟨v', w', hrun, h2, h3, h4⟩ := run_app_any (ty := o.type) T hown hr hm hl h1 h63 hby hB (c := c)
  unfold Oper.wp execOp
  simp only [ho, resolve, invoke, builtin, Sem.run_bind, Sem.run_pure, Result.andThen_ok, List.map_toArray, List.map_cons, List.map_nil, hs, hx, hrun]
  exact h v' w' h2 h3 h4

theorem appAny {t e k bytes : Nat} (T : SliceTy P t e k bytes) {B : Nat} {w : World} {v : Value} {cs : List (List Value)} (ds : List (List Value)) (hgd : o.guard = none) (s x : Operand)
    (ho : o.op = .call { callee := .builtin .append, args := #[s, x], argTypes := #[t, t] }) (hs : a.eval s = v) {A : Option Addr} {m c : Nat} (hx : a.eval x = .slice A m c) (hown : Own w B e k v cs) (hr : Rd w k A ds) (hm : ds.length = m)
    (hl : ∀ d ∈ ds, d.length = k) (h1 : ∀ d ∈ ds, d.all Value.oneCell' = true) (h63 : cs.length + m ≤ 2199023255552) (hby : bytes ≤ 64) (hB : B ≤ w.heap.size)
    (h : ∀ v' w', Own w' B e k v' (cs ++ ds) → w.grownBy w' v.ownBlock → (v'.ownBlock = v.ownBlock ∨ v'.ownBlock = some w.heap.size) → wpList P ops Q rest (a.put o.dst v') w') : wpList P ops Q (o :: rest) a w :=
  wpList_plain hgd fun K hK => wp_appAny T ds s x ho hs hx hown hr hm hl h1 h63 hby hB fun v' w' h2 h3 h4 => hK _ _ (h v' w' h2 h3 h4)

theorem step_appAny {K : Act → World → Prop} {E : Prop} {t e k bytes : Nat} (T : SliceTy P t e k bytes) {B : Nat} {w : World} {v : Value} {cs : List (List Value)} (ds : List (List Value)) (hgd : o.guard = none) (s x : Operand)
    (ho : o.op = .call { callee := .builtin .append, args := #[s, x], argTypes := #[t, t] }) (hs : a.eval s = v) {A : Option Addr} {m c : Nat} (hx : a.eval x = .slice A m c) (hown : Own w B e k v cs) (hr : Rd w k A ds) (hm : ds.length = m)
    (hl : ∀ d ∈ ds, d.length = k) (h1 : ∀ d ∈ ds, d.all Value.oneCell' = true) (h63 : cs.length + m ≤ 2199023255552) (hby : bytes ≤ 64) (hB : B ≤ w.heap.size)
    (h : ∀ v' w', Own w' B e k v' (cs ++ ds) → w.grownBy w' v.ownBlock → (v'.ownBlock = v.ownBlock ∨ v'.ownBlock = some w.heap.size) → K (a.put o.dst v') w') :
    if Region.wanted o (yielded ops a.tmps) = true then Oper.wp P o a w K Q else E := by
  have hw : Region.wanted o (yielded ops a.tmps) = true := by simp [Region.wanted, hgd]
  rw [if_pos hw]
  exact wp_appAny T ds s x ho hs hx hown hr hm hl h1 h63 hby hB h
end

/-- what is left of a slice behind a cut at l: its address -/
def cutA (A : Option Addr) (l c k : Nat) : Option Addr := if c = l then A else A.map (·.add (l * k))

theorem cut_l {P : Program} {t e k bytes : Nat} (T : SliceTy P t e k bytes) (A : Option Addr) (n c l : Nat) (hl : l ≤ n) (L : Int) (hL : L = l) (kd : IntKind) (W : World) :
    (Instr.slice t (.slice A n c) (some (.int kd L)) none none).run P W = .ok (.slice (cutA A l c k) (n - l) (c - l)) W := by
  subst hL
  rw [run_slice_l W t A n c (by rw [T.elem]; exact T.1) kd l (by omega) (by omega), T.elem, T.size]
  simp [sliced, cutA]

theorem cut_h {P : Program} {t e k bytes : Nat} (T : SliceTy P t e k bytes) (A : Option Addr) (n c h : Nat) (hh : h ≤ c) (H : Int) (hH : H = h) (kd : IntKind) (W : World) :
    (Instr.slice t (.slice A n c) none (some (.int kd H)) none).run P W = .ok (.slice (cutA A 0 c k) h c) W := by
  subst hH
  rw [run_slice_h W t A n c (by rw [T.elem]; exact T.1) kd h (by omega) (by omega), T.elem, T.size]
  simp [sliced, cutA]

theorem cut_lh {P : Program} {t e k bytes : Nat} (T : SliceTy P t e k bytes) (A : Option Addr) (n c l h : Nat) (hlh : l ≤ h) (hh : h ≤ c) (L H : Int) (hL : L = l) (hH : H = h) (kd kd' : IntKind) (W : World) :
    (Instr.slice t (.slice A n c) (some (.int kd L)) (some (.int kd' H)) none).run P W = .ok (.slice (cutA A l c k) (h - l) (c - l)) W := by
  subst hL hH
  rw [run_slice_lh W t A n c (by rw [T.elem]; exact T.1) kd kd' l h (by omega) (by omega) (by omega), T.elem, T.size]
  simp [sliced, cutA]

theorem cutA_zero (A : Option Addr) (c k : Nat) : cutA A 0 c k = A := by
  unfold cutA
  split
  · rfl
  · cases A <;> simp [Addr.add]

theorem Rd.cut {w : World} {k : Nat} {A : Option Addr} {cs : List (List Value)} (h : Rd w k A cs) {l c : Nat} (hc : cs.length ≤ c) : Rd w k (cutA A l c k) (cs.drop l) := by
  intro i hi
  have hi' : l + i < cs.length := by simp at hi; omega
  obtain ⟨b, o, rfl, hlt, hcc⟩ := h (l + i) hi'
  unfold cutA
  rw [if_neg (by omega)]
  have hadd : (⟨b, o, none⟩ : Addr).add (l * k) = ⟨b, o + l * k, none⟩ := by unfold Addr.add; split <;> simp_all
  refine ⟨b, o + l * k, by simp [hadd], hlt, ?_⟩
  rw [List.getElem_drop, show o + l * k + i * k = o + (l + i) * k from by rw [Nat.add_mul]; omega]
  exact hcc

theorem cutA_block (A : Option Addr) (l c k : Nat) : blk (cutA A l c k) = blk A := by
  unfold cutA
  split
  · rfl
  · rcases A with _ | a
    · rfl
    · simp only [blk, Option.map_some, Option.some.injEq]
      unfold Addr.add
      split <;> rfl

/-- a slice's length: for a loop's measure -/
def lenOf : Value → Nat
  | .slice _ n _ => n
  | _ => 0
theorem Own.lenOf {w : World} {B e k : Nat} {v : Value} {cs : List (List Value)} (h : Own w B e k v cs) : Gc.lenOf v = cs.length := by
  obtain ⟨A, c, rfl, _⟩ := h.rd
  rfl

theorem below_step {w0 W w3 : World} (h : Below w0.heap.size w0 W) (hb : Below W.heap.size W w3) : Below w0.heap.size w0 w3 := h.trans (hb.mono h.size)
theorem own_step {w0 W w3 : World} {e k : Nat} {v : Value} {cs : List (List Value)} (h : Below w0.heap.size w0 W) (ho : Own w3 W.heap.size e k v cs) : Own w3 w0.heap.size e k v cs := ho.base h.size
theorem below_app {w0 w w' : World} {v : Value} {e k : Nat} {cs : List (List Value)} (h : Below w0.heap.size w0 w) (ho : Own w w0.heap.size e k v cs) (hg : w.grownBy w' v.ownBlock) : Below w0.heap.size w0 w' := below_grown h ho hg h.size

/-! ## a region that draws its order, whose operations read and whose calls may make memory: one walk in the text's order -/

/-- the worlds that grow out of W1, as a family of letters -/
theorem fam (W1 : World) : ∃ (ι : Type) (f : ι → World), (∃ i, W1.drew = f i) ∧ (∀ i, Below W1.heap.size W1 (f i)) ∧ ∀ W, Below W1.heap.size W1 W → ∃ i, W = f i :=
  ⟨{ W : World // Below W1.heap.size W1 W }, Subtype.val, ⟨⟨W1.drew, (Below.refl _ _).drew⟩, rfl⟩, fun i => i.2, fun W hW => ⟨⟨W, hW⟩, rfl⟩⟩

theorem wp_region_fam {P : Program} {ι : Type} (f : ι → World) {id : Nat} {Q : Exit → Act → World → Prop} {a : Act} {w : World} {l : List Oper} (hC : ∃ i, w.drew = f i) (hm : P.follows .mixedOrders = true) (hB : Region.lexB .any l.toArray = true)
    (h : wpQuiet P l.toArray (fun W => ∃ i, W = f i) (fun a' => ∀ W, (∃ i, W = f i) → Q .normal a' W) l a) : (Code.region id l.toArray true).wp P Q a w :=
  wp_region_quiet (C := fun W => ∃ i, W = f i) hm hB hC (by simpa using h)

theorem fam_call {P : Program} {ι : Type} {f : ι → World} {W1 : World} (h2 : ∀ i, Below W1.heap.size W1 (f i)) (h3 : ∀ W, Below W1.heap.size W1 W → ∃ i, W = f i) {g : FuncId} {args : Array Value} {i : ι} {v : Value}
    (h : Calls P g args (f i) fun e w' => e = .returned v ∧ Below (f i).heap.size (f i) w') : Calls P g args (f i) fun e w' => e = .returned v ∧ ∃ j, w' = f j :=
  h.mono fun _ _ ⟨he, hb⟩ => ⟨he, h3 _ ((h2 i).trans (hb.mono (h2 i).size))⟩

theorem fam_call_same {P : Program} {ι : Type} {f : ι → World} {g : FuncId} {args : Array Value} {i : ι} {v : Value}
    (h : Calls P g args (f i) fun e w' => e = .returned v ∧ f i = w') : Calls P g args (f i) fun e w' => e = .returned v ∧ ∃ j, w' = f j :=
  h.mono fun _ _ ⟨he, hb⟩ => ⟨he, i, hb.symm⟩

theorem drewN_below {B : Nat} {a w : World} (h : Below B a w) (n : Nat) : Below B a (w.drewN n) := ⟨h.os, h.tape, h.output, h.size, h.block⟩

/-! ## small things -/

theorem map_at {α β : Type} (f : α → β) {xs : List α} {i : Nat} (h : i < xs.length) : (xs.map f)[i]? = some (f xs[i]) := by simp [h]

theorem wrap_in (n : Int) (h0 : -9223372036854775808 ≤ n) (h1 : n ≤ 9223372036854775807) : IntKind.i64.wrap n = n := by
  rw [IntKind.wrap_i64]; omega
theorem wrap_pred (n : Nat) (h0 : 0 < n) (h : n ≤ 9223372036854775807) : IntKind.i64.wrap ((n : Int) - 1) = ((n - 1 : Nat) : Int) := by
  rw [wrap_in _ (by omega) (by omega)]; omega


theorem take_snoc {α : Type} (xs : List α) (k : Nat) (h : k < xs.length) : xs.take (k + 1) = xs.take k ++ [xs[k]] := List.take_succ_eq_append_getElem h

theorem ret_int {k : IntKind} {a b : Int} (h : a = b) : Ending.returned (.int k a) = .returned (.int k b) := by rw [h]

end Gc

namespace Gc
open Go Go.RowKit

def Box (w : World) (b : Nat) (cs : List Value) (T : TypeId) : Prop := w.heap[b]? = some (.cells cs.toArray T (0, 0))

theorem Box.mk (w : World) (cs : List Value) (T : TypeId) : Box (w.alloc (.cells cs.toArray T)) w.heap.size cs T := by
  show (w.heap.push _)[w.heap.size]? = _
  simp
theorem Box.lt {w : World} {b : Nat} {cs : List Value} {T : TypeId} (h : Box w b cs T) : b < w.heap.size := (Array.getElem?_eq_some_iff.1 h).1
theorem Box.below {w w' : World} {b B : Nat} {cs : List Value} {T : TypeId} (h : Box w b cs T) (hb : Below B w w') (hB : w.heap.size ≤ B) : Box w' b cs T := (hb.block b (by have := h.lt; omega)).trans h
theorem Box.alloc {w : World} {b : Nat} {cs : List Value} {T : TypeId} (h : Box w b cs T) (o : Obj) : Box (w.alloc o) b cs T := h.below ((Below.refl w.heap.size w).alloc (Nat.le_refl _) o) (Nat.le_refl _)
theorem Box.grown {w w' : World} {b : Nat} {row : Option Nat} {cs : List Value} {T : TypeId} (h : Box w b cs T) (hg : w.grownBy w' row) (hr : some b ≠ row) : Box w' b cs T := (hg.block b h.lt hr).trans h
theorem Box.drewN {w : World} {b : Nat} {cs : List Value} {T : TypeId} (h : Box w b cs T) (n : Nat) : Box (w.drewN n) b cs T := h
theorem Box.cells {w : World} {b : Nat} {cs : List Value} {T : TypeId} (h : Box w b cs T) : CellsFrom w b 0 0 cs :=
  CellsFrom.mk fun i v hv => by
    rw [cell_of_row w b _ _ T (0, 0) h]
    simpa using hv
theorem Box.fro {w : World} {b : Nat} {cs : List Value} {T : TypeId} (h : Box w b cs T) (off : Nat) : w.frozen? ⟨b, off, none⟩ = false := by
  unfold Box at h
  simp [World.frozen?, h]

/-- a write into a block at or above B keeps what lies below it -/
theorem below_set {B : Nat} {a w : World} (h : Below B a w) {p : Addr} (hp : B ≤ p.block) (v : Value) : Below B a (w.setCell p v) := h.setCell hp v

theorem Box.set {w : World} {b : Nat} {cs : List Value} {T : TypeId} (h : Box w b cs T) (i : Nat) (v : Value) : Box (w.setCell ⟨b, i, none⟩ v) b (cs.set i v) T := by
  unfold Box at *
  simp [World.setCell, Array.getElem?_modify, h]

/-- a function that returns a named struct from its box, and a second result -/
theorem results_box_tmp {P : Program} {fn : Func} {p u : Tmp} {ty : TypeId} (h : fn.results = #[.cell p ty, .tmp u]) (tmps : Array Value) (w : World) {g : Nat} {T : TypeId} {cs : List Value} (hp : tmps.getD p undef = .pointer (some ⟨g, 0, none⟩)) (hb : Box w g cs T) {d : TypeDesc}
    (hu : P.underlying ty = some d) (hd : (match d with | .struct _ | .array _ _ => true | _ => false) = true) (hi : (P.info? ty).map (·.size) = some cs.length) :
    (results fn tmps).run P w = .ok (.tuple #[.agg cs.toArray, tmps.getD u undef]) w := by
  rw [results_cell_tmp h, hp]
  have := run_loadVar_row (P := P) w g T ty cs.toArray (0, 0) d hb hu hd (by simpa using hi)
  simp [asAddr, Result.andThen, this]

theorem results_box {P : Program} {fn : Func} {p : Tmp} {ty : TypeId} (h : fn.results = #[.cell p ty]) (tmps : Array Value) (w : World) {g : Nat} {T : TypeId} {cs : List Value} (hp : tmps.getD p undef = .pointer (some ⟨g, 0, none⟩)) (hb : Box w g cs T) {d : TypeDesc}
    (hu : P.underlying ty = some d) (hd : (match d with | .struct _ | .array _ _ => true | _ => false) = true) (hi : (P.info? ty).map (·.size) = some cs.length) :
    (results fn tmps).run P w = .ok (.agg cs.toArray) w :=
  results_cell_row h tmps w g T cs.toArray (0, 0) d hp hb hu hd (by simpa using hi)

end Gc

namespace Gc
open Go Go.RowKit

theorem results_box_tmp2 {P : Program} {fn : Func} {p u u' : Tmp} {ty : TypeId} (h : fn.results = #[.cell p ty, .tmp u, .tmp u']) (tmps : Array Value) (w : World) {g : Nat} {T : TypeId} {cs : List Value} (hp : tmps.getD p undef = .pointer (some ⟨g, 0, none⟩)) (hb : Box w g cs T) {d : TypeDesc}
    (hu : P.underlying ty = some d) (hd : (match d with | .struct _ | .array _ _ => true | _ => false) = true) (hi : (P.info? ty).map (·.size) = some cs.length) :
    (results fn tmps).run P w = .ok (.tuple #[.agg cs.toArray, tmps.getD u undef, tmps.getD u' undef]) w := by
  have h1 : (results fn tmps).run P w = ((asAddr (tmps.getD p undef)).run P w).andThen fun a w₁ => ((loadVar ty a).run P w₁).andThen fun v w₂ => .ok (.tuple #[v, tmps.getD u undef, tmps.getD u' undef]) w₂ := by
    simp only [results, h]
    simp [Sem.run_bind, Result.andThen]
  rw [h1, hp]
  have := run_loadVar_row (P := P) w g T ty cs.toArray (0, 0) d hb hu hd (by simpa using hi)
  simp [asAddr, Result.andThen, this]

theorem Box.setO {w : World} {b : Nat} {cs : List Value} {T : TypeId} (h : Box w b cs T) {q : Addr} (hq : b ≠ q.block) (v : Value) : Box (w.setCell q v) b cs T := by
  unfold Box at *
  rw [Below.heap_setCell _ _ _ _ (by first | exact hq | exact hq.symm)]
  exact h
end Gc

namespace Gc
open Go Go.RowKit

theorem flatten_set (k : Nat) (u : Value) : ∀ (cs : List (List Value)) (i j : Nat) (hi : i < cs.length), (∀ c ∈ cs, c.length = k) → j < k → (cs.set i (cs[i].set j u)).flatten = cs.flatten.set (i * k + j) u
  | [], _, _, hi, _, _ => absurd hi (by simp)
  | c :: cs, 0, j, _, hk, hj => by
    have := hk c (by simp)
    simp only [List.set_cons_zero, List.getElem_cons_zero, List.flatten_cons, Nat.zero_mul, Nat.zero_add]
    rw [List.set_append_left _ _ (by omega)]
  | c :: cs, i + 1, j, hi, hk, hj => by
    have hc := hk c (by simp)
    have ih := flatten_set k u cs i j (by simpa using hi) (fun c' h' => hk c' (by simp [h'])) hj
    simp only [List.set_cons_succ, List.getElem_cons_succ, List.flatten_cons]
    rw [ih, Nat.add_mul, Nat.one_mul, List.set_append_right _ _ (by omega)]
    congr 2
    omega

theorem Own.set {w : World} {B e k : Nat} {v : Value} {cs : List (List Value)} (h : Own w B e k v cs) {g n c : Nat} (hv : v = .slice (some ⟨g, 0, none⟩) n c) {i j : Nat} (hi : i < cs.length) (hj : j < k) (u : Value) :
    Own (w.setCell ⟨g, i * k + j, none⟩ u) B e k v (cs.set i (cs[i].set j u)) := by
  obtain ⟨⟨hl, hw⟩, hk⟩ := h
  have hflen : cs.flatten.length = cs.length * k := by
    have : ∀ l : List (List Value), (∀ d ∈ l, d.length = k) → l.flatten.length = l.length * k := by
      intro l
      induction l with
      | nil => intro _; simp
      | cons d l ih => intro h; rw [List.flatten_cons, List.length_append, ih (fun d' h' => h d' (by simp [h'])), h d (by simp), List.length_cons, Nat.add_mul]; omega
    exact this cs hk
  have hij : i * k + j < cs.length * k := by
    have : (i + 1) * k ≤ cs.length * k := Nat.mul_le_mul_right k hi
    rw [Nat.add_mul] at this
    omega
  refine ⟨⟨?_, ?_⟩, ?_⟩
  · rw [flatten_set k u cs i j hi hk hj]
    simpa using hl
  · rcases hw with ⟨rfl, _⟩ | ⟨g', cap, cur, rfl, hg, hh, hnc, hm, hsz, htake⟩
    · simp at hv
    · simp only [Value.slice.injEq, Option.some.injEq, Addr.mk.injEq, and_true] at hv
      obtain ⟨rfl, rfl, rfl⟩ := hv
      refine .inr ⟨g', cap, cur.setIfInBounds (i * k + j) u, by simp, hg, ?_, by simpa using hnc, hm, by simpa using hsz, ?_⟩
      · simp [World.setCell, Array.getElem?_modify, hh]
      · rw [flatten_set k u cs i j hi hk hj, Array.toList_setIfInBounds, ← htake]
        simp only [List.length_set]
        rw [List.take_set]
  · intro d hd
    rcases List.mem_or_eq_of_mem_set hd with hd | rfl
    · exact hk d hd
    · simpa using hk cs[i] (List.getElem_mem hi)

/-- what is owned and not empty: its block -/
theorem Own.open' {w : World} {B e k : Nat} {v : Value} {cs : List (List Value)} (h : Own w B e k v cs) (hne : 0 < cs.length) : ∃ g c, v = .slice (some ⟨g, 0, none⟩) cs.length c ∧ cs.length ≤ c ∧ c ≤ maxLen ∧ B ≤ g ∧ g < w.heap.size ∧ (∀ off, w.frozen? ⟨g, off, none⟩ = false) ∧ Rd w k (some ⟨g, 0, none⟩) cs := by
  obtain ⟨A, c, rfl, h1, h2, hrd, hb, hlt⟩ := h.rd
  rcases h.1.2 with ⟨_, h0⟩ | ⟨g, cap, cur, hv, hg, hh, _⟩
  · omega
  · simp only [Value.slice.injEq] at hv
    obtain ⟨rfl, _, rfl⟩ := hv
    exact ⟨g, c, rfl, h1, h2, hg, (Array.getElem?_eq_some_iff.1 hh).1, fun off => by simp [World.frozen?, hh], hrd⟩

end Gc

namespace Gc
open Go Go.RowKit
theorem bel_alloc {a W : World} (h : Below a.heap.size a W) (o : Obj) : Below a.heap.size a (W.alloc o) := h.alloc h.size o
theorem bel_set {a W : World} (h : Below a.heap.size a W) {q : Addr} (hq : a.heap.size ≤ q.block) (x : Value) : Below a.heap.size a (W.setCell q x) :=
  ⟨h.os, h.tape, h.output, by have := h.size; simpa [World.setCell] using this, fun i hi => by rw [Below.heap_setCell _ _ _ _ (show i ≠ q.block by omega)]; exact h.block i hi⟩
theorem bel_trans {a b c : World} (h : Below a.heap.size a b) (k : Below b.heap.size b c) : Below a.heap.size a c := h.trans (k.mono h.size)
end Gc
