/-
  What a call owns, when a part of its cells is written over: for slices.Delete.
-/
import Derived.Test.YtmjnibofdpgacaaDoorBase
import Derived.Deep.RegionLaw
import Derived.Lib.SliceRun
set_option linter.unusedSimpArgs false
set_option linter.unusedVariables false
namespace Gc
open Go Go.RowKit

def setMany : List Value → Nat → List Value → List Value
  | cs, _, [] => cs
  | cs, o, v :: r => setMany (cs.set o v) (o + 1) r

theorem setMany_mid : ∀ (vs P Q : List Value), vs.length ≤ Q.length → setMany (P ++ Q) P.length vs = P ++ vs ++ Q.drop vs.length
  | [], P, Q, _ => by simp [setMany]
  | v :: r, P, [], h => by simp at h
  | v :: r, P, q :: Q, h => by
    have ih := setMany_mid r (P ++ [v]) Q (by simpa using h)
    simp only [setMany]
    rw [List.set_append_right _ _ (Nat.le_refl _), Nat.sub_self, List.set_cons_zero]
    rw [List.append_assoc, List.singleton_append, List.length_append, List.length_singleton] at ih
    rw [ih]
    simp

theorem Box.setCells {b : Nat} {T : TypeId} : ∀ (vs : List Value) {w : World} {cs : List Value} (o : Nat), Box w b cs T → Box (w.setCells b o vs) b (setMany cs o vs) T
  | [], _, _, _, h => h
  | v :: r, w, cs, o, h => Box.setCells r (o + 1) (h.set o v)

theorem below_setMany {B b : Nat} (hb : B ≤ b) {a : World} : ∀ (vs : List Value) (o : Nat) {w : World}, Below B a w → Below B a (w.setCells b o vs)
  | [], _, _, h => h
  | v :: r, o, w, h => below_setMany hb r (o + 1) (h.setCell hb v)

theorem flat_len {k : Nat} : ∀ (l : List (List Value)), (∀ d ∈ l, d.length = k) → l.flatten.length = l.length * k
  | [], _ => by simp
  | d :: l, h => by rw [List.flatten_cons, List.length_append, flat_len l (fun d' h' => h d' (by simp [h'])), h d (by simp), List.length_cons, Nat.add_mul]; omega

/-- what is owned, as a box: its cells, and what lies behind them -/
theorem Own.box {w : World} {B e k : Nat} {g n c : Nat} {cs : List (List Value)} (h : Own w B e k (.slice (some ⟨g, 0, none⟩) n c) cs) :
    n = cs.length ∧ cs.length ≤ c ∧ c ≤ maxLen ∧ B ≤ g ∧ ∃ rest, Box w g (cs.flatten ++ rest) e ∧ (cs.flatten ++ rest).length = c * k := by
  obtain ⟨⟨hl, hw⟩, hk⟩ := h
  rcases hw with ⟨e1, _⟩ | ⟨g', cap, cur, e1, hg, hh, hnc, hm, hsz, htake⟩
  · simp at e1
  · simp only [Value.slice.injEq, Option.some.injEq, Addr.mk.injEq, and_true] at e1
    obtain ⟨rfl, rfl, rfl⟩ := e1
    refine ⟨rfl, hnc, hm, hg, cur.toList.drop (cs.length * k), ?_, ?_⟩
    · rw [← htake, List.take_append_drop]
      exact hh
    · rw [← htake, List.take_append_drop]
      simpa using hsz

theorem Own.ofBox {w : World} {B e k : Nat} {g c : Nat} {cs : List (List Value)} {rest : List Value} (hb : Box w g (cs.flatten ++ rest) e) (hk : ∀ d ∈ cs, d.length = k) (hl : (cs.flatten ++ rest).length = c * k) (hc : cs.length ≤ c) (hm : c ≤ maxLen) (hB : B ≤ g) :
    Own w B e k (.slice (some ⟨g, 0, none⟩) cs.length c) cs := by
  have hf := flat_len cs hk
  refine ⟨⟨hf, .inr ⟨g, c, (cs.flatten ++ rest).toArray, rfl, hB, hb, hc, hm, by simpa using hl, ?_⟩⟩, hk⟩
  rw [← hf]
  simp

theorem Rd.flatAt {w : World} {k : Nat} {ad : Addr} {ds : List (List Value)} (hr : Rd w k (some ad) ds) (hl : ∀ d ∈ ds, d.length = k) : ∀ (j : Nat) (u : Value), ds.flatten[j]? = some u → w.cell? (ad.add j) = some u := by
  intro j u hu
  rcases ds with _ | ⟨d, ds⟩
  · simp at hu
  · obtain ⟨b, o, hA, hb, hc⟩ := hr 0 (by simp)
    injection hA with hA
    subst hA
    have := Rd.flat (w := w) (k := k) (b := b) (o := o) (cs := d :: ds) (n := 0) (fun i hi => by
      obtain ⟨b', o', hA', _, hc'⟩ := hr i hi
      injection hA' with hA'
      injection hA' with hb' ho'
      subst hb' ho'
      simpa using hc') hl j u hu
    have hadd : (⟨b, o, none⟩ : Addr).add j = ⟨b, o + j, none⟩ := by unfold Addr.add; split <;> simp_all
    rw [hadd]
    simpa using this

/-- 'clear(s)', s one struct -/
theorem run_clear_one {P : Program} (w : World) (t e ty : TypeId) (z : Value) (zs : List Value) (ht : P.underlying t = some (.slice e)) (hv : ∀ w, (zeroValue e).run P w = .ok z w) (hz : (Builtin.zeroCells z.cells 1).toList = zs) (h1 : ∀ u ∈ zs, u.oneCell' = true) (b o c : Nat)
    (hc : ∀ j, j < zs.length → (w.cell? ⟨b, o + j, none⟩).isSome = true) (hf : ∀ j, j < zs.length → w.frozen? ⟨b, o + j, none⟩ = false) :
    (Builtin.clear_ #[t] ty #[.slice (some ⟨b, o, none⟩) 1 c]).run P w = .ok (.tuple #[]) (w.setCells b o zs) := by
  have hst := run_storeCells_cells (P := P) b o zs 0 w (by simpa using hc) (by simpa using hf) h1
  simp only [Nat.add_zero] at hst
  simp [Builtin.clear_, run_underlying ht, hv, hz, hst]

theorem cut_flat {k : Nat} (cs : List (List Value)) (i : Nat) (h : i < cs.length) : cs.flatten = (cs.take i).flatten ++ (cs[i] ++ (cs.drop (i + 1)).flatten) := by
  rw [← List.flatten_cons, ← List.drop_eq_getElem_cons h, ← List.flatten_append, List.take_append_drop]

/-- the box when row i has been dropped: the rows behind it moved to the left, the last row zeroed -/
theorem Own.del {w : World} {B e k : Nat} {g n c : Nat} {cs : List (List Value)} (h : Own w B e k (.slice (some ⟨g, 0, none⟩) n c) cs) {i : Nat} (hi : i < cs.length) (zs : List Value) (hz : zs.length = k) :
    Own ((w.setCells g (i * k) (cs.drop (i + 1)).flatten).setCells g ((cs.length - 1) * k) zs) B e k (.slice (some ⟨g, 0, none⟩) (cs.length - 1) c) (cs.eraseIdx i) := by
  obtain ⟨rfl, hnc, hm, hBg, rest, hbox, hlen⟩ := h.box
  have hk := h.2
  have ht : ∀ d ∈ cs.take i, d.length = k := fun d hd => hk d (List.mem_of_mem_take hd)
  have hd : ∀ d ∈ cs.drop (i + 1), d.length = k := fun d hd => hk d (List.mem_of_mem_drop hd)
  have l1 := flat_len _ ht
  have l2 := flat_len _ hd
  have l3 := hk _ (List.getElem_mem hi)
  have e1 := cut_flat (k := k) cs i hi
  have hcs := flat_len cs hk
  rw [List.length_take_of_le (by omega)] at l1
  rw [List.length_drop] at l2
  have b1 := Box.setCells (cs.drop (i + 1)).flatten (i * k) hbox
  rw [e1, List.append_assoc, ← l1, setMany_mid _ _ _ (by simp; omega)] at b1
  have e2 : cs.eraseIdx i = cs.take i ++ cs.drop (i + 1) := List.eraseIdx_eq_take_drop_succ cs i
  have hl2 : ((cs.take i).flatten ++ (cs.drop (i + 1)).flatten).length = (cs.length - 1) * k := by
    rw [List.length_append, l1, l2, ← Nat.add_mul]
    congr 1
    omega
  have b2 := Box.setCells zs ((cs.length - 1) * k) b1
  rw [← hl2, setMany_mid _ _ _ (by
    rw [List.length_drop]
    simp only [List.length_append] at hlen ⊢
    omega)] at b2
  have hlen2 : (cs.eraseIdx i).length = cs.length - 1 := List.length_eraseIdx_of_lt hi
  have := Own.ofBox (B := B) (c := c) (k := k) (cs := cs.eraseIdx i) (w := (w.setCells g (i * k) (cs.drop (i + 1)).flatten).setCells g ((cs.length - 1) * k) zs) (e := e) (g := g)
    (rest := zs ++ ((cs[i] ++ (cs.drop (i + 1)).flatten ++ rest).drop (cs.drop (i + 1)).flatten.length).drop zs.length) (by
      rw [e2, List.flatten_append, ← List.append_assoc]
      rw [hl2, l1] at b2
      simpa using b2) (fun d hd => hk d (List.mem_of_mem_eraseIdx hd)) (by
      rw [e1] at hlen
      rw [e2, List.flatten_append]
      simp only [List.length_append, List.length_drop] at hlen hl2 ⊢
      omega) (by omega) hm hBg
  rw [hlen2] at this
  exact this
end Gc
