/-
  What a row's contract gives from 'Below'.
  An argument that is a slice of ints: what it holds, and that it reads as it did in a world that grew.
-/
import Derived.Test.YtmbffobifiidnaaDoorProg
import Derived.WalkKit
import Derived.ProofKit
import Derived.OpenShut
import Derived.Deep.DeepHandedRow
import Derived.Below
import Derived.ChangeSame
import Derived.Test.YtmbffobifiidnaaDoorStr
import Derived.ChangeSlices
set_option linter.unusedSimpArgs false
set_option linter.unusedVariables false
namespace Gc
open Go Go.RowKit Go.ChangeShapes Go.WideShapes Go.ChangeAt
section
variable {H : Type} {enc : TypeId × Value → H} {P : Program}
theorem post_of_below' {f : Func} {s : ChangeSpec} {apart fresh handsOn again : Bool} {W W' : World} {args : Array Value} {v : Value} {ds gs : List (DataW H)} {before pa pv : List MemPlace}
    (hW : DataW.Whole enc P f.params.toList s.vars apart W args.toList ds gs before)
    (hres : ∀ (b : Nat) (sp : Nat → Bool) (hd : Bool), DataW.TrodAll enc P W' b sp hd f.resultTypes.toList (v.resultList f.resultTypes.size) (s.fn H (ds ++ gs)).results [])
    (hargs : ∀ sp : Nat → Bool, (∀ p ∈ before, sp p.block = true) → DataW.TrodAll enc P W' 0 sp true f.params.toList args.toList (s.fn H (ds ++ gs)).args pa)
    (hvars : ∀ sp : Nat → Bool, (∀ p ∈ before, sp p.block = true) → DataW.TrodVars enc P W' sp s.vars (s.fn H (ds ++ gs)).vars pv)
    (hps : before = pa ++ pv) (hb : Below W.heap.size W W')
    (hok : ∀ (j : Nat) (t : TypeId) (r : Value), f.resultTypes[j]? = some t → (v.resultList f.resultTypes.size)[j]? = some r → Value.okWide P W' .any 0 t r) :
    s.post enc P f apart fresh handsOn again W args v W' := by
  have hlt : ∀ p ∈ before, p.block < W.heap.size := fun p hp => hW.lt p hp
  have hold : ∀ p ∈ before, (fun b => decide (b < W.heap.size)) p.block = true := fun p hp => by simpa using hlt p hp
  refine ⟨ds, gs, before, [], pa, pv, hW, hres _ _ _, hargs _ hold, hvars _ hold, World.keptBut_mono (fun p hp => ⟨hp, ?_⟩) (hb.frame (· ∈ before)), fun _ => ?_⟩
  · rw [hps, List.mem_append] at hp
    exact Or.inr hp
  · obtain ⟨_, _, _, _, _, hz, hn⟩ := hW
    refine ⟨hok, _, _, ([] ++ pa) ++ pv, ⟨[] ++ pa, pv, trodAll_append (hargs _ (fun _ _ => rfl)) (hres _ _ _), hvars _ (fun _ _ => rfl), rfl, ?_, ?_⟩, ?_⟩
    · intro b off hp
      have hin : MemPlace.cell b off ∈ before := by rw [hps]; simpa using hp
      rw [hb.frozen (hlt _ hin)]
      exact hz b off hin
    · intro ha
      have := hn ha
      rw [hps] at this
      simpa using this
    · intro p hp _
      rw [hps]
      simpa using hp
end
end Gc
namespace Gc
open Go Go.RowKit Go.ChangeShapes Go.WideShapes

theorem ints_arg {H : Type} {enc : TypeId × Value → H} {P : Program} {t e : TypeId} {W : World} {base : Nat} {v : Value} {d : DataW H} {p : List MemPlace} (ht : P.underlying t = some (.slice e)) (he : P.underlying e = some (.int .i64)) (hc : P.cellsOf e = 1)
    (hval : Value.okWide P W .any base t v) (h : DataW.Trod enc P W 0 (fun _ => true) true t v d p) :
    ∃ (A : Option Addr) (c : Nat) (ts : List Int), v = .slice A ts.length c ∧ ts.length ≤ c ∧ Rd W 1 A (ts.map icells) ∧ (∀ b, blk A = some b → b < W.heap.size) ∧
      ∀ W' (sp : Nat → Bool), Below W.heap.size W W' → (∀ q ∈ p, sp q.block = true) → DataW.Trod enc P W' 0 sp true t v d p := by
  obtain ⟨a0, len, cap, rfl⟩ := okWide_slice ht hval
  obtain ⟨fuel, hf⟩ := h
  rcases open_ints ht he hc hf with ⟨hcs, hx⟩ | ⟨a, len', cap', zs, hcs, _, hl, hm, hz, hx, hcell, hwz⟩
  · simp [Value.cells] at hcs
    obtain ⟨rfl, rfl, rfl⟩ := hcs
    simp only [Prod.mk.injEq] at hx
    obtain ⟨rfl, rfl⟩ := hx
    refine ⟨none, 0, [], rfl, by simp, Rd.nil _ _ _, by simp [blk], fun W' sp _ _ => ⟨1, ?_⟩⟩
    simp [DataW.trod, ht, Value.cells]
  · simp [Value.cells] at hcs
    obtain ⟨rfl, rfl, rfl⟩ := hcs
    simp only [Prod.mk.injEq] at hx
    obtain ⟨rfl, rfl⟩ := hx
    simp only [if_true] at hz
    have hlt : a.block < W.heap.size := by
      simp only [Value.okWide, ht, Cell.okWide, Cell.ok] at hval
      obtain ⟨-, -, -, -, row, cells, hs, -⟩ := hval
      unfold World.shape? at hs
      split at hs
      · rename_i hh
        exact (Array.getElem?_eq_some_iff.1 hh).1
      · cases hs
    have hlen : (zs.take len).length = len := by simp; omega
    refine ⟨some a, cap, zs.take len, by rw [hlen], by omega, ?_, fun b e => by injection e with e; subst e; exact hlt, fun W' sp hb hsp => ?_⟩
    · intro i hi
      rw [List.length_map, hlen] at hi
      obtain ⟨b, off, rfl, hcc⟩ := ints_at hcell (by omega)
      refine ⟨b, off, rfl, hlt, ?_⟩
      simp only [List.getElem_map, List.getElem_take, icells, CellsFrom, Nat.mul_one, Nat.add_zero, and_true]
      rw [hcc i (by omega)]
      simp [List.getD_eq_getElem?_getD, List.getElem?_eq_getElem (show i < zs.length by omega)]
    · have hcell' : ∀ i, i < zs.length → W'.cell? (a.add i) = some (.int .i64 (zs.getD i 0)) := fun i hi => by
        rw [hb.cell (p := a.add i) (by unfold Addr.add; split <;> exact hlt)]
        exact hcell i hi
      by_cases hz0 : zs.length = 0
      · have hc0 : cap = 0 := by omega
        have hl0 : len = 0 := by omega
        subst hc0; subst hl0
        have t0 := shut_ints (enc := enc) (w := W') (base := 0) (spare := sp) (held := true) (a := a) (len := 0) (cap := 0) (zs := zs) 0 ht he hc (Nat.zero_le _) (Nat.le_refl _) hm (by simp [hz0]) hcell' hwz
        exact ⟨2, by simpa [Value.cells] using t0⟩
      · have hspb : sp a.block = true := by
          have := hsp (.cell a.block a.off) (MemPlace.mem_row.2 ⟨0, by omega, by simp⟩)
          exact this
        have t0 := shut_ints (enc := enc) (w := W') (base := 0) (spare := sp) (held := true) (a := a) (len := len) (cap := cap) (zs := zs) 0 ht he hc (Nat.zero_le _) hl hm (by simp [hspb, hz]) hcell' hwz
        exact ⟨2, by simpa [Value.cells] using t0⟩
end Gc
