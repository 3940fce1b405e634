/-
  forest.At: the index of the node with an ID.
-/
import Derived.Test.YtmjnibofdpgacaaDoorProg
import Derived.Test.YtmjnibofdpgacaaDoorTreeP
set_option linter.unusedSimpArgs false
set_option linter.unusedVariables false
namespace Go.Proofs.YtmjnibofdpgacaaDoor
open Go.RowKit Gc

theorem siInt : SliceTy Tryd.prog 28 3 1 8 := SliceTy.mk' Tryd.underlying28 (z := .int .i64 0) (by kernel_rfl) rfl (by omega)

set_option maxRecDepth 100000 in
set_option maxHeartbeats 1000000 in
theorem indexNode_c (p : Grp → Bool) (g : FuncId) (lb : Array Value) (eg : ∀ args w, (callFunc g args).run Tryd.prog w = .ok (.enter g args) w) (A : Option Addr) (c : Nat) (xs : List Grp) (w : World) (h : Rd w 6 A (xs.map Grp.cells)) (hl : xs.length ≤ 140737488351232)
    (hp : ∀ W x, Below w.heap.size w W → Calls Tryd.prog g (#[.agg x.cells.toArray] ++ lb) W fun e w' => e = .returned (.bool (p x)) ∧ Below W.heap.size W w') :
    Calls Tryd.prog 80 #[.slice A xs.length c, .func (.func g) #[] lb] w fun e w' => e = .returned (.int .i64 (idx p xs)) ∧ Below w.heap.size w w' := by
  go_enter Tryd.func80, Tryd.ntmps80
  go_wp2
  go_loopw [8] (fun i wr => ∃ k : Nat, k ≤ xs.length ∧ i = .int .i64 k ∧ Below w.heap.size w wr ∧ Hid ((xs.take k).all (fun x => !p x) = true)) (fun i _ => xs.length - (intOf i).toNat)
  case atStart => exact ⟨0, Nat.zero_le _, rfl, Below.refl _ _, rfl⟩
  case round =>
    obtain ⟨k, hk, rfl, hB, hall⟩ := hrel
    by_cases hlt : k < xs.length
    · obtain ⟨b, o, rfl, hbs, hc⟩ := (h.below hB (Nat.le_refl _)).row (i := k) (c := xs[k].cells) (by simp [hlt])
      simp only [Grp.cells, CellsFrom, Nat.add_zero, Nat.reduceAdd] at hc
      obtain ⟨h0, h1, h2, h3, h4, h5, -⟩ := hc
      have hcall := hp wr xs[k] hB
      simp only [Grp.cells] at hcall
      have hlti : (k : Int) < (xs.length : Int) := by omega
      cases hq : p xs[k] with
      | true =>
        rw [hq] at hcall
        have HQ := Lib.hid hq
        clear hq hp
        go_wp2_with (go_at_fn g; refine hcall.mono ?_; rintro e w' ⟨rfl, hb''⟩; have hb' := hB.trans (hb''.mono hB.size))
        go_ret
        exact ⟨by rw [idx_hit p xs k hlt HQ.out hall.out]; rfl, hb'⟩
      | false =>
        rw [hq] at hcall
        have HQ := Lib.hid hq
        clear hq hp
        go_wp2_with (go_at_fn g; refine hcall.mono ?_; rintro e w' ⟨rfl, hb''⟩; have hb' := hB.trans (hb''.mono hB.size))
        go_roundw
        case rel => exact ⟨k + 1, by omega, by go_num, hb', (show _ = _ from all_snoc hlt hall.out (by rw [HQ.out]; rfl))⟩
        case measure => simp [intOf]; omega
    · have hk' : k = xs.length := by omega
      subst hk'
      clear hp
      go_wp2
      go_ret
      have := hall.out
      rw [List.take_length] at this
      exact ⟨by rw [idx_miss p xs this]; rfl, hB⟩

set_option maxRecDepth 100000 in
set_option maxHeartbeats 1000000 in
theorem at1_c (x : Grp) (B : Nat) (id : Int) (w : World) (hB : B < w.heap.size) (hc : w.cell? ⟨B, 0, none⟩ = some (.int .i64 id)) :
    Calls Tryd.prog 81 #[.agg x.cells.toArray, .pointer (some ⟨B, 0, none⟩)] w fun e w' => e = .returned (.bool (x.id == id)) ∧ Below w.heap.size w w' := by
  simp only [Grp.cells]
  go_enter Tryd.func81, Tryd.ntmps81
  go_wp2
  go_ret
  exact ⟨rfl, (Below.refl _ _).alloc (Nat.le_refl _) _⟩

set_option maxRecDepth 100000 in
set_option maxHeartbeats 1000000 in
theorem at_c (A : Option Addr) (c : Nat) (xs : List Grp) (next id : Int) (w : World) (h : Rd w 6 A (xs.map Grp.cells)) (hl : xs.length ≤ 140737488351232) :
    Calls Tryd.prog 77 #[.agg #[.slice A xs.length c, .int .i64 next], .int .i64 id] w fun e w' => e = .returned (.int .i64 (idx (fun x => x.id == id) xs)) ∧ Below w.heap.size w w' := by
  go_enter Tryd.func77, Tryd.ntmps77
  go_wp2_with fail
  refine (indexNode_c (fun x => x.id == id) 81 #[.pointer (some ⟨w.heap.size + 1, 0, none⟩)] (enters_of Tryd.func81 (by kernel_rfl) rfl) A c xs _ ((h.alloc _).alloc _) hl
    (fun W x hW => (at1_c x (w.heap.size + 1) id W (Nat.lt_of_lt_of_le (by simp) hW.size) ((hW.cell (p := ⟨w.heap.size + 1, 0, none⟩) (by simp)).trans (by simp))))).mono ?_
  rintro e w' ⟨rfl, hb⟩
  go_wp2
  go_ret
  exact ⟨rfl, (((Below.refl w.heap.size w).alloc (Nat.le_refl _) _).alloc (by simp) _).trans (hb.mono (by simp; omega))⟩

end Go.Proofs.YtmjnibofdpgacaaDoor
