/-
  event.find, event.kinds, event.count, event.Own.
-/
import Derived.Test.YtmjnibofdpgacaaDoorProg
import Derived.Test.YtmjnibofdpgacaaDoorTally
import Derived.Test.YtmjnibofdpgacaaDoorBase
set_option linter.unusedSimpArgs false
set_option linter.unusedVariables false
namespace Go.Proofs.YtmjnibofdpgacaaDoor
open Go.RowKit Gc

set_option maxRecDepth 100000 in
set_option maxHeartbeats 1000000 in
theorem indexTal_c (p : Tal → Bool) (g : FuncId) (lb : Array Value) (eg : ∀ args w, (callFunc g args).run Tryd.prog w = .ok (.enter g args) w) (A : Option Addr) (c : Nat) (xs : List Tal) (w : World) (h : Rd w 7 A (xs.map Tal.cells)) (hl : xs.length ≤ 140737488351232)
    (hp : ∀ W x, Below w.heap.size w W → Calls Tryd.prog g (#[.agg x.cells.toArray] ++ lb) W fun e w' => e = .returned (.bool (p x)) ∧ Below W.heap.size W w') :
    Calls Tryd.prog 60 #[.slice A xs.length c, .func (.func g) #[] lb] w fun e w' => e = .returned (.int .i64 (idx p xs)) ∧ Below w.heap.size w w' := by
  go_enter Tryd.func60, Tryd.ntmps60
  go_wp2
  go_loopw [8] (fun i wr => ∃ k : Nat, k ≤ xs.length ∧ i = .int .i64 k ∧ Below w.heap.size w wr ∧ Hid ((xs.take k).all (fun x => !p x) = true)) (fun i _ => xs.length - (intOf i).toNat)
  case atStart => exact ⟨0, Nat.zero_le _, rfl, Below.refl _ _, rfl⟩
  case round =>
    obtain ⟨k, hk, rfl, hB, hall⟩ := hrel
    by_cases hlt : k < xs.length
    · obtain ⟨b, o, rfl, hbs, hc⟩ := (h.below hB (Nat.le_refl _)).row (i := k) (c := xs[k].cells) (by simp [hlt])
      simp only [Tal.cells, CellsFrom, Nat.add_zero, Nat.reduceAdd] at hc
      obtain ⟨h0, h1, h2, h3, h4, h5, h6, -⟩ := hc
      have hcall := hp wr xs[k] hB
      simp only [Tal.cells] at hcall
      have hlti : (k : Int) < (xs.length : Int) := by omega
      cases hq : p xs[k] with
      | true =>
        rw [hq] at hcall
        have HQ := Lib.hid hq
        clear hq hp
        go_wp2_with (go_at_fn g; refine hcall.mono ?_; rintro e w' ⟨rfl, hb''⟩; have hb' := hB.trans (hb''.mono hB.size))
        go_ret
        exact ⟨by rw [idx_hit p xs k hlt HQ.out hall.out]; rfl, hb'⟩
      | false =>
        rw [hq] at hcall
        have HQ := Lib.hid hq
        clear hq hp
        go_wp2_with (go_at_fn g; refine hcall.mono ?_; rintro e w' ⟨rfl, hb''⟩; have hb' := hB.trans (hb''.mono hB.size))
        go_roundw
        case rel => exact ⟨k + 1, by omega, by go_num, hb', (show _ = _ from all_snoc hlt hall.out (by rw [HQ.out]; rfl))⟩
        case measure => simp [intOf]; omega
    · have hk' : k = xs.length := by omega
      subst hk'
      clear hp
      go_wp2
      go_ret
      have := hall.out
      rw [List.take_length] at this
      exact ⟨by rw [idx_miss p xs this]; rfl, hB⟩

set_option maxRecDepth 100000 in
set_option maxHeartbeats 1000000 in
theorem evFind1_c (x : Tal) (B : Nat) (id : Int) (w : World) (hB : B < w.heap.size) (hc : w.cell? ⟨B, 0, none⟩ = some (.int .i64 id)) :
    Calls Tryd.prog 61 #[.agg x.cells.toArray, .pointer (some ⟨B, 0, none⟩)] w fun e w' => e = .returned (.bool (x.g == id)) ∧ Below w.heap.size w w' := by
  simp only [Tal.cells]
  go_enter Tryd.func61, Tryd.ntmps61
  go_wp2
  go_ret
  exact ⟨rfl, (Below.refl _ _).alloc (Nat.le_refl _) _⟩


set_option maxRecDepth 100000 in
set_option maxHeartbeats 1000000 in
theorem evFind_c (A : Option Addr) (c : Nat) (ls : List Tal) (id : Int) (w : World) (h : Rd w 7 A (ls.map Tal.cells)) (hl : ls.length ≤ 140737488351232) :
    Calls Tryd.prog 31 #[.slice A ls.length c, .int .i64 id] w fun e w' => e = .returned (.int .i64 (tix ls id)) ∧ Below w.heap.size w w' := by
  go_enter Tryd.func31, Tryd.ntmps31
  go_wp2_with fail
  refine (indexTal_c (fun x => x.g == id) 61 #[.pointer (some ⟨w.heap.size, 0, none⟩)] (enters_of Tryd.func61 (by kernel_rfl) rfl) A c ls _ (h.alloc _) hl
    (fun W x hW => (evFind1_c x w.heap.size id W (Nat.lt_of_lt_of_le (by simp) hW.size) ((hW.cell (p := ⟨w.heap.size, 0, none⟩) (by simp)).trans (by simp))))).mono ?_
  rintro e w' ⟨rfl, hb⟩
  go_wp2
  go_ret
  exact ⟨rfl, ((Below.refl w.heap.size w).alloc (Nat.le_refl _) _).trans (hb.mono (by simp))⟩

set_option maxRecDepth 100000 in
set_option maxHeartbeats 1000000 in
theorem kinds_c (k : Int) (w : World) : Calls Tryd.prog 32 #[.int .i64 k] w fun e w' => e = .returned (.bool (kindB k)) ∧ w' = w := by
  have hR := Lib.hid (show kindB k = (decide (0 ≤ k) && decide (k < 6)) from rfl)
  cases h1 : decide (0 ≤ k) with
  | true =>
    have HR := Lib.hid (show kindB k = decide (k < 6) by rw [hR.out, h1]; rfl)
    go_enter Tryd.func32, Tryd.ntmps32
    go_wp2
    go_ret
    exact ⟨ret_bool HR.out.symm, rfl⟩
  | false =>
    have HR := Lib.hid (show kindB k = false by rw [hR.out, h1]; rfl)
    go_enter Tryd.func32, Tryd.ntmps32
    go_wp2
    go_ret
    exact ⟨ret_bool HR.out.symm, rfl⟩

set_option maxRecDepth 100000 in
set_option maxHeartbeats 1000000 in
theorem count_c (k : Int) (w : World) : Calls Tryd.prog 33 #[.int .i64 k] w fun e w' => e = .returned (.bool (cntB k)) ∧ w' = w := by
  have hR := Lib.hid (show cntB k = (decide (0 ≤ k) && decide (k ≤ 1099511627776)) from rfl)
  cases h1 : decide (0 ≤ k) with
  | true =>
    have HR := Lib.hid (show cntB k = decide (k ≤ 1099511627776) by rw [hR.out, h1]; rfl)
    go_enter Tryd.func33, Tryd.ntmps33
    go_wp2
    go_ret
    exact ⟨ret_bool HR.out.symm, rfl⟩
  | false =>
    have HR := Lib.hid (show cntB k = false by rw [hR.out, h1]; rfl)
    go_enter Tryd.func33, Tryd.ntmps33
    go_wp2
    go_ret
    exact ⟨ret_bool HR.out.symm, rfl⟩

end Go.Proofs.YtmjnibofdpgacaaDoor
