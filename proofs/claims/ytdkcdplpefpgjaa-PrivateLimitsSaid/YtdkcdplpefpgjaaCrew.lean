/-
  crew.At, crew.Find: the task with an ID.
-/
import Derived.Test.YtdkcdplpefpgjaaProg
import Derived.Test.YtdkcdplpefpgjaaQuad
import Derived.Test.YtdkcdplpefpgjaaBox
set_option linter.unusedSimpArgs false
set_option linter.unusedVariables false
namespace Go.Proofs.Ytdkcdplpefpgjaa
open Go.RowKit Gc

set_option maxRecDepth 100000 in
set_option maxHeartbeats 1000000 in
theorem indexTask_c (p : Q4 → Bool) (g : FuncId) (lb : Array Value) (eg : ∀ args w, (callFunc g args).run Try.prog w = .ok (.enter g args) w) (A : Option Addr) (c : Nat) (xs : List Q4) (w : World) (h : Rd w 4 A (xs.map Q4.cells)) (hl : xs.length ≤ 140737488351232)
    (hp : ∀ W x, Below w.heap.size w W → Calls Try.prog g (#[.agg x.cells.toArray] ++ lb) W fun e w' => e = .returned (.bool (p x)) ∧ Below W.heap.size W w') :
    Calls Try.prog 116 #[.slice A xs.length c, .func (.func g) #[] lb] w fun e w' => e = .returned (.int .i64 (idx p xs)) ∧ Below w.heap.size w w' := by
  go_enter Try.func116, Try.ntmps116
  go_wp2
  go_loopw [8] (fun i wr => ∃ k : Nat, k ≤ xs.length ∧ i = .int .i64 k ∧ Below w.heap.size w wr ∧ Hid ((xs.take k).all (fun x => !p x) = true)) (fun i _ => xs.length - (intOf i).toNat)
  case atStart => exact ⟨0, Nat.zero_le _, rfl, Below.refl _ _, rfl⟩
  case round =>
    obtain ⟨k, hk, rfl, hB, hall⟩ := hrel
    by_cases hlt : k < xs.length
    · obtain ⟨b, o, rfl, hbs, hc⟩ := (h.below hB (Nat.le_refl _)).row (i := k) (c := xs[k].cells) (by simp [hlt])
      simp only [Q4.cells, CellsFrom, Nat.add_zero, Nat.reduceAdd] at hc
      obtain ⟨h0, h1, h2, h3, -⟩ := hc
      have hcall := hp wr xs[k] hB
      simp only [Q4.cells] at hcall
      have hlti : (k : Int) < (xs.length : Int) := by omega
      cases hq : p xs[k] with
      | true =>
        rw [hq] at hcall
        have HQ := Lib.hid hq
        clear hq hp
        go_wp2_with (go_at_fn g; refine hcall.mono ?_; rintro e w' ⟨rfl, hb''⟩; have hb' := hB.trans (hb''.mono hB.size))
        go_ret
        exact ⟨by rw [idx_hit p xs k hlt HQ.out hall.out]; rfl, hb'⟩
      | false =>
        rw [hq] at hcall
        have HQ := Lib.hid hq
        clear hq hp
        go_wp2_with (go_at_fn g; refine hcall.mono ?_; rintro e w' ⟨rfl, hb''⟩; have hb' := hB.trans (hb''.mono hB.size))
        go_roundw
        case rel => exact ⟨k + 1, by omega, by go_num, hb', (show _ = _ from all_snoc hlt hall.out (by rw [HQ.out]; rfl))⟩
        case measure => simp [intOf]; omega
    · have hk' : k = xs.length := by omega
      subst hk'
      clear hp
      go_wp2
      go_ret
      have := hall.out
      rw [List.take_length] at this
      exact ⟨by rw [idx_miss p xs this]; rfl, hB⟩

set_option maxRecDepth 100000 in
set_option maxHeartbeats 1000000 in
theorem crewAt1_c (x : Q4) (B : Nat) (id : Int) (w : World) (hB : B < w.heap.size) (hc : w.cell? ⟨B, 0, none⟩ = some (.int .i64 id)) :
    Calls Try.prog 117 #[.agg x.cells.toArray, .pointer (some ⟨B, 0, none⟩)] w fun e w' => e = .returned (.bool (x.a == id)) ∧ Below w.heap.size w w' := by
  simp only [Q4.cells]
  go_enter Try.func117, Try.ntmps117
  go_wp2
  go_ret
  exact ⟨rfl, (Below.refl _ _).alloc (Nat.le_refl _) _⟩

set_option maxRecDepth 100000 in
set_option maxHeartbeats 1000000 in
theorem crewAt_c (A : Option Addr) (c : Nat) (xs : List Grp) (next : Int) (B : Option Addr) (d : Nat) (ts : List Q4) (hn id : Int) (w : World) (h : Rd w 4 B (ts.map Q4.cells)) (hl : ts.length ≤ 140737488351232) :
    Calls Try.prog 105 #[.agg #[.slice A xs.length c, .int .i64 next, .slice B ts.length d, .int .i64 hn], .int .i64 id] w fun e w' => e = .returned (.int .i64 (idx (fun x => x.a == id) ts)) ∧ Below w.heap.size w w' := by
  go_enter Try.func105, Try.ntmps105
  go_wp2_with fail
  refine (indexTask_c (fun x => x.a == id) 117 #[.pointer (some ⟨w.heap.size + 1, 0, none⟩)] (enters_of Try.func117 (by kernel_rfl) rfl) B d ts _ ((h.alloc _).alloc _) hl
    (fun W x hW => (crewAt1_c x (w.heap.size + 1) id W (Nat.lt_of_lt_of_le (by simp) hW.size) ((hW.cell (p := ⟨w.heap.size + 1, 0, none⟩) (by simp)).trans (by simp))))).mono ?_
  rintro e w' ⟨rfl, hb⟩
  go_wp2
  go_ret
  exact ⟨rfl, (((Below.refl w.heap.size w).alloc (Nat.le_refl _) _).alloc (by simp) _).trans (hb.mono (by simp; omega))⟩

set_option maxRecDepth 100000 in
set_option maxHeartbeats 1000000 in
theorem crewFind_c (A : Option Addr) (c : Nat) (xs : List Grp) (next : Int) (B : Option Addr) (d : Nat) (ts : List Q4) (hn id : Int) (w : World) (h : Rd w 4 B (ts.map Q4.cells)) (hl : ts.length ≤ 140737488351232) :
    Calls Try.prog 83 #[.agg #[.slice A xs.length c, .int .i64 next, .slice B ts.length d, .int .i64 hn], .int .i64 id] w fun e w' => e = .returned (.tuple #[.agg (taskAt ts id).1.cells.toArray, .bool (taskAt ts id).2]) ∧ Below w.heap.size w w' := by
  have hW1 : Below w.heap.size w (w.alloc (.cells #[.slice A xs.length c, .int .i64 next, .slice B ts.length d, .int .i64 hn] 47)) := (Below.refl _ _).alloc (Nat.le_refl _) _
  have hAt := Lib.hid (fun W (h : Rd W 4 B (ts.map Q4.cells)) => crewAt_c A c xs next B d ts hn id W h hl)
  rcases find_idx (fun n : Q4 => n.a == id) ts with ⟨k, x, e1, hk, hx, e2, -⟩ | ⟨e1, e2⟩
  · have hN := Lib.hid (show taskAt ts id = (x, true) by unfold taskAt; rw [e2])
    have H := Lib.hid h
    have HX := Lib.hid hx
    have h1 : ¬ ((k : Int) < 0) := by omega
    have h2 : (k : Int) < (ts.length : Int) := by omega
    have hAt := hAt.out
    rw [e1] at hAt
    have HAt := Lib.hid hAt
    clear e1 e2 hAt h hx
    go_enter Try.func83, Try.ntmps83
    go_wp2_with (go_at_call 105; refine (HAt.out _ ((H.out.alloc _).alloc _)).mono ?_; rintro e W ⟨rfl, hb⟩; obtain ⟨b, o, rfl, hbs, hc⟩ := (((H.out.alloc _).alloc _).below hb (Nat.le_refl _)).row (i := k) (c := x.cells) (by rw [List.getElem?_map, HX.out]; rfl); simp only [Q4.cells, CellsFrom, Nat.add_zero, Nat.zero_add, Nat.reduceAdd] at hc; obtain ⟨c0, c1, c2, c3, -⟩ := hc; have t0 : W.cell? ⟨w.heap.size, 2, none⟩ = some (.slice (some ⟨b, o, none⟩) ts.length d) := (hb.cell (p := ⟨w.heap.size, 2, none⟩) (by simp <;> omega)).trans (by simp); have hbx := (Box.mk (w.alloc (.cells #[.slice A xs.length c, .int .i64 next, .slice (some ⟨b, o, none⟩) ts.length d, .int .i64 hn] 47)) [.int .i64 0, .int .i64 0, .int .i64 0, .int .i64 0] 84).below hb (by simp); have hz := hb.size; rw [show (w.alloc (.cells #[.slice A xs.length c, .int .i64 next, .slice (some ⟨b, o, none⟩) ts.length d, .int .i64 hn] 47)).heap.size = w.heap.size + 1 from by simp] at hbx; have f := hbx.fro; obtain ⟨z0, z1, z2, z3, -⟩ := hbx.cells; simp only [Nat.zero_add, Nat.add_zero, Nat.reduceAdd] at z0 z1 z2 z3)
    try simp only [Exit.inBlock, Exit.then]
    refine bodyPost_ret (results_box_tmp rfl _ _ rfl ((((hbx.set 0 _).set 1 _).set 2 _).set 3 _) Try.underlying84 rfl (by kernel_rfl)) rfl ?_
    have hBW : Below w.heap.size w W := (((Below.refl w.heap.size w).alloc (Nat.le_refl _) _).alloc (by simp) _).trans (hb.mono (by simp; omega))
    have hle : w.heap.size ≤ w.heap.size + 1 := Nat.le_succ _
    exact ⟨by rw [hN.out]; rfl, (((hBW.setCell hle _).setCell hle _).setCell hle _).setCell hle _⟩
  · have hN := Lib.hid (show taskAt ts id = (⟨0, 0, 0, 0⟩, false) by unfold taskAt; rw [e2])
    have H := Lib.hid h
    have hAt := hAt.out
    rw [e1] at hAt
    have HAt := Lib.hid hAt
    clear e1 e2 hAt h
    go_enter Try.func83, Try.ntmps83
    go_wp2_with (go_at_call 105; refine (HAt.out _ ((H.out.alloc _).alloc _)).mono ?_; rintro e W ⟨rfl, hb⟩; have hbx := (Box.mk (w.alloc (.cells #[.slice A xs.length c, .int .i64 next, .slice B ts.length d, .int .i64 hn] 47)) [.int .i64 0, .int .i64 0, .int .i64 0, .int .i64 0] 84).below hb (by simp); have hz := hb.size; rw [show (w.alloc (.cells #[.slice A xs.length c, .int .i64 next, .slice B ts.length d, .int .i64 hn] 47)).heap.size = w.heap.size + 1 from by simp] at hbx; have f := hbx.fro; obtain ⟨z0, z1, z2, z3, -⟩ := hbx.cells; simp only [Nat.zero_add, Nat.add_zero, Nat.reduceAdd] at z0 z1 z2 z3)
    try simp only [Exit.inBlock, Exit.then]
    refine bodyPost_ret (results_box_tmp rfl _ _ rfl ((((hbx.set 0 _).set 1 _).set 2 _).set 3 _) Try.underlying84 rfl (by kernel_rfl)) rfl ?_
    have hBW : Below w.heap.size w W := (((Below.refl w.heap.size w).alloc (Nat.le_refl _) _).alloc (by simp) _).trans (hb.mono (by simp; omega))
    have hle : w.heap.size ≤ w.heap.size + 1 := Nat.le_succ _
    exact ⟨by rw [hN.out]; rfl, (((hBW.setCell hle _).setCell hle _).setCell hle _).setCell hle _⟩

end Go.Proofs.Ytdkcdplpefpgjaa
