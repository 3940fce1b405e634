/-
  slices.IndexFunc, slices.DeleteFunc of residents where none is dropped.
-/
import Derived.Test.YtdkcdplpefpgjaaProg
import Derived.Test.YtdkcdplpefpgjaaQuad
import Derived.Test.YtdkcdplpefpgjaaBox
set_option linter.unusedSimpArgs false
set_option linter.unusedVariables false
namespace Go.Proofs.Ytdkcdplpefpgjaa
open Go.RowKit Gc

set_option maxRecDepth 100000 in
set_option maxHeartbeats 1000000 in
theorem indexRes_c (p : Q4 → Bool) (g : FuncId) (lb : Array Value) (eg : ∀ args w, (callFunc g args).run Try.prog w = .ok (.enter g args) w) (A : Option Addr) (c : Nat) (xs : List Q4) (w : World) (h : Rd w 4 A (xs.map Q4.cells)) (hl : xs.length ≤ 140737488351232)
    (hp : ∀ W x, Below w.heap.size w W → Calls Try.prog g (#[.agg x.cells.toArray] ++ lb) W fun e w' => e = .returned (.bool (p x)) ∧ Below W.heap.size W w') :
    Calls Try.prog 108 #[.slice A xs.length c, .func (.func g) #[] lb] w fun e w' => e = .returned (.int .i64 (idx p xs)) ∧ Below w.heap.size w w' := by
  go_enter Try.func108, Try.ntmps108
  go_wp2
  go_loopw [8] (fun i wr => ∃ k : Nat, k ≤ xs.length ∧ i = .int .i64 k ∧ Below w.heap.size w wr ∧ Hid ((xs.take k).all (fun x => !p x) = true)) (fun i _ => xs.length - (intOf i).toNat)
  case atStart => exact ⟨0, Nat.zero_le _, rfl, Below.refl _ _, rfl⟩
  case round =>
    obtain ⟨k, hk, rfl, hB, hall⟩ := hrel
    by_cases hlt : k < xs.length
    · obtain ⟨b, o, rfl, hbs, hc⟩ := (h.below hB (Nat.le_refl _)).row (i := k) (c := xs[k].cells) (by simp [hlt])
      simp only [Q4.cells, CellsFrom, Nat.add_zero, Nat.reduceAdd] at hc
      obtain ⟨h0, h1, h2, h3, -⟩ := hc
      have hcall := hp wr xs[k] hB
      simp only [Q4.cells] at hcall
      have hlti : (k : Int) < (xs.length : Int) := by omega
      cases hq : p xs[k] with
      | true =>
        rw [hq] at hcall
        have HQ := Lib.hid hq
        clear hq hp
        go_wp2_with (go_at_fn g; refine hcall.mono ?_; rintro e w' ⟨rfl, hb''⟩; have hb' := hB.trans (hb''.mono hB.size))
        go_ret
        exact ⟨by rw [idx_hit p xs k hlt HQ.out hall.out]; rfl, hb'⟩
      | false =>
        rw [hq] at hcall
        have HQ := Lib.hid hq
        clear hq hp
        go_wp2_with (go_at_fn g; refine hcall.mono ?_; rintro e w' ⟨rfl, hb''⟩; have hb' := hB.trans (hb''.mono hB.size))
        go_roundw
        case rel => exact ⟨k + 1, by omega, by go_num, hb', (show _ = _ from all_snoc hlt hall.out (by rw [HQ.out]; rfl))⟩
        case measure => simp [intOf]; omega
    · have hk' : k = xs.length := by omega
      subst hk'
      clear hp
      go_wp2
      go_ret
      have := hall.out
      rw [List.take_length] at this
      exact ⟨by rw [idx_miss p xs this]; rfl, hB⟩


def emptyQ (x : Q4) : Bool := x.c == 0 && x.d == 0

set_option maxRecDepth 100000 in
set_option maxHeartbeats 1000000 in
theorem empty_c (x : Q4) (w : World) : Calls Try.prog 87 #[.agg x.cells.toArray] w fun e w' => e = .returned (.bool (emptyQ x)) ∧ Below w.heap.size w w' := by
  obtain ⟨xa, xb, xc, xd⟩ := x
  have hR := Lib.hid (show emptyQ ⟨xa, xb, xc, xd⟩ = (xc == 0 && xd == 0) from rfl)
  simp only [Q4.cells]
  cases h1 : (xc == 0) with
  | true =>
    have HR := Lib.hid (show emptyQ ⟨xa, xb, xc, xd⟩ = (xd == 0) by rw [hR.out, h1]; rfl)
    go_enter Try.func87, Try.ntmps87
    go_wp2
    go_ret
    exact ⟨ret_bool HR.out.symm, (Below.refl _ _).alloc (Nat.le_refl _) _⟩
  | false =>
    have HR := Lib.hid (show emptyQ ⟨xa, xb, xc, xd⟩ = false by rw [hR.out, h1]; rfl)
    go_enter Try.func87, Try.ntmps87
    go_wp2
    go_ret
    exact ⟨ret_bool HR.out.symm, (Below.refl _ _).alloc (Nat.le_refl _) _⟩

set_option maxRecDepth 100000 in
set_option maxHeartbeats 1000000 in
theorem deleteNone_c (A : Option Addr) (c : Nat) (ls : List Q4) (w : World) (h : Rd w 4 A (ls.map Q4.cells)) (hl : ls.length ≤ 1048576) (hn : ls.all (fun x => !emptyQ x) = true) :
    Calls Try.prog 86 #[.slice A ls.length c, .func (.func 87) #[] #[]] w fun e w' => e = .returned (.slice A ls.length c) ∧ Below w.heap.size w w' := by
  have hi := indexRes_c emptyQ 87 #[] (enters_of Try.func87 (by kernel_rfl) rfl) A c ls w h (by omega) (fun W x _ => empty_c x W)
  rw [idx_miss emptyQ ls hn] at hi
  have HI := Lib.hid hi
  clear hi h hn
  go_enter Try.func86, Try.ntmps86
  go_wp2_with (go_at_call 108; refine (HI.out).mono ?_; rintro e W ⟨rfl, hb⟩)
  go_ret
  exact ⟨rfl, hb⟩

end Go.Proofs.Ytdkcdplpefpgjaa
