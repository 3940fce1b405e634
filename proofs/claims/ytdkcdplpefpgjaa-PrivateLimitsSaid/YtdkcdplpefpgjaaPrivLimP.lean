/-
  PrivateLimits: the plain laws, and the dice's start.
-/
import Derived.Test.YtdkcdplpefpgjaaSane38
import Derived.Test.YtdkcdplpefpgjaaPrivAdd
import Derived.Test.YtdkcdplpefpgjaaDice
set_option linter.unusedSimpArgs false
set_option linter.unusedVariables false
namespace Go.Proofs.Ytdkcdplpefpgjaa
open Go.RowKit Gc

set_option maxRecDepth 100000 in
set_option maxHeartbeats 1000000 in
theorem roll_c (A : Option Addr) (c : Nat) (ts : List Int) (w : World) (h : Rd w 1 A (ts.map icells)) (hp : ∀ b, blk A = some b → b < w.heap.size) (hc : ts.length ≤ c) (hl : ts.length ≤ 140737488351232) :
    Calls Try.prog 7 #[.slice A ts.length c] w fun e w' => ∃ d, e = .returned (.pointer (some ⟨d, 0, none⟩)) ∧ DiceAt w' d ∧ w.heap.size ≤ d ∧ Below w.heap.size w w' := by
  have hB : Below w.heap.size w (w.alloc (.cells #[.slice A ts.length c, .int .i64 0] 68)) := (Below.refl _ _).alloc (Nat.le_refl _) _
  have hb := Box.mk w [.slice A ts.length c, .int .i64 0] 68
  have hr := h.below hB (Nat.le_refl _)
  have hD : DiceAt (w.alloc (.cells #[.slice A ts.length c, .int .i64 0] 68)) w.heap.size := ⟨A, ts, c, 0, _, hb, hr, hp, Nat.zero_le _, hc, hl⟩
  have HD := Lib.hid hD
  clear hD hb hr h hp
  go_enter Try.func7, Try.ntmps7
  go_wp2
  go_ret
  exact ⟨_, rfl, HD.out, Nat.le_refl _, hB⟩

theorem lim_step0 (c d : Int) (h0 : 0 ≤ c) (h1 : 0 ≤ d) (h2 : c + d ≤ 33554432) (h3 : 0 < c + d) (r : List Q4) : rstep threeX threeT (⟨7, 2, c, d⟩ :: r) 0 = true := by
  have e : rstep threeX threeT (⟨7, 2, c, d⟩ :: r) 0 = (decide (0 ≤ c) && (decide (0 ≤ d) && (decide (c ≤ 33554432) && (decide (d ≤ 33554432 - c) && !(c + d == 0))))) := rfl
  rw [e, decide_eq_true h0, decide_eq_true h1, decide_eq_true (by omega), decide_eq_true (by omega)]
  simp; omega

theorem lim_step1 (c d c' d' : Int) (h0 : 0 ≤ c') (h1 : 0 ≤ d') (h2 : c + d + (c' + d') ≤ 33554432) (h3 : 0 < c' + d') : rstep threeX threeT [⟨7, 2, c, d⟩, ⟨7, 4, c', d'⟩] 1 = true := by
  have e : rstep threeX threeT [⟨7, 2, c, d⟩, ⟨7, 4, c', d'⟩] 1 = (decide (0 ≤ c') && (decide (0 ≤ d') && (decide (c' ≤ 33554432 - (c + d + 0)) && (decide (d' ≤ 33554432 - (c + d + 0) - c') && !(c' + d' == 0))))) := rfl
  rw [e, decide_eq_true h0, decide_eq_true h1, decide_eq_true (by omega), decide_eq_true (by omega)]
  simp; omega

theorem lim_res0 : resB threeX 5 threeT 8 [] = true := by kernel_rfl
theorem lim_res1 (c d : Int) (h0 : 0 ≤ c) (h1 : 0 ≤ d) (h2 : c + d ≤ 33554432) (h3 : 0 < c + d) : resB threeX 5 threeT 8 [⟨7, 2, c, d⟩] = true := by
  unfold resB
  rw [three_hier]
  show (true && (rstep threeX threeT [⟨7, 2, c, d⟩] 0 && true)) = true
  rw [lim_step0 c d h0 h1 h2 h3]
  rfl
theorem lim_res2 (c d c' d' : Int) (h0 : 0 ≤ c) (h1 : 0 ≤ d) (h3 : 0 < c + d) (h4 : 0 ≤ c') (h5 : 0 ≤ d') (h6 : 0 < c' + d') (h2 : c + d + (c' + d') ≤ 33554432) : resB threeX 5 threeT 8 [⟨7, 2, c, d⟩, ⟨7, 4, c', d'⟩] = true := by
  unfold resB
  rw [three_hier]
  show (true && (rstep threeX threeT [⟨7, 2, c, d⟩, ⟨7, 4, c', d'⟩] 0 && (rstep threeX threeT [⟨7, 2, c, d⟩, ⟨7, 4, c', d'⟩] 1 && true))) = true
  rw [lim_step0 c d h0 h1 (by omega) h3, lim_step1 c d c' d' h4 h5 h2 h6]
  rfl

theorem lim_add1 : addR threeX 5 threeT 8 [] 7 2 16777216 = ([⟨7, 2, 16777216, 0⟩], 0) := by
  unfold addR
  rw [lim_res0]
  decide
theorem lim_add5 : addR threeX 5 threeT 8 [] 7 2 16777217 = ([], 3) := by
  unfold addR
  rw [lim_res0]
  decide
theorem lim_out (x : Int) (h0 : 0 ≤ x) (h1 : x < 16777216) : outR threeX 5 threeT 8 [⟨7, 2, 16777216, 0⟩] 2 x = ([⟨7, 2, 16777216 - x, x⟩], 0) := by
  unfold outR
  rw [lim_res1 16777216 0 (by omega) (by omega) (by omega) (by omega), if_neg (by simp), if_neg (by decide), if_neg (by rw [show sumC (fun x => x.b == 2) [⟨7, 2, 16777216, 0⟩] = 16777216 from by decide]; omega)]
  simp only [outGo, if_true]
  rw [show min x 16777216 = x from by omega]
  simp
theorem lim_at3 (x : Int) : bsAt [⟨7, 2, 16777216 - x, x⟩] ⟨7, 4, 0, 0⟩ = 1 := by
  simp [bsAt, bsGo, ordR]
theorem lim_miss3 (x : Int) : bsHit [⟨7, 2, 16777216 - x, x⟩] ⟨7, 4, 0, 0⟩ = false := by
  simp [bsHit, lim_at3]
theorem lim_add3 (x : Int) (h0 : 0 ≤ x) (h1 : x < 16777216) : addR threeX 5 threeT 8 [⟨7, 2, 16777216 - x, x⟩] 7 4 16777216 = ([⟨7, 2, 16777216 - x, x⟩, ⟨7, 4, 16777216, 0⟩], 0) := by
  unfold addR
  rw [lim_res1 (16777216 - x) x (by omega) (by omega) (by omega) (by omega), if_neg (by simp), if_neg (by decide), if_neg (by omega), if_neg (by simp [sumAll] <;> omega)]
  unfold giveL
  rw [if_neg (by omega), if_neg (by rw [lim_miss3]; simp), lim_at3]
  rfl
theorem lim_add4 (x : Int) (h0 : 0 ≤ x) (h1 : x < 16777216) : addR threeX 5 threeT 8 [⟨7, 2, 16777216 - x, x⟩, ⟨7, 4, 16777216, 0⟩] 7 2 1 = ([], 7) := by
  unfold addR
  rw [lim_res2 (16777216 - x) x 16777216 0 (by omega) (by omega) (by omega) (by omega) (by omega) (by omega) (by omega), if_neg (by simp), if_neg (by decide), if_neg (by omega), if_pos (by simp [sumAll] <;> omega)]
theorem lim_hit4 (x : Int) : bsHit [⟨7, 2, 16777216 - x, x⟩, ⟨7, 4, 16777216, 0⟩] ⟨7, 2, 0, 0⟩ = true := by
  simp [bsHit, bsAt, bsGo, ordR]
theorem lim_pages (x : Int) : sumC (fun y => y.a == 7) [⟨7, 2, 16777216 - x, x⟩, ⟨7, 4, 16777216, 0⟩] = 33554432 - x ∧ sumD (fun y => y.a == 7) [⟨7, 2, 16777216 - x, x⟩, ⟨7, 4, 16777216, 0⟩] = x := by
  constructor
  · show 16777216 - x + (16777216 + 0) = _; omega
  · show x + (0 + 0) = _; omega

end Go.Proofs.Ytdkcdplpefpgjaa
