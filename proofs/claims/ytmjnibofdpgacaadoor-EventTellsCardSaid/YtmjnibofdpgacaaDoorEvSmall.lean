/-
  law37.small, and what the tallies are there, plain.
-/
import Derived.Test.YtmjnibofdpgacaaDoorEvRemove
import Derived.Test.YtmjnibofdpgacaaDoorEvPoll
import Derived.Test.YtmjnibofdpgacaaDoorEvAdjust
import Derived.Test.YtmjnibofdpgacaaDoorEvText01
set_option linter.unusedSimpArgs false
set_option linter.unusedVariables false
namespace Go.Proofs.YtmjnibofdpgacaaDoor
open Go.RowKit Gc

def smallX : List Grp := [⟨1, 0, ⟨#[]⟩, 0, 0, 0⟩, ⟨2, 1, ⟨#[97]⟩, 0, 0, 0⟩, ⟨3, 2, ⟨#[98]⟩, 0, 0, 0⟩]
theorem small_ok : ∀ x ∈ smallX, x.ok := by
  intro x hx
  simp only [smallX, List.mem_cons, List.mem_nil_iff, or_false] at hx
  rcases hx with rfl | rfl | rfl <;> exact ⟨by decide, ⟨by decide, by decide⟩, ⟨by decide, by decide⟩, ⟨by decide, by decide⟩, ⟨by decide, by decide⟩, ⟨by decide, by decide⟩⟩
theorem small_check : checkB smallX 4 = true := by kernel_rfl
theorem small_new : (adjR smallX 4 []).1 = [⟨1, 0, 0, 0, 0, 0, 0⟩, ⟨2, 0, 0, 0, 0, 0, 0⟩, ⟨3, 0, 0, 0, 0, 0, 0⟩] := by kernel_rfl

set_option maxRecDepth 100000 in
set_option maxHeartbeats 1000000 in
theorem small_c (w : World) : Calls Tryd.prog 8 #[] w fun e w' => ∃ a, e = .returned (.agg #[.slice (some a) 3 3, .int .i64 4]) ∧ Rd w' 6 (some a) (smallX.map Grp.cells) ∧ Below w.heap.size w w' := by
  go_enter Tryd.func8, Tryd.ntmps8
  go_wp2
  refine bodyPost_ret (results_box rfl _ _ rfl ((Box.mk w [.slice (some ⟨w.heap.size + 1, 0, none⟩) 3 3, .int .i64 4] 24).alloc _) Tryd.underlying24 rfl (by kernel_rfl)) rfl ?_
  refine ⟨_, rfl, ?_, ((Below.refl w.heap.size w).alloc (Nat.le_refl _) _).alloc (by simp) _⟩
  have h := Box.mk (w.alloc (.cells #[.slice (some ⟨w.heap.size + 1, 0, none⟩) 3 3, .int .i64 4] 24)) (smallX.map Grp.cells).flatten 54
  rw [show (w.alloc (.cells #[.slice (some ⟨w.heap.size + 1, 0, none⟩) 3 3, .int .i64 4] 24)).heap.size = w.heap.size + 1 from by simp] at h
  exact rd_box h (by simp [smallX, Grp.cells])

/-- tallies with counts of the kind 4 alone -/
def sS (p q : Int) : List Tal := [⟨1, 0, 0, 0, 0, 0, 0⟩, ⟨2, 0, 0, 0, 0, p, 0⟩, ⟨3, 0, 0, 0, 0, q, 0⟩]
theorem sS_add0 : addE smallX 4 (sS 0 0) 3 4 2 = (sS 0 2, 0) := by kernel_rfl
theorem sS_add1 : addE smallX 4 (sS 0 2) 2 4 1 = (sS 1 2, 0) := by kernel_rfl
theorem sS_tot : totR smallX 4 (sS 1 2) 2 4 = (3, 0) := by kernel_rfl
theorem sS_rem : remE smallX 4 (sS 1 2) 3 = ([⟨1, 0, 0, 0, 0, 0, 0⟩, ⟨2, 0, 0, 0, 0, 3, 0⟩], 0) := by kernel_rfl
theorem sS_poll : pollE smallX 4 (sS 1 2) [⟨2, 4, 0⟩] = ([⟨2, 4, 3⟩], [0], 0) := by kernel_rfl
theorem sS_own : ownE (sS 1 2) 2 4 = 1 := by kernel_rfl
theorem sS_own2 : ownE [⟨1, 0, 0, 0, 0, 0, 0⟩, ⟨2, 0, 0, 0, 0, 3, 0⟩] 2 4 = 3 := by kernel_rfl
theorem sS_valid : evB smallX 4 (sS 1 2) = true := by kernel_rfl
theorem sS_text : text01 (sS 1 2) 2 5 = ⟨#[108, 111, 119, 32, 48, 10, 104, 105, 103, 104, 32, 48, 10, 109, 97, 120, 32, 48, 10, 111, 111, 109, 32, 48, 10, 111, 111, 109, 95, 107, 105, 108, 108, 32, 49, 10]⟩ := by kernel_rfl
theorem sS_01 : ∀ k : Nat, k < 5 → ownE (sS 1 2) 2 k = 0 ∨ ownE (sS 1 2) 2 k = 1 := by
  intro k hk
  match k, hk with
  | 0, _ | 1, _ | 2, _ | 3, _ => exact .inl (by kernel_rfl)
  | 4, _ => exact .inr (by kernel_rfl)

/-- tallies with counts of the kind 2 alone -/
def sL (p q : Int) : List Tal := [⟨1, 0, 0, 0, 0, 0, 0⟩, ⟨2, 0, 0, p, 0, 0, 0⟩, ⟨3, 0, 0, q, 0, 0, 0⟩]
theorem sL_valid (p q : Int) (h0 : 0 ≤ p) (h1 : p ≤ 1099511627776) (h2 : 0 ≤ q) (h3 : q ≤ 1099511627776) : evB smallX 4 (sL p q) = true := by
  have e : evB smallX 4 (sL p q) = (checkB smallX 4 && (true && (true && ((true && (cntB 0 && (cntB 0 && (cntB p && (cntB 0 && (cntB 0 && cntB 0)))))) && ((true && (cntB 0 && (cntB 0 && (cntB q && (cntB 0 && (cntB 0 && cntB 0)))))) && true))))) := rfl
  have z : cntB 0 = true := by decide
  have hp : cntB p = true := by simp [cntB]; omega
  have hq : cntB q = true := by simp [cntB]; omega
  rw [e, small_check, z, hp, hq]
  rfl
theorem sL_small (p q : Int) (h0 : 0 ≤ p) (h1 : p ≤ 1099511627776) (h2 : 0 ≤ q) (h3 : q ≤ 1099511627776) (n : Int) : addE smallX 4 (sL p q) 3 2 n = if cntB n = false then ([], 3) else if 1099511627776 < q + n then ([], 7) else (sL p (q + n), 0) := by
  have e : addE smallX 4 (sL p q) 3 2 n = if evB smallX 4 (sL p q) = false then ([], 1) else if cntB n = false then ([], 3) else if 1099511627776 < q + n then ([], 7) else (sL p (q + n), 0) := rfl
  rw [e, sL_valid p q h0 h1 h2 h3, if_neg (by simp)]
theorem sL_small2 (p q : Int) (h0 : 0 ≤ p) (h1 : p ≤ 1099511627776) (h2 : 0 ≤ q) (h3 : q ≤ 1099511627776) (n : Int) : addE smallX 4 (sL p q) 2 2 n = if cntB n = false then ([], 3) else if 1099511627776 < p + n then ([], 7) else (sL (p + n) q, 0) := by
  have e : addE smallX 4 (sL p q) 2 2 n = if evB smallX 4 (sL p q) = false then ([], 1) else if cntB n = false then ([], 3) else if 1099511627776 < p + n then ([], 7) else (sL (p + n) q, 0) := rfl
  rw [e, sL_valid p q h0 h1 h2 h3, if_neg (by simp)]
theorem sL_own3 (p q : Int) : ownE (sL p q) 3 2 = q := rfl
theorem sL_rem (p q : Int) (h0 : 0 ≤ p) (h1 : p ≤ 1099511627776) (h2 : 0 ≤ q) (h3 : q ≤ 1099511627776) : remE smallX 4 (sL p q) 3 = ([⟨1, 0, 0, 0, 0, 0, 0⟩, ⟨2, 0, 0, min (p + q) 1099511627776, 0, 0, 0⟩], 0) := by
  have e : remE smallX 4 (sL p q) 3 = if evB smallX 4 (sL p q) = false then ([], 1) else ([⟨1, 0, 0, 0, 0, 0, 0⟩, ⟨2, min (0 + 0) 1099511627776, min (0 + 0) 1099511627776, min (p + q) 1099511627776, min (0 + 0) 1099511627776, min (0 + 0) 1099511627776, min (0 + 0) 1099511627776⟩], 0) := rfl
  rw [e, sL_valid p q h0 h1 h2 h3, if_neg (by simp)]
  rfl
theorem sL_own2 (p : Int) : ownE [⟨1, 0, 0, 0, 0, 0, 0⟩, ⟨2, 0, 0, p, 0, 0, 0⟩] 2 2 = p := rfl
theorem sL_poll (p q : Int) (h0 : 0 ≤ p) (h1 : p ≤ 1099511627776) (h2 : 0 ≤ q) (h3 : q ≤ 1099511627776) (ws : List Wat) (h : ws.length ≤ 32) : (pollE smallX 4 (sL p q) ws).2.2 = 0 := by
  unfold pollE
  rw [sL_valid p q h0 h1 h2 h3, if_neg (by simp), if_neg (by omega)]
theorem sL_poll33 (p q : Int) (h0 : 0 ≤ p) (h1 : p ≤ 1099511627776) (h2 : 0 ≤ q) (h3 : q ≤ 1099511627776) (ws : List Wat) (h : ws.length = 33) : (pollE smallX 4 (sL p q) ws).2.2 = 7 := by
  unfold pollE
  rw [sL_valid p q h0 h1 h2 h3, if_neg (by simp), if_pos (by omega)]

end Go.Proofs.YtmjnibofdpgacaaDoor
