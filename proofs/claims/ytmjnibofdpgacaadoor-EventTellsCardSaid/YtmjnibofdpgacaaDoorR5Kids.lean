/-
  r5.Ancestors, r5.Children, r5.Depth.
-/
import Derived.Test.YtmjnibofdpgacaaDoorR5Find
import Derived.Test.YtmjnibofdpgacaaDoorForestKids
set_option linter.unusedSimpArgs false
set_option linter.unusedVariables false
namespace Gc
open Go Go.RowKit

def ancR (xs : List Grp) (next id : Int) : List Int := if hasR xs next id then upL xs id else []
def kidsR (xs : List Grp) (next id : Int) : List Int := if hasR xs next id then children xs id else []
theorem ancR_len (xs : List Grp) (next id : Int) : (ancR xs next id).length ≤ xs.length := by
  unfold ancR
  split
  · exact upGo_len xs _ _
  · simp
end Gc
namespace Go.Proofs.YtmjnibofdpgacaaDoor
open Go.RowKit Gc

set_option maxRecDepth 100000 in
set_option maxHeartbeats 1000000 in
theorem ranc_c (A : Option Addr) (c : Nat) (xs : List Grp) (next id : Int) (w : World) (hA : Rd w 6 A (xs.map Grp.cells)) (hok : ∀ x ∈ xs, x.ok) (hlA : xs.length ≤ 1048576) :
    Calls Tryd.prog 26 #[.agg #[.slice A xs.length c, .int .i64 next], .int .i64 id] w fun e w' => ∃ v, e = .returned v ∧ Own w' w.heap.size 3 1 v ((ancR xs next id).map icells) ∧ Below w.heap.size w w' := by
  have hB1 : Below w.heap.size w (w.alloc (.cells #[.slice A xs.length c, .int .i64 next] 24)) := (Below.refl _ _).alloc (Nat.le_refl _) _
  have hA1 := hA.below hB1 (Nat.le_refl _)
  have b1 := Box.mk w [.slice A xs.length c, .int .i64 next] 24
  have z1 := hB1.size
  have HH := Lib.hid (fun W hA => rhas_c A c xs next id W hA hok hlA)
  have HU := Lib.hid (fun W hA => up_c A c xs next id W hA hlA)
  have hR := Lib.hid (show ancR xs next id = if hasR xs next id then upL xs id else [] from rfl)
  go_enter Tryd.func26, Tryd.ntmps26
  go_wp2_with fail
  generalize hWx : w.alloc _ = W1 at *
  clear hWx hA
  refine (HH.out W1 hA1).mono ?_
  rintro e0 W2 ⟨rfl, hb⟩
  have hA2 := hA1.below hb (Nat.le_refl _)
  have b2 := b1.below hb (Nat.le_refl _)
  have hB2 := hB1.trans (hb.mono z1)
  obtain ⟨t0, t1, -⟩ := b2.cells
  simp only [Nat.zero_add, Nat.add_zero, Nat.reduceAdd] at t0 t1
  clear hA1 b1 hB1 hb HH
  cases g : hasR xs next id with
  | false =>
    have HR := Lib.hid (show ancR xs next id = [] by rw [hR.out, g]; rfl)
    clear g hR
    go_wp2
    go_ret
    exact ⟨.slice none 0 0, rfl, by rw [HR.out]; exact Own.nil _ _ _ _, hB2⟩
  | true =>
    have HR := Lib.hid (show ancR xs next id = upL xs id by rw [hR.out, g]; rfl)
    clear g hR
    go_wp2_with fail
    refine (HU.out W2 hA2).mono ?_
    rintro e0 W3 ⟨v, rfl, hown, hb⟩
    have hB3 := hB2.trans (hb.mono hB2.size)
    have z2 := hB2.size
    clear hb
    go_wp2
    go_ret
    exact ⟨_, rfl, by rw [HR.out]; exact hown.base z2, hB3⟩

set_option maxRecDepth 100000 in
set_option maxHeartbeats 1000000 in
theorem rdepth_c (A : Option Addr) (c : Nat) (xs : List Grp) (next id : Int) (w : World) (hA : Rd w 6 A (xs.map Grp.cells)) (hok : ∀ x ∈ xs, x.ok) (hlA : xs.length ≤ 1048576) :
    Calls Tryd.prog 66 #[.agg #[.slice A xs.length c, .int .i64 next], .int .i64 id] w fun e w' => e = .returned (.int .i64 (((ancR xs next id).length : Int) - 1)) ∧ Below w.heap.size w w' := by
  have hB1 : Below w.heap.size w (w.alloc (.cells #[.slice A xs.length c, .int .i64 next] 24)) := (Below.refl _ _).alloc (Nat.le_refl _) _
  have hA1 := hA.below hB1 (Nat.le_refl _)
  have HU := Lib.hid (fun W hA => ranc_c A c xs next id W hA hok hlA)
  have hl := ancR_len xs next id
  generalize ancR xs next id = an at *
  go_enter Tryd.func66, Tryd.ntmps66
  go_wp2_with fail
  generalize hWx : w.alloc _ = W1 at *
  clear hWx hA
  refine (HU.out W1 hA1).mono ?_
  rintro e0 W2 ⟨v, rfl, hown, hb⟩
  have hB2 := hB1.trans (hb.mono hB1.size)
  obtain ⟨A3, c3, rfl, -, -, -, -, -⟩ := hown.rd
  rw [List.length_map]
  have e3 : -9223372036854775808 ≤ (an.length : Int) - 1 ∧ (an.length : Int) - 1 ≤ 9223372036854775807 := by omega
  clear hown hb hB1
  go_wp2
  go_ret
  exact ⟨rfl, hB2⟩

set_option maxRecDepth 100000 in
set_option maxHeartbeats 4000000 in
theorem rkids_c (A : Option Addr) (c : Nat) (xs : List Grp) (next id : Int) (w : World) (hA : Rd w 6 A (xs.map Grp.cells)) (hok : ∀ x ∈ xs, x.ok) (hlA : xs.length ≤ 1048576) :
    Calls Tryd.prog 27 #[.agg #[.slice A xs.length c, .int .i64 next], .int .i64 id] w fun e w' => ∃ v, e = .returned v ∧ Own w' w.heap.size 3 1 v ((kidsR xs next id).map icells) ∧ Below w.heap.size w w' := by
  have hB1 : Below w.heap.size w (w.alloc (.cells #[.slice A xs.length c, .int .i64 next] 24)) := (Below.refl _ _).alloc (Nat.le_refl _) _
  have hA1 := hA.below hB1 (Nat.le_refl _)
  have b1 := Box.mk w [.slice A xs.length c, .int .i64 next] 24
  have z1 := hB1.size
  have HH := Lib.hid (fun W hA => rhas_c A c xs next id W hA hok hlA)
  have hR := Lib.hid (show kidsR xs next id = if hasR xs next id then children xs id else [] from rfl)
  go_enter Tryd.func27, Tryd.ntmps27
  go_wp2_with fail
  generalize hWx : w.alloc _ = W1 at *
  clear hWx hA
  refine (HH.out W1 hA1).mono ?_
  rintro e0 W2 ⟨rfl, hb⟩
  have hA2 := hA1.below hb (Nat.le_refl _)
  have b2 := b1.below hb (Nat.le_refl _)
  have hB2 := hB1.trans (hb.mono z1)
  have z2 := b2.lt
  clear hA1 b1 hB1 hb HH
  cases g : hasR xs next id with
  | false =>
    have HR := Lib.hid (show kidsR xs next id = [] by rw [hR.out, g]; rfl)
    clear g hR
    go_wp2
    go_ret
    exact ⟨.slice none 0 0, rfl, by rw [HR.out]; exact Own.nil _ _ _ _, hB2⟩
  | true =>
    have HR := Lib.hid (show kidsR xs next id = children xs id by rw [hR.out, g]; rfl)
    clear g hR
    go_wp2
    go_loopw [5, 6] (fun v i wr => ∃ k : Nat, k ≤ xs.length ∧ i = .int .i64 k ∧ Own wr W2.heap.size 3 1 v ((children (xs.take k) id).map icells) ∧ Below W2.heap.size W2 wr)
      (fun _ i _ => xs.length - (intOf i).toNat)
    case atStart => exact ⟨0, Nat.zero_le _, rfl, Own.nil _ _ _ _, Below.refl _ _⟩
    case round =>
      obtain ⟨k, hk, rfl, hown, hB⟩ := hrel
      have hBr := hB2.trans (hB.mono (by omega))
      have b3 := b2.below hB (Nat.le_refl _)
      have hA3 := hA2.below hB (Nat.le_refl _)
      have zr := hB.size
      obtain ⟨t0, t1, -⟩ := b3.cells
      simp only [Nat.zero_add, Nat.add_zero, Nat.reduceAdd] at t0 t1
      by_cases hlt : k < xs.length
      · have hki : (k : Int) < (xs.length : Int) := by omega
        have Hhit := Lib.hid (children_hit xs k hlt id)
        have Hmiss := Lib.hid (children_miss xs k hlt id)
        obtain ⟨b, o, rfl, hbs, hc⟩ := hA3.row (i := k) (c := xs[k].cells) (map_at _ hlt)
        have hle := children_le (xs.take k) id
        have hlen : ((children (xs.take k) id).map icells).length ≤ 1099511627776 := by rw [List.length_map]; simp at hle; omega
        generalize xs[k] = x at *
        obtain ⟨xi, xp, xn, xc, xk, xo⟩ := x
        simp only [Grp.cells, CellsFrom, Nat.add_zero, Nat.zero_add, Nat.reduceAdd] at hc
        obtain ⟨c0, c1, -⟩ := hc
        simp only at *
        cases g2 : (xp == id) with
        | true =>
          have HS := Lib.hid (Hhit.out (by simpa using g2))
          clear Hhit Hmiss
          go_wp2_with (at_builtin; refine app1 siInt (icells xi) rfl _ _ rfl rfl rfl hown rfl rfl rfl hlen (by omega) zr hB ?_; intro v5 w2 hown2 hBW2 hg2 hat2)
          go_roundw
          case rel => exact ⟨k + 1, by omega, by go_num, by rw [HS.out, List.map_append]; exact hown2, hBW2⟩
          case measure => simp [intOf] <;> omega
        | false =>
          have HS := Lib.hid (Hmiss.out (by simpa using g2))
          clear Hhit Hmiss
          go_wp2
          go_roundw
          case rel => exact ⟨k + 1, by omega, by go_num, by rw [HS.out]; exact hown, hB⟩
          case measure => simp [intOf] <;> omega
      · obtain rfl : k = xs.length := by omega
        have hki : ¬ (xs.length : Int) < (xs.length : Int) := by omega
        rw [List.take_length] at hown
        go_wp2
        go_ret
        exact ⟨_, rfl, by rw [HR.out]; exact hown.base (by omega), hBr⟩

end Go.Proofs.YtmjnibofdpgacaaDoor
