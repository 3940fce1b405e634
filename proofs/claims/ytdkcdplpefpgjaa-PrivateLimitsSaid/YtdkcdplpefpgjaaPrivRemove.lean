/-
  private.Remove, of a tree that is well-formed.
-/
import Derived.Test.YtdkcdplpefpgjaaTreeFind
import Derived.Test.YtdkcdplpefpgjaaGive
set_option linter.unusedSimpArgs false
set_option linter.unusedVariables false
namespace Go.Proofs.Ytdkcdplpefpgjaa
open Go.RowKit Gc

def rmKeep (g : Int) (ls : List Q4) : List Q4 := ls.filter fun x => !(x.b == g)
/-- the second loop of private.Remove -/
def rmGo (g par : Int) (ls out : List Q4) : List Q4 := ls.foldl (fun o x => if x.b = g then giveL o x.a par x.c x.d else o) out

theorem rmGo_snoc (g par : Int) (ls out : List Q4) (k : Nat) (h : k < ls.length) : rmGo g par (ls.take (k + 1)) out = if ls[k].b = g then giveL (rmGo g par (ls.take k) out) ls[k].a par ls[k].c ls[k].d else rmGo g par (ls.take k) out := by
  unfold rmGo
  rw [take_snoc _ _ h, List.foldl_append]
  rfl
theorem rmKeep_hit (g : Int) (ls : List Q4) (k : Nat) (h : k < ls.length) (e : ¬ ls[k].b = g) : rmKeep g (ls.take (k + 1)) = rmKeep g (ls.take k) ++ [ls[k]] := by
  unfold rmKeep
  rw [take_snoc _ _ h, List.filter_append]
  simp [e]
theorem rmKeep_miss (g : Int) (ls : List Q4) (k : Nat) (h : k < ls.length) (e : ls[k].b = g) : rmKeep g (ls.take (k + 1)) = rmKeep g (ls.take k) := by
  unfold rmKeep
  rw [take_snoc _ _ h, List.filter_append]
  simp [e]
theorem rmKeep_len (g : Int) (ls : List Q4) : (rmKeep g ls).length ≤ ls.length := List.length_filter_le _ _

set_option maxRecDepth 100000 in
set_option maxHeartbeats 4000000 in
theorem remove_ok (A : Option Addr) (c : Nat) (xs : List Grp) (next : Int) (D : Option Addr) (e : Nat) (ls : List Q4) (g : Int) (w : World) (hA : Rd w 6 A (xs.map Grp.cells)) (hok : ∀ x ∈ xs, x.ok) (hlA : xs.length ≤ 140737488351232) (hcap : xs.length ≤ c) (hck : checkB xs next = true)
    (hD : Rd w 4 D (ls.map Q4.cells)) (hs : Small ls) (hg1 : ¬ g = 1) (hnode : (nodeAt xs g).2 = true)
    (hgive : ∀ k (h : k < ls.length), ls[k].b = g → Small (rmGo g (nodeAt xs g).1.parent (ls.take k) (rmKeep g ls)) ∧ (ls[k].c + ls[k].d = 0 ∨ bsHit (rmGo g (nodeAt xs g).1.parent (ls.take k) (rmKeep g ls)) ⟨ls[k].a, (nodeAt xs g).1.parent, 0, 0⟩ = true ∨ bsAt (rmGo g (nodeAt xs g).1.parent (ls.take k) (rmKeep g ls)) ⟨ls[k].a, (nodeAt xs g).1.parent, 0, 0⟩ = (rmGo g (nodeAt xs g).1.parent (ls.take k) (rmKeep g ls)).length)) :
    Calls Try.prog 54 #[.agg #[.slice A xs.length c, .int .i64 next], .slice D ls.length e, .int .i64 g] w fun e w' => ∃ v, e = .returned v ∧ Own w' w.heap.size 89 4 v ((rmGo g (nodeAt xs g).1.parent ls (rmKeep g ls)).map Q4.cells) ∧ Below w.heap.size w w' := by
  have hlD := hs.1
  have HF := Lib.hid (fun W h => treeFind_ok A c xs next g W h hok hlA hcap hck)
  have hB1 : Below w.heap.size w (w.alloc (.cells #[.slice A xs.length c, .int .i64 next] 25)) := (Below.refl _ _).alloc (Nat.le_refl _) _
  have hA1 := hA.below hB1 (Nat.le_refl _)
  have hD1 := hD.below hB1 (Nat.le_refl _)
  have HS := Lib.hid hs
  have HG := Lib.hid hgive
  clear hgive hs
  generalize nodeAt xs g = L at *
  obtain ⟨⟨l1, l2, l3, l4, l5, l6⟩, lok⟩ := L
  simp only at hnode
  subst hnode
  simp only [Grp.cells] at HF
  have g1 : (g == 1) = false := by simpa using hg1
  clear hck hA hD
  go_enter Try.func54, Try.ntmps54
  go_wp2_with fail
  generalize hWx : w.alloc _ = W1 at *
  clear hWx
  refine (HF.out W1 hA1).mono ?_
  rintro e0 W ⟨rfl, hb⟩
  have hD2 := hD1.below hb (Nat.le_refl _)
  have hB2 := hB1.trans (hb.mono hB1.size)
  have b2 := Box.mk W [.int .i64 l1, .int .i64 l2, .string l3, .int .i64 l4, .int .i64 l5, .int .i64 l6] 58
  have hB3 : Below W.heap.size W (W.alloc (.cells #[.int .i64 l1, .int .i64 l2, .string l3, .int .i64 l4, .int .i64 l5, .int .i64 l6] 58)) := (Below.refl _ _).alloc (Nat.le_refl _) _
  have hD3 := hD2.below hB3 (Nat.le_refl _)
  clear HF hA1 hD1 hb
  go_wp2
  generalize hWx : W.alloc _ = W2 at *
  clear hWx
  have z2 := b2.lt
  have hB4 := hB2.trans (hB3.mono hB2.size)
  have zw := hB2.size
  go_loopw [9, 30] (fun u i wr => ∃ k : Nat, k ≤ ls.length ∧ i = .int .i64 k ∧ Aside (Own wr W2.heap.size 89 4 u ((rmKeep g (ls.take k)).map Q4.cells)) ∧ Below W2.heap.size W2 wr)
    (fun _ i _ => ls.length - (intOf i).toNat)
  case atStart => exact ⟨0, Nat.zero_le _, rfl, (show Own _ _ _ _ _ _ from Own.nil _ _ _ _), Below.refl _ _⟩
  case round =>
    obtain ⟨k, hk, rfl, hown, hB⟩ := hrel
    have zr := hB.size
    by_cases hlt : k < ls.length
    · have hki : (k : Int) < (ls.length : Int) := by omega
      obtain ⟨b, o, rfl, hbs, hc⟩ := (hD3.below hB (Nat.le_refl _)).row (i := k) (c := ls[k].cells) (map_at _ hlt)
      have hlen := rmKeep_len g (ls.take k)
      rw [List.length_take_of_le hk] at hlen
      have hhit := Lib.hid (rmKeep_hit g ls k hlt)
      have hmiss := Lib.hid (rmKeep_miss g ls k hlt)
      generalize ls[k] = x at *
      obtain ⟨xa, xb, xc, xd⟩ := x
      simp only [Q4.cells, CellsFrom, Nat.add_zero, Nat.zero_add, Nat.reduceAdd] at hc
      obtain ⟨c0, c1, c2, c3, -⟩ := hc
      cases hp : (xb != g) with
      | true =>
        have HE := Lib.hid (hhit.out (by simpa using hp))
        have hx := (hown.out.alloc (.cells #[.int .i64 xa, .int .i64 xb, .int .i64 xc, .int .i64 xd] 89))
        have hxB := hB.alloc zr (.cells #[.int .i64 xa, .int .i64 xb, .int .i64 xc, .int .i64 xd] 89)
        have hz9 := hxB.size
        go_wp2_with (at_builtin; refine app1 (w := wr.alloc (.cells #[.int .i64 xa, .int .i64 xb, .int .i64 xc, .int .i64 xd] 89)) siRes [.int .i64 xa, .int .i64 xb, .int .i64 xc, .int .i64 xd] rfl _ _ rfl rfl rfl hx (by simp) rfl rfl (by simp; omega) (by omega) hz9 hxB ?_; intro v9 w9 hown9 hB9 hg9 hat9)
        go_roundw
        case rel => exact ⟨k + 1, by omega, by go_num, (show Own _ _ _ _ _ _ by rw [HE.out, List.map_append]; exact hown9), hB9⟩
        case measure => simp [intOf]; omega
      | false =>
        have HE := Lib.hid (hmiss.out (by simpa using hp))
        go_wp2
        go_roundw
        case rel => exact ⟨k + 1, by omega, by go_num, (show Own _ _ _ _ _ _ by rw [HE.out]; exact hown.out.alloc _), hB.alloc zr _⟩
        case measure => simp [intOf]; omega
    · obtain rfl : k = ls.length := by omega
      have hki : ¬ (ls.length : Int) < (ls.length : Int) := by omega
      have ho := hown.out
      rw [List.take_length] at ho
      have HO := Lib.hid ho
      clear ho hown
      have hD4 := hD3.below hB (Nat.le_refl _)
      have b5 := b2.below hB (Nat.le_refl _)
      go_wp2
      go_loopw [9, 45] (fun u i wr2 => ∃ k : Nat, k ≤ ls.length ∧ i = .int .i64 k ∧ Aside (Own wr2 W2.heap.size 89 4 u ((rmGo g l2 (ls.take k) (rmKeep g ls)).map Q4.cells)) ∧ Below W2.heap.size W2 wr2)
        (fun _ i _ => ls.length - (intOf i).toNat)
      case atStart => exact ⟨0, Nat.zero_le _, rfl, HO.out, hB⟩
      case round =>
        obtain ⟨k, hk, rfl, hown, hB2'⟩ := hrel
        have zr2 := hB2'.size
        by_cases hlt2 : k < ls.length
        · have hki2 : (k : Int) < (ls.length : Int) := by omega
          obtain ⟨b, o, rfl, hbs, hc⟩ := (hD3.below hB2' (Nat.le_refl _)).row (i := k) (c := ls[k].cells) (map_at _ hlt2)
          obtain ⟨n0, n1, n2, n3, n4, n5, -⟩ := ((b2.below hB2' (Nat.le_refl _)).alloc (.cells ls[k].cells.toArray 89)).cells
          have hsn := Lib.hid (rmGo_snoc g l2 ls (rmKeep g ls) k hlt2)
          have hgv := Lib.hid (HG.out k hlt2)
          have hm := HS.out.2 _ (List.getElem_mem hlt2)
          generalize ls[k] = x at *
          obtain ⟨xa, xb, xc, xd⟩ := x
          simp only [Q4.cells, CellsFrom, Nat.add_zero, Nat.zero_add, Nat.reduceAdd] at hc n0 n1 n2 n3 n4 n5 hm
          obtain ⟨c0, c1, c2, c3, -⟩ := hc
          cases hp : (xb == g) with
          | true =>
            have hbg : xb = g := by simpa using hp
            obtain ⟨hsm, hcond⟩ := hgv.out hbg
            have HE := Lib.hid (show rmGo g l2 (ls.take (k + 1)) (rmKeep g ls) = giveL (rmGo g l2 (ls.take k) (rmKeep g ls)) xa l2 xc xd by rw [hsn.out, if_pos hbg])
            have hcl := Lib.hid (give_c W2.heap.size _ (rmGo g l2 (ls.take k) (rmKeep g ls)) xa l2 xc xd _ (hown.out.alloc (.cells #[.int .i64 xa, .int .i64 xb, .int .i64 xc, .int .i64 xd] 89)) (by simp; omega) hsm ⟨hm.1, hm.2.1⟩ hm.2.2 hcond)
            have HHB := Lib.hid hbg
            clear hcond hsm hbg
            go_wp2_with (go_at_call 50; refine hcl.out.mono ?_; rintro e9 w9 ⟨v9, rfl, hown9, hb9⟩)
            go_roundw
            case rel => exact ⟨k + 1, by omega, by go_num, (show Own _ _ _ _ _ _ by rw [HE.out]; exact hown9), (hB2'.alloc zr2 _).trans hb9⟩
            case measure => simp [intOf]; omega
          | false =>
            have HE := Lib.hid (show rmGo g l2 (ls.take (k + 1)) (rmKeep g ls) = rmGo g l2 (ls.take k) (rmKeep g ls) by rw [hsn.out, if_neg (by simpa using hp)])
            go_wp2
            go_roundw
            case rel => exact ⟨k + 1, by omega, by go_num, (show Own _ _ _ _ _ _ by rw [HE.out]; exact hown.out.alloc _), hB2'.alloc zr2 _⟩
            case measure => simp [intOf]; omega
        · obtain rfl : k = ls.length := by omega
          have ho := hown.out
          rw [List.take_length] at ho
          have HO2 := Lib.hid ho
          clear ho hown
          go_wp2
          go_ret
          exact ⟨_, rfl, HO2.out.base (by omega), hB4.trans (hB2'.mono (by omega))⟩

end Go.Proofs.Ytdkcdplpefpgjaa
