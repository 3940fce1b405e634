/-
  name.check, name.Split, name.names; strings.CutPrefix, strings.Split at a slash.
-/
import Derived.Test.YtmbffobifiidnaaDoorShelfName
import Derived.Test.YtmbffobifiidnaaDoorNameP
import Derived.Test.YtmbffobifiidnaaDoorValid
import Derived.Test.YtmbffobifiidnaaDoorTreeP
set_option linter.unusedSimpArgs false
set_option linter.unusedVariables false
namespace Go.Proofs.YtmbffobifiidnaaDoor
open Go.RowKit Gc

theorem rd_strs {w : World} {b : Nat} {T : TypeId} {l : List ByteArray} (h : w.heap[b]? = some (.cells (l.map Value.string).toArray T (0, 0))) : Rd w 1 (some ⟨b, 0, none⟩) (l.map scell) := by
  intro i hi
  have hi' : i < l.length := by simpa using hi
  refine ⟨b, 0, rfl, (Array.getElem?_eq_some_iff.1 h).1, ?_⟩
  simp only [List.getElem_map, scell, CellsFrom, and_true]
  rw [cell_of_row w b _ _ T (0, 0) h]
  simp [List.getElem?_eq_getElem hi']

theorem strSplit_c (s : ByteArray) (w : World) (hs : s.size < 4294967281) :
    Calls Tryd.prog 29 #[.string s, .string ⟨#[47]⟩] w fun e w' => e = .returned (.slice (some ⟨w.heap.size, 0, none⟩) (piecesS s).length (piecesS s).length) ∧ w' = w.alloc (.cells ((piecesS s).map Value.string).toArray 9) := by
  have hlen := Lib.splitB_all ⟨#[47]⟩ (by decide) 0 _ s rfl
  have hle := Lib.countB_le ⟨#[47]⟩ (by decide) s.size s (Nat.le_refl _)
  have hI : ∀ (x : ByteArray) (c : Array Value), x.size ≤ s.size → Calls Tryd.prog 45 #[.string x, .string ⟨#[47]⟩] (w.alloc (.cells c 9)) fun e w' => e = .returned (.int .i64 (Lib.indexB x ⟨#[47]⟩)) ∧ w' = w.alloc (.cells c 9) := by
    intro x c _
    refine (Any.strings_Index_one Tryd.lays143 x 47 _).mono ?_
    rintro e w' ⟨he, hw⟩
    refine ⟨?_, hw⟩
    rw [he]
    show _ = Ending.returned (Value.int .i64 (Lib.index x.data.toList [47]))
    rw [Lib.index_one]
  have hC : Calls Tryd.prog 44 #[.string s, .string ⟨#[47]⟩] w fun e w' => e = .returned (.int .i64 (Lib.countB s ⟨#[47]⟩)) ∧ w' = w := by
    refine (Any.strings_Count_one Tryd.lays138 s 47 w).mono ?_
    rintro e w' ⟨he, hw⟩
    refine ⟨?_, hw⟩
    rw [he]
    show _ = Ending.returned (Value.int .i64 ((Lib.count s.data.toList [47] : Nat) : Int))
    rw [Lib.count_one]
    rfl
  have c := Any.strings_genSplit_core Tryd.lays221 (by kernel_rfl) s ⟨#[47]⟩ 0 (-1) (Lib.countB s ⟨#[47]⟩ + 1) w hs (by decide) (by decide) hI hC (by decide) (by decide) (by rw [if_pos (by decide)]; omega)
  rw [Nat.add_sub_cancel, hlen] at c
  have e2 : Lib.cellsOf (Lib.splitB ⟨#[47]⟩ 0 (Lib.countB s ⟨#[47]⟩) s) (Lib.countB s ⟨#[47]⟩ + 1) = ((Lib.splitB ⟨#[47]⟩ 0 (Lib.countB s ⟨#[47]⟩) s).map Value.string).toArray := by rw [← hlen]; exact Lib.cellsOf_full _
  rw [e2, splitB_all', show (splitL s.data.toList).map mkB = piecesS s from rfl] at c
  rw [splitB_all', show ((splitL s.data.toList).map mkB).length = (piecesS s).length from rfl] at hlen
  rw [← hlen] at c
  have HC := Lib.hid c
  clear c hI hC hlen hle e2
  go_enter Tryd.func29, Tryd.ntmps29
  go_wp2_with fail
  refine HC.out.mono ?_
  rintro e w' ⟨rfl, hw⟩
  subst hw
  go_wp2_with fail
  go_ret
  exact ⟨rfl, rfl⟩

theorem idx_any {α : Type} (p : α → Bool) (xs : List α) : decide (0 ≤ idx p xs) = xs.any p := by
  unfold idx
  cases h : xs.findIdx? p with
  | none =>
    rw [List.findIdx?_eq_none_iff] at h
    rw [show xs.any p = false by rw [List.any_eq_false]; intro x hx; simp [h x hx]]
    rfl
  | some i =>
    rw [List.findIdx?_eq_some_iff_getElem] at h
    obtain ⟨hi, hp, -⟩ := h
    rw [show xs.any p = true from List.any_eq_true.2 ⟨_, List.getElem_mem hi, hp⟩]
    exact decide_eq_true (by show (0 : Int) ≤ (i : Int); omega)

set_option maxRecDepth 100000 in
set_option maxHeartbeats 1000000 in
theorem checkF_c (s : ByteArray) (w : World) (hs : s.size ≤ 140737488351232) :
    Calls Tryd.prog 37 #[.string s] w fun e w' => e = .returned (.bool (!validB s)) ∧ Below w.heap.size w w' := by
  have hv := Lib.hid (valid_c s w hs)
  go_enter Tryd.func37, Tryd.ntmps37
  go_wp2_with fail
  refine hv.out.mono ?_
  rintro e w' ⟨rfl, hb⟩
  go_wp2_with fail
  go_ret
  exact ⟨rfl, hb⟩

set_option maxRecDepth 100000 in
set_option maxHeartbeats 1000000 in
theorem indexStr_c (A : Option Addr) (c : Nat) (xs : List ByteArray) (w : World) (h : Rd w 1 A (xs.map scell)) (hl : xs.length ≤ 140737488351232) (hsz : ∀ x ∈ xs, x.size ≤ 140737488351232) :
    Calls Tryd.prog 46 #[.slice A xs.length c, .func (.func 37) #[] #[]] w fun e w' => e = .returned (.int .i64 (idx (fun x => !validB x) xs)) ∧ Below w.heap.size w w' := by
  have eg : ∀ args w, (callFunc 37 args).run Tryd.prog w = .ok (.enter 37 args) w := enters_of Tryd.func37 (by kernel_rfl) rfl
  go_enter Tryd.func46, Tryd.ntmps46
  go_wp2
  go_loopw [8] (fun i wr => ∃ k : Nat, k ≤ xs.length ∧ i = .int .i64 k ∧ Below w.heap.size w wr ∧ Hid ((xs.take k).all (fun x => !(!validB x)) = true)) (fun i _ => xs.length - (intOf i).toNat)
  case atStart => exact ⟨0, Nat.zero_le _, rfl, Below.refl _ _, rfl⟩
  case round =>
    obtain ⟨k, hk, rfl, hB, hall⟩ := hrel
    by_cases hlt : k < xs.length
    · obtain ⟨b, o, rfl, hbs, hc⟩ := (h.below hB (Nat.le_refl _)).row (i := k) (c := scell xs[k]) (by simp [hlt])
      simp only [scell, CellsFrom, Nat.add_zero, Nat.mul_one] at hc
      obtain ⟨h0, -⟩ := hc
      have hcall := checkF_c xs[k] wr (hsz _ (List.getElem_mem hlt))
      have hlti : (k : Int) < (xs.length : Int) := by omega
      have HI := fun (hp : (!validB xs[k]) = true) => idx_hit (fun x => !validB x) xs k hlt hp hall.out
      have HN := fun (hp : (!(!validB xs[k])) = true) => all_snoc (p := fun x => !(!validB x)) hlt hall.out hp
      have HI := Lib.hid HI
      have HN := Lib.hid HN
      clear hsz
      generalize xs[k] = x at *
      cases hq : (!validB x) with
      | true =>
        rw [hq] at hcall
        have HQ := Lib.hid hq
        clear hq
        go_wp2_with (go_at_fn 37; refine hcall.mono ?_; rintro e w' ⟨rfl, hb''⟩; have hb' := hB.trans (hb''.mono hB.size))
        go_ret
        exact ⟨by rw [HI.out HQ.out]; rfl, hb'⟩
      | false =>
        rw [hq] at hcall
        have HQ := Lib.hid hq
        clear hq
        go_wp2_with (go_at_fn 37; refine hcall.mono ?_; rintro e w' ⟨rfl, hb''⟩; have hb' := hB.trans (hb''.mono hB.size))
        go_roundw
        case rel => exact ⟨k + 1, by omega, by go_num, hb', (show _ = _ from HN.out (by rw [HQ.out]; rfl))⟩
        case measure => simp [intOf]; omega
    · have hk' : k = xs.length := by omega
      subst hk'
      clear hsz
      go_wp2
      go_ret
      have := hall.out
      rw [List.take_length] at this
      exact ⟨by rw [idx_miss (fun x => !validB x) xs this]; rfl, hB⟩

set_option maxRecDepth 100000 in
set_option maxHeartbeats 1000000 in
theorem containsStr_c (A : Option Addr) (c : Nat) (xs : List ByteArray) (w : World) (h : Rd w 1 A (xs.map scell)) (hl : xs.length ≤ 140737488351232) (hsz : ∀ x ∈ xs, x.size ≤ 140737488351232) :
    Calls Tryd.prog 36 #[.slice A xs.length c, .func (.func 37) #[] #[]] w fun e w' => e = .returned (.bool (xs.any (fun x => !validB x))) ∧ Below w.heap.size w w' := by
  have hi := Lib.hid (indexStr_c A c xs w h hl hsz)
  have he := Lib.hid (idx_any (fun x => !validB x) xs)
  clear hsz h
  go_enter Tryd.func36, Tryd.ntmps36
  go_wp2_with fail
  refine hi.out.mono ?_
  rintro e w' ⟨rfl, hb⟩
  go_wp2_with fail
  go_ret
  exact ⟨ret_bool he.out, hb⟩

theorem check_if (xs : List ByteArray) : checkN xs = if xs.any (fun x => !validB x) = true then 2 else if 8 < xs.length then 7 else 0 := by
  unfold checkN
  have : xs.all validB = !(xs.any (fun x => !validB x)) := by rw [List.any_eq_not_all_not]; simp
  rw [this]
  cases xs.any (fun x => !validB x) <;> rfl

set_option maxRecDepth 100000 in
set_option maxHeartbeats 1000000 in
theorem check_c (A : Option Addr) (c : Nat) (xs : List ByteArray) (w : World) (h : Rd w 1 A (xs.map scell)) (hl : xs.length ≤ 140737488351232) (hsz : ∀ x ∈ xs, x.size ≤ 140737488351232) :
    Calls Tryd.prog 30 #[.slice A xs.length c] w fun e w' => e = .returned (.int .i64 (checkN xs)) ∧ Below w.heap.size w w' := by
  have hi := containsStr_c A c xs w h hl hsz
  have hR := Lib.hid (check_if xs)
  generalize xs.any (fun x => !validB x) = t at *
  have HI := Lib.hid hi
  clear hi hsz h
  by_cases h8 : 8 < xs.length
  · have h8' : (8 : Int) < (xs.length : Int) := by omega
    have HR := Lib.hid (show checkN xs = if t = true then 2 else 7 by rw [hR.out, if_pos h8])
    cases t
    all_goals
      go_enter Tryd.func30, Tryd.ntmps30
      go_wp2_with fail
      refine HI.out.mono ?_
      rintro e w' ⟨rfl, hb⟩
      go_wp2_with fail
      go_ret
      exact ⟨ret_int (by rw [HR.out]; rfl), hb⟩
  · have h8' : ¬ (8 : Int) < (xs.length : Int) := by omega
    have HR := Lib.hid (show checkN xs = if t = true then 2 else 0 by rw [hR.out, if_neg h8])
    cases t
    all_goals
      go_enter Tryd.func30, Tryd.ntmps30
      go_wp2_with fail
      refine HI.out.mono ?_
      rintro e w' ⟨rfl, hb⟩
      go_wp2_with fail
      go_ret
      exact ⟨ret_int (by rw [HR.out]; rfl), hb⟩
end Go.Proofs.YtmbffobifiidnaaDoor
