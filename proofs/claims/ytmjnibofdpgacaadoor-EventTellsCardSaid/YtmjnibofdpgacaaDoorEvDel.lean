/-
  slices.Delete of one tally.
-/
import Derived.Test.YtmjnibofdpgacaaDoorEvAdd
import Derived.Test.YtmjnibofdpgacaaDoorDel
set_option linter.unusedSimpArgs false
set_option linter.unusedVariables false
namespace Go.Proofs.YtmjnibofdpgacaaDoor
open Go.RowKit Gc

set_option maxRecDepth 100000 in
set_option maxHeartbeats 4000000 in
theorem delTal_c (B : Nat) (v : Value) (ls : List Tal) (i : Nat) (w : World) (hown : Own w B 47 7 v (ls.map Tal.cells)) (hi : i < ls.length) (hl : ls.length ≤ 1048576) :
    Calls Tryd.prog 37 #[v, .int .i64 i, .int .i64 ((i : Int) + 1)] w fun e w' => ∃ v', e = .returned v' ∧ Own w' B 47 7 v' ((ls.eraseIdx i).map Tal.cells) ∧ Below B w w' := by
  obtain ⟨g, cap, rfl, hn, hm, hBg, hgs, hf, hrd⟩ := hown.open' (by rw [List.length_map]; omega)
  rw [List.length_map] at *
  obtain ⟨-, -, -, -, rest, hbox, hblen⟩ := hown.box
  have hcells := Tal.cells_len ls
  have hdrop : ∀ d ∈ (ls.map Tal.cells).drop (i + 1), d.length = 7 := fun d hd => hcells d (List.mem_of_mem_drop hd)
  obtain ⟨news, hnews⟩ : ∃ news, news = ((ls.map Tal.cells).drop (i + 1)).flatten := ⟨_, rfl⟩
  have hnl : news.length = (ls.length - (i + 1)) * 7 := by rw [hnews, flat_len _ hdrop]; simp
  obtain ⟨ad, had, hR2⟩ : ∃ ad, cutA (some ⟨g, 0, none⟩) (i + 1) cap 7 = some ad ∧ Rd w 7 (some ad) ((ls.map Tal.cells).drop (i + 1)) := by
    have h := hrd.cut (l := i + 1) (c := cap) (by simpa using hn)
    unfold cutA at h ⊢
    split
    · rename_i hc; rw [if_pos hc] at h; exact ⟨_, rfl, h⟩
    · rename_i hc; rw [if_neg hc] at h; exact ⟨_, rfl, h⟩
  have hsrc := Lib.hid (fun j u => by have := (hR2.drew).flatAt hdrop j u; rw [← hnews] at this; exact this)
  have hone := Lib.hid (show ∀ u ∈ news, u.oneCell' = true by
    intro u hu
    rw [hnews] at hu
    obtain ⟨d, hd, hud⟩ := List.mem_flatten.1 hu
    exact List.all_eq_true.1 (Tal.cells_one ls d (List.mem_of_mem_drop hd)) u hud)
  have hspare := Lib.hid (show ∀ t, t < news.length → (w.drew.cell? ⟨g, 0 + i * 7 + t, none⟩).isSome = true ∧ w.drew.frozen? ⟨g, 0 + i * 7 + t, none⟩ = false by
    intro t ht
    have hlt : i * 7 + t < ((ls.map Tal.cells).flatten ++ rest).length := by
      rw [List.length_append, flat_len _ hcells, List.length_map]
      omega
    have := hbox.cells.at_ (i * 7 + t) _ (List.getElem?_eq_getElem hlt)
    refine ⟨?_, hf _⟩
    show (w.cell? _).isSome = true
    rw [show 0 + i * 7 + t = 0 + (0 + (i * 7 + t)) from by omega, this]
    rfl)
  have hu := Tryd.underlying30
  obtain ⟨_, _, ti, tz, hti, htz, hts, htb, htzs⟩ := siTal
  have hs1 : ∀ W, (Instr.slice 30 (.slice (some ⟨g, 0, none⟩) ls.length cap) none (some (.int .i64 i)) none).run Tryd.prog W = .ok (.slice (some ⟨g, 0, none⟩) i cap) W := fun W => by
    rw [cut_h siTal (some ⟨g, 0, none⟩) ls.length cap i (by omega) (i : Int) rfl .i64 W, cutA_zero]
  have hs2 : ∀ W, (Instr.slice 30 (.slice (some ⟨g, 0, none⟩) ls.length cap) (some (.int .i64 ((i : Int) + 1))) none none).run Tryd.prog W = .ok (.slice (some ad) (ls.length - (i + 1)) (cap - (i + 1))) W := fun W => by
    rw [cut_l siTal (some ⟨g, 0, none⟩) ls.length cap (i + 1) (by omega) ((i : Int) + 1) (by simp) .i64 W, had]
  obtain ⟨W1, hW1⟩ : ∃ W1, W1 = w.drew.setCells g (0 + i * 7) news := ⟨_, rfl⟩
  have HW1 := Lib.hid hW1
  have hfin := hown.drew.del (i := i) (by rw [List.length_map]; exact hi) (List.replicate 7 (.int .i64 0)) (by simp)
  rw [← hnews, show i * 7 = 0 + i * 7 from by omega, ← hW1, List.length_map] at hfin
  have hcl : ∀ ty, (Builtin.clear_ #[30] ty #[.slice (some ⟨g, (ls.length - 1) * 7, none⟩) 1 (cap - (ls.length - 1))]).run Tryd.prog W1 = .ok (.tuple #[]) (W1.setCells g ((ls.length - 1) * 7) (List.replicate 7 (.int .i64 0))) := fun ty => by
    have bx := Box.setCells news (0 + i * 7) (hbox.drewN 1)
    have : w.drewN 1 = w.drew := rfl
    rw [this, ← hW1] at bx
    have hsz : ∀ cs o (vs : List Value), (setMany cs o vs).length = cs.length := by
      intro cs o vs
      induction vs generalizing cs o with
      | nil => rfl
      | cons v r ih => simp only [setMany]; rw [ih, List.length_set]
    refine run_clear_one W1 30 47 ty (.agg #[.int .i64 0, .int .i64 0, .int .i64 0, .int .i64 0, .int .i64 0, .int .i64 0, .int .i64 0]) (List.replicate 7 (.int .i64 0)) Tryd.underlying30 Tryd.zeroValue47 (by kernel_rfl) (by intro u hu; rw [List.eq_of_mem_replicate hu]; rfl) g ((ls.length - 1) * 7) _ (fun t ht => ?_) (fun t _ => bx.fro _)
    have hlt : (ls.length - 1) * 7 + t < (setMany ((ls.map Tal.cells).flatten ++ rest) (0 + i * 7) news).length := by
      rw [hsz, List.length_append, flat_len _ hcells, List.length_map]
      simp at ht
      omega
    have := bx.cells.at_ ((ls.length - 1) * 7 + t) _ (List.getElem?_eq_getElem hlt)
    rw [show (ls.length - 1) * 7 + t = 0 + (0 + ((ls.length - 1) * 7 + t)) from by omega, this]
    rfl
  have key : i + (ls.length - (i + 1)) = ls.length - 1 := by omega
  have key1 : ls.length - (i + (ls.length - (i + 1))) = 1 := by omega
  have hcl2 : ∀ ty, (Builtin.clear_ #[30] ty #[.slice (some ⟨g, (i + (ls.length - (i + 1))) * 7, none⟩) (ls.length - (i + (ls.length - (i + 1)))) (cap - (i + (ls.length - (i + 1))))]).run Tryd.prog W1 = .ok (.tuple #[]) (W1.setCells g ((i + (ls.length - (i + 1))) * 7) (List.replicate 7 (.int .i64 0))) := fun ty => by
    rw [key1, key]
    exact hcl ty
  have HK := Lib.hid key
  clear hcl key key1
  have hE := Lib.hid (show (ls.eraseIdx i).map Tal.cells = (ls.map Tal.cells).eraseIdx i from by rw [List.eraseIdx_eq_take_drop_succ, List.eraseIdx_eq_take_drop_succ]; simp)
  have hB := below_setMany hBg (List.replicate 7 (.int .i64 0)) ((ls.length - 1) * 7) (below_setMany hBg news (0 + i * 7) ((Below.refl B w).drew))
  rw [← hW1] at hB
  have hne : ¬ ((i : Int) = (i : Int) + 1) := by omega
  have hi2 : (i : Int) + 1 ≤ (ls.length : Int) := by omega
  have hnc : (ls.length : Int) ≤ (cap : Int) := by omega
  clear hW1 hbox hblen hR2 hrd hf hnews hdrop hcells hown hn
  go_enter Tryd.func37, Tryd.ntmps37
  go_wp2_with fail
  go_region_law (refine step_append_room rfl (.tmp 22) (.tmp 25) 30 rfl 47 ti 7 hu hti hts g 0 i cap (by simp [Act.eval, Act.put]) ad (ls.length - (i + 1)) (cap - (i + 1)) news (by simp [Act.eval, Act.put]) hnl hsrc.out hone.out (by omega) hspare.out ?_; rw [← HW1.out])
  go_wp2
  go_ret
  rw [hE.out, HK.out]
  exact ⟨_, rfl, hfin, hB⟩

end Go.Proofs.YtmjnibofdpgacaaDoor
