/-
  forest.Subtree: the loop over what is still to be looked at ('subGo').
-/
import Derived.Test.YtmjnibofdpgacaaDoorProg
import Derived.Test.YtmjnibofdpgacaaDoorForestKids
import Derived.Deep.RegionHeld3
set_option linter.unusedSimpArgs false
set_option linter.unusedVariables false
namespace Go.Proofs.YtmjnibofdpgacaaDoor
open Go.RowKit Gc

theorem icells_len (l : List Int) : ∀ d ∈ l.map icells, d.length = 1 := by intro d hd; obtain ⟨x, _, rfl⟩ := List.mem_map.1 hd; rfl
theorem icells_one (l : List Int) : ∀ d ∈ l.map icells, d.all Value.oneCell' = true := by intro d hd; obtain ⟨x, _, rfl⟩ := List.mem_map.1 hd; rfl

set_option maxRecDepth 100000 in
set_option maxHeartbeats 1000000 in
theorem subtree_c (A : Option Addr) (c : Nat) (xs : List Grp) (next id : Int) (w : World) (h : Rd w 6 A (xs.map Grp.cells)) (hl : xs.length ≤ 1048576) :
    Calls Tryd.prog 62 #[.agg #[.slice A xs.length c, .int .i64 next], .int .i64 id] w fun e w' => ∃ v, e = .returned v ∧
       Own w' w.heap.size 3 1 v ((subtree xs id).map icells) ∧ Below w.heap.size w w' := by
  have hat := fun W (hW : Rd W 6 A (xs.map Grp.cells)) => at_c A c xs next id W hW (by omega)
  have hB0 : Below w.heap.size w (w.alloc (.cells #[.slice A xs.length c, .int .i64 next] 24)) := (Below.refl _ _).alloc (Nat.le_refl _) _
  by_cases hin : xs.any (fun x => x.id == id) = true
  · have hz : 0 ≤ idx (fun x => x.id == id) xs := idx_nonneg hin
    have HS := Lib.hid (show subtree xs id = subGo xs xs.length [id] [] by simp only [subtree, hin, if_true])
    clear hin
    generalize idx (fun x => x.id == id) xs = z at *
    go_enter Tryd.func62, Tryd.ntmps62
    go_wp2_with (go_at_call 77; refine (hat _ (h.alloc _)).mono ?_; rintro e w1 ⟨rfl, hb1⟩)
    have hB1 : Below w.heap.size w w1 := hB0.trans (hb1.mono (by simp))
    have ht0 : w1.cell? ⟨w.heap.size, 0, none⟩ = some (.slice A xs.length c) := (hb1.cell (p := ⟨w.heap.size, 0, none⟩) (by simp)).trans (by simp)
    have ht1 : w1.cell? ⟨w.heap.size, 1, none⟩ = some (.int .i64 next) := (hb1.cell (p := ⟨w.heap.size, 1, none⟩) (by simp)).trans (by simp)
    have hs1 : w.heap.size + 1 ≤ w1.heap.size := by have := hb1.size; simp at this; omega
    clear hat hb1
    go_loopw [5, 6] (fun v5 v6 wr => ∃ (out todo : List Int) (A' : Option Addr) (c' : Nat), v6 = .slice A' todo.length c' ∧ Rd wr 1 A' (todo.map icells) ∧ todo.length ≤ c' ∧ Own wr (w.heap.size + 1) 3 1 v5 (out.map icells) ∧
        (∀ b, blk A' = some b → w.heap.size + 1 ≤ b ∧ v5.ownBlock ≠ some b) ∧ out.length ≤ xs.length ∧ todo.length ≤ 1 + out.length * xs.length ∧ Below (w.heap.size + 1) w1 wr ∧ Hid (subGo xs (xs.length - out.length) todo out = subGo xs xs.length [id] []))
      (fun v5 _ _ => xs.length - lenOf v5)
    case atStart =>
      refine ⟨[], [id], _, 1, rfl, fun i hi => ?_, by simp, Own.nil _ _ _ _, fun b hb => ?_, by simp, by simp, (Below.refl _ _).alloc (by omega) _, rfl⟩
      · obtain rfl : i = 0 := by simp at hi; omega
        exact ⟨_, _, rfl, by simp, by simp [icells, CellsFrom]⟩
      · simp [blk] at hb; subst hb; exact ⟨hs1, by simp [Value.ownBlock]⟩
    case round =>
      obtain ⟨out, todo, A', c', rfl, hrd, hcl, hown, hblk, hol, htl, hB, hgo⟩ := hrel
      obtain ⟨B5, c5, rfl, hn5, -, -, hb5, -⟩ := hown.rd
      rw [List.length_map] at hn5
      have hs2 := hB.size
      have hrt0 : wr.cell? ⟨w.heap.size, 0, none⟩ = some (.slice A xs.length c) := (hB.cell (p := ⟨w.heap.size, 0, none⟩) (by simp)).trans ht0
      have hrt1 : wr.cell? ⟨w.heap.size, 1, none⟩ = some (.int .i64 next) := (hB.cell (p := ⟨w.heap.size, 1, none⟩) (by simp)).trans ht1
      simp only [List.length_map] at hown hb5 hblk ⊢
      rcases todo with _ | ⟨x, rest⟩
      · simp only [List.length_nil]
        go_wp2
        go_ret
        refine ⟨_, rfl, (HS.out ▸ ?_ : Own _ _ _ _ _ _), hB1.trans (hB.mono (by omega))⟩
        have := hgo.out
        have e : subGo xs (xs.length - out.length) [] out = out := by cases xs.length - out.length <;> rfl
        rw [e] at this
        rw [← this]
        exact hown.base (by omega)
      · by_cases hlt : out.length < xs.length
        · obtain ⟨b, o, rfl, hbs, hc⟩ := hrd.row (i := 0) (c := icells x) (by simp)
          simp only [icells, CellsFrom, Nat.add_zero, Nat.zero_mul, and_true] at hc
          simp only [List.length_cons] at hcl htl ⊢
          have hlt' : (out.length : Int) < (xs.length : Int) := by omega
          have hpos : (0 : Int) < ((rest.length + 1 : Nat) : Int) := by omega
          obtain ⟨A2, hsl, hR2, hblk2⟩ : ∃ A2, (∀ W, (Instr.slice 28 (.slice (some ⟨b, o, none⟩) (rest.length + 1) c') (some (.int .i64 1)) none none).run Tryd.prog W = .ok (.slice A2 rest.length (c' - 1)) W) ∧
              (∀ W, Rd W 1 (some ⟨b, o, none⟩) (List.map icells (x :: rest)) → Rd W 1 A2 (rest.map icells)) ∧ blk A2 = some b :=
            ⟨cutA (some ⟨b, o, none⟩) 1 c' 1, fun W => cut_l siInt _ _ _ 1 (by omega) 1 rfl .i64 W, fun W hW => by simpa using hW.cut (l := 1) (c := c') (by simp; omega), by rw [cutA_block]; rfl⟩
          have hbb := hblk b rfl
          rw [hb5] at hbb
          have Hsl := Lib.hid hsl
          have HR2 := Lib.hid hR2
          have HA := Lib.hid h
          clear hsl hR2 h
          go_wp2_with (at_builtin; refine app1 siInt (icells x) rfl _ _ rfl rfl rfl hown rfl rfl rfl (by simp; omega) (by omega) (by omega) hB ?_; intro v5 w2 hown2 hB2 hg2 hat2; clear hown)
          have hs3 := hB2.size
          have k0 : w2.cell? ⟨w.heap.size, 0, none⟩ = some (.slice A xs.length c) := (hB2.cell (p := ⟨w.heap.size, 0, none⟩) (by simp)).trans ht0
          have k1 : w2.cell? ⟨w.heap.size, 1, none⟩ = some (.int .i64 next) := (hB2.cell (p := ⟨w.heap.size, 1, none⟩) (by simp)).trans ht1
          have hrd2 : Rd w2 1 (some ⟨b, o, none⟩) (List.map icells (x :: rest)) := (hrd.alloc _).grown hg2 (fun b' e => by simp [blk] at e; subst e; exact fun e => hbb.2 (hb5.symm.trans e.symm))
          have hs4 : b < w2.heap.size := by
            obtain ⟨b', o', e, hlt, _⟩ := hrd2.row (i := 0) (c := icells x) (by simp)
            simp only [Option.some.injEq, Addr.mk.injEq, and_true] at e
            omega
          have k2 : w2.cell? ⟨b, o, none⟩ = some (.int .i64 x) := by
            obtain ⟨b', o', e, _, hc'⟩ := hrd2.row (i := 0) (c := icells x) (by simp)
            simp only [Option.some.injEq, Addr.mk.injEq, and_true] at e
            obtain ⟨rfl, rfl⟩ := e
            simpa [icells, CellsFrom] using hc'
          have HK := Lib.hid (fun (W : World) (hW : Below w2.heap.size w2 W) => children_c A c xs next x W ((HA.out.below (hB1.trans (hB2.mono (by omega))) (Nat.le_refl _)).below hW (Nat.le_refl _)) (by omega))
          have HT := Lib.hid (fun (W : World) (hW : Below w2.heap.size w2 W) => HR2.out W (hrd2.below hW (Nat.le_refl _)))
          have hsl := Hsl.out
          have hself : Below w2.heap.size w2 w2 := Below.refl _ _
          have hcl2 : (children xs x).length ≤ xs.length := children_le xs x
          have hrl : rest.length ≤ 1099511627776 := by
            have : out.length * xs.length ≤ 1048576 * 1048576 := Nat.mul_le_mul (by omega) hl
            omega
          clear hrt0 hrt1 hc hrd hrd2 Hsl HR2 HA hblk hg2 hat2 hb5
          go_region_held3 (fun W => W.cell? ⟨w.heap.size, 0, none⟩ = some (.slice A xs.length c) ∧ W.cell? ⟨w.heap.size, 1, none⟩ = some (.int .i64 next) ∧ W.cell? ⟨b, o, none⟩ = some (.int .i64 x) ∧ Below w2.heap.size w2 W)
            (first
              | exact hself.drew
              | exact hx4
              | exact hx3
              | exact ⟨k0, k1, k2, hself.drew⟩
              | exact ⟨(hx4.cell (p := ⟨w.heap.size, 0, none⟩) (by simp; omega)).trans k0, (hx4.cell (p := ⟨w.heap.size, 1, none⟩) (by simp; omega)).trans k1, (hx4.cell (p := ⟨b, o, none⟩) (by simp; omega)).trans k2, hx4⟩
              | exact ⟨(hx3.cell (p := ⟨w.heap.size, 0, none⟩) (by simp; omega)).trans k0, (hx3.cell (p := ⟨w.heap.size, 1, none⟩) (by simp; omega)).trans k1, (hx3.cell (p := ⟨b, o, none⟩) (by simp; omega)).trans k2, hx3⟩
              | go_keep)
            ((first
              | (go_at_call 36; go_split_ands; refine (HK.out _ (by assumption)).mono ?_; rintro e w3 ⟨vk, rfl, hownk0, hbk⟩; have hx3 := below_step (w0 := w2) (by assumption) hbk; have hownk := own_step (w0 := w2) (by assumption) hownk0; clear hownk0 hbk)
              | (go_split_ands; refine step_appAny siInt (rest.map icells) rfl _ _ rfl rfl rfl hownk (HT.out _ (by assumption)) (by simp) (icells_len _) (icells_one _) (by simp; omega) (by omega) hx3.size ?_; intro v6 w4 hown6 hg6 hat6; have hx4 := below_app hx3 hownk hg6)))
          go_wp2
          obtain ⟨A6, c6, rfl, hn6, -, hrd6, -, hlt6⟩ := hown6.rd
          have e6 : (List.map icells (children xs x) ++ List.map icells rest) = (children xs x ++ rest).map icells := by simp
          rw [e6, List.length_map] at hn6 ⊢
          rw [e6] at hrd6
          go_roundw
          case rel =>
            refine ⟨out ++ [x], children xs x ++ rest, A6, c6, rfl, hrd6, hn6, by simpa using hown2.below hx4 (Nat.le_refl _), fun b' hb' => ?_, by simp; omega, ?_, hB2.trans (hx4.mono (by omega)), ?_⟩
            · have h1 := (hlt6 b' hb').1
              refine ⟨by omega, fun e => ?_⟩
              have := (hown2.lt e).2
              omega
            · simp only [List.length_append, List.length_cons, List.length_nil, Nat.zero_add, Nat.add_mul, Nat.one_mul]
              omega
            · have := hgo.out
              obtain ⟨n, hn⟩ : ∃ n, xs.length - out.length = n + 1 := ⟨xs.length - out.length - 1, by omega⟩
              rw [hn] at this
              show _ = _
              rw [show xs.length - (out ++ [x]).length = n from by simp; omega]
              exact this
          case measure =>
            rw [hown2.lenOf]
            simp [lenOf]
            omega
        · have hlt' : ¬ (out.length : Int) < (xs.length : Int) := by omega
          simp only [List.length_cons] at hcl htl ⊢
          have hpos : (0 : Int) < ((rest.length + 1 : Nat) : Int) := by omega
          go_wp2
          go_ret
          refine ⟨_, rfl, (HS.out ▸ ?_ : Own _ _ _ _ _ _), hB1.trans (hB.mono (by omega))⟩
          have := hgo.out
          rw [show xs.length - out.length = 0 from by omega] at this
          rw [← this]
          exact hown.base (by omega)
  · have hz : idx (fun x => x.id == id) xs < 0 := by rw [idx_neg (by simpa using hin)]; omega
    have HS := Lib.hid (show subtree xs id = [] by simp only [subtree, hin]; rfl)
    clear hin
    generalize idx (fun x => x.id == id) xs = z at *
    go_enter Tryd.func62, Tryd.ntmps62
    go_wp2_with (go_at_call 77; refine (hat _ (h.alloc _)).mono ?_; rintro e w1 ⟨rfl, hb1⟩)
    go_ret
    exact ⟨_, rfl, by rw [HS.out]; exact Own.nil _ _ _ _, hB0.trans (hb1.mono (by simp))⟩

end Go.Proofs.YtmjnibofdpgacaaDoor
