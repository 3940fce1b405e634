/-
  NameOrders: its row and its card.
-/
import Derived.Test.YtmbffobifiidnaaDoorNmRowB
import Derived.Test.YtmbffobifiidnaaDoorNmOrders
set_option linter.unusedSimpArgs false
set_option linter.unusedVariables false
namespace Go.Proofs.YtmbffobifiidnaaDoor.nameOrders
open Go.ChangeShapes Go.WideShapes Go.ChangeAt Go.RowKit nmRows Gc Go.ChangeMaps

theorem cells_int : Tryd.prog.cellsOf 3 = 1 := by kernel_rfl

theorem laid_met (os : Os) : laidMet Tryd.prog Rows.nameOrdersRow.laid ((laidWorld os).forCall (fun _ _ => 0) ⟨#[], #[.string ByteArray.empty, .string ByteArray.empty, .slice none 0 0], []⟩).memory :=
  laidMet_of_run' 8 (by kernel_rfl) (by kernel_rfl)

set_option maxRecDepth 100000 in
theorem contract (H : Type) (enc : TypeId × Value → H) (W : World) (base : Nat) (args : Array Value) (ds gs : List (DataW H)) (before : List MemPlace)
    (hval : ∀ (j : Nat) t v, Tryd.f3.params[j]? = some t → args[j]? = some v → Value.okWide Tryd.prog W .any base t v)
    (hW : DataW.Whole enc Tryd.prog Tryd.f3.params.toList Rows.nameOrdersSpec.vars false W args.toList ds gs before)
    (vt : List TypeId) (hZ : (DataW.weightsEach Tryd.prog (Tryd.f3.params.toList ++ vt) (ds ++ gs)).all (· ≤ reachBytes) = true) :
    Calls Tryd.prog 3 args W fun e W' => ∃ v, e = .returned v ∧ Rows.nameOrdersSpec.post enc Tryd.prog Tryd.f3 false true false false W args v W' := by
  have hW' := hW
  obtain ⟨p, q, hA0, hV, rfl, hfz, hnd⟩ := hW
  have hA : DataW.TrodAll enc Tryd.prog W 0 (fun _ => true) true Tryd.f3.params.toList args.toList ds p := hA0
  rw [Tryd.params3] at hA hval hZ
  obtain ⟨v0, vs0, d0, ds0, p0, q0, hargs, rfl, rfl, h0, r0⟩ := trodAll_cons hA
  obtain ⟨v1, vs1, d1, ds1, p1, q1, hargs1, rfl, rfl, h1, r1⟩ := trodAll_cons r0
  obtain ⟨v2, vs2, d2, ds2, p2, q2, hargs2, rfl, rfl, h2, r2⟩ := trodAll_cons r1
  obtain ⟨rfl, rfl, rfl⟩ := trodAll_nil r2
  subst hargs1
  subst hargs2
  obtain rfl : args = #[v0, v1, v2] := by cases args; simp_all
  obtain ⟨rfl, rfl⟩ := trodVars_none hV
  obtain ⟨s0, rfl, rfl, rfl, ws0⟩ := open_string Tryd.underlying9 (hval 0 9 v0 rfl rfl) h0
  have hsz0 : s0.size ≤ 140737488351232 := Nat.le_trans (sized_string hZ (j := 0) (t := 9) rfl rfl) (by decide)
  obtain ⟨s1, rfl, rfl, rfl, ws1⟩ := open_string Tryd.underlying9 (hval 1 9 v1 rfl rfl) h1
  have hsz1 : s1.size ≤ 140737488351232 := Nat.le_trans (sized_string hZ (j := 1) (t := 9) rfl rfl) (by decide)
  have hs2 := hval 2 22 v2 rfl rfl
  obtain ⟨A2, c2, ts2, rfl, hle2, hrd2, hlt2, hag2⟩ := ints_arg Tryd.underlying22 Tryd.underlying3 cells_int hs2 h2
  clear hA0
  simp only [List.append_nil, List.nil_append] at hW'
  refine (nameOrders_c s0 s1 A2 c2 ts2 W hsz0 hsz1 hrd2 hlt2 hle2).mono fun e W' ⟨he, hb⟩ => ?_
  subst he
  have hargsP : ∀ sp : Nat → Bool, (∀ q ∈ p2, sp q.block = true) → DataW.TrodAll enc Tryd.prog W' 0 sp true [9, 9, 22] _ _ (p2) := fun sp hsp => by
    have := trodAll_cons_mk (shut_string Tryd.underlying9 ws0) (trodAll_cons_mk (shut_string Tryd.underlying9 ws1) (trodAll_cons_mk (hag2 W' sp hb (fun q hq => hsp q (by first | exact hq | simp [hq]))) (trodAll_mk0)))
    simpa only [List.append_nil, List.nil_append] using this
  exact ⟨_, rfl, post_of_below' (pa := p2) (pv := []) hW' (fun _ _ _ => trodAll_cons_mk (shut_bool Tryd.underlying4 _) trodAll_mk0) hargsP (fun _ _ => rfl) (by simp)
    hb (ok_one (by kernel_rfl) rfl (okWide_bool_mk Tryd.underlying4 _))⟩

theorem reads (os : Os) {H : Type} (enc : TypeId × Value → H) : ∃ places, DataW.whole enc Tryd.prog ((laidWorld os).forCall (fun _ _ => 0) ⟨#[], #[.string ByteArray.empty, .string ByteArray.empty, .slice none 0 0], []⟩).memory Tryd.f3.params.toList Rows.nameOrdersSpec.vars false (#[.string ByteArray.empty, .string ByteArray.empty, .slice none 0 0] : Array Value).toList 8 = some ([.lit (.string []), .lit (.string []), .nil], [], places) :=
  ⟨[], by kernel_rfl⟩

set_option maxRecDepth 100000 in
theorem lifted (os : Os) (started : os.Started) (H : Type) (enc : TypeId × Value → H) (F : Stop.Interp) :
    ReturnsInHanded {} Tryd.checked os 3 .any ((OpenSpec.ofChange Rows.nameOrdersSpec).preRow enc Tryd.prog Tryd.f3 Rows.nameOrdersRow.domain false Rows.nameOrdersRow.laid) (((OpenSpec.ofChange Rows.nameOrdersSpec).at F).post enc Tryd.prog Tryd.f3 false true false false) := by
  obtain ⟨places, hx⟩ := reads os enc
  refine returnsInHanded_of_row (C := Tryd.checked) (s := OpenSpec.ofChange Rows.nameOrdersSpec) own started (by kernel_rfl) Tryd.func3
    (witness_row_at (enc := enc) (C := Tryd.checked) false (laidWorld os) #[.string ByteArray.empty, .string ByteArray.empty, .slice none 0 0] rfl (by kernel_rfl) (by kernel_rfl) (by kernel_rfl)
      (OpenSpec.preRow_of_cond 8 hx (by kernel_rfl) (fun k hk => by cases hk) (by kernel_rfl) (laid_met os))) ?_
  intro W base args ds gs before hval hW _ _ hZ _ _ _
  exact contract H enc W base args ds gs before hval hW _ hZ

theorem said : Rows.NameOrdersSaid :=
  OpenClaim.holds_of_cond 3 Tryd.f3 rfl rfl rfl rfl rfl rfl rfl ⟨rfl, rfl, rfl, rfl, rfl⟩ rfl rfl rfl rfl rfl (by kernel_rfl) Tryd.func3 (by kernel_rfl)
    (of_decide_eq_true (by kernel_rfl)) (by unfold Func.isWrapper; first | (rw [if_pos (by decide +kernel)]; kernel_rfl) | (rw [if_neg (by decide +kernel)]; exact ⟨rfl, rfl⟩))
    (fun os started H enc _ F => by rw [OpenClaim.pre_eq_preRow]; exact lifted os started H enc F)

/-- no parameter wants a stand-in; the program's own looks are off: what the card asks -/
theorem plain (f : FuncId) (fn : Func) (hf : Tryd.pinned.checked.prog.funcNamed "groupcontrol/groupcontrollaw1.NameOrders" = some f) (hfn : Tryd.pinned.checked.prog.funcs[f]? = some fn) :
    false = Tryd.pinned.checked.prog.looks [] ∧ ∀ (j : Nat) t, fn.params[j]? = some t → Tryd.pinned.checked.prog.wantsStandIn t = false := by
  obtain rfl : f = 3 := Option.some.inj ((show Tryd.prog.funcNamed "groupcontrol/groupcontrollaw1.NameOrders" = some 3 by kernel_rfl).symm.trans hf) |>.symm
  obtain rfl : fn = Tryd.f3 := (Option.some.inj (Tryd.func3.symm.trans hfn)).symm
  refine ⟨by kernel_rfl, fun j t ht => ?_⟩
  rw [Tryd.params3] at ht
  have hm : t ∈ [9, 22] := by simpa using Array.mem_of_getElem? ht
  simp only [List.mem_cons, List.not_mem_nil, or_false] at hm
  rcases hm with rfl | rfl
  · exact (show Tryd.prog.wantsStandIn 9 = false by kernel_rfl)
  · exact (show Tryd.prog.wantsStandIn 22 = false by kernel_rfl)

theorem card : Rows.NameOrdersCardSaid :=
  Claim7.holds_tied_plain_at .later [] _ _ _ _ said (fun _ h => by cases h) (by kernel_rfl) (fun _ h => by cases h) nameOrders_row_tie rfl ⟨rfl, rfl⟩ (by kernel_rfl) rfl plain (by kernel_rfl)

end Go.Proofs.YtmbffobifiidnaaDoor.nameOrders
