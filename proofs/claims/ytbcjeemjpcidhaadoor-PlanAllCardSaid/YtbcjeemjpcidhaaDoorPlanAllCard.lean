/- PlanAll: for every input the law returns true and each argument reads afterwards as it read before; the row's variables are laid as the program's text lays them (the tied card). No other condition. -/
import Derived.Test.YtbcjeemjpcidhaaDoorEnvL
import Derived.Test.YtbcjeemjpcidhaaDoorLawPa
namespace Go.Proofs.YtbcjeemjpcidhaaDoor.PlanAll
open Go.ChangeShapes Go.WideShapes Go.ChangeAt Go.RowKit

set_option maxRecDepth 100000 in

theorem contract (H : Type) (enc : TypeId × Value → H) (W : World) (base : Nat) (args : Array Value) (ds gs : List (DataW H)) (before : List MemPlace)
    (hval : ∀ (j : Nat) t v, Tryd.f3.params[j]? = some t → args[j]? = some v → Value.okWide Tryd.prog W .any base t v)
    (hW : DataW.Whole enc Tryd.prog Tryd.f3.params.toList Rows.planAllSpec.vars false W args.toList ds gs before) (hL : laidMetH Tryd.prog Rows.planAllRow.laid W) (hS : W.ShapedOpen Tryd.prog)
    (hwt : (DataW.weightsEach Tryd.prog (Tryd.f3.params.toList ++ []) (ds ++ gs)).all (· ≤ reachBytes) = true) :
    Calls Tryd.prog 3 args W fun e W' => ∃ v, e = .returned v ∧ Rows.planAllSpec.post enc Tryd.prog Tryd.f3 false true false false W args v W' := by
  have hW' := hW
  obtain ⟨p, q, hA0, hV, rfl, hfz, hnd⟩ := hW
  have hA : DataW.TrodAll enc Tryd.prog W 0 (fun _ => true) true Tryd.f3.params.toList args.toList ds p := hA0
  rw [Tryd.params3] at hA hval
  obtain ⟨v0, x0, rfl, rfl, h0⟩ := trodAll_one hA
  obtain ⟨ini, rfl⟩ := okWide_bool Tryd.underlying4 (hval 0 4 v0 rfl rfl)
  obtain ⟨E, ET, m, hE⟩ := env_of hL hS
  refine (pall_true W E ET m hE ini).mono fun e W' ⟨he, hk⟩ => ?_
  subst he
  exact ⟨_, rfl, law_post Tryd.laidOut (by kernel_rfl) rfl rfl Tryd.underlying4 hW' rfl hk⟩

theorem laid_met (os : Os) : laidMet Tryd.prog Rows.planAllRow.laid ((World.laidAll Tryd.prog os Rows.planAllRow.laid).forCall (fun _ _ => 0) ⟨#[], #[.bool false], []⟩).memory :=
  laidMet_laidAll _ (by kernel_rfl) (by kernel_rfl)
theorem reads (os : Os) {H : Type} (enc : TypeId × Value → H) : ∃ places, DataW.whole enc Tryd.prog ((World.laidAll Tryd.prog os Rows.planAllRow.laid).forCall (fun _ _ => 0) ⟨#[], #[.bool false], []⟩).memory Tryd.f3.params.toList Rows.planAllSpec.vars false (#[Value.bool false] : Array Value).toList 8 = some ([.lit (.bool false)], [], places) :=
  ⟨[], by kernel_rfl⟩

set_option maxRecDepth 100000 in
theorem lifted (os : Os) (started : os.Started) (H : Type) (enc : TypeId × Value → H) (F : Stop.Interp) :
    ReturnsInHanded {} Tryd.checked os 3 .any ((OpenSpec.ofChange Rows.planAllSpec).preRow enc Tryd.prog Tryd.f3 Rows.planAllRow.domain false Rows.planAllRow.laid) (((OpenSpec.ofChange Rows.planAllSpec).at F).post enc Tryd.prog Tryd.f3 false true false false) := by
  obtain ⟨places, hx⟩ := reads os enc
  refine returnsInHanded_of_row (C := Tryd.checked) (s := OpenSpec.ofChange Rows.planAllSpec) Tryd.own started (by kernel_rfl) Tryd.func3
    (witness_zip (enc := enc) (C := Tryd.checked) false (World.laidAll Tryd.prog os Rows.planAllRow.laid) #[.bool false] (World.laidAll_os _ _ _) (by kernel_rfl) (by kernel_rfl) (by kernel_rfl)
      (OpenSpec.preRow_of_cond 8 hx (by kernel_rfl) (fun k hk => by cases hk) (by kernel_rfl) (laid_met os))) ?_
  intro W base args ds gs before hval hW _ _ hwt hL hS _
  exact contract H enc W base args ds gs before hval hW hL hS hwt

theorem said : Rows.PlanAllSaid :=
  OpenClaim.holds_of_cond 3 Tryd.f3 rfl rfl rfl rfl rfl rfl rfl ⟨rfl, rfl, rfl, rfl, rfl⟩ rfl rfl rfl rfl rfl (by kernel_rfl) Tryd.func3 (by kernel_rfl)
    (of_decide_eq_true (by kernel_rfl)) (by unfold Func.isWrapper; first | (rw [if_pos (by decide +kernel)]; kernel_rfl) | (rw [if_neg (by decide +kernel)]; exact ⟨rfl, rfl⟩))
    (fun os started H enc _ F => by rw [OpenClaim.pre_eq_preRow]; exact lifted os started H enc F)

theorem plain (f : FuncId) (fn : Func) (hf : Tryd.pinned.checked.prog.funcNamed "pintle/pintlelaw23.PlanAll" = some f) (hfn : Tryd.pinned.checked.prog.funcs[f]? = some fn) :
    true = Tryd.pinned.checked.prog.looks [] ∧ ∀ (j : Nat) t, fn.params[j]? = some t → Tryd.pinned.checked.prog.wantsStandIn t = false := by
  obtain rfl : f = 3 := Option.some.inj ((show Tryd.prog.funcNamed "pintle/pintlelaw23.PlanAll" = some 3 by kernel_rfl).symm.trans hf) |>.symm
  obtain rfl : fn = Tryd.f3 := (Option.some.inj (Tryd.func3.symm.trans hfn)).symm
  refine ⟨by kernel_rfl, fun j t ht => ?_⟩
  rw [Tryd.params3] at ht
  have h : t = 4 := by simpa using Array.mem_of_getElem? ht
  subst h
  exact (show Tryd.prog.wantsStandIn 4 = false by kernel_rfl)

theorem card : Rows.PlanAllCardSaid :=
  Claim7.holds_tied_plain_at .later [] _ _ _ _ said (fun _ h => by cases h) (by kernel_rfl) (fun _ h => by cases h) planAll_row_tie rfl ⟨rfl, rfl⟩ (by kernel_rfl) rfl plain (by kernel_rfl)
#print axioms card
end Go.Proofs.YtbcjeemjpcidhaaDoor.PlanAll
