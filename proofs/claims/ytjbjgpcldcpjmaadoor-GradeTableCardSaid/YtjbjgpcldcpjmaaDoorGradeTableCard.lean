/- GradeTable: for every input the law returns true and each argument reads afterwards as it read before; the row's variables are laid as the program's text lays them (the tied card). No other condition. -/
import Derived.Test.YtjbjgpcldcpjmaaDoorGa6
namespace Go.Proofs.YtjbjgpcldcpjmaaDoor.GradeTable
open Go.ChangeShapes Go.WideShapes Go.ChangeAt Go.RowKit


theorem contract (H : Type) (enc : TypeId × Value → H) (W : World) (base : Nat) (args : Array Value) (ds gs : List (DataW H)) (before : List MemPlace)
    (hval : ∀ (j : Nat) t v, Tryd.f7.params[j]? = some t → args[j]? = some v → Value.okWide Tryd.prog W .any base t v)
    (hW : DataW.Whole enc Tryd.prog Tryd.f7.params.toList Rows.gradeTableSpec.vars false W args.toList ds gs before) (hL : laidMetH Tryd.prog Rows.gradeTableRow.laid W) (hS : W.ShapedOpen Tryd.prog)
    (hwt : (DataW.weightsEach Tryd.prog (Tryd.f7.params.toList ++ []) (ds ++ gs)).all (· ≤ reachBytes) = true) :
    Calls Tryd.prog 7 args W fun e W' => ∃ v, e = .returned v ∧ Rows.gradeTableSpec.post enc Tryd.prog Tryd.f7 false true false false W args v W' := by
  have hW' := hW
  obtain ⟨p, q, hA0, hV, rfl, hfz, hnd⟩ := hW
  have hA : DataW.TrodAll enc Tryd.prog W 0 (fun _ => true) true Tryd.f7.params.toList args.toList ds p := hA0
  rw [Tryd.params7] at hA
  obtain ⟨rfl, rfl⟩ : args = #[] ∧ ds = [] := by
    obtain ⟨l⟩ := args
    match l, ds, hA with
    | [], [], _ => exact ⟨rfl, rfl⟩
  obtain ⟨E, m, hE⟩ := env_of hL hS
  refine (gradeTable_any W E m hE).mono fun e W' ⟨he, hk⟩ => ?_
  subst he
  exact ⟨_, rfl, law_post Tryd.laidOut (by kernel_rfl) rfl rfl Tryd.underlying4 hW' rfl hk⟩

theorem laid_met (os : Os) : laidMet Tryd.prog Rows.gradeTableRow.laid ((World.laidAll Tryd.prog os Rows.gradeTableRow.laid).forCall (fun _ _ => 0) ⟨#[], #[], []⟩).memory :=
  laidMet_laidAll _ (by kernel_rfl) (by kernel_rfl)
theorem reads (os : Os) {H : Type} (enc : TypeId × Value → H) : ∃ places, DataW.whole enc Tryd.prog ((World.laidAll Tryd.prog os Rows.gradeTableRow.laid).forCall (fun _ _ => 0) ⟨#[], #[], []⟩).memory Tryd.f7.params.toList Rows.gradeTableSpec.vars false (#[] : Array Value).toList 8 = some ([], [], places) :=
  ⟨[], by kernel_rfl⟩

set_option maxRecDepth 100000 in
theorem lifted (os : Os) (started : os.Started) (H : Type) (enc : TypeId × Value → H) (F : Stop.Interp) :
    ReturnsInHanded {} Tryd.checked os 7 .any ((OpenSpec.ofChange Rows.gradeTableSpec).preRow enc Tryd.prog Tryd.f7 Rows.gradeTableRow.domain false Rows.gradeTableRow.laid) (((OpenSpec.ofChange Rows.gradeTableSpec).at F).post enc Tryd.prog Tryd.f7 false true false false) := by
  obtain ⟨places, hx⟩ := reads os enc
  refine returnsInHanded_of_row (C := Tryd.checked) (s := OpenSpec.ofChange Rows.gradeTableSpec) Tryd.own started (by kernel_rfl) Tryd.func7
    (witness_zip (enc := enc) (C := Tryd.checked) false (World.laidAll Tryd.prog os Rows.gradeTableRow.laid) #[] (World.laidAll_os _ _ _) (by kernel_rfl) (by kernel_rfl) (by kernel_rfl)
      (OpenSpec.preRow_of_cond 8 hx (by kernel_rfl) (fun k hk => by cases hk) (by kernel_rfl) (laid_met os))) ?_
  intro W base args ds gs before hval hW _ _ hwt hL hS _
  exact contract H enc W base args ds gs before hval hW hL hS hwt

theorem said : Rows.GradeTableSaid :=
  OpenClaim.holds_of_cond 7 Tryd.f7 rfl rfl rfl rfl rfl rfl rfl ⟨rfl, rfl, rfl, rfl, rfl⟩ rfl rfl rfl rfl rfl (by kernel_rfl) Tryd.func7 (by kernel_rfl)
    (of_decide_eq_true (by kernel_rfl)) (by unfold Func.isWrapper; first | (rw [if_pos (by decide +kernel)]; kernel_rfl) | (rw [if_neg (by decide +kernel)]; exact ⟨rfl, rfl⟩))
    (fun os started H enc _ F => by rw [OpenClaim.pre_eq_preRow]; exact lifted os started H enc F)

theorem plain (f : FuncId) (fn : Func) (hf : Tryd.pinned.checked.prog.funcNamed "pintle/pintlelaw17.GradeTable" = some f) (hfn : Tryd.pinned.checked.prog.funcs[f]? = some fn) :
    true = Tryd.pinned.checked.prog.looks [] ∧ ∀ (j : Nat) t, fn.params[j]? = some t → Tryd.pinned.checked.prog.wantsStandIn t = false := by
  obtain rfl : f = 7 := Option.some.inj ((show Tryd.prog.funcNamed "pintle/pintlelaw17.GradeTable" = some 7 by kernel_rfl).symm.trans hf) |>.symm
  obtain rfl : fn = Tryd.f7 := (Option.some.inj (Tryd.func7.symm.trans hfn)).symm
  refine ⟨by kernel_rfl, fun j t ht => ?_⟩
  rw [Tryd.params7] at ht
  exact absurd ht (by simp)

theorem card : Rows.GradeTableCardSaid :=
  Claim7.holds_tied_plain_at .later [] _ _ _ _ said (fun _ h => by cases h) (by kernel_rfl) (fun _ h => by cases h) gradeTable_row_tie rfl ⟨rfl, rfl⟩ (by kernel_rfl) rfl plain (by kernel_rfl)
#print axioms card
end Go.Proofs.YtjbjgpcldcpjmaaDoor.GradeTable
