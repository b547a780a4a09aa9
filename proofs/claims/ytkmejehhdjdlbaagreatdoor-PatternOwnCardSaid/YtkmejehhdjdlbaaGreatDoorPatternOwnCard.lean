/- PatternOwn: for every input the law returns true and each argument reads afterwards as it read before; the row's variables are laid as the program's text lays them (the tied card). No other condition. -/
import Derived.Test.YtkmejehhdjdlbaaGreatDoorPo5
import Derived.Test.YtkmejehhdjdlbaaGreatDoorPo6
import Derived.Test.YtkmejehhdjdlbaaGreatDoorPo4
import Derived.ChangeMaps5
import Derived.Test.YtkmejehhdjdlbaaGreatDoorPo8
namespace Go.Proofs.YtkmejehhdjdlbaaGreatDoor.PatternOwn
open Go.ChangeShapes Go.WideShapes Go.ChangeAt Go.RowKit

set_option maxRecDepth 100000 in

theorem contract (H : Type) (enc : TypeId × Value → H) (W : World) (base : Nat) (args : Array Value) (ds gs : List (DataW H)) (before : List MemPlace)
    (hval : ∀ (j : Nat) t v, Tryz.f13.params[j]? = some t → args[j]? = some v → Value.okWide Tryz.prog W .any base t v)
    (hW : DataW.Whole enc Tryz.prog Tryz.f13.params.toList Rows.patternOwnSpec.vars false W args.toList ds gs before) (hL : laidMetH Tryz.prog Rows.patternOwnRow.laid W) (hS : W.ShapedOpen Tryz.prog)
    (hwt : (DataW.weightsEach Tryz.prog (Tryz.f13.params.toList ++ []) (ds ++ gs)).all (· ≤ reachBytes) = true) :
    Calls Tryz.prog 13 args W fun e W' => ∃ v, e = .returned v ∧ Rows.patternOwnSpec.post enc Tryz.prog Tryz.f13 false true false false W args v W' := by
  have hW' := hW
  obtain ⟨p, q, hA0, hV, rfl, hfz, hnd⟩ := hW
  have hA : DataW.TrodAll enc Tryz.prog W 0 (fun _ => true) true Tryz.f13.params.toList args.toList ds p := hA0
  rw [Tryz.params13] at hA hval hwt
  obtain ⟨v0, v1, v2, v3, x0, x1, x2, x3, y0, y1, y2, y3, rfl, rfl, rfl, h0, h1, h2, h3⟩ := trodAll_four hA
  obtain ⟨text, rfl, _, _, _⟩ := Go.ChangeMaps.open_string Tryz.underlying9 (hval 0 9 v0 rfl rfl) h0
  obtain ⟨name, rfl, rfl, _, _⟩ := Go.ChangeMaps.open_string Tryz.underlying9 (hval 1 9 v1 rfl rfl) h1
  obtain ⟨nm, a0, n0, c0, a1, n1, c1, al, nl, cl, b0, b1, ls, rfl, hnm, h00, h01, h0l, _, _⟩ := pat_of_trod (hval 2 26 v2 rfl rfl) h2 (weights_at (j := 2) hwt rfl rfl)
  obtain ⟨ao, nw, cw, ss, rfl, hS1, hz⟩ := strs_of_trod (hval 3 59 v3 rfl rfl) h3 (weights_at (j := 3) hwt rfl rfl)
  obtain ⟨E, m, hE⟩ := env_of hL hS
  refine (own_true W E m hE text name (Nat.le_trans (str_small (weights_at (j := 1) hwt rfl rfl)) (by decide)) nm a0 a1 al n0 c0 n1 c1 nl cl b0 b1 ls (Nat.le_trans hnm (by decide)) ⟨h00, h01, h0l⟩ ao nw cw ss hS1 hz).mono fun e W' ⟨he, hk⟩ => ?_
  subst he
  exact ⟨_, rfl, law_post Tryz.laidOut (by kernel_rfl) rfl rfl Tryz.underlying4 hW' rfl hk⟩

theorem laid_met (os : Os) : laidMet Tryz.prog Rows.patternOwnRow.laid ((World.laidAll Tryz.prog os Rows.patternOwnRow.laid).forCall (fun _ _ => 0) ⟨#[], #[.string ⟨#[]⟩, .string ⟨#[]⟩, .agg #[.string ⟨#[]⟩, .slice none 0 0, .slice none 0 0, .slice none 0 0], .slice none 0 0], []⟩).memory :=
  laidMet_laidAll _ (by kernel_rfl) (by kernel_rfl)
theorem reads (os : Os) {H : Type} (enc : TypeId × Value → H) : ∃ places, DataW.whole enc Tryz.prog ((World.laidAll Tryz.prog os Rows.patternOwnRow.laid).forCall (fun _ _ => 0) ⟨#[], #[.string ⟨#[]⟩, .string ⟨#[]⟩, .agg #[.string ⟨#[]⟩, .slice none 0 0, .slice none 0 0, .slice none 0 0], .slice none 0 0], []⟩).memory Tryz.f13.params.toList Rows.patternOwnSpec.vars false (#[Value.string ⟨#[]⟩, .string ⟨#[]⟩, .agg #[.string ⟨#[]⟩, .slice none 0 0, .slice none 0 0, .slice none 0 0], .slice none 0 0] : Array Value).toList 8 = some ([.lit (.string []), .lit (.string []), .agg [.lit (.string []), .agg [.nil, .nil], .nil], .nil], [], places) :=
  ⟨[], by kernel_rfl⟩

set_option maxRecDepth 100000 in
theorem lifted (os : Os) (started : os.Started) (H : Type) (enc : TypeId × Value → H) (F : Stop.Interp) :
    ReturnsInHanded {} Tryz.checked os 13 .any ((OpenSpec.ofChange Rows.patternOwnSpec).preRow enc Tryz.prog Tryz.f13 Rows.patternOwnRow.domain false Rows.patternOwnRow.laid) (((OpenSpec.ofChange Rows.patternOwnSpec).at F).post enc Tryz.prog Tryz.f13 false true false false) := by
  obtain ⟨places, hx⟩ := reads os enc
  refine returnsInHanded_of_row (C := Tryz.checked) (s := OpenSpec.ofChange Rows.patternOwnSpec) Tryz.own started (by kernel_rfl) Tryz.func13
    (witness_zip (enc := enc) (C := Tryz.checked) false (World.laidAll Tryz.prog os Rows.patternOwnRow.laid) #[.string ⟨#[]⟩, .string ⟨#[]⟩, .agg #[.string ⟨#[]⟩, .slice none 0 0, .slice none 0 0, .slice none 0 0], .slice none 0 0] (World.laidAll_os _ _ _) (by kernel_rfl) (by kernel_rfl) (by kernel_rfl)
      (OpenSpec.preRow_of_cond 8 hx (by kernel_rfl) (fun k hk => by cases hk) (by kernel_rfl) (laid_met os))) ?_
  intro W base args ds gs before hval hW _ _ hwt hL hS _
  exact contract H enc W base args ds gs before hval hW hL hS hwt

theorem said : Rows.PatternOwnSaid :=
  OpenClaim.holds_of_cond 13 Tryz.f13 rfl rfl rfl rfl rfl rfl rfl ⟨rfl, rfl, rfl, rfl, rfl⟩ rfl rfl rfl rfl rfl (by kernel_rfl) Tryz.func13 (by kernel_rfl)
    (of_decide_eq_true (by kernel_rfl)) (by unfold Func.isWrapper; first | (rw [if_pos (by decide +kernel)]; kernel_rfl) | (rw [if_neg (by decide +kernel)]; exact ⟨rfl, rfl⟩))
    (fun os started H enc _ F => by rw [OpenClaim.pre_eq_preRow]; exact lifted os started H enc F)

theorem plain (f : FuncId) (fn : Func) (hf : Tryz.pinned.checked.prog.funcNamed "pintle/pintlelaw15.PatternOwn" = some f) (hfn : Tryz.pinned.checked.prog.funcs[f]? = some fn) :
    true = Tryz.pinned.checked.prog.looks [] ∧ ∀ (j : Nat) t, fn.params[j]? = some t → Tryz.pinned.checked.prog.wantsStandIn t = false := by
  obtain rfl : f = 13 := Option.some.inj ((show Tryz.prog.funcNamed "pintle/pintlelaw15.PatternOwn" = some 13 by kernel_rfl).symm.trans hf) |>.symm
  obtain rfl : fn = Tryz.f13 := (Option.some.inj (Tryz.func13.symm.trans hfn)).symm
  refine ⟨by kernel_rfl, fun j t ht => ?_⟩
  rw [Tryz.params13] at ht
  have h : t = 9 ∨ t = 26 ∨ t = 59 := by
    have h := Array.mem_of_getElem? ht
    simp at h
    omega
  rcases h with rfl | rfl | rfl
  · exact (show Tryz.prog.wantsStandIn 9 = false by kernel_rfl)
  · exact (show Tryz.prog.wantsStandIn 26 = false by kernel_rfl)
  · exact (show Tryz.prog.wantsStandIn 59 = false by kernel_rfl)

theorem card : Rows.PatternOwnCardSaid :=
  Claim7.holds_tied_plain_at .later [] _ _ _ _ said (fun _ h => by cases h) (by kernel_rfl) (fun _ h => by cases h) patternOwn_row_tie rfl ⟨rfl, rfl⟩ (by kernel_rfl) rfl plain (by kernel_rfl)
#print axioms card
end Go.Proofs.YtkmejehhdjdlbaaGreatDoor.PatternOwn
