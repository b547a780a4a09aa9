/- What turns a walk into a row of this seat. No condition of its own. -/
import Derived.Test.YtpemfmjplejdiaaDoorOpen
import Derived.Test.YtpemfmjplejdiaaDoorCards
import Derived.Test.YtpemfmjplejdiaaDoorTie
import Derived.ProofKit
import Derived.OpenShut
import Derived.Deep.DeepHandedRow
import Derived.Stop.LaidErr
import Derived.Lay
namespace Go.Proofs.YtpemfmjplejdiaaDoor
open Go.ChangeShapes Go.WideShapes Go.RowKit

theorem trodAll_stays {H : Type} {enc : TypeId × Value → H} {P : Program} (hl : laidOutB P = true) {W W' : World} (hb : Kp W W') : ∀ {ts : List TypeId} {vs : List Value} {ds : List (DataW H)} {ps : List MemPlace},
    (∀ t ∈ ts, P.readableRec t = true ∧ t < P.types.size) → DataW.TrodAll enc P W 0 (fun _ => true) true ts vs ds ps → (∀ x ∈ ps, x.block < W.heap.size) →
    DataW.TrodAll enc P W' 0 (fun b => decide (b < W.heap.size)) true ts vs ds ps
  | [], [], [], _, _, h, _ => h
  | t :: ts, v :: vs, d :: ds, ps, ht, h, hlt => by
    obtain ⟨p, q, h1, h2, rfl⟩ := h
    have h3 := ht t (by simp)
    exact ⟨p, q, Below.trod hl h3.1 h3.2 h1 hb (fun x hx => hlt x (by simp [hx])), trodAll_stays hl hb (fun t' ht' => ht t' (by simp [ht'])) h2 (fun x hx => hlt x (by simp [hx])), rfl⟩
  | [], [], _ :: _, _, _, h, _ => h.elim
  | [], _ :: _, _, _, _, h, _ => by cases h
  | _ :: _, [], _, _, _, h, _ => by cases h
  | _ :: _, _ :: _, [], _, _, h, _ => by cases h

theorem law_post {H : Type} {enc : TypeId × Value → H} {P : Program} {fn : Func} {s : ChangeSpec} {W W' : World} {args : Array Value} {ds gs : List (DataW H)} {before : List MemPlace} {bt : TypeId}
    (hl : laidOutB P = true) (htb : (fn.params.toList.all fun t => P.readableRec t && decide (t < P.types.size)) = true) (hv : s.vars = []) (hres : fn.resultTypes = #[bt]) (hbt : P.underlying bt = some .bool)
    (hW : DataW.Whole enc P fn.params.toList s.vars false W args.toList ds gs before) (hs : s.fn H (ds ++ []) = { results := [.lit (.bool true)], args := ds }) (hk : Kp W W') :
    s.post enc P fn false true false false W args (.bool true) W' := by
  have hts : ∀ t ∈ fn.params.toList, P.readableRec t = true ∧ t < P.types.size := fun t ht => by
    have := List.all_eq_true.1 htb t ht
    simpa using this
  have hW0 := hW
  obtain ⟨p, q, hA, hV, rfl, hfz, _⟩ := hW
  rw [hv] at hV
  obtain ⟨rfl, rfl⟩ := trodVars_none hV
  have hlt : ∀ x ∈ p, x.block < W.heap.size := hA.lt
  refine ⟨ds, [], p ++ [], [], p, [], hW0, ?_, ?_, ?_, hk.frame _, fun h => by cases h⟩
  · rw [hs, hres]
    exact trodAll_mk1 (shut_bool hbt true)
  · rw [hs]
    exact trodAll_stays hl hk hts hA hlt
  · rw [hs, hv]; rfl

theorem Tryd.own : ownKnob Tryd.prog.godebug = none := by kernel_rfl
theorem Tryd.laidOut : laidOutB Tryd.prog = true := by kernel_rfl
theorem g2 : Tryd.prog.globalNamed "pintle/api.ErrInvalid" = some 2 := by kernel_rfl
theorem g2t : (Tryd.prog.globals[2]?).map (·.type) = some 32 := by kernel_rfl
theorem g3 : Tryd.prog.globalNamed "pintle/api.ErrTwice" = some 3 := by kernel_rfl
theorem g3t : (Tryd.prog.globals[3]?).map (·.type) = some 32 := by kernel_rfl
theorem g4 : Tryd.prog.globalNamed "pintle/api.ErrLacks" = some 4 := by kernel_rfl
theorem g4t : (Tryd.prog.globals[4]?).map (·.type) = some 32 := by kernel_rfl
theorem g5 : Tryd.prog.globalNamed "pintle/api.ErrUnsafe" = some 5 := by kernel_rfl
theorem g5t : (Tryd.prog.globals[5]?).map (·.type) = some 32 := by kernel_rfl
theorem cells125 : Tryd.prog.cellsOf 125 = 1 := by kernel_rfl
theorem cells9 : Tryd.prog.cellsOf 9 = 1 := by kernel_rfl
theorem star : "*" ++ "errors.errorString" = "*errors.errorString" := by decide
theorem row107 (u : TypeId) (h : Tryd.prog.typeName? 3 u = some "*errors.errorString") : u = 107 :=
  typeName_ptr_named (nm := "errors.errorString") (by rw [star]; kernel_rfl) (by kernel_rfl) (by decide) u (by rw [star]; exact h)

/-- WHAT THE ROW's LIST GIVES. -/
theorem errs_of_laid {W : World} (h : laidMetH Tryd.prog [("pintle/api.ErrInvalid", Rows.laid_pintle_api_ErrInvalid), ("pintle/api.ErrTwice", Rows.laid_pintle_api_ErrTwice), ("pintle/api.ErrLacks", Rows.laid_pintle_api_ErrLacks), ("pintle/api.ErrUnsafe", Rows.laid_pintle_api_ErrUnsafe)] W) : ∃ E, Errs W E := by
  rw [MakeChecks.laidMetH_plain _ _ _ (by kernel_rfl)] at h
  obtain ⟨a0, s0, hv0, _, _, _⟩ := laid_sentinel (h) g2 g2t Tryd.underlying32 row107 Tryd.underlying107 Tryd.underlying125 rfl rfl Tryd.underlying9 cells125 cells9
  obtain ⟨a1, s1, hv1, _, _, _⟩ := laid_sentinel (h.tail) g3 g3t Tryd.underlying32 row107 Tryd.underlying107 Tryd.underlying125 rfl rfl Tryd.underlying9 cells125 cells9
  obtain ⟨a2, s2, hv2, _, _, _⟩ := laid_sentinel (h.tail.tail) g4 g4t Tryd.underlying32 row107 Tryd.underlying107 Tryd.underlying125 rfl rfl Tryd.underlying9 cells125 cells9
  obtain ⟨a3, s3, hv3, _, _, _⟩ := laid_sentinel (h.tail.tail.tail) g5 g5t Tryd.underlying32 row107 Tryd.underlying107 Tryd.underlying125 rfl rfl Tryd.underlying9 cells125 cells9
  exact ⟨fun i => if i = 9 then a0 else if i = 10 then a1 else if i = 11 then a2 else a3, show W.cell? ⟨2, 0, none⟩ = _ by simpa using World.var?_cell g2 hv0 0, show W.cell? ⟨3, 0, none⟩ = _ by simpa using World.var?_cell g3 hv1 0, show W.cell? ⟨4, 0, none⟩ = _ by simpa using World.var?_cell g4 hv2 0, show W.cell? ⟨5, 0, none⟩ = _ by simpa using World.var?_cell g5 hv3 0⟩
#print axioms errs_of_laid
end Go.Proofs.YtpemfmjplejdiaaDoor
