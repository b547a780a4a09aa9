/- What the row's variables give. No condition of its own. -/
import Derived.Test.YtbcjeemjpcidhaaDoorPa2
import Derived.Test.YtbcjeemjpcidhaaDoorLawPa
import Derived.Stop.LaidTwo
import Derived.Shelf.Vars
namespace Go.Proofs.YtbcjeemjpcidhaaDoor
open Go.ChangeShapes Go.WideShapes Go.RowKit

theorem glT : Tryd.prog.globalNamed "pintle/api.ErrText" = some 2 := by kernel_rfl
theorem glTt : (Tryd.prog.globals[2]?).map (·.type) = some 32 := by kernel_rfl
theorem gl1 : Tryd.prog.globalNamed "pintle/api.ErrInvalid" = some 0 := by kernel_rfl
theorem gl1t : (Tryd.prog.globals[0]?).map (·.type) = some 32 := by kernel_rfl
theorem gl2 : Tryd.prog.globalNamed "pintle/api.ErrTwice" = some 3 := by kernel_rfl
theorem gl2t : (Tryd.prog.globals[3]?).map (·.type) = some 32 := by kernel_rfl
theorem gl3 : Tryd.prog.globalNamed "pintle/api.ErrLacks" = some 4 := by kernel_rfl
theorem gl3t : (Tryd.prog.globals[4]?).map (·.type) = some 32 := by kernel_rfl
theorem gl4 : Tryd.prog.globalNamed "pintle/api.ErrUnsafe" = some 1 := by kernel_rfl
theorem gl4t : (Tryd.prog.globals[1]?).map (·.type) = some 32 := by kernel_rfl
theorem maxV_of_shaped {W : World} (h : W.ShapedOpen Tryd.prog) : ∃ m, MaxV W m :=
  Go.Proofs.cell_of_shapedOpen_int (P := Tryd.prog) (g := 5) (t := 3) (zero := #[.int .i64 0]) (k := .i64) h (of_decide_eq_true (by kernel_rfl)) (by kernel_rfl) rfl (by kernel_rfl) (by kernel_rfl) Tryd.underlying3
theorem env_of {W : World} (h : laidMetH Tryd.prog [("unicode/utf8.acceptRanges", Rows.laid_unicode_utf8_acceptRanges), ("pintle/api.ErrText", Rows.laid_pintle_api_ErrText), ("pintle/api.ErrInvalid", Rows.laid_pintle_api_ErrInvalid), ("pintle/api.ErrTwice", Rows.laid_pintle_api_ErrTwice), ("pintle/api.ErrLacks", Rows.laid_pintle_api_ErrLacks), ("pintle/api.ErrUnsafe", Rows.laid_pintle_api_ErrUnsafe), ("unicode/utf8.first", Rows.laid_unicode_utf8_first)] W) (hS : W.ShapedOpen Tryd.prog) : ∃ E ET m, EnvA W E ET m := by
  obtain ⟨m, hm⟩ := maxV_of_shaped hS
  rw [MakeChecks.laidMetH_plain _ _ _ (by kernel_rfl)] at h
  obtain ⟨a8, a9, s8, s9, u8, u9, v8, v9, hv8, hv9, hc8, hs8, _, hc9, hs9, _, _, hb8, hb9⟩ := laid_sentinels2 (h.tail) glT glTt gl1 gl1t Tryd.underlying32 row107 Tryd.underlying154 Tryd.underlying170 rfl rfl Tryd.underlying9 cells125 cells9
  obtain ⟨a10, a11, s10, s11, u10, u11, v10, v11, hv10, hv11, hc10, hs10, _, hc11, hs11, _, _, hb10, hb11⟩ := laid_sentinels2 (h.tail.tail.tail) gl2 gl2t gl3 gl3t Tryd.underlying32 row107 Tryd.underlying154 Tryd.underlying170 rfl rfl Tryd.underlying9 cells125 cells9
  obtain ⟨a13, a12, s13, s12, u13, u12, v13, v12, hv13, hv12, hc13, hs13, _, hc12, hs12, _, _, hb13, hb12⟩ := laid_sentinels2 (h.tail.tail.tail.tail) gl3 gl3t gl4 gl4t Tryd.underlying32 row107 Tryd.underlying154 Tryd.underlying170 rfl rfl Tryd.underlying9 cells125 cells9
  refine ⟨fun i => if i = 9 then a9 else if i = 10 then a10 else if i = 11 then a11 else a12, a8, m, hm, ⟨?_, ?_, ?_, ?_⟩, ?_⟩
  · show W.cell? ⟨0, 0, none⟩ = _; simpa using World.var?_cell gl1 hv9 0
  · show W.cell? ⟨3, 0, none⟩ = _; simpa using World.var?_cell gl2 hv10 0
  · show W.cell? ⟨4, 0, none⟩ = _; simpa using World.var?_cell gl3 hv11 0
  · show W.cell? ⟨1, 0, none⟩ = _; simpa using World.var?_cell gl4 hv12 0
  · show W.cell? ⟨2, 0, none⟩ = _; simpa using World.var?_cell glT hv8 0
/-- An input that fits, at a world written out. -/
theorem witness_zip {H : Type} {enc : TypeId × Value → H} {C : Checked} {os : Os} {f : FuncId} {fn : Func} {s : OpenSpec} {conds : List PathCond} {apart : Bool} {laid : List (String × DataW Unit)} (modest : Bool) (w0 : World) (args : Array Value) (hos : w0.os = os)
    (hv : (w0.forCall (fun _ _ => 0) ⟨#[], args, []⟩).variablesZipB C.prog = true)
    (hr : ((w0.forCall (fun _ _ => 0) ⟨#[], args, []⟩).heap.toList.drop C.prog.globals.size).take ((begin C.prog (fun _ _ => 0) default).world.heap.size - C.prog.globals.size) =
      (begin C.prog (fun _ _ => 0) default).world.heap.toList.drop C.prog.globals.size)
    (hok : Input.okWideB C.prog (w0.forCall (fun _ _ => 0) ⟨#[], args, []⟩) f ⟨#[], args, []⟩ = true)
    (hrow : s.preRow enc C.prog fn conds apart laid (w0.forCall (fun _ _ => 0) ⟨#[], args, []⟩).memory args) :
    ∃ (w : World) (tape : Tape) (i : Input), w.os = os ∧ (w.forCall tape i).Shaped C.prog ∧ i.vars = [] ∧ Input.okWide C.prog (w.forCall tape i) .any w.heap.size f i ∧
      s.preRow enc C.prog fn conds apart laid (w.forCall tape i).memory i.args ∧ ({ modest := modest } : Assume).holds C.prog (lone (Frame.enter C.prog f i.args .normal) [] (w.forCall tape i)) :=
  ⟨w0, fun _ _ => 0, ⟨#[], args, []⟩, hos, World.shaped_of_ZipB hv hr, (Input.okWide_of_okWideB (base := 0) hok).1, (Input.okWide_of_okWideB hok).2, hrow, by
    simp only [Assume.holds]
    exact ⟨by simp, by simp, fun _ => Modest.zero, by simp, by simp⟩⟩
end Go.Proofs.YtbcjeemjpcidhaaDoor
