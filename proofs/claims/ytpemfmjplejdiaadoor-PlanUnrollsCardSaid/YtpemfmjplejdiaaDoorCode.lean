/- An error's number, as the law tells it; what the row's eight variables give. Condition: the errors lie there (ErrsX). -/
import Derived.Test.YtpemfmjplejdiaaDoorLaw
import Derived.Stop.LaidTwo
import Derived.LaidEqlPtr
namespace Go.Proofs.YtpemfmjplejdiaaDoor
open Go.ChangeShapes Go.WideShapes Go.RowKit

/-- The errors, by their numbers; each lies in a block of its own kind, no two in one place. -/
structure ErrsX (w : World) (E : Nat → Addr) : Prop where
  errs : Errs w E
  c0 : w.cell? ⟨0, 0, none⟩ = some (.iface 107 (.pointer (some (E 1))))
  c1 : w.cell? ⟨1, 0, none⟩ = some (.iface 107 (.pointer (some (E 3))))
  b1 : ∃ cs t, w.heap[(E 1).block]? = some (.cells cs t (0, 0))
  b3 : ∃ cs t, w.heap[(E 3).block]? = some (.cells cs t (0, 0))
  b9 : ∃ cs t, w.heap[(E 9).block]? = some (.cells cs t (0, 0))
  b10 : ∃ cs t, w.heap[(E 10).block]? = some (.cells cs t (0, 0))
  b11 : ∃ cs t, w.heap[(E 11).block]? = some (.cells cs t (0, 0))
  b12 : ∃ cs t, w.heap[(E 12).block]? = some (.cells cs t (0, 0))
  n1_3 : E 3 ≠ E 1
  n1_9 : E 9 ≠ E 1
  n1_10 : E 10 ≠ E 1
  n1_11 : E 11 ≠ E 1
  n1_12 : E 12 ≠ E 1
  n3_9 : E 9 ≠ E 3
  n3_10 : E 10 ≠ E 3
  n3_11 : E 11 ≠ E 3
  n3_12 : E 12 ≠ E 3
  n9_10 : E 10 ≠ E 9
  n9_11 : E 11 ≠ E 9
  n9_12 : E 12 ≠ E 9
  n10_11 : E 11 ≠ E 10
  n10_12 : E 12 ≠ E 10
  n11_12 : E 12 ≠ E 11
theorem blk_keep {w w' : World} (h : Kp w w') {b : Nat} (hb : ∃ cs t, w.heap[b]? = some (.cells cs t (0, 0))) : ∃ cs t, w'.heap[b]? = some (.cells cs t (0, 0)) := by
  obtain ⟨cs, t, e⟩ := hb
  exact ⟨cs, t, by rw [h.block b (Array.getElem?_eq_some_iff.1 e).1]; exact e⟩
theorem ErrsX.keep {w w' : World} {E : Nat → Addr} (h : ErrsX w E) (k : Kp w w') : ErrsX w' E :=
  ⟨k.errs h.errs, k.cell h.c0, k.cell h.c1, blk_keep k h.b1, blk_keep k h.b3, blk_keep k h.b9, blk_keep k h.b10, blk_keep k h.b11, blk_keep k h.b12, h.n1_3, h.n1_9, h.n1_10, h.n1_11, h.n1_12, h.n3_9, h.n3_10, h.n3_11, h.n3_12, h.n9_10, h.n9_11, h.n9_12, h.n10_11, h.n10_12, h.n11_12⟩
theorem eq_same (w : World) (a : Addr) : (binOp .eql 32 (.iface 107 (.pointer (some a))) (.iface 107 (.pointer (some a)))).run Tryd.prog w = .ok (.bool true) w := by
  obtain ⟨i, hi, hc⟩ := Option.map_eq_some_iff.1 (show (Tryd.prog.info? 107).map (·.comparable) = some true by kernel_rfl)
  obtain ⟨j, hj, _⟩ := Option.map_eq_some_iff.1 (show (Tryd.prog.info? 125).map (·.size) = some 1 by kernel_rfl)
  exact run_eql_iface_ptr_same w a Tryd.underlying32 Tryd.underlying107 hi hc hj
theorem eq_other (w : World) {a b : Addr} (hne : a ≠ b) (ha : ∃ cs t, w.heap[a.block]? = some (.cells cs t (0, 0))) (hb : ∃ cs t, w.heap[b.block]? = some (.cells cs t (0, 0))) : (binOp .eql 32 (.iface 107 (.pointer (some a))) (.iface 107 (.pointer (some b)))).run Tryd.prog w = .ok (.bool false) w := by
  obtain ⟨i, hi, hc⟩ := Option.map_eq_some_iff.1 (show (Tryd.prog.info? 107).map (·.comparable) = some true by kernel_rfl)
  obtain ⟨j, hj, hs⟩ := Option.map_eq_some_iff.1 (show (Tryd.prog.info? 125).map (·.size) = some 1 by kernel_rfl)
  obtain ⟨ca, ta, ea⟩ := ha
  obtain ⟨cb, tb, eb⟩ := hb
  exact run_eql_iface_ptr_other w Tryd.underlying32 Tryd.underlying107 hi hc hj (by rw [hs]; decide) hne ea eb

set_option maxHeartbeats 2000000 in
theorem code_0 (w : World) (E : Nat → Addr) (h : ErrsX w E) : Calls Tryd.prog 14 #[errV E 0] w fun e w' => e = .returned (iv 0) ∧ w' = w := by
  unfold errV
  rw [if_pos rfl]
  go_enter Tryd.func14, Tryd.ntmps14
  go_wp2_with fail
  go_ret
  exact ⟨rfl, rfl⟩

set_option maxHeartbeats 2000000 in
theorem code_9 (w : World) (E : Nat → Addr) (h : ErrsX w E) : Calls Tryd.prog 14 #[errV E 9] w fun e w' => e = .returned (iv 9) ∧ w' = w := by
  unfold errV
  rw [if_neg (by decide)]
  have e1 := eq_other w h.n1_9 h.b9 h.b1
  have e3 := eq_other w h.n3_9 h.b9 h.b3
  have e9 := eq_same w (E 9)
  have c0 := h.c0
  have c1 := h.c1
  obtain ⟨c2, c3, c4, c5⟩ := h.errs
  clear c3 c4 c5
  clear h
  go_enter Tryd.func14, Tryd.ntmps14
  go_wp2_with fail
  go_ret
  exact ⟨rfl, rfl⟩

set_option maxHeartbeats 2000000 in
theorem code_10 (w : World) (E : Nat → Addr) (h : ErrsX w E) : Calls Tryd.prog 14 #[errV E 10] w fun e w' => e = .returned (iv 10) ∧ w' = w := by
  unfold errV
  rw [if_neg (by decide)]
  have e1 := eq_other w h.n1_10 h.b10 h.b1
  have e3 := eq_other w h.n3_10 h.b10 h.b3
  have e9 := eq_other w h.n9_10 h.b10 h.b9
  have e10 := eq_same w (E 10)
  have c0 := h.c0
  have c1 := h.c1
  obtain ⟨c2, c3, c4, c5⟩ := h.errs
  clear c4 c5
  clear h
  go_enter Tryd.func14, Tryd.ntmps14
  go_wp2_with fail
  go_ret
  exact ⟨rfl, rfl⟩

set_option maxHeartbeats 2000000 in
theorem code_11 (w : World) (E : Nat → Addr) (h : ErrsX w E) : Calls Tryd.prog 14 #[errV E 11] w fun e w' => e = .returned (iv 11) ∧ w' = w := by
  unfold errV
  rw [if_neg (by decide)]
  have e1 := eq_other w h.n1_11 h.b11 h.b1
  have e3 := eq_other w h.n3_11 h.b11 h.b3
  have e9 := eq_other w h.n9_11 h.b11 h.b9
  have e10 := eq_other w h.n10_11 h.b11 h.b10
  have e11 := eq_same w (E 11)
  have c0 := h.c0
  have c1 := h.c1
  obtain ⟨c2, c3, c4, c5⟩ := h.errs
  clear c5
  clear h
  go_enter Tryd.func14, Tryd.ntmps14
  go_wp2_with fail
  go_ret
  exact ⟨rfl, rfl⟩

set_option maxHeartbeats 2000000 in
theorem code_12 (w : World) (E : Nat → Addr) (h : ErrsX w E) : Calls Tryd.prog 14 #[errV E 12] w fun e w' => e = .returned (iv 12) ∧ w' = w := by
  unfold errV
  rw [if_neg (by decide)]
  have e1 := eq_other w h.n1_12 h.b12 h.b1
  have e3 := eq_other w h.n3_12 h.b12 h.b3
  have e9 := eq_other w h.n9_12 h.b12 h.b9
  have e10 := eq_other w h.n10_12 h.b12 h.b10
  have e11 := eq_other w h.n11_12 h.b12 h.b11
  have e12 := eq_same w (E 12)
  have c0 := h.c0
  have c1 := h.c1
  obtain ⟨c2, c3, c4, c5⟩ := h.errs
  clear h
  go_enter Tryd.func14, Tryd.ntmps14
  go_wp2_with fail
  go_ret
  exact ⟨rfl, rfl⟩
theorem code_any (w : World) (E : Nat → Addr) (h : ErrsX w E) (c : Nat) (hc : c = 0 ∨ c = 9 ∨ c = 10 ∨ c = 11 ∨ c = 12) : Calls Tryd.prog 14 #[errV E c] w fun e w' => e = .returned (iv (c : Nat)) ∧ w' = w := by
  rcases hc with rfl | rfl | rfl | rfl | rfl
  · exact code_0 w E h
  · exact code_9 w E h
  · exact code_10 w E h
  · exact code_11 w E h
  · exact code_12 w E h

theorem g0 : Tryd.prog.globalNamed "pintle/api.ErrArg" = some 0 := by kernel_rfl
theorem g0t : (Tryd.prog.globals[0]?).map (·.type) = some 32 := by kernel_rfl
theorem g1 : Tryd.prog.globalNamed "pintle/api.ErrLong" = some 1 := by kernel_rfl
theorem g1t : (Tryd.prog.globals[1]?).map (·.type) = some 32 := by kernel_rfl
theorem text_ne {w : World} {a b : Addr} {s t : ByteArray} {x y : List UInt8} (ha : w.cell? a = some (.string s)) (hb : w.cell? b = some (.string t)) (hs : s.data.toList = x) (ht : t.data.toList = y) (hxy : x ≠ y) : a ≠ b := by
  rintro rfl
  rw [ha] at hb
  simp only [Option.some.injEq, Value.string.injEq] at hb
  subst hb
  exact hxy (hs.symm.trans ht)

/-- What the eight variables of a row give. -/
theorem errsX_of_laid {W : World} (h : laidMetH Tryd.prog [("pintle/api.ErrArg", Rows.laid_pintle_api_ErrArg), ("pintle/api.ErrLong", Rows.laid_pintle_api_ErrLong), ("pintle/api.ErrText", Rows.laid_pintle_api_ErrText), ("pintle/api.ErrInvalid", Rows.laid_pintle_api_ErrInvalid), ("pintle/api.ErrTwice", Rows.laid_pintle_api_ErrTwice), ("pintle/api.ErrLacks", Rows.laid_pintle_api_ErrLacks), ("pintle/api.ErrUnsafe", Rows.laid_pintle_api_ErrUnsafe), ("pintle/api.ErrName", Rows.laid_pintle_api_ErrName)] W) : ∃ E, ErrsX W E := by
  rw [MakeChecks.laidMetH_plain _ _ _ (by kernel_rfl)] at h
  obtain ⟨a1, a3, s1, s3, u1, u3, v1, v3, hv1, hv3, hc1, hs1, _, hc3, hs3, _, _, hb1, hb3⟩ := laid_sentinels2 h g0 g0t g1 g1t Tryd.underlying32 row107 Tryd.underlying107 Tryd.underlying125 rfl rfl Tryd.underlying9 cells125 cells9
  obtain ⟨a9, a10, s9, s10, u9, u10, v9, v10, hv9, hv10, hc9, hs9, _, hc10, hs10, _, _, hb9, hb10⟩ := laid_sentinels2 (h.tail.tail.tail) g2 g2t g3 g3t Tryd.underlying32 row107 Tryd.underlying107 Tryd.underlying125 rfl rfl Tryd.underlying9 cells125 cells9
  obtain ⟨a11, a12, s11, s12, u11, u12, v11, v12, hv11, hv12, hc11, hs11, _, hc12, hs12, _, _, hb11, hb12⟩ := laid_sentinels2 (h.tail.tail.tail.tail.tail) g4 g4t g5 g5t Tryd.underlying32 row107 Tryd.underlying107 Tryd.underlying125 rfl rfl Tryd.underlying9 cells125 cells9
  refine ⟨fun i => if i = 1 then a1 else if i = 3 then a3 else if i = 9 then a9 else if i = 10 then a10 else if i = 11 then a11 else a12, ⟨?_, ?_, ?_, ?_⟩, ?_, ?_, ⟨u1, v1, by simpa using hb1⟩, ⟨u3, v3, by simpa using hb3⟩, ⟨u9, v9, by simpa using hb9⟩, ⟨u10, v10, by simpa using hb10⟩, ⟨u11, v11, by simpa using hb11⟩, ⟨u12, v12, by simpa using hb12⟩, by simpa using text_ne hc3 hc1 hs3 hs1 (by decide), by simpa using text_ne hc9 hc1 hs9 hs1 (by decide), by simpa using text_ne hc10 hc1 hs10 hs1 (by decide), by simpa using text_ne hc11 hc1 hs11 hs1 (by decide), by simpa using text_ne hc12 hc1 hs12 hs1 (by decide), by simpa using text_ne hc9 hc3 hs9 hs3 (by decide), by simpa using text_ne hc10 hc3 hs10 hs3 (by decide), by simpa using text_ne hc11 hc3 hs11 hs3 (by decide), by simpa using text_ne hc12 hc3 hs12 hs3 (by decide), by simpa using text_ne hc10 hc9 hs10 hs9 (by decide), by simpa using text_ne hc11 hc9 hs11 hs9 (by decide), by simpa using text_ne hc12 hc9 hs12 hs9 (by decide), by simpa using text_ne hc11 hc10 hs11 hs10 (by decide), by simpa using text_ne hc12 hc10 hs12 hs10 (by decide), by simpa using text_ne hc12 hc11 hs12 hs11 (by decide)⟩
  · show W.cell? ⟨2, 0, none⟩ = _; simpa using World.var?_cell g2 hv9 0
  · show W.cell? ⟨3, 0, none⟩ = _; simpa using World.var?_cell g3 hv10 0
  · show W.cell? ⟨4, 0, none⟩ = _; simpa using World.var?_cell g4 hv11 0
  · show W.cell? ⟨5, 0, none⟩ = _; simpa using World.var?_cell g5 hv12 0
  · show W.cell? ⟨0, 0, none⟩ = _; simpa using World.var?_cell g0 hv1 0
  · show W.cell? ⟨1, 0, none⟩ = _; simpa using World.var?_cell g1 hv3 0
end Go.Proofs.YtpemfmjplejdiaaDoor
