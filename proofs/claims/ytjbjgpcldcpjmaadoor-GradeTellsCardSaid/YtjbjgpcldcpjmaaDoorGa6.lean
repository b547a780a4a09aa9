/- Parts of the walks and plain laws, merged: Lev1, Lev2, Lev3, Lev4, LawC, Says2, Known2, TableG. Each theorem bears its own conditions; no other. -/
import Derived.Test.YtjbjgpcldcpjmaaDoorTellH
import Derived.Test.YtjbjgpcldcpjmaaDoorGa1
import Derived.Test.YtjbjgpcldcpjmaaDoorGa3
import Derived.Test.YtjbjgpcldcpjmaaDoorRefLev
import Derived.Shelf.Vars
namespace Go.Proofs.YtjbjgpcldcpjmaaDoor
open Go.RowKit

/-! ### The teller -/
def flagsT (T : List Ln) : Int := flagsV (Q.hasT T 3) (Q.hasT T 4) (Q.hasT T 5) (Q.hasT T 6)
/-- Within a message. -/
def flagsJ (T : List Ln) (ts : List Int) : Int := flagsV (Q.hasT T 3 || ts.contains 3) (Q.hasT T 4 || ts.contains 4) (Q.hasT T 5 || ts.contains 5) (Q.hasT T 6 || ts.contains 6)
theorem flagsJ_zero (T : List Ln) : flagsJ T [] = flagsT T := by unfold flagsJ flagsT; simp
theorem flagsJ_next (T : List Ln) (ts : List Int) (j : Nat) (h : j < ts.length) : bits BinOp.or IntKind.u64 (flagsJ T (ts.take j)) (flagL ts[j]) = flagsJ T (ts.take (j + 1)) := by
  unfold flagsJ
  rw [flag_or, Q.contains_next ts j h, Q.contains_next ts j h, Q.contains_next ts j h, Q.contains_next ts j h]
  simp only [Bool.or_assoc]
theorem flagsJ_all (ls : List Ln) (k : Nat) (h : k < ls.length) : flagsJ (ls.take k) ls[k].2 = flagsT (ls.take (k + 1)) := by
  unfold flagsJ flagsT
  rw [Q.hasT_next ls k h, Q.hasT_next ls k h, Q.hasT_next ls k h, Q.hasT_next ls k h]
theorem flagsT_msgs (ls : List Ln) (more k : Nat) : flagsT ((Q.msgsT ls more).take k) = flagsT (ls.take k) := by
  unfold flagsT
  rw [Q.take_any, Q.take_any, Q.take_any, Q.take_any]
theorem src0 (T : List Ln) : srcF (Q.hasT T 5) (Q.hasT T 6) = Q.srcT T 0 := by unfold srcF Q.srcT Q.staticT; simp
theorem src1 (T : List Ln) : srcF (Q.hasT T 4) (Q.hasT T 6) = Q.srcT T 1 := by unfold srcF Q.srcT Q.staticT; simp
theorem dst0 (ms : List Ln) (k : Nat) : dstF (Q.hasT (ms.take (k + 1)) 3) (Q.hasT (ms.take (k + 1)) 4) (Q.bestT ms 1 k) = Q.dstT ms k 0 := by unfold dstF Q.dstT Q.staticT; simp
theorem dst1 (ms : List Ln) (k : Nat) : dstF (Q.hasT (ms.take (k + 1)) 3) (Q.hasT (ms.take (k + 1)) 5) (Q.bestT ms 0 k) = Q.dstT ms k 1 := by unfold dstF Q.dstT Q.staticT; simp
/-- What it knows ahead of message number k, the tokens T seen. -/
def TellK (w : World) (bt : Nat) (ms : List Ln) (k : Nat) (F : Int) : Prop := TellAt w bt F (Q.bestT ms 0 k) (Q.bestT ms 1 k)
theorem TellK.fr {X : List Nat} {w w' : World} {b k : Nat} {ms : List Ln} {F : Int} (h : TellK w b ms k F) (f : Fr X w w') (hb : b ∉ X) : TellK w' b ms k F := TellAt.fr h f hb
theorem TellK.kp {w w' : World} {b k : Nat} {ms : List Ln} {F : Int} (h : TellK w b ms k F) (f : Kp w w') : TellK w' b ms k F := TellAt.kp h f
theorem TellK.new (w : World) (ms : List Ln) : TellK (w.alloc (.cells #[uv 0, iv 0, iv 0] 59)) w.heap.size ms 0 (flagsT []) := (Thr.new w (uv 0) (iv 0) (iv 0) 59).tell
theorem TellK.set {w : World} {b k : Nat} {ms : List Ln} {F : Int} (h : TellK w b ms k F) (F' : Int) : TellK (w.setCell ⟨b, 0, none⟩ (uv F')) b ms k F' := (h.thr.set0 (uv F')).tell
def TellPost (w : World) (bt : Nat) (ms : List Ln) (k : Nat) (g : Gr) (e : Ending) (w' : World) : Prop := e = .returned (.agg #[iv g.frm, iv g.src, iv g.dst]) ∧ Fr [bt] w w' ∧ TellK w' bt ms (k + 1) (flagsT (ms.take (k + 1)))
theorem grade_step (bt : Nat) (ms : List Ln) (k : Nat) (f : Int) (ts : List Int) (hm : ms[k]? = some (f, ts)) (h01 : f = 0 ∨ f = 1) (w : World) (ht : TellK w bt ms k (flagsT (ms.take (k + 1)))) :
    Calls Tryd.prog 22 #[.pointer (some ⟨bt, 0, none⟩), iv f] w (TellPost w bt ms k (Q.gradeT ms k f)) := by
  have e0 := Q.bestT_next ms 0 k _ hm
  have e1 := Q.bestT_next ms 1 k _ hm
  rcases h01 with rfl | rfl
  · refine (grade_0 bt _ _ _ _ _ _ (Q.bestT_range ms 0 k) (Q.bestT_range ms 1 k) w ht).mono ?_
    rintro e w' ⟨rfl, hf, hT⟩
    rw [src0] at hT
    simp only [if_true] at hT e0
    rw [if_neg (by show ¬ (0 : Int) = 1; decide)] at e1
    refine ⟨?_, hf, ?_⟩
    · rw [src0, dst0]; rfl
    · unfold TellK
      rw [e0, e1]; exact hT
  · refine (grade_1 bt _ _ _ _ _ _ (Q.bestT_range ms 0 k) (Q.bestT_range ms 1 k) w ht).mono ?_
    rintro e w' ⟨rfl, hf, hT⟩
    rw [src1] at hT
    rw [if_neg (by decide), if_neg (by decide)] at hT
    rw [if_neg (by show ¬ (1 : Int) = 0; decide)] at e0
    simp only [if_true] at e1
    refine ⟨?_, hf, ?_⟩
    · rw [src1, dst1]; rfl
    · unfold TellK
      rw [e0, e1]; exact hT
end Go.Proofs.YtjbjgpcldcpjmaaDoor

namespace Go.Proofs.YtjbjgpcldcpjmaaDoor
open Go.RowKit

/-- Who sends next. -/
def turnL (ow : Bool) (z : Int) : Int := if ow then z else 1 - z
def TurnPost (w : World) (bl : Nat) (z : Int) (e : Ending) (w' : World) : Prop := e = .returned (iv z) ∧ Fr [bl] w w' ∧ One1 w' bl (iv z)
set_option maxHeartbeats 4000000 in
theorem turn_any (bo bl : Nat) (ow : Bool) (z : Int) (h01 : z = 0 ∨ z = 1) (w : World) (ho : One1 w bo (.bool ow)) (hl : One1 w bl (iv z)) :
    Calls Tryd.prog 23 #[.pointer (some ⟨bo, 0, none⟩), .pointer (some ⟨bl, 0, none⟩)] w (TurnPost w bl (turnL ow z)) := by
  have HL := Lib.hid hl
  obtain ⟨o0, _⟩ := ho
  obtain ⟨l0, lf⟩ := hl
  cases ow with
  | true =>
    go_enter Tryd.func23, Tryd.ntmps23
    go_wp2_with fail
    go_ret
    exact ⟨rfl, Fr.refl _ _, HL.out⟩
  | false =>
    rcases h01 with rfl | rfl
    · go_enter Tryd.func23, Tryd.ntmps23
      go_wp2_with fail
      go_ret
      exact ⟨rfl, Fr.set w ⟨bl, 0, none⟩ _, HL.out.set _⟩
    · go_enter Tryd.func23, Tryd.ntmps23
      go_wp2_with fail
      go_ret
      exact ⟨rfl, Fr.set w ⟨bl, 0, none⟩ _, HL.out.set _⟩
set_option maxHeartbeats 2000000 in
theorem exec_load56 {w : World} {p : Addr} {f : Int} (h : w.cell? p = some (uv f)) {ρ : Operand → Value} {x : Operand} (hx : ρ x = .pointer (some p)) {o : Oper} (ho : o.op = .load 56 x) : (execOp ρ o).run Tryd.prog w = .ok (.value (uv f)) w := by
  simp only [execOp, ho, hx]
  go_simp
def LevelsPost (w : World) (E : Nat → Addr) (EA : Addr) (b0 b1 : List Int) (ls : List Ln) (more : Int) (e : Ending) (w' : World) : Prop := Kp w w' ∧
  if checkL b0 b1 ls = 0 then
    if more < 0 ∨ 64 < more then e = .returned (.tuple #[.slice none 0 0, .iface 134 (.pointer (some EA))])
    else ∃ ao n cap, e = .returned (.tuple #[.slice ao n cap, .nilIface]) ∧ GrO w' w.heap.size ao n cap (Q.levelsT ls more.toNat)
  else e = .returned (.tuple #[.slice none 0 0, errV E (checkL b0 b1 ls)])
theorem LevelsPost.off {w w' : World} {E : Nat → Addr} {EA : Addr} {b0 b1 : List Int} {ls : List Ln} {more : Int} (hk : Kp w w') (h : ¬ checkL b0 b1 ls = 0) :
    LevelsPost w E EA b0 b1 ls more (.returned (.tuple #[.slice none 0 0, errV E (checkL b0 b1 ls)])) w' := ⟨hk, by rw [if_neg h]⟩
theorem LevelsPost.arg {w w' : World} {E : Nat → Addr} {EA : Addr} {b0 b1 : List Int} {ls : List Ln} {more : Int} (hk : Kp w w') (h : checkL b0 b1 ls = 0) (hm : more < 0 ∨ 64 < more) :
    LevelsPost w E EA b0 b1 ls more (.returned (.tuple #[.slice none 0 0, .iface 134 (.pointer (some EA))])) w' := ⟨hk, by rw [if_pos h, if_pos hm]⟩
theorem LevelsPost.fine {w w' : World} {E : Nat → Addr} {EA : Addr} {b0 b1 : List Int} {ls : List Ln} {m : Nat} {ao : Option Addr} {n cap : Nat} (hk : Kp w w') (h : checkL b0 b1 ls = 0) (hm : m ≤ 64) (hO : GrO w' w.heap.size ao n cap (Q.levelsT ls m)) :
    LevelsPost w E EA b0 b1 ls (m : Int) (.returned (.tuple #[.slice ao n cap, .nilIface])) w' := ⟨hk, by rw [if_pos h, if_neg (by omega)]; exact ⟨ao, n, cap, rfl, by simpa using hO⟩⟩
theorem errV_nil (E : Nat → Addr) : errV E 0 = .nilIface := rfl
theorem errV_ptr (E : Nat → Addr) {c : Nat} (h : c ≠ 0) : errV E c = .iface 134 (.pointer (some (E c))) := by unfold errV; rw [if_neg h]
/-- The last sender. -/
theorem lastOf_get {ls : List Ln} (h : 0 < ls.length) : Q.lastOf ls = (ls[ls.length - 1]'(by omega)).1 := by
  unfold Q.lastOf
  rw [List.getLast?_eq_getElem?, List.getElem?_eq_getElem (by omega)]
theorem oneWayQ {ls : List Ln} (h : 0 < ls.length) : Q.oneWay ls = (ls.length == 1 && Q.lastOf ls == 0) := by
  match ls, h with
  | [l], _ =>
    show decide (l.1 = 0) = (true && (l.1 == 0))
    rw [Bool.true_and, Bool.eq_iff_iff]
    simp
  | a :: b :: r, _ => simp [Q.oneWay]
/-- The last sender behind q further messages. -/
def lastQ (ls : List Ln) (q : Nat) : Int := if Q.oneWay ls then Q.lastOf ls else if q % 2 = 0 then Q.lastOf ls else 1 - Q.lastOf ls
theorem turn_last (ls : List Ln) (q : Nat) : turnL (Q.oneWay ls) (lastQ ls q) = Q.senderT ls q ∧ lastQ ls (q + 1) = Q.senderT ls q := by
  unfold turnL lastQ Q.senderT
  cases Q.oneWay ls with
  | true => exact ⟨rfl, rfl⟩
  | false =>
    simp only [Bool.false_eq_true, if_false]
    rcases (show q % 2 = 0 ∧ (q + 1) % 2 = 1 ∨ q % 2 = 1 ∧ (q + 1) % 2 = 0 by omega) with ⟨a, b⟩ | ⟨a, b⟩ <;> simp [a, b] <;> omega
end Go.Proofs.YtjbjgpcldcpjmaaDoor

namespace Go.Proofs.YtjbjgpcldcpjmaaDoor
open Go.RowKit

set_option maxRecDepth 100000 in
set_option maxHeartbeats 8000000 in
theorem levels_any (w : World) (E : Nat → Addr) (EA : Addr) (hE : Errs w E) (hA : w.cell? ⟨0, 0, none⟩ = some (.iface 134 (.pointer (some EA)))) (more : Int)
    (nm : ByteArray) (a0 a1 al : Option Addr) (n0 c0 n1 c1 nl cl : Nat) (b0 b1 : List Int) (ls : List Ln) (h0 : Is w a0 n0 b0) (h1 : Is w a1 n1 b1) (hl : Lns w al nl ls) (hnl : nl ≤ 50000) :
    Calls Tryd.prog 10 #[.agg #[.string nm, .slice a0 n0 c0, .slice a1 n1 c1, .slice al nl cl], iv more] w (LevelsPost w E EA b0 b1 ls more) := by
  have Hll := Lib.hid hl.1
  have hkb := Kp.new w (.cells #[.string nm, .slice a0 n0 c0, .slice a1 n1 c1, .slice al nl cl] 26)
  have hB := Bx.new w nm a0 a1 al n0 c0 n1 c1 nl cl
  obtain ⟨wb, hwb⟩ : ∃ wb, wb = w.alloc (.cells #[.string nm, .slice a0 n0 c0, .slice a1 n1 c1, .slice al nl cl] 26) := ⟨_, rfl⟩
  rw [← hwb] at hkb hB
  obtain ⟨bx, hbx⟩ : ∃ bx, bx = w.heap.size := ⟨_, rfl⟩
  rw [← hbx] at hB
  have HC := Lib.hid (check_any wb E (hkb.errs hE) nm a0 a1 al n0 c0 n1 c1 nl cl b0 b1 ls (hkb.is h0) (hkb.is h1) (hkb.lns hl))
  have Hkb := Lib.hid hkb
  have HB := Lib.hid hB
  have HA := Lib.hid (hkb.cell hA)
  have hlb := hkb.lns hl
  have hbxl : bx < wb.heap.size := by have := World.block_lt_of_cell? _ _ hB.1; simpa using this
  obtain ⟨y0, y1, y2, y3⟩ := hB
  clear h0 h1 hl hE hA hkb
  go_enter Tryd.func10, Tryd.ntmps10
  go_upto_region 1 with fail
  rw [← hwb, ← hbx]
  clear hwb hbx
  by_cases hc : checkL b0 b1 ls = 0
  · have Hc := Lib.hid hc
    have HCc := HC.out
    rw [hc, errV_nil] at HCc
    have HCn := Lib.hid HCc
    have h2 := two_of_check hc
    clear hc HCc HC
    go_wp2_with fail
    (with_reducible refine HCn.out.mono ?_)
    rintro e w1 ⟨rfl, hk1⟩
    clear y0 y1 y2 y3
    by_cases hm : more < 0 ∨ 64 < more
    · have Hm := Lib.hid hm
      have HK := Lib.hid (Kp.trans Hkb.out hk1)
      have hA1 := hk1.cell HA.out
      clear hlb h2 hbxl
      rcases hm with hm | hm
      · go_upto_region 5 with fail
        refine anyH_start (fun w => w.cell? ⟨0, 0, none⟩ = some (.iface 134 (.pointer (some EA)))) (by kernel_rfl) ?_
        have hkd : Kp w1 w1.drew := ⟨rfl, rfl, rfl, Nat.le_refl _, fun _ _ => rfl⟩
        generalize w1.drew = wd at *
        have hAd := hkd.cell hA1
        refine anyH_take [1] (by kernel_rfl) hAd ?_
        simp only [opsAt, List.getElem?_toArray, List.getElem?_cons_zero, List.getElem?_cons_succ]
        repeat (go_big_quiet_step (fail))
        refine wpQuiet_nil ?_
        refine anyH_load 0 27 (.iface 134 (.pointer (some EA))) rfl rfl (by kernel_rfl) hAd (fun w h => exec_load32 h rfl rfl) ?_
        simp only [Act.put, List.setIfInBounds_toArray, List.set_cons_zero, List.set_cons_succ]
        refine anyH_take [2] (by kernel_rfl) hAd ?_
        simp only [opsAt, List.getElem?_toArray, List.getElem?_cons_zero, List.getElem?_cons_succ]
        repeat (go_big_quiet_step (fail))
        refine wpQuiet_nil ?_
        refine anyH_end (by kernel_rfl) ?_
        have HP := Lib.hid (LevelsPost.arg (E := E) (EA := EA) (more := more) (Kp.trans HK.out hkd) Hc.out Hm.out)
        go_wp2_with fail
        show bodyPost Tryd.prog Tryd.f10 (LevelsPost w E EA b0 b1 ls more) .ret _ _
        refine bodyPost_ret (v := .tuple #[.slice none 0 0, .iface 134 (.pointer (some EA))]) (by simp [results, Tryd.results10, go_sem]) rfl ?_
        exact HP.out
      · have hm0 : ¬ more < 0 := by omega
        go_upto_region 5 with fail
        refine anyH_start (fun w => w.cell? ⟨0, 0, none⟩ = some (.iface 134 (.pointer (some EA)))) (by kernel_rfl) ?_
        have hkd : Kp w1 w1.drew := ⟨rfl, rfl, rfl, Nat.le_refl _, fun _ _ => rfl⟩
        generalize w1.drew = wd at *
        have hAd := hkd.cell hA1
        refine anyH_take [1] (by kernel_rfl) hAd ?_
        simp only [opsAt, List.getElem?_toArray, List.getElem?_cons_zero, List.getElem?_cons_succ]
        repeat (go_big_quiet_step (fail))
        refine wpQuiet_nil ?_
        refine anyH_load 0 27 (.iface 134 (.pointer (some EA))) rfl rfl (by kernel_rfl) hAd (fun w h => exec_load32 h rfl rfl) ?_
        simp only [Act.put, List.setIfInBounds_toArray, List.set_cons_zero, List.set_cons_succ]
        refine anyH_take [2] (by kernel_rfl) hAd ?_
        simp only [opsAt, List.getElem?_toArray, List.getElem?_cons_zero, List.getElem?_cons_succ]
        repeat (go_big_quiet_step (fail))
        refine wpQuiet_nil ?_
        refine anyH_end (by kernel_rfl) ?_
        have HP := Lib.hid (LevelsPost.arg (E := E) (EA := EA) (more := more) (Kp.trans HK.out hkd) Hc.out Hm.out)
        go_wp2_with fail
        show bodyPost Tryd.prog Tryd.f10 (LevelsPost w E EA b0 b1 ls more) .ret _ _
        refine bodyPost_ret (v := .tuple #[.slice none 0 0, .iface 134 (.pointer (some EA))]) (by simp [results, Tryd.results10, go_sem]) rfl ?_
        exact HP.out
    · obtain ⟨m, rfl, hm64⟩ : ∃ m : Nat, more = (m : Int) ∧ m ≤ 64 := ⟨more.toNat, by omega, by omega⟩
      clear hm
      have hlw := hk1.lns hlb
      have hBw := HB.out.kp hk1
      have HK1 := Lib.hid (Kp.trans Hkb.out hk1)
      have hs1 : w.heap.size ≤ w1.heap.size := HK1.out.size
      have hs1b : wb.heap.size ≤ w1.heap.size := hk1.size
      clear hlb hk1 HCn HA
      go_upto_region 7 with fail
      have hkt := Kp.new w1 (.cells #[uv 0, iv 0, iv 0] 59)
      have hTk := TellK.new w1 (Q.msgsT ls m)
      change Code.wp _ _ _ _ (w1.alloc (.cells #[uv 0, iv 0, iv 0] 59))
      generalize w1.alloc (.cells #[uv 0, iv 0, iv 0] 59) = w3 at *
      obtain ⟨bt, hbt⟩ : ∃ bt, bt = w1.heap.size := ⟨_, rfl⟩
      rw [← hbt] at hTk ⊢
      have hbtx : bx < bt := by omega
      have hbt3 : bt < w3.heap.size := by have := World.block_lt_of_cell? _ _ hTk.c0; simpa using this
      have HK3 := Lib.hid (Kp.trans HK1.out hkt)
      have hB3 := hBw.kp hkt
      have hbtw : w.heap.size ≤ bt := by omega
      have Hsb := Lib.hid (show w1.heap.size ≤ bt by omega)
      have hFK : ∀ wr, Fr [bt] w3 wr → Kp w1 wr := fun wr h => ((Fr.of_kp hkt).step h (fun j hj => .inr (by simp only [List.mem_singleton] at hj; omega))).kp
      have HFK := Lib.hid hFK
      have Hin := Lib.hid (And.intro hBw hlw)
      clear hbt hkt hlw hBw hs1 hs1b hFK
      obtain ⟨y0, y1, y2, y3⟩ := hB3
      go_wp2_with fail
      clear y0 y1 y2 y3
      go_loopw [8, 33] (fun l i wr => ∃ k cap ao, k ≤ nl ∧ i = .int .i64 (k : Nat) ∧ l = .slice ao k cap ∧ GrO wr w3.heap.size ao k cap ((Q.levelsT ls m).take k) ∧ TellK wr bt (Q.msgsT ls m) k (flagsT (ls.take k)) ∧ Fr [bt] w3 wr) (fun _ i _ => nl - (intOf i).toNat)
      case atStart => exact ⟨0, 0, none, by omega, rfl, rfl, GrO.nil _ _, hTk, Fr.refl _ _⟩
      case round =>
        clear hTk
        obtain ⟨k, cap, ao, hk, rfl, rfl, hO, hTk, hF⟩ := hrel
        rename World => wr
        by_cases hlt : k < nl
        · have hkl : k < ls.length := by rw [Hll.out]; exact hlt
          have hkr := HFK.out wr hF
          obtain ⟨b, off, tp, tn, tc, rfl, hd1, hd2, hI, htn⟩ := (Hin.out.2).2.2 k hkl
          have HI1 := Lib.hid hI
          replace hd1 := hkr.cell hd1
          replace hd2 := hkr.cell hd2
          replace hI := hkr.is hI
          have Hfj := Lib.hid (flagsJ_all ls k hkl)
          have Hm := Lib.hid (show (Q.msgsT ls m)[k]? = some (ls[k].1, ls[k].2) from Q.msgsT_lt ls m hkl)
          have hf01 := h2.two _ (List.getElem_mem hkl)
          have Hlev := Lib.hid (show (Q.levelsT ls m).take (k + 1) = (Q.levelsT ls m).take k ++ [Q.gradeT (Q.msgsT ls m) k ls[k].1] by
            rw [Q.levelsT_take ls m k (by omega)]
            unfold Q.fromT
            rw [List.getElem?_eq_getElem hkl])
          generalize hl1 : ls[k].1 = f at *
          generalize hl2 : ls[k].2 = ts at *
          clear hl1 hl2
          go_upto_region 11 with fail
          have hk4 := Kp.new wr (.cells #[iv f, .slice tp tn tc] 43)
          have q0 : (wr.alloc (.cells #[iv f, .slice tp tn tc] 43)).cell? ⟨wr.heap.size, 0, none⟩ = some (iv f) := by rw [World.cell?_alloc_at _ _ _ _ rfl]; rfl
          have q1 : (wr.alloc (.cells #[iv f, .slice tp tn tc] 43)).cell? ⟨wr.heap.size, 1, none⟩ = some (.slice tp tn tc) := by rw [World.cell?_alloc_at _ _ _ _ rfl]; rfl
          generalize wr.alloc (.cells #[iv f, .slice tp tn tc] 43) = w4 at hk4 q0 q1 ⊢
          obtain ⟨bl, hbl2⟩ : ∃ bl, bl = wr.heap.size := ⟨_, rfl⟩
          rw [← hbl2] at q0 q1 ⊢
          have hblt : bt ≠ bl := by have := hF.size; omega
          have hI4 := hk4.is hI
          have hT4 := hTk.kp hk4
          rw [← flagsJ_zero] at hT4
          have HO4 := Lib.hid (hO.keep hk4)
          have HF4 := Lib.hid (hF.trans ((Fr.of_kp hk4).mono (by simp)))
          have htl := hI.1
          clear hbl2 hk4 hd1 hd2 hI hTk hO hF hkr
          have Hq0 := Lib.hid q0
          go_wp2_with fail
          clear q0 q1
          go_loopw [40] (fun i wv => ∃ j, j ≤ tn ∧ i = .int .i64 (j : Nat) ∧ TellK wv bt (Q.msgsT ls m) k (flagsJ (ls.take k) (ts.take j)) ∧ Fr [bt] w4 wv) (fun i _ => tn - (intOf i).toNat)
          case atStart => exact ⟨0, by omega, rfl, by rw [List.take_zero]; exact hT4, Fr.refl _ _⟩
          case round =>
            clear hT4
            obtain ⟨j, hj, rfl, hTj, hFj⟩ := hrel
            rename World => wv
            by_cases hjt : j < tn
            · have hjl : j < ts.length := by omega
              obtain ⟨tb, toff, rfl, htbl, hcc⟩ := hI4.at j hjt
              have hck := hFj.cell (hcc j hjt) (by
                obtain ⟨tb', toff', e, hlt', _⟩ := HI1.out.at j hjt
                simp only [Option.some.injEq, Addr.mk.injEq, and_true] at e
                have := Hsb.out
                simp only [List.mem_singleton]
                omega)
              have Hfl := Lib.hid (flagsJ_next (ls.take k) ts j hjl)
              clear hcc htbl
              generalize ts[j]'hjl = u at *
              go_upto_region 14 with fail
              generalize hFv : flagsJ (ls.take k) (ts.take j) = Fv at *
              generalize hFw : flagsJ (ls.take k) (ts.take (j + 1)) = Fw at *
              have hT0 := hTj.c0
              refine anyP_start (fun w => w.cell? ⟨bt, 0, none⟩ = some (uv Fv)) 9 (fun _ => True) (fun _ _ => False) (by kernel_rfl) (fun _ _ _ _ h => h.elim) ?_
              have hkd : Kp wv wv.drew := ⟨rfl, rfl, rfl, Nat.le_refl _, fun _ _ => rfl⟩
              generalize wv.drew = wd at *
              have hTd := hkd.cell hT0
              have hTjd := hTj.kp hkd
              have hFd := hFj.trans ((Fr.of_kp hkd).mono (by simp))
              clear hT0 hTj hFj hkd hck
              refine anyP_take puts_true [0, 1, 2, 4] (by kernel_rfl) hTd ?_
              simp only [opsAt, List.getElem?_toArray, List.getElem?_cons_zero, List.getElem?_cons_succ]
              repeat (go_big_quiet_step (fail))
              refine wpQuiet_nil ?_
              refine anyP_load puts_true 3 47 (uv Fv) rfl rfl (by kernel_rfl) hTd (fun w h => exec_load56 h rfl rfl) ?_
              simp only [Act.put, List.setIfInBounds_toArray, List.set_cons_zero, List.set_cons_succ]
              refine anyP_one 5 (by kernel_rfl) ?_
              simp only [opsAt, List.getElem?_toArray, List.getElem?_cons_zero, List.getElem?_cons_succ]
              go_wp2_with fail
              (with_reducible refine (flag_any u wd).mono ?_)
              rintro e w5 ⟨rfl, rfl⟩
              go_wp2_with fail
              refine ⟨fun _ => hTd, ?_⟩
              refine anyP_take puts_true [6] (by kernel_rfl) hTd ?_
              simp only [opsAt, List.getElem?_toArray, List.getElem?_cons_zero, List.getElem?_cons_succ]
              repeat (go_big_quiet_step (fail))
              refine wpQuiet_nil ?_
              have HTd := Lib.hid hTd
              obtain ⟨r0, r1, r2, s0, s1, s2⟩ := hTjd
              have HTn := Lib.hid (TellK.set (show TellK wd bt (Q.msgsT ls m) k Fv from ⟨r0, r1, r2, s0, s1, s2⟩) Fw)
              have HFn := Lib.hid (hFd.trans (Fr.set wd ⟨bt, 0, none⟩ (uv Fw)))
              clear r1 r2 s1 s2 hTd hFd
              refine anyP_one 7 (by kernel_rfl) ?_
              simp only [opsAt, List.getElem?_toArray, List.getElem?_cons_zero, List.getElem?_cons_succ]
              go_wp2_with fail
              refine ⟨fun _ => HTd.out, ?_⟩
              refine anyP_one 8 (by kernel_rfl) ?_
              simp only [opsAt, List.getElem?_toArray, List.getElem?_cons_zero, List.getElem?_cons_succ]
              go_wp2_with fail
              refine ⟨fun _ => HTd.out, ?_⟩
              refine anyP_one 9 (by kernel_rfl) ?_
              simp only [opsAt, List.getElem?_toArray, List.getElem?_cons_zero, List.getElem?_cons_succ]
              rw [Hfl.out]
              go_wp2_with fail
              refine ⟨fun h => absurd rfl h, ?_⟩
              refine anyP_end (by kernel_rfl) ?_
              clear r0 s0
              go_wp2_with fail
              go_roundw
              case rel => exact ⟨j + 1, by omega, by go_num, hFw ▸ HTn.out, HFn.out⟩
              case measure => simp [intOf]; omega
            · obtain rfl : j = tn := by omega
              have e := List.take_of_length_le (i := j) (l := ts) (by omega)
              rw [e, Hfj.out, ← flagsT_msgs ls m (k + 1)] at hTj
              clear e
              have q0 := hFj.cell Hq0.out (by simp only [List.mem_singleton]; omega)
              have HG := Lib.hid (grade_step bt (Q.msgsT ls m) k f ts Hm.out hf01 wv hTj)
              have hOj := HO4.out.fr hFj (fun x hx hq => by simp only [List.mem_singleton] at hq; have := (HO4.out.lt x hx).1; omega)
              have hFj3 := HF4.out.trans hFj
              clear hTj hFj hI4
              go_wp2_with fail
              (with_reducible refine HG.out.mono ?_)
              rintro e w5 ⟨rfl, hF5, hT5⟩
              have hO5 := hOj.fr hF5 (fun x hx hq => by simp only [List.mem_singleton] at hq; have := (hOj.lt x hx).1; omega)
              have hF35 := hFj3.trans hF5
              rw [flagsT_msgs] at hT5
              clear hOj hFj3 hF5 q0 HG
              generalize hg : Q.gradeT (Q.msgsT ls m) k f = g at *
              have hcap : k + 1 ≤ 1000000 := by omega
              go_wp2_with (at_builtin; refine wpList_gr1 rfl (.tmp 54) (.tmp 59) rfl rfl hO5 g rfl (by simp) hcap hF35.size ?_; intro ao2 cap2 w6 ha)
              have Hfin := Lib.hid (show GrO w6 w3.heap.size ao2 (k + 1) cap2 ((Q.levelsT ls m).take (k + 1)) ∧ TellK w6 bt (Q.msgsT ls m) (k + 1) (flagsT (ls.take (k + 1))) ∧ Fr [bt] w3 w6 from
                ⟨by rw [Hlev.out]; exact ha.own, hT5.fr ha.fr (fun hq => by have := (hO5.lt bt hq).1; omega), hF35.step ha.fr (fun x hx => .inr (hO5.lt x hx).1)⟩)
              clear ha hO5 hT5 hF35 hg
              go_roundw
              case rel => exact ⟨k + 1, cap2, ao2, by omega, by go_num, rfl, Hfin.out⟩
              case measure => simp [intOf]; omega
        · obtain rfl : k = nl := by omega
          have hkr := HFK.out wr hF
          have hkn : k - 1 < ls.length := by have := h2.pos; have := Hll.out; omega
          obtain ⟨b, off, tp, tn, tc, rfl, hd1, hd2, hI, htn⟩ := (Hin.out.2).2.2 (k - 1) hkn
          replace hd1 := hkr.cell hd1
          obtain ⟨y0, y1, y2, y3⟩ := Hin.out.1.kp hkr
          have hzv : ls[k - 1].1 = Q.lastOf ls := by rw [lastOf_get h2.pos]; simp only [Hll.out]
          rw [hzv] at hd1
          have Hz2 := Lib.hid (Q.lastOf_two h2.two)
          have How := Lib.hid (show Q.oneWay ls = (k == 1 && Q.lastOf ls == 0) by rw [oneWayQ h2.pos, Hll.out])
          have hk0 : 0 < k := by have := h2.pos; have := Hll.out; omega
          have hkc : (0 : Int) ≤ (k : Int) - 1 := by omega
          clear hzv hd2 hI htn
          generalize hz : Q.lastOf ls = z at *
          generalize how : Q.oneWay ls = ow at *
          go_upto_region 19 with fail
          have hk5 := Kp.new wr (.cells #[iv z] 3)
          have hL5 := One1.new wr (iv z) 3
          generalize wr.alloc (.cells #[iv z] 3) = w5 at *
          obtain ⟨bL, hbL⟩ : ∃ bL, bL = wr.heap.size := ⟨_, rfl⟩
          rw [← hbL] at hL5 ⊢
          have HltO := Lib.hid (show ∀ x ∈ blkL ao, x < bL from fun x hx => by have := (hO.lt x hx).2; omega)
          have hl5 := hk5.cell y3
          have hbt5 : bt < bL := by have := hF.size; omega
          have hO5 := hO.keep hk5
          have hT5 := hTk.kp hk5
          have hF5 := hF.trans ((Fr.of_kp hk5).mono (by simp))
          have hB5 : w3.heap.size ≤ bL := by have := hF.size; omega
          clear hbL hk5 y0 y1 y2 y3 hd1 hO hTk hF hkr
          have Hdj := Lib.hid (show ∀ x ∈ blkL ao, x < bL from HltO.out)
          have hL0 := hL5.c
          go_cut [14] (fun v wc => v = .pointer (some ⟨w5.heap.size, 0, none⟩) ∧ wc = w5.alloc (.cells #[.bool ow] 4))
          case first =>
            by_cases hk1 : k = 1
            · have hb : ((k : Int) == 1) = true := by simp; omega
              have How2 := Lib.hid (show ow = (z == 0) by rw [How.out, hk1]; rfl)
              clear hk1
              go_wp2_with fail
              go_meet
              case rel => exact ⟨rfl, by rw [How2.out]⟩
            · have hb : ((k : Int) == 1) = false := by simp; omega
              have How2 := Lib.hid (show ow = false by rw [How.out, beq_eq_false_iff_ne.2 hk1]; rfl)
              clear hk1
              go_wp2_with fail
              go_meet
              case rel => exact ⟨rfl, by rw [How2.out]⟩
          case rest =>
            obtain ⟨rfl, rfl⟩ := hcut
            have hmf : ∀ (fn : Fn) (first cap : Array Value) (w : World), (Instr.makeFunc fn first cap).run Tryd.prog w = .ok (.func fn first cap) w := fun _ _ _ _ => rfl
            have hk6 := Kp.new w5 (.cells #[.bool ow] 4)
            have hO6 := One1.new w5 (.bool ow) 4
            have hbL5 : bL < w5.heap.size := by have := World.block_lt_of_cell? _ _ hL0; simpa using this
            generalize w5.alloc (.cells #[.bool ow] 4) = w6 at *
            obtain ⟨bO, hbO⟩ : ∃ bO, bO = w5.heap.size := ⟨_, rfl⟩
            rw [← hbO] at hO6 hbL5 ⊢
            have hG6 := hO5.keep hk6
            have hT6 := hT5.kp hk6
            have hL6 := hL5.kp hk6
            have hF6 := hF5.trans ((Fr.of_kp hk6).mono (by simp))
            have hfl : flagsT (ls.take k) = flagsT ls := by rw [List.take_of_length_le (by rw [Hll.out]; exact Nat.le_refl _)]
            rw [hfl] at hT6
            clear hk6 hO5 hT5 hL5 hF5 hl5 hbO hL0 hfl
            go_wp2_with fail
            clear hmf
            go_loopw [8, 81] (fun l i wr => ∃ q cap ao, q ≤ m ∧ i = .int .i64 (q : Nat) ∧ l = .slice ao (k + q) cap ∧ GrO wr w3.heap.size ao (k + q) cap ((Q.levelsT ls m).take (k + q)) ∧ TellK wr bt (Q.msgsT ls m) (k + q) (flagsT ls) ∧ One1 wr bO (.bool ow) ∧ One1 wr bL (iv (lastQ ls q)) ∧ Fr [bt] w3 wr ∧ ∀ x ∈ blkL ao, x ≠ bL ∧ x ≠ bO) (fun _ i _ => m - (intOf i).toNat)
            case atStart => exact ⟨0, cap, ao, by omega, rfl, rfl, hG6, hT6, hO6, by have : lastQ ls 0 = z := by { unfold lastQ; rw [hz]; simp }; rw [this]; exact hL6, hF6, fun x hx => by have := Hdj.out x hx; omega⟩
            case round =>
              clear hG6 hT6 hO6 hL6
              obtain ⟨q, cap, ao, hq, rfl, rfl, hG, hT, hO1, hL1, hFr, hdj⟩ := hrel
              rename World => wr
              by_cases hqm : q < m
              · have hlq : lastQ ls q = 0 ∨ lastQ ls q = 1 := by have := Hz2.out; unfold lastQ; rw [hz]; repeat' split
                                                                 all_goals omega
                have Ht := Lib.hid (show turnL ow (lastQ ls q) = Q.senderT ls q ∧ lastQ ls (q + 1) = Q.senderT ls q by rw [← how]; exact turn_last ls q)
                have HTu := Lib.hid (turn_any bO bL ow (lastQ ls q) hlq wr hO1 hL1)
                rw [Ht.out.1] at HTu
                have Hm := Lib.hid (show (Q.msgsT ls m)[k + q]? = some (Q.senderT ls q, []) by have := Q.msgsT_ge ls m hqm; rwa [Hll.out] at this)
                have hs01 := Q.senderT_two h2.two q
                have hfl : flagsT ((Q.msgsT ls m).take (k + q + 1)) = flagsT ls := by rw [flagsT_msgs, List.take_of_length_le (by rw [Hll.out]; omega)]
                have Hlev := Lib.hid (show (Q.levelsT ls m).take (k + q + 1) = (Q.levelsT ls m).take (k + q) ++ [Q.gradeT (Q.msgsT ls m) (k + q) (Q.senderT ls q)] by
                  rw [Q.levelsT_take ls m (k + q) (by rw [Hll.out]; omega)]
                  unfold Q.fromT
                  rw [List.getElem?_eq_none (by rw [Hll.out]; omega), Hll.out, Nat.add_sub_cancel_left])
                rw [← hfl] at hT
                have HG := Lib.hid (fun w' (h : TellK w' bt (Q.msgsT ls m) (k + q) (flagsT ((Q.msgsT ls m).take (k + q + 1)))) => grade_step bt (Q.msgsT ls m) (k + q) (Q.senderT ls q) [] Hm.out hs01 w' h)
                have Hfl := Lib.hid hfl
                have HO1 := Lib.hid hO1
                clear hlq hfl hO1 hL1 Hm
                generalize Q.gradeT (Q.msgsT ls m) (k + q) (Q.senderT ls q) = g at *
                generalize Q.senderT ls q = s at *
                go_wp2_with fail
                (with_reducible refine HTu.out.mono ?_)
                rintro e w7 ⟨rfl, hF7, hL7⟩
                have hT7 := hT.fr hF7 (by simp only [List.mem_singleton]; omega)
                have hG7 := hG.fr hF7 (fun x hx hq => by simp only [List.mem_singleton] at hq; exact (hdj x hx).1 hq)
                have HO7 := Lib.hid (HO1.out.fr hF7 (by simp only [List.mem_singleton]; omega))
                have hFr7 := hFr.step hF7 (fun x hx => .inr (by simp only [List.mem_singleton] at hx; omega))
                have HGc := Lib.hid (HG.out w7 hT7)
                clear hT hG hFr hT7 hF7 HG HTu HO1
                go_wp2_with fail
                (with_reducible refine HGc.out.mono ?_)
                rintro e w8 ⟨rfl, hF8, hT8⟩
                have hG8 := hG7.fr hF8 (fun x hx hq => by simp only [List.mem_singleton] at hq; have := (hG7.lt x hx).1; omega)
                have HO8 := Lib.hid (HO7.out.fr hF8 (by simp only [List.mem_singleton]; omega))
                have HL8 := Lib.hid (hL7.fr hF8 (by simp only [List.mem_singleton]; omega))
                have hFr8 := hFr7.trans hF8
                rw [Hfl.out] at hT8
                have hcap : k + q + 1 ≤ 1000000 := by omega
                have hB8 : w3.heap.size ≤ w8.heap.size := hFr8.size
                clear hG7 hFr7 HGc hF8 hL7
                go_wp2_with (at_builtin; refine wpList_gr1 rfl (.tmp 83) (.tmp 88) rfl rfl hG8 g rfl (by simp) hcap hB8 ?_; intro ao2 cap2 w9 ha)
                have Hfin := Lib.hid (show GrO w9 w3.heap.size ao2 (k + q + 1) cap2 ((Q.levelsT ls m).take (k + q + 1)) ∧ TellK w9 bt (Q.msgsT ls m) (k + q + 1) (flagsT ls) ∧ One1 w9 bO (.bool ow) ∧ One1 w9 bL (iv (lastQ ls (q + 1))) ∧ Fr [bt] w3 w9 ∧ ∀ x ∈ blkL ao2, x ≠ bL ∧ x ≠ bO from
                  ⟨by rw [Hlev.out]; exact ha.own, hT8.fr ha.fr (fun hq => by have := (hG8.lt bt hq).1; omega), HO8.out.fr ha.fr (fun hq => (hdj bO hq).2 rfl), by rw [Ht.out.2]; exact HL8.out.fr ha.fr (fun hq => (hdj bL hq).1 rfl),
                    hFr8.step ha.fr (fun x hx => .inr (hG8.lt x hx).1), fun x hx => by
                      rcases ha.new x hx with h | h
                      · exact hdj x h
                      · have := World.block_lt_of_cell? _ _ HO8.out.c; simp only at this; omega⟩)
                clear ha hG8 hT8 hFr8 hdj
                go_roundw
                case rel => exact ⟨q + 1, cap2, ao2, by omega, by go_num, rfl, Hfin.out⟩
                case measure => simp [intOf]; omega
              · obtain rfl : q = m := by omega
                have HK := Lib.hid ((Fr.of_kp HK3.out).step hFr (fun x hx => .inr (by simp only [List.mem_singleton] at hx; omega))).kp
                have hall : (Q.levelsT ls q).take (k + q) = Q.levelsT ls q := List.take_of_length_le (by rw [Q.levelsT_length, Hll.out]; exact Nat.le_refl _)
                rw [hall] at hG
                have HG := Lib.hid (show GrO wr w.heap.size ao (k + q) cap (Q.levelsT ls q) from ⟨hG.1.mono (fun x hx => by have := (hG.1.lt x hx).1; have := HK3.out.size; omega), hG.2⟩)
                clear hG hT hO1 hL1 hFr hdj hall
                go_wp2_with fail
                show bodyPost Tryd.prog Tryd.f10 (LevelsPost w E EA b0 b1 ls q) .ret _ _
                refine bodyPost_ret (v := .tuple #[.slice ao (k + q) cap, .nilIface]) (by simp [results, Tryd.results10, go_sem]) rfl ?_
                exact LevelsPost.fine HK.out Hc.out hm64 HG.out
  · have Hc := Lib.hid hc
    have HCc := HC.out
    rw [errV_ptr E hc] at HCc
    have HCn := Lib.hid HCc
    clear hc HCc HC hlb
    go_wp2_with fail
    (with_reducible refine HCn.out.mono ?_)
    rintro e w1 ⟨rfl, hk1⟩
    clear y0 y1 y2 y3
    have HP := Lib.hid (LevelsPost.off (E := E) (EA := EA) (more := more) (Kp.trans Hkb.out hk1) Hc.out)
    rw [errV_ptr E Hc.out] at HP
    clear hk1
    go_wp2_with fail
    show bodyPost Tryd.prog Tryd.f10 (LevelsPost w E EA b0 b1 ls more) .ret _ _
    refine bodyPost_ret (v := .tuple #[.slice none 0 0, .iface 134 (.pointer (some (E (checkL b0 b1 ls))))]) (by simp [results, Tryd.results10, go_sem]) rfl ?_
    exact HP.out
end Go.Proofs.YtjbjgpcldcpjmaaDoor

namespace Go.Proofs.YtjbjgpcldcpjmaaDoor
open Go.RowKit

/-- What the row's variables and the library's give. -/
structure Env (w : World) (E : Nat → Addr) (m : Int) : Prop where
  ex : ErrsX w E
  mx : MaxV w m
theorem Env.keep {w w' : World} {E : Nat → Addr} {m : Int} (h : Env w E m) (k : Kp w w') : Env w' E m := ⟨h.ex.keep k, k.maxV h.mx⟩
/-- A pattern that lies there. -/
structure PatI (w : World) (a0 a1 al : Option Addr) (n0 n1 nl : Nat) (b0 b1 : List Int) (ls : List Ln) : Prop where
  i0 : Is w a0 n0 b0
  i1 : Is w a1 n1 b1
  il : Lns w al nl ls
theorem PatI.kp {w w' : World} {a0 a1 al : Option Addr} {n0 n1 nl : Nat} {b0 b1 : List Int} {ls : List Ln} (h : PatI w a0 a1 al n0 n1 nl b0 b1 ls) (k : Kp w w') : PatI w' a0 a1 al n0 n1 nl b0 b1 ls := ⟨k.is h.i0, k.is h.i1, k.lns h.il⟩
def FinePost (w : World) (gs : List Gr) (e : Ending) (w' : World) : Prop := Kp w w' ∧ ∃ ao n cap, e = .returned (.tuple #[.slice ao n cap, .nilIface]) ∧ GrO w' w.heap.size ao n cap gs
theorem levels_fine {w : World} {E : Nat → Addr} {mx : Int} (hV : Env w E mx) {a0 a1 al : Option Addr} {n0 n1 nl : Nat} {b0 b1 : List Int} {ls : List Ln} (hP : PatI w a0 a1 al n0 n1 nl b0 b1 ls) (hnl : nl ≤ 50000) (nm : ByteArray) (c0 c1 cl : Nat) (m : Nat) (hm : m ≤ 64) (hc : checkL b0 b1 ls = 0) :
    Calls Tryd.prog 10 #[patV nm a0 a1 al n0 c0 n1 c1 nl cl, iv (m : Int)] w (FinePost w (Q.levelsT ls m)) := by
  refine (levels_any w E (E 1) hV.ex.errs hV.ex.c0 (m : Int) nm a0 a1 al n0 c0 n1 c1 nl cl b0 b1 ls hP.i0 hP.i1 hP.il hnl).mono ?_
  rintro e w' ⟨hk, h⟩
  rw [if_pos hc, if_neg (by omega)] at h
  obtain ⟨ao, n, cap, he, hG⟩ := h
  exact ⟨hk, ao, n, cap, he, by simpa using hG⟩
/-- The number of the error. -/
def codeL (b0 b1 : List Int) (ls : List Ln) (more : Int) : Nat := if checkL b0 b1 ls = 0 then (if more < 0 ∨ 64 < more then 1 else 0) else checkL b0 b1 ls
def BadPost (w : World) (E : Nat → Addr) (c : Nat) (e : Ending) (w' : World) : Prop := Kp w w' ∧ e = .returned (.tuple #[.slice none 0 0, .iface 134 (.pointer (some (E c)))])
theorem levels_bad {w : World} {E : Nat → Addr} {mx : Int} (hV : Env w E mx) {a0 a1 al : Option Addr} {n0 n1 nl : Nat} {b0 b1 : List Int} {ls : List Ln} (hP : PatI w a0 a1 al n0 n1 nl b0 b1 ls) (hnl : nl ≤ 50000) (nm : ByteArray) (c0 c1 cl : Nat) (more : Int) (hc : codeL b0 b1 ls more ≠ 0) :
    Calls Tryd.prog 10 #[patV nm a0 a1 al n0 c0 n1 c1 nl cl, iv more] w (BadPost w E (codeL b0 b1 ls more)) := by
  refine (levels_any w E (E 1) hV.ex.errs hV.ex.c0 more nm a0 a1 al n0 c0 n1 c1 nl cl b0 b1 ls hP.i0 hP.i1 hP.il hnl).mono ?_
  rintro e w' ⟨hk, h⟩
  refine ⟨hk, ?_⟩
  unfold codeL at hc ⊢
  by_cases h0 : checkL b0 b1 ls = 0
  · rw [if_pos h0] at h hc ⊢
    by_cases hm : more < 0 ∨ 64 < more
    · rw [if_pos hm] at h ⊢
      exact h
    · rw [if_neg hm] at hc
      exact absurd rfl hc
  · rw [if_neg h0] at h ⊢
    rw [h, errV_ptr E h0]
theorem codeL_zero {b0 b1 : List Int} {ls : List Ln} {more : Int} (h : codeL b0 b1 ls more = 0) : checkL b0 b1 ls = 0 ∧ ∃ m : Nat, more = (m : Int) ∧ m ≤ 64 := by
  unfold codeL at h
  by_cases h0 : checkL b0 b1 ls = 0
  · rw [if_pos h0] at h
    by_cases hm : more < 0 ∨ 64 < more
    · rw [if_pos hm] at h; cases h
    · exact ⟨h0, more.toNat, by omega, by omega⟩
  · rw [if_neg h0] at h; exact absurd h h0
def RFinePost (w : World) (gs : List Gr) (e : Ending) (w' : World) : Prop := Kp w w' ∧ ∃ ao n cap, e = .returned (.tuple #[.slice ao n cap, iv 0]) ∧ GrO w' w.heap.size ao n cap gs
theorem refLevels_fine {w : World} {a0 a1 al : Option Addr} {n0 n1 nl : Nat} {b0 b1 : List Int} {ls : List Ln} (hP : PatI w a0 a1 al n0 n1 nl b0 b1 ls) (hnl : nl ≤ 50000) (nm : ByteArray) (c0 c1 cl : Nat) (m : Nat) (hm : m ≤ 64) (hc : checkL b0 b1 ls = 0) :
    Calls Tryd.prog 11 #[patV nm a0 a1 al n0 c0 n1 c1 nl cl, iv (m : Int)] w (RFinePost w (Q.levelsT ls m)) := by
  refine (refLevels_any w (m : Int) nm a0 a1 al n0 c0 n1 c1 nl cl b0 b1 ls hP.i0 hP.i1 hP.il hnl).mono ?_
  rintro e w' ⟨hk, h⟩
  rw [if_pos hc, if_neg (by omega)] at h
  obtain ⟨ao, n, cap, he, hG⟩ := h
  exact ⟨hk, ao, n, cap, he, by simpa using hG⟩
def RBadPost (w : World) (c : Nat) (e : Ending) (w' : World) : Prop := Kp w w' ∧ e = .returned (.tuple #[.slice none 0 0, iv (c : Int)])
theorem refLevels_bad {w : World} {a0 a1 al : Option Addr} {n0 n1 nl : Nat} {b0 b1 : List Int} {ls : List Ln} (hP : PatI w a0 a1 al n0 n1 nl b0 b1 ls) (hnl : nl ≤ 50000) (nm : ByteArray) (c0 c1 cl : Nat) (more : Int) (hc : codeL b0 b1 ls more ≠ 0) :
    Calls Tryd.prog 11 #[patV nm a0 a1 al n0 c0 n1 c1 nl cl, iv more] w (RBadPost w (codeL b0 b1 ls more)) := by
  refine (refLevels_any w more nm a0 a1 al n0 c0 n1 c1 nl cl b0 b1 ls hP.i0 hP.i1 hP.il hnl).mono ?_
  rintro e w' ⟨hk, h⟩
  refine ⟨hk, ?_⟩
  unfold codeL at hc ⊢
  by_cases h0 : checkL b0 b1 ls = 0
  · rw [if_pos h0] at h hc ⊢
    by_cases hm : more < 0 ∨ 64 < more
    · rw [if_pos hm] at h ⊢
      exact h
    · rw [if_neg hm] at hc
      exact absurd rfl hc
  · rw [if_neg h0] at h ⊢
    exact h
end Go.Proofs.YtjbjgpcldcpjmaaDoor

namespace Go.Proofs.YtjbjgpcldcpjmaaDoor
open Go.ChangeShapes Go.WideShapes Go.RowKit

theorem maxV_of_shaped {W : World} (h : W.ShapedOpen Tryd.prog) : ∃ m, MaxV W m :=
  Go.Proofs.cell_of_shapedOpen_int (P := Tryd.prog) (g := 6) (t := 3) (zero := #[.int .i64 0]) (k := .i64) h (of_decide_eq_true (by kernel_rfl)) (by kernel_rfl) rfl (by kernel_rfl) (by kernel_rfl) Tryd.underlying3
theorem env_of {W : World} (hL : laidMetH Tryd.prog [("unicode/utf8.acceptRanges", Rows.laid_unicode_utf8_acceptRanges), ("pintle/api.ErrArg", Rows.laid_pintle_api_ErrArg), ("pintle/api.ErrText", Rows.laid_pintle_api_ErrText), ("pintle/api.ErrInvalid", Rows.laid_pintle_api_ErrInvalid), ("pintle/api.ErrTwice", Rows.laid_pintle_api_ErrTwice), ("pintle/api.ErrLacks", Rows.laid_pintle_api_ErrLacks), ("pintle/api.ErrUnsafe", Rows.laid_pintle_api_ErrUnsafe), ("unicode/utf8.first", Rows.laid_unicode_utf8_first)] W) (hS : W.ShapedOpen Tryd.prog) : ∃ E m, Env W E m := by
  obtain ⟨E, hE⟩ := errsX_of_laid hL
  obtain ⟨m, hm⟩ := maxV_of_shaped hS
  exact ⟨E, m, hE, hm⟩
/-- An input that fits, at a world written out. -/
theorem witness_zip {H : Type} {enc : TypeId × Value → H} {C : Checked} {os : Os} {f : FuncId} {fn : Func} {s : OpenSpec} {conds : List PathCond} {apart : Bool} {laid : List (String × DataW Unit)} (modest : Bool) (w0 : World) (args : Array Value) (hos : w0.os = os)
    (hv : (w0.forCall (fun _ _ => 0) ⟨#[], args, []⟩).variablesZipB C.prog = true)
    (hr : ((w0.forCall (fun _ _ => 0) ⟨#[], args, []⟩).heap.toList.drop C.prog.globals.size).take ((begin C.prog (fun _ _ => 0) default).world.heap.size - C.prog.globals.size) =
      (begin C.prog (fun _ _ => 0) default).world.heap.toList.drop C.prog.globals.size)
    (hok : Input.okWideB C.prog (w0.forCall (fun _ _ => 0) ⟨#[], args, []⟩) f ⟨#[], args, []⟩ = true)
    (hrow : s.preRow enc C.prog fn conds apart laid (w0.forCall (fun _ _ => 0) ⟨#[], args, []⟩).memory args) :
    ∃ (w : World) (tape : Tape) (i : Input), w.os = os ∧ (w.forCall tape i).Shaped C.prog ∧ i.vars = [] ∧ Input.okWide C.prog (w.forCall tape i) .any w.heap.size f i ∧
      s.preRow enc C.prog fn conds apart laid (w.forCall tape i).memory i.args ∧ ({ modest := modest } : Assume).holds C.prog (lone (Frame.enter C.prog f i.args .normal) [] (w.forCall tape i)) :=
  ⟨w0, fun _ _ => 0, ⟨#[], args, []⟩, hos, World.shaped_of_ZipB hv hr, (Input.okWide_of_okWideB (base := 0) hok).1, (Input.okWide_of_okWideB hok).2, hrow, by
    simp only [Assume.holds]
    exact ⟨by simp, by simp, fun _ => Modest.zero, by simp, by simp⟩⟩
end Go.Proofs.YtjbjgpcldcpjmaaDoor

namespace Go.Proofs.YtjbjgpcldcpjmaaDoor
open Go.RowKit

theorem levelsT_small (ls : List Ln) (m : Nat) : ∀ g ∈ Q.levelsT ls m, Small g := by
  intro g hg
  obtain ⟨i, hi, rfl⟩ := List.getElem_of_mem hg
  have h : (Q.levelsT ls m)[i]? = some (Q.levelsT ls m)[i] := List.getElem?_eq_getElem hi
  rw [Q.levelsT_get ls m (by rw [Q.levelsT_length] at hi; exact hi)] at h
  rw [← Option.some.inj h]
  have a := Q.srcT_range ((Q.msgsT ls m).take (i + 1)) (Q.fromT ls i)
  have b := Q.dstT_range (Q.msgsT ls m) i (Q.fromT ls i)
  exact ⟨a.1, by show Q.srcT _ _ ≤ 9; omega, b.1, by show Q.dstT _ _ _ ≤ 9; omega⟩
theorem row_small : Q.tableL.all (fun y => decide (y.2.2.1.length ≤ 10) && y.2.2.1.all (fun l => decide (l.2.length ≤ 10)) && decide (y.1.length ≤ 10)) = true := by kernel_rfl
theorem row_facts {nm : Q.Bt} {y : Row} (h : rowOf nm = some y) : checkL y.2.1.1 y.2.1.2 y.2.2.1 = 0 ∧ y.2.2.1.length ≤ 10 ∧ (∀ l ∈ y.2.2.1, l.2.length ≤ 10) ∧ y.1.length ≤ 10 := by
  have hm : y ∈ Q.tableL := List.mem_of_find?_eq_some h
  have h1 := List.all_eq_true.1 tbl_checked y hm
  have h2 := List.all_eq_true.1 row_small y hm
  simp only [Bool.and_eq_true, decide_eq_true_eq, List.all_eq_true] at h2
  exact ⟨by simpa using h1, h2.1.1, h2.1.2, h2.2⟩
theorem bytes_ext {s t : ByteArray} (h : s.data.toList = t.data.toList) : s = t := by
  cases s; cases t
  simp only at h
  rw [ByteArray.mk.injEq]
  exact Array.ext' h
attribute [local irreducible] rowOf Q.tableL
set_option maxRecDepth 100000 in
set_option maxHeartbeats 4000000 in
theorem says_true (w : World) (E : Nat → Addr) (mx : Int) (hV : Env w E mx) (nm want : ByteArray) (m : Nat) (hm : m ≤ 64) (hn : nm.size ≤ maxLen) (y : Row) (hy : rowOf nm.data.toList = some y)
    (hw : (Q.levelsT y.2.2.1 m).flatMap digG = want.data.toList) :
    Calls Tryd.prog 19 #[.string nm, iv (m : Int), .string want] w fun e w' => e = .returned (.bool true) ∧ Kp w w' := by
  obtain ⟨hc, hl10, ht10, _⟩ := row_facts hy
  have HFi := Lib.hid (find_any nm mx E (E 3) w hn hV.mx hV.ex.errs hV.ex.c5)
  unfold FindPost at HFi
  rw [hy] at HFi
  have HV := Lib.hid hV
  clear hV hy
  go_enter Tryd.func19, Tryd.ntmps19
  go_wp2_with fail
  (with_reducible refine HFi.out.mono ?_)
  rintro e w1 ⟨hk1, t0, t1, tl, ts, rfl, hO⟩
  unfold tvv
  have hk2 := Kp.new w1 (.cells #[.string (bs y.1), .slice t0.ao t0.n t0.c, .slice t1.ao t1.n t1.c, .slice tl.ao tl.n tl.c] 26)
  have hB2 := Bx.new w1 (bs y.1) t0.ao t1.ao tl.ao t0.n t0.c t1.n t1.c tl.n tl.c
  have hO2 := hO.kp hk2
  have Hk2 := Lib.hid (Kp.trans hk1 hk2)
  have hV2 := HV.out.keep Hk2.out
  have hnl : tl.n ≤ 50000 := by have := hO2.nl; omega
  have HLv := Lib.hid (levels_fine hV2 ⟨hO2.is0, hO2.is1, hO2.lnsN 10 (by decide) hl10 ht10⟩ hnl (bs y.1) t0.c t1.c tl.c m hm hc)
  clear hk1 hk2 hO hO2 hV2 HFi hc hnl
  go_upto_region 2 with fail
  generalize w1.alloc (.cells #[.string (bs y.1), .slice t0.ao t0.n t0.c, .slice t1.ao t1.n t1.c, .slice tl.ao tl.n tl.c] 26) = w2 at *
  obtain ⟨bp, hbp⟩ : ∃ bp, bp = w1.heap.size := ⟨_, rfl⟩
  rw [← hbp] at hB2 ⊢
  clear hbp
  obtain ⟨y0, y1, y2, y3⟩ := hB2
  go_wp2_with fail
  (with_reducible refine HLv.out.mono ?_)
  rintro e w3 ⟨hk3, ao, n, cap, rfl, hG⟩
  have hk13 := Kp.trans Hk2.out hk3
  have hlen := hG.2
  rw [Q.levelsT_length] at hlen
  have HDi := Lib.hid (digits_any w3 ao n cap _ hG.grs (levelsT_small _ _) (by omega))
  rw [hw] at HDi
  clear hG hk3 y0 y1 y2 y3 HLv
  go_wp2_with fail
  (with_reducible refine HDi.out.mono ?_)
  rintro e w4 ⟨⟨s, rfl, hs⟩, hk4⟩
  obtain rfl := bytes_ext hs
  clear hs
  go_wp2_with fail
  go_ret
  exact ⟨rfl, Kp.trans hk13 hk4⟩
end Go.Proofs.YtjbjgpcldcpjmaaDoor

namespace Go.Proofs.YtjbjgpcldcpjmaaDoor
open Go.RowKit

theorem row_KK : rowOf (⟨#[75, 75]⟩ : ByteArray).data.toList = some ([75, 75], ([2], [2]), [(0, [1, 4, 6]), (1, [1, 3, 5])], true) := by kernel_rfl
theorem row_NX1 : rowOf (⟨#[78, 88, 49]⟩ : ByteArray).data.toList = some ([78, 88, 49], ([], []), [(0, [1]), (1, [1, 3, 2]), (0, [4])], false) := by kernel_rfl
theorem dig_KK : (Q.levelsT [(0, [1, 4, 6]), (1, [1, 3, 5])] 2).flatMap digG = (⟨#[105, 49, 50, 114, 50, 52, 105, 50, 53, 114, 50, 53]⟩ : ByteArray).data.toList := by kernel_rfl
theorem dig_NX1 : (Q.levelsT [(0, [1]), (1, [1, 3, 2]), (0, [4])] 2).flatMap digG = (⟨#[105, 48, 48, 114, 48, 49, 105, 48, 51, 114, 50, 49, 105, 48, 53]⟩ : ByteArray).data.toList := by kernel_rfl
theorem PatI.none (w : World) : PatI w none none none 0 0 0 [] [] [] := ⟨Is.zero _ _, Is.zero _ _, ⟨rfl, Nat.zero_le _, fun j hj => absurd hj (by simp)⟩⟩
attribute [local irreducible] rowOf Q.tableL
set_option maxRecDepth 100000 in
set_option maxHeartbeats 4000000 in
theorem knownG_any (w : World) (E : Nat → Addr) (mx : Int) (hV : Env w E mx) : Calls Tryd.prog 15 #[] w fun e w' => e = .returned (.bool true) ∧ Kp w w' := by
  have hc : codeL [] [] [] 65 = 9 := by kernel_rfl
  have HL := levels_bad hV (PatI.none w) (by omega) ⟨#[]⟩ 0 0 0 65 (by rw [hc]; decide)
  rw [hc] at HL
  have HL := Lib.hid HL
  have HK := Lib.hid (fun w' (h : Kp w w') => says_true w' E mx (hV.keep h) ⟨#[75, 75]⟩ ⟨#[105, 49, 50, 114, 50, 52, 105, 50, 53, 114, 50, 53]⟩ 2 (by decide) (by decide) _ row_KK dig_KK)
  have HN := Lib.hid (fun w' (h : Kp w w') => says_true w' E mx (hV.keep h) ⟨#[78, 88, 49]⟩ ⟨#[105, 48, 48, 114, 48, 49, 105, 48, 51, 114, 50, 49, 105, 48, 53]⟩ 2 (by decide) (by decide) _ row_NX1 dig_NX1)
  rw [show ((2 : Nat) : Int) = 2 from rfl] at HK HN
  have HV := Lib.hid hV
  clear hV hc
  go_enter Tryd.func15, Tryd.ntmps15
  go_wp2_with fail
  (with_reducible refine HL.out.mono ?_)
  rintro e w1 ⟨hk1, rfl⟩
  go_wp2_with fail
  (with_reducible refine (HK.out w1 hk1).mono ?_)
  rintro e w2 ⟨rfl, hk2⟩
  have hk12 := Kp.trans hk1 hk2
  go_wp2_with fail
  (with_reducible refine (HN.out w2 hk12).mono ?_)
  rintro e w3 ⟨rfl, hk3⟩
  have hk13 := Kp.trans hk12 hk3
  have e9 := eq_same w3 (E 9)
  obtain ⟨c2, _, _, _⟩ := (HV.out.keep hk13).ex.errs
  clear hk1 hk2 hk12 hk3
  go_wp2_with fail
  go_ret
  exact ⟨rfl, hk13⟩
end Go.Proofs.YtjbjgpcldcpjmaaDoor

namespace Go.Proofs.YtjbjgpcldcpjmaaDoor
open Go.RowKit

theorem tblRow_0 : rowOf (⟨#[78]⟩ : ByteArray).data.toList = some ([78], ([], [2]), [(0, [1, 4])], true) := by kernel_rfl
theorem tblDig_0 : (Q.levelsT [(0, [1, 4])] 1).flatMap digG = (⟨#[105, 48, 50, 105, 48, 50]⟩ : ByteArray).data.toList := by kernel_rfl
theorem tblRow_1 : rowOf (⟨#[75]⟩ : ByteArray).data.toList = some ([75], ([2], [2]), [(0, [1, 4, 6])], true) := by kernel_rfl
theorem tblDig_1 : (Q.levelsT [(0, [1, 4, 6])] 1).flatMap digG = (⟨#[105, 49, 50, 105, 49, 50]⟩ : ByteArray).data.toList := by kernel_rfl
theorem tblRow_2 : rowOf (⟨#[88]⟩ : ByteArray).data.toList = some ([88], ([], [2]), [(0, [1, 4, 2, 6])], true) := by kernel_rfl
theorem tblDig_2 : (Q.levelsT [(0, [1, 4, 2, 6])] 1).flatMap digG = (⟨#[105, 49, 50, 105, 49, 50]⟩ : ByteArray).data.toList := by kernel_rfl
theorem tblRow_3 : rowOf (⟨#[78, 78]⟩ : ByteArray).data.toList = some ([78, 78], ([], []), [(0, [1]), (1, [1, 3])], false) := by kernel_rfl
theorem tblDig_3 : (Q.levelsT [(0, [1]), (1, [1, 3])] 1).flatMap digG = (⟨#[105, 48, 48, 114, 48, 49, 105, 48, 49]⟩ : ByteArray).data.toList := by kernel_rfl
theorem tblRow_4 : rowOf (⟨#[78, 75]⟩ : ByteArray).data.toList = some ([78, 75], ([], [2]), [(0, [1, 4]), (1, [1, 3])], true) := by kernel_rfl
theorem tblDig_4 : (Q.levelsT [(0, [1, 4]), (1, [1, 3])] 1).flatMap digG = (⟨#[105, 48, 50, 114, 50, 49, 105, 48, 53]⟩ : ByteArray).data.toList := by kernel_rfl
theorem tblRow_5 : rowOf (⟨#[78, 88]⟩ : ByteArray).data.toList = some ([78, 88], ([], []), [(0, [1]), (1, [1, 3, 2, 4])], false) := by kernel_rfl
theorem tblDig_5 : (Q.levelsT [(0, [1]), (1, [1, 3, 2, 4])] 1).flatMap digG = (⟨#[105, 48, 48, 114, 50, 49, 105, 48, 53]⟩ : ByteArray).data.toList := by kernel_rfl
theorem tblRow_6 : rowOf (⟨#[88, 78]⟩ : ByteArray).data.toList = some ([88, 78], ([], []), [(0, [1]), (1, [1, 3]), (0, [2, 5])], false) := by kernel_rfl
theorem tblDig_6 : (Q.levelsT [(0, [1]), (1, [1, 3]), (0, [2, 5])] 1).flatMap digG = (⟨#[105, 48, 48, 114, 48, 49, 105, 50, 49, 114, 48, 53]⟩ : ByteArray).data.toList := by kernel_rfl
theorem tblRow_7 : rowOf (⟨#[88, 75]⟩ : ByteArray).data.toList = some ([88, 75], ([], [2]), [(0, [1, 4]), (1, [1, 3]), (0, [2, 5])], true) := by kernel_rfl
theorem tblDig_7 : (Q.levelsT [(0, [1, 4]), (1, [1, 3]), (0, [2, 5])] 1).flatMap digG = (⟨#[105, 48, 50, 114, 50, 49, 105, 50, 53, 114, 50, 53]⟩ : ByteArray).data.toList := by kernel_rfl
theorem tblRow_8 : rowOf (⟨#[88, 88]⟩ : ByteArray).data.toList = some ([88, 88], ([], []), [(0, [1]), (1, [1, 3, 2, 4]), (0, [2, 5])], false) := by kernel_rfl
theorem tblDig_8 : (Q.levelsT [(0, [1]), (1, [1, 3, 2, 4]), (0, [2, 5])] 1).flatMap digG = (⟨#[105, 48, 48, 114, 50, 49, 105, 50, 53, 114, 50, 53]⟩ : ByteArray).data.toList := by kernel_rfl
theorem tblRow_9 : rowOf (⟨#[75, 78]⟩ : ByteArray).data.toList = some ([75, 78], ([2], []), [(0, [1]), (1, [1, 3, 5])], true) := by kernel_rfl
theorem tblDig_9 : (Q.levelsT [(0, [1]), (1, [1, 3, 5])] 2).flatMap digG = (⟨#[105, 48, 48, 114, 48, 51, 105, 50, 49, 114, 48, 53]⟩ : ByteArray).data.toList := by kernel_rfl
theorem tblRow_10 : rowOf (⟨#[75, 75]⟩ : ByteArray).data.toList = some ([75, 75], ([2], [2]), [(0, [1, 4, 6]), (1, [1, 3, 5])], true) := by kernel_rfl
theorem tblDig_10 : (Q.levelsT [(0, [1, 4, 6]), (1, [1, 3, 5])] 2).flatMap digG = (⟨#[105, 49, 50, 114, 50, 52, 105, 50, 53, 114, 50, 53]⟩ : ByteArray).data.toList := by kernel_rfl
theorem tblRow_11 : rowOf (⟨#[75, 88]⟩ : ByteArray).data.toList = some ([75, 88], ([2], []), [(0, [1]), (1, [1, 3, 5, 2, 4])], true) := by kernel_rfl
theorem tblDig_11 : (Q.levelsT [(0, [1]), (1, [1, 3, 5, 2, 4])] 2).flatMap digG = (⟨#[105, 48, 48, 114, 50, 51, 105, 50, 53, 114, 50, 53]⟩ : ByteArray).data.toList := by kernel_rfl
theorem tblRow_12 : rowOf (⟨#[73, 78]⟩ : ByteArray).data.toList = some ([73, 78], ([], []), [(0, [1, 2]), (1, [1, 3, 5])], false) := by kernel_rfl
theorem tblDig_12 : (Q.levelsT [(0, [1, 2]), (1, [1, 3, 5])] 2).flatMap digG = (⟨#[105, 48, 48, 114, 48, 51, 105, 50, 49, 114, 48, 53]⟩ : ByteArray).data.toList := by kernel_rfl
theorem tblRow_13 : rowOf (⟨#[73, 75]⟩ : ByteArray).data.toList = some ([73, 75], ([], [2]), [(0, [1, 4, 2, 6]), (1, [1, 3, 5])], true) := by kernel_rfl
theorem tblDig_13 : (Q.levelsT [(0, [1, 4, 2, 6]), (1, [1, 3, 5])] 2).flatMap digG = (⟨#[105, 49, 50, 114, 50, 52, 105, 50, 53, 114, 50, 53]⟩ : ByteArray).data.toList := by kernel_rfl
theorem tblRow_14 : rowOf (⟨#[73, 88]⟩ : ByteArray).data.toList = some ([73, 88], ([], []), [(0, [1, 2]), (1, [1, 3, 5, 2, 4])], false) := by kernel_rfl
theorem tblDig_14 : (Q.levelsT [(0, [1, 2]), (1, [1, 3, 5, 2, 4])] 2).flatMap digG = (⟨#[105, 48, 48, 114, 50, 51, 105, 50, 53, 114, 50, 53]⟩ : ByteArray).data.toList := by kernel_rfl
theorem tblRow_15 : rowOf (⟨#[88, 49, 88, 49]⟩ : ByteArray).data.toList = some ([88, 49, 88, 49], ([], []), [(0, [1]), (1, [1, 3, 2]), (0, [4, 2]), (1, [5])], false) := by kernel_rfl
theorem tblDig_15 : (Q.levelsT [(0, [1]), (1, [1, 3, 2]), (0, [4, 2]), (1, [5])] 2).flatMap digG = (⟨#[105, 48, 48, 114, 48, 49, 105, 48, 51, 114, 50, 51, 105, 50, 53, 114, 50, 53]⟩ : ByteArray).data.toList := by kernel_rfl
theorem tblRow_16 : rowOf (⟨#[75, 88, 49]⟩ : ByteArray).data.toList = some ([75, 88, 49], ([2], []), [(0, [1]), (1, [1, 3, 5, 2]), (0, [4])], true) := by kernel_rfl
theorem tblDig_16 : (Q.levelsT [(0, [1]), (1, [1, 3, 5, 2]), (0, [4])] 2).flatMap digG = (⟨#[105, 48, 48, 114, 48, 51, 105, 50, 51, 114, 50, 53, 105, 50, 53]⟩ : ByteArray).data.toList := by kernel_rfl
theorem tblRow_17 : rowOf (⟨#[73, 49, 75, 49]⟩ : ByteArray).data.toList = some ([73, 49, 75, 49], ([], [2]), [(0, [1, 2]), (1, [1, 3, 4]), (0, [5])], true) := by kernel_rfl
theorem tblDig_17 : (Q.levelsT [(0, [1, 2]), (1, [1, 3, 4]), (0, [5])] 1).flatMap digG = (⟨#[105, 48, 48, 114, 50, 49, 105, 50, 53, 114, 50, 53]⟩ : ByteArray).data.toList := by kernel_rfl
theorem tblRow_18 : rowOf (⟨#[88, 88, 49]⟩ : ByteArray).data.toList = some ([88, 88, 49], ([], []), [(0, [1]), (1, [1, 3, 2]), (0, [4, 2, 5])], false) := by kernel_rfl
theorem tblDig_18 : (Q.levelsT [(0, [1]), (1, [1, 3, 2]), (0, [4, 2, 5])] 1).flatMap digG = (⟨#[105, 48, 48, 114, 48, 49, 105, 50, 51, 114, 50, 53]⟩ : ByteArray).data.toList := by kernel_rfl
attribute [local irreducible] rowOf Q.tableL
set_option maxRecDepth 100000 in
set_option maxHeartbeats 8000000 in
theorem gradeTable_any (w : World) (E : Nat → Addr) (mx : Int) (hV : Env w E mx) : Calls Tryd.prog 7 #[] w fun e w' => e = .returned (.bool true) ∧ Kp w w' := by
  have H0 := Lib.hid (fun w' (h : Kp w w') => says_true w' E mx (hV.keep h) ⟨#[78]⟩ ⟨#[105, 48, 50, 105, 48, 50]⟩ 1 (by decide) (by decide) _ tblRow_0 tblDig_0)
  have H1 := Lib.hid (fun w' (h : Kp w w') => says_true w' E mx (hV.keep h) ⟨#[75]⟩ ⟨#[105, 49, 50, 105, 49, 50]⟩ 1 (by decide) (by decide) _ tblRow_1 tblDig_1)
  have H2 := Lib.hid (fun w' (h : Kp w w') => says_true w' E mx (hV.keep h) ⟨#[88]⟩ ⟨#[105, 49, 50, 105, 49, 50]⟩ 1 (by decide) (by decide) _ tblRow_2 tblDig_2)
  have H3 := Lib.hid (fun w' (h : Kp w w') => says_true w' E mx (hV.keep h) ⟨#[78, 78]⟩ ⟨#[105, 48, 48, 114, 48, 49, 105, 48, 49]⟩ 1 (by decide) (by decide) _ tblRow_3 tblDig_3)
  have H4 := Lib.hid (fun w' (h : Kp w w') => says_true w' E mx (hV.keep h) ⟨#[78, 75]⟩ ⟨#[105, 48, 50, 114, 50, 49, 105, 48, 53]⟩ 1 (by decide) (by decide) _ tblRow_4 tblDig_4)
  have H5 := Lib.hid (fun w' (h : Kp w w') => says_true w' E mx (hV.keep h) ⟨#[78, 88]⟩ ⟨#[105, 48, 48, 114, 50, 49, 105, 48, 53]⟩ 1 (by decide) (by decide) _ tblRow_5 tblDig_5)
  have H6 := Lib.hid (fun w' (h : Kp w w') => says_true w' E mx (hV.keep h) ⟨#[88, 78]⟩ ⟨#[105, 48, 48, 114, 48, 49, 105, 50, 49, 114, 48, 53]⟩ 1 (by decide) (by decide) _ tblRow_6 tblDig_6)
  have H7 := Lib.hid (fun w' (h : Kp w w') => says_true w' E mx (hV.keep h) ⟨#[88, 75]⟩ ⟨#[105, 48, 50, 114, 50, 49, 105, 50, 53, 114, 50, 53]⟩ 1 (by decide) (by decide) _ tblRow_7 tblDig_7)
  have H8 := Lib.hid (fun w' (h : Kp w w') => says_true w' E mx (hV.keep h) ⟨#[88, 88]⟩ ⟨#[105, 48, 48, 114, 50, 49, 105, 50, 53, 114, 50, 53]⟩ 1 (by decide) (by decide) _ tblRow_8 tblDig_8)
  have H9 := Lib.hid (fun w' (h : Kp w w') => says_true w' E mx (hV.keep h) ⟨#[75, 78]⟩ ⟨#[105, 48, 48, 114, 48, 51, 105, 50, 49, 114, 48, 53]⟩ 2 (by decide) (by decide) _ tblRow_9 tblDig_9)
  have H10 := Lib.hid (fun w' (h : Kp w w') => says_true w' E mx (hV.keep h) ⟨#[75, 75]⟩ ⟨#[105, 49, 50, 114, 50, 52, 105, 50, 53, 114, 50, 53]⟩ 2 (by decide) (by decide) _ tblRow_10 tblDig_10)
  have H11 := Lib.hid (fun w' (h : Kp w w') => says_true w' E mx (hV.keep h) ⟨#[75, 88]⟩ ⟨#[105, 48, 48, 114, 50, 51, 105, 50, 53, 114, 50, 53]⟩ 2 (by decide) (by decide) _ tblRow_11 tblDig_11)
  have H12 := Lib.hid (fun w' (h : Kp w w') => says_true w' E mx (hV.keep h) ⟨#[73, 78]⟩ ⟨#[105, 48, 48, 114, 48, 51, 105, 50, 49, 114, 48, 53]⟩ 2 (by decide) (by decide) _ tblRow_12 tblDig_12)
  have H13 := Lib.hid (fun w' (h : Kp w w') => says_true w' E mx (hV.keep h) ⟨#[73, 75]⟩ ⟨#[105, 49, 50, 114, 50, 52, 105, 50, 53, 114, 50, 53]⟩ 2 (by decide) (by decide) _ tblRow_13 tblDig_13)
  have H14 := Lib.hid (fun w' (h : Kp w w') => says_true w' E mx (hV.keep h) ⟨#[73, 88]⟩ ⟨#[105, 48, 48, 114, 50, 51, 105, 50, 53, 114, 50, 53]⟩ 2 (by decide) (by decide) _ tblRow_14 tblDig_14)
  have H15 := Lib.hid (fun w' (h : Kp w w') => says_true w' E mx (hV.keep h) ⟨#[88, 49, 88, 49]⟩ ⟨#[105, 48, 48, 114, 48, 49, 105, 48, 51, 114, 50, 51, 105, 50, 53, 114, 50, 53]⟩ 2 (by decide) (by decide) _ tblRow_15 tblDig_15)
  have H16 := Lib.hid (fun w' (h : Kp w w') => says_true w' E mx (hV.keep h) ⟨#[75, 88, 49]⟩ ⟨#[105, 48, 48, 114, 48, 51, 105, 50, 51, 114, 50, 53, 105, 50, 53]⟩ 2 (by decide) (by decide) _ tblRow_16 tblDig_16)
  have H17 := Lib.hid (fun w' (h : Kp w w') => says_true w' E mx (hV.keep h) ⟨#[73, 49, 75, 49]⟩ ⟨#[105, 48, 48, 114, 50, 49, 105, 50, 53, 114, 50, 53]⟩ 1 (by decide) (by decide) _ tblRow_17 tblDig_17)
  have H18 := Lib.hid (fun w' (h : Kp w w') => says_true w' E mx (hV.keep h) ⟨#[88, 88, 49]⟩ ⟨#[105, 48, 48, 114, 48, 49, 105, 50, 51, 114, 50, 53]⟩ 1 (by decide) (by decide) _ tblRow_18 tblDig_18)
  have HK := Lib.hid (fun w' (h : Kp w w') => knownG_any w' E mx (hV.keep h))
  rw [show ((1 : Nat) : Int) = 1 from rfl] at H0 H1 H2 H3 H4 H5 H6 H7 H8 H17 H18
  rw [show ((2 : Nat) : Int) = 2 from rfl] at H9 H10 H11 H12 H13 H14 H15 H16
  clear hV
  go_enter Tryd.func7, Tryd.ntmps7
  go_wp2_with fail
  (with_reducible refine (H0.out w (Kp.refl _)).mono ?_)
  rintro e w1 ⟨rfl, hk⟩
  have hk1 : Kp w w1 := hk
  clear hk
  go_wp2_with fail
  (with_reducible refine (H1.out w1 hk1).mono ?_)
  rintro e w2 ⟨rfl, hk⟩
  have hk2 : Kp w w2 := Kp.trans hk1 hk
  clear hk hk1
  go_wp2_with fail
  (with_reducible refine (H2.out w2 hk2).mono ?_)
  rintro e w3 ⟨rfl, hk⟩
  have hk3 : Kp w w3 := Kp.trans hk2 hk
  clear hk hk2
  go_wp2_with fail
  (with_reducible refine (H3.out w3 hk3).mono ?_)
  rintro e w4 ⟨rfl, hk⟩
  have hk4 : Kp w w4 := Kp.trans hk3 hk
  clear hk hk3
  go_wp2_with fail
  (with_reducible refine (H4.out w4 hk4).mono ?_)
  rintro e w5 ⟨rfl, hk⟩
  have hk5 : Kp w w5 := Kp.trans hk4 hk
  clear hk hk4
  go_wp2_with fail
  (with_reducible refine (H5.out w5 hk5).mono ?_)
  rintro e w6 ⟨rfl, hk⟩
  have hk6 : Kp w w6 := Kp.trans hk5 hk
  clear hk hk5
  go_wp2_with fail
  (with_reducible refine (H6.out w6 hk6).mono ?_)
  rintro e w7 ⟨rfl, hk⟩
  have hk7 : Kp w w7 := Kp.trans hk6 hk
  clear hk hk6
  go_wp2_with fail
  (with_reducible refine (H7.out w7 hk7).mono ?_)
  rintro e w8 ⟨rfl, hk⟩
  have hk8 : Kp w w8 := Kp.trans hk7 hk
  clear hk hk7
  go_wp2_with fail
  (with_reducible refine (H8.out w8 hk8).mono ?_)
  rintro e w9 ⟨rfl, hk⟩
  have hk9 : Kp w w9 := Kp.trans hk8 hk
  clear hk hk8
  go_wp2_with fail
  (with_reducible refine (H9.out w9 hk9).mono ?_)
  rintro e w10 ⟨rfl, hk⟩
  have hk10 : Kp w w10 := Kp.trans hk9 hk
  clear hk hk9
  go_wp2_with fail
  (with_reducible refine (H10.out w10 hk10).mono ?_)
  rintro e w11 ⟨rfl, hk⟩
  have hk11 : Kp w w11 := Kp.trans hk10 hk
  clear hk hk10
  go_wp2_with fail
  (with_reducible refine (H11.out w11 hk11).mono ?_)
  rintro e w12 ⟨rfl, hk⟩
  have hk12 : Kp w w12 := Kp.trans hk11 hk
  clear hk hk11
  go_wp2_with fail
  (with_reducible refine (H12.out w12 hk12).mono ?_)
  rintro e w13 ⟨rfl, hk⟩
  have hk13 : Kp w w13 := Kp.trans hk12 hk
  clear hk hk12
  go_wp2_with fail
  (with_reducible refine (H13.out w13 hk13).mono ?_)
  rintro e w14 ⟨rfl, hk⟩
  have hk14 : Kp w w14 := Kp.trans hk13 hk
  clear hk hk13
  go_wp2_with fail
  (with_reducible refine (H14.out w14 hk14).mono ?_)
  rintro e w15 ⟨rfl, hk⟩
  have hk15 : Kp w w15 := Kp.trans hk14 hk
  clear hk hk14
  go_wp2_with fail
  (with_reducible refine (H15.out w15 hk15).mono ?_)
  rintro e w16 ⟨rfl, hk⟩
  have hk16 : Kp w w16 := Kp.trans hk15 hk
  clear hk hk15
  go_wp2_with fail
  (with_reducible refine (H16.out w16 hk16).mono ?_)
  rintro e w17 ⟨rfl, hk⟩
  have hk17 : Kp w w17 := Kp.trans hk16 hk
  clear hk hk16
  go_wp2_with fail
  (with_reducible refine (H17.out w17 hk17).mono ?_)
  rintro e w18 ⟨rfl, hk⟩
  have hk18 : Kp w w18 := Kp.trans hk17 hk
  clear hk hk17
  go_wp2_with fail
  (with_reducible refine (H18.out w18 hk18).mono ?_)
  rintro e w19 ⟨rfl, hk⟩
  have hk19 : Kp w w19 := Kp.trans hk18 hk
  clear hk hk18
  go_wp2_with fail
  (with_reducible refine (HK.out w19 hk19).mono ?_)
  rintro e wz ⟨rfl, hk⟩
  go_wp2_with fail
  go_ret
  exact ⟨rfl, Kp.trans hk19 hk⟩
end Go.Proofs.YtjbjgpcldcpjmaaDoor
