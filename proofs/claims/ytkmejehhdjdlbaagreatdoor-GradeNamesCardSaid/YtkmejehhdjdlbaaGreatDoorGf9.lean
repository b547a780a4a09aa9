/- Parts of the walks and plain laws, merged: Lev1, Lev2. Each theorem bears its own conditions; no other. -/
import Derived.Test.YtkmejehhdjdlbaaGreatDoorTellH
import Derived.Test.YtkmejehhdjdlbaaGreatDoorGf1
import Derived.Test.YtkmejehhdjdlbaaGreatDoorGf4
import Derived.Test.YtkmejehhdjdlbaaGreatDoorGf6
import Derived.Test.YtkmejehhdjdlbaaGreatDoorGf5
namespace Go.Proofs.YtkmejehhdjdlbaaGreatDoor
open Go.RowKit

/-! ### The teller -/
def flagsT (T : List Ln) : Int := flagsV (Q.hasT T 3) (Q.hasT T 4) (Q.hasT T 5) (Q.hasT T 6)
/-- Within a message. -/
def flagsJ (T : List Ln) (ts : List Int) : Int := flagsV (Q.hasT T 3 || ts.contains 3) (Q.hasT T 4 || ts.contains 4) (Q.hasT T 5 || ts.contains 5) (Q.hasT T 6 || ts.contains 6)
theorem flagsJ_zero (T : List Ln) : flagsJ T [] = flagsT T := by unfold flagsJ flagsT; simp
theorem flagsJ_next (T : List Ln) (ts : List Int) (j : Nat) (h : j < ts.length) : bits BinOp.or IntKind.u64 (flagsJ T (ts.take j)) (flagL ts[j]) = flagsJ T (ts.take (j + 1)) := by
  unfold flagsJ
  rw [flag_or, Q.contains_next ts j h, Q.contains_next ts j h, Q.contains_next ts j h, Q.contains_next ts j h]
  simp only [Bool.or_assoc]
theorem flagsJ_all (ls : List Ln) (k : Nat) (h : k < ls.length) : flagsJ (ls.take k) ls[k].2 = flagsT (ls.take (k + 1)) := by
  unfold flagsJ flagsT
  rw [Q.hasT_next ls k h, Q.hasT_next ls k h, Q.hasT_next ls k h, Q.hasT_next ls k h]
theorem flagsT_msgs (ls : List Ln) (more k : Nat) : flagsT ((Q.msgsT ls more).take k) = flagsT (ls.take k) := by
  unfold flagsT
  rw [Q.take_any, Q.take_any, Q.take_any, Q.take_any]
theorem src0 (T : List Ln) : srcF (Q.hasT T 5) (Q.hasT T 6) = Q.srcT T 0 := by unfold srcF Q.srcT Q.staticT; simp
theorem src1 (T : List Ln) : srcF (Q.hasT T 4) (Q.hasT T 6) = Q.srcT T 1 := by unfold srcF Q.srcT Q.staticT; simp
theorem dst0 (ms : List Ln) (k : Nat) : dstF (Q.hasT (ms.take (k + 1)) 3) (Q.hasT (ms.take (k + 1)) 4) (Q.bestT ms 1 k) = Q.dstT ms k 0 := by unfold dstF Q.dstT Q.staticT; simp
theorem dst1 (ms : List Ln) (k : Nat) : dstF (Q.hasT (ms.take (k + 1)) 3) (Q.hasT (ms.take (k + 1)) 5) (Q.bestT ms 0 k) = Q.dstT ms k 1 := by unfold dstF Q.dstT Q.staticT; simp
/-- What it knows ahead of message number k, the tokens T seen. -/
def TellK (w : World) (bt : Nat) (ms : List Ln) (k : Nat) (F : Int) : Prop := TellAt w bt F (Q.bestT ms 0 k) (Q.bestT ms 1 k)
theorem TellK.fr {X : List Nat} {w w' : World} {b k : Nat} {ms : List Ln} {F : Int} (h : TellK w b ms k F) (f : Fr X w w') (hb : b ∉ X) : TellK w' b ms k F := TellAt.fr h f hb
theorem TellK.kp {w w' : World} {b k : Nat} {ms : List Ln} {F : Int} (h : TellK w b ms k F) (f : Kp w w') : TellK w' b ms k F := TellAt.kp h f
theorem TellK.new (w : World) (ms : List Ln) : TellK (w.alloc (.cells #[uv 0, iv 0, iv 0] 78)) w.heap.size ms 0 (flagsT []) := (Thr.new w (uv 0) (iv 0) (iv 0) 78).tell
theorem TellK.set {w : World} {b k : Nat} {ms : List Ln} {F : Int} (h : TellK w b ms k F) (F' : Int) : TellK (w.setCell ⟨b, 0, none⟩ (uv F')) b ms k F' := (h.thr.set0 (uv F')).tell
def TellPost (w : World) (bt : Nat) (ms : List Ln) (k : Nat) (g : Gr) (e : Ending) (w' : World) : Prop := e = .returned (.agg #[iv g.frm, iv g.src, iv g.dst]) ∧ Fr [bt] w w' ∧ TellK w' bt ms (k + 1) (flagsT (ms.take (k + 1)))
theorem grade_step (bt : Nat) (ms : List Ln) (k : Nat) (f : Int) (ts : List Int) (hm : ms[k]? = some (f, ts)) (h01 : f = 0 ∨ f = 1) (w : World) (ht : TellK w bt ms k (flagsT (ms.take (k + 1)))) :
    Calls Tryz.prog 48 #[.pointer (some ⟨bt, 0, none⟩), iv f] w (TellPost w bt ms k (Q.gradeT ms k f)) := by
  have e0 := Q.bestT_next ms 0 k _ hm
  have e1 := Q.bestT_next ms 1 k _ hm
  rcases h01 with rfl | rfl
  · refine (grade_0 bt _ _ _ _ _ _ (Q.bestT_range ms 0 k) (Q.bestT_range ms 1 k) w ht).mono ?_
    rintro e w' ⟨rfl, hf, hT⟩
    rw [src0] at hT
    simp only [if_true] at hT e0
    rw [if_neg (by show ¬ (0 : Int) = 1; decide)] at e1
    refine ⟨?_, hf, ?_⟩
    · rw [src0, dst0]; rfl
    · unfold TellK
      rw [e0, e1]; exact hT
  · refine (grade_1 bt _ _ _ _ _ _ (Q.bestT_range ms 0 k) (Q.bestT_range ms 1 k) w ht).mono ?_
    rintro e w' ⟨rfl, hf, hT⟩
    rw [src1] at hT
    rw [if_neg (by decide), if_neg (by decide)] at hT
    rw [if_neg (by show ¬ (1 : Int) = 0; decide)] at e0
    simp only [if_true] at e1
    refine ⟨?_, hf, ?_⟩
    · rw [src1, dst1]; rfl
    · unfold TellK
      rw [e0, e1]; exact hT
end Go.Proofs.YtkmejehhdjdlbaaGreatDoor

namespace Go.Proofs.YtkmejehhdjdlbaaGreatDoor
open Go.RowKit

/-- Messages of two sides, at least one. -/
structure Sided (ls : List Ln) : Prop where
  pos : 0 < ls.length
  two : ∀ l ∈ ls, l.1 = 0 ∨ l.1 = 1
theorem shaped_of_check {b0 b1 : List Int} {ls : List Ln} (h : checkL b0 b1 ls = 0) : shapedL b0 b1 ls = true := by
  unfold checkL at h
  cases hs : shapedL b0 b1 ls with
  | true => rfl
  | false => rw [hs] at h; simp at h
theorem two_of_check {b0 b1 : List Int} {ls : List Ln} (h : checkL b0 b1 ls = 0) : Sided ls := by
  have hs := shapedL_mem (shaped_of_check h)
  refine ⟨hs.2.2.1, fun l hl => ?_⟩
  obtain ⟨j, hj, rfl⟩ := List.getElem_of_mem hl
  exact (hs.2.2.2 j hj).1
/-- The first k grades. -/
def gradesT (ls : List Ln) (k : Nat) : List Gr := (List.range k).map (Q.gradeR ls)
theorem gradesT_succ (ls : List Ln) (k : Nat) : gradesT ls (k + 1) = gradesT ls k ++ [Q.gradeR ls k] := by
  unfold gradesT
  rw [List.range_succ, List.map_append]; rfl
theorem levelsT_eq {ls : List Ln} (h : Sided ls) (more : Nat) : Q.levelsT ls more = gradesT ls (ls.length + more) := by
  refine List.ext_getElem? fun i => ?_
  rcases Nat.lt_or_ge i (ls.length + more) with q | q
  · rw [Q.levelsT_at h.two more i q]
    unfold gradesT
    simp [q]
  · rw [List.getElem?_eq_none (by rw [Q.levelsT_length]; exact q), List.getElem?_eq_none (by simp [gradesT]; exact q)]
/-- Who sends next. -/
def turnL (ow : Bool) (z : Int) : Int := if ow then z else 1 - z
def TurnPost (w : World) (bl : Nat) (z : Int) (e : Ending) (w' : World) : Prop := e = .returned (iv z) ∧ Fr [bl] w w' ∧ One1 w' bl (iv z)
set_option maxHeartbeats 4000000 in
theorem turn_any (bo bl : Nat) (ow : Bool) (z : Int) (h01 : z = 0 ∨ z = 1) (w : World) (ho : One1 w bo (.bool ow)) (hl : One1 w bl (iv z)) :
    Calls Tryz.prog 49 #[.pointer (some ⟨bo, 0, none⟩), .pointer (some ⟨bl, 0, none⟩)] w (TurnPost w bl (turnL ow z)) := by
  have HL := Lib.hid hl
  obtain ⟨o0, _⟩ := ho
  obtain ⟨l0, lf⟩ := hl
  cases ow with
  | true =>
    go_enter Tryz.func49, Tryz.ntmps49
    go_wp2_with fail
    go_ret
    exact ⟨rfl, Fr.refl _ _, HL.out⟩
  | false =>
    rcases h01 with rfl | rfl
    · go_enter Tryz.func49, Tryz.ntmps49
      go_wp2_with fail
      go_ret
      exact ⟨rfl, Fr.set w ⟨bl, 0, none⟩ _, HL.out.set _⟩
    · go_enter Tryz.func49, Tryz.ntmps49
      go_wp2_with fail
      go_ret
      exact ⟨rfl, Fr.set w ⟨bl, 0, none⟩ _, HL.out.set _⟩
set_option maxHeartbeats 2000000 in
theorem exec_load56 {w : World} {p : Addr} {f : Int} (h : w.cell? p = some (uv f)) {ρ : Operand → Value} {x : Operand} (hx : ρ x = .pointer (some p)) {o : Oper} (ho : o.op = .load 75 x) : (execOp ρ o).run Tryz.prog w = .ok (.value (uv f)) w := by
  simp only [execOp, ho, hx]
  go_simp
def LevelsPost (w : World) (E : Nat → Addr) (EA : Addr) (b0 b1 : List Int) (ls : List Ln) (more : Int) (e : Ending) (w' : World) : Prop := Kp w w' ∧
  if checkL b0 b1 ls = 0 then
    if more < 0 ∨ 64 < more then e = .returned (.tuple #[.slice none 0 0, .iface 229 (.pointer (some EA))])
    else ∃ ao n cap, e = .returned (.tuple #[.slice ao n cap, .nilIface]) ∧ GrO w' w.heap.size ao n cap (Q.levelsT ls more.toNat)
  else e = .returned (.tuple #[.slice none 0 0, errV E (checkL b0 b1 ls)])
theorem LevelsPost.off {w w' : World} {E : Nat → Addr} {EA : Addr} {b0 b1 : List Int} {ls : List Ln} {more : Int} (hk : Kp w w') (h : ¬ checkL b0 b1 ls = 0) :
    LevelsPost w E EA b0 b1 ls more (.returned (.tuple #[.slice none 0 0, errV E (checkL b0 b1 ls)])) w' := ⟨hk, by rw [if_neg h]⟩
theorem LevelsPost.arg {w w' : World} {E : Nat → Addr} {EA : Addr} {b0 b1 : List Int} {ls : List Ln} {more : Int} (hk : Kp w w') (h : checkL b0 b1 ls = 0) (hm : more < 0 ∨ 64 < more) :
    LevelsPost w E EA b0 b1 ls more (.returned (.tuple #[.slice none 0 0, .iface 229 (.pointer (some EA))])) w' := ⟨hk, by rw [if_pos h, if_pos hm]⟩
theorem LevelsPost.fine {w w' : World} {E : Nat → Addr} {EA : Addr} {b0 b1 : List Int} {ls : List Ln} {m : Nat} {ao : Option Addr} {n cap : Nat} (hk : Kp w w') (h : checkL b0 b1 ls = 0) (hm : m ≤ 64) (hO : GrO w' w.heap.size ao n cap (Q.levelsT ls m)) :
    LevelsPost w E EA b0 b1 ls (m : Int) (.returned (.tuple #[.slice ao n cap, .nilIface])) w' := ⟨hk, by rw [if_pos h, if_neg (by omega)]; exact ⟨ao, n, cap, rfl, by simpa using hO⟩⟩
/-- The last sender. -/
theorem lastOf_get {ls : List Ln} (h : 0 < ls.length) : Q.lastOf ls = (ls[ls.length - 1]'(by omega)).1 := by
  unfold Q.lastOf
  rw [List.getLast?_eq_getElem?, List.getElem?_eq_getElem (by omega)]
theorem oneWayQ {ls : List Ln} (h : 0 < ls.length) : Q.oneWay ls = (ls.length == 1 && Q.lastOf ls == 0) := by
  match ls, h with
  | [l], _ =>
    show decide (l.1 = 0) = (true && (l.1 == 0))
    rw [Bool.true_and, Bool.eq_iff_iff]
    simp
  | a :: b :: r, _ => simp [Q.oneWay]
/-- The last sender behind q further messages. -/
def lastQ (ls : List Ln) (q : Nat) : Int := if Q.oneWay ls then Q.lastOf ls else if q % 2 = 0 then Q.lastOf ls else 1 - Q.lastOf ls
theorem turn_last (ls : List Ln) (q : Nat) : turnL (Q.oneWay ls) (lastQ ls q) = Q.senderT ls q ∧ lastQ ls (q + 1) = Q.senderT ls q := by
  unfold turnL lastQ Q.senderT
  cases Q.oneWay ls with
  | true => exact ⟨rfl, rfl⟩
  | false =>
    simp only [Bool.false_eq_true, if_false]
    rcases (show q % 2 = 0 ∧ (q + 1) % 2 = 1 ∨ q % 2 = 1 ∧ (q + 1) % 2 = 0 by omega) with ⟨a, b⟩ | ⟨a, b⟩ <;> simp [a, b] <;> omega
end Go.Proofs.YtkmejehhdjdlbaaGreatDoor
