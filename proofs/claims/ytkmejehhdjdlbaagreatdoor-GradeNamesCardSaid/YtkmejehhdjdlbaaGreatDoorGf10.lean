/- Parts of the walks and plain laws, merged: Lev4, Says2, Known2, GnP, LawGn. Each theorem bears its own conditions; no other. -/
import Derived.Test.YtkmejehhdjdlbaaGreatDoorLev3
import Derived.Test.YtkmejehhdjdlbaaGreatDoorGf4
import Derived.Test.YtkmejehhdjdlbaaGreatDoorGf6
import Derived.Test.YtkmejehhdjdlbaaGreatDoorGf8
namespace Go.Proofs.YtkmejehhdjdlbaaGreatDoor
open Go.RowKit

def FinePost (w : World) (gs : List Gr) (e : Ending) (w' : World) : Prop := Kp w w' ∧ ∃ ao n cap, e = .returned (.tuple #[.slice ao n cap, .nilIface]) ∧ GrO w' w.heap.size ao n cap gs
theorem levels_fine {w : World} {E : Nat → Addr} {mx : Int} (hV : Env w E mx) {a0 a1 al : Option Addr} {n0 n1 nl : Nat} {b0 b1 : List Int} {ls : List Ln} (hP : PatI w a0 a1 al n0 n1 nl b0 b1 ls) (hnl : nl ≤ 50000) (nm : ByteArray) (c0 c1 cl : Nat) (m : Nat) (hm : m ≤ 64) (hc : checkL b0 b1 ls = 0) :
    Calls Tryz.prog 15 #[patV nm a0 a1 al n0 c0 n1 c1 nl cl, iv (m : Int)] w (FinePost w (Q.levelsT ls m)) := by
  refine (levels_any w E (E 1) hV.errs hV.c0 (m : Int) nm a0 a1 al n0 c0 n1 c1 nl cl b0 b1 ls hP.i0 hP.i1 hP.il hnl).mono ?_
  rintro e w' ⟨hk, h⟩
  rw [if_pos hc, if_neg (by omega)] at h
  obtain ⟨ao, n, cap, he, hG⟩ := h
  exact ⟨hk, ao, n, cap, he, by simpa using hG⟩
/-- The number of the error. -/
def codeL (b0 b1 : List Int) (ls : List Ln) (more : Int) : Nat := if checkL b0 b1 ls = 0 then (if more < 0 ∨ 64 < more then 1 else 0) else checkL b0 b1 ls
def BadPost (w : World) (E : Nat → Addr) (c : Nat) (e : Ending) (w' : World) : Prop := Kp w w' ∧ e = .returned (.tuple #[.slice none 0 0, .iface 229 (.pointer (some (E c)))])
theorem levels_bad {w : World} {E : Nat → Addr} {mx : Int} (hV : Env w E mx) {a0 a1 al : Option Addr} {n0 n1 nl : Nat} {b0 b1 : List Int} {ls : List Ln} (hP : PatI w a0 a1 al n0 n1 nl b0 b1 ls) (hnl : nl ≤ 50000) (nm : ByteArray) (c0 c1 cl : Nat) (more : Int) (hc : codeL b0 b1 ls more ≠ 0) :
    Calls Tryz.prog 15 #[patV nm a0 a1 al n0 c0 n1 c1 nl cl, iv more] w (BadPost w E (codeL b0 b1 ls more)) := by
  refine (levels_any w E (E 1) hV.errs hV.c0 more nm a0 a1 al n0 c0 n1 c1 nl cl b0 b1 ls hP.i0 hP.i1 hP.il hnl).mono ?_
  rintro e w' ⟨hk, h⟩
  refine ⟨hk, ?_⟩
  unfold codeL at hc ⊢
  by_cases h0 : checkL b0 b1 ls = 0
  · rw [if_pos h0] at h hc ⊢
    by_cases hm : more < 0 ∨ 64 < more
    · rw [if_pos hm] at h ⊢
      exact h
    · rw [if_neg hm] at hc
      exact absurd rfl hc
  · rw [if_neg h0] at h ⊢
    rw [h, errV_ptr E h0]
theorem codeL_zero {b0 b1 : List Int} {ls : List Ln} {more : Int} (h : codeL b0 b1 ls more = 0) : checkL b0 b1 ls = 0 ∧ ∃ m : Nat, more = (m : Int) ∧ m ≤ 64 := by
  unfold codeL at h
  by_cases h0 : checkL b0 b1 ls = 0
  · rw [if_pos h0] at h
    by_cases hm : more < 0 ∨ 64 < more
    · rw [if_pos hm] at h; cases h
    · exact ⟨h0, more.toNat, by omega, by omega⟩
  · rw [if_neg h0] at h; exact absurd h h0
end Go.Proofs.YtkmejehhdjdlbaaGreatDoor

namespace Go.Proofs.YtkmejehhdjdlbaaGreatDoor
open Go.RowKit

theorem levelsT_small (ls : List Ln) (m : Nat) : ∀ g ∈ Q.levelsT ls m, Small g := by
  intro g hg
  obtain ⟨i, hi, rfl⟩ := List.getElem_of_mem hg
  have h : (Q.levelsT ls m)[i]? = some (Q.levelsT ls m)[i] := List.getElem?_eq_getElem hi
  rw [Q.levelsT_get ls m (by rw [Q.levelsT_length] at hi; exact hi)] at h
  rw [← Option.some.inj h]
  have a := Q.srcT_range ((Q.msgsT ls m).take (i + 1)) (Q.fromT ls i)
  have b := Q.dstT_range (Q.msgsT ls m) i (Q.fromT ls i)
  exact ⟨a.1, by show Q.srcT _ _ ≤ 9; omega, b.1, by show Q.dstT _ _ _ ≤ 9; omega⟩
theorem row_smallG : Q.tableL.all (fun y => decide (y.2.2.1.length ≤ 10) && y.2.2.1.all (fun l => decide (l.2.length ≤ 10)) && decide (y.1.length ≤ 10)) = true := by kernel_rfl
theorem row_facts {nm : Q.Bt} {y : Row} (h : rowOf nm = some y) : checkL y.2.1.1 y.2.1.2 y.2.2.1 = 0 ∧ y.2.2.1.length ≤ 10 ∧ (∀ l ∈ y.2.2.1, l.2.length ≤ 10) ∧ y.1.length ≤ 10 := by
  have hm : y ∈ Q.tableL := List.mem_of_find?_eq_some h
  have h1 := List.all_eq_true.1 tbl_checked y hm
  have h2 := List.all_eq_true.1 row_smallG y hm
  simp only [Bool.and_eq_true, decide_eq_true_eq, List.all_eq_true] at h2
  exact ⟨by simpa using h1, h2.1.1, h2.1.2, h2.2⟩
theorem bytes_extG {s t : ByteArray} (h : s.data.toList = t.data.toList) : s = t := by
  cases s; cases t
  simp only at h
  rw [ByteArray.mk.injEq]
  exact Array.ext' h
attribute [local irreducible] rowOf Q.tableL
set_option maxRecDepth 100000 in
set_option maxHeartbeats 4000000 in
theorem says_true (w : World) (E : Nat → Addr) (mx : Int) (hV : Env w E mx) (nm want : ByteArray) (m : Nat) (hm : m ≤ 64) (hn : nm.size ≤ maxLen) (y : Row) (hy : rowOf nm.data.toList = some y)
    (hw : (Q.levelsT y.2.2.1 m).flatMap digG = want.data.toList) :
    Calls Tryz.prog 50 #[.string nm, iv (m : Int), .string want] w fun e w' => e = .returned (.bool true) ∧ Kp w w' := by
  obtain ⟨hc, hl10, ht10, _⟩ := row_facts hy
  have HFi := Lib.hid (find_any nm mx E (E 8) w hn hV.mx hV.errs hV.c5)
  unfold FindPost at HFi
  rw [hy] at HFi
  have HV := Lib.hid hV
  clear hV hy
  go_enter Tryz.func50, Tryz.ntmps50
  go_wp2_with fail
  (with_reducible refine HFi.out.mono ?_)
  rintro e w1 ⟨hk1, t0, t1, tl, ts, rfl, hO⟩
  unfold tvv
  have hk2 := Kp.new w1 (.cells #[.string (bs y.1), .slice t0.ao t0.n t0.c, .slice t1.ao t1.n t1.c, .slice tl.ao tl.n tl.c] 26)
  have hB2 := Bx.new w1 (bs y.1) t0.ao t1.ao tl.ao t0.n t0.c t1.n t1.c tl.n tl.c
  have hO2 := hO.kp hk2
  have Hk2 := Lib.hid (Kp.trans hk1 hk2)
  have hV2 := HV.out.keep Hk2.out
  have hnl : tl.n ≤ 50000 := by have := hO2.nl; omega
  have HLv := Lib.hid (levels_fine hV2 ⟨hO2.is0, hO2.is1, hO2.lnsN 10 (by decide) hl10 ht10⟩ hnl (bs y.1) t0.c t1.c tl.c m hm hc)
  clear hk1 hk2 hO hO2 hV2 HFi hc hnl
  go_upto_region 2 with fail
  generalize w1.alloc (.cells #[.string (bs y.1), .slice t0.ao t0.n t0.c, .slice t1.ao t1.n t1.c, .slice tl.ao tl.n tl.c] 26) = w2 at *
  obtain ⟨bp, hbp⟩ : ∃ bp, bp = w1.heap.size := ⟨_, rfl⟩
  rw [← hbp] at hB2 ⊢
  clear hbp
  obtain ⟨y0, y1, y2, y3⟩ := hB2
  go_wp2_with fail
  (with_reducible refine HLv.out.mono ?_)
  rintro e w3 ⟨hk3, ao, n, cap, rfl, hG⟩
  have hk13 := Kp.trans Hk2.out hk3
  have hlen := hG.2
  rw [Q.levelsT_length] at hlen
  have HDi := Lib.hid (digits_any w3 ao n cap _ hG.grs (levelsT_small _ _) (by omega))
  rw [hw] at HDi
  clear hG hk3 y0 y1 y2 y3 HLv
  go_wp2_with fail
  (with_reducible refine HDi.out.mono ?_)
  rintro e w4 ⟨⟨s, rfl, hs⟩, hk4⟩
  obtain rfl := bytes_extG hs
  clear hs
  go_wp2_with fail
  go_ret
  exact ⟨rfl, Kp.trans hk13 hk4⟩
end Go.Proofs.YtkmejehhdjdlbaaGreatDoor

namespace Go.Proofs.YtkmejehhdjdlbaaGreatDoor
open Go.RowKit

theorem row_KK : rowOf (⟨#[75, 75]⟩ : ByteArray).data.toList = some ([75, 75], ([2], [2]), [(0, [1, 4, 6]), (1, [1, 3, 5])], true) := by kernel_rfl
theorem row_NX1 : rowOf (⟨#[78, 88, 49]⟩ : ByteArray).data.toList = some ([78, 88, 49], ([], []), [(0, [1]), (1, [1, 3, 2]), (0, [4])], false) := by kernel_rfl
theorem dig_KK : (Q.levelsT [(0, [1, 4, 6]), (1, [1, 3, 5])] 2).flatMap digG = (⟨#[105, 49, 50, 114, 50, 52, 105, 50, 53, 114, 50, 53]⟩ : ByteArray).data.toList := by kernel_rfl
theorem dig_NX1 : (Q.levelsT [(0, [1]), (1, [1, 3, 2]), (0, [4])] 2).flatMap digG = (⟨#[105, 48, 48, 114, 48, 49, 105, 48, 51, 114, 50, 49, 105, 48, 53]⟩ : ByteArray).data.toList := by kernel_rfl
attribute [local irreducible] rowOf Q.tableL
set_option maxRecDepth 100000 in
set_option maxHeartbeats 4000000 in
theorem knownG_any (w : World) (E : Nat → Addr) (mx : Int) (hV : Env w E mx) : Calls Tryz.prog 18 #[] w fun e w' => e = .returned (.bool true) ∧ Kp w w' := by
  have hc : codeL [] [] [] 65 = 9 := by kernel_rfl
  have HL := levels_bad hV (PatI.none w) (by omega) ⟨#[]⟩ 0 0 0 65 (by rw [hc]; decide)
  rw [hc] at HL
  have HL := Lib.hid HL
  have HK := Lib.hid (fun w' (h : Kp w w') => says_true w' E mx (hV.keep h) ⟨#[75, 75]⟩ ⟨#[105, 49, 50, 114, 50, 52, 105, 50, 53, 114, 50, 53]⟩ 2 (by decide) (by decide) _ row_KK dig_KK)
  have HN := Lib.hid (fun w' (h : Kp w w') => says_true w' E mx (hV.keep h) ⟨#[78, 88, 49]⟩ ⟨#[105, 48, 48, 114, 48, 49, 105, 48, 51, 114, 50, 49, 105, 48, 53]⟩ 2 (by decide) (by decide) _ row_NX1 dig_NX1)
  rw [show ((2 : Nat) : Int) = 2 from rfl] at HK HN
  have HV := Lib.hid hV
  clear hV hc
  go_enter Tryz.func18, Tryz.ntmps18
  go_wp2_with fail
  (with_reducible refine HL.out.mono ?_)
  rintro e w1 ⟨hk1, rfl⟩
  go_wp2_with fail
  (with_reducible refine (HK.out w1 hk1).mono ?_)
  rintro e w2 ⟨rfl, hk2⟩
  have hk12 := Kp.trans hk1 hk2
  go_wp2_with fail
  (with_reducible refine (HN.out w2 hk12).mono ?_)
  rintro e w3 ⟨rfl, hk3⟩
  have hk13 := Kp.trans hk12 hk3
  have e9 := eq_same w3 (E 9)
  obtain ⟨c2, _, _, _⟩ := (HV.out.keep hk13).errs
  clear hk1 hk2 hk12 hk3
  go_wp2_with fail
  go_ret
  exact ⟨rfl, hk13⟩
end Go.Proofs.YtkmejehhdjdlbaaGreatDoor

namespace Go.Proofs.YtkmejehhdjdlbaaGreatDoor
open Go.RowKit

theorem offL_mem (S : Nat → Bool) (f t : Int) (l : Bool) : offL S f t l = 0 ∨ offL S f t l = 10 ∨ offL S f t l = 11 ∨ offL S f t l = 12 := by
  unfold offL
  repeat' split
  all_goals simp
theorem runToks_mem (f : Int) : ∀ (ts : List Int) (S : Nat → Bool), (runToks S f ts).1 = 0 ∨ (runToks S f ts).1 = 10 ∨ (runToks S f ts).1 = 11 ∨ (runToks S f ts).1 = 12
  | [], _ => .inl rfl
  | t :: r, S => by
    unfold runToks
    split
    · exact runToks_mem f r _
    · exact offL_mem S f t _
theorem runLs_mem : ∀ (ls : List Ln) (S : Nat → Bool), (runLs S ls).1 = 0 ∨ (runLs S ls).1 = 10 ∨ (runLs S ls).1 = 11 ∨ (runLs S ls).1 = 12
  | [], _ => .inl rfl
  | l :: r, S => by
    unfold runLs
    split
    · exact runLs_mem r _
    · exact runToks_mem _ _ _
theorem checkL_mem (b0 b1 : List Int) (ls : List Ln) : checkL b0 b1 ls = 0 ∨ checkL b0 b1 ls = 9 ∨ checkL b0 b1 ls = 10 ∨ checkL b0 b1 ls = 11 ∨ checkL b0 b1 ls = 12 := by
  unfold checkL
  split
  · split
    · unfold endL; split <;> simp
    · rcases runLs_mem ls (begunL b0 b1) with h | h | h | h <;> rw [h] <;> simp
  · simp
theorem codeL_mem (b0 b1 : List Int) (ls : List Ln) (more : Int) : codeL b0 b1 ls more = 0 ∨ codeL b0 b1 ls more = 1 ∨ codeL b0 b1 ls more = 9 ∨ codeL b0 b1 ls more = 10 ∨ codeL b0 b1 ls more = 11 ∨ codeL b0 b1 ls more = 12 := by
  have h := checkL_mem b0 b1 ls
  unfold codeL
  by_cases h0 : checkL b0 b1 ls = 0
  · rw [if_pos h0]; split <;> simp
  · rw [if_neg h0]; omega
theorem codeL_list (b0 b1 : List Int) (ls : List Ln) (more : Int) : codeL b0 b1 ls more = 0 ∨ codeL b0 b1 ls more ∈ [1, 9, 10, 11, 12] := by
  rcases codeL_mem b0 b1 ls more with h | h | h | h | h | h <;> rw [h] <;> simp
/-- The grades that are answered. -/
def levD (b0 b1 : List Int) (ls : List Ln) (more : Int) : List Gr := if codeL b0 b1 ls more = 0 then Q.levelsT ls more.toNat else []
theorem levels_all {w : World} {E : Nat → Addr} {mx : Int} (hV : Env w E mx) {a0 a1 al : Option Addr} {n0 n1 nl : Nat} {b0 b1 : List Int} {ls : List Ln} (hP : PatI w a0 a1 al n0 n1 nl b0 b1 ls) (hnl : nl ≤ 50000) (nm : ByteArray) (c0 c1 cl : Nat) (more : Int) :
    Calls Tryz.prog 15 #[patV nm a0 a1 al n0 c0 n1 c1 nl cl, iv more] w fun e w' => Kp w w' ∧ ∃ ao n cap, e = .returned (.tuple #[.slice ao n cap, errV E (codeL b0 b1 ls more)]) ∧ Grs w' ao n (levD b0 b1 ls more) := by
  unfold levD
  by_cases h : codeL b0 b1 ls more = 0
  · obtain ⟨h0, m, rfl, hm⟩ := codeL_zero h
    rw [h, errV_nil, if_pos rfl]
    refine (levels_fine hV hP hnl nm c0 c1 cl m hm h0).mono ?_
    rintro e w' ⟨hk, ao, n, cap, he, hG⟩
    exact ⟨hk, ao, n, cap, he, hG.grs⟩
  · rw [if_neg h, errV_ptr E h]
    refine (levels_bad hV hP hnl nm c0 c1 cl more h).mono ?_
    rintro e w' ⟨hk, he⟩
    exact ⟨hk, none, 0, 0, he, (GrO.nil w' 0).grs⟩
theorem one_wide (v : World) (E : Nat → Addr) (m : Int) (hE : Env v E m) (nm : ByteArray) (a0 a1 al : Option Addr) (n0 c0 n1 c1 nl cl : Nat) (b0 b1 : List Int) (ls : List Ln) (hP : PatI v a0 a1 al n0 n1 nl b0 b1 ls) (hs : ShortM nm n0 n1 nl ls) (s : ByteArray) (hz : s.size ≤ 281474976710656) (g : Nat) (hg : v.cell? ⟨g, 0, none⟩ = some (.string s)) :
    Calls Tryz.prog 19 #[patV nm a0 a1 al n0 c0 n1 c1 nl cl, .slice (some ⟨g, 0, none⟩) 1 1] v fun e w' => Kp v w' ∧ ∃ t0 t1 tl : Tv,
      e = .returned (.tuple #[.agg #[.string (mdf ⟨nm.data.toList, b0, b1, ls⟩ [s.data.toList]).1, tvv t0, tvv t1, tvv tl], errV E (mdf ⟨nm.data.toList, b0, b1, ls⟩ [s.data.toList]).2.2.2.2]) ∧
      ∀ X w'', Fr X w' w'' → (∀ x ∈ X, x < v.heap.size) → PatI w'' t0.ao t1.ao tl.ao t0.n t1.n tl.n (mdf ⟨nm.data.toList, b0, b1, ls⟩ [s.data.toList]).2.1 (mdf ⟨nm.data.toList, b0, b1, ls⟩ [s.data.toList]).2.2.1 (mdf ⟨nm.data.toList, b0, b1, ls⟩ [s.data.toList]).2.2.2.1 := by
  have hW : Strs v (some ⟨g, 0, none⟩) 1 [s] := ⟨rfl, by decide, fun j u hu => by
    cases j with
    | zero => exact ⟨_, _, rfl, by cases hu; exact hg⟩
    | succ j => simp at hu⟩
  have h := mod_wide v E m hE nm a0 a1 al n0 c0 n1 c1 nl cl b0 b1 ls hP hs (some ⟨g, 0, none⟩) 1 1 [s] hW (fun x hx => by simp only [List.mem_singleton] at hx; subst hx; exact hz) (by decide)
  rw [show wb [s] = [s.data.toList] from rfl] at h
  exact h
/-- A psk word laid in: worth the same. -/
theorem psk_same {p : Q.Pn} {x : Q.Bt} (hx : x.take 3 = Q.headPsk) (h : (mdf p [x]).2.2.2.2 = 0) (more : Int) :
    codeL (mdf p [x]).2.1 (mdf p [x]).2.2.1 (mdf p [x]).2.2.2.1 more = codeL p.b0 p.b1 p.ls more ∧ levD (mdf p [x]).2.1 (mdf p [x]).2.2.1 (mdf p [x]).2.2.2.1 more = levD p.b0 p.b1 p.ls more ∧ (mdf p [x]).2.2.2.1.length ≤ 24 := by
  have hc := modR_code p [x]
  unfold mdf at h ⊢
  cases hm : Q.modR p [x] with
  | mk q c =>
    rw [hm] at h hc
    cases q with
    | none => exact absurd h hc.1
    | some q =>
      have hc0 : c = 0 := by
        unfold Q.modR at hm
        split at hm
        · cases hm
        · split at hm
          · cases hm
          · split at hm <;> cases hm
            rfl
      subst hc0
      obtain ⟨h1, h2, h3⟩ := Q.mod_psk hx hm
      have h1 : checkL p.b0 p.b1 p.ls = 0 := h1
      have h2 : checkL q.b0 q.b1 q.ls = 0 := h2
      have hcd : codeL q.b0 q.b1 q.ls more = codeL p.b0 p.b1 p.ls more := by unfold codeL; rw [h1, h2]
      refine ⟨hcd, ?_, (code0 h2).2.2.2.1⟩
      show levD q.b0 q.b1 q.ls more = _
      unfold levD
      rw [hcd]
      split
      · exact (Q.alk_levels more.toNat h3).symm
      · rfl
end Go.Proofs.YtkmejehhdjdlbaaGreatDoor

namespace Go.Proofs.YtkmejehhdjdlbaaGreatDoor
open Go.RowKit

set_option maxRecDepth 100000 in
set_option maxHeartbeats 8000000 in
theorem names_true (w : World) (E : Nat → Addr) (m : Int) (hE : Env w E m) (nm name word : ByteArray) (more : Int) (a0 a1 al : Option Addr) (n0 c0 n1 c1 nl cl : Nat) (b0 b1 : List Int) (ls : List Ln) (hP : PatI w a0 a1 al n0 n1 nl b0 b1 ls)
    (hnm : nm.size ≤ 140737488351232) (hwd : word.size ≤ 140737488351232) :
    Calls Tryz.prog 3 #[patV nm a0 a1 al n0 c0 n1 c1 nl cl, .string name, .string word, iv more] w fun e w' => e = .returned (.bool true) ∧ Kp w w' := by
  have hk1 := Kp.new w (.cells #[.string nm, .slice a0 n0 c0, .slice a1 n1 c1, .slice al nl cl] 26)
  have hF := Four.new w (.string nm) (.slice a0 n0 c0) (.slice a1 n1 c1) (.slice al nl cl) 26
  have HE := Lib.hid (hE.keep hk1)
  have HP := Lib.hid (hP.kp hk1)
  have Hk1 := Lib.hid hk1
  have HNm := Lib.hid hnm
  have HWd := Lib.hid hwd
  clear hE hP hk1 hnm hwd
  go_enter Tryz.func3, Tryz.ntmps3
  go_upto_region 1 with fail
  obtain ⟨bp, hbp⟩ : ∃ bp, bp = w.heap.size := ⟨_, rfl⟩
  rw [← hbp] at hF ⊢
  generalize w.alloc (.cells #[.string nm, .slice a0 n0 c0, .slice a1 n1 c1, .slice al nl cl] 26) = w1 at *
  clear hbp
  have HF := Lib.hid hF
  clear hF
  have HLg := Lib.hid (long_any w1 nm a0 a1 al n0 c0 n1 c1 nl cl b0 b1 ls HP.out.i0 HP.out.i1 HP.out.il)
  obtain ⟨y0, y1, y2, y3, _, _, _, _⟩ := HF.out
  go_wp2_with fail
  (with_reducible refine HLg.out.mono ?_)
  rintro e w2 ⟨bl, rfl, hk2, hsh⟩
  clear y0 y1 y2 y3 HLg
  cases bl with
  | true =>
    go_wp2_with fail
    go_ret
    exact ⟨rfl, Kp.trans Hk1.out hk2⟩
  | false =>
    obtain ⟨h200, h201, h202, h203⟩ := hsh rfl
    have Hs := Lib.hid (show ShortM nm n0 n1 nl ls from ⟨HNm.out, by omega, by omega, by omega, fun l hl => by have := h203 l hl; omega⟩)
    have HK2 := Lib.hid hk2
    have hnl : nl ≤ 50000 := by omega
    clear hsh hk2 h200 h201 h203
    have HL := Lib.hid (fun (v : World) (hv : Kp w1 v) (x : ByteArray) => levels_all (HE.out.keep hv) (HP.out.kp hv) hnl x c0 c1 cl more)
    have hcl := codeL_list b0 b1 ls more
    have Hcl := Lib.hid hcl
    clear hcl
    have HX := Lib.hid (fun h1 h2 => psk_same (p := ⟨nm.data.toList, b0, b1, ls⟩) (x := word.data.toList) h1 h2 more)
    simp only at HX
    generalize codeL b0 b1 ls more = c at HL Hcl HX
    generalize levD b0 b1 ls more = gs at HL HX
    have HC := Lib.hid (HL.out w2 HK2.out nm)
    obtain ⟨y0, y1, y2, y3, _, _, _, _⟩ := HF.out.kp HK2.out
    go_wp2_with fail
    (with_reducible refine HC.out.mono ?_)
    rintro e w3 ⟨hk3, lo, ln, lc, rfl, hG⟩
    have HK3 := Lib.hid (Kp.trans HK2.out hk3)
    have HG := Lib.hid hG
    clear hk3 hG HC y0 y1 y2 y3 HK2
    obtain ⟨y0, y1, y2, y3, _, _, _, _⟩ := HF.out.kp HK3.out
    have hkA := Kp.new w3 (.cells #[.string nm, .slice a0 n0 c0, .slice a1 n1 c1, .slice al nl cl] 26)
    have hQ := Four.new w3 (.string nm) (.slice a0 n0 c0) (.slice a1 n1 c1) (.slice al nl cl) 26
    go_upto_region 5 with fail
    clear y0 y1 y2 y3
    obtain ⟨bq, hbq⟩ : ∃ bq, bq = w3.heap.size := ⟨_, rfl⟩
    rw [← hbq] at hQ ⊢
    have hbq2 : w3.heap.size ≤ bq := by omega
    clear hbq
    generalize w3.alloc (.cells #[.string nm, .slice a0 n0 c0, .slice a1 n1 c1, .slice al nl cl] 26) = w4 at *
    have HK5 := Lib.hid (kp_step' hkA (Fr.set w4 ⟨bq, 0, none⟩ (.string name)) (by simpa using hbq2))
    have HQ := Lib.hid (hQ.set0 (.string name))
    clear hkA
    obtain ⟨z0, z1, z2, z3, z4, z5, z6, z7⟩ := hQ
    go_upto_region 6 with fail
    clear z0 z1 z2 z3 z4 z5 z6 z7
    generalize w4.setCell ⟨bq, 0, none⟩ (.string name) = w5 at *
    obtain ⟨z0, z1, z2, z3, _, _, _, _⟩ := HQ.out
    have HC := Lib.hid (HL.out w5 (Kp.trans HK3.out HK5.out) name)
    go_wp2_with fail
    (with_reducible refine HC.out.mono ?_)
    rintro e w6 ⟨hk6, mo, mn, mc, rfl, hG6⟩
    have HK6 := Lib.hid (Kp.trans HK5.out hk6)
    have HQ6 := Lib.hid (HQ.out.kp hk6)
    have HG6 := Lib.hid hG6
    clear z0 z1 z2 z3 hk6 hG6 HC HQ HK5
    have HCd := Lib.hid (fun (v : World) (hv : Kp w3 v) => codeG_any v E m (HE.out.keep (Kp.trans HK3.out hv)) c Hcl.out)
    have HGr := Lib.hid (grades_any w6 lo mo ln mn lc mc gs gs (HK6.out.grs HG.out) HG6.out)
    rw [show alikeG gs gs = true by unfold alikeG; simp] at HGr
    go_wp2_with fail
    (with_reducible refine (HCd.out w6 HK6.out).mono ?_)
    rintro e v ⟨rfl, rfl⟩
    go_wp2_with fail
    (with_reducible refine (HCd.out w6 HK6.out).mono ?_)
    rintro e v ⟨rfl, rfl⟩
    go_wp2_with fail
    (with_reducible refine HGr.out.mono ?_)
    rintro e w7 ⟨rfl, hk7⟩
    have HK7 := Lib.hid (Kp.trans HK6.out hk7)
    have HQ7 := Lib.hid (HQ6.out.kp hk7)
    clear HK6 HQ6 HG6 HGr hk7
    have HN := Lib.hid (fun (v : World) (hv : Kp w3 v) => knownG_any v E m (HE.out.keep (Kp.trans HK3.out hv)))
    have HKw := Lib.hid (fun (v : World) (hv : Kp w3 v) => Kp.trans Hk1.out (Kp.trans HK3.out hv))
    by_cases h3 : word.size < 3
    · have h3i : ((word.size : Nat) : Int) < 3 := by omega
      go_wp2_with fail
      (with_reducible refine (HN.out w7 HK7.out).mono ?_)
      rintro e w8 ⟨rfl, hk8⟩
      go_wp2_with fail
      go_ret
      exact ⟨rfl, HKw.out w8 (Kp.trans HK7.out hk8)⟩
    · have h3i : ¬ ((word.size : Nat) : Int) < 3 := by omega
      have h3n : 3 ≤ word.size := by omega
      by_cases hp : (word.extract 0 3).toList = [112, 115, 107]
      · have hpb : ((word.extract 0 3).toList == [112, 115, 107]) = true := by rw [hp]; rfl
        have hx : word.data.toList.take 3 = Q.headPsk := by rw [Lib.toList_data] at hp; simpa [ByteArray.data_extract, Q.headPsk] using hp
        obtain ⟨y0, y1, y2, y3, _, _, _, _⟩ := HF.out.kp (Kp.trans HK3.out HK7.out)
        go_upto_region 11 with fail
        have Hx := Lib.hid hx
        clear hp hpb hx h3i h3n h3
        have hkb := Kp.new w7 (.cells #[.string word] 9)
        have hs : (w7.alloc (.cells #[.string word] 9)).cell? ⟨w7.heap.size, 0, none⟩ = some (.string word) := (One1.new w7 (.string word) 9).c
        have hK3b := Kp.trans HK7.out hkb
        have hK1b := Kp.trans HK3.out hK3b
        have HC := Lib.hid (one_wide (w7.alloc (.cells #[.string word] 9)) E m (HE.out.keep hK1b) nm a0 a1 al n0 c0 n1 c1 nl cl b0 b1 ls (HP.out.kp hK1b) Hs.out word (by have := HWd.out; omega) w7.heap.size hs)
        have HQ8 := Lib.hid (HQ7.out.kp hkb)
        have HK8 := Lib.hid hK3b
        have hbl := HQ8.out.lt
        clear hkb hs hK3b hK1b HQ7
        have HX2 := Lib.hid (HX.out Hx.out)
        clear HX Hx
        generalize mdf ⟨nm.data.toList, b0, b1, ls⟩ [word.data.toList] = X at HC HX2
        go_wp2_with fail
        generalize w7.alloc (.cells #[.string word] 9) = w8 at *
        (with_reducible refine HC.out.mono ?_)
        rintro e w9 ⟨hk9, u0, u1, ul, rfl, hPX⟩
        unfold tvv
        have hZ := HQ8.out.kp hk9
        obtain ⟨va, hva, hFa, hNa⟩ := hZ.set (.string X.1) (.slice u0.ao u0.n u0.c) (.slice u1.ao u1.n u1.c) (.slice ul.ao ul.n ul.c)
        have HPX := Lib.hid (hPX [bq] va hFa (by simpa using hbl))
        have HKa := Lib.hid (kp_step' (Kp.trans HK8.out hk9) hFa (by simpa using hbq2))
        have HNa := Lib.hid hNa
        clear hk9 hPX HC hFa hNa HQ8 y0 y1 y2 y3
        obtain ⟨z0, z1, z2, z3, z4, z5, z6, z7⟩ := hZ
        go_upto_region 12 with fail
        rw [← hva]
        clear hva z0 z1 z2 z3 z4 z5 z6 z7
        by_cases hc0 : X.2.2.2.2 = 0
        · obtain ⟨hq1, hq2, hq3⟩ := HX2.out hc0
          rw [hc0, errV_nil]
          have hul : ul.n ≤ 50000 := by have := HPX.out.il.1; omega
          have HC := Lib.hid (levels_all (HE.out.keep (Kp.trans HK3.out HKa.out)) HPX.out hul X.1 u0.c u1.c ul.c more)
          rw [hq1, hq2] at HC
          clear hq1 hq2 hq3 hc0 HX2
          obtain ⟨z0, z1, z2, z3, _, _, _, _⟩ := HNa.out
          go_wp2_with fail
          (with_reducible refine HC.out.mono ?_)
          rintro e wb ⟨hkb, ko, kn, kc, rfl, hGb⟩
          have HKb := Lib.hid (Kp.trans HKa.out hkb)
          have HGb := Lib.hid hGb
          clear hkb hGb HC z0 z1 z2 z3
          have HGr := Lib.hid (grades_any wb lo ko ln kn lc kc gs gs (HKb.out.grs HG.out) HGb.out)
          rw [show alikeG gs gs = true by unfold alikeG; simp] at HGr
          go_wp2_with fail
          (with_reducible refine (HCd.out wb HKb.out).mono ?_)
          rintro e v ⟨rfl, rfl⟩
          go_wp2_with fail
          (with_reducible refine (HCd.out wb HKb.out).mono ?_)
          rintro e v ⟨rfl, rfl⟩
          go_wp2_with fail
          (with_reducible refine HGr.out.mono ?_)
          rintro e wc ⟨rfl, hkc⟩
          have HKc := Lib.hid (Kp.trans HKb.out hkc)
          clear hkc HGr
          go_wp2_with fail
          (with_reducible refine (HN.out wc HKc.out).mono ?_)
          rintro e wd ⟨rfl, hkd⟩
          go_wp2_with fail
          go_ret
          exact ⟨rfl, HKw.out wd (Kp.trans HKc.out hkd)⟩
        · rw [errV_ptr E hc0]
          clear HX2
          go_wp2_with fail
          (with_reducible refine (HN.out va HKa.out).mono ?_)
          rintro e wd ⟨rfl, hkd⟩
          go_wp2_with fail
          go_ret
          exact ⟨rfl, HKw.out wd (Kp.trans HKa.out hkd)⟩
      · have hpb : ((word.extract 0 3).toList == [112, 115, 107]) = false := by simpa using hp
        go_wp2_with fail
        (with_reducible refine (HN.out w7 HK7.out).mono ?_)
        rintro e w8 ⟨rfl, hk8⟩
        go_wp2_with fail
        go_ret
        exact ⟨rfl, HKw.out w8 (Kp.trans HK7.out hk8)⟩
end Go.Proofs.YtkmejehhdjdlbaaGreatDoor
