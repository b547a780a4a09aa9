/- Parts of the walks and plain laws, merged: Tbr, LawTb. Each theorem bears its own conditions; no other. -/
import Derived.Test.YtkmejehhdjdlbaaGreatDoorMdd
import Derived.Test.YtkmejehhdjdlbaaGreatDoorOnce
import Derived.Test.YtkmejehhdjdlbaaGreatDoorGe8
import Derived.Test.YtkmejehhdjdlbaaGreatDoorGe4
import Derived.Test.YtkmejehhdjdlbaaGreatDoorKn
import Derived.Laws.EntriesVeiled
import Derived.Sort.Walk0
namespace Go.Proofs.YtkmejehhdjdlbaaGreatDoor
open Go.RowKit

attribute [local irreducible] tblK tblP tblQ Q.piecesB Q.tableB Q.tableL rowOf rowsL namesS
set_option maxRecDepth 100000 in
set_option maxHeartbeats 8000000 in
theorem rowt_any (wB w : World) (E : Nat → Addr) (m : Int) (hE : Env wB E m) (hk : Kp wB w) (nm lst : ByteArray) (a0 a1 al : Option Addr) (n0 c0 n1 c1 nl cl : Nat) (b0 b1 : List Int) (ls : List Ln) (fl : Bool) (bn bo bl k : Nat)
    (hP : ∀ v, Fr [bn, bo, bl] w v → PatI v a0 a1 al n0 n1 nl b0 b1 ls) (hfnd : fnd nm.data.toList = (nm, b0, b1, ls, true)) (hsz : nm.size ≤ maxLen) (hmd : rowMd (nm.data.toList, (b0, b1), ls, fl) = true)
    (hk38 : k < 38) (hne : bn ≠ bo ∧ bn ≠ bl ∧ bo ≠ bl) (hbn : wB.heap.size ≤ bn) (_hbo : wB.heap.size ≤ bo) (_hbl : wB.heap.size ≤ bl)
    (hn : One1 w bn (iv (k : Nat))) (ho : One1 w bo (.bool true)) (hl : One1 w bl (.string lst)) (hg1 : Op.bytesLess nm.toList lst.toList = false) (hg2 : ¬ nm.toList = lst.toList) :
    Calls Tryz.prog 40 #[patV nm a0 a1 al n0 c0 n1 c1 nl cl, .pointer (some ⟨bn, 0, none⟩), .pointer (some ⟨bo, 0, none⟩), .pointer (some ⟨bl, 0, none⟩)] w fun e w' =>
      e = .returned (.bool true) ∧ Fr [bn, bo, bl] w w' ∧ One1 w' bo (.bool true) ∧ One1 w' bn (iv (((k + 1 : Nat) : Nat) : Int)) ∧ One1 w' bl (.string nm) := by
  have hg3 : (nm.toList == lst.toList) = false := by simpa using hg2
  have hk1 := Kp.new w (.cells #[.string nm, .slice a0 n0 c0, .slice a1 n1 c1, .slice al nl cl] 26)
  have hF := Four.new w (.string nm) (.slice a0 n0 c0) (.slice a1 n1 c1) (.slice al nl cl) 26
  have lbn := World.block_lt_of_cell? w _ hn.c
  have lbo := World.block_lt_of_cell? w _ ho.c
  have lbl := World.block_lt_of_cell? w _ hl.c
  simp only at lbn lbo lbl
  have hwB := hk.size
  have HE := Lib.hid hE
  have HP := Lib.hid hP
  have Hfnd := Lib.hid hfnd
  have Hmd := Lib.hid hmd
  have Hsz := Lib.hid hsz
  have hck : checkL b0 b1 ls = 0 := by unfold rowMd at hmd; simp only [Bool.and_eq_true, decide_eq_true_eq, beq_iff_eq] at hmd; exact hmd.2
  have Hck := Lib.hid hck
  replace hn := hn.kp hk1
  replace ho := ho.kp hk1
  replace hl := hl.kp hk1
  have HFr := Lib.hid ((Fr.of_kp hk1).mono (Y := [bn, bo, bl]) (by simp))
  have HkB := Lib.hid (Kp.trans hk hk1)
  clear hk1 hk hE hP hfnd hmd hsz hck
  go_enter Tryz.func40, Tryz.ntmps40
  go_upto_region 1 with fail
  obtain ⟨bx, hbx⟩ : ∃ bx, bx = w.heap.size := ⟨_, rfl⟩
  rw [← hbx] at hF ⊢
  have hbx2 : bn < bx ∧ bo < bx ∧ bl < bx ∧ wB.heap.size ≤ bx := by omega
  clear hbx
  generalize w.alloc (.cells #[.string nm, .slice a0 n0 c0, .slice a1 n1 c1, .slice al nl cl] 26) = w1 at *
  have hf2 := Fr.set w1 ⟨bn, 0, none⟩ (iv (((k : Nat) : Int) + 1))
  have HN := Lib.hid (hn.set (iv (((k : Nat) : Int) + 1)))
  have HF2 := Lib.hid (hF.fr hf2 (by simp; omega))
  have HO2 := Lib.hid (ho.fr hf2 (by simp; omega))
  have HL2 := Lib.hid (hl.fr hf2 (by simp; omega))
  have HFr2 := Lib.hid (HFr.out.trans (hf2.mono (by simp)))
  have HB2 := Lib.hid (kp_step' HkB.out hf2 (by simpa using hbn))
  clear hf2 hF ho hl HFr HkB
  have hk64 : ((k : Nat) : Int) + 1 ≤ 38 := by omega
  obtain ⟨k1, k2⟩ := hn
  go_upto_region 2 with fail
  clear k1 k2
  generalize w1.setCell ⟨bn, 0, none⟩ (.int .i64 (((k : Nat) : Int) + 1)) = w2 at *
  have HC := Lib.hid (find_all w2 E m (HE.out.keep HB2.out) nm Hsz.out)
  rw [Hfnd.out] at HC
  simp only at HC
  obtain ⟨y0, y1, y2, y3, _, _, _, _⟩ := HF2.out
  go_wp2_with fail
  (with_reducible refine HC.out.mono ?_)
  rintro e w3 ⟨hk3, u0, u1, ul, rfl, hQ⟩
  unfold tvv
  have hN := Four.new w3 (.string nm) (.slice u0.ao u0.n u0.c) (.slice u1.ao u1.n u1.c) (.slice ul.ao ul.n ul.c) 26
  have hkq := Kp.new w3 (.cells #[.string nm, .slice u0.ao u0.n u0.c, .slice u1.ao u1.n u1.c, .slice ul.ao ul.n ul.c] 26)
  have hkz := Kp.trans hk3 hkq
  have HQ := Lib.hid (hQ.kp hkq)
  have HZ := Lib.hid hN
  have HF := Lib.hid (HF2.out.kp hkz)
  have HO := Lib.hid (HO2.out.kp hkz)
  have HL := Lib.hid (HL2.out.kp hkz)
  replace HN := Lib.hid (HN.out.kp hkz)
  have HFr := Lib.hid (HFr2.out.trans ((Fr.of_kp hkz).mono (by simp)))
  have HB := Lib.hid (Kp.trans HB2.out hkz)
  clear hkz hkq hk3 hN HC hQ y0 y1 y2 y3 HF2 HO2 HL2 HFr2 HB2
  go_upto_region 3 with fail
  generalize w3.alloc (.cells #[.string nm, .slice u0.ao u0.n u0.c, .slice u1.ao u1.n u1.c, .slice ul.ao ul.n ul.c] 26) = v9 at *
  generalize w3.heap.size = bq at *
  have HP9 := Lib.hid (HP.out v9 HFr.out)
  have HE9 := Lib.hid (HE.out.keep HB.out)
  clear HP HE
  have HK := Lib.hid (Kp.refl v9)
  obtain ⟨y0, y1, y2, y3, _, _, _, _⟩ := HF.out
  obtain ⟨z0, z1, z2, z3, _, _, _, _⟩ := HZ.out
  obtain ⟨o1, _⟩ := HO.out
  obtain ⟨l1, _⟩ := HL.out
  have HC := Lib.hid (same_yes v9 nm a0 a1 al u0.ao u1.ao ul.ao n0 c0 n1 c1 nl cl u0.n u0.c u1.n u1.c ul.n ul.c b0 b1 ls HP9.out HQ.out)
  go_wp2_with fail
  (with_reducible refine HC.out.mono ?_)
  rintro e v1 ⟨rfl, hkv1⟩
  replace HK := Lib.hid (Kp.trans HK.out hkv1)
  clear HC hkv1 y0 y1 y2 y3 z0 z1 z2 z3
  obtain ⟨y0, y1, y2, y3, _, _, _, _⟩ := HF.out.kp HK.out
  obtain ⟨z0, z1, z2, z3, _, _, _, _⟩ := HZ.out.kp HK.out
  have HC := Lib.hid (check_any v1 E (HE9.out.keep HK.out).errs nm a0 a1 al n0 c0 n1 c1 nl cl b0 b1 ls (HP9.out.kp HK.out).i0 (HP9.out.kp HK.out).i1 (HP9.out.kp HK.out).il)
  rw [Hck.out, errV_nil] at HC
  go_wp2_with fail
  (with_reducible refine HC.out.mono ?_)
  rintro e v2 ⟨rfl, hkv2⟩
  replace HK := Lib.hid (Kp.trans HK.out hkv2)
  clear HC hkv2 y0 y1 y2 y3 z0 z1 z2 z3
  obtain ⟨y0, y1, y2, y3, _, _, _, _⟩ := HF.out.kp HK.out
  obtain ⟨z0, z1, z2, z3, _, _, _, _⟩ := HZ.out.kp HK.out
  have HC := Lib.hid (once_any v2 nm a0 a1 al n0 c0 n1 c1 nl cl b0 b1 ls (HP9.out.kp HK.out) Hck.out)
  go_wp2_with fail
  (with_reducible refine HC.out.mono ?_)
  rintro e v3 ⟨rfl, hkv3⟩
  replace HK := Lib.hid (Kp.trans HK.out hkv3)
  clear HC hkv3 y0 y1 y2 y3 z0 z1 z2 z3
  obtain ⟨y0, y1, y2, y3, _, _, _, _⟩ := HF.out.kp HK.out
  obtain ⟨z0, z1, z2, z3, _, _, _, _⟩ := HZ.out.kp HK.out
  have HC := Lib.hid (modified_any v3 E m (HE9.out.keep HK.out) nm a0 a1 al n0 c0 n1 c1 nl cl b0 b1 ls fl Hmd.out (HP9.out.kp HK.out))
  go_wp2_with fail
  (with_reducible refine HC.out.mono ?_)
  rintro e v4 ⟨rfl, hkv4⟩
  replace HK := Lib.hid (Kp.trans HK.out hkv4)
  clear HC hkv4 y0 y1 y2 y3 z0 z1 z2 z3
  obtain ⟨y0, y1, y2, y3, _, _, _, _⟩ := HF.out.kp HK.out
  obtain ⟨z0, z1, z2, z3, _, _, _, _⟩ := HZ.out.kp HK.out
  have hO4 := HO.out.kp HK.out
  have hf5 := Fr.set v4 ⟨bo, 0, none⟩ (.bool true)
  have HO5 := Lib.hid (hO4.set (.bool true))
  have HN5 := Lib.hid ((HN.out.kp HK.out).fr hf5 (by simp; omega))
  have hL5 := (HL.out.kp HK.out).fr hf5 (by simp; omega)
  have HF5 := Lib.hid ((HF.out.kp HK.out).fr hf5 (by simp; omega))
  have HFr5 := Lib.hid ((HFr.out.trans ((Fr.of_kp HK.out).mono (by simp))).trans (hf5.mono (by simp)))
  clear hf5 y0 y1 y2 y3 z0 z1 z2 z3 o1 l1
  obtain ⟨o1, o2⟩ := hO4
  go_upto_region 4 with fail
  clear o1 o2
  generalize v4.setCell ⟨bo, 0, none⟩ (.bool true) = w5 at *
  obtain ⟨y0, y1, y2, y3, _, _, _, _⟩ := HF5.out
  have hf6 := Fr.set w5 ⟨bl, 0, none⟩ (.string nm)
  have HL6 := Lib.hid (hL5.set (.string nm))
  have HO6 := Lib.hid (HO5.out.fr hf6 (by simp; omega))
  have HN6 := Lib.hid (HN5.out.fr hf6 (by simp; omega))
  have HFr6 := Lib.hid (HFr5.out.trans (hf6.mono (by simp)))
  clear hf6
  obtain ⟨l1, l2⟩ := hL5
  go_upto_region 5 with fail
  clear l1 l2 y0 y1 y2 y3
  generalize w5.setCell ⟨bl, 0, none⟩ (.string nm) = w6 at *
  obtain ⟨o1, _⟩ := HO6.out
  go_wp2_with fail
  go_ret
  exact ⟨rfl, HFr6.out, HO6.out, HN6.out, HL6.out⟩
end Go.Proofs.YtkmejehhdjdlbaaGreatDoor

namespace Go.Proofs.YtkmejehhdjdlbaaGreatDoor
open Go.RowKit

theorem rowOf_mem {x : Q.Bt} {y : Row} (h : rowOf x = some y) : y ∈ Q.tableL := List.mem_of_find?_eq_some h
attribute [local irreducible] tblK tblP tblQ Q.piecesB Q.tableB Q.tableL rowOf rowsL namesS
theorem gtr_of {x y : Q.Bt} (h : y < x) : Op.bytesLess (bs x).toList (bs y).toList = false ∧ ¬ (bs x).toList = (bs y).toList := by
  rw [bytesLess_eq, Lib.toList_data, Lib.toList_data, bs_list, bs_list]
  have h1 : ¬ x < y := fun h2 => List.lt_irrefl _ (List.lt_trans h h2)
  have h2 : ¬ x = y := fun e => by subst e; exact List.lt_irrefl _ h
  exact ⟨decide_eq_false h1, h2⟩
/-- The name that was last, at a place of the order. -/
def lastS (k : Nat) : Q.Bt := match k with
  | 0 => []
  | k + 1 => namesS.getD k []
theorem ref_ne : ((refL.map (·.1)).all fun x => !x.isEmpty) = true := by kernel_rfl
theorem lastS_lt (k : Nat) (h : k < namesS.length) : lastS k < namesS[k] := by
  cases k with
  | zero =>
    show ([] : Q.Bt) < _
    have h0 : namesS[0] ∈ refL.map (·.1) := by rw [← namesS_ref]; exact List.getElem_mem h
    have h1 := List.all_eq_true.1 ref_ne _ h0
    cases hx : namesS[0] with
    | nil => rw [hx] at h1; cases h1
    | cons a r => exact List.nil_lt_cons a r
  | succ k =>
    show namesS.getD k [] < _
    rw [List.getD_eq_getElem?_getD, List.getElem?_eq_getElem (by omega)]
    exact namesS_lt k h
theorem tab_all (wB w : World) (E : Nat → Addr) (m : Int) (hE : Env wB E m) (hk : Kp wB w) (bn bo bl : Nat) (hne : bn ≠ bo ∧ bn ≠ bl ∧ bo ≠ bl) (hbn : wB.heap.size ≤ bn) (hbo : wB.heap.size ≤ bo) (hbl : wB.heap.size ≤ bl)
    (hn : One1 w bn (iv 0)) (ho : One1 w bo (.bool true)) (hl : One1 w bl (.string ⟨#[]⟩)) :
    Calls Tryz.prog 78 #[.func (.func 40) #[] #[.pointer (some ⟨bn, 0, none⟩), .pointer (some ⟨bo, 0, none⟩), .pointer (some ⟨bl, 0, none⟩)]] w
      fun e w' => e = .returned (.tuple #[]) ∧ Fr [bn, bo, bl] w w' ∧ One1 w' bo (.bool true) ∧ One1 w' bn (iv 38) := by
  have hX : ∀ x ∈ [bn, bo, bl], wB.heap.size ≤ x := fun x hx => by simp at hx; omega
  have lX : ∀ x ∈ [bn, bo, bl], x < w.heap.size := fun x hx => by
    have h1 := World.block_lt_of_cell? _ _ ho.c
    have h2 := World.block_lt_of_cell? _ _ hn.c
    have h3 := World.block_lt_of_cell? _ _ hl.c
    simp only at h1 h2 h3
    simp at hx
    rcases hx with rfl | rfl | rfl <;> assumption
  refine (all_iter 40 #[.pointer (some ⟨bn, 0, none⟩), .pointer (some ⟨bo, 0, none⟩), .pointer (some ⟨bl, 0, none⟩)] (enters_of Tryz.func40 (by kernel_rfl) rfl) w m E (E 8) [bn, bo, bl]
    (fun k v => One1 v bo (.bool true) ∧ One1 v bn (iv (k : Nat)) ∧ One1 v bl (.string (bs (lastS k))) ∧ Fr [bn, bo, bl] w v) (fun v => Fr [bn, bo, bl] w v ∧ One1 v bo (.bool true) ∧ One1 v bn (iv 38)) lX ?_ ?_ ?_ ?_ ?_)
  · rintro k v v' ⟨h1, h2, h3, h4⟩ hv
    exact ⟨h1.kp hv, h2.kp hv, h3.kp hv, h4.trans ((Fr.of_kp hv).mono (by simp))⟩
  · rintro k v ⟨_, _, _, h3⟩
    have hv := hE.keep (kp_step' hk h3 hX)
    exact ⟨hv.mx, hv.errs, hv.c5⟩
  · exact ⟨ho, hn, hl, Fr.refl _ _⟩
  · rintro k v y t0 t1 tl ts hkl hq hy ⟨h1, h2, h3, h4⟩ hP
    have hv := kp_step' hk h4 hX
    have hs := row_small hq
    have hro : rowOf y.1 = some y := by rw [hy]; exact hq
    have hmd := List.all_eq_true.1 table_md y (rowOf_mem hro)
    have hlen : y.1.length ≤ 9 := by
      have := hmd
      unfold rowMd at this
      simp only [Bool.and_eq_true, decide_eq_true_eq] at this
      exact this.1.1.1.1.2
    refine (rowt_any wB v E m hE hv (bs y.1) (bs (lastS k)) t0.ao t1.ao tl.ao t0.n t0.c t1.n t1.c tl.n tl.c y.2.1.1 y.2.1.2 y.2.2.1 y.2.2.2 bn bo bl k (fun v' hf => (hP.fr hf (fun x hx => .inl (lX x hx))).patI hs.1 hs.2) (by unfold fnd; rw [bs_list, hro]) (by rw [bs_size]; unfold maxLen; omega) (by rw [bs_list]; exact hmd) (by rw [names38] at hkl; exact hkl) hne hbn hbo hbl h2 h1 h3 (gtr_of (by rw [hy]; exact lastS_lt k hkl)).1 (gtr_of (by rw [hy]; exact lastS_lt k hkl)).2).mono ?_
    rintro e v' ⟨rfl, hf, g1, g2, g3⟩
    refine ⟨true, rfl, hf, fun _ => ⟨g1, g2, ?_, h4.trans hf⟩, fun hb => by cases hb⟩
    rw [show lastS (k + 1) = y.1 by rw [hy]; show namesS.getD k [] = _; rw [List.getD_eq_getElem?_getD, List.getElem?_eq_getElem hkl]; rfl]
    exact g3
  · rintro v ⟨h1, h2, _, h3⟩
    rw [names38] at h2
    exact ⟨h3, h1, h2⟩
set_option maxRecDepth 100000 in
set_option maxHeartbeats 8000000 in
theorem table_true (w : World) (E : Nat → Addr) (m : Int) (hE : Env w E m) : Calls Tryz.prog 12 #[] w fun e w' => e = .returned (.bool true) ∧ Kp w w' := by
  have HE := Lib.hid hE
  clear hE
  have hkA := Kp.new w (.cells #[.string ⟨#[]⟩] 9)
  have hL0 := One1.new w (.string ⟨#[]⟩) 9
  have hkB := Kp.new (w.alloc (.cells #[.string ⟨#[]⟩] 9)) (.cells #[iv 0] 3)
  have hN0 := One1.new (w.alloc (.cells #[.string ⟨#[]⟩] 9)) (iv 0) 3
  have hkC := Kp.new ((w.alloc (.cells #[.string ⟨#[]⟩] 9)).alloc (.cells #[iv 0] 3)) (.cells #[.bool true] 4)
  have hO0 := One1.new ((w.alloc (.cells #[.string ⟨#[]⟩] 9)).alloc (.cells #[iv 0] 3)) (.bool true) 4
  replace hL0 := (hL0.kp hkB).kp hkC
  replace hN0 := hN0.kp hkC
  rw [World.size_alloc] at hN0
  rw [World.size_alloc, World.size_alloc] at hO0
  have hk3 := Kp.trans hkA (Kp.trans hkB hkC)
  clear hkA hkB hkC
  go_enter Tryz.func12, Tryz.ntmps12
  go_upto_region 4 with fail
  obtain ⟨bl, hbl⟩ : ∃ bl, bl = w.heap.size := ⟨_, rfl⟩
  rw [← hbl] at hL0 hN0 hO0 ⊢
  have hb0 : w.heap.size ≤ bl := by omega
  clear hbl
  generalize ((w.alloc (.cells #[.string ⟨#[]⟩] 9)).alloc (.cells #[iv 0] 3)).alloc (.cells #[.bool true] 4) = w3 at *
  have HF := Lib.hid (all_fn w3)
  have HIt := Lib.hid (tab_all w w3 E m HE.out hk3 (bl + 1) (bl + 2) bl (by omega) (by omega) (by omega) hb0 hN0 hO0 hL0)
  have hnil : ∀ w : World, (binOp .eql 56 (.func (.func 78) #[] #[]) .nilFunc).run Tryz.prog w = .ok (.bool false) w := fun w => by kernel_rfl
  have hnil2 := hnil w3
  have hen : ∀ (args : Array Value) (w : World), (callFunc 78 args).run Tryz.prog w = .ok (.enter 78 args) w := enters_of Tryz.func78 (by kernel_rfl) rfl
  have HK3 := Lib.hid hk3
  clear hnil hk3 hN0 hO0 hL0
  go_wp2_with fail
  (with_reducible refine HF.out.mono ?_)
  rintro e w4 ⟨rfl, rfl⟩
  go_wp2_with fail
  (with_reducible refine HIt.out.mono ?_)
  rintro e w5 ⟨rfl, hf5, ho5, hn5⟩
  have hk5 := kp_step' HK3.out hf5 (fun x hx => by simp at hx; omega)
  have HN := Lib.hid (law_known w5 E m (HE.out.keep hk5))
  have HK5 := Lib.hid hk5
  obtain ⟨o1, _⟩ := ho5
  obtain ⟨n1, _⟩ := hn5
  clear hf5 hk5 hnil2
  go_wp2_with fail
  (with_reducible refine HN.out.mono ?_)
  rintro e w9 ⟨rfl, hk9⟩
  have HK9 := Lib.hid (Kp.trans HK5.out hk9)
  clear hk9
  go_wp2_with fail
  go_ret
  exact ⟨rfl, HK9.out⟩
end Go.Proofs.YtkmejehhdjdlbaaGreatDoor
