/- Parts of the walks and plain laws, merged: AskO, AskA, Ow8, LawOw. Each theorem bears its own conditions; no other. -/
import Derived.Test.YtkmejehhdjdlbaaGreatDoorPo7
import Derived.Test.YtkmejehhdjdlbaaGreatDoorPo5
import Derived.Test.YtkmejehhdjdlbaaGreatDoorKn
import Derived.Test.YtkmejehhdjdlbaaGreatDoorPo6
import Derived.Laws.EntriesVeiled
import Derived.Sort.Walk0
namespace Go.Proofs.YtkmejehhdjdlbaaGreatDoor
open Go.RowKit

theorem el53 : El Tryz.prog 53 26 (.agg #[.string ⟨#[]⟩, .slice none 0 0, .slice none 0 0, .slice none 0 0]) 4 88 := ⟨Tryz.underlying53, by kernel_rfl, rfl, by decide, by decide⟩
set_option maxRecDepth 100000 in
set_option maxHeartbeats 8000000 in
theorem clo_any (v : World) (B bo k : Nat) (ao : Option Addr) (c : Nat) (qs : List Pq) (q : Pq) (R : List Rw) (hk : k < 9) (h1 : One1 v bo (.slice ao (3 + k) c)) (hS : SepV v B (arrR ⟨ao, 3 + k, c⟩ qs :: R)) (hbo : ∀ r ∈ arrR ⟨ao, 3 + k, c⟩ qs :: R, bo ∉ r.bl) (hBv : B ≤ v.heap.size) :
    Calls Tryz.prog 85 #[q.val, .pointer (some ⟨bo, 0, none⟩)] v fun e v' => e = .returned (.bool (decide (3 + k + 1 < 12))) ∧ ∃ (ao' : Option Addr) (c' : Nat), One1 v' bo (.slice ao' (3 + k + 1) c') ∧ SepV v' B (arrR ⟨ao', 3 + k + 1, c'⟩ (qs ++ [q]) :: R) ∧ Fr (bo :: blkL ao) v v' ∧ ∀ x ∈ blkL ao', x ∈ blkL ao ∨ v.heap.size ≤ x := by
  have hk1 := Kp.new v (.cells #[.string q.nm, .slice q.t0.ao q.t0.n q.t0.c, .slice q.t1.ao q.t1.n q.t1.c, .slice q.tl.ao q.tl.n q.tl.c] 26)
  have hF1 := Four.new v (.string q.nm) (.slice q.t0.ao q.t0.n q.t0.c) (.slice q.t1.ao q.t1.n q.t1.c) (.slice q.tl.ao q.tl.n q.tl.c) 26
  have hS1 := hS.kp hk1
  have hO1 := h1.kp hk1
  have hbl : bo < v.heap.size := World.block_lt_of_cell? v _ h1.c
  have Hbo := Lib.hid hbo
  have HK1 := Lib.hid hk1
  clear hbo h1 hS
  unfold Pq.val
  go_enter Tryz.func85, Tryz.ntmps85
  go_upto_region 1 with fail
  generalize v.alloc (.cells #[.string q.nm, .slice q.t0.ao q.t0.n q.t0.c, .slice q.t1.ao q.t1.n q.t1.c, .slice q.tl.ao q.tl.n q.tl.c] 26) = v1 at *
  obtain ⟨bx, hbx⟩ : ∃ bx, bx = v.heap.size := ⟨_, rfl⟩
  rw [← hbx] at hF1 ⊢
  have Hbx := Lib.hid hbx
  have hs1 := hk1.size
  have hkn := Kp.new v1 (.cells #[.string q.nm, .slice q.t0.ao q.t0.n q.t0.c, .slice q.t1.ao q.t1.n q.t1.c, .slice q.tl.ao q.tl.n q.tl.c] 26)
  have hcs : Cs (v1.alloc (.cells #[.string q.nm, .slice q.t0.ao q.t0.n q.t0.c, .slice q.t1.ao q.t1.n q.t1.c, .slice q.tl.ao q.tl.n q.tl.c] 26)) (some ⟨v1.heap.size, 0, none⟩) (pqc q) := Cs.new v1 (pqc q) 26 (0, 0)
  have hSk := hS1.kp hkn
  have HO1 := Lib.hid (hO1.kp hkn)
  have hbs : B ≤ (v1.alloc (.cells #[.string q.nm, .slice q.t0.ao q.t0.n q.t0.c, .slice q.t1.ao q.t1.n q.t1.c, .slice q.tl.ao q.tl.n q.tl.c] 26)).heap.size := by have := hkn.size; omega
  have hown : OwV (v1.alloc (.cells #[.string q.nm, .slice q.t0.ao q.t0.n q.t0.c, .slice q.t1.ao q.t1.n q.t1.c, .slice q.tl.ao q.tl.n q.tl.c] 26)) B 26 4 ⟨ao, 3 + k, c⟩ (qs.flatMap pqc) := hSk.head
  have hzs : (qs ++ [q]).flatMap pqc = qs.flatMap pqc ++ pqc q := by rw [List.flatMap_append]; simp
  have Hba := Lib.hid (show bo ∉ blkL ao from fun hx => Hbo.out (arrR ⟨ao, 3 + k, c⟩ qs) (by simp) hx)
  obtain ⟨y0, z0⟩ := hO1
  obtain ⟨x0, x1, x2, x3, _, _, _, _⟩ := hF1
  obtain ⟨y1, z1⟩ := HO1.out
  clear hbx hS1
  go_upto_region 2 with (at_builtin; go_loud (refine wpList_apv rfl (.tmp 4) (.tmp 6) 53 rfl el53 B rfl hown rfl (pqc q) rfl hcs (by simp [pqc, tvv, Value.oneCell']) (3 + k + 1) rfl ((qs ++ [q]).flatMap pqc) hzs (by omega) hbs ?_); intro ao2 c2 w2 ha; have HA := Lib.hid ha; clear ha y0 z0 y1 z1 x0 x1 x2 x3; obtain ⟨y0, z0⟩ := HO1.out.fr HA.out.fr Hba.out)
  have hO2 := (HO1.out.fr HA.out.fr Hba.out).set (.slice ao2 (3 + k + 1) c2)
  have hst := Fr.set w2 ⟨bo, 0, none⟩ (.slice ao2 (3 + k + 1) c2)
  have hnew : ∀ x ∈ blkL ao2, x ∈ blkL ao ∨ v.heap.size ≤ x := fun x hx => by
    rcases HA.out.move with m | ⟨_, m⟩
    · have m' : ao2 = ao := m
      exact .inl (by rw [← m']; exact hx)
    · have h1 : blk ao2 = some x := mem_blkL.1 hx
      rw [m] at h1
      have := Option.some.inj h1
      have := hkn.size
      exact .inr (by omega)
  have hS2 := (SepV.app hSk HA.out).fr hst (fun x hx r hr hq => by
    simp only [List.mem_singleton] at hx
    subst hx
    rcases List.mem_cons.1 hr with rfl | hr
    · rcases hnew _ hq with y | y
      · exact Hba.out y
      · omega
    · exact Hbo.out r (List.mem_cons_of_mem _ hr) hq)
  have hfr : Fr (bo :: blkL ao) v (w2.setCell ⟨bo, 0, none⟩ (.slice ao2 (3 + k + 1) c2)) := (((Fr.of_kp (Kp.trans HK1.out hkn)).mono (by simp)).trans (HA.out.fr.mono (fun x hx => List.mem_cons_of_mem _ hx))).trans (hst.mono (fun x hx => by simp only [List.mem_singleton] at hx; subst hx; exact List.mem_cons_self))
  have Hfin := Lib.hid (show ∃ (ao' : Option Addr) (c' : Nat), One1 (w2.setCell ⟨bo, 0, none⟩ (.slice ao2 (3 + k + 1) c2)) bo (.slice ao' (3 + k + 1) c') ∧ SepV (w2.setCell ⟨bo, 0, none⟩ (.slice ao2 (3 + k + 1) c2)) B (arrR ⟨ao', 3 + k + 1, c'⟩ (qs ++ [q]) :: R) ∧ Fr (bo :: blkL ao) v (w2.setCell ⟨bo, 0, none⟩ (.slice ao2 (3 + k + 1) c2)) ∧ ∀ x ∈ blkL ao', x ∈ blkL ao ∨ v.heap.size ≤ x from ⟨ao2, c2, hO2, hS2, hfr, hnew⟩)
  clear hnew hS2 hfr hst hkn hcs hSk hbs hown hzs y0 z0
  obtain ⟨y0, z0⟩ := hO2
  generalize w2.setCell ⟨bo, 0, none⟩ (.slice ao2 (3 + k + 1) c2) = w3 at *
  by_cases h12 : 3 + k + 1 < 12
  · have h12i : ((3 + k + 1 : Nat) : Int) < 12 := by omega
    go_wp2_with fail
    go_ret
    exact ⟨by simp; omega, Hfin.out⟩
  · have h12i : ¬ ((3 + k + 1 : Nat) : Int) < 12 := by omega
    go_wp2_with fail
    go_ret
    exact ⟨by simp; omega, Hfin.out⟩
/-- Between two rounds. -/
def AskI (w : World) (X : List Nat) (bo : Nat) (C0 : List Ct) (N k : Nat) (v : World) : Prop := k < 9 ∧ Kp w v ∧ ∃ (ao : Option Addr) (c : Nat) (qs : List Pq), One1 v bo (.slice ao (3 + k) c) ∧ SepV v w.heap.size (arrR ⟨ao, 3 + k, c⟩ qs :: qs.flatMap Pq.rows) ∧ (∀ r ∈ arrR ⟨ao, 3 + k, c⟩ qs :: qs.flatMap Pq.rows, bo ∉ r.bl) ∧
  qs.map Pq.ct = C0 ++ (namesS.take k).map ctF ∧ (∀ q ∈ qs, q.Ok 24) ∧ ∀ x ∈ blkL ao, x ∈ X ∨ N ≤ x
/-- At the end. -/
def AskF (w : World) (bo : Nat) (C0 : List Ct) (v : World) : Prop := Kp w v ∧ ∃ (ao : Option Addr) (c : Nat) (qs : List Pq), One1 v bo (.slice ao 12 c) ∧ SepV v w.heap.size (arrR ⟨ao, 12, c⟩ qs :: qs.flatMap Pq.rows) ∧ qs.map Pq.ct = C0 ++ (namesS.take 9).map ctF ∧ ∀ q ∈ qs, q.Ok 24
theorem AskI.keep {w : World} {X : List Nat} {bo N k : Nat} {C0 : List Ct} {v v' : World} (h : AskI w X bo C0 N k v) (q : Kp v v') : AskI w X bo C0 N k v' := by
  obtain ⟨h1, h2, ao, c, qs, h3, h4, h5⟩ := h
  exact ⟨h1, Kp.trans h2 q, ao, c, qs, h3.kp q, h4.kp q, h5⟩
attribute [local irreducible] tblK tblP tblQ Q.piecesB Q.tableB Q.tableL rowOf namesS
theorem ctF_row {x : Q.Bt} {y : Row} (h : rowOf x = some y) : ctF x = (bs y.1, y.2.1.1, y.2.1.2, y.2.2.1) := by unfold ctF; rw [h]
theorem ask_all (w v : World) (E : Nat → Addr) (m : Int) (hE : Env w E m) (hk : Kp w v) (bo g : Nat) (C0 : List Ct) (qs : List Pq) (h1 : One1 v bo (.slice (some ⟨g, 0, none⟩) 3 3)) (hS : SepV v w.heap.size (arrR ⟨some ⟨g, 0, none⟩, 3, 3⟩ qs :: qs.flatMap Pq.rows))
    (hbo : ∀ r ∈ arrR ⟨some ⟨g, 0, none⟩, 3, 3⟩ qs :: qs.flatMap Pq.rows, bo ∉ r.bl) (hc : qs.map Pq.ct = C0) (hok : ∀ q ∈ qs, q.Ok 24) (hbw : w.heap.size ≤ bo) :
    Calls Tryz.prog 78 #[.func (.func 85) #[] #[.pointer (some ⟨bo, 0, none⟩)]] v fun e v' => e = .returned (.tuple #[]) ∧ AskF w bo C0 v' := by
  have hbl : bo < v.heap.size := World.block_lt_of_cell? v _ h1.c
  have hgl : w.heap.size ≤ g ∧ g < v.heap.size := hS.lt (r := arrR ⟨some ⟨g, 0, none⟩, 3, 3⟩ qs) (by simp) (by simp [Rw.bl, arrR, blkL, blk])
  refine all_iter2 85 #[.pointer (some ⟨bo, 0, none⟩)] (enters_of Tryz.func85 (by kernel_rfl) rfl) v m E (E 8) [bo, g] (AskI w [bo, g] bo C0) (AskF w bo C0) ?_ ?_ ?_ ?_ ?_ ?_ ?_
  · intro x hx
    simp at hx
    rcases hx with rfl | rfl
    · exact hbl
    · exact hgl.2
  · intro N k u u' hi hq
    exact hi.keep hq
  · intro N k u hi
    have hv := hE.keep hi.2.1
    exact ⟨hv.mx, hv.errs, hv.c5⟩
  · intro u hu
    exact ⟨by omega, Kp.trans hk hu, some ⟨g, 0, none⟩, 3, qs, h1.kp hu, hS.kp hu, hbo, by rw [List.take_zero, List.map_nil, List.append_nil]; exact hc, hok, fun x hx => .inl (by simp [blkL, blk] at hx; simp [hx])⟩
  · exact (hE.keep hk).mx
  · intro N k v0 u y t0 t1 tl ts hN hNv hkl hq hy hi hku hP
    obtain ⟨k9, hk0, ao, c, qs', o1, oS, obo, oc, ook, oX⟩ := hi
    obtain ⟨q, hqd⟩ : ∃ q : Pq, q = ⟨bs y.1, t0, t1, tl, ts, y.2.1.1, y.2.1.2, y.2.2.1⟩ := ⟨_, rfl⟩
    have hO : OwC u v0.heap.size t0 t1 tl (bs y.1, y.2.1.1, y.2.1.2, y.2.2.1) := OwC.of hP.sep.view hP.len (row_ok hq)
    have hqS : SepV u v0.heap.size q.rows := by subst hqd; exact hP.sep.view
    have hqO : q.Ok 24 := by
      subst hqd
      obtain ⟨ts', _, k2⟩ := hO
      exact ⟨hP.len, k2.l0, k2.l1, k2.ll, k2.lt⟩
    have hqc : q.ct = ctF namesS[k] := by subst hqd; rw [ctF_row hq]; rfl
    have hval : (#[.agg #[.string (bs y.1), tvv t0, tvv t1, tvv tl]] ++ #[.pointer (some ⟨bo, 0, none⟩)] : Array Value) = #[q.val, .pointer (some ⟨bo, 0, none⟩)] := by subst hqd; rfl
    rw [hval]
    have hkw := Kp.trans hk0 hku
    have hb0 : bo < v0.heap.size := World.block_lt_of_cell? v0 _ o1.c
    have hj := (oS.join hku hqS hk0.size)
    have e1 : (arrR ⟨ao, 3 + k, c⟩ qs' :: qs'.flatMap Pq.rows) ++ q.rows = arrR ⟨ao, 3 + k, c⟩ qs' :: (qs' ++ [q]).flatMap Pq.rows := by rw [List.flatMap_append]; simp
    rw [e1] at hj
    have hbo2 : ∀ r ∈ arrR ⟨ao, 3 + k, c⟩ qs' :: (qs' ++ [q]).flatMap Pq.rows, bo ∉ r.bl := fun r hr hx => by
      rw [← e1] at hr
      rcases List.mem_append.1 hr with z | z
      · exact obo r z hx
      · have := (hqS.lt z hx).1; omega
    refine (clo_any u w.heap.size bo k ao c qs' q _ k9 (o1.kp hku) hj hbo2 hkw.size).mono ?_
    rintro e u' ⟨rfl, ao', c', p1, p2, p3, p4⟩
    have hu' : Kp w u' := ((Fr.of_kp hkw).step p3 (fun x hx => .inr (by
      rcases List.mem_cons.1 hx with rfl | hx
      · exact hbw
      · exact (oS.lt (r := arrR ⟨ao, 3 + k, c⟩ qs') (by simp) hx).1))).kp
    have hbo3 : ∀ r ∈ arrR ⟨ao', 3 + k + 1, c'⟩ (qs' ++ [q]) :: (qs' ++ [q]).flatMap Pq.rows, bo ∉ r.bl := fun r hr hx => by
      rcases List.mem_cons.1 hr with rfl | hr
      · rcases p4 bo hx with z | z
        · exact obo (arrR ⟨ao, 3 + k, c⟩ qs') (by simp) z
        · have := hku.size; omega
      · exact hbo2 r (List.mem_cons_of_mem _ hr) hx
    have hct : (qs' ++ [q]).map Pq.ct = C0 ++ (namesS.take (k + 1)).map ctF := by
      rw [List.map_append, oc, take_step _ _ hkl, List.map_append, List.append_assoc, List.map_cons, List.map_nil, List.map_cons, List.map_nil, hqc]
    have hokk : ∀ p ∈ qs' ++ [q], p.Ok 24 := fun p hp => by
      rcases List.mem_append.1 hp with z | z
      · exact ook p z
      · simp only [List.mem_singleton] at z; subst z; exact hqO
    refine ⟨_, rfl, ⟨bo :: blkL ao, p3, fun x hx => ?_⟩, fun hb => ?_, fun hb => ?_⟩
    · rcases List.mem_cons.1 hx with rfl | hx
      · exact .inl (by simp)
      · exact oX x hx
    · have hk8 : 3 + k + 1 < 12 := by simpa using hb
      refine ⟨by omega, hu', ao', c', qs' ++ [q], p1, p2, hbo3, hct, hokk, fun x hx => ?_⟩
      rcases p4 x hx with z | z
      · exact oX x z
      · exact .inr (by have := hku.size; omega)
    · have hk8 : k = 8 := by
        have : ¬ 3 + k + 1 < 12 := by simpa using hb
        omega
      subst hk8
      exact ⟨hu', ao', c', qs' ++ [q], p1, p2, hct, hokk⟩
  · intro N u hi
    have := hi.1
    rw [namesS_length, tableL_len] at this
    exact absurd this (by decide)
end Go.Proofs.YtkmejehhdjdlbaaGreatDoor

namespace Go.Proofs.YtkmejehhdjdlbaaGreatDoor
open Go.RowKit

def askC (text nm : Q.Bt) (p : Q.Pn) (ws : List Q.Bt) : List Ct := [ctP text, ctF nm, ctM p ws] ++ (namesS.take 9).map ctF
theorem askC_length (text nm : Q.Bt) (p : Q.Pn) (ws : List Q.Bt) : (askC text nm p ws).length = 12 := by
  unfold askC
  rw [List.length_append, List.length_map, List.length_take, namesS_length, tableL_len]
  rfl
attribute [local irreducible] tblK tblP tblQ Q.piecesB Q.tableB Q.tableL rowOf namesS ctP ctF ctM
set_option maxRecDepth 100000 in
set_option maxHeartbeats 8000000 in
theorem asked_any (w : World) (E : Nat → Addr) (m : Int) (hE : Env w E m) (text nm : ByteArray) (hnm : nm.size ≤ maxLen) (s : ByteArray) (a0 a1 al : Option Addr) (n0 c0 n1 c1 nl cl : Nat) (b0 b1 : List Int) (ls : List Ln) (hP : PatI w a0 a1 al n0 n1 nl b0 b1 ls) (hs : ShortM s n0 n1 nl ls)
    (wo : Option Addr) (nw cw : Nat) (ss : List ByteArray) (hW : Strs w wo nw ss) (hz : ∀ x ∈ ss, x.size ≤ 281474976710656) (hn : nw ≤ 200) :
    Calls Tryz.prog 43 #[.string text, .string nm, patV s a0 a1 al n0 c0 n1 c1 nl cl, .slice wo nw cw] w fun e w' => Kp w w' ∧ ∃ (ao : Option Addr) (c : Nat) (qs : List Pq), e = .returned (.slice ao 12 c) ∧ SepV w' w.heap.size (arrR ⟨ao, 12, c⟩ qs :: qs.flatMap Pq.rows) ∧
      qs.map Pq.ct = askC text.data.toList nm.data.toList ⟨s.data.toList, b0, b1, ls⟩ (wb ss) ∧ ∀ q ∈ qs, q.Ok 24 := by
  have HE := Lib.hid hE
  have HP := Lib.hid hP
  have Hs := Lib.hid hs
  have HW := Lib.hid hW
  have Hz := Lib.hid hz
  have hk1 := Kp.new w (.cells #[.string s, .slice a0 n0 c0, .slice a1 n1 c1, .slice al nl cl] 26)
  have hF6 := Four.new w (.string s) (.slice a0 n0 c0) (.slice a1 n1 c1) (.slice al nl cl) 26
  clear hE hP hs hW hz
  go_enter Tryz.func43, Tryz.ntmps43
  go_upto_region 1 with fail
  obtain ⟨b6, hb6⟩ : ∃ b6, b6 = w.heap.size := ⟨_, rfl⟩
  rw [← hb6] at hF6 ⊢
  generalize w.alloc (.cells #[.string s, .slice a0 n0 c0, .slice a1 n1 c1, .slice al nl cl] 26) = w1 at *
  have HPa := Lib.hid (parse_ow w1 E m (HE.out.keep hk1) text)
  obtain ⟨xa, hxa⟩ : ∃ xa, xa = ctP text.data.toList := ⟨_, rfl⟩
  rw [← hxa] at HPa
  have Hxa := Lib.hid hxa
  have HK1 := Lib.hid hk1
  have HF6 := Lib.hid hF6
  have Hb6 := Lib.hid hb6
  clear hb6 hk1 hF6 hxa
  go_wp2_with fail
  (with_reducible refine HPa.out.mono ?_)
  rintro e w2 ⟨hk2, t0, t1, tl, va, rfl, hA⟩
  unfold tvv
  have hka := Kp.new w2 (.cells #[.string xa.1, .slice t0.ao t0.n t0.c, .slice t1.ao t1.n t1.c, .slice tl.ao tl.n tl.c] 26)
  have HF9 := Lib.hid (Four.new w2 (.string xa.1) (.slice t0.ao t0.n t0.c) (.slice t1.ao t1.n t1.c) (.slice tl.ao tl.n tl.c) 26)
  have HK3 := Lib.hid (Kp.trans HK1.out (Kp.trans hk2 hka))
  have HA := Lib.hid hA
  have HK2a := Lib.hid (And.intro hk2 hka)
  have HF63 := Lib.hid (HF6.out.kp (Kp.trans hk2 hka))
  clear hk2 hka hA HPa HF6
  go_upto_region 2 with fail
  generalize w2.alloc (.cells #[.string xa.1, .slice t0.ao t0.n t0.c, .slice t1.ao t1.n t1.c, .slice tl.ao tl.n tl.c] 26) = w3 at *
  generalize w2.heap.size = b9 at *
  have HFi := Lib.hid (find_ow w3 E m (HE.out.keep HK3.out) nm hnm)
  obtain ⟨xb, hxb⟩ : ∃ xb, xb = ctF nm.data.toList := ⟨_, rfl⟩
  rw [← hxb] at HFi
  have Hxb := Lib.hid hxb
  clear hxb
  go_wp2_with fail
  (with_reducible refine HFi.out.mono ?_)
  rintro e w4 ⟨hk4, s0, s1, sl, vb, rfl, hB⟩
  unfold tvv
  have hkb := Kp.new w4 (.cells #[.string xb.1, .slice s0.ao s0.n s0.c, .slice s1.ao s1.n s1.c, .slice sl.ao sl.n sl.c] 26)
  have HF11 := Lib.hid (Four.new w4 (.string xb.1) (.slice s0.ao s0.n s0.c) (.slice s1.ao s1.n s1.c) (.slice sl.ao sl.n sl.c) 26)
  have HK5 := Lib.hid (Kp.trans HK3.out (Kp.trans hk4 hkb))
  have HB := Lib.hid hB
  have HK4b := Lib.hid (And.intro hk4 hkb)
  have HF65 := Lib.hid (HF63.out.kp (Kp.trans hk4 hkb))
  have HF95 := Lib.hid (HF9.out.kp (Kp.trans hk4 hkb))
  clear hk4 hkb hB HFi HF63 HF9
  go_upto_region 3 with fail
  generalize w4.alloc (.cells #[.string xb.1, .slice s0.ao s0.n s0.c, .slice s1.ao s1.n s1.c, .slice sl.ao sl.n sl.c] 26) = w5 at *
  generalize w4.heap.size = b11 at *
  have HMo := Lib.hid (mod_ow w5 E m (HE.out.keep HK5.out) s a0 a1 al n0 c0 n1 c1 nl cl b0 b1 ls (HP.out.kp HK5.out) Hs.out wo nw cw ss (HK5.out.strs HW.out) Hz.out hn)
  obtain ⟨xc, hxc⟩ : ∃ xc, xc = ctM ⟨s.data.toList, b0, b1, ls⟩ (wb ss) := ⟨_, rfl⟩
  rw [← hxc] at HMo
  have Hxc := Lib.hid hxc
  obtain ⟨x0, x1, x2, x3, _, _, _, _⟩ := HF65.out
  clear hxc
  go_wp2_with fail
  (with_reducible refine HMo.out.mono ?_)
  rintro e w6 ⟨hk6, u0, u1, ul, vc, rfl, hC⟩
  unfold tvv
  have hkc := Kp.new w6 (.cells #[.string xc.1, .slice u0.ao u0.n u0.c, .slice u1.ao u1.n u1.c, .slice ul.ao ul.n ul.c] 26)
  have HF13 := Lib.hid (Four.new w6 (.string xc.1) (.slice u0.ao u0.n u0.c) (.slice u1.ao u1.n u1.c) (.slice ul.ao ul.n ul.c) 26)
  have HK7 := Lib.hid (Kp.trans HK5.out (Kp.trans hk6 hkc))
  have HC := Lib.hid hC
  have HK6c := Lib.hid (And.intro hk6 hkc)
  have HF97 := Lib.hid (HF95.out.kp (Kp.trans hk6 hkc))
  have HF117 := Lib.hid (HF11.out.kp (Kp.trans hk6 hkc))
  clear hk6 hkc hC HMo HF95 HF11 HF65 x0 x1 x2 x3
  go_upto_region 4 with fail
  generalize w6.alloc (.cells #[.string xc.1, .slice u0.ao u0.n u0.c, .slice u1.ao u1.n u1.c, .slice ul.ao ul.n ul.c] 26) = w7 at *
  generalize w6.heap.size = b13 at *
  -- the three patterns
  obtain ⟨ta, hSa, hOa⟩ := HA.out
  obtain ⟨tb, hSb, hOb⟩ := HB.out
  obtain ⟨tc, hSc, hOc⟩ := HC.out
  obtain ⟨qa, hqa⟩ : ∃ qa : Pq, qa = ⟨xa.1, t0, t1, tl, ta, xa.2.1, xa.2.2.1, xa.2.2.2⟩ := ⟨_, rfl⟩
  obtain ⟨qb, hqb⟩ : ∃ qb : Pq, qb = ⟨xb.1, s0, s1, sl, tb, xb.2.1, xb.2.2.1, xb.2.2.2⟩ := ⟨_, rfl⟩
  obtain ⟨qc, hqc⟩ : ∃ qc : Pq, qc = ⟨xc.1, u0, u1, ul, tc, xc.2.1, xc.2.2.1, xc.2.2.2⟩ := ⟨_, rfl⟩
  have hpa : pqc qa = [.string xa.1, .slice t0.ao t0.n t0.c, .slice t1.ao t1.n t1.c, .slice tl.ao tl.n tl.c] := by rw [hqa]; rfl
  have hpb : pqc qb = [.string xb.1, .slice s0.ao s0.n s0.c, .slice s1.ao s1.n s1.c, .slice sl.ao sl.n sl.c] := by rw [hqb]; rfl
  have hpc : pqc qc = [.string xc.1, .slice u0.ao u0.n u0.c, .slice u1.ao u1.n u1.c, .slice ul.ao ul.n ul.c] := by rw [hqc]; rfl
  have hca : qa.ct = xa := by rw [hqa]; rfl
  have hcb : qb.ct = xb := by rw [hqb]; rfl
  have hcc : qc.ct = xc := by rw [hqc]; rfl
  rw [← hqa] at hSa hOa
  rw [← hqb] at hSb hOb
  rw [← hqc] at hSc hOc
  have hS3 : SepV w3 w.heap.size qa.rows := (hSa.base HK1.out.size).kp HK2a.out.2
  have hS5 : SepV w5 w.heap.size (qa.rows ++ qb.rows) := (hS3.join HK4b.out.1 hSb HK3.out.size).kp HK4b.out.2
  have hS7 : SepV w7 w.heap.size ((qa.rows ++ qb.rows) ++ qc.rows) := (hS5.join HK6c.out.1 hSc HK5.out.size).kp HK6c.out.2
  have hcells : [qa, qb, qc].flatMap pqc = [.string xa.1, .slice t0.ao t0.n t0.c, .slice t1.ao t1.n t1.c, .slice tl.ao tl.n tl.c, .string xb.1, .slice s0.ao s0.n s0.c, .slice s1.ao s1.n s1.c, .slice sl.ao sl.n sl.c, .string xc.1, .slice u0.ao u0.n u0.c, .slice u1.ao u1.n u1.c, .slice ul.ao ul.n ul.c] := by
    rw [List.flatMap_cons, List.flatMap_cons, List.flatMap_cons, List.flatMap_nil, hpa, hpb, hpc]; rfl
  have hfr := Own.fresh w7 26 4 3 [.string xa.1, .slice t0.ao t0.n t0.c, .slice t1.ao t1.n t1.c, .slice tl.ao tl.n tl.c, .string xb.1, .slice s0.ao s0.n s0.c, .slice s1.ao s1.n s1.c, .slice sl.ao sl.n sl.c, .string xc.1, .slice u0.ao u0.n u0.c, .slice u1.ao u1.n u1.c, .slice ul.ao ul.n ul.c] rfl (by decide)
  have hk8 := Kp.new w7 (.cells #[.string xa.1, .slice t0.ao t0.n t0.c, .slice t1.ao t1.n t1.c, .slice tl.ao tl.n tl.c, .string xb.1, .slice s0.ao s0.n s0.c, .slice s1.ao s1.n s1.c, .slice sl.ao sl.n sl.c, .string xc.1, .slice u0.ao u0.n u0.c, .slice u1.ao u1.n u1.c, .slice ul.ao ul.n ul.c] 26)
  have hSarr : SepV (w7.alloc (.cells #[.string xa.1, .slice t0.ao t0.n t0.c, .slice t1.ao t1.n t1.c, .slice tl.ao tl.n tl.c, .string xb.1, .slice s0.ao s0.n s0.c, .slice s1.ao s1.n s1.c, .slice sl.ao sl.n sl.c, .string xc.1, .slice u0.ao u0.n u0.c, .slice u1.ao u1.n u1.c, .slice ul.ao ul.n ul.c] 26)) w7.heap.size [arrR ⟨some ⟨w7.heap.size, 0, none⟩, 3, 3⟩ [qa, qb, qc]] :=
    ⟨fun r hr => by simp only [List.mem_singleton] at hr; subst hr; unfold arrR; rw [hcells]; exact .inl hfr, by simp⟩
  have hS8 := (hS7.join hk8 hSarr HK7.out.size).perm (List.perm_append_comm (l₁ := (qa.rows ++ qb.rows) ++ qc.rows) (l₂ := [arrR ⟨some ⟨w7.heap.size, 0, none⟩, 3, 3⟩ [qa, qb, qc]]))
  have hrows : [qa, qb, qc].flatMap Pq.rows = (qa.rows ++ qb.rows) ++ qc.rows := by simp
  rw [List.singleton_append, ← hrows] at hS8
  obtain ⟨x0, x1, x2, x3, _, _, _, _⟩ := HF97.out
  obtain ⟨y0, y1, y2, y3, _, _, _, _⟩ := HF117.out
  obtain ⟨z0, z1, z2, z3, _, _, _, _⟩ := HF13.out
  have Hct := Lib.hid (show [qa, qb, qc].map Pq.ct = [ctP text.data.toList, ctF nm.data.toList, ctM ⟨s.data.toList, b0, b1, ls⟩ (wb ss)] by rw [List.map_cons, List.map_cons, List.map_cons, List.map_nil, hca, hcb, hcc, Hxa.out, Hxb.out, Hxc.out])
  have Hok := Lib.hid (show ∀ q ∈ [qa, qb, qc], q.Ok 24 from fun q hq => by
    simp only [List.mem_cons, List.not_mem_nil, or_false] at hq
    rcases hq with rfl | rfl | rfl <;> assumption)
  have HS8 := Lib.hid hS8
  have HK8 := Lib.hid (Kp.trans HK7.out hk8)
  clear hSa hSb hSc hOa hOb hOc hqa hqb hqc hpa hpb hpc hca hcb hcc hS3 hS5 hS7 hcells hfr hSarr hS8 hrows HA HB HC hk8
  go_upto_region 5 with fail
  clear x0 x1 x2 x3 y0 y1 y2 y3 z0 z1 z2 z3
  have hO9 := One1.new (w7.alloc (.cells #[.string xa.1, .slice t0.ao t0.n t0.c, .slice t1.ao t1.n t1.c, .slice tl.ao tl.n tl.c, .string xb.1, .slice s0.ao s0.n s0.c, .slice s1.ao s1.n s1.c, .slice sl.ao sl.n sl.c, .string xc.1, .slice u0.ao u0.n u0.c, .slice u1.ao u1.n u1.c, .slice ul.ao ul.n ul.c] 26)) (.slice (some ⟨w7.heap.size, 0, none⟩) 3 3) 53
  have hk9 := Kp.new (w7.alloc (.cells #[.string xa.1, .slice t0.ao t0.n t0.c, .slice t1.ao t1.n t1.c, .slice tl.ao tl.n tl.c, .string xb.1, .slice s0.ao s0.n s0.c, .slice s1.ao s1.n s1.c, .slice sl.ao sl.n sl.c, .string xc.1, .slice u0.ao u0.n u0.c, .slice u1.ao u1.n u1.c, .slice ul.ao ul.n ul.c] 26)) (.cells #[.slice (some ⟨w7.heap.size, 0, none⟩) 3 3] 53)
  have HS9 := Lib.hid (HS8.out.kp hk9)
  have HK9 := Lib.hid (Kp.trans HK8.out hk9)
  have Hbo := Lib.hid (fun r hr (hx : (w7.alloc (.cells #[.string xa.1, .slice t0.ao t0.n t0.c, .slice t1.ao t1.n t1.c, .slice tl.ao tl.n tl.c, .string xb.1, .slice s0.ao s0.n s0.c, .slice s1.ao s1.n s1.c, .slice sl.ao sl.n sl.c, .string xc.1, .slice u0.ao u0.n u0.c, .slice u1.ao u1.n u1.c, .slice ul.ao ul.n ul.c] 26)).heap.size ∈ Rw.bl r) => Nat.lt_irrefl _ (HS8.out.lt hr hx).2)
  have hbw := HK8.out.size
  rw [World.size_alloc] at hO9 Hbo hbw
  generalize (w7.alloc (.cells #[.string xa.1, .slice t0.ao t0.n t0.c, .slice t1.ao t1.n t1.c, .slice tl.ao tl.n tl.c, .string xb.1, .slice s0.ao s0.n s0.c, .slice s1.ao s1.n s1.c, .slice sl.ao sl.n sl.c, .string xc.1, .slice u0.ao u0.n u0.c, .slice u1.ao u1.n u1.c, .slice ul.ao ul.n ul.c] 26)).alloc (.cells #[.slice (some ⟨w7.heap.size, 0, none⟩) 3 3] 53) = w9 at *
  generalize w7.heap.size = g at *
  have HIt := Lib.hid (ask_all w w9 E m HE.out HK9.out (g + 1) g _ [qa, qb, qc] hO9 HS9.out Hbo.out Hct.out Hok.out hbw)
  have HF := Lib.hid (all_fn w9)
  have hnil : ∀ w : World, (binOp .eql 56 (.func (.func 78) #[] #[]) .nilFunc).run Tryz.prog w = .ok (.bool false) w := fun w => by kernel_rfl
  have hnil2 := hnil w9
  have hen : ∀ (args : Array Value) (w : World), (callFunc 78 args).run Tryz.prog w = .ok (.enter 78 args) w := enters_of Tryz.func78 (by kernel_rfl) rfl
  clear hnil hO9 hk9 hbw HS8 HK8
  go_wp2_with fail
  (with_reducible refine HF.out.mono ?_)
  rintro e w10 ⟨rfl, rfl⟩
  go_wp2_with fail
  (with_reducible refine HIt.out.mono ?_)
  rintro e w11 ⟨rfl, hk11, ao, c, qs, hO, hS, hc, hok⟩
  have Hfin := Lib.hid (show Kp w w11 ∧ SepV w11 w.heap.size (arrR ⟨ao, 12, c⟩ qs :: qs.flatMap Pq.rows) ∧ qs.map Pq.ct = askC text.data.toList nm.data.toList ⟨s.data.toList, b0, b1, ls⟩ (wb ss) ∧ ∀ q ∈ qs, q.Ok 24 from ⟨hk11, hS, hc, hok⟩)
  obtain ⟨o1, _⟩ := hO
  clear hk11 hS hc hok hnil2
  go_wp2_with fail
  go_ret
  exact ⟨Hfin.out.1, ao, c, qs, rfl, Hfin.out.2⟩
end Go.Proofs.YtkmejehhdjdlbaaGreatDoor

namespace Go.Proofs.YtkmejehhdjdlbaaGreatDoor
open Go.RowKit

/-- What there is while the copies are made: k of them. -/
structure Fc (w wq : World) (C : List Ct) (b6 b9 : Nat) (p z : Pq) (a1 a2 a3 : Tv) (O T W : List Pq) (k : Nat) : Prop where
  kp : Kp w wq
  sep : SepV wq w.heap.size (arrR a3 W :: ([arrR a1 O, arrR a2 T, boxR b6 p, boxR b9 z] ++ (O ++ (T ++ (z :: W))).flatMap Pq.rows))
  okO : ∀ q ∈ O, q.Ok 24
  okT : ∀ q ∈ T, q.Ok 24
  okW : ∀ q ∈ W, q.Ok 24
  okz : z.Ok 2000
  cO : O.map Pq.ct = C
  cT : T.map Pq.ct = C
  cW : W.map Pq.ct = C.take k
section
variable {w wq wr : World} {C : List Ct} {b6 b9 k : Nat} {p z : Pq} {a1 a2 a3 : Tv} {O T W : List Pq}
theorem Fc.lO (h : Fc w wq C b6 b9 p z a1 a2 a3 O T W k) : O.length = C.length := by rw [← h.cO, List.length_map]
theorem Fc.lT (h : Fc w wq C b6 b9 p z a1 a2 a3 O T W k) : T.length = C.length := by rw [← h.cT, List.length_map]
theorem Fc.o1 (h : Fc w wq C b6 b9 p z a1 a2 a3 O T W k) : OwV wq w.heap.size 26 4 a1 (O.flatMap pqc) := h.sep.own (arrR a1 O) (by simp)
theorem Fc.o2 (h : Fc w wq C b6 b9 p z a1 a2 a3 O T W k) : OwV wq w.heap.size 26 4 a2 (T.flatMap pqc) := h.sep.own (arrR a2 T) (by simp)
theorem Fc.keep (h : Fc w wq C b6 b9 p z a1 a2 a3 O T W k) (q : Kp wq wr) : Fc w wr C b6 b9 p z a1 a2 a3 O T W k := ⟨Kp.trans h.kp q, h.sep.kp q, h.okO, h.okT, h.okW, h.okz, h.cO, h.cT, h.cW⟩
theorem Fc.pO (h : Fc w wq C b6 b9 p z a1 a2 a3 O T W k) {i : Nat} {q : Pq} (hi : O[i]? = some q) : SepV wq w.heap.size q.rows :=
  h.sep.tail.one' (i := i) (by rw [List.getElem?_append_left (List.getElem?_eq_some_iff.1 hi).1, hi])
theorem Fc.pT (h : Fc w wq C b6 b9 p z a1 a2 a3 O T W k) {i : Nat} {q : Pq} (hi : T[i]? = some q) : SepV wq w.heap.size q.rows :=
  h.sep.tail.one' (i := O.length + i) (by
    rw [List.getElem?_append_right (by omega), Nat.add_sub_cancel_left, List.getElem?_append_left (List.getElem?_eq_some_iff.1 hi).1, hi])
/-- A copy is added to the row. -/
theorem Fc.add {w4 w5 : World} {q' : Pq} {c' : Nat} {ao' : Option Addr} {N : Nat} (h : Fc w wq C b6 b9 p z a1 a2 a3 O T W k) (k4 : Kp wq w4) (hs : SepV w4 wq.heap.size q'.rows) (hq : q'.Ok 24) (hc : C[k]? = some q'.ct) (k5 : Kp w4 w5)
    (ha : Apv w5 wr w.heap.size 26 4 a3 N ((W ++ [q']).flatMap pqc) ao' c') : Fc w wr C b6 b9 p z a1 a2 ⟨ao', N, c'⟩ O T (W ++ [q']) (k + 1) := by
  have hj := ((h.sep.join k4 hs h.kp.size).kp k5)
  have e1 : (arrR a3 W :: ([arrR a1 O, arrR a2 T, boxR b6 p, boxR b9 z] ++ (O ++ (T ++ (z :: W))).flatMap Pq.rows)) ++ q'.rows = arrR a3 W :: ([arrR a1 O, arrR a2 T, boxR b6 p, boxR b9 z] ++ (O ++ (T ++ (z :: (W ++ [q'])))).flatMap Pq.rows) := by
    simp
  rw [e1] at hj
  have hlt : ∀ x ∈ blkL a3.ao, w.heap.size ≤ x := fun x hx => ((h.sep.head).lt x hx).1
  refine ⟨((Fr.of_kp (Kp.trans h.kp (Kp.trans k4 k5))).step ha.fr (fun x hx => .inr (hlt x hx))).kp, SepV.app hj ha, h.okO, h.okT, fun q hm => ?_, h.okz, h.cO, h.cT, ?_⟩
  · rcases List.mem_append.1 hm with y | y
    · exact h.okW q y
    · rw [List.mem_singleton.1 y]; exact hq
  · obtain ⟨hk, e⟩ := List.getElem?_eq_some_iff.1 hc
    rw [List.map_append, h.cW, List.take_succ_eq_append_getElem hk, e]; rfl
theorem Fc.done {mO mT : Nat → Int} (h : Fc w wq C b6 b9 p z a1 a2 a3 O T W k) (hk : C.length ≤ k) : Fm w wq C b6 b9 p z a1 a2 a3 O T W mO mT 0 0 := by
  refine ⟨h.kp, h.sep.perm ?_, h.okO, h.okT, h.okW, h.okz, h.cO, h.cT, by rw [h.cW, List.take_of_length_le hk]⟩
  rw [flT_zero, flT_zero]
  have e1 : (arrR a3 W :: [arrR a1 O, arrR a2 T, boxR b6 p, boxR b9 z]).Perm [arrR a1 O, arrR a2 T, arrR a3 W, boxR b6 p, boxR b9 z] :=
    (List.Perm.swap _ _ _).trans ((List.Perm.swap _ _ _).cons _)
  have e2 : (z :: W).Perm (W ++ [z]) := (List.perm_append_singleton z W).symm
  exact e1.append ((((e2.append_left T).append_left O)).flatMap_right Pq.rows)
end
/-- A pattern is copied. -/
theorem copied_pq (w : World) (B K : Nat) (q : Pq) (h : SepV w B q.rows) (hq : q.Ok K) (hK : K ≤ 2000) : Calls Tryz.prog 42 #[q.val] w fun e w' => Kp w w' ∧ ∃ q' : Pq, e = .returned q'.val ∧ q'.ct = q.ct ∧ q'.Ok K ∧ SepV w' w.heap.size q'.rows := by
  have hp := h.pat hq (by omega)
  have hs : ShortP ⟨#[]⟩ q.t0.n q.t1.n q.tl.n q.ls := ⟨by decide, by rw [← hp.i0.1]; have := hq.l0; omega, by rw [← hp.i1.1]; have := hq.l1; omega, by rw [← hp.il.1]; have := hq.ll; omega, fun l hl => by have := hq.lt l hl; omega⟩
  refine (copied_any w q.nm q.t0.ao q.t1.ao q.tl.ao q.t0.n q.t0.c q.t1.n q.t1.c q.tl.n q.tl.c q.b0 q.b1 q.ls hp hs).mono ?_
  rintro e w' ⟨hk, t0, t1, tl, ts, rfl, hts, hsp⟩
  exact ⟨hk, ⟨q.nm, t0, t1, tl, ts, q.b0, q.b1, q.ls⟩, rfl, rfl, ⟨hts, hq.l0, hq.l1, hq.ll, hq.lt⟩, hsp.view⟩
set_option maxRecDepth 100000 in
set_option maxHeartbeats 16000000 in
theorem ow8 (w wq : World) (C : List Ct) (hC : C.length = 12) (b6 b9 : Nat) (p z : Pq) (xt xn : ByteArray) (wo : Option Addr) (nw cw : Nat)
    (HK : ∀ v, Kp w v → Calls Tryz.prog 21 #[] v fun e w' => e = .returned (.bool true) ∧ Kp v w')
    (HAs : ∀ v, Kp w v → Calls Tryz.prog 43 #[.string xt, .string xn, p.val, .slice wo nw cw] v fun e w' => Kp v w' ∧ ∃ (ao : Option Addr) (c : Nat) (qs : List Pq), e = .returned (.slice ao 12 c) ∧ SepV w' v.heap.size (arrR ⟨ao, 12, c⟩ qs :: qs.flatMap Pq.rows) ∧ qs.map Pq.ct = C ∧ ∀ q ∈ qs, q.Ok 24)
    (HSz : ∀ (v : World) (B' : Nat), Kp w v → SepV v B' z.rows → Calls Tryz.prog 31 #[p.val, z.val] v fun e w' => e = .returned (.bool true) ∧ Kp v w')
    (aa ba : Option Addr) (ac bc : Nat) (O T : List Pq)
    (hF : Fc w wq C b6 b9 p z ⟨aa, 12, ac⟩ ⟨ba, 12, bc⟩ ⟨none, 0, 0⟩ O T [] 0)
    (x2 x4 x5 x7 x8 x13 x14 x15 x16 x17 x18 x19 x20 x21 x22 x23 x24 x25 x26 x27 x28 x29 x30 x31 x32 x33 x34 x35 x36 x37 x38 x39 x40 x41 x42 x43 x44 x45 x46 x47 x48 x49 x50 x51 x52 x53 x54 x55 x56 x57 x58 x59 x60 x61 x62 x63 x64 x65 x66 x67 x68 x69 x70 x71 x72 x73 x74 x75 x76 x77 x78 x79 x80 x81 x82 x83 x84 x85 x86 x87 x88 x89 x90 x91 x92 x93 x94 x95 x96 x97 x98 x99 x100 x101 x102 x103 x104 x105 x106 x107 x108 x109 x110 x111 x112 x113 x114 x115 x116 x117 x118 x119 x120 x121 x122 x123 x124 x125 x126 x127 x128 x129 x130 x131 x132 x133 x134 x135 x136 x137 x138 x139 x140 x141 x142 x143 x144 x145 x146 x147 x148 x149 x150 x151 x152 x153 x154 x155 x156 x157 x158 x159 x160 x161 x162 x163 x164 x165 x166 x167 x168 x169 x170 x171 x172 x173 x174 x175 x176 x177 x178 x179 x180 x181 x182 x183 x184 x185 x186 x187 x188 x189 x190 x191 x192 x193 x194 x195 x196 x197 x198 x199 x200 x201 x202 x203 x204 x205 x206 x207 x208 x209 x210 x211 x212 : Value) :
    (tailO 9).wp Tryz.prog (bodyPost Tryz.prog Tryz.f13 fun e w' => e = .returned (.bool true) ∧ Kp w w') { tmps := List.toArray (.string xt :: .string xn :: x2 :: .slice wo nw cw :: x4 :: x5 :: .pointer (some ⟨b6, 0, none⟩) :: x7 :: x8 :: .pointer (some ⟨b9, 0, none⟩) :: .slice aa 12 ac :: .slice ba 12 bc :: .slice none 0 0 :: x13 :: x14 :: x15 :: x16 :: x17 :: x18 :: x19 :: x20 :: x21 :: x22 :: x23 :: x24 :: x25 :: x26 :: x27 :: x28 :: x29 :: x30 :: x31 :: x32 :: x33 :: x34 :: x35 :: x36 :: x37 :: x38 :: x39 :: x40 :: x41 :: x42 :: x43 :: x44 :: x45 :: x46 :: x47 :: x48 :: x49 :: x50 :: x51 :: x52 :: x53 :: x54 :: x55 :: x56 :: x57 :: x58 :: x59 :: x60 :: x61 :: x62 :: x63 :: x64 :: x65 :: x66 :: x67 :: x68 :: x69 :: x70 :: x71 :: x72 :: x73 :: x74 :: x75 :: x76 :: x77 :: x78 :: x79 :: x80 :: x81 :: x82 :: x83 :: x84 :: x85 :: x86 :: x87 :: x88 :: x89 :: x90 :: x91 :: x92 :: x93 :: x94 :: x95 :: x96 :: x97 :: x98 :: x99 :: x100 :: x101 :: x102 :: x103 :: x104 :: x105 :: x106 :: x107 :: x108 :: x109 :: x110 :: x111 :: x112 :: x113 :: x114 :: x115 :: x116 :: x117 :: x118 :: x119 :: x120 :: x121 :: x122 :: x123 :: x124 :: x125 :: x126 :: x127 :: x128 :: x129 :: x130 :: x131 :: x132 :: x133 :: x134 :: x135 :: x136 :: x137 :: x138 :: x139 :: x140 :: x141 :: x142 :: x143 :: x144 :: x145 :: x146 :: x147 :: x148 :: x149 :: x150 :: x151 :: x152 :: x153 :: x154 :: x155 :: x156 :: x157 :: x158 :: x159 :: x160 :: x161 :: x162 :: x163 :: x164 :: x165 :: x166 :: x167 :: x168 :: x169 :: x170 :: x171 :: x172 :: x173 :: x174 :: x175 :: x176 :: x177 :: x178 :: x179 :: x180 :: x181 :: x182 :: x183 :: x184 :: x185 :: x186 :: x187 :: x188 :: x189 :: x190 :: x191 :: x192 :: x193 :: x194 :: x195 :: x196 :: x197 :: x198 :: x199 :: x200 :: x201 :: x202 :: x203 :: x204 :: x205 :: x206 :: x207 :: x208 :: x209 :: x210 :: x211 :: x212 :: []), defers := [] } wq := by
  have HF := Lib.hid hF
  clear hF
  unfold tailO
  conv => arg 2; whnf
  go_upto_block 0 with fail
  go_cut [12, 13] (fun av _ wc => ∃ (ca : Option Addr) (cc : Nat) (W : List Pq), av = .slice ca 12 cc ∧ Fc w wc C b6 b9 p z ⟨aa, 12, ac⟩ ⟨ba, 12, bc⟩ ⟨ca, 12, cc⟩ O T W 12)
  case rest =>
    obtain ⟨ca, cc, W, rfl, hcw⟩ := hcut
    go_step
    exact ow15 w wc C hC b6 b9 p z xt xn wo nw cw HK HAs HSz aa ba ca ac bc cc O T W (hcw.done (by rw [hC]; decide)) _ _ _ _ _ _ _ _ _ _ _ _ _ _ _ _ _ _ _ _ _ _ _ _ _ _ _ _ _ _ _ _ _ _ _ _ _ _ _ _ _ _ _ _ _ _ _ _ _ _ _ _ _ _ _ _ _ _ _ _ _ _ _ _ _ _ _ _ _ _ _ _ _ _ _ _ _ _ _ _ _ _ _ _ _ _ _ _ _ _ _ _ _ _ _ _ _ _ _ _ _ _ _ _ _ _ _ _ _ _ _ _ _ _ _ _ _ _ _ _ _ _ _ _ _ _ _ _ _ _ _ _ _ _ _ _ _ _ _ _ _ _ _ _ _ _ _ _ _ _ _ _ _ _ _ _ _ _ _ _ _ _ _ _ _ _ _ _ _ _ _ _ _ _ _ _ _ _ _ _ _ _ _ _ _ _ _ _ _ _ _ _ _ _ _ _ _ _ _ _ _ _ _ _ _
  case first =>
    go_wp2_with fail
    go_loopw [12, 13] (fun av i wr => ∃ (j : Nat) (ca : Option Addr) (cc : Nat) (W : List Pq), j ≤ 12 ∧ i = .int .i64 (j : Nat) ∧ av = .slice ca j cc ∧ Fc w wr C b6 b9 p z ⟨aa, 12, ac⟩ ⟨ba, 12, bc⟩ ⟨ca, j, cc⟩ O T W j) (fun _ i _ => 12 - (intOf i).toNat)
    case atStart => exact ⟨0, none, 0, [], by omega, rfl, rfl, HF.out⟩
    case round =>
    obtain ⟨j, ca, cc, W, hj, rfl, rfl, hF⟩ := hrel
    rename World => wr
    clear HF
    have HF := Lib.hid hF
    clear hF
    by_cases hlt : j < 12
    · have hji : ((j : Nat) : Int) < 12 := by omega
      obtain ⟨q, hq⟩ : ∃ q, O[j]? = some q := ⟨_, List.getElem?_eq_getElem (by rw [HF.out.lO, hC]; exact hlt)⟩
      obtain ⟨r, hr⟩ : ∃ r, T[j]? = some r := ⟨_, List.getElem?_eq_getElem (by rw [HF.out.lT, hC]; exact hlt)⟩
      obtain ⟨g, off, eg, c0, c1, c2, c3⟩ := arr_at HF.out.o1 hq
      obtain ⟨g2, off2, eg2, d0, d1, d2, d3⟩ := arr_at HF.out.o2 hr
      have hce := ct_at HF.out.cO HF.out.cT hq hr
      have HCt := Lib.hid (show C[j]? = some q.ct by rw [← HF.out.cO, List.getElem?_map, hq]; rfl)
      have HOk := Lib.hid (HF.out.okO q (List.mem_of_getElem? hq))
      have HSm := Lib.hid (fun (v : World) (hv : Kp wr v) => same_pq v _ _ 24 q r ((HF.out.keep hv).pO hq) ((HF.out.keep hv).pT hr) (HF.out.okO q (List.mem_of_getElem? hq)) (HF.out.okT r (List.mem_of_getElem? hr)) (by decide) hce)
      unfold Pq.val at HSm
      have HCo := Lib.hid (fun (v : World) (hv : Kp wr v) => copied_pq v _ 24 q ((HF.out.keep hv).pO hq) (HF.out.okO q (List.mem_of_getElem? hq)) (by decide))
      rw [show q.val = .agg #[.string q.nm, .slice q.t0.ao q.t0.n q.t0.c, .slice q.t1.ao q.t1.n q.t1.c, .slice q.tl.ao q.tl.n q.tl.c] from rfl] at HCo
      simp only at eg eg2
      subst eg
      subst eg2
      clear hq hr hce
      go_upto_region 12 with fail
      refine any_start (by kernel_rfl) ?_
      refine any_take [0, 1, 2, 4, 5, 6] (by kernel_rfl) ?_
      simp only [opsAt, List.getElem?_toArray, List.getElem?_cons_zero, List.getElem?_cons_succ]
      repeat (go_big_quiet_step (fail))
      refine wpQuiet_nil ?_
      obtain ⟨wd, hwd⟩ : ∃ wd, wd = wr.drew := ⟨_, rfl⟩
      have hkd : Kp wr wd := hwd ▸ (⟨rfl, rfl, rfl, Nat.le_refl _, fun _ _ => rfl⟩ : Kp wr wr.drew)
      rw [← hwd]
      clear hwd
      replace c0 := hkd.cell c0
      replace c1 := hkd.cell c1
      replace c2 := hkd.cell c2
      replace c3 := hkd.cell c3
      replace d0 := hkd.cell d0
      replace d1 := hkd.cell d1
      replace d2 := hkd.cell d2
      replace d3 := hkd.cell d3
      have HSm2 := Lib.hid (HSm.out wd hkd)
      have HKd := Lib.hid hkd
      clear hkd HSm
      refine any_still [3, 7] (by kernel_rfl) ?_
      simp only [opsAt, List.getElem?_toArray, List.getElem?_cons_zero, List.getElem?_cons_succ]
      repeat (go_big_quiet_step (fail))
      refine wpQuiet_nil ?_
      refine any_one 8 (by kernel_rfl) ?_
      simp only [opsAt, List.getElem?_toArray, List.getElem?_cons_zero, List.getElem?_cons_succ]
      go_wp2_with (go_at_call 31; go_loud (refine HSm2.out.mono ?_); rintro e w5 ⟨rfl, hk5⟩; have HK5 := Lib.hid hk5; clear hk5)
      refine any_one 9 (by kernel_rfl) ?_
      simp only [opsAt, List.getElem?_toArray, List.getElem?_cons_zero, List.getElem?_cons_succ]
      go_wp2_with fail
      refine any_end (by kernel_rfl) ?_
      clear d0 d1 d2 d3
      replace c0 := HK5.out.cell c0
      replace c1 := HK5.out.cell c1
      replace c2 := HK5.out.cell c2
      replace c3 := HK5.out.cell c3
      have HK := Lib.hid (Kp.trans HKd.out HK5.out)
      have HC5 := Lib.hid (HCo.out w5 HK.out)
      have HF5 := Lib.hid (HF.out.keep HK.out)
      clear HCo HSm2 HKd HK5 HF HK
      go_wp2_with fail
      (with_reducible refine HC5.out.mono ?_)
      rintro e w6 ⟨hk6, q', rfl, hct, hok, hsp⟩
      have HK6 := Lib.hid hk6
      have HSp := Lib.hid hsp
      have HOq := Lib.hid hok
      rw [← hct] at HCt
      clear c0 c1 c2 c3 hk6 hsp hok hct HC5
      unfold Pq.val
      have hkn := Kp.new w6 (.cells #[.string q'.nm, .slice q'.t0.ao q'.t0.n q'.t0.c, .slice q'.t1.ao q'.t1.n q'.t1.c, .slice q'.tl.ao q'.tl.n q'.tl.c] 26)
      have hcs : Cs (w6.alloc (.cells #[.string q'.nm, .slice q'.t0.ao q'.t0.n q'.t0.c, .slice q'.t1.ao q'.t1.n q'.t1.c, .slice q'.tl.ao q'.tl.n q'.tl.c] 26)) (some ⟨w6.heap.size, 0, none⟩) (pqc q') := Cs.new w6 (pqc q') 26 (0, 0)
      have hown : OwV (w6.alloc (.cells #[.string q'.nm, .slice q'.t0.ao q'.t0.n q'.t0.c, .slice q'.t1.ao q'.t1.n q'.t1.c, .slice q'.tl.ao q'.tl.n q'.tl.c] 26)) w.heap.size 26 4 ⟨ca, j, cc⟩ (W.flatMap pqc) := ((HF5.out.keep (Kp.trans HK6.out hkn)).sep).head
      have hbs : w.heap.size ≤ (w6.alloc (.cells #[.string q'.nm, .slice q'.t0.ao q'.t0.n q'.t0.c, .slice q'.t1.ao q'.t1.n q'.t1.c, .slice q'.tl.ao q'.tl.n q'.tl.c] 26)).heap.size := (Kp.trans HF5.out.kp (Kp.trans HK6.out hkn)).size
      have hzs : (W ++ [q']).flatMap pqc = W.flatMap pqc ++ pqc q' := by rw [List.flatMap_append]; simp
      go_wp2_with (at_builtin; go_loud (refine wpList_apv rfl (.tmp 62) (.tmp 68) 53 rfl el53 w.heap.size rfl hown rfl (pqc q') rfl hcs (by simp [pqc, tvv, Value.oneCell']) (j + 1) rfl ((W ++ [q']).flatMap pqc) hzs (by omega) hbs ?_); intro ao7 c7 w7 ha; have HA := Lib.hid ha; clear ha)
      have HF7 := Lib.hid (HF5.out.add HK6.out HSp.out HOq.out HCt.out hkn HA.out)
      clear hkn hcs hown hbs hzs HA
      go_roundw
      case rel => exact ⟨j + 1, _, _, _, by omega, by go_num, rfl, HF7.out⟩
      case measure => simp [intOf]; omega
    · obtain rfl : j = 12 := by omega
      have hji : ¬ ((12 : Nat) : Int) < 12 := by omega
      rw [show ((12 : Nat) : Int) = 12 from rfl]
      go_wp2_with fail
      go_meet
      case rel => exact ⟨ca, cc, W, rfl, HF.out⟩
end Go.Proofs.YtkmejehhdjdlbaaGreatDoor

namespace Go.Proofs.YtkmejehhdjdlbaaGreatDoor
open Go.RowKit

theorem SepV.none {w : World} {B : Nat} {rs : List Rw} (h : SepV w B rs) : SepV w B (arrR ⟨none, 0, 0⟩ [] :: rs) :=
  ⟨fun r hr => by
    rcases List.mem_cons.1 hr with rfl | hr
    · exact .inl ⟨rfl, .inl ⟨rfl, rfl⟩⟩
    · exact h.own r hr, List.pairwise_cons.2 ⟨fun _ _ x hx _ => by simp [Rw.bl, arrR, blkL, blk] at hx, h.ap⟩⟩
theorem SepV.box (w : World) (q : Pq) : SepV (w.alloc (.cells #[.string q.nm, .slice q.t0.ao q.t0.n q.t0.c, .slice q.t1.ao q.t1.n q.t1.c, .slice q.tl.ao q.tl.n q.tl.c] 26)) w.heap.size [boxR w.heap.size q] :=
  ⟨fun r hr => by
    simp only [List.mem_singleton] at hr
    subst hr
    exact .inl (Own.fresh w 26 4 1 [.string q.nm, .slice q.t0.ao q.t0.n q.t0.c, .slice q.t1.ao q.t1.n q.t1.c, .slice q.tl.ao q.tl.n q.tl.c] rfl (by decide)), by simp⟩
/-- All rows together, when all has been asked. -/
theorem Fc.begin {w w1 w2 w3 w4 w5 w6 : World} {C : List Ct} {b6 b9 : Nat} {p z : Pq} {a1 a2 : Tv} {O T : List Pq} (k1 : Kp w w1) (s1 : SepV w1 w.heap.size [boxR b6 p]) (k2 : Kp w1 w2) (k3 : Kp w2 w3) (s3 : SepV w3 w2.heap.size z.rows) (k4 : Kp w3 w4) (s4 : SepV w4 w3.heap.size [boxR b9 z])
    (k5 : Kp w4 w5) (s5 : SepV w5 w4.heap.size (arrR a1 O :: O.flatMap Pq.rows)) (k6 : Kp w5 w6) (s6 : SepV w6 w5.heap.size (arrR a2 T :: T.flatMap Pq.rows)) (okO : ∀ q ∈ O, q.Ok 24) (okT : ∀ q ∈ T, q.Ok 24) (okz : z.Ok 2000) (cO : O.map Pq.ct = C) (cT : T.map Pq.ct = C) :
    Fc w w6 C b6 b9 p z a1 a2 ⟨none, 0, 0⟩ O T [] 0 := by
  have h2 := s1.kp k2
  have h3 := h2.join k3 s3 (Kp.trans k1 k2).size
  have h4 := h3.join k4 s4 (Kp.trans k1 (Kp.trans k2 k3)).size
  have h5 := h4.join k5 s5 (Kp.trans k1 (Kp.trans k2 (Kp.trans k3 k4))).size
  have h6 := h5.join k6 s6 (Kp.trans k1 (Kp.trans k2 (Kp.trans k3 (Kp.trans k4 k5)))).size
  refine ⟨Kp.trans k1 (Kp.trans k2 (Kp.trans k3 (Kp.trans k4 (Kp.trans k5 k6)))), (h6.perm ?_).none, okO, okT, by simp, okz, cO, cT, by simp⟩
  rw [show (O ++ (T ++ [z])).flatMap Pq.rows = O.flatMap Pq.rows ++ (T.flatMap Pq.rows ++ z.rows) by simp]
  generalize O.flatMap Pq.rows = RO
  generalize T.flatMap Pq.rows = RT
  generalize z.rows = RZ
  classical
  rw [List.perm_iff_count]
  intro r
  simp only [List.count_append, List.count_cons, List.count_nil]
  omega
attribute [local irreducible] tblK tblP tblQ Q.piecesB Q.tableB Q.tableL rowOf namesS ctP ctF ctM askC
set_option maxRecDepth 100000 in
set_option maxHeartbeats 16000000 in
theorem own_true (w : World) (E : Nat → Addr) (m : Int) (hE : Env w E m) (text name : ByteArray) (hname : name.size ≤ maxLen) (nm : ByteArray) (a0 a1 al : Option Addr) (n0 c0 n1 c1 nl cl : Nat) (b0 b1 : List Int) (ls : List Ln) (hnm : nm.size ≤ 9223372036854775807) (hP : PatI w a0 a1 al n0 n1 nl b0 b1 ls)
    (ao : Option Addr) (nw cw : Nat) (ss : List ByteArray) (hW : Strs w ao nw ss) (hz : ∀ s ∈ ss, s.size ≤ 281474976710656) :
    Calls Tryz.prog 13 #[.string text, .string name, patV nm a0 a1 al n0 c0 n1 c1 nl cl, .slice ao nw cw] w fun e w' => e = .returned (.bool true) ∧ Kp w w' := by
  obtain ⟨p, hp⟩ : ∃ p : Pq, p = ⟨nm, ⟨a0, n0, c0⟩, ⟨a1, n1, c1⟩, ⟨al, nl, cl⟩, [], b0, b1, ls⟩ := ⟨_, rfl⟩
  have hk1 := Kp.new w (.cells #[.string nm, .slice a0 n0 c0, .slice a1 n1 c1, .slice al nl cl] 26)
  have hF1 := Four.new w (.string nm) (.slice a0 n0 c0) (.slice a1 n1 c1) (.slice al nl cl) 26
  have hS1 : SepV (w.alloc (.cells #[.string nm, .slice a0 n0 c0, .slice a1 n1 c1, .slice al nl cl] 26)) w.heap.size [boxR w.heap.size p] := by subst hp; exact SepV.box w ⟨nm, ⟨a0, n0, c0⟩, ⟨a1, n1, c1⟩, ⟨al, nl, cl⟩, [], b0, b1, ls⟩
  have HMu := Lib.hid (much_any _ nm a0 a1 al n0 c0 n1 c1 nl cl b0 b1 ls hnm (hP.kp hk1))
  have HKn := Lib.hid (fun (v : World) (hv : Kp w v) => law_known v E m (hE.keep hv))
  have HE := Lib.hid hE
  have HPI := Lib.hid hP
  have HW := Lib.hid hW
  have Hz := Lib.hid hz
  have HS1 := Lib.hid hS1
  have HF1 := Lib.hid hF1
  have Hk1 := Lib.hid hk1
  have Hp := Lib.hid hp
  obtain ⟨y0, y1, y2, y3, _, _, _, _⟩ := hF1
  clear hE hP hW hz hk1 hS1 hp
  go_enter Tryz.func13, Tryz.ntmps13
  go_upto_region 1 with fail
  obtain ⟨b6, hb6⟩ : ∃ b6, b6 = w.heap.size := ⟨_, rfl⟩
  have HS2 := Lib.hid (show SepV _ w.heap.size [boxR b6 p] by rw [hb6]; exact HS1.out)
  rw [← hb6] at HF1 y0 y1 y2 y3 ⊢
  generalize w.alloc (.cells #[.string nm, .slice a0 n0 c0, .slice a1 n1 c1, .slice al nl cl] 26) = w1 at *
  clear hb6 HS1
  go_wp2_with fail
  (with_reducible refine HMu.out.mono ?_)
  rintro e w2 ⟨b, rfl, hk2, hb⟩
  have HK2 := Lib.hid hk2
  have HF2 := Lib.hid (HF1.out.kp hk2)
  have HKn2 := Lib.hid (HKn.out w2 (Kp.trans Hk1.out hk2))
  clear y0 y1 y2 y3 hk2 HF1 HMu
  cases b with
  | true =>
    clear hb
    go_wp2_with fail
    (with_reducible refine HKn2.out.mono ?_)
    rintro e w3 ⟨rfl, hk3⟩
    have HK3 := Lib.hid (Kp.trans Hk1.out (Kp.trans HK2.out hk3))
    clear hk3
    go_wp2_with fail
    go_ret
    exact ⟨rfl, HK3.out⟩
  | false =>
    have Hs := Lib.hid (hb rfl)
    clear hb
    by_cases h2 : 200 < nw
    · go_wp2_with fail
      (with_reducible refine HKn2.out.mono ?_)
      rintro e w3 ⟨rfl, hk3⟩
      have HK3 := Lib.hid (Kp.trans Hk1.out (Kp.trans HK2.out hk3))
      clear hk3
      go_wp2_with fail
      go_ret
      exact ⟨rfl, HK3.out⟩
    · have h2n : nw ≤ 200 := by omega
      have HCo := Lib.hid (copied_any w2 nm a0 a1 al n0 c0 n1 c1 nl cl b0 b1 ls (HPI.out.kp (Kp.trans Hk1.out HK2.out)) ⟨by decide, Hs.out.n0, Hs.out.n1, Hs.out.nl, Hs.out.ts⟩)
      obtain ⟨y0, y1, y2, y3, _, _, _, _⟩ := HF2.out
      clear HKn2
      go_wp2_with fail
      (with_reducible refine HCo.out.mono ?_)
      rintro e w3 ⟨hk3, t0, t1, tl, ts, rfl, hts, hsp⟩
      obtain ⟨z, hzq⟩ : ∃ z : Pq, z = ⟨nm, t0, t1, tl, ts, b0, b1, ls⟩ := ⟨_, rfl⟩
      have hlz : ls.length ≤ 2000 := by rw [HPI.out.il.1]; exact Hs.out.nl
      have HOz := Lib.hid (show z.Ok 2000 by subst hzq; exact ⟨hts, by show b0.length ≤ 2000; rw [HPI.out.i0.1]; exact Hs.out.n0, by show b1.length ≤ 2000; rw [HPI.out.i1.1]; exact Hs.out.n1, hlz, Hs.out.ts⟩)
      have HSz3 := Lib.hid (show SepV w3 w2.heap.size z.rows by subst hzq; exact hsp.view)
      have HCz := Lib.hid (show z.ct = p.ct by rw [hzq, Hp.out]; rfl)
      have hvz : (.agg #[.string nm, tvv t0, tvv t1, tvv tl] : Value) = .agg #[.string z.nm, .slice z.t0.ao z.t0.n z.t0.c, .slice z.t1.ao z.t1.n z.t1.c, .slice z.tl.ao z.tl.n z.tl.c] := by rw [hzq]; rfl
      rw [hvz]
      have HK3 := Lib.hid hk3
      have HF3 := Lib.hid (HF2.out.kp hk3)
      clear hvz hzq hts hsp hk3 HCo hlz y0 y1 y2 y3 HF2
      have hk4 := Kp.new w3 (.cells #[.string z.nm, .slice z.t0.ao z.t0.n z.t0.c, .slice z.t1.ao z.t1.n z.t1.c, .slice z.tl.ao z.tl.n z.tl.c] 26)
      have HS4 := Lib.hid (SepV.box w3 z)
      have HK4 := Lib.hid hk4
      have HF4 := Lib.hid (HF3.out.kp hk4)
      clear hk4 HF3
      go_upto_region 4 with fail
      obtain ⟨b9, hb9⟩ : ∃ b9, b9 = w3.heap.size := ⟨_, rfl⟩
      have HS5 := Lib.hid (show SepV _ w3.heap.size [boxR b9 z] by rw [hb9]; exact HS4.out)
      rw [← hb9]
      generalize w3.alloc (.cells #[.string z.nm, .slice z.t0.ao z.t0.n z.t0.c, .slice z.t1.ao z.t1.n z.t1.c, .slice z.tl.ao z.tl.n z.tl.c] 26) = w4 at *
      clear hb9 HS4
      have HKw4 := Lib.hid (Kp.trans Hk1.out (Kp.trans HK2.out (Kp.trans HK3.out HK4.out)))
      have hC := askC_length text.data.toList name.data.toList ⟨nm.data.toList, b0, b1, ls⟩ (wb ss)
      have HAs := Lib.hid (fun (v : World) (hv : Kp w v) => asked_any v E m (HE.out.keep hv) text name hname nm a0 a1 al n0 c0 n1 c1 nl cl b0 b1 ls (HPI.out.kp hv) Hs.out.wide ao nw cw ss (hv.strs HW.out) Hz.out h2n)
      generalize askC text.data.toList name.data.toList ⟨nm.data.toList, b0, b1, ls⟩ (wb ss) = C at *
      have HC := Lib.hid hC
      have HA4 := Lib.hid (HAs.out w4 HKw4.out)
      obtain ⟨y0, y1, y2, y3, _, _, _, _⟩ := HF4.out
      clear hC
      go_wp2_with fail
      (with_reducible refine HA4.out.mono ?_)
      rintro e w5 ⟨hk5, aa, ac, O, rfl, hSO, hcO, hoO⟩
      have HK5 := Lib.hid hk5
      have HSO := Lib.hid hSO
      have HcO := Lib.hid hcO
      have HoO := Lib.hid hoO
      have HA5 := Lib.hid (HAs.out w5 (Kp.trans HKw4.out hk5))
      obtain ⟨y0, y1, y2, y3, _, _, _, _⟩ := HF4.out.kp hk5
      clear hk5 hSO hcO hoO HA4
      go_wp2_with fail
      (with_reducible refine HA5.out.mono ?_)
      rintro e w6 ⟨hk6, ba, bc, T, rfl, hST, hcT, hoT⟩
      have HFc := Lib.hid (Fc.begin Hk1.out HS2.out HK2.out HK3.out HSz3.out HK4.out HS5.out HK5.out HSO.out hk6 hST HoO.out hoT HOz.out HcO.out hcT)
      have HSz := Lib.hid (fun (v : World) (B' : Nat) (hv : Kp w v) (hS : SepV v B' z.rows) => show Calls Tryz.prog 31 #[p.val, z.val] v fun e w' => e = .returned (.bool true) ∧ Kp v w' by
        have hz2 := hS.pat HOz.out (by decide)
        have hcz := HCz.out
        have hpp := HPI.out.kp hv
        rw [Hp.out] at hcz ⊢
        unfold Pq.ct at hcz
        simp only [Prod.mk.injEq] at hcz
        obtain ⟨e1, e2, e3, e4⟩ := hcz
        rw [e2, e3, e4] at hz2
        unfold Pq.val
        rw [e1]
        exact same_yes v nm a0 a1 al z.t0.ao z.t1.ao z.tl.ao n0 c0 n1 c1 nl cl z.t0.n z.t0.c z.t1.n z.t1.c z.tl.n z.tl.c b0 b1 ls hpp hz2)
      have HAp := Lib.hid (fun (v : World) (hv : Kp w v) => show Calls Tryz.prog 43 #[.string text, .string name, p.val, .slice ao nw cw] v _ from by
        rw [Hp.out]
        exact HAs.out v hv)
      clear hk6 hST hcT hoT HA5 y0 y1 y2 y3
      go_upto_region 8 with fail
      go_step
      go_step
      go_step
      go_step
      go_step
      go_step
      go_step
      exact ow8 w w6 C HC.out b6 b9 p z text name ao nw cw HKn.out HAp.out HSz.out aa ba ac bc O T HFc.out _ _ _ _ _ _ _ _ _ _ _ _ _ _ _ _ _ _ _ _ _ _ _ _ _ _ _ _ _ _ _ _ _ _ _ _ _ _ _ _ _ _ _ _ _ _ _ _ _ _ _ _ _ _ _ _ _ _ _ _ _ _ _ _ _ _ _ _ _ _ _ _ _ _ _ _ _ _ _ _ _ _ _ _ _ _ _ _ _ _ _ _ _ _ _ _ _ _ _ _ _ _ _ _ _ _ _ _ _ _ _ _ _ _ _ _ _ _ _ _ _ _ _ _ _ _ _ _ _ _ _ _ _ _ _ _ _ _ _ _ _ _ _ _ _ _ _ _ _ _ _ _ _ _ _ _ _ _ _ _ _ _ _ _ _ _ _ _ _ _ _ _ _ _ _ _ _ _ _ _ _ _ _ _ _ _ _ _ _ _ _ _ _ _ _ _ _ _ _ _ _ _ _ _ _
end Go.Proofs.YtkmejehhdjdlbaaGreatDoor
