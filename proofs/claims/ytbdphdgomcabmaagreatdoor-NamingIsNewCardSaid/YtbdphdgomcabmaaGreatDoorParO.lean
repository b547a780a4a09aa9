/- A protocol's name, read by the program: what is answered lies in lists of the call's own. Conditions: the variables lie there (Env); the text's length. -/
import Derived.Test.YtbdphdgomcabmaaGreatDoorPar
namespace Go.Proofs.YtbdphdgomcabmaaGreatDoor
open Go.RowKit

/-- A pattern of the call's own, some message of which may be dropped; it has messages, and nothing is long. -/
def OwP (w : World) (B : Nat) (t0 t1 tl : Tv) : Prop := ∃ (tf : Tv) (td ts : List Tv) (D ls : List Ln) (b0 b1 : List Int), tl = subT tf D.length ∧ DrS w B t0 t1 tf td ts D ls b0 b1 ∧ 0 < ls.length ∧ ls.length ≤ 24 ∧ (∀ l ∈ ls, l.2.length ≤ 24) ∧ b0.length ≤ 24 ∧ b1.length ≤ 24
theorem OwP.base {w : World} {B B' : Nat} {t0 t1 tl : Tv} (h : OwP w B t0 t1 tl) (hB : B' ≤ B) : OwP w B' t0 t1 tl := by
  obtain ⟨tf, td, ts, D, ls, b0, b1, h1, h2, h3⟩ := h
  exact ⟨tf, td, ts, D, ls, b0, b1, h1, h2.base hB, h3⟩
/-- What is answered: a pattern in lists of the call's own, or a mistake. -/
def ParO (w : World) (E : Nat → Addr) (e : Ending) (w' : World) : Prop := Kp w w' ∧ ((∃ (nm : ByteArray) (t0 t1 tl : Tv), e = .returned (.tuple #[.agg #[.string nm, tvv t0, tvv t1, tvv tl], .nilIface]) ∧ OwP w' w.heap.size t0 t1 tl) ∨ e = .returned (.tuple #[zeroP, .iface 197 (.pointer (some (E 13)))]))
theorem ParO.no {w w' : World} {E : Nat → Addr} (hk : Kp w w') : ParO w E (.returned (.tuple #[zeroP, .iface 197 (.pointer (some (E 13)))])) w' := ⟨hk, .inr rfl⟩
theorem ParO.yes {w w' : World} {E : Nat → Addr} {t0 t1 tl : Tv} {nm : ByteArray} (hk : Kp w w') (h : OwP w' w.heap.size t0 t1 tl) : ParO w E (.returned (.tuple #[.agg #[.string nm, tvv t0, tvv t1, tvv tl], .nilIface])) w' := ⟨hk, .inl ⟨nm, t0, t1, tl, rfl, h⟩⟩
theorem find_so (w : World) (E : Nat → Addr) (m : Int) (hE : Env w E m) (s : ByteArray) (hs : s.size ≤ maxLen) : Calls Tryz.prog 16 #[.string s] w fun e w' => Kp w w' ∧ ∃ t0 t1 tl : Tv,
    e = .returned (.tuple #[.agg #[.string (fnd s.data.toList).1, tvv t0, tvv t1, tvv tl], .bool (fnd s.data.toList).2.2.2.2]) ∧ ∀ X w'', Fr X w' w'' → (∀ x ∈ X, x < w.heap.size) → PatI w'' t0.ao t1.ao tl.ao t0.n t1.n tl.n (fnd s.data.toList).2.1 (fnd s.data.toList).2.2.1 (fnd s.data.toList).2.2.2.1 ∧
      ((fnd s.data.toList).2.2.2.2 = true → OwP w'' w.heap.size t0 t1 tl) := by
  refine (find_any s m E (E 8) w hs hE.mx hE.errs hE.c5).mono ?_
  rintro e w' ⟨hk, h⟩
  refine ⟨hk, ?_⟩
  cases hq : rowOf s.data.toList with
  | none =>
    rw [hq] at h
    rw [fnd_none hq]
    exact ⟨nilT, nilT, nilT, h, fun X w'' _ _ => ⟨PatI.none w'', fun q => by cases q⟩⟩
  | some y =>
    rw [hq] at h
    rw [fnd_some hq]
    obtain ⟨t0, t1, tl, ts, he, hP⟩ := h
    have hs := row_small hq
    have hr := (row_s hq).1
    refine ⟨t0, t1, tl, he, fun X w'' hf hX => ?_⟩
    have hP' := hP.fr hf (fun x hx => .inl (hX x hx))
    refine ⟨hP'.patI hs.1 hs.2, fun _ => ⟨tl, [], ts, [], y.2.2.1, y.2.1.1, y.2.1.2, rfl, ⟨rfl, by simp, hP'.len, hP'.sep⟩, ?_, by have := hr.ls; omega, fun l hl => by have := hr.ts l hl; omega, by have := hr.b0; omega, by have := hr.b1; omega⟩⟩
    exact List.length_pos_iff.2 (code0 hr.ck).2.2.1
theorem mod_so (w : World) (E : Nat → Addr) (m : Int) (hE : Env w E m) (nm : ByteArray) (a0 a1 al : Option Addr) (n0 c0 n1 c1 nl cl : Nat) (b0 b1 : List Int) (ls : List Ln) (hP : PatI w a0 a1 al n0 n1 nl b0 b1 ls) (hs : ShortP nm n0 n1 nl ls)
    (ao : Option Addr) (nw cw : Nat) (ss : List ByteArray) (hW : Strs w ao nw ss) (hz : ∀ s ∈ ss, s.size ≤ 281474976710656) (hn : nw ≤ 200) :
    Calls Tryz.prog 17 #[patV nm a0 a1 al n0 c0 n1 c1 nl cl, .slice ao nw cw] w fun e w' => Kp w w' ∧ ∃ t0 t1 tl : Tv,
      e = .returned (.tuple #[.agg #[.string (mdf ⟨nm.data.toList, b0, b1, ls⟩ (wb ss)).1, tvv t0, tvv t1, tvv tl], errV E (mdf ⟨nm.data.toList, b0, b1, ls⟩ (wb ss)).2.2.2.2]) ∧
      ∀ X w'', Fr X w' w'' → (∀ x ∈ X, x < w.heap.size) → (mdf ⟨nm.data.toList, b0, b1, ls⟩ (wb ss)).2.2.2.2 = 0 → OwP w'' w.heap.size t0 t1 tl := by
  refine (modify_wide w E m hE nm a0 a1 al n0 c0 n1 c1 nl cl b0 b1 ls hP hs.wide ao nw cw ss hW hz hn).mono ?_
  rintro e w' ⟨hk, h⟩
  refine ⟨hk, ?_⟩
  rw [Q.mod_eq srtI_srt] at h
  have hc := modR_code ⟨nm.data.toList, b0, b1, ls⟩ (wb ss)
  have hok : ∀ q c, Q.modR ⟨nm.data.toList, b0, b1, ls⟩ (wb ss) = (some q, c) → q.code = 0 := fun q c hq => by
    unfold Q.modR at hq
    split at hq
    · cases hq
    · cases hg : Q.goR 0 0 ⟨nm.data.toList, b0, b1, ls⟩ (wb ss) with
      | none => rw [hg] at hq; cases hq
      | some q' =>
        rw [hg] at hq
        simp only at hq
        split at hq
        · next h0 => cases hq; exact h0
        · cases hq
  unfold mdf
  generalize Q.modR ⟨nm.data.toList, b0, b1, ls⟩ (wb ss) = x at h hc hok
  obtain ⟨q, c⟩ := x
  cases q with
  | none => exact ⟨nilT, nilT, nilT, by rw [h, errV_ptr E hc.1]; rfl, fun _ w'' _ _ q => absurd q hc.1⟩
  | some q =>
    obtain ⟨t0, t1, tf, td, ts, D, he, hd, h1, hl, hS⟩ := h
    obtain ⟨k1, k2, k3, k4, k5⟩ := code0 (hok q c rfl)
    have o1 := okB_len k1
    have o2 := okB_len k2
    exact ⟨t0, t1, subT tf D.length, by rw [he, errV_nil], fun X w'' hF hX _ => ⟨tf, td, ts, D, q.ls, q.b0, q.b1, rfl, (DrS.mk hd h1 hl hS).fr hF (fun x hx => .inl (hX x hx)), List.length_pos_iff.2 k3, k4, fun l hl => (k5 l hl).2.2.1, by omega, by omega⟩⟩
set_option maxRecDepth 100000 in
set_option maxHeartbeats 16000000 in
theorem parseO_any (w : World) (E : Nat → Addr) (m : Int) (hE : Env w E m) (s : ByteArray) : Calls Tryz.prog 11 #[.string s] w (ParO w E) := by
  have hkA := Kp.new w (.cells #[.string ⟨#[]⟩, .slice none 0 0, .slice none 0 0, .slice none 0 0] 26)
  have hZ := Four.new w (.string ⟨#[]⟩) (.slice none 0 0) (.slice none 0 0) (.slice none 0 0) 26
  have hw1 : 0 < w.heap.size := World.block_lt_of_cell? w _ hE.c13
  have HE := Lib.hid (hE.keep hkA)
  clear hE
  go_enter Tryz.func11, Tryz.ntmps11
  go_upto_region 1 with fail
  obtain ⟨bz, hbz⟩ : ∃ bz, bz = w.heap.size := ⟨_, rfl⟩
  rw [← hbz] at hZ ⊢
  generalize w.alloc (.cells #[.string ⟨#[]⟩, .slice none 0 0, .slice none 0 0, .slice none 0 0] 26) = w1 at *
  have hbz2 : w.heap.size ≤ bz := by omega
  have HK0 := Lib.hid hkA
  have HZ := Lib.hid hZ
  clear hkA hZ hbz
  by_cases h255 : 255 < s.size
  · have h255I : (255 : Int) < (s.size : Nat) := by omega
    go_upto_region 2 with fail
    refine anyP_start (fun w => w.cell? ⟨0, 0, none⟩ = some (.iface 197 (.pointer (some (E 13))))) 3 (fun _ => True) (fun _ _ => False) (by kernel_rfl) (fun _ _ _ _ h => h.elim) ?_
    obtain ⟨wd, hwd⟩ : ∃ wd, wd = w1.drew := ⟨_, rfl⟩
    have hkd : Kp w1 wd := hwd ▸ (⟨rfl, rfl, rfl, Nat.le_refl _, fun _ _ => rfl⟩ : Kp w1 w1.drew)
    rw [← hwd]
    clear hwd
    have hkx := Kp.trans (Kp.refl w1) hkd
    have hTd := hkx.cell HE.out.c13
    obtain ⟨wf2, hwf2, hF2, hPf2⟩ := (HZ.out.kp hkx).set (.string ⟨#[]⟩) (.slice none 0 0) (.slice none 0 0) (.slice none 0 0)
    obtain ⟨y0, y1, y2, y3, z0, z1, z2, z3⟩ := HZ.out.kp hkx
    obtain ⟨r0, r1, r2, r3, _, _, _, _⟩ := hPf2
    have Hwf2 := Lib.hid hwf2
    have HTf := Lib.hid (hF2.cell hTd (by simp; omega))
    have HKf := Lib.hid (kp_step' (Kp.trans HK0.out hkx) hF2 (fun j hj => by simp at hj; omega))
    clear hwf2 hF2 hkd hkx
    refine anyT_take puts_true [0] (by kernel_rfl) hTd ?_
    simp only [opsAt, List.getElem?_toArray, List.getElem?_cons_zero]
    repeat (go_big_quiet_step (fail))
    refine wpQuiet_nil ?_
    refine anyT_load puts_true 1 16 (.iface 197 (.pointer (some (E 13)))) rfl rfl (by kernel_rfl) hTd (fun w h => exec_load32 h rfl rfl) ?_
    simp only [Act.put, List.setIfInBounds_toArray, List.set_cons_zero, List.set_cons_succ]
    refine anyP_one 2 (by kernel_rfl) ?_
    simp only [opsAt, List.getElem?_toArray, List.getElem?_cons_zero, List.getElem?_cons_succ]
    clear hTd
    go_wp2_with fail
    rw [← Hwf2.out]
    refine ⟨fun _ => HTf.out, ?_⟩
    refine anyP_one 3 (by kernel_rfl) ?_
    simp only [opsAt, List.getElem?_toArray, List.getElem?_cons_zero, List.getElem?_cons_succ]
    clear y0 y1 y2 y3 z0 z1 z2 z3
    go_wp2_with fail
    refine ⟨fun h => absurd rfl h, ?_⟩
    refine anyP_end (by kernel_rfl) ?_
    go_wp2_with fail
    show bodyPost Tryz.prog Tryz.f11 (ParO w E) .ret _ _
    refine bodyPost_ret (v := .tuple #[zeroP, (.iface 197 (.pointer (some (E 13))))]) (by simp [results, Tryz.results11, go_sem, r0, r1, r2, r3]) rfl ?_
    exact ParO.no HKf.out
  · have h255I : ¬ (255 : Int) < (s.size : Nat) := by omega
    have h255N : s.size ≤ 255 := by omega
    have HCp := Lib.hid (Tryz.strings_CutPrefix s ⟨#[78, 111, 105, 115, 101, 95]⟩ w1)
    obtain ⟨r, hr⟩ : ∃ r : ByteArray, r = ⟨(Lib.trimPrefix s.data.toList [78, 111, 105, 115, 101, 95]).toArray⟩ := ⟨_, rfl⟩
    rw [show (⟨(Lib.trimPrefix s.data.toList (⟨#[78, 111, 105, 115, 101, 95]⟩ : ByteArray).data.toList).toArray⟩ : ByteArray) = r from hr.symm] at HCp
    have Hr := Lib.hid (show r.data.toList = Lib.trimPrefix s.data.toList Q.headN by rw [hr]; rfl)
    clear hr
    cases hp : Lib.hasPrefix s.data.toList Q.headN with
    | false =>
      rw [show Lib.hasPrefix s.data.toList (⟨#[78, 111, 105, 115, 101, 95]⟩ : ByteArray).data.toList = false from hp] at HCp
      have Hno := Lib.hid (parse_none (full_pre hp))
      clear hp
      go_wp2_with fail
      (with_reducible refine HCp.out.mono ?_)
      rintro e wq ⟨rfl, rfl⟩
      clear HCp
      go_upto_region 5 with fail
      refine anyP_start (fun w => w.cell? ⟨0, 0, none⟩ = some (.iface 197 (.pointer (some (E 13))))) 3 (fun _ => True) (fun _ _ => False) (by kernel_rfl) (fun _ _ _ _ h => h.elim) ?_
      obtain ⟨wd, hwd⟩ : ∃ wd, wd = wq.drew := ⟨_, rfl⟩
      have hkd : Kp wq wd := hwd ▸ (⟨rfl, rfl, rfl, Nat.le_refl _, fun _ _ => rfl⟩ : Kp wq wq.drew)
      rw [← hwd]
      clear hwd
      have hkx := Kp.trans (Kp.refl wq) hkd
      have hTd := hkx.cell HE.out.c13
      obtain ⟨wf2, hwf2, hF2, hPf2⟩ := (HZ.out.kp hkx).set (.string ⟨#[]⟩) (.slice none 0 0) (.slice none 0 0) (.slice none 0 0)
      obtain ⟨y0, y1, y2, y3, z0, z1, z2, z3⟩ := HZ.out.kp hkx
      obtain ⟨r0, r1, r2, r3, _, _, _, _⟩ := hPf2
      have Hwf2 := Lib.hid hwf2
      have HTf := Lib.hid (hF2.cell hTd (by simp; omega))
      have HKf := Lib.hid (kp_step' (Kp.trans HK0.out hkx) hF2 (fun j hj => by simp at hj; omega))
      clear hwf2 hF2 hkd hkx
      refine anyT_take puts_true [0] (by kernel_rfl) hTd ?_
      simp only [opsAt, List.getElem?_toArray, List.getElem?_cons_zero]
      repeat (go_big_quiet_step (fail))
      refine wpQuiet_nil ?_
      refine anyT_load puts_true 1 25 (.iface 197 (.pointer (some (E 13)))) rfl rfl (by kernel_rfl) hTd (fun w h => exec_load32 h rfl rfl) ?_
      simp only [Act.put, List.setIfInBounds_toArray, List.set_cons_zero, List.set_cons_succ]
      refine anyP_one 2 (by kernel_rfl) ?_
      simp only [opsAt, List.getElem?_toArray, List.getElem?_cons_zero, List.getElem?_cons_succ]
      clear hTd
      go_wp2_with fail
      rw [← Hwf2.out]
      refine ⟨fun _ => HTf.out, ?_⟩
      refine anyP_one 3 (by kernel_rfl) ?_
      simp only [opsAt, List.getElem?_toArray, List.getElem?_cons_zero, List.getElem?_cons_succ]
      clear y0 y1 y2 y3 z0 z1 z2 z3
      go_wp2_with fail
      refine ⟨fun h => absurd rfl h, ?_⟩
      refine anyP_end (by kernel_rfl) ?_
      go_wp2_with fail
      show bodyPost Tryz.prog Tryz.f11 (ParO w E) .ret _ _
      refine bodyPost_ret (v := .tuple #[zeroP, (.iface 197 (.pointer (some (E 13))))]) (by simp [results, Tryz.results11, go_sem, r0, r1, r2, r3]) rfl ?_
      exact ParO.no HKf.out
    | true =>
      rw [show Lib.hasPrefix s.data.toList (⟨#[78, 111, 105, 115, 101, 95]⟩ : ByteArray).data.toList = true from hp] at HCp
      have Hp := Lib.hid hp
      clear hp
      have hrs : r.size ≤ 255 := by rw [Lib.size_eq, Hr.out]; exact trimP_len h255N
      go_wp2_with fail
      (with_reducible refine HCp.out.mono ?_)
      rintro e wq ⟨rfl, rfl⟩
      clear HCp
      have HCs := Lib.hid (Tryz.strings_CutSuffix r ⟨#[95, 50, 53, 53, 49, 57, 95, 67, 104, 97, 67, 104, 97, 80, 111, 108, 121, 95, 66, 76, 65, 75, 69, 50, 115]⟩ wq (by omega))
      obtain ⟨f, hf⟩ : ∃ f : ByteArray, f = ⟨(Lib.trimSuffix r.data.toList [95, 50, 53, 53, 49, 57, 95, 67, 104, 97, 67, 104, 97, 80, 111, 108, 121, 95, 66, 76, 65, 75, 69, 50, 115]).toArray⟩ := ⟨_, rfl⟩
      rw [show (⟨(Lib.trimSuffix r.data.toList (⟨#[95, 50, 53, 53, 49, 57, 95, 67, 104, 97, 67, 104, 97, 80, 111, 108, 121, 95, 66, 76, 65, 75, 69, 50, 115]⟩ : ByteArray).data.toList).toArray⟩ : ByteArray) = f from hf.symm] at HCs
      have Hfd := Lib.hid (show f.data.toList = Lib.trimSuffix r.data.toList Q.tailN by rw [hf]; rfl)
      clear hf
      cases hp : Lib.hasSuffix r.data.toList Q.tailN with
      | false =>
        rw [show Lib.hasSuffix r.data.toList (⟨#[95, 50, 53, 53, 49, 57, 95, 67, 104, 97, 67, 104, 97, 80, 111, 108, 121, 95, 66, 76, 65, 75, 69, 50, 115]⟩ : ByteArray).data.toList = false from hp] at HCs
        have Hno := Lib.hid (parse_none (full_suf Hp.out (Hr.out ▸ hp)))
        clear hp
        go_wp2_with fail
        (with_reducible refine HCs.out.mono ?_)
        rintro e wq2 ⟨rfl, rfl⟩
        clear HCs
        go_upto_region 8 with fail
        refine anyP_start (fun w => w.cell? ⟨0, 0, none⟩ = some (.iface 197 (.pointer (some (E 13))))) 3 (fun _ => True) (fun _ _ => False) (by kernel_rfl) (fun _ _ _ _ h => h.elim) ?_
        obtain ⟨wd, hwd⟩ : ∃ wd, wd = wq2.drew := ⟨_, rfl⟩
        have hkd : Kp wq2 wd := hwd ▸ (⟨rfl, rfl, rfl, Nat.le_refl _, fun _ _ => rfl⟩ : Kp wq2 wq2.drew)
        rw [← hwd]
        clear hwd
        have hkx := Kp.trans (Kp.refl wq2) hkd
        have hTd := hkx.cell HE.out.c13
        obtain ⟨wf2, hwf2, hF2, hPf2⟩ := (HZ.out.kp hkx).set (.string ⟨#[]⟩) (.slice none 0 0) (.slice none 0 0) (.slice none 0 0)
        obtain ⟨y0, y1, y2, y3, z0, z1, z2, z3⟩ := HZ.out.kp hkx
        obtain ⟨r0, r1, r2, r3, _, _, _, _⟩ := hPf2
        have Hwf2 := Lib.hid hwf2
        have HTf := Lib.hid (hF2.cell hTd (by simp; omega))
        have HKf := Lib.hid (kp_step' (Kp.trans HK0.out hkx) hF2 (fun j hj => by simp at hj; omega))
        clear hwf2 hF2 hkd hkx
        refine anyT_take puts_true [0] (by kernel_rfl) hTd ?_
        simp only [opsAt, List.getElem?_toArray, List.getElem?_cons_zero]
        repeat (go_big_quiet_step (fail))
        refine wpQuiet_nil ?_
        refine anyT_load puts_true 1 34 (.iface 197 (.pointer (some (E 13)))) rfl rfl (by kernel_rfl) hTd (fun w h => exec_load32 h rfl rfl) ?_
        simp only [Act.put, List.setIfInBounds_toArray, List.set_cons_zero, List.set_cons_succ]
        refine anyP_one 2 (by kernel_rfl) ?_
        simp only [opsAt, List.getElem?_toArray, List.getElem?_cons_zero, List.getElem?_cons_succ]
        clear hTd
        go_wp2_with fail
        rw [← Hwf2.out]
        refine ⟨fun _ => HTf.out, ?_⟩
        refine anyP_one 3 (by kernel_rfl) ?_
        simp only [opsAt, List.getElem?_toArray, List.getElem?_cons_zero, List.getElem?_cons_succ]
        clear y0 y1 y2 y3 z0 z1 z2 z3
        go_wp2_with fail
        refine ⟨fun h => absurd rfl h, ?_⟩
        refine anyP_end (by kernel_rfl) ?_
        go_wp2_with fail
        show bodyPost Tryz.prog Tryz.f11 (ParO w E) .ret _ _
        refine bodyPost_ret (v := .tuple #[zeroP, (.iface 197 (.pointer (some (E 13))))]) (by simp [results, Tryz.results11, go_sem, r0, r1, r2, r3]) rfl ?_
        exact ParO.no HKf.out
      | true =>
        rw [show Lib.hasSuffix r.data.toList (⟨#[95, 50, 53, 53, 49, 57, 95, 67, 104, 97, 67, 104, 97, 80, 111, 108, 121, 95, 66, 76, 65, 75, 69, 50, 115]⟩ : ByteArray).data.toList = true from hp] at HCs
        have Hf := Lib.hid (show Q.fullN s.data.toList = some f.data.toList by rw [Hfd.out]; exact full_yes (by rw [← Lib.size_eq]; exact h255N) Hp.out Hr.out hp)
        clear hp
        have hfs : f.size ≤ 255 := by rw [Lib.size_eq, Hfd.out]; exact trimS_len hrs
        go_wp2_with fail
        (with_reducible refine HCs.out.mono ?_)
        rintro e wq2 ⟨rfl, rfl⟩
        clear HCs
        have HSp := Lib.hid (splitN_any wq2 f (by omega))
        unfold SpPost at HSp
        cases hb : Q.behind (f.data.toList.dropWhile Q.upB) with
        | none =>
          rw [hb] at HSp
          have Hb := Lib.hid hb
          clear hb
          go_wp2_with fail
          (with_reducible refine HSp.out.mono ?_)
          rintro e w3 ⟨hk3, rfl⟩
          have HK3 := Lib.hid hk3
          clear hk3 HSp
          go_upto_region 11 with fail
          refine anyP_start (fun w => w.cell? ⟨0, 0, none⟩ = some (.iface 197 (.pointer (some (E 13))))) 3 (fun _ => True) (fun _ _ => False) (by kernel_rfl) (fun _ _ _ _ h => h.elim) ?_
          obtain ⟨wd, hwd⟩ : ∃ wd, wd = w3.drew := ⟨_, rfl⟩
          have hkd : Kp w3 wd := hwd ▸ (⟨rfl, rfl, rfl, Nat.le_refl _, fun _ _ => rfl⟩ : Kp w3 w3.drew)
          rw [← hwd]
          clear hwd
          have hkx := Kp.trans HK3.out hkd
          have hTd := hkx.cell HE.out.c13
          obtain ⟨wf2, hwf2, hF2, hPf2⟩ := (HZ.out.kp hkx).set (.string ⟨#[]⟩) (.slice none 0 0) (.slice none 0 0) (.slice none 0 0)
          obtain ⟨y0, y1, y2, y3, z0, z1, z2, z3⟩ := HZ.out.kp hkx
          obtain ⟨r0, r1, r2, r3, _, _, _, _⟩ := hPf2
          have Hwf2 := Lib.hid hwf2
          have HTf := Lib.hid (hF2.cell hTd (by simp; omega))
          have HKf := Lib.hid (kp_step' (Kp.trans HK0.out hkx) hF2 (fun j hj => by simp at hj; omega))
          clear hwf2 hF2 hkd hkx
          refine anyT_take puts_true [0] (by kernel_rfl) hTd ?_
          simp only [opsAt, List.getElem?_toArray, List.getElem?_cons_zero]
          repeat (go_big_quiet_step (fail))
          refine wpQuiet_nil ?_
          refine anyT_load puts_true 1 44 (.iface 197 (.pointer (some (E 13)))) rfl rfl (by kernel_rfl) hTd (fun w h => exec_load32 h rfl rfl) ?_
          simp only [Act.put, List.setIfInBounds_toArray, List.set_cons_zero, List.set_cons_succ]
          refine anyP_one 2 (by kernel_rfl) ?_
          simp only [opsAt, List.getElem?_toArray, List.getElem?_cons_zero, List.getElem?_cons_succ]
          clear hTd
          go_wp2_with fail
          rw [← Hwf2.out]
          refine ⟨fun _ => HTf.out, ?_⟩
          refine anyP_one 3 (by kernel_rfl) ?_
          simp only [opsAt, List.getElem?_toArray, List.getElem?_cons_zero, List.getElem?_cons_succ]
          clear y0 y1 y2 y3 z0 z1 z2 z3
          go_wp2_with fail
          refine ⟨fun h => absurd rfl h, ?_⟩
          refine anyP_end (by kernel_rfl) ?_
          go_wp2_with fail
          show bodyPost Tryz.prog Tryz.f11 (ParO w E) .ret _ _
          refine bodyPost_ret (v := .tuple #[zeroP, (.iface 197 (.pointer (some (E 13))))]) (by simp [results, Tryz.results11, go_sem, r0, r1, r2, r3]) rfl ?_
          exact ParO.no HKf.out
        | some l =>
          rw [hb] at HSp
          have Hb := Lib.hid hb
          clear hb
          go_wp2_with fail
          (with_reducible refine HSp.out.mono ?_)
          rintro e w3 ⟨hk3, b, ws, wo, wn, wcp, rfl, hbd, hwl, hW⟩
          have HK3 := Lib.hid hk3
          have Hbd := Lib.hid hbd
          have Hwl := Lib.hid hwl
          have HWs := Lib.hid hW
          have hbsz : b.size ≤ 255 := by rw [Lib.size_eq, hbd]; have h1 := (List.takeWhile_sublist Q.upB (l := f.data.toList)).length_le; have h2 := Lib.size_eq f; omega
          clear hk3 HSp hbd hwl hW
          have HW3 := Lib.hid (Kp.trans HK0.out HK3.out).size
          have HFi := Lib.hid (find_so w3 E m (HE.out.keep HK3.out) b (by unfold maxLen; omega))
          rw [Hbd.out] at HFi
          obtain ⟨X, hX⟩ : ∃ X, X = fnd (f.data.toList.takeWhile Q.upB) := ⟨_, rfl⟩
          rw [← hX] at HFi
          obtain ⟨pn, p0, p1, pl, has⟩ := X
          simp only at HFi
          have HX := Lib.hid hX
          clear hX
          have hbz3 : bz < w3.heap.size := by have := (HZ.out.kp HK3.out).lt; exact this
          go_wp2_with fail
          (with_reducible refine HFi.out.mono ?_)
          rintro e w4 ⟨hk4, t0, t1, tl, rfl, hP4⟩
          unfold tvv
          have hkq := Kp.new w4 (.cells #[.string pn, .slice t0.ao t0.n t0.c, .slice t1.ao t1.n t1.c, .slice tl.ao tl.n tl.c] 26)
          have HQ5 := Lib.hid (Four.new w4 (.string pn) (.slice t0.ao t0.n t0.c) (.slice t1.ao t1.n t1.c) (.slice tl.ao tl.n tl.c) 26)
          have HK5 := Lib.hid (Kp.trans HK3.out (Kp.trans hk4 hkq))
          have HP5 := Lib.hid (fun (w'' : World) (h : Fr [bz] (w4.alloc (.cells #[.string pn, .slice t0.ao t0.n t0.c, .slice t1.ao t1.n t1.c, .slice tl.ao tl.n tl.c] 26)) w'') => hP4 [bz] w'' (((Fr.of_kp hkq).mono (by simp)).trans h) (by simpa using hbz3))
          have HW := Lib.hid (Strs.kp HWs.out (Kp.trans hk4 hkq))
          clear hk4 hkq hP4 HFi hbz3
          go_upto_region 13 with fail
          generalize w4.alloc (.cells #[.string pn, .slice t0.ao t0.n t0.c, .slice t1.ao t1.n t1.c, .slice tl.ao tl.n tl.c] 26) = w5 at *
          generalize w4.heap.size = bq at *
          cases hr : rowOf (f.data.toList.takeWhile Q.upB) with
          | none =>
            have hx := HX.out
            rw [fnd_none hr] at hx
            obtain rfl : has = false := congrArg (fun z => z.2.2.2.2) hx
            have Hr := Lib.hid hr
            clear hx hr
            go_upto_region 14 with fail
            refine anyP_start (fun w => w.cell? ⟨0, 0, none⟩ = some (.iface 197 (.pointer (some (E 13))))) 3 (fun _ => True) (fun _ _ => False) (by kernel_rfl) (fun _ _ _ _ h => h.elim) ?_
            obtain ⟨wd, hwd⟩ : ∃ wd, wd = w5.drew := ⟨_, rfl⟩
            have hkd : Kp w5 wd := hwd ▸ (⟨rfl, rfl, rfl, Nat.le_refl _, fun _ _ => rfl⟩ : Kp w5 w5.drew)
            rw [← hwd]
            clear hwd
            have hkx := Kp.trans HK5.out hkd
            have hTd := hkx.cell HE.out.c13
            obtain ⟨wf2, hwf2, hF2, hPf2⟩ := (HZ.out.kp hkx).set (.string ⟨#[]⟩) (.slice none 0 0) (.slice none 0 0) (.slice none 0 0)
            obtain ⟨y0, y1, y2, y3, z0, z1, z2, z3⟩ := HZ.out.kp hkx
            obtain ⟨r0, r1, r2, r3, _, _, _, _⟩ := hPf2
            have Hwf2 := Lib.hid hwf2
            have HTf := Lib.hid (hF2.cell hTd (by simp; omega))
            have HKf := Lib.hid (kp_step' (Kp.trans HK0.out hkx) hF2 (fun j hj => by simp at hj; omega))
            clear hwf2 hF2 hkd hkx
            refine anyT_take puts_true [0] (by kernel_rfl) hTd ?_
            simp only [opsAt, List.getElem?_toArray, List.getElem?_cons_zero]
            repeat (go_big_quiet_step (fail))
            refine wpQuiet_nil ?_
            refine anyT_load puts_true 1 53 (.iface 197 (.pointer (some (E 13)))) rfl rfl (by kernel_rfl) hTd (fun w h => exec_load32 h rfl rfl) ?_
            simp only [Act.put, List.setIfInBounds_toArray, List.set_cons_zero, List.set_cons_succ]
            refine anyP_one 2 (by kernel_rfl) ?_
            simp only [opsAt, List.getElem?_toArray, List.getElem?_cons_zero, List.getElem?_cons_succ]
            clear hTd
            go_wp2_with fail
            rw [← Hwf2.out]
            refine ⟨fun _ => HTf.out, ?_⟩
            refine anyP_one 3 (by kernel_rfl) ?_
            simp only [opsAt, List.getElem?_toArray, List.getElem?_cons_zero, List.getElem?_cons_succ]
            clear y0 y1 y2 y3 z0 z1 z2 z3
            go_wp2_with fail
            refine ⟨fun h => absurd rfl h, ?_⟩
            refine anyP_end (by kernel_rfl) ?_
            go_wp2_with fail
            show bodyPost Tryz.prog Tryz.f11 (ParO w E) .ret _ _
            refine bodyPost_ret (v := .tuple #[zeroP, (.iface 197 (.pointer (some (E 13))))]) (by simp [results, Tryz.results11, go_sem, r0, r1, r2, r3]) rfl ?_
            exact ParO.no HKf.out
          | some y =>
            have hx := HX.out
            rw [fnd_some hr] at hx
            obtain ⟨rfl, rfl, rfl, rfl, rfl⟩ : pn = bs y.1 ∧ p0 = y.2.1.1 ∧ p1 = y.2.1.2 ∧ pl = y.2.2.1 ∧ has = true := by simpa using hx
            have Hy := Lib.hid (row_s hr).1
            have HPs := Lib.hid (parse_words Hf.out hr)
            clear hx hr
            by_cases hn0 : wn = 0
            · subst hn0
              have hl0 : l = [] := by rw [← Hwl.out]; have := HW.out.1; unfold wl; rw [List.length_eq_zero_iff.1 this]; rfl
              have HPn := Lib.hid (HPs.out.trans (by rw [Hb.out, hl0]))
              clear hl0
              obtain ⟨wf, hwf, hF2, hPf⟩ := (HZ.out.kp HK5.out).set (.string (bs y.1)) (.slice t0.ao t0.n t0.c) (.slice t1.ao t1.n t1.c) (.slice tl.ao tl.n tl.c)
              have Hk := Lib.hid (kp_step' (Kp.trans HK0.out HK5.out) hF2 (fun j hj => by simp at hj; omega))
              have HPf := Lib.hid (HP5.out _ hF2)
              obtain ⟨x0, x1, x2, x3, f0, f1, f2, f3⟩ := HZ.out.kp HK5.out
              obtain ⟨y0, y1, y2, y3, _, _, _, _⟩ := HQ5.out
              obtain ⟨r0, r1, r2, r3, _, _, _, _⟩ := hPf
              have Hwf := Lib.hid hwf
              clear hwf hF2
              go_wp2_with fail
              rw [← Hwf.out]
              show bodyPost Tryz.prog Tryz.f11 (ParO w E) .ret _ _
              refine bodyPost_ret (v := .tuple #[.agg #[.string (bs y.1), .slice t0.ao t0.n t0.c, .slice t1.ao t1.n t1.c, .slice tl.ao tl.n tl.c], .nilIface]) (by simp [results, Tryz.results11, go_sem, r0, r1, r2, r3]) rfl ?_
              exact ParO.yes Hk.out (OwP.base (HPf.out.2 trivial) HW3.out)
            · have hlen : ws.length = wn := HW.out.1
              have hcnt := behind_count Hb.out
              have hdl : (f.data.toList.dropWhile Q.upB).length ≤ f.size := by rw [Lib.size_eq]; exact (List.dropWhile_sublist _).length_le
              have hwn : wn ≤ 200 := by have h1 := hcnt.1; rw [← Hwl.out] at h1; unfold wl at h1; rw [List.length_map, hlen] at h1; omega
              have hwz : ∀ x ∈ ws, x.size ≤ 281474976710656 := fun x hx => by have h1 := hcnt.2 x.data.toList (by rw [← Hwl.out]; exact List.mem_map.2 ⟨x, hx, rfl⟩); rw [Lib.size_eq]; omega
              have Hbs := Lib.hid (show ShortP (bs y.1) t0.n t1.n tl.n y.2.2.1 from ⟨by rw [bs_size]; have := Hy.out.nm; omega, by rw [← (HP5.out w5 (Fr.refl _ _)).1.i0.1]; have := Hy.out.b0; omega, by rw [← (HP5.out w5 (Fr.refl _ _)).1.i1.1]; have := Hy.out.b1; omega, by rw [← (HP5.out w5 (Fr.refl _ _)).1.il.1]; have := Hy.out.ls; omega, fun l hl => by have := Hy.out.ts l hl; omega⟩)
              have HW5 := Lib.hid (Kp.trans HK0.out HK5.out).size
              have hM := mod_so w5 E m (HE.out.keep HK5.out) (bs y.1) t0.ao t1.ao tl.ao t0.n t0.c t1.n t1.c tl.n tl.c y.2.1.1 y.2.1.2 y.2.2.1 (HP5.out w5 (Fr.refl _ _)).1 Hbs.out wo wn wcp ws HW.out hwz hwn
              rw [bs_list, show wb ws = l from Hwl.out] at hM
              have hcons : ∃ a r, l = a :: r := by cases hl : l with | nil => (exfalso; have h1 := Hwl.out; rw [hl] at h1; unfold wl at h1; have h2 := congrArg List.length h1; simp at h2; rw [h2] at hlen; exact hn0 (by simpa using hlen.symm)) | cons a r => exact ⟨a, r, rfl⟩
              have HPn := Lib.hid (show Q.parseN s.data.toList = (Q.modR ⟨y.1, y.2.1.1, y.2.1.2, y.2.2.1⟩ l).1 by obtain ⟨a, r, rfl⟩ := hcons; rw [HPs.out, Hb.out])
              have hbz5 : bz < w5.heap.size := by have := (HZ.out.kp HK5.out).lt; exact this
              have hwni : ¬ ((wn : Nat) : Int) = 0 := by omega
              have hwnb : (((wn : Nat) : Int) == 0) = false := by simpa using hwni
              have Hmm := Lib.hid (modR_mdf (p := ⟨y.1, y.2.1.1, y.2.1.2, y.2.2.1⟩) (ws := l))
              generalize mdf ⟨y.1, y.2.1.1, y.2.1.2, y.2.2.1⟩ l = X at hM Hmm
              have HM := Lib.hid hM
              clear hM hcons hwz hwn hcnt hlen hdl hn0 HPs
              obtain ⟨y0, y1, y2, y3, _, _, _, _⟩ := HQ5.out
              go_wp2_with fail
              (with_reducible refine HM.out.mono ?_)
              rintro e w6 ⟨hk6, u0, u1, ul, rfl, hP6⟩
              unfold tvv
              clear y0 y1 y2 y3 HM
              have hkq := Kp.new w6 (.cells #[.string X.1, .slice u0.ao u0.n u0.c, .slice u1.ao u1.n u1.c, .slice ul.ao ul.n ul.c] 26)
              have HQ7 := Lib.hid (Four.new w6 (.string X.1) (.slice u0.ao u0.n u0.c) (.slice u1.ao u1.n u1.c) (.slice ul.ao ul.n ul.c) 26)
              have HK7 := Lib.hid (Kp.trans HK5.out (Kp.trans hk6 hkq))
              have HP7 := Lib.hid (fun (w'' : World) (h : Fr [bz] (w6.alloc (.cells #[.string X.1, .slice u0.ao u0.n u0.c, .slice u1.ao u1.n u1.c, .slice ul.ao ul.n ul.c] 26)) w'') => hP6 [bz] w'' (((Fr.of_kp hkq).mono (by simp)).trans h) (by simpa using hbz5))
              clear hk6 hkq hP6
              go_upto_region 18 with fail
              generalize w6.alloc (.cells #[.string X.1, .slice u0.ao u0.n u0.c, .slice u1.ao u1.n u1.c, .slice ul.ao ul.n ul.c] 26) = w7 at *
              generalize w6.heap.size = bq2 at *
              rcases Hmm.out with ⟨q, hq1, hq2⟩ | ⟨hq1, hq2⟩
              · have HPq := Lib.hid (HPn.out.trans hq1)
                subst hq2
                rw [errV_nil]
                clear hq1 Hmm HPn
                obtain ⟨wf, hwf, hF2, hPf⟩ := (HZ.out.kp HK7.out).set (.string (bs q.nm)) (.slice u0.ao u0.n u0.c) (.slice u1.ao u1.n u1.c) (.slice ul.ao ul.n ul.c)
                have Hk := Lib.hid (kp_step' (Kp.trans HK0.out HK7.out) hF2 (fun j hj => by simp at hj; omega))
                have HPf := Lib.hid (HP7.out _ hF2)
                obtain ⟨x0, x1, x2, x3, f0, f1, f2, f3⟩ := HZ.out.kp HK7.out
                obtain ⟨y0, y1, y2, y3, _, _, _, _⟩ := HQ7.out
                obtain ⟨r0, r1, r2, r3, _, _, _, _⟩ := hPf
                have Hwf := Lib.hid hwf
                clear hwf hF2
                go_wp2_with fail
                rw [← Hwf.out]
                show bodyPost Tryz.prog Tryz.f11 (ParO w E) .ret _ _
                refine bodyPost_ret (v := .tuple #[.agg #[.string (bs q.nm), .slice u0.ao u0.n u0.c, .slice u1.ao u1.n u1.c, .slice ul.ao ul.n ul.c], .nilIface]) (by simp [results, Tryz.results11, go_sem, r0, r1, r2, r3]) rfl ?_
                exact ParO.yes Hk.out (OwP.base (HPf.out trivial) HW5.out)
              · have HPq := Lib.hid (HPn.out.trans hq1)
                rw [errV_ptr E hq2]
                clear hq1 hq2 Hmm HPn
                go_upto_region 19 with fail
                refine anyP_start (fun w => w.cell? ⟨0, 0, none⟩ = some (.iface 197 (.pointer (some (E 13))))) 3 (fun _ => True) (fun _ _ => False) (by kernel_rfl) (fun _ _ _ _ h => h.elim) ?_
                obtain ⟨wd, hwd⟩ : ∃ wd, wd = w7.drew := ⟨_, rfl⟩
                have hkd : Kp w7 wd := hwd ▸ (⟨rfl, rfl, rfl, Nat.le_refl _, fun _ _ => rfl⟩ : Kp w7 w7.drew)
                rw [← hwd]
                clear hwd
                have hkx := Kp.trans HK7.out hkd
                have hTd := hkx.cell HE.out.c13
                obtain ⟨wf2, hwf2, hF2, hPf2⟩ := (HZ.out.kp hkx).set (.string ⟨#[]⟩) (.slice none 0 0) (.slice none 0 0) (.slice none 0 0)
                obtain ⟨y0, y1, y2, y3, z0, z1, z2, z3⟩ := HZ.out.kp hkx
                obtain ⟨r0, r1, r2, r3, _, _, _, _⟩ := hPf2
                have Hwf2 := Lib.hid hwf2
                have HTf := Lib.hid (hF2.cell hTd (by simp; omega))
                have HKf := Lib.hid (kp_step' (Kp.trans HK0.out hkx) hF2 (fun j hj => by simp at hj; omega))
                clear hwf2 hF2 hkd hkx
                refine anyT_take puts_true [0] (by kernel_rfl) hTd ?_
                simp only [opsAt, List.getElem?_toArray, List.getElem?_cons_zero]
                repeat (go_big_quiet_step (fail))
                refine wpQuiet_nil ?_
                refine anyT_load puts_true 1 67 (.iface 197 (.pointer (some (E 13)))) rfl rfl (by kernel_rfl) hTd (fun w h => exec_load32 h rfl rfl) ?_
                simp only [Act.put, List.setIfInBounds_toArray, List.set_cons_zero, List.set_cons_succ]
                refine anyP_one 2 (by kernel_rfl) ?_
                simp only [opsAt, List.getElem?_toArray, List.getElem?_cons_zero, List.getElem?_cons_succ]
                clear hTd
                go_wp2_with fail
                rw [← Hwf2.out]
                refine ⟨fun _ => HTf.out, ?_⟩
                refine anyP_one 3 (by kernel_rfl) ?_
                simp only [opsAt, List.getElem?_toArray, List.getElem?_cons_zero, List.getElem?_cons_succ]
                clear y0 y1 y2 y3 z0 z1 z2 z3
                go_wp2_with fail
                refine ⟨fun h => absurd rfl h, ?_⟩
                refine anyP_end (by kernel_rfl) ?_
                go_wp2_with fail
                show bodyPost Tryz.prog Tryz.f11 (ParO w E) .ret _ _
                refine bodyPost_ret (v := .tuple #[zeroP, (.iface 197 (.pointer (some (E 13))))]) (by simp [results, Tryz.results11, go_sem, r0, r1, r2, r3]) rfl ?_
                exact ParO.no HKf.out
end Go.Proofs.YtbdphdgomcabmaaGreatDoor
