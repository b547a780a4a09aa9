/- A protocol's name, read by the program. Conditions: the variables lie there (Env); the text's length. -/
import Derived.Test.YtbdphdgomcabmaaGreatDoorNi9
import Derived.Test.YtbdphdgomcabmaaGreatDoorSpA
namespace Go.Proofs.YtbdphdgomcabmaaGreatDoor
open Go.RowKit

theorem full_255 {s : ByteArray} (h : 255 < s.size) : Q.fullN s.data.toList = none := by
  unfold Q.fullN
  rw [if_pos (.inl (by rw [← Lib.size_eq]; exact h))]
theorem pre_iff (x p : Q.Bt) : Lib.hasPrefix x p = true ↔ x.take p.length = p := by
  unfold Lib.hasPrefix
  rw [List.isPrefixOf_iff_prefix, List.prefix_iff_eq_take]
  exact ⟨fun h => h.symm, fun h => h.symm⟩
theorem suf_iff (x p : Q.Bt) : Lib.hasSuffix x p = true ↔ p.length ≤ x.length ∧ x.drop (x.length - p.length) = p := by
  unfold Lib.hasSuffix
  rw [List.isSuffixOf_iff_suffix, List.suffix_iff_eq_drop]
  constructor
  · intro h
    have h2 := congrArg List.length h
    rw [List.length_drop] at h2
    exact ⟨by omega, h.symm⟩
  · exact fun h => h.2.symm
theorem full_pre {x : Q.Bt} (h : Lib.hasPrefix x Q.headN = false) : Q.fullN x = none := by
  unfold Q.fullN
  rw [if_pos]
  refine .inr (.inr (.inl fun q => ?_))
  have := (pre_iff x Q.headN).2 q
  rw [h] at this
  cases this
theorem trim_drop {x : Q.Bt} (h : Lib.hasPrefix x Q.headN = true) : Lib.trimPrefix x Q.headN = x.drop 6 := by
  unfold Lib.trimPrefix
  rw [if_pos h]; rfl
theorem full_suf {x : Q.Bt} (hp : Lib.hasPrefix x Q.headN = true) (h : Lib.hasSuffix (Lib.trimPrefix x Q.headN) Q.tailN = false) : Q.fullN x = none := by
  rw [trim_drop hp] at h
  unfold Q.fullN
  by_cases hl : x.length < 31
  · rw [if_pos (.inr (.inl hl))]
  · rw [if_pos]
    refine .inr (.inr (.inr fun q => ?_))
    have hq := (suf_iff (x.drop 6) Q.tailN).2 ⟨by rw [List.length_drop]; show 25 ≤ _; omega, by
      rw [List.length_drop, List.drop_drop, show Q.tailN.length = 25 from rfl, show 6 + (x.length - 6 - 25) = x.length - 25 by omega]; exact q⟩
    rw [h] at hq
    cases hq
theorem full_yes {x r : Q.Bt} (hl : x.length ≤ 255) (hp : Lib.hasPrefix x Q.headN = true) (hr : r = Lib.trimPrefix x Q.headN) (hs : Lib.hasSuffix r Q.tailN = true) : Q.fullN x = some (Lib.trimSuffix r Q.tailN) := by
  rw [trim_drop hp] at hr
  subst hr
  have h1 := (pre_iff x Q.headN).1 hp
  have h2 := (suf_iff _ _).1 hs
  have h3 : Q.tailN.length = 25 := rfl
  rw [List.length_drop, h3] at h2
  unfold Lib.trimSuffix
  rw [if_pos hs]
  unfold Q.fullN
  rw [if_neg]
  · rw [List.length_drop, h3, show x.length - 6 - 25 = x.length - 31 by omega]
  · rintro (q | q | q | q)
    · omega
    · omega
    · exact q h1
    · apply q
      have := h2.2
      rw [List.drop_drop, show 6 + (x.length - 6 - 25) = x.length - 25 by omega] at this
      exact this
theorem trimP_len {s : ByteArray} {n : Nat} (h : s.size ≤ n) : (Lib.trimPrefix s.data.toList Q.headN).length ≤ n := by
  unfold Lib.trimPrefix
  rw [Lib.size_eq] at h
  split
  · rw [List.length_drop]; omega
  · exact h
theorem trimS_len {s : ByteArray} {n : Nat} (h : s.size ≤ n) : (Lib.trimSuffix s.data.toList Q.tailN).length ≤ n := by
  unfold Lib.trimSuffix
  rw [Lib.size_eq] at h
  split
  · rw [List.length_take]; omega
  · exact h
theorem Strs.kp {w w' : World} {ao : Option Addr} {n : Nat} {ss : List ByteArray} (h : Strs w ao n ss) (k : Kp w w') : Strs w' ao n ss := ⟨h.1, h.2.1, fun j u hu => by
  obtain ⟨b, off, e, hc⟩ := h.2.2 j u hu
  exact ⟨b, off, e, k.cell hc⟩⟩
set_option maxRecDepth 100000 in
set_option maxHeartbeats 16000000 in
theorem parseN_any (w : World) (E : Nat → Addr) (m : Int) (hE : Env w E m) (s : ByteArray) : Calls Tryz.prog 11 #[.string s] w (NmPost w (errN E) (nmD s.data.toList)) := by
  have hkA := Kp.new w (.cells #[.string ⟨#[]⟩, .slice none 0 0, .slice none 0 0, .slice none 0 0] 26)
  have hZ := Four.new w (.string ⟨#[]⟩) (.slice none 0 0) (.slice none 0 0) (.slice none 0 0) 26
  have hw1 : 0 < w.heap.size := World.block_lt_of_cell? w _ hE.c13
  have HE := Lib.hid (hE.keep hkA)
  clear hE
  go_enter Tryz.func11, Tryz.ntmps11
  go_upto_region 1 with fail
  obtain ⟨bz, hbz⟩ : ∃ bz, bz = w.heap.size := ⟨_, rfl⟩
  rw [← hbz] at hZ ⊢
  generalize w.alloc (.cells #[.string ⟨#[]⟩, .slice none 0 0, .slice none 0 0, .slice none 0 0] 26) = w1 at *
  have hbz2 : w.heap.size ≤ bz := by omega
  have HK0 := Lib.hid hkA
  have HZ := Lib.hid hZ
  clear hkA hZ hbz
  by_cases h255 : 255 < s.size
  · have h255I : (255 : Int) < (s.size : Nat) := by omega
    go_upto_region 2 with fail
    refine anyP_start (fun w => w.cell? ⟨0, 0, none⟩ = some (.iface 197 (.pointer (some (E 13))))) 3 (fun _ => True) (fun _ _ => False) (by kernel_rfl) (fun _ _ _ _ h => h.elim) ?_
    obtain ⟨wd, hwd⟩ : ∃ wd, wd = w1.drew := ⟨_, rfl⟩
    have hkd : Kp w1 wd := hwd ▸ (⟨rfl, rfl, rfl, Nat.le_refl _, fun _ _ => rfl⟩ : Kp w1 w1.drew)
    rw [← hwd]
    clear hwd
    have hkx := Kp.trans (Kp.refl w1) hkd
    have hTd := hkx.cell HE.out.c13
    obtain ⟨wf2, hwf2, hF2, hPf2⟩ := (HZ.out.kp hkx).set (.string ⟨#[]⟩) (.slice none 0 0) (.slice none 0 0) (.slice none 0 0)
    obtain ⟨y0, y1, y2, y3, z0, z1, z2, z3⟩ := HZ.out.kp hkx
    obtain ⟨r0, r1, r2, r3, _, _, _, _⟩ := hPf2
    have Hwf2 := Lib.hid hwf2
    have HTf := Lib.hid (hF2.cell hTd (by simp; omega))
    have HKf := Lib.hid (kp_step' (Kp.trans HK0.out hkx) hF2 (fun j hj => by simp at hj; omega))
    clear hwf2 hF2 hkd hkx
    refine anyT_take puts_true [0] (by kernel_rfl) hTd ?_
    simp only [opsAt, List.getElem?_toArray, List.getElem?_cons_zero]
    repeat (go_big_quiet_step (fail))
    refine wpQuiet_nil ?_
    refine anyT_load puts_true 1 16 (.iface 197 (.pointer (some (E 13)))) rfl rfl (by kernel_rfl) hTd (fun w h => exec_load32 h rfl rfl) ?_
    simp only [Act.put, List.setIfInBounds_toArray, List.set_cons_zero, List.set_cons_succ]
    refine anyP_one 2 (by kernel_rfl) ?_
    simp only [opsAt, List.getElem?_toArray, List.getElem?_cons_zero, List.getElem?_cons_succ]
    clear hTd
    go_wp2_with fail
    rw [← Hwf2.out]
    refine ⟨fun _ => HTf.out, ?_⟩
    refine anyP_one 3 (by kernel_rfl) ?_
    simp only [opsAt, List.getElem?_toArray, List.getElem?_cons_zero, List.getElem?_cons_succ]
    clear y0 y1 y2 y3 z0 z1 z2 z3
    go_wp2_with fail
    refine ⟨fun h => absurd rfl h, ?_⟩
    refine anyP_end (by kernel_rfl) ?_
    go_wp2_with fail
    show bodyPost Tryz.prog Tryz.f11 (NmPost w (errN E) (nmD s.data.toList)) .ret _ _
    refine bodyPost_ret (v := .tuple #[zeroP, (.iface 197 (.pointer (some (E 13))))]) (by simp [results, Tryz.results11, go_sem, r0, r1, r2, r3]) rfl ?_
    exact NmPost.no HKf.out (parse_none (full_255 h255)) rfl
  · have h255I : ¬ (255 : Int) < (s.size : Nat) := by omega
    have h255N : s.size ≤ 255 := by omega
    have HCp := Lib.hid (Tryz.strings_CutPrefix s ⟨#[78, 111, 105, 115, 101, 95]⟩ w1)
    obtain ⟨r, hr⟩ : ∃ r : ByteArray, r = ⟨(Lib.trimPrefix s.data.toList [78, 111, 105, 115, 101, 95]).toArray⟩ := ⟨_, rfl⟩
    rw [show (⟨(Lib.trimPrefix s.data.toList (⟨#[78, 111, 105, 115, 101, 95]⟩ : ByteArray).data.toList).toArray⟩ : ByteArray) = r from hr.symm] at HCp
    have Hr := Lib.hid (show r.data.toList = Lib.trimPrefix s.data.toList Q.headN by rw [hr]; rfl)
    clear hr
    cases hp : Lib.hasPrefix s.data.toList Q.headN with
    | false =>
      rw [show Lib.hasPrefix s.data.toList (⟨#[78, 111, 105, 115, 101, 95]⟩ : ByteArray).data.toList = false from hp] at HCp
      have Hno := Lib.hid (parse_none (full_pre hp))
      clear hp
      go_wp2_with fail
      (with_reducible refine HCp.out.mono ?_)
      rintro e wq ⟨rfl, rfl⟩
      clear HCp
      go_upto_region 5 with fail
      refine anyP_start (fun w => w.cell? ⟨0, 0, none⟩ = some (.iface 197 (.pointer (some (E 13))))) 3 (fun _ => True) (fun _ _ => False) (by kernel_rfl) (fun _ _ _ _ h => h.elim) ?_
      obtain ⟨wd, hwd⟩ : ∃ wd, wd = wq.drew := ⟨_, rfl⟩
      have hkd : Kp wq wd := hwd ▸ (⟨rfl, rfl, rfl, Nat.le_refl _, fun _ _ => rfl⟩ : Kp wq wq.drew)
      rw [← hwd]
      clear hwd
      have hkx := Kp.trans (Kp.refl wq) hkd
      have hTd := hkx.cell HE.out.c13
      obtain ⟨wf2, hwf2, hF2, hPf2⟩ := (HZ.out.kp hkx).set (.string ⟨#[]⟩) (.slice none 0 0) (.slice none 0 0) (.slice none 0 0)
      obtain ⟨y0, y1, y2, y3, z0, z1, z2, z3⟩ := HZ.out.kp hkx
      obtain ⟨r0, r1, r2, r3, _, _, _, _⟩ := hPf2
      have Hwf2 := Lib.hid hwf2
      have HTf := Lib.hid (hF2.cell hTd (by simp; omega))
      have HKf := Lib.hid (kp_step' (Kp.trans HK0.out hkx) hF2 (fun j hj => by simp at hj; omega))
      clear hwf2 hF2 hkd hkx
      refine anyT_take puts_true [0] (by kernel_rfl) hTd ?_
      simp only [opsAt, List.getElem?_toArray, List.getElem?_cons_zero]
      repeat (go_big_quiet_step (fail))
      refine wpQuiet_nil ?_
      refine anyT_load puts_true 1 25 (.iface 197 (.pointer (some (E 13)))) rfl rfl (by kernel_rfl) hTd (fun w h => exec_load32 h rfl rfl) ?_
      simp only [Act.put, List.setIfInBounds_toArray, List.set_cons_zero, List.set_cons_succ]
      refine anyP_one 2 (by kernel_rfl) ?_
      simp only [opsAt, List.getElem?_toArray, List.getElem?_cons_zero, List.getElem?_cons_succ]
      clear hTd
      go_wp2_with fail
      rw [← Hwf2.out]
      refine ⟨fun _ => HTf.out, ?_⟩
      refine anyP_one 3 (by kernel_rfl) ?_
      simp only [opsAt, List.getElem?_toArray, List.getElem?_cons_zero, List.getElem?_cons_succ]
      clear y0 y1 y2 y3 z0 z1 z2 z3
      go_wp2_with fail
      refine ⟨fun h => absurd rfl h, ?_⟩
      refine anyP_end (by kernel_rfl) ?_
      go_wp2_with fail
      show bodyPost Tryz.prog Tryz.f11 (NmPost w (errN E) (nmD s.data.toList)) .ret _ _
      refine bodyPost_ret (v := .tuple #[zeroP, (.iface 197 (.pointer (some (E 13))))]) (by simp [results, Tryz.results11, go_sem, r0, r1, r2, r3]) rfl ?_
      exact NmPost.no HKf.out (Hno.out) rfl
    | true =>
      rw [show Lib.hasPrefix s.data.toList (⟨#[78, 111, 105, 115, 101, 95]⟩ : ByteArray).data.toList = true from hp] at HCp
      have Hp := Lib.hid hp
      clear hp
      have hrs : r.size ≤ 255 := by rw [Lib.size_eq, Hr.out]; exact trimP_len h255N
      go_wp2_with fail
      (with_reducible refine HCp.out.mono ?_)
      rintro e wq ⟨rfl, rfl⟩
      clear HCp
      have HCs := Lib.hid (Tryz.strings_CutSuffix r ⟨#[95, 50, 53, 53, 49, 57, 95, 67, 104, 97, 67, 104, 97, 80, 111, 108, 121, 95, 66, 76, 65, 75, 69, 50, 115]⟩ wq (by omega))
      obtain ⟨f, hf⟩ : ∃ f : ByteArray, f = ⟨(Lib.trimSuffix r.data.toList [95, 50, 53, 53, 49, 57, 95, 67, 104, 97, 67, 104, 97, 80, 111, 108, 121, 95, 66, 76, 65, 75, 69, 50, 115]).toArray⟩ := ⟨_, rfl⟩
      rw [show (⟨(Lib.trimSuffix r.data.toList (⟨#[95, 50, 53, 53, 49, 57, 95, 67, 104, 97, 67, 104, 97, 80, 111, 108, 121, 95, 66, 76, 65, 75, 69, 50, 115]⟩ : ByteArray).data.toList).toArray⟩ : ByteArray) = f from hf.symm] at HCs
      have Hfd := Lib.hid (show f.data.toList = Lib.trimSuffix r.data.toList Q.tailN by rw [hf]; rfl)
      clear hf
      cases hp : Lib.hasSuffix r.data.toList Q.tailN with
      | false =>
        rw [show Lib.hasSuffix r.data.toList (⟨#[95, 50, 53, 53, 49, 57, 95, 67, 104, 97, 67, 104, 97, 80, 111, 108, 121, 95, 66, 76, 65, 75, 69, 50, 115]⟩ : ByteArray).data.toList = false from hp] at HCs
        have Hno := Lib.hid (parse_none (full_suf Hp.out (Hr.out ▸ hp)))
        clear hp
        go_wp2_with fail
        (with_reducible refine HCs.out.mono ?_)
        rintro e wq2 ⟨rfl, rfl⟩
        clear HCs
        go_upto_region 8 with fail
        refine anyP_start (fun w => w.cell? ⟨0, 0, none⟩ = some (.iface 197 (.pointer (some (E 13))))) 3 (fun _ => True) (fun _ _ => False) (by kernel_rfl) (fun _ _ _ _ h => h.elim) ?_
        obtain ⟨wd, hwd⟩ : ∃ wd, wd = wq2.drew := ⟨_, rfl⟩
        have hkd : Kp wq2 wd := hwd ▸ (⟨rfl, rfl, rfl, Nat.le_refl _, fun _ _ => rfl⟩ : Kp wq2 wq2.drew)
        rw [← hwd]
        clear hwd
        have hkx := Kp.trans (Kp.refl wq2) hkd
        have hTd := hkx.cell HE.out.c13
        obtain ⟨wf2, hwf2, hF2, hPf2⟩ := (HZ.out.kp hkx).set (.string ⟨#[]⟩) (.slice none 0 0) (.slice none 0 0) (.slice none 0 0)
        obtain ⟨y0, y1, y2, y3, z0, z1, z2, z3⟩ := HZ.out.kp hkx
        obtain ⟨r0, r1, r2, r3, _, _, _, _⟩ := hPf2
        have Hwf2 := Lib.hid hwf2
        have HTf := Lib.hid (hF2.cell hTd (by simp; omega))
        have HKf := Lib.hid (kp_step' (Kp.trans HK0.out hkx) hF2 (fun j hj => by simp at hj; omega))
        clear hwf2 hF2 hkd hkx
        refine anyT_take puts_true [0] (by kernel_rfl) hTd ?_
        simp only [opsAt, List.getElem?_toArray, List.getElem?_cons_zero]
        repeat (go_big_quiet_step (fail))
        refine wpQuiet_nil ?_
        refine anyT_load puts_true 1 34 (.iface 197 (.pointer (some (E 13)))) rfl rfl (by kernel_rfl) hTd (fun w h => exec_load32 h rfl rfl) ?_
        simp only [Act.put, List.setIfInBounds_toArray, List.set_cons_zero, List.set_cons_succ]
        refine anyP_one 2 (by kernel_rfl) ?_
        simp only [opsAt, List.getElem?_toArray, List.getElem?_cons_zero, List.getElem?_cons_succ]
        clear hTd
        go_wp2_with fail
        rw [← Hwf2.out]
        refine ⟨fun _ => HTf.out, ?_⟩
        refine anyP_one 3 (by kernel_rfl) ?_
        simp only [opsAt, List.getElem?_toArray, List.getElem?_cons_zero, List.getElem?_cons_succ]
        clear y0 y1 y2 y3 z0 z1 z2 z3
        go_wp2_with fail
        refine ⟨fun h => absurd rfl h, ?_⟩
        refine anyP_end (by kernel_rfl) ?_
        go_wp2_with fail
        show bodyPost Tryz.prog Tryz.f11 (NmPost w (errN E) (nmD s.data.toList)) .ret _ _
        refine bodyPost_ret (v := .tuple #[zeroP, (.iface 197 (.pointer (some (E 13))))]) (by simp [results, Tryz.results11, go_sem, r0, r1, r2, r3]) rfl ?_
        exact NmPost.no HKf.out (Hno.out) rfl
      | true =>
        rw [show Lib.hasSuffix r.data.toList (⟨#[95, 50, 53, 53, 49, 57, 95, 67, 104, 97, 67, 104, 97, 80, 111, 108, 121, 95, 66, 76, 65, 75, 69, 50, 115]⟩ : ByteArray).data.toList = true from hp] at HCs
        have Hf := Lib.hid (show Q.fullN s.data.toList = some f.data.toList by rw [Hfd.out]; exact full_yes (by rw [← Lib.size_eq]; exact h255N) Hp.out Hr.out hp)
        clear hp
        have hfs : f.size ≤ 255 := by rw [Lib.size_eq, Hfd.out]; exact trimS_len hrs
        go_wp2_with fail
        (with_reducible refine HCs.out.mono ?_)
        rintro e wq2 ⟨rfl, rfl⟩
        clear HCs
        have HSp := Lib.hid (splitN_any wq2 f (by omega))
        unfold SpPost at HSp
        cases hb : Q.behind (f.data.toList.dropWhile Q.upB) with
        | none =>
          rw [hb] at HSp
          have Hb := Lib.hid hb
          clear hb
          go_wp2_with fail
          (with_reducible refine HSp.out.mono ?_)
          rintro e w3 ⟨hk3, rfl⟩
          have HK3 := Lib.hid hk3
          clear hk3 HSp
          go_upto_region 11 with fail
          refine anyP_start (fun w => w.cell? ⟨0, 0, none⟩ = some (.iface 197 (.pointer (some (E 13))))) 3 (fun _ => True) (fun _ _ => False) (by kernel_rfl) (fun _ _ _ _ h => h.elim) ?_
          obtain ⟨wd, hwd⟩ : ∃ wd, wd = w3.drew := ⟨_, rfl⟩
          have hkd : Kp w3 wd := hwd ▸ (⟨rfl, rfl, rfl, Nat.le_refl _, fun _ _ => rfl⟩ : Kp w3 w3.drew)
          rw [← hwd]
          clear hwd
          have hkx := Kp.trans HK3.out hkd
          have hTd := hkx.cell HE.out.c13
          obtain ⟨wf2, hwf2, hF2, hPf2⟩ := (HZ.out.kp hkx).set (.string ⟨#[]⟩) (.slice none 0 0) (.slice none 0 0) (.slice none 0 0)
          obtain ⟨y0, y1, y2, y3, z0, z1, z2, z3⟩ := HZ.out.kp hkx
          obtain ⟨r0, r1, r2, r3, _, _, _, _⟩ := hPf2
          have Hwf2 := Lib.hid hwf2
          have HTf := Lib.hid (hF2.cell hTd (by simp; omega))
          have HKf := Lib.hid (kp_step' (Kp.trans HK0.out hkx) hF2 (fun j hj => by simp at hj; omega))
          clear hwf2 hF2 hkd hkx
          refine anyT_take puts_true [0] (by kernel_rfl) hTd ?_
          simp only [opsAt, List.getElem?_toArray, List.getElem?_cons_zero]
          repeat (go_big_quiet_step (fail))
          refine wpQuiet_nil ?_
          refine anyT_load puts_true 1 44 (.iface 197 (.pointer (some (E 13)))) rfl rfl (by kernel_rfl) hTd (fun w h => exec_load32 h rfl rfl) ?_
          simp only [Act.put, List.setIfInBounds_toArray, List.set_cons_zero, List.set_cons_succ]
          refine anyP_one 2 (by kernel_rfl) ?_
          simp only [opsAt, List.getElem?_toArray, List.getElem?_cons_zero, List.getElem?_cons_succ]
          clear hTd
          go_wp2_with fail
          rw [← Hwf2.out]
          refine ⟨fun _ => HTf.out, ?_⟩
          refine anyP_one 3 (by kernel_rfl) ?_
          simp only [opsAt, List.getElem?_toArray, List.getElem?_cons_zero, List.getElem?_cons_succ]
          clear y0 y1 y2 y3 z0 z1 z2 z3
          go_wp2_with fail
          refine ⟨fun h => absurd rfl h, ?_⟩
          refine anyP_end (by kernel_rfl) ?_
          go_wp2_with fail
          show bodyPost Tryz.prog Tryz.f11 (NmPost w (errN E) (nmD s.data.toList)) .ret _ _
          refine bodyPost_ret (v := .tuple #[zeroP, (.iface 197 (.pointer (some (E 13))))]) (by simp [results, Tryz.results11, go_sem, r0, r1, r2, r3]) rfl ?_
          exact NmPost.no HKf.out (parse_no_words Hf.out Hb.out) rfl
        | some l =>
          rw [hb] at HSp
          have Hb := Lib.hid hb
          clear hb
          go_wp2_with fail
          (with_reducible refine HSp.out.mono ?_)
          rintro e w3 ⟨hk3, b, ws, wo, wn, wcp, rfl, hbd, hwl, hW⟩
          have HK3 := Lib.hid hk3
          have Hbd := Lib.hid hbd
          have Hwl := Lib.hid hwl
          have HWs := Lib.hid hW
          have hbsz : b.size ≤ 255 := by rw [Lib.size_eq, hbd]; have h1 := (List.takeWhile_sublist Q.upB (l := f.data.toList)).length_le; have h2 := Lib.size_eq f; omega
          clear hk3 HSp hbd hwl hW
          have HFi := Lib.hid (find_st w3 E m (HE.out.keep HK3.out) b (by unfold maxLen; omega))
          rw [Hbd.out] at HFi
          obtain ⟨X, hX⟩ : ∃ X, X = fnd (f.data.toList.takeWhile Q.upB) := ⟨_, rfl⟩
          rw [← hX] at HFi
          obtain ⟨pn, p0, p1, pl, has⟩ := X
          simp only at HFi
          have HX := Lib.hid hX
          clear hX
          have hbz3 : bz < w3.heap.size := by have := (HZ.out.kp HK3.out).lt; exact this
          go_wp2_with fail
          (with_reducible refine HFi.out.mono ?_)
          rintro e w4 ⟨hk4, t0, t1, tl, rfl, hP4⟩
          unfold tvv
          have hkq := Kp.new w4 (.cells #[.string pn, .slice t0.ao t0.n t0.c, .slice t1.ao t1.n t1.c, .slice tl.ao tl.n tl.c] 26)
          have HQ5 := Lib.hid (Four.new w4 (.string pn) (.slice t0.ao t0.n t0.c) (.slice t1.ao t1.n t1.c) (.slice tl.ao tl.n tl.c) 26)
          have HK5 := Lib.hid (Kp.trans HK3.out (Kp.trans hk4 hkq))
          have HP5 := Lib.hid (fun (w'' : World) (h : Fr [bz] (w4.alloc (.cells #[.string pn, .slice t0.ao t0.n t0.c, .slice t1.ao t1.n t1.c, .slice tl.ao tl.n tl.c] 26)) w'') => hP4 [bz] w'' (((Fr.of_kp hkq).mono (by simp)).trans h) (by simpa using hbz3))
          have HW := Lib.hid (Strs.kp HWs.out (Kp.trans hk4 hkq))
          clear hk4 hkq hP4 HFi hbz3
          go_upto_region 13 with fail
          generalize w4.alloc (.cells #[.string pn, .slice t0.ao t0.n t0.c, .slice t1.ao t1.n t1.c, .slice tl.ao tl.n tl.c] 26) = w5 at *
          generalize w4.heap.size = bq at *
          cases hr : rowOf (f.data.toList.takeWhile Q.upB) with
          | none =>
            have hx := HX.out
            rw [fnd_none hr] at hx
            obtain rfl : has = false := congrArg (fun z => z.2.2.2.2) hx
            have Hr := Lib.hid hr
            clear hx hr
            go_upto_region 14 with fail
            refine anyP_start (fun w => w.cell? ⟨0, 0, none⟩ = some (.iface 197 (.pointer (some (E 13))))) 3 (fun _ => True) (fun _ _ => False) (by kernel_rfl) (fun _ _ _ _ h => h.elim) ?_
            obtain ⟨wd, hwd⟩ : ∃ wd, wd = w5.drew := ⟨_, rfl⟩
            have hkd : Kp w5 wd := hwd ▸ (⟨rfl, rfl, rfl, Nat.le_refl _, fun _ _ => rfl⟩ : Kp w5 w5.drew)
            rw [← hwd]
            clear hwd
            have hkx := Kp.trans HK5.out hkd
            have hTd := hkx.cell HE.out.c13
            obtain ⟨wf2, hwf2, hF2, hPf2⟩ := (HZ.out.kp hkx).set (.string ⟨#[]⟩) (.slice none 0 0) (.slice none 0 0) (.slice none 0 0)
            obtain ⟨y0, y1, y2, y3, z0, z1, z2, z3⟩ := HZ.out.kp hkx
            obtain ⟨r0, r1, r2, r3, _, _, _, _⟩ := hPf2
            have Hwf2 := Lib.hid hwf2
            have HTf := Lib.hid (hF2.cell hTd (by simp; omega))
            have HKf := Lib.hid (kp_step' (Kp.trans HK0.out hkx) hF2 (fun j hj => by simp at hj; omega))
            clear hwf2 hF2 hkd hkx
            refine anyT_take puts_true [0] (by kernel_rfl) hTd ?_
            simp only [opsAt, List.getElem?_toArray, List.getElem?_cons_zero]
            repeat (go_big_quiet_step (fail))
            refine wpQuiet_nil ?_
            refine anyT_load puts_true 1 53 (.iface 197 (.pointer (some (E 13)))) rfl rfl (by kernel_rfl) hTd (fun w h => exec_load32 h rfl rfl) ?_
            simp only [Act.put, List.setIfInBounds_toArray, List.set_cons_zero, List.set_cons_succ]
            refine anyP_one 2 (by kernel_rfl) ?_
            simp only [opsAt, List.getElem?_toArray, List.getElem?_cons_zero, List.getElem?_cons_succ]
            clear hTd
            go_wp2_with fail
            rw [← Hwf2.out]
            refine ⟨fun _ => HTf.out, ?_⟩
            refine anyP_one 3 (by kernel_rfl) ?_
            simp only [opsAt, List.getElem?_toArray, List.getElem?_cons_zero, List.getElem?_cons_succ]
            clear y0 y1 y2 y3 z0 z1 z2 z3
            go_wp2_with fail
            refine ⟨fun h => absurd rfl h, ?_⟩
            refine anyP_end (by kernel_rfl) ?_
            go_wp2_with fail
            show bodyPost Tryz.prog Tryz.f11 (NmPost w (errN E) (nmD s.data.toList)) .ret _ _
            refine bodyPost_ret (v := .tuple #[zeroP, (.iface 197 (.pointer (some (E 13))))]) (by simp [results, Tryz.results11, go_sem, r0, r1, r2, r3]) rfl ?_
            exact NmPost.no HKf.out (parse_row Hf.out Hr.out) rfl
          | some y =>
            have hx := HX.out
            rw [fnd_some hr] at hx
            obtain ⟨rfl, rfl, rfl, rfl, rfl⟩ : pn = bs y.1 ∧ p0 = y.2.1.1 ∧ p1 = y.2.1.2 ∧ pl = y.2.2.1 ∧ has = true := by simpa using hx
            have Hy := Lib.hid (row_s hr).1
            have HPs := Lib.hid (parse_words Hf.out hr)
            clear hx hr
            by_cases hn0 : wn = 0
            · subst hn0
              have hl0 : l = [] := by rw [← Hwl.out]; have := HW.out.1; unfold wl; rw [List.length_eq_zero_iff.1 this]; rfl
              have HPn := Lib.hid (HPs.out.trans (by rw [Hb.out, hl0]))
              clear hl0
              obtain ⟨wf, hwf, hF2, hPf⟩ := (HZ.out.kp HK5.out).set (.string (bs y.1)) (.slice t0.ao t0.n t0.c) (.slice t1.ao t1.n t1.c) (.slice tl.ao tl.n tl.c)
              have Hk := Lib.hid (kp_step' (Kp.trans HK0.out HK5.out) hF2 (fun j hj => by simp at hj; omega))
              have HPf := Lib.hid (HP5.out _ hF2)
              obtain ⟨x0, x1, x2, x3, f0, f1, f2, f3⟩ := HZ.out.kp HK5.out
              obtain ⟨y0, y1, y2, y3, _, _, _, _⟩ := HQ5.out
              obtain ⟨r0, r1, r2, r3, _, _, _, _⟩ := hPf
              have Hwf := Lib.hid hwf
              clear hwf hF2
              go_wp2_with fail
              rw [← Hwf.out]
              show bodyPost Tryz.prog Tryz.f11 (NmPost w (errN E) (nmD s.data.toList)) .ret _ _
              refine bodyPost_ret (v := .tuple #[.agg #[.string (bs y.1), .slice t0.ao t0.n t0.c, .slice t1.ao t1.n t1.c, .slice tl.ao tl.n tl.c], .nilIface]) (by simp [results, Tryz.results11, go_sem, r0, r1, r2, r3]) rfl ?_
              exact NmPost.yes Hk.out HPn.out rfl rfl HPf.out
            · have hlen : ws.length = wn := HW.out.1
              have hcnt := behind_count Hb.out
              have hdl : (f.data.toList.dropWhile Q.upB).length ≤ f.size := by rw [Lib.size_eq]; exact (List.dropWhile_sublist _).length_le
              have hwn : wn ≤ 200 := by have h1 := hcnt.1; rw [← Hwl.out] at h1; unfold wl at h1; rw [List.length_map, hlen] at h1; omega
              have hwz : ∀ x ∈ ws, x.size ≤ 281474976710656 := fun x hx => by have h1 := hcnt.2 x.data.toList (by rw [← Hwl.out]; exact List.mem_map.2 ⟨x, hx, rfl⟩); rw [Lib.size_eq]; omega
              have Hbs := Lib.hid (show ShortP (bs y.1) t0.n t1.n tl.n y.2.2.1 from ⟨by rw [bs_size]; have := Hy.out.nm; omega, by rw [← (HP5.out w5 (Fr.refl _ _)).i0.1]; have := Hy.out.b0; omega, by rw [← (HP5.out w5 (Fr.refl _ _)).i1.1]; have := Hy.out.b1; omega, by rw [← (HP5.out w5 (Fr.refl _ _)).il.1]; have := Hy.out.ls; omega, fun l hl => by have := Hy.out.ts l hl; omega⟩)
              have hM := mod_all w5 E m (HE.out.keep HK5.out) (bs y.1) t0.ao t1.ao tl.ao t0.n t0.c t1.n t1.c tl.n tl.c y.2.1.1 y.2.1.2 y.2.2.1 (HP5.out w5 (Fr.refl _ _)) Hbs.out wo wn wcp ws HW.out hwz hwn
              rw [bs_list, show wb ws = l from Hwl.out] at hM
              have hcons : ∃ a r, l = a :: r := by cases hl : l with | nil => (exfalso; have h1 := Hwl.out; rw [hl] at h1; unfold wl at h1; have h2 := congrArg List.length h1; simp at h2; rw [h2] at hlen; exact hn0 (by simpa using hlen.symm)) | cons a r => exact ⟨a, r, rfl⟩
              have HPn := Lib.hid (show Q.parseN s.data.toList = (Q.modR ⟨y.1, y.2.1.1, y.2.1.2, y.2.2.1⟩ l).1 by obtain ⟨a, r, rfl⟩ := hcons; rw [HPs.out, Hb.out])
              have hbz5 : bz < w5.heap.size := by have := (HZ.out.kp HK5.out).lt; exact this
              have hwni : ¬ ((wn : Nat) : Int) = 0 := by omega
              have hwnb : (((wn : Nat) : Int) == 0) = false := by simpa using hwni
              have Hmm := Lib.hid (modR_mdf (p := ⟨y.1, y.2.1.1, y.2.1.2, y.2.2.1⟩) (ws := l))
              generalize mdf ⟨y.1, y.2.1.1, y.2.1.2, y.2.2.1⟩ l = X at hM Hmm
              have HM := Lib.hid hM
              clear hM hcons hwz hwn hcnt hlen hdl hn0 HPs
              obtain ⟨y0, y1, y2, y3, _, _, _, _⟩ := HQ5.out
              go_wp2_with fail
              (with_reducible refine HM.out.mono ?_)
              rintro e w6 ⟨hk6, u0, u1, ul, rfl, hP6⟩
              unfold tvv
              clear y0 y1 y2 y3 HM
              have hkq := Kp.new w6 (.cells #[.string X.1, .slice u0.ao u0.n u0.c, .slice u1.ao u1.n u1.c, .slice ul.ao ul.n ul.c] 26)
              have HQ7 := Lib.hid (Four.new w6 (.string X.1) (.slice u0.ao u0.n u0.c) (.slice u1.ao u1.n u1.c) (.slice ul.ao ul.n ul.c) 26)
              have HK7 := Lib.hid (Kp.trans HK5.out (Kp.trans hk6 hkq))
              have HP7 := Lib.hid (fun (w'' : World) (h : Fr [bz] (w6.alloc (.cells #[.string X.1, .slice u0.ao u0.n u0.c, .slice u1.ao u1.n u1.c, .slice ul.ao ul.n ul.c] 26)) w'') => hP6 [bz] w'' (((Fr.of_kp hkq).mono (by simp)).trans h) (by simpa using hbz5))
              clear hk6 hkq hP6
              go_upto_region 18 with fail
              generalize w6.alloc (.cells #[.string X.1, .slice u0.ao u0.n u0.c, .slice u1.ao u1.n u1.c, .slice ul.ao ul.n ul.c] 26) = w7 at *
              generalize w6.heap.size = bq2 at *
              rcases Hmm.out with ⟨q, hq1, hq2⟩ | ⟨hq1, hq2⟩
              · have HPq := Lib.hid (HPn.out.trans hq1)
                subst hq2
                rw [errV_nil]
                clear hq1 Hmm HPn
                obtain ⟨wf, hwf, hF2, hPf⟩ := (HZ.out.kp HK7.out).set (.string (bs q.nm)) (.slice u0.ao u0.n u0.c) (.slice u1.ao u1.n u1.c) (.slice ul.ao ul.n ul.c)
                have Hk := Lib.hid (kp_step' (Kp.trans HK0.out HK7.out) hF2 (fun j hj => by simp at hj; omega))
                have HPf := Lib.hid (HP7.out _ hF2)
                obtain ⟨x0, x1, x2, x3, f0, f1, f2, f3⟩ := HZ.out.kp HK7.out
                obtain ⟨y0, y1, y2, y3, _, _, _, _⟩ := HQ7.out
                obtain ⟨r0, r1, r2, r3, _, _, _, _⟩ := hPf
                have Hwf := Lib.hid hwf
                clear hwf hF2
                go_wp2_with fail
                rw [← Hwf.out]
                show bodyPost Tryz.prog Tryz.f11 (NmPost w (errN E) (nmD s.data.toList)) .ret _ _
                refine bodyPost_ret (v := .tuple #[.agg #[.string (bs q.nm), .slice u0.ao u0.n u0.c, .slice u1.ao u1.n u1.c, .slice ul.ao ul.n ul.c], .nilIface]) (by simp [results, Tryz.results11, go_sem, r0, r1, r2, r3]) rfl ?_
                exact NmPost.yes Hk.out HPq.out rfl rfl HPf.out
              · have HPq := Lib.hid (HPn.out.trans hq1)
                rw [errV_ptr E hq2]
                clear hq1 hq2 Hmm HPn
                go_upto_region 19 with fail
                refine anyP_start (fun w => w.cell? ⟨0, 0, none⟩ = some (.iface 197 (.pointer (some (E 13))))) 3 (fun _ => True) (fun _ _ => False) (by kernel_rfl) (fun _ _ _ _ h => h.elim) ?_
                obtain ⟨wd, hwd⟩ : ∃ wd, wd = w7.drew := ⟨_, rfl⟩
                have hkd : Kp w7 wd := hwd ▸ (⟨rfl, rfl, rfl, Nat.le_refl _, fun _ _ => rfl⟩ : Kp w7 w7.drew)
                rw [← hwd]
                clear hwd
                have hkx := Kp.trans HK7.out hkd
                have hTd := hkx.cell HE.out.c13
                obtain ⟨wf2, hwf2, hF2, hPf2⟩ := (HZ.out.kp hkx).set (.string ⟨#[]⟩) (.slice none 0 0) (.slice none 0 0) (.slice none 0 0)
                obtain ⟨y0, y1, y2, y3, z0, z1, z2, z3⟩ := HZ.out.kp hkx
                obtain ⟨r0, r1, r2, r3, _, _, _, _⟩ := hPf2
                have Hwf2 := Lib.hid hwf2
                have HTf := Lib.hid (hF2.cell hTd (by simp; omega))
                have HKf := Lib.hid (kp_step' (Kp.trans HK0.out hkx) hF2 (fun j hj => by simp at hj; omega))
                clear hwf2 hF2 hkd hkx
                refine anyT_take puts_true [0] (by kernel_rfl) hTd ?_
                simp only [opsAt, List.getElem?_toArray, List.getElem?_cons_zero]
                repeat (go_big_quiet_step (fail))
                refine wpQuiet_nil ?_
                refine anyT_load puts_true 1 67 (.iface 197 (.pointer (some (E 13)))) rfl rfl (by kernel_rfl) hTd (fun w h => exec_load32 h rfl rfl) ?_
                simp only [Act.put, List.setIfInBounds_toArray, List.set_cons_zero, List.set_cons_succ]
                refine anyP_one 2 (by kernel_rfl) ?_
                simp only [opsAt, List.getElem?_toArray, List.getElem?_cons_zero, List.getElem?_cons_succ]
                clear hTd
                go_wp2_with fail
                rw [← Hwf2.out]
                refine ⟨fun _ => HTf.out, ?_⟩
                refine anyP_one 3 (by kernel_rfl) ?_
                simp only [opsAt, List.getElem?_toArray, List.getElem?_cons_zero, List.getElem?_cons_succ]
                clear y0 y1 y2 y3 z0 z1 z2 z3
                go_wp2_with fail
                refine ⟨fun h => absurd rfl h, ?_⟩
                refine anyP_end (by kernel_rfl) ?_
                go_wp2_with fail
                show bodyPost Tryz.prog Tryz.f11 (NmPost w (errN E) (nmD s.data.toList)) .ret _ _
                refine bodyPost_ret (v := .tuple #[zeroP, (.iface 197 (.pointer (some (E 13))))]) (by simp [results, Tryz.results11, go_sem, r0, r1, r2, r3]) rfl ?_
                exact NmPost.no HKf.out (HPq.out) rfl
end Go.Proofs.YtbdphdgomcabmaaGreatDoor
