/- A protocol's name printed, by both engines. Conditions: the variables lie there (Env); the text's length. -/
import Derived.Test.YtbdphdgomcabmaaGreatDoorAwk
namespace Go.Proofs.YtbdphdgomcabmaaGreatDoor
open Go.RowKit

/-- What Print answers: the name, or a mistake. -/
def PrP (v u : Value) (n : ByteArray) (b : Bool) (e : Ending) : Prop := match b with
  | true => e = .returned (.tuple #[.string n, v])
  | false => e = .returned (.tuple #[.string ⟨#[]⟩, u])
set_option maxRecDepth 100000 in
set_option maxHeartbeats 4000000 in
theorem prE_any (w : World) (E : Nat → Addr) (m : Int) (hE : Env w E m) (full : ByteArray) (hs : full.size ≤ 140737488351232) : Calls Tryz.prog 18 #[.string full] w fun e w' => Kp w w' ∧ PrP .nilIface (.iface 197 (.pointer (some (E 13)))) (⟨#[78, 111, 105, 115, 101, 95]⟩ ++ full ++ ⟨#[95, 50, 53, 53, 49, 57, 95, 67, 104, 97, 67, 104, 97, 80, 111, 108, 121, 95, 66, 76, 65, 75, 69, 50, 115]⟩) (nmD (⟨#[78, 111, 105, 115, 101, 95]⟩ ++ full ++ ⟨#[95, 50, 53, 53, 49, 57, 95, 67, 104, 97, 67, 104, 97, 80, 111, 108, 121, 95, 66, 76, 65, 75, 69, 50, 115]⟩).data.toList).2.2.2.2 e := by
  have HE := Lib.hid hE
  have hq1 : (⟨#[78, 111, 105, 115, 101, 95]⟩ : ByteArray).size = 6 := rfl
  have hq2 : (⟨#[95, 50, 53, 53, 49, 57, 95, 67, 104, 97, 67, 104, 97, 80, 111, 108, 121, 95, 66, 76, 65, 75, 69, 50, 115]⟩ : ByteArray).size = 25 := rfl
  have hq3 : (⟨#[78, 111, 105, 115, 101, 95]⟩ ++ full : ByteArray).size = 6 + full.size := by rw [ByteArray.size_append]; rfl
  have hq4 : (⟨#[78, 111, 105, 115, 101, 95]⟩ ++ full ++ ⟨#[95, 50, 53, 53, 49, 57, 95, 67, 104, 97, 67, 104, 97, 80, 111, 108, 121, 95, 66, 76, 65, 75, 69, 50, 115]⟩).size = 31 + full.size := by rw [ByteArray.size_append, hq3, hq2]; omega
  have hq5 : (⟨#[78, 111, 105, 115, 101, 95]⟩ : ByteArray).size + full.size ≤ 140737488351300 := by omega
  have hq6 : (⟨#[78, 111, 105, 115, 101, 95]⟩ ++ full : ByteArray).size + (⟨#[95, 50, 53, 53, 49, 57, 95, 67, 104, 97, 67, 104, 97, 80, 111, 108, 121, 95, 66, 76, 65, 75, 69, 50, 115]⟩ : ByteArray).size ≤ 140737488351300 := by omega
  have Hq4 := Lib.hid hq4
  clear hq1 hq2 hq3 hq4
  have HP := Lib.hid (parseN_any w E m hE (⟨#[78, 111, 105, 115, 101, 95]⟩ ++ full ++ ⟨#[95, 50, 53, 53, 49, 57, 95, 67, 104, 97, 67, 104, 97, 80, 111, 108, 121, 95, 66, 76, 65, 75, 69, 50, 115]⟩))
  unfold NmPost at HP
  generalize nmD (⟨#[78, 111, 105, 115, 101, 95]⟩ ++ full ++ ⟨#[95, 50, 53, 53, 49, 57, 95, 67, 104, 97, 67, 104, 97, 80, 111, 108, 121, 95, 66, 76, 65, 75, 69, 50, 115]⟩).data.toList = X at HP ⊢
  obtain ⟨nm, b0, b1, ls, has⟩ := X
  simp only at HP ⊢
  cases has with
  | true =>
    simp only [if_true, errN] at HP
    go_enter Tryz.func18, Tryz.ntmps18
    go_wp2_with fail
    (with_reducible refine HP.out.mono ?_)
    rintro e w1 ⟨hk1, t0, t1, tl, rfl, hP1⟩
    unfold tvv
    have hk2 := Kp.trans hk1 (Kp.new w1 (.cells #[.string nm, .slice t0.ao t0.n t0.c, .slice t1.ao t1.n t1.c, .slice tl.ao tl.n tl.c] 26))
    have HK2 := Lib.hid hk2
    clear hk1 hk2 hP1 HP
    go_wp2_with fail
    show bodyPost Tryz.prog Tryz.f18 _ .ret _ _
    refine bodyPost_ret (v := .tuple #[.string (⟨#[78, 111, 105, 115, 101, 95]⟩ ++ full ++ ⟨#[95, 50, 53, 53, 49, 57, 95, 67, 104, 97, 67, 104, 97, 80, 111, 108, 121, 95, 66, 76, 65, 75, 69, 50, 115]⟩), .nilIface]) (by simp [results, Tryz.results18, go_sem]) rfl ?_
    exact ⟨HK2.out, rfl⟩
  | false =>
    simp only [Bool.false_eq_true, if_false, errN] at HP
    go_enter Tryz.func18, Tryz.ntmps18
    go_wp2_with fail
    (with_reducible refine HP.out.mono ?_)
    rintro e w1 ⟨hk1, t0, t1, tl, rfl, hP1⟩
    unfold tvv
    have hk2 := Kp.trans hk1 (Kp.new w1 (.cells #[.string nm, .slice t0.ao t0.n t0.c, .slice t1.ao t1.n t1.c, .slice tl.ao tl.n tl.c] 26))
    have HK2 := Lib.hid hk2
    clear hk1 hk2 hP1 HP
    have hc := (HE.out.keep HK2.out).c13
    go_upto_region 4 with fail
    generalize w1.alloc (.cells #[.string nm, .slice t0.ao t0.n t0.c, .slice t1.ao t1.n t1.c, .slice tl.ao tl.n tl.c] 26) = w2 at *
    refine region_tailq 2 (by kernel_rfl) (by kernel_rfl) ?_
    obtain ⟨wd, hwd⟩ : ∃ wd, wd = w2.drew := ⟨_, rfl⟩
    have hkd : Kp w2 wd := hwd ▸ (⟨rfl, rfl, rfl, Nat.le_refl _, fun _ _ => rfl⟩ : Kp w2 w2.drew)
    rw [← hwd]
    clear hwd
    replace hc := hkd.cell hc
    have HK3 := Lib.hid (Kp.trans HK2.out hkd)
    clear hkd
    simp only [List.take_succ_cons, List.take_zero, List.drop_succ_cons, List.drop_zero]
    repeat (go_big_quiet_step (fail))
    refine wpQuiet_nil ?_
    go_wp2_with fail
    show bodyPost Tryz.prog Tryz.f18 _ .ret _ _
    refine bodyPost_ret (v := .tuple #[.string ⟨#[]⟩, (.iface 197 (.pointer (some (E 13))))]) (by simp [results, Tryz.results18, go_sem]) rfl ?_
    exact ⟨HK3.out, rfl⟩
set_option maxRecDepth 100000 in
set_option maxHeartbeats 4000000 in
theorem prR_any (w : World) (full : ByteArray) (hs : full.size ≤ 140737488351232) : Calls Tryz.prog 19 #[.string full] w fun e w' => Kp w w' ∧ PrP (iv 0) (iv 13) (⟨#[78, 111, 105, 115, 101, 95]⟩ ++ full ++ ⟨#[95, 50, 53, 53, 49, 57, 95, 67, 104, 97, 67, 104, 97, 80, 111, 108, 121, 95, 66, 76, 65, 75, 69, 50, 115]⟩) (nmD (⟨#[78, 111, 105, 115, 101, 95]⟩ ++ full ++ ⟨#[95, 50, 53, 53, 49, 57, 95, 67, 104, 97, 67, 104, 97, 80, 111, 108, 121, 95, 66, 76, 65, 75, 69, 50, 115]⟩).data.toList).2.2.2.2 e := by
  have hq1 : (⟨#[78, 111, 105, 115, 101, 95]⟩ : ByteArray).size = 6 := rfl
  have hq2 : (⟨#[95, 50, 53, 53, 49, 57, 95, 67, 104, 97, 67, 104, 97, 80, 111, 108, 121, 95, 66, 76, 65, 75, 69, 50, 115]⟩ : ByteArray).size = 25 := rfl
  have hq3 : (⟨#[78, 111, 105, 115, 101, 95]⟩ ++ full : ByteArray).size = 6 + full.size := by rw [ByteArray.size_append]; rfl
  have hq4 : (⟨#[78, 111, 105, 115, 101, 95]⟩ ++ full ++ ⟨#[95, 50, 53, 53, 49, 57, 95, 67, 104, 97, 67, 104, 97, 80, 111, 108, 121, 95, 66, 76, 65, 75, 69, 50, 115]⟩).size = 31 + full.size := by rw [ByteArray.size_append, hq3, hq2]; omega
  have hq5 : (⟨#[78, 111, 105, 115, 101, 95]⟩ : ByteArray).size + full.size ≤ 140737488351300 := by omega
  have hq6 : (⟨#[78, 111, 105, 115, 101, 95]⟩ ++ full : ByteArray).size + (⟨#[95, 50, 53, 53, 49, 57, 95, 67, 104, 97, 67, 104, 97, 80, 111, 108, 121, 95, 66, 76, 65, 75, 69, 50, 115]⟩ : ByteArray).size ≤ 140737488351300 := by omega
  have Hq4 := Lib.hid hq4
  clear hq1 hq2 hq3 hq4
  have HP := Lib.hid (rparseN_any w (⟨#[78, 111, 105, 115, 101, 95]⟩ ++ full ++ ⟨#[95, 50, 53, 53, 49, 57, 95, 67, 104, 97, 67, 104, 97, 80, 111, 108, 121, 95, 66, 76, 65, 75, 69, 50, 115]⟩) (by rw [Hq4.out]; omega))
  unfold NmPost at HP
  generalize nmD (⟨#[78, 111, 105, 115, 101, 95]⟩ ++ full ++ ⟨#[95, 50, 53, 53, 49, 57, 95, 67, 104, 97, 67, 104, 97, 80, 111, 108, 121, 95, 66, 76, 65, 75, 69, 50, 115]⟩).data.toList = X at HP ⊢
  obtain ⟨nm, b0, b1, ls, has⟩ := X
  simp only at HP ⊢
  cases has with
  | true =>
    simp only [if_true] at HP
    go_enter Tryz.func19, Tryz.ntmps19
    go_wp2_with fail
    (with_reducible refine HP.out.mono ?_)
    rintro e w1 ⟨hk1, t0, t1, tl, rfl, hP1⟩
    unfold tvv
    have hk2 := Kp.trans hk1 (Kp.new w1 (.cells #[.string nm, .slice t0.ao t0.n t0.c, .slice t1.ao t1.n t1.c, .slice tl.ao tl.n tl.c] 26))
    have HK2 := Lib.hid hk2
    clear hk1 hk2 hP1 HP
    go_wp2_with fail
    show bodyPost Tryz.prog Tryz.f19 _ .ret _ _
    refine bodyPost_ret (v := .tuple #[.string (⟨#[78, 111, 105, 115, 101, 95]⟩ ++ full ++ ⟨#[95, 50, 53, 53, 49, 57, 95, 67, 104, 97, 67, 104, 97, 80, 111, 108, 121, 95, 66, 76, 65, 75, 69, 50, 115]⟩), iv 0]) (by simp [results, Tryz.results19, go_sem]) rfl ?_
    exact ⟨HK2.out, rfl⟩
  | false =>
    simp only [Bool.false_eq_true, if_false] at HP
    go_enter Tryz.func19, Tryz.ntmps19
    go_wp2_with fail
    (with_reducible refine HP.out.mono ?_)
    rintro e w1 ⟨hk1, t0, t1, tl, rfl, hP1⟩
    unfold tvv
    have hk2 := Kp.trans hk1 (Kp.new w1 (.cells #[.string nm, .slice t0.ao t0.n t0.c, .slice t1.ao t1.n t1.c, .slice tl.ao tl.n tl.c] 26))
    have HK2 := Lib.hid hk2
    clear hk1 hk2 hP1 HP
    go_wp2_with fail
    show bodyPost Tryz.prog Tryz.f19 _ .ret _ _
    refine bodyPost_ret (v := .tuple #[.string ⟨#[]⟩, iv 13]) (by simp [results, Tryz.results19, go_sem]) rfl ?_
    exact ⟨HK2.out, rfl⟩
theorem nm_big {full : ByteArray} (h : 1000 < full.size) : nmD (⟨#[78, 111, 105, 115, 101, 95]⟩ ++ full ++ ⟨#[95, 50, 53, 53, 49, 57, 95, 67, 104, 97, 67, 104, 97, 80, 111, 108, 121, 95, 66, 76, 65, 75, 69, 50, 115]⟩).data.toList = (⟨#[]⟩, [], [], [], false) := by
  unfold nmD
  rw [parse_none (full_255 (by rw [ByteArray.size_append, ByteArray.size_append]; omega))]
theorem nm_list (full : ByteArray) : (⟨#[78, 111, 105, 115, 101, 95]⟩ ++ full ++ ⟨#[95, 50, 53, 53, 49, 57, 95, 67, 104, 97, 67, 104, 97, 80, 111, 108, 121, 95, 66, 76, 65, 75, 69, 50, 115]⟩).data.toList = Q.headN ++ full.data.toList ++ Q.tailN := by
  simp [ByteArray.data_append, Q.headN, Q.tailN]
theorem patN_code {x : Q.Bt} {q : Q.Pn} (h : Q.patN x = some q) : checkL q.b0 q.b1 q.ls = 0 := by
  unfold Q.patN at h
  split at h
  · cases h
  · rename_i y hy
    have hs := (row_s (show rowOf (x.takeWhile Q.upB) = some y from hy)).1
    split at h
    · cases h
    · cases h; exact hs.ck
    · rename_i a r _
      cases hm : Q.modR ⟨y.1, y.2.1.1, y.2.1.2, y.2.2.1⟩ (a :: r) with
      | mk z c =>
        rw [hm] at h
        cases h
        exact (Q.modR_nm hm).2
/-- What is found bears the name, and is valid. -/
theorem nm_fine {full : ByteArray} {nm : ByteArray} {b0 b1 : List Int} {ls : List Ln} (h : nmD (⟨#[78, 111, 105, 115, 101, 95]⟩ ++ full ++ ⟨#[95, 50, 53, 53, 49, 57, 95, 67, 104, 97, 67, 104, 97, 80, 111, 108, 121, 95, 66, 76, 65, 75, 69, 50, 115]⟩).data.toList = (nm, b0, b1, ls, true)) : nm = full ∧ checkL b0 b1 ls = 0 := by
  unfold nmD Q.parseN at h
  rw [nm_list] at h
  rcases Nat.lt_or_ge 224 full.data.toList.length with q | q
  · rw [Q.fullN_long q] at h
    cases h
  · rw [Q.fullN_of q] at h
    simp only [Option.bind_some] at h
    cases hp : Q.patN full.data.toList with
    | none => rw [hp] at h; cases h
    | some p =>
      rw [hp] at h
      simp only [Prod.mk.injEq] at h
      obtain ⟨rfl, rfl, rfl, rfl, _⟩ := h
      exact ⟨by rw [Q.patN_nm hp]; exact bs_data full, patN_code hp⟩
set_option maxRecDepth 100000 in
set_option maxHeartbeats 4000000 in
theorem nprints_true (w : World) (E : Nat → Addr) (m : Int) (hE : Env w E m) (full : ByteArray) (hs : full.size ≤ 140737488351232) : Calls Tryz.prog 8 #[.string full] w fun e w' => e = .returned (.bool true) ∧ Kp w w' := by
  have HE := Lib.hid hE
  clear hE
  have HP := Lib.hid (prE_any w E m HE.out full hs)
  by_cases h1 : 1000 < full.size
  · have h1I : (1000 : Int) < (full.size : Nat) := by omega
    rw [nm_big h1] at HP
    unfold PrP at HP
    simp only at HP
    go_enter Tryz.func8, Tryz.ntmps8
    go_wp2_with fail
    (with_reducible refine HP.out.mono ?_)
    rintro e w1 ⟨hk1, rfl⟩
    have HN := Lib.hid (awake_any w1 E m (HE.out.keep hk1))
    have hc := (HE.out.keep hk1).c13
    have es := eq_same w1 (E 13)
    have HK1 := Lib.hid hk1
    clear hk1 HP
    go_wp2_with fail
    (with_reducible refine HN.out.mono ?_)
    rintro e w6 ⟨rfl, hk6⟩
    have HK6 := Lib.hid (Kp.trans HK1.out hk6)
    clear hk6
    go_wp2_with fail
    go_ret
    exact ⟨rfl, HK6.out⟩
  · have h1I : ¬ (1000 : Int) < (full.size : Nat) := by omega
    have HR := Lib.hid (fun v : World => prR_any v full hs)
    obtain ⟨n, hn⟩ : ∃ n, n = (⟨#[78, 111, 105, 115, 101, 95]⟩ ++ full ++ ⟨#[95, 50, 53, 53, 49, 57, 95, 67, 104, 97, 67, 104, 97, 80, 111, 108, 121, 95, 66, 76, 65, 75, 69, 50, 115]⟩) := ⟨_, rfl⟩
    rw [← hn] at HP HR
    clear hn
    generalize (nmD n.data.toList).2.2.2.2 = has at HP HR
    have hnb : (n.toList == n.toList) = true := beq_self_eq_true _
    cases has with
    | true =>
      unfold PrP at HP HR
      simp only at HP HR
      have HCd := Lib.hid (fun (v : World) (hv : Kp w v) => codeN_any v E m (HE.out.keep hv) true)
      simp only [if_true] at HCd
      go_enter Tryz.func8, Tryz.ntmps8
      go_wp2_with fail
      (with_reducible refine HP.out.mono ?_)
      rintro e w1 ⟨hk1, rfl⟩
      have HC := Lib.hid (HR.out w1)
      have HK1 := Lib.hid hk1
      clear hk1 HP HR
      go_wp2_with fail
      (with_reducible refine HC.out.mono ?_)
      rintro e w2 ⟨hk2, rfl⟩
      have HK2 := Lib.hid (Kp.trans HK1.out hk2)
      clear hk2 HC
      go_wp2_with fail
      (with_reducible refine (HCd.out w2 HK2.out).mono ?_)
      rintro e wv ⟨rfl, rfl⟩
      have HN := Lib.hid (awake_any w2 E m (HE.out.keep HK2.out))
      go_wp2_with fail
      (with_reducible refine HN.out.mono ?_)
      rintro e w6 ⟨rfl, hk6⟩
      have HK6 := Lib.hid (Kp.trans HK2.out hk6)
      clear hk6
      go_wp2_with fail
      go_ret
      exact ⟨rfl, HK6.out⟩
    | false =>
      unfold PrP at HP HR
      simp only at HP HR
      have HCd := Lib.hid (fun (v : World) (hv : Kp w v) => codeN_any v E m (HE.out.keep hv) false)
      simp only [Bool.false_eq_true, if_false] at HCd
      go_enter Tryz.func8, Tryz.ntmps8
      go_wp2_with fail
      (with_reducible refine HP.out.mono ?_)
      rintro e w1 ⟨hk1, rfl⟩
      have HC := Lib.hid (HR.out w1)
      have HK1 := Lib.hid hk1
      clear hk1 HP HR
      go_wp2_with fail
      (with_reducible refine HC.out.mono ?_)
      rintro e w2 ⟨hk2, rfl⟩
      have HK2 := Lib.hid (Kp.trans HK1.out hk2)
      clear hk2 HC
      go_wp2_with fail
      (with_reducible refine (HCd.out w2 HK2.out).mono ?_)
      rintro e wv ⟨rfl, rfl⟩
      have HN := Lib.hid (awake_any w2 E m (HE.out.keep HK2.out))
      go_wp2_with fail
      (with_reducible refine HN.out.mono ?_)
      rintro e w6 ⟨rfl, hk6⟩
      have HK6 := Lib.hid (Kp.trans HK2.out hk6)
      clear hk6
      go_wp2_with fail
      go_ret
      exact ⟨rfl, HK6.out⟩
end Go.Proofs.YtbdphdgomcabmaaGreatDoor
