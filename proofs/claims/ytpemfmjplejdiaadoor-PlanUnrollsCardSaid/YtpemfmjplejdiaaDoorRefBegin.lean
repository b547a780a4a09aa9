/- What the document's check begins with; is it of one message? Conditions: the pattern lies there (Is, Lns); what is known ahead is e and s. -/
import Derived.Test.YtpemfmjplejdiaaDoorRefMem
import Derived.Test.YtpemfmjplejdiaaDoorRefShaped
namespace Go.Proofs.YtpemfmjplejdiaaDoor
open Go.RowKit

theorem begR_succ (d : Nat) (X : Nat → Bool) (l : List Int) (k : Nat) (h : k < l.length) : begR d X (l.take (k + 1)) = if l[k] = 1 then upd (begR d X (l.take k)) d true else upd (begR d X (l.take k)) (2 + d) true := by
  unfold begR
  rw [take_step l k h, List.foldl_append]; rfl

theorem begR_take (d : Nat) (X : Nat → Bool) (l : List Int) : begR d X (l.take l.length) = begR d X l := by rw [List.take_length]
theorem SnAt.of_eq {w : World} {b : Nat} {X Y : Nat → Bool} (h : SnAt w b X) (e : X = Y) : SnAt w b Y := e ▸ h

set_option maxRecDepth 100000 in
set_option maxHeartbeats 4000000 in
theorem begin_any (w : World) (nm : ByteArray) (a0 a1 al : Option Addr) (n0 c0 n1 c1 nl cl : Nat) (b0 b1 : List Int) (h0 : Is w a0 n0 b0) (h1 : Is w a1 n1 b1) :
    Calls Tryd.prog 43 #[.agg #[.string nm, .slice a0 n0 c0, .slice a1 n1 c1, .slice al nl cl]] w fun e w' => e = .returned (snV (begunR b0 b1)) ∧ Kp w w' := by
  have hm0 := h0.2.1
  have hm1 := h1.2.1
  unfold maxLen at hm0 hm1
  go_enter Tryd.func43, Tryd.ntmps43
  go_upto_region 2 with fail
  have hk1 := Kp.new w (.cells #[.string nm, .slice a0 n0 c0, .slice a1 n1 c1, .slice al nl cl] 26)
  have hB := Bx.new w nm a0 a1 al n0 c0 n1 c1 nl cl
  have hs1 : (w.alloc (.cells #[.string nm, .slice a0 n0 c0, .slice a1 n1 c1, .slice al nl cl] 26)).heap.size = w.heap.size + 1 := by simp
  generalize w.alloc (.cells #[.string nm, .slice a0 n0 c0, .slice a1 n1 c1, .slice al nl cl] 26) = wa at hk1 hB hs1 ⊢
  have hk2 := Kp.new wa (.cells #[.bool false, .bool false, .bool false, .bool false, .bool false, .bool false, .bool false, .bool false, .bool false, .bool false, .bool false, .bool false] 88)
  have hR := SnAt.zero wa
  have hs2 : (wa.alloc (.cells #[.bool false, .bool false, .bool false, .bool false, .bool false, .bool false, .bool false, .bool false, .bool false, .bool false, .bool false, .bool false] 88)).heap.size = wa.heap.size + 1 := by simp
  generalize wa.alloc (.cells #[.bool false, .bool false, .bool false, .bool false, .bool false, .bool false, .bool false, .bool false, .bool false, .bool false, .bool false, .bool false] 88) = wb at hk2 hR hs2 ⊢
  have hk3 := Kp.new wb (.cells #[.bool false, .bool false, .bool false, .bool false, .bool false, .bool false, .bool false, .bool false, .bool false, .bool false, .bool false, .bool false] 88)
  have hX := SnAt.zero wb
  have hs3 : (wb.alloc (.cells #[.bool false, .bool false, .bool false, .bool false, .bool false, .bool false, .bool false, .bool false, .bool false, .bool false, .bool false, .bool false] 88)).heap.size = wb.heap.size + 1 := by simp
  generalize wb.alloc (.cells #[.bool false, .bool false, .bool false, .bool false, .bool false, .bool false, .bool false, .bool false, .bool false, .bool false, .bool false, .bool false] 88) = wc at hk3 hX hs3 ⊢
  obtain ⟨bb, hbb⟩ : ∃ bb, bb = w.heap.size := ⟨_, rfl⟩
  have e1 : wa.heap.size = bb + 1 := by omega
  have e2 : wb.heap.size = bb + 2 := by omega
  rw [← hbb] at hB
  rw [e1] at hR
  rw [e2] at hX
  replace hB := (hB.kp hk2).kp hk3
  replace hR := hR.kp hk3
  have hkc := Kp.trans hk1 (Kp.trans hk2 hk3)
  have Hk := Lib.hid (And.intro hkc hbb)
  clear hk1 hk2 hk3 hs1 hs2 hs3 e1 e2 hkc
  rw [← hbb]
  clear hbb
  go_wp2_with fail
  go_loopw [4] (fun i wr => ∃ k : Nat, k ≤ 2 ∧ i = .int .i64 (k : Nat) ∧ Fr [bb + 2] wc wr ∧ SnAt wr (bb + 2) (if k = 0 then S0 else if k = 1 then begR 0 S0 b0 else begunR b0 b1)) (fun i _ => 2 - (intOf i).toNat)
  case atStart => exact ⟨0, by omega, rfl, Fr.refl _ _, hX⟩
  case round =>
    clear hX
    obtain ⟨k, hk, rfl, hF, hS⟩ := hrel
    rcases (show k = 0 ∨ k = 1 ∨ k = 2 by omega) with rfl | rfl | rfl
    · rw [if_pos rfl] at hS
      go_wp2_with fail
      go_loopw [5] (fun i wv => ∃ j : Nat, j ≤ n0 ∧ i = .int .i64 (j : Nat) ∧ Fr [bb + 2] wc wv ∧ SnAt wv (bb + 2) (begR 0 S0 (b0.take j))) (fun i _ => n0 - (intOf i).toNat)
      case atStart => exact ⟨0, by omega, rfl, hF, hS⟩
      case round =>
        clear hF hS
        obtain ⟨j, hj, rfl, hF, hS⟩ := hrel
        obtain ⟨y0, y1, y2, y3⟩ := hB.fr hF (by simp)
        by_cases hjn : j < n0
        · have hjl : j < b0.length := by rw [h0.1]; exact hjn
          obtain ⟨tb, toff, rfl, htl, hcc⟩ := h0.at j hjn
          have hck := hF.cell ((Hk.out.1).cell (hcc j hjn)) (by have := Hk.out.2; simp; omega)
          have hsu := begR_succ 0 S0 b0 j hjl
          clear hcc
          generalize b0[j]'hjl = t at hck hsu
          have Hsu := Lib.hid hsu; clear hsu
          by_cases ht : t = 1
          · subst ht
            have hS2 := hS.set 0 (by omega) true
            rw [if_pos rfl] at Hsu
            obtain ⟨q1, q2⟩ := hS 0 (by omega)
            have HS2 := Lib.hid hS2; clear hS2 hS
            go_wp2_with fail
            go_roundw
            case rel => exact ⟨j + 1, by omega, by go_num, hF.trans (Fr.set _ ⟨bb + 2, 0, none⟩ _), by rw [Hsu.out]; exact HS2.out⟩
            case measure => simp [intOf]; omega
          · have hb : (t == 1) = false := by simpa using ht
            rw [if_neg ht] at Hsu
            have hS2 := hS.set 2 (by omega) true
            obtain ⟨q1, q2⟩ := hS 2 (by omega)
            have HS2 := Lib.hid hS2; clear hS2 hS
            go_wp2_with fail
            go_roundw
            case rel => exact ⟨j + 1, by omega, by go_num, hF.trans (Fr.set _ ⟨bb + 2, 2, none⟩ _), by rw [Hsu.out]; exact HS2.out⟩
            case measure => simp [intOf]; omega
        · obtain rfl : j = n0 := by omega
          have hS' : SnAt wr (bb + 2) (begR 0 S0 b0) := hS.of_eq (by rw [← h0.1, List.take_length])
          clear hS
          go_wp2_with fail
          go_roundw
          case rel => exact ⟨1, by omega, by go_num, hF, hS'⟩
          case measure => simp [intOf]
    · rw [if_neg (by decide), if_pos rfl] at hS
      go_wp2_with fail
      go_loopw [5] (fun i wv => ∃ j : Nat, j ≤ n1 ∧ i = .int .i64 (j : Nat) ∧ Fr [bb + 2] wc wv ∧ SnAt wv (bb + 2) (begR 1 (begR 0 S0 b0) (b1.take j))) (fun i _ => n1 - (intOf i).toNat)
      case atStart => exact ⟨0, by omega, rfl, hF, hS⟩
      case round =>
        clear hF hS
        obtain ⟨j, hj, rfl, hF, hS⟩ := hrel
        obtain ⟨y0, y1, y2, y3⟩ := hB.fr hF (by simp)
        by_cases hjn : j < n1
        · have hjl : j < b1.length := by rw [h1.1]; exact hjn
          obtain ⟨tb, toff, rfl, htl, hcc⟩ := h1.at j hjn
          have hck := hF.cell ((Hk.out.1).cell (hcc j hjn)) (by have := Hk.out.2; simp; omega)
          have hsu := begR_succ 1 (begR 0 S0 b0) b1 j hjl
          clear hcc
          generalize b1[j]'hjl = t at hck hsu
          have Hsu := Lib.hid hsu; clear hsu
          by_cases ht : t = 1
          · subst ht
            have hS2 := hS.set 1 (by omega) true
            rw [if_pos rfl] at Hsu
            obtain ⟨q1, q2⟩ := hS 1 (by omega)
            have HS2 := Lib.hid hS2; clear hS2 hS
            go_wp2_with fail
            go_roundw
            case rel => exact ⟨j + 1, by omega, by go_num, hF.trans (Fr.set _ ⟨bb + 2, 1, none⟩ _), by rw [Hsu.out]; exact HS2.out⟩
            case measure => simp [intOf]; omega
          · have hb : (t == 1) = false := by simpa using ht
            rw [if_neg ht] at Hsu
            have hS2 := hS.set 3 (by omega) true
            obtain ⟨q1, q2⟩ := hS 3 (by omega)
            have HS2 := Lib.hid hS2; clear hS2 hS
            go_wp2_with fail
            go_roundw
            case rel => exact ⟨j + 1, by omega, by go_num, hF.trans (Fr.set _ ⟨bb + 2, 3, none⟩ _), by rw [Hsu.out]; exact HS2.out⟩
            case measure => simp [intOf]; omega
        · obtain rfl : j = n1 := by omega
          have hS' : SnAt wr (bb + 2) (begunR b0 b1) := hS.of_eq (by rw [← h1.1, List.take_length]; rfl)
          clear hS
          go_wp2_with fail
          go_roundw
          case rel => exact ⟨2, by omega, by go_num, hF, hS'⟩
          case measure => simp [intOf]
    · rw [if_neg (by decide), if_neg (by decide)] at hS
      have hR2 := hR.fr hF (by simp)
      have hst := (hR2.store (begunR b0 b1)).2
      have hkf : Kp w wr := ((Fr.of_kp Hk.out.1).step hF (fun i hi => .inr (by have := Hk.out.2; simp at hi; omega))).kp
      have Hfin := Lib.hid (((Fr.of_kp hkf).step hst (fun i hi => .inr (by have := Hk.out.2; simp at hi; omega))).kp)
      obtain ⟨x0, x1, x2, x3, x4, x5, x6, x7, x8, x9, x10, x11⟩ := hS.cells
      obtain ⟨z0, z1, z2, z3, z4, z5, z6, z7, z8, z9, z10, z11⟩ := hR2.cells
      obtain ⟨f0, f1, f2, f3, f4, f5, f6, f7, f8, f9, f10, f11⟩ := hR2.free
      clear hst hkf hR2 hS hF hR hB h0 h1
      go_wp2_with fail
      refine bodyPost_ret (v := snV (begunR b0 b1)) (by simp [results, Tryd.results43, go_sem, snV, *]) rfl ⟨rfl, Hfin.out⟩

set_option maxHeartbeats 2000000 in
theorem oneWay_any (w : World) (nm : ByteArray) (a0 a1 al : Option Addr) (n0 c0 n1 c1 nl cl : Nat) (ls : List Ln) (hl : Lns w al nl ls) :
    Calls Tryd.prog 46 #[.agg #[.string nm, .slice a0 n0 c0, .slice a1 n1 c1, .slice al nl cl]] w fun e w' => e = .returned (.bool (oneWay ls)) ∧ Kp w w' := by
  by_cases h1 : nl = 1
  · subst h1
    have hll : 0 < ls.length := by rw [hl.1]; omega
    obtain ⟨b, off, tp, tn, tc, rfl, hc1, _, _, _⟩ := hl.2.2 0 hll
    rw [Nat.zero_mul, Nat.add_zero] at hc1
    have Ho := Lib.hid (show oneWay ls = (ls[0].1 == 0) by unfold oneWay; rw [hl.1, List.getElem?_eq_getElem hll]; simp)
    generalize ls[0].1 = f at hc1 Ho
    have hc2 := fun o => Kp.cell (Kp.new w o) hc1
    clear hc1
    go_enter Tryd.func46, Tryd.ntmps46
    go_wp2_with fail
    go_ret
    exact ⟨by rw [Ho.out]; rfl, Kp.new _ _⟩
  · have hb : ((nl : Int) == 1) = false := by simp; omega
    have Ho := Lib.hid (show oneWay ls = false by unfold oneWay; rw [hl.1]; simp [h1])
    go_enter Tryd.func46, Tryd.ntmps46
    go_wp2_with fail
    go_ret
    exact ⟨by rw [Ho.out]; rfl, Kp.new _ _⟩
end Go.Proofs.YtpemfmjplejdiaaDoor
