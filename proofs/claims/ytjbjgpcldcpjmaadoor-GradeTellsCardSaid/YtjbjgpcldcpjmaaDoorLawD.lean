/- Who sends a message, and what stands up to it, as the law looks. Condition: the pattern lies there (Lns). -/
import Derived.Test.YtjbjgpcldcpjmaaDoorGa6
namespace Go.Proofs.YtjbjgpcldcpjmaaDoor
open Go.RowKit

def has3 (T : List Ln) (a b c : Int) : Bool := Q.hasT T a || (Q.hasT T b || Q.hasT T c)
def con3 (ts : List Int) (a b c : Int) : Bool := ts.contains a || (ts.contains b || ts.contains c)
theorem has3_none {T : List Ln} {a b c : Int} (h : has3 T a b c = false) : Q.hasT T a = false ∧ Q.hasT T b = false ∧ Q.hasT T c = false := by
  unfold has3 at h
  simpa using h
theorem con3_none {ts : List Int} {a b c : Int} (h : con3 ts a b c = false) : ts.contains a = false ∧ ts.contains b = false ∧ ts.contains c = false := by
  unfold con3 at h
  simp only [Bool.or_eq_false_iff] at h
  exact ⟨h.1, h.2.1, h.2.2⟩
theorem has3_step {ls : List Ln} {k : Nat} {a b c : Int} (h : k < ls.length) (h1 : has3 (ls.take k) a b c = false) (h2 : con3 ls[k].2 a b c = false) : has3 (ls.take (k + 1)) a b c = false := by
  obtain ⟨x, y, z⟩ := has3_none h1
  obtain ⟨u, v, t⟩ := con3_none h2
  unfold has3
  rw [hasT_step h x u, hasT_step h y v, hasT_step h z t]; rfl
theorem con3_step {ts : List Int} {j : Nat} {a b c : Int} (h : j < ts.length) (h1 : con3 (ts.take j) a b c = false) (ha : ts[j] ≠ a) (hb : ts[j] ≠ b) (hc : ts[j] ≠ c) : con3 (ts.take (j + 1)) a b c = false := by
  obtain ⟨x, y, z⟩ := con3_none h1
  unfold con3
  rw [contains_snoc h x ha, contains_snoc h y hb, contains_snoc h z hc]; rfl
theorem has3_hit {ls : List Ln} {k m j : Nat} {a b c : Int} (h : k < ls.length) (hkm : k < m) (hj : j < ls[k].2.length) (he : ls[k].2[j] = a ∨ ls[k].2[j] = b ∨ ls[k].2[j] = c) : has3 (ls.take m) a b c = true := by
  unfold has3
  rcases he with he | he | he
  · rw [hasT_hit h hkm hj he]; rfl
  · rw [hasT_hit h hkm hj he]; simp
  · rw [hasT_hit h hkm hj he]; simp
set_option maxRecDepth 100000 in
set_option maxHeartbeats 4000000 in
theorem has3_any (w : World) (nm : ByteArray) (a0 a1 al : Option Addr) (n0 c0 n1 c1 nl cl : Nat) (ls : List Ln) (hl : Lns w al nl ls) (k0 : Nat) (hk0 : k0 ≤ 100000) (x y z : Int) :
    Calls Tryd.prog 18 #[patV nm a0 a1 al n0 c0 n1 c1 nl cl, iv (k0 : Int), iv x, iv y, iv z] w fun e w' => e = .returned (.bool (has3 (ls.take (k0 + 1)) x y z)) ∧ Kp w w' := by
  have hnl := hl.2.1
  have Hll := Lib.hid hl.1
  have hk1 := Kp.new w (.cells #[.string nm, .slice a0 n0 c0, .slice a1 n1 c1, .slice al nl cl] 26)
  have hnew : (w.alloc (.cells #[.string nm, .slice a0 n0 c0, .slice a1 n1 c1, .slice al nl cl] 26)).cell? ⟨w.heap.size, 3, none⟩ = some (.slice al nl cl) := by rw [World.cell?_alloc_at _ _ _ _ rfl]; rfl
  go_enter Tryd.func18, Tryd.ntmps18
  go_upto_region 1 with fail
  generalize w.alloc (.cells #[.string nm, .slice a0 n0 c0, .slice a1 n1 c1, .slice al nl cl] 26) = wb at *
  go_wp2_with fail
  go_loopw [11] (fun i wr => ∃ k : Nat, k ≤ nl ∧ k ≤ k0 + 1 ∧ i = .int .i64 (k : Nat) ∧ wb = wr ∧ has3 (ls.take k) x y z = false) (fun i _ => nl - (intOf i).toNat)
  case atStart => exact ⟨0, by omega, by omega, rfl, rfl, by simp [has3, Q.hasT]⟩
  case round =>
    obtain ⟨k, hk, hk2, rfl, rfl, hno⟩ := hrel
    have Hno := Lib.hid hno; clear hno
    by_cases hlt : k < nl ∧ k < k0 + 1
    · obtain ⟨hlt, hlt2⟩ := hlt
      have hkl : k < ls.length := by rw [Hll.out]; exact hlt
      obtain ⟨b, off, tp, tn, tc, rfl, hd1, hd2, hI, htn⟩ := hl.2.2 k hkl
      have hd2 := Kp.cell hk1 hd2
      have hI := hk1.is hI
      have Hhit := Lib.hid (fun j (hj : j < ls[k].2.length) (he : ls[k].2[j] = x ∨ ls[k].2[j] = y ∨ ls[k].2[j] = z) => has3_hit hkl hlt2 hj he)
      have Hst := Lib.hid (has3_step hkl Hno.out)
      have HI := Lib.hid hI
      generalize ls[k].2 = ts at Hhit Hst HI
      have Htl := Lib.hid HI.out.1
      clear hd1 hI
      go_wp2_with fail
      go_loopw [12] (fun i wr => ∃ j : Nat, j ≤ tn ∧ i = .int .i64 (j : Nat) ∧ wb = wr ∧ con3 (ts.take j) x y z = false) (fun i _ => tn - (intOf i).toNat)
      case atStart => exact ⟨0, by omega, rfl, rfl, by simp [con3]⟩
      case round =>
        obtain ⟨j, hj, rfl, rfl, hnc⟩ := hrel
        have Hnc := Lib.hid hnc; clear hnc
        by_cases hjt : j < tn
        · have hjl : j < ts.length := by rw [Htl.out]; exact hjt
          obtain ⟨tb, toff, rfl, _, hcc⟩ := HI.out.at j hjt
          have hck := hcc j hjt
          have Hh := Lib.hid (Hhit.out j hjl)
          have Hs := Lib.hid (con3_step hjl Hnc.out)
          clear hcc
          generalize ts[j]'hjl = u at *
          by_cases hx : u = x
          · have Hh2 := Lib.hid (Hh.out (.inl hx))
            clear Hh Hs
            go_wp2_with fail
            go_ret
            exact ⟨by rw [Hh2.out]; rfl, hk1⟩
          · by_cases hy : u = y
            · have Hh2 := Lib.hid (Hh.out (.inr (.inl hy)))
              clear Hh Hs
              go_wp2_with fail
              go_ret
              exact ⟨by rw [Hh2.out]; rfl, hk1⟩
            · by_cases hz : u = z
              · have Hh2 := Lib.hid (Hh.out (.inr (.inr hz)))
                clear Hh Hs
                go_wp2_with fail
                go_ret
                exact ⟨by rw [Hh2.out]; rfl, hk1⟩
              · have Hs2 := Lib.hid (Hs.out hx hy hz)
                have bx : (u == x) = false := beq_eq_false_iff_ne.2 hx
                have by' : (u == y) = false := beq_eq_false_iff_ne.2 hy
                have bz : (u == z) = false := beq_eq_false_iff_ne.2 hz
                clear hx hy hz
                clear Hh Hs
                go_wp2_with fail
                go_roundw
                case rel => exact ⟨j + 1, by omega, by go_num, trivial, Hs2.out⟩
                case measure => simp [intOf]; omega
        · have Hf := Lib.hid (Hst.out (by have := Hnc.out; rwa [List.take_of_length_le (by rw [Htl.out]; omega)] at this))
          go_wp2_with fail
          go_roundw
          case rel => exact ⟨k + 1, by omega, by omega, by go_num, trivial, Hf.out⟩
          case measure => simp [intOf]; omega
    · have Hf := Lib.hid (show has3 (ls.take (k0 + 1)) x y z = false by
        have := Hno.out
        rcases (show k = nl ∨ k = k0 + 1 by omega) with h | h
        · rw [List.take_of_length_le (by rw [Hll.out]; omega)] at this
          by_cases hq : ls.length ≤ k0 + 1
          · rwa [List.take_of_length_le hq]
          · have := Hll.out; omega
        · rwa [h] at this)
      by_cases hkk : k < k0 + 1
      · have hkn : k = nl := by omega
        go_wp2_with fail
        go_ret
        exact ⟨by rw [Hf.out]; rfl, hk1⟩
      · have hkn : k = k0 + 1 := by omega
        go_wp2_with fail
        go_ret
        exact ⟨by rw [Hf.out]; rfl, hk1⟩

set_option maxRecDepth 100000 in
set_option maxHeartbeats 4000000 in
theorem from_any (w : World) (nm : ByteArray) (a0 a1 al : Option Addr) (n0 c0 n1 c1 nl cl : Nat) (ls : List Ln) (hl : Lns w al nl ls) (h0 : 0 < ls.length) (hf : ∀ l ∈ ls, l.1 = 0 ∨ l.1 = 1) (k : Nat) (hk0 : k ≤ 100000) :
    Calls Tryd.prog 17 #[patV nm a0 a1 al n0 c0 n1 c1 nl cl, iv (k : Int)] w fun e w' => e = .returned (iv (Q.fromT ls k)) ∧ Kp w w' := by
  have hnl := hl.2.1
  have Hll := Lib.hid hl.1
  have hk1 := Kp.new w (.cells #[.string nm, .slice a0 n0 c0, .slice a1 n1 c1, .slice al nl cl] 26)
  have hB := Bx.new w nm a0 a1 al n0 c0 n1 c1 nl cl
  have hl1 := hk1.lns hl
  obtain ⟨wb, hwb⟩ : ∃ wb, wb = w.alloc (.cells #[.string nm, .slice a0 n0 c0, .slice a1 n1 c1, .slice al nl cl] 26) := ⟨_, rfl⟩
  obtain ⟨bx, hbx⟩ : ∃ bx, bx = w.heap.size := ⟨_, rfl⟩
  rw [← hwb] at hk1 hB hl1
  rw [← hbx] at hB
  obtain ⟨q0, q1, q2, q3⟩ := hB
  go_enter Tryd.func17, Tryd.ntmps17
  go_upto_region 1 with fail
  rw [← hwb, ← hbx]
  clear hwb hbx
  by_cases hlt : k < nl
  · have hkl : k < ls.length := by rw [Hll.out]; exact hlt
    obtain ⟨b, off, tp, tn, tc, rfl, hd1, hd2, hI, htn⟩ := hl1.2.2 k hkl
    have Hf := Lib.hid (show Q.fromT ls k = ls[k].1 by unfold Q.fromT; rw [List.getElem?_eq_getElem hkl])
    generalize ls[k].1 = f at hd1 Hf
    clear hd2 hI hl hl1 hf
    go_wp2_with fail
    go_ret
    exact ⟨by rw [Hf.out]; rfl, hk1⟩
  · have hkn : nl - 1 < ls.length := by rw [Hll.out]; have := Hll.out; omega
    obtain ⟨b, off, tp, tn, tc, rfl, hd1, hd2, hI, htn⟩ := hl1.2.2 (nl - 1) hkn
    have hnl0 : 0 < nl := by have := Hll.out; omega
    have Hlast := Lib.hid (Q.lastOf_two hf)
    have HlastV := Lib.hid (show Q.lastOf ls = (ls[nl - 1]'hkn).1 by rw [lastOf_get h0]; simp only [Hll.out])
    have How := Lib.hid (show Q.oneWay ls = (nl == 1 && Q.lastOf ls == 0) by rw [oneWayQ h0, Hll.out])
    have Hf := Lib.hid (show Q.fromT ls k = if Q.oneWay ls then Q.lastOf ls else if (k - nl) % 2 = 0 then 1 - Q.lastOf ls else Q.lastOf ls by
      unfold Q.fromT
      rw [List.getElem?_eq_none (by rw [Hll.out]; omega), Hll.out]
      rfl)
    rw [← HlastV.out] at hd1
    rw [How.out] at Hf
    generalize Q.lastOf ls = z at *
    clear hd2 hI hl hl1 hf How
    by_cases hone : nl = 1 ∧ z = 0
    · obtain ⟨h1, hz⟩ := hone
      subst hz
      have HF := Lib.hid (show Q.fromT ls k = 0 by rw [Hf.out, h1]; rfl)
      have hn1 : ((nl : Int) == 1) = true := by simp; omega
      clear Hf h1
      go_wp2_with fail
      go_ret
      exact ⟨by rw [HF.out]; rfl, hk1⟩
    · have HF := Lib.hid (show Q.fromT ls k = if (k - nl) % 2 = 0 then 1 - z else z by
        rw [Hf.out, if_neg]
        simp only [Bool.and_eq_true, beq_iff_eq]
        exact hone)
      clear Hf
      by_cases hm : (k - nl) % 2 = 0
      · have hc : ((k : Int) - (nl : Int)).tmod 2 = 0 := by rw [show ((k : Int) - (nl : Int)) = ((k - nl : Nat) : Int) by omega, Int.tmod_eq_emod_of_nonneg (by omega)]; omega
        have HF2 := Lib.hid (show Q.fromT ls k = 1 - z by rw [HF.out, if_pos hm])
        clear HF hm
        rcases Hlast.out with hz | hz
        · subst hz
          have hn1 : ((nl : Int) == 1) = false := by simp; omega
          clear hone
          go_wp2_with fail
          go_ret
          exact ⟨by rw [HF2.out]; rfl, hk1⟩
        · subst hz
          clear hone
          by_cases h1 : nl = 1
          · have hn1 : ((nl : Int) == 1) = true := by simp; omega
            clear h1
            go_wp2_with fail
            go_ret
            exact ⟨by rw [HF2.out]; rfl, hk1⟩
          · have hn1 : ((nl : Int) == 1) = false := by simp; omega
            go_wp2_with fail
            go_ret
            exact ⟨by rw [HF2.out]; rfl, hk1⟩
      · have hc : ((k : Int) - (nl : Int)).tmod 2 = 1 := by rw [show ((k : Int) - (nl : Int)) = ((k - nl : Nat) : Int) by omega, Int.tmod_eq_emod_of_nonneg (by omega)]; omega
        have HF2 := Lib.hid (show Q.fromT ls k = z by rw [HF.out, if_neg hm])
        clear HF hm
        by_cases h1 : nl = 1
        · have hn1 : ((nl : Int) == 1) = true := by simp; omega
          have hz0 : ¬ z = 0 := fun h => hone ⟨h1, h⟩
          have hz1 : (z == 0) = false := beq_eq_false_iff_ne.2 hz0
          clear hone h1
          go_wp2_with fail
          go_ret
          exact ⟨by rw [HF2.out]; rfl, hk1⟩
        · have hn1 : ((nl : Int) == 1) = false := by simp; omega
          clear hone
          go_wp2_with fail
          go_ret
          exact ⟨by rw [HF2.out]; rfl, hk1⟩
end Go.Proofs.YtjbjgpcldcpjmaaDoor
