/- How often a token stands in a pattern. Condition: the pattern lies there and is no long one. -/
import Derived.Test.YtkmejehhdjdlbaaGreatDoorGc6
import Derived.Test.YtkmejehhdjdlbaaGreatDoorGc4
namespace Go.Proofs.YtkmejehhdjdlbaaGreatDoor
open Go.RowKit

/-- How often a token stands in a list of side s, if this side is asked for (f below 0: any). -/
def cB (f s : Int) (l : List Int) (t : Int) : Nat := if f < 0 ∨ f = s then l.count t else 0
def cLs (f t : Int) : List Ln → Nat
  | [] => 0
  | l :: r => cB f l.1 l.2 t + cLs f t r
def cntF (b0 b1 : List Int) (ls : List Ln) (f t : Int) : Nat := cB f 0 b0 t + cB f 1 b1 t + cLs f t ls
theorem cB_le (f s : Int) (l : List Int) (t : Int) : cB f s l t ≤ l.length := by
  unfold cB
  split
  · exact List.count_le_length
  · omega
theorem cB_nil (f s t : Int) : cB f s [] t = 0 := by unfold cB; simp
theorem cB_take {f s : Int} {l : List Int} {t : Int} {j : Nat} (hj : j < l.length) : cB f s (l.take (j + 1)) t = cB f s (l.take j) t + if l[j] = t ∧ (f < 0 ∨ f = s) then 1 else 0 := by
  unfold cB
  rw [List.take_succ_eq_append_getElem hj, List.count_append, List.count_singleton]
  by_cases h : f < 0 ∨ f = s
  · simp [h]
  · simp [h]
theorem cB_yes {N M : Nat} {f s : Int} {l : List Int} {t : Int} {j : Nat} (hM : M = N + cB f s (l.take j) t) (hj : j < l.length) (h : l[j] = t ∧ (f < 0 ∨ f = s)) : M + 1 = N + cB f s (l.take (j + 1)) t := by
  rw [cB_take hj, if_pos h, hM]; omega
theorem cB_no {N M : Nat} {f s : Int} {l : List Int} {t : Int} {j : Nat} (hM : M = N + cB f s (l.take j) t) (hj : j < l.length) (h : ¬ (l[j] = t ∧ (f < 0 ∨ f = s))) : M = N + cB f s (l.take (j + 1)) t := by
  rw [cB_take hj, if_neg h, hM]; rfl
theorem cLs_take {f t : Int} : ∀ {ls : List Ln} {k : Nat} (hk : k < ls.length), cLs f t (ls.take (k + 1)) = cLs f t (ls.take k) + cB f ls[k].1 ls[k].2 t
  | l :: r, 0, _ => by simp [cLs]
  | l :: r, k + 1, h => by
    have := cLs_take (f := f) (t := t) (ls := r) (k := k) (by simpa using h)
    simp only [List.take_succ_cons, cLs, List.getElem_cons_succ]
    rw [this]; omega
theorem cLs_le {f t : Int} : ∀ (ls : List Ln), (∀ l ∈ ls, l.2.length ≤ 5000) → cLs f t ls ≤ 5000 * ls.length
  | [], _ => by simp [cLs]
  | l :: r, h => by
    have h1 := cLs_le (f := f) (t := t) r (fun x hx => h x (by simp [hx]))
    have h2 := cB_le f l.1 l.2 t
    have h3 := h l (by simp)
    simp only [cLs, List.length_cons]
    omega
/-- What has been counted when k sides have gone by. -/
def cbK (f t : Int) (b0 b1 : List Int) : Nat → Nat
  | 0 => 0
  | 1 => cB f 0 b0 t
  | _ => cB f 0 b0 t + cB f 1 b1 t
set_option maxRecDepth 100000 in
set_option maxHeartbeats 16000000 in
theorem count_any (w : World) (nm : ByteArray) (a0 a1 al : Option Addr) (n0 c0 n1 c1 nl cl : Nat) (b0 b1 : List Int) (ls : List Ln) (hP : PatI w a0 a1 al n0 n1 nl b0 b1 ls) (hb0 : b0.length ≤ 10000) (hb1 : b1.length ≤ 10000) (hls : ls.length ≤ 5000) (hlt : ∀ l ∈ ls, l.2.length ≤ 5000) (f t : Int) :
    Calls Tryz.prog 84 #[patV nm a0 a1 al n0 c0 n1 c1 nl cl, iv f, iv t] w fun e w' => e = .returned (iv ((cntF b0 b1 ls f t : Nat) : Int)) ∧ Kp w w' := by
  have hk1 := Kp.new w (.cells #[.string nm, .slice a0 n0 c0, .slice a1 n1 c1, .slice al nl cl] 26)
  have hF := Four.new w (.string nm) (.slice a0 n0 c0) (.slice a1 n1 c1) (.slice al nl cl) 26
  have hP1 := hP.kp hk1
  have Hk1 := Lib.hid hk1
  have I0 := Lib.hid hP1.i0
  have I1 := Lib.hid hP1.i1
  have IL := Lib.hid hP1.il
  have Hl0 := Lib.hid hP1.i0.1
  have Hl1 := Lib.hid hP1.i1.1
  have Hll := Lib.hid hP1.il.1
  have hn0 : n0 ≤ 10000 := by rw [← hP1.i0.1]; exact hb0
  have hn1 : n1 ≤ 10000 := by rw [← hP1.i1.1]; exact hb1
  have hnl : nl ≤ 5000 := by rw [← hP1.il.1]; exact hls
  have Hlt := Lib.hid hlt
  clear hk1 hP1 hP hlt
  go_enter Tryz.func84, Tryz.ntmps84
  go_upto_region 1 with fail
  obtain ⟨bx, hbx⟩ : ∃ bx, bx = w.heap.size := ⟨_, rfl⟩
  rw [← hbx] at hF ⊢
  generalize w.alloc (.cells #[.string nm, .slice a0 n0 c0, .slice a1 n1 c1, .slice al nl cl] 26) = w1 at *
  clear hbx
  obtain ⟨y0, y1, y2, y3, _, _, _, _⟩ := hF
  go_wp2_with fail
  go_loopw [7, 8] (fun n s wr => ∃ k N : Nat, k ≤ 2 ∧ s = .int .i64 (k : Nat) ∧ N = cbK f t b0 b1 k ∧ n = .int .i64 (N : Nat) ∧ w1 = wr) (fun _ s _ => 2 - (intOf s).toNat)
  case atStart => exact ⟨0, 0, by omega, rfl, rfl, rfl, rfl⟩
  case round =>
    obtain ⟨k, N, hk, rfl, hN, rfl, rfl⟩ := hrel
    obtain rfl | rfl | rfl : k = 0 ∨ k = 1 ∨ k = 2 := by omega
    · have HN := Lib.hid hN
      have hNb : N ≤ 10000 := by rw [hN]; exact Nat.zero_le _
      clear hN
      go_wp2_with fail
      go_loopw [7, 9] (fun n i wr => ∃ j M : Nat, j ≤ n0 ∧ i = .int .i64 (j : Nat) ∧ M = N + cB f 0 (b0.take j) t ∧ n = .int .i64 (M : Nat) ∧ w1 = wr) (fun _ i _ => n0 - (intOf i).toNat)
      case atStart => exact ⟨0, N, by omega, rfl, by rw [List.take_zero, cB_nil]; rfl, rfl, rfl⟩
      case round =>
        obtain ⟨j, M, hj, rfl, hM, rfl, rfl⟩ := hrel
        have HM := Lib.hid hM
        have hMb : M ≤ 20000 := by rw [hM]; have := cB_le f 0 (b0.take j) t; have := List.length_take_le j b0; omega
        clear hM
        by_cases hjn : j < n0
        · have hjl : j < b0.length := by rw [Hl0.out]; exact hjn
          obtain ⟨gb, go, rfl, _, hc⟩ := I0.out.at j hjn
          replace hc := hc j hjn
          obtain ⟨x, hx⟩ : ∃ x, x = b0[j]'hjl := ⟨_, rfl⟩
          rw [← hx] at hc
          by_cases hxt : t = x
          · subst hxt
            by_cases hf : f < 0
            · have hcc : b0[j]'hjl = t ∧ (f < 0 ∨ f = 0) := ⟨hx.symm, .inl hf⟩
              have Hcc := Lib.hid hcc
              clear hx hcc
              go_wp2_with fail
              go_roundw
              case rel => exact ⟨j + 1, M + 1, by omega, by first | rfl | go_num, cB_yes HM.out hjl Hcc.out, by first | rfl | go_num, by first | rfl | trivial⟩
              case measure => simp [intOf]; omega
            · by_cases hf2 : f = 0
              · have hcc : b0[j]'hjl = t ∧ (f < 0 ∨ f = 0) := ⟨hx.symm, .inr hf2⟩
                have Hcc := Lib.hid hcc
                clear hx hcc
                subst hf2
                go_wp2_with fail
                go_roundw
                case rel => exact ⟨j + 1, M + 1, by omega, by first | rfl | go_num, cB_yes HM.out hjl Hcc.out, by first | rfl | go_num, by first | rfl | trivial⟩
                case measure => simp [intOf]; omega
              · have hcc : ¬ (b0[j]'hjl = t ∧ (f < 0 ∨ f = 0)) := fun h => h.2.elim hf hf2
                have Hcc := Lib.hid hcc
                clear hx hcc
                go_wp2_with fail
                go_roundw
                case rel => exact ⟨j + 1, M, by omega, by first | rfl | go_num, cB_no HM.out hjl Hcc.out, by first | rfl | go_num, by first | rfl | trivial⟩
                case measure => simp [intOf]; omega
          · have hcc : ¬ (b0[j]'hjl = t ∧ (f < 0 ∨ f = 0)) := fun h => hxt (by rw [hx, h.1])
            have Hcc := Lib.hid hcc
            clear hx hcc
            go_wp2_with fail
            refine ⟨?_, ?_⟩
            · (repeat apply Exists.intro)
              refine ⟨?_, rfl⟩
              exact ⟨j + 1, M, by omega, by first | rfl | go_num, cB_no HM.out hjl Hcc.out, by first | rfl | go_num, by first | rfl | trivial⟩
            · simp [intOf]; omega
        · have hje : j = n0 := by omega
          subst hje
          go_wp2_with fail
          go_roundw
          case rel => exact ⟨1, M, by omega, by first | rfl | go_num, by rw [HM.out, HN.out, ← Hl0.out, List.take_length]; exact Nat.zero_add _, by first | rfl | go_num, by first | rfl | trivial⟩
          case measure => simp [intOf]
    · have HN := Lib.hid hN
      have hNb : N ≤ 10000 := by rw [hN]; exact Nat.le_trans (cB_le _ _ _ _) hb0
      clear hN
      go_wp2_with fail
      go_loopw [7, 9] (fun n i wr => ∃ j M : Nat, j ≤ n1 ∧ i = .int .i64 (j : Nat) ∧ M = N + cB f 1 (b1.take j) t ∧ n = .int .i64 (M : Nat) ∧ w1 = wr) (fun _ i _ => n1 - (intOf i).toNat)
      case atStart => exact ⟨0, N, by omega, rfl, by rw [List.take_zero, cB_nil]; rfl, rfl, rfl⟩
      case round =>
        obtain ⟨j, M, hj, rfl, hM, rfl, rfl⟩ := hrel
        have HM := Lib.hid hM
        have hMb : M ≤ 20000 := by rw [hM]; have := cB_le f 1 (b1.take j) t; have := List.length_take_le j b1; omega
        clear hM
        by_cases hjn : j < n1
        · have hjl : j < b1.length := by rw [Hl1.out]; exact hjn
          obtain ⟨gb, go, rfl, _, hc⟩ := I1.out.at j hjn
          replace hc := hc j hjn
          obtain ⟨x, hx⟩ : ∃ x, x = b1[j]'hjl := ⟨_, rfl⟩
          rw [← hx] at hc
          by_cases hxt : t = x
          · subst hxt
            by_cases hf : f < 0
            · have hcc : b1[j]'hjl = t ∧ (f < 0 ∨ f = 1) := ⟨hx.symm, .inl hf⟩
              have Hcc := Lib.hid hcc
              clear hx hcc
              go_wp2_with fail
              go_roundw
              case rel => exact ⟨j + 1, M + 1, by omega, by first | rfl | go_num, cB_yes HM.out hjl Hcc.out, by first | rfl | go_num, by first | rfl | trivial⟩
              case measure => simp [intOf]; omega
            · by_cases hf2 : f = 1
              · have hcc : b1[j]'hjl = t ∧ (f < 0 ∨ f = 1) := ⟨hx.symm, .inr hf2⟩
                have Hcc := Lib.hid hcc
                clear hx hcc
                subst hf2
                go_wp2_with fail
                go_roundw
                case rel => exact ⟨j + 1, M + 1, by omega, by first | rfl | go_num, cB_yes HM.out hjl Hcc.out, by first | rfl | go_num, by first | rfl | trivial⟩
                case measure => simp [intOf]; omega
              · have hcc : ¬ (b1[j]'hjl = t ∧ (f < 0 ∨ f = 1)) := fun h => h.2.elim hf hf2
                have Hcc := Lib.hid hcc
                clear hx hcc
                go_wp2_with fail
                go_roundw
                case rel => exact ⟨j + 1, M, by omega, by first | rfl | go_num, cB_no HM.out hjl Hcc.out, by first | rfl | go_num, by first | rfl | trivial⟩
                case measure => simp [intOf]; omega
          · have hcc : ¬ (b1[j]'hjl = t ∧ (f < 0 ∨ f = 1)) := fun h => hxt (by rw [hx, h.1])
            have Hcc := Lib.hid hcc
            clear hx hcc
            go_wp2_with fail
            refine ⟨?_, ?_⟩
            · (repeat apply Exists.intro)
              refine ⟨?_, rfl⟩
              exact ⟨j + 1, M, by omega, by first | rfl | go_num, cB_no HM.out hjl Hcc.out, by first | rfl | go_num, by first | rfl | trivial⟩
            · simp [intOf]; omega
        · have hje : j = n1 := by omega
          subst hje
          go_wp2_with fail
          go_roundw
          case rel => exact ⟨2, M, by omega, by first | rfl | go_num, by rw [HM.out, HN.out, ← Hl1.out, List.take_length]; rfl, by first | rfl | go_num, by first | rfl | trivial⟩
          case measure => simp [intOf]
    · have HN := Lib.hid hN
      have hNb : N ≤ 20000 := by rw [hN]; have := cB_le f 0 b0 t; have := cB_le f 1 b1 t; show cB f 0 b0 t + cB f 1 b1 t ≤ 20000; omega
      clear hN
      go_wp2_with fail
      go_loopw [7, 10] (fun n i wr => ∃ k K : Nat, k ≤ nl ∧ i = .int .i64 (k : Nat) ∧ K = N + cLs f t (ls.take k) ∧ n = .int .i64 (K : Nat) ∧ w1 = wr) (fun _ i _ => nl - (intOf i).toNat)
      case atStart => exact ⟨0, N, by omega, rfl, by rw [List.take_zero]; rfl, rfl, rfl⟩
      case round =>
        obtain ⟨k, K, hk, rfl, hK, rfl, rfl⟩ := hrel
        have HKK := Lib.hid hK
        have hKb : K ≤ 25100000 := by rw [hK]; have := cLs_le (f := f) (t := t) (ls.take k) (fun l hl => Hlt.out l (List.mem_of_mem_take hl)); have := List.length_take_le k ls; omega
        clear hK
        by_cases hkn : k < nl
        · have hkl : k < ls.length := by rw [Hll.out]; exact hkn
          obtain ⟨ga, goo, tp, tn, tc, rfl, hd1, hd2, hI, _⟩ := IL.out.2.2 k hkl
          have HI := Lib.hid hI
          have Htl := Lib.hid hI.1
          have htn : tn ≤ 5000 := by rw [← hI.1]; exact Hlt.out _ (List.getElem_mem hkl)
          clear hI
          have hst : N + cLs f t (ls.take (k + 1)) = N + cLs f t (ls.take k) + cB f ls[k].1 ls[k].2 t := by rw [cLs_take hkl]; omega
          have Hst := Lib.hid hst
          clear hst
          generalize ls[k].1 = g at *
          generalize ls[k].2 = ts at *
          go_wp2_with fail
          go_loopw [7, 11] (fun n i wr => ∃ j M : Nat, j ≤ tn ∧ i = .int .i64 (j : Nat) ∧ M = K + cB f g (ts.take j) t ∧ n = .int .i64 (M : Nat) ∧ w1 = wr) (fun _ i _ => tn - (intOf i).toNat)
          case atStart => exact ⟨0, K, by omega, rfl, by rw [List.take_zero, cB_nil]; rfl, rfl, rfl⟩
          case round =>
            obtain ⟨j, M, hj, rfl, hM, rfl, rfl⟩ := hrel
            have HM := Lib.hid hM
            have hMb : M ≤ 25105000 := by rw [hM]; have := cB_le f g (ts.take j) t; have := List.length_take_le j ts; omega
            clear hM
            by_cases hjn : j < tn
            · have hjl : j < ts.length := by rw [Htl.out]; exact hjn
              obtain ⟨gb, go, rfl, _, hc⟩ := HI.out.at j hjn
              replace hc := hc j hjn
              obtain ⟨x, hx⟩ : ∃ x, x = ts[j]'hjl := ⟨_, rfl⟩
              rw [← hx] at hc
              by_cases hxt : t = x
              · subst hxt
                by_cases hf : f < 0
                · have hcc : ts[j]'hjl = t ∧ (f < 0 ∨ f = g) := ⟨hx.symm, .inl hf⟩
                  have Hcc := Lib.hid hcc
                  clear hx hcc
                  go_wp2_with fail
                  go_roundw
                  case rel => exact ⟨j + 1, M + 1, by omega, by first | rfl | go_num, cB_yes HM.out hjl Hcc.out, by first | rfl | go_num, by first | rfl | trivial⟩
                  case measure => simp [intOf]; omega
                · by_cases hf2 : f = g
                  · have hcc : ts[j]'hjl = t ∧ (f < 0 ∨ f = g) := ⟨hx.symm, .inr hf2⟩
                    have Hcc := Lib.hid hcc
                    clear hx hcc
                    subst hf2
                    go_wp2_with fail
                    go_roundw
                    case rel => exact ⟨j + 1, M + 1, by omega, by first | rfl | go_num, cB_yes HM.out hjl Hcc.out, by first | rfl | go_num, by first | rfl | trivial⟩
                    case measure => simp [intOf]; omega
                  · have hcc : ¬ (ts[j]'hjl = t ∧ (f < 0 ∨ f = g)) := fun h => h.2.elim hf hf2
                    have Hcc := Lib.hid hcc
                    clear hx hcc
                    go_wp2_with fail
                    go_roundw
                    case rel => exact ⟨j + 1, M, by omega, by first | rfl | go_num, cB_no HM.out hjl Hcc.out, by first | rfl | go_num, by first | rfl | trivial⟩
                    case measure => simp [intOf]; omega
              · have hcc : ¬ (ts[j]'hjl = t ∧ (f < 0 ∨ f = g)) := fun h => hxt (by rw [hx, h.1])
                have Hcc := Lib.hid hcc
                clear hx hcc
                go_wp2_with fail
                refine ⟨?_, ?_⟩
                · (repeat apply Exists.intro)
                  refine ⟨?_, rfl⟩
                  exact ⟨j + 1, M, by omega, by first | rfl | go_num, cB_no HM.out hjl Hcc.out, by first | rfl | go_num, by first | rfl | trivial⟩
                · simp [intOf]; omega
            · have hje : j = tn := by omega
              subst hje
              go_wp2_with fail
              go_roundw
              case rel => exact ⟨k + 1, M, by omega, by first | rfl | go_num, by rw [Hst.out, HM.out, HKK.out, ← Htl.out, List.take_length], by first | rfl | go_num, by first | rfl | trivial⟩
              case measure => simp [intOf]; omega
        · have hke : k = nl := by omega
          have Hke := Lib.hid hke
          clear hke
          go_wp2_with fail
          go_ret
          refine ⟨?_, Hk1.out⟩
          rw [HKK.out, HN.out, Hke.out, ← Hll.out, List.take_length]
          rfl
end Go.Proofs.YtkmejehhdjdlbaaGreatDoor
