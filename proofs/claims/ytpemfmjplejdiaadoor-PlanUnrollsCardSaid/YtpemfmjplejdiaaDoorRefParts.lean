/- The document's own parts: has, psk, keyOf, shares, moves. Conditions: the lists lie there; a token is one. -/
import Derived.Test.YtpemfmjplejdiaaDoorPlan
namespace Go.Proofs.YtpemfmjplejdiaaDoor
open Go.RowKit

theorem inL_take (xs : List Int) (t : Int) (k : Nat) (h : k < xs.length) (h0 : inL (xs.take k) t = false) (hx : xs[k] ≠ t) : inL (xs.take (k + 1)) t = false := by
  unfold inL at *
  rw [take_step xs k h, List.contains_append, h0]
  simpa using fun e => hx e.symm
theorem inL_yes (xs : List Int) (t : Int) (k : Nat) (h : k < xs.length) (hx : xs[k] = t) : inL xs t = true := by
  unfold inL
  rw [List.contains_iff_mem, ← hx]
  exact List.getElem_mem h
set_option maxHeartbeats 2000000 in
theorem refHas_any (w : World) (ao : Option Addr) (n c : Nat) (xs : List Int) (t : Int) (hx : Is w ao n xs) : Calls Tryd.prog 28 #[.slice ao n c, iv t] w fun e w' => e = .returned (.bool (inL xs t)) ∧ w' = w := by
  have hm := hx.2.1
  unfold maxLen at hm
  go_enter Tryd.func28, Tryd.ntmps28
  go_wp2_with fail
  go_loopw [5] (fun i wr => ∃ k : Nat, k ≤ n ∧ i = .int .i64 (k : Nat) ∧ wr = w ∧ inL (xs.take k) t = false) (fun i _ => n - (intOf i).toNat)
  case atStart => exact ⟨0, by omega, rfl, rfl, rfl⟩
  case round =>
    obtain ⟨k, hk, rfl, rfl, hno⟩ := hrel
    have Hno := Lib.hid hno; clear hno
    by_cases hlt : k < n
    · obtain ⟨b, off, rfl, _, hcc⟩ := hx.at k hlt
      have hck := hcc k hlt
      have hkl : k < xs.length := by rw [hx.1]; exact hlt
      have hstep := inL_take xs t k hkl Hno.out
      have hyes := inL_yes xs t k hkl
      clear hcc
      generalize xs[k]'hkl = x at hck hstep hyes
      by_cases hxt : x = t
      · have Hy := Lib.hid (hyes hxt)
        have hb : (x == t) = true := by simpa using hxt
        clear hstep hyes hxt
        go_wp2_with fail
        go_ret
        exact ⟨by rw [Hy.out]; rfl, rfl⟩
      · have Hn := Lib.hid (hstep hxt)
        have hb : (x == t) = false := by simpa using hxt
        clear hstep hyes hxt
        go_wp2_with fail
        go_roundw
        case rel => exact ⟨k + 1, by omega, by go_num, trivial, Hn.out⟩
        case measure => simp [intOf]; omega
    · obtain rfl : k = n := by omega
      have Hn := Lib.hid (show inL xs t = false by have h := Hno.out; rwa [List.take_of_length_le (by rw [hx.1]; exact Nat.le_refl _)] at h)
      go_wp2_with fail
      go_ret
      exact ⟨by rw [Hn.out]; rfl, rfl⟩

def keyR (t : Int) (own : Bool) : Int := (if t = 2 then 2 else 1) + (if own then 0 else 2)
set_option maxHeartbeats 2000000 in
theorem keyR_any (w : World) (t : Int) (own : Bool) (h : t = 1 ∨ t = 2) : Calls Tryd.prog 29 #[iv t, .bool own] w fun e w' => e = .returned (iv (keyR t own)) ∧ w' = w := by
  rcases h with rfl | rfl <;> cases own
  all_goals
    go_enter Tryd.func29, Tryd.ntmps29
    go_wp2
    go_ret
    exact ⟨rfl, rfl⟩
set_option maxHeartbeats 2000000 in
theorem shares_any (w : World) (t : Int) (h : t = 3 ∨ t = 4 ∨ t = 5 ∨ t = 6) : Calls Tryd.prog 47 #[iv t] w fun e w' => e = .returned (.tuple #[iv (wantI t), iv (wantR t)]) ∧ w' = w := by
  rcases h with rfl | rfl | rfl | rfl
  all_goals
    go_enter Tryd.func47, Tryd.ntmps47
    go_wp2
    go_ret2
    exact ⟨rfl, rfl⟩
theorem hasL_take (ls : List Ln) (s tok : Int) (k : Nat) (h : k < ls.length) : hasL (ls.take (k + 1)) s tok = (hasL (ls.take k) s tok || ((decide (s < 0) || ls[k].1 == s) && inL ls[k].2 tok)) := by
  unfold hasL
  rw [take_step ls k h, List.any_append]
  simp
theorem hasL_yes (ls : List Ln) (s tok : Int) (k : Nat) (h : k < ls.length) (hx : ((decide (s < 0) || ls[k].1 == s) && inL ls[k].2 tok) = true) : hasL ls s tok = true := by
  unfold hasL
  rw [List.any_eq_true]
  exact ⟨ls[k], List.getElem_mem h, hx⟩
set_option maxRecDepth 100000 in
set_option maxHeartbeats 2000000 in
theorem psk_any (w : World) (nm : ByteArray) (a0 a1 al : Option Addr) (n0 c0 n1 c1 nl cl : Nat) (ls : List Ln) (hl : Lns w al nl ls) :
    Calls Tryd.prog 30 #[.agg #[.string nm, .slice a0 n0 c0, .slice a1 n1 c1, .slice al nl cl]] w fun e w' => e = .returned (.bool (pskL ls)) ∧ Kp w w' := by
  have hnl := hl.2.1
  have hk1 := Kp.new w (.cells #[.string nm, .slice a0 n0 c0, .slice a1 n1 c1, .slice al nl cl] 26)
  have y3 : (w.alloc (.cells #[.string nm, .slice a0 n0 c0, .slice a1 n1 c1, .slice al nl cl] 26)).cell? ⟨w.heap.size, 3, none⟩ = some (.slice al nl cl) := by rw [World.cell?_alloc_at _ _ _ _ rfl]; rfl
  obtain ⟨wa, hwa⟩ : ∃ wa, wa = w.alloc (.cells #[.string nm, .slice a0 n0 c0, .slice a1 n1 c1, .slice al nl cl] 26) := ⟨_, rfl⟩
  obtain ⟨bb, hbb⟩ : ∃ bb, bb = w.heap.size := ⟨_, rfl⟩
  rw [← hwa] at hk1 y3
  rw [← hbb] at y3
  replace hl := hk1.lns hl
  have Hk := Lib.hid hk1; clear hk1
  go_enter Tryd.func30, Tryd.ntmps30
  go_upto_region 1 with fail
  rw [← hwa, ← hbb]
  clear hwa hbb
  go_wp2_with fail
  go_loopw [3] (fun i wr => ∃ k : Nat, k ≤ nl ∧ i = .int .i64 (k : Nat) ∧ wr = wa ∧ hasL (ls.take k) (-1) 7 = false) (fun i _ => nl - (intOf i).toNat)
  case atStart => exact ⟨0, by omega, rfl, rfl, rfl⟩
  case round =>
    obtain ⟨k, hk, rfl, rfl, hno⟩ := hrel
    have Hno := Lib.hid hno; clear hno
    by_cases hlt : k < nl
    · have hkl : k < ls.length := by rw [hl.1]; exact hlt
      obtain ⟨b, off, tp, tn, tc, rfl, hc1, hc2, hI, _⟩ := hl.2.2 k hkl
      have hst := hasL_take ls (-1) 7 k hkl
      have hye := hasL_yes ls (-1) 7 k hkl
      have Hh := Lib.hid (refHas_any wr tp tn tc _ 7 hI)
      generalize ls[k]'hkl = l at hst hye Hh
      rw [Hno.out] at hst
      have Hst := Lib.hid hst
      have Hye := Lib.hid hye
      clear hst hye hc1 hI
      go_wp2_with fail
      (with_reducible refine Hh.out.mono ?_)
      rintro e w1 ⟨rfl, rfl⟩
      cases hq : inL l.2 7 with
      | true =>
        have Hy := Lib.hid (show pskL ls = true from Hye.out (by simp [hq]))
        clear hq
        go_wp2_with fail
        go_ret
        exact ⟨by rw [Hy.out]; rfl, Hk.out⟩
      | false =>
        have Hy := Lib.hid (show hasL (ls.take (k + 1)) (-1) 7 = false by rw [Hst.out, hq]; simp)
        clear hq
        go_wp2_with fail
        go_roundw
        case rel => exact ⟨k + 1, by omega, by go_num, trivial, Hy.out⟩
        case measure => simp [intOf]; omega
    · obtain rfl : k = ls.length := by have := hl.1; omega
      have Hn := Lib.hid (show pskL ls = false by have h := Hno.out; rwa [List.take_of_length_le (Nat.le_refl _)] at h)
      have hnle : nl = ls.length := hl.1.symm
      subst hnle
      go_wp2_with fail
      go_ret
      exact ⟨by rw [Hn.out]; rfl, Hk.out⟩

/-- What the document's 'moves' leaves. -/
def MovRPost (w : World) (ms : List Mv) (e : Ending) (w' : World) : Prop := Kp w w' ∧ ∃ ao n cap, e = .returned (.slice ao n cap) ∧ MvO w' w.heap.size ao n cap ms ∧ n ≤ 3
theorem MvO.new1 (w : World) (m : Mv) : MvO (w.alloc (.cells #[iv m.op, iv m.key, iv m.wth] 42)) w.heap.size (some ⟨w.heap.size, 0, none⟩) 1 1 [m] := by
  refine ⟨⟨rfl, .inr ⟨w.heap.size, 1, _, rfl, Nat.le_refl _, heap_alloc_new w _, Nat.le_refl _, by unfold maxLen; omega, rfl, rfl⟩⟩, rfl⟩
theorem MvO.new2 (w : World) (m m' : Mv) : MvO (w.alloc (.cells #[iv m.op, iv m.key, iv m.wth, iv m'.op, iv m'.key, iv m'.wth] 42)) w.heap.size (some ⟨w.heap.size, 0, none⟩) 2 2 [m, m'] := by
  refine ⟨⟨rfl, .inr ⟨w.heap.size, 2, _, rfl, Nat.le_refl _, heap_alloc_new w _, Nat.le_refl _, by unfold maxLen; omega, rfl, rfl⟩⟩, rfl⟩

set_option maxHeartbeats 4000000 in
theorem movesR_1 (w : World) (ini sent psk : Bool) : Calls Tryd.prog 31 #[iv 1, iv (sideOf ini), .bool sent, .bool psk] w (MovRPost w (tokM ini sent psk 1)) := by
  have Hk := Lib.hid (fun w => keyR_any w 1 sent (.inl rfl))
  generalize sideOf ini = side
  cases sent with
  | true =>
    have HT := Lib.hid (show tokM ini true psk 1 = [⟨7, 1, 0⟩, ⟨3, 1, 0⟩] ++ mixM true psk 1 by cases ini <;> rfl)
    have Hk := Lib.hid (show ∀ w, Calls Tryd.prog 29 #[iv 1, .bool true] w fun e w' => e = .returned (iv 1) ∧ w' = w from Hk.out)
    cases psk with
    | true =>
      go_enter Tryd.func31, Tryd.ntmps31
      go_wp2_with fail
      (with_reducible refine (Hk.out _).mono ?_)
      rintro e w1 ⟨rfl, rfl⟩
      go_wp2_with (at_builtin; refine wpList_mv1 rfl (.tmp 28) (.tmp 31) rfl rfl (MvO.new2 w1 ⟨7, 1, 0⟩ ⟨3, 1, 0⟩) ⟨4, 1, 0⟩ rfl (by simp) (by omega) (by simp) ?_; intro ao2 cap2 w2 ha)
      have hp : MovRPost w1 (tokM ini true true 1) (.returned (.slice ao2 (2 + 1) cap2)) w2 := ⟨((Fr.of_kp (Kp.new w1 _)).step ha.fr (fun i hi => .inr (by rw [mem_blkL_some] at hi; omega))).kp, ao2, 2 + 1, cap2, rfl, by rw [HT.out]; exact ha.own, by omega⟩
      have Hp := Lib.hid hp; clear hp ha
      go_wp2_with fail
      go_ret
      exact Hp.out
    | false =>
      go_enter Tryd.func31, Tryd.ntmps31
      go_wp2_with fail
      (with_reducible refine (Hk.out _).mono ?_)
      rintro e w1 ⟨rfl, rfl⟩
      go_wp2_with fail
      go_ret
      exact ⟨Kp.new _ _, some ⟨w1.heap.size, 0, none⟩, 2, 2, rfl, by rw [HT.out]; exact MvO.new2 w1 ⟨7, 1, 0⟩ ⟨3, 1, 0⟩, by omega⟩
  | false =>
    have HT := Lib.hid (show tokM ini false psk 1 = [⟨8, 3, 0⟩, ⟨3, 3, 0⟩] ++ mixM false psk 1 by cases ini <;> rfl)
    have Hk := Lib.hid (show ∀ w, Calls Tryd.prog 29 #[iv 1, .bool false] w fun e w' => e = .returned (iv 3) ∧ w' = w from Hk.out)
    cases psk with
    | true =>
      go_enter Tryd.func31, Tryd.ntmps31
      go_wp2_with fail
      (with_reducible refine (Hk.out _).mono ?_)
      rintro e w1 ⟨rfl, rfl⟩
      go_wp2_with (at_builtin; refine wpList_mv1 rfl (.tmp 28) (.tmp 31) rfl rfl (MvO.new2 w1 ⟨8, 3, 0⟩ ⟨3, 3, 0⟩) ⟨4, 3, 0⟩ rfl (by simp) (by omega) (by simp) ?_; intro ao2 cap2 w2 ha)
      have hp : MovRPost w1 (tokM ini false true 1) (.returned (.slice ao2 (2 + 1) cap2)) w2 := ⟨((Fr.of_kp (Kp.new w1 _)).step ha.fr (fun i hi => .inr (by rw [mem_blkL_some] at hi; omega))).kp, ao2, 2 + 1, cap2, rfl, by rw [HT.out]; exact ha.own, by omega⟩
      have Hp := Lib.hid hp; clear hp ha
      go_wp2_with fail
      go_ret
      exact Hp.out
    | false =>
      go_enter Tryd.func31, Tryd.ntmps31
      go_wp2_with fail
      (with_reducible refine (Hk.out _).mono ?_)
      rintro e w1 ⟨rfl, rfl⟩
      go_wp2_with fail
      go_ret
      exact ⟨Kp.new _ _, some ⟨w1.heap.size, 0, none⟩, 2, 2, rfl, by rw [HT.out]; exact MvO.new2 w1 ⟨8, 3, 0⟩ ⟨3, 3, 0⟩, by omega⟩

set_option maxHeartbeats 4000000 in
theorem movesR_2 (w : World) (ini sent psk : Bool) : Calls Tryd.prog 31 #[iv 2, iv (sideOf ini), .bool sent, .bool psk] w (MovRPost w (tokM ini sent psk 2)) := by
  have HT := Lib.hid (show tokM ini sent psk 2 = (if sent then [⟨9, 2, 0⟩] else [⟨10, 4, 0⟩]) by cases ini <;> cases sent <;> cases psk <;> rfl)
  generalize sideOf ini = side
  cases sent with
  | true =>
    go_enter Tryd.func31, Tryd.ntmps31
    go_wp2_with fail
    go_ret
    exact ⟨Kp.new _ _, some ⟨w.heap.size, 0, none⟩, 1, 1, rfl, by rw [HT.out]; exact MvO.new1 w ⟨9, 2, 0⟩, by omega⟩
  | false =>
    go_enter Tryd.func31, Tryd.ntmps31
    go_wp2_with fail
    go_ret
    exact ⟨Kp.new _ _, some ⟨w.heap.size, 0, none⟩, 1, 1, rfl, by rw [HT.out]; exact MvO.new1 w ⟨10, 4, 0⟩, by omega⟩
set_option maxHeartbeats 4000000 in
theorem movesR_7 (w : World) (ini sent psk : Bool) : Calls Tryd.prog 31 #[iv 7, iv (sideOf ini), .bool sent, .bool psk] w (MovRPost w (tokM ini sent psk 7)) := by
  have HT := Lib.hid (show tokM ini sent psk 7 = [⟨12, 0, 0⟩] by cases ini <;> cases sent <;> cases psk <;> rfl)
  generalize sideOf ini = side
  go_enter Tryd.func31, Tryd.ntmps31
  go_wp2_with fail
  go_ret
  exact ⟨Kp.new _ _, some ⟨w.heap.size, 0, none⟩, 1, 1, rfl, by rw [HT.out]; exact MvO.new1 w ⟨12, 0, 0⟩, by omega⟩

set_option maxHeartbeats 4000000 in
theorem movesR_3 (w : World) (ini sent psk : Bool) : Calls Tryd.prog 31 #[iv 3, iv (sideOf ini), .bool sent, .bool psk] w (MovRPost w (tokM ini sent psk 3)) := by
  have Hs := Lib.hid (show ∀ w, Calls Tryd.prog 47 #[iv 3] w fun e w' => e = .returned (.tuple #[iv 1, iv 1]) ∧ w' = w from fun w => shares_any w 3 (by omega))
  have Ka := Lib.hid (show ∀ w, Calls Tryd.prog 29 #[iv 1, .bool true] w fun e w' => e = .returned (iv 1) ∧ w' = w from fun w => keyR_any w 1 true (by omega))
  have Kb := Lib.hid (show ∀ w, Calls Tryd.prog 29 #[iv 1, .bool false] w fun e w' => e = .returned (iv 3) ∧ w' = w from fun w => keyR_any w 1 false (by omega))
  have Kc := Lib.hid (show ∀ w, Calls Tryd.prog 29 #[iv 1, .bool true] w fun e w' => e = .returned (iv 1) ∧ w' = w from fun w => keyR_any w 1 true (by omega))
  have Kd := Lib.hid (show ∀ w, Calls Tryd.prog 29 #[iv 1, .bool false] w fun e w' => e = .returned (iv 3) ∧ w' = w from fun w => keyR_any w 1 false (by omega))
  cases ini with
  | true =>
    have HT := Lib.hid (show tokM true sent psk 3 = [⟨11, 1, 3⟩] by cases sent <;> cases psk <;> rfl)
    unfold sideOf
    go_enter Tryd.func31, Tryd.ntmps31
    go_wp2_with fail
    (with_reducible refine (Hs.out _).mono ?_)
    rintro e w1 ⟨rfl, rfl⟩
    go_wp2_with fail
    (with_reducible refine (Ka.out _).mono ?_)
    rintro e w2 ⟨rfl, rfl⟩
    go_wp2_with fail
    (with_reducible refine (Kb.out _).mono ?_)
    rintro e w3 ⟨rfl, rfl⟩
    go_wp2_with fail
    go_ret
    exact ⟨Kp.new _ _, some ⟨w3.heap.size, 0, none⟩, 1, 1, rfl, by rw [HT.out]; exact MvO.new1 w3 ⟨11, 1, 3⟩, by omega⟩
  | false =>
    have HT := Lib.hid (show tokM false sent psk 3 = [⟨11, 1, 3⟩] by cases sent <;> cases psk <;> rfl)
    unfold sideOf
    go_enter Tryd.func31, Tryd.ntmps31
    go_wp2_with fail
    (with_reducible refine (Hs.out _).mono ?_)
    rintro e w1 ⟨rfl, rfl⟩
    go_wp2_with fail
    (with_reducible refine (Kc.out _).mono ?_)
    rintro e w2 ⟨rfl, rfl⟩
    go_wp2_with fail
    (with_reducible refine (Kd.out _).mono ?_)
    rintro e w3 ⟨rfl, rfl⟩
    go_wp2_with fail
    go_ret
    exact ⟨Kp.new _ _, some ⟨w3.heap.size, 0, none⟩, 1, 1, rfl, by rw [HT.out]; exact MvO.new1 w3 ⟨11, 1, 3⟩, by omega⟩

set_option maxHeartbeats 4000000 in
theorem movesR_4 (w : World) (ini sent psk : Bool) : Calls Tryd.prog 31 #[iv 4, iv (sideOf ini), .bool sent, .bool psk] w (MovRPost w (tokM ini sent psk 4)) := by
  have Hs := Lib.hid (show ∀ w, Calls Tryd.prog 47 #[iv 4] w fun e w' => e = .returned (.tuple #[iv 1, iv 2]) ∧ w' = w from fun w => shares_any w 4 (by omega))
  have Ka := Lib.hid (show ∀ w, Calls Tryd.prog 29 #[iv 1, .bool true] w fun e w' => e = .returned (iv 1) ∧ w' = w from fun w => keyR_any w 1 true (by omega))
  have Kb := Lib.hid (show ∀ w, Calls Tryd.prog 29 #[iv 2, .bool false] w fun e w' => e = .returned (iv 4) ∧ w' = w from fun w => keyR_any w 2 false (by omega))
  have Kc := Lib.hid (show ∀ w, Calls Tryd.prog 29 #[iv 2, .bool true] w fun e w' => e = .returned (iv 2) ∧ w' = w from fun w => keyR_any w 2 true (by omega))
  have Kd := Lib.hid (show ∀ w, Calls Tryd.prog 29 #[iv 1, .bool false] w fun e w' => e = .returned (iv 3) ∧ w' = w from fun w => keyR_any w 1 false (by omega))
  cases ini with
  | true =>
    have HT := Lib.hid (show tokM true sent psk 4 = [⟨11, 1, 4⟩] by cases sent <;> cases psk <;> rfl)
    unfold sideOf
    go_enter Tryd.func31, Tryd.ntmps31
    go_wp2_with fail
    (with_reducible refine (Hs.out _).mono ?_)
    rintro e w1 ⟨rfl, rfl⟩
    go_wp2_with fail
    (with_reducible refine (Ka.out _).mono ?_)
    rintro e w2 ⟨rfl, rfl⟩
    go_wp2_with fail
    (with_reducible refine (Kb.out _).mono ?_)
    rintro e w3 ⟨rfl, rfl⟩
    go_wp2_with fail
    go_ret
    exact ⟨Kp.new _ _, some ⟨w3.heap.size, 0, none⟩, 1, 1, rfl, by rw [HT.out]; exact MvO.new1 w3 ⟨11, 1, 4⟩, by omega⟩
  | false =>
    have HT := Lib.hid (show tokM false sent psk 4 = [⟨11, 2, 3⟩] by cases sent <;> cases psk <;> rfl)
    unfold sideOf
    go_enter Tryd.func31, Tryd.ntmps31
    go_wp2_with fail
    (with_reducible refine (Hs.out _).mono ?_)
    rintro e w1 ⟨rfl, rfl⟩
    go_wp2_with fail
    (with_reducible refine (Kc.out _).mono ?_)
    rintro e w2 ⟨rfl, rfl⟩
    go_wp2_with fail
    (with_reducible refine (Kd.out _).mono ?_)
    rintro e w3 ⟨rfl, rfl⟩
    go_wp2_with fail
    go_ret
    exact ⟨Kp.new _ _, some ⟨w3.heap.size, 0, none⟩, 1, 1, rfl, by rw [HT.out]; exact MvO.new1 w3 ⟨11, 2, 3⟩, by omega⟩

set_option maxHeartbeats 4000000 in
theorem movesR_5 (w : World) (ini sent psk : Bool) : Calls Tryd.prog 31 #[iv 5, iv (sideOf ini), .bool sent, .bool psk] w (MovRPost w (tokM ini sent psk 5)) := by
  have Hs := Lib.hid (show ∀ w, Calls Tryd.prog 47 #[iv 5] w fun e w' => e = .returned (.tuple #[iv 2, iv 1]) ∧ w' = w from fun w => shares_any w 5 (by omega))
  have Ka := Lib.hid (show ∀ w, Calls Tryd.prog 29 #[iv 2, .bool true] w fun e w' => e = .returned (iv 2) ∧ w' = w from fun w => keyR_any w 2 true (by omega))
  have Kb := Lib.hid (show ∀ w, Calls Tryd.prog 29 #[iv 1, .bool false] w fun e w' => e = .returned (iv 3) ∧ w' = w from fun w => keyR_any w 1 false (by omega))
  have Kc := Lib.hid (show ∀ w, Calls Tryd.prog 29 #[iv 1, .bool true] w fun e w' => e = .returned (iv 1) ∧ w' = w from fun w => keyR_any w 1 true (by omega))
  have Kd := Lib.hid (show ∀ w, Calls Tryd.prog 29 #[iv 2, .bool false] w fun e w' => e = .returned (iv 4) ∧ w' = w from fun w => keyR_any w 2 false (by omega))
  cases ini with
  | true =>
    have HT := Lib.hid (show tokM true sent psk 5 = [⟨11, 2, 3⟩] by cases sent <;> cases psk <;> rfl)
    unfold sideOf
    go_enter Tryd.func31, Tryd.ntmps31
    go_wp2_with fail
    (with_reducible refine (Hs.out _).mono ?_)
    rintro e w1 ⟨rfl, rfl⟩
    go_wp2_with fail
    (with_reducible refine (Ka.out _).mono ?_)
    rintro e w2 ⟨rfl, rfl⟩
    go_wp2_with fail
    (with_reducible refine (Kb.out _).mono ?_)
    rintro e w3 ⟨rfl, rfl⟩
    go_wp2_with fail
    go_ret
    exact ⟨Kp.new _ _, some ⟨w3.heap.size, 0, none⟩, 1, 1, rfl, by rw [HT.out]; exact MvO.new1 w3 ⟨11, 2, 3⟩, by omega⟩
  | false =>
    have HT := Lib.hid (show tokM false sent psk 5 = [⟨11, 1, 4⟩] by cases sent <;> cases psk <;> rfl)
    unfold sideOf
    go_enter Tryd.func31, Tryd.ntmps31
    go_wp2_with fail
    (with_reducible refine (Hs.out _).mono ?_)
    rintro e w1 ⟨rfl, rfl⟩
    go_wp2_with fail
    (with_reducible refine (Kc.out _).mono ?_)
    rintro e w2 ⟨rfl, rfl⟩
    go_wp2_with fail
    (with_reducible refine (Kd.out _).mono ?_)
    rintro e w3 ⟨rfl, rfl⟩
    go_wp2_with fail
    go_ret
    exact ⟨Kp.new _ _, some ⟨w3.heap.size, 0, none⟩, 1, 1, rfl, by rw [HT.out]; exact MvO.new1 w3 ⟨11, 1, 4⟩, by omega⟩

set_option maxHeartbeats 4000000 in
theorem movesR_6 (w : World) (ini sent psk : Bool) : Calls Tryd.prog 31 #[iv 6, iv (sideOf ini), .bool sent, .bool psk] w (MovRPost w (tokM ini sent psk 6)) := by
  have Hs := Lib.hid (show ∀ w, Calls Tryd.prog 47 #[iv 6] w fun e w' => e = .returned (.tuple #[iv 2, iv 2]) ∧ w' = w from fun w => shares_any w 6 (by omega))
  have Ka := Lib.hid (show ∀ w, Calls Tryd.prog 29 #[iv 2, .bool true] w fun e w' => e = .returned (iv 2) ∧ w' = w from fun w => keyR_any w 2 true (by omega))
  have Kb := Lib.hid (show ∀ w, Calls Tryd.prog 29 #[iv 2, .bool false] w fun e w' => e = .returned (iv 4) ∧ w' = w from fun w => keyR_any w 2 false (by omega))
  have Kc := Lib.hid (show ∀ w, Calls Tryd.prog 29 #[iv 2, .bool true] w fun e w' => e = .returned (iv 2) ∧ w' = w from fun w => keyR_any w 2 true (by omega))
  have Kd := Lib.hid (show ∀ w, Calls Tryd.prog 29 #[iv 2, .bool false] w fun e w' => e = .returned (iv 4) ∧ w' = w from fun w => keyR_any w 2 false (by omega))
  cases ini with
  | true =>
    have HT := Lib.hid (show tokM true sent psk 6 = [⟨11, 2, 4⟩] by cases sent <;> cases psk <;> rfl)
    unfold sideOf
    go_enter Tryd.func31, Tryd.ntmps31
    go_wp2_with fail
    (with_reducible refine (Hs.out _).mono ?_)
    rintro e w1 ⟨rfl, rfl⟩
    go_wp2_with fail
    (with_reducible refine (Ka.out _).mono ?_)
    rintro e w2 ⟨rfl, rfl⟩
    go_wp2_with fail
    (with_reducible refine (Kb.out _).mono ?_)
    rintro e w3 ⟨rfl, rfl⟩
    go_wp2_with fail
    go_ret
    exact ⟨Kp.new _ _, some ⟨w3.heap.size, 0, none⟩, 1, 1, rfl, by rw [HT.out]; exact MvO.new1 w3 ⟨11, 2, 4⟩, by omega⟩
  | false =>
    have HT := Lib.hid (show tokM false sent psk 6 = [⟨11, 2, 4⟩] by cases sent <;> cases psk <;> rfl)
    unfold sideOf
    go_enter Tryd.func31, Tryd.ntmps31
    go_wp2_with fail
    (with_reducible refine (Hs.out _).mono ?_)
    rintro e w1 ⟨rfl, rfl⟩
    go_wp2_with fail
    (with_reducible refine (Kc.out _).mono ?_)
    rintro e w2 ⟨rfl, rfl⟩
    go_wp2_with fail
    (with_reducible refine (Kd.out _).mono ?_)
    rintro e w3 ⟨rfl, rfl⟩
    go_wp2_with fail
    go_ret
    exact ⟨Kp.new _ _, some ⟨w3.heap.size, 0, none⟩, 1, 1, rfl, by rw [HT.out]; exact MvO.new1 w3 ⟨11, 2, 4⟩, by omega⟩

theorem movesR_any (w : World) (ini sent psk : Bool) (t : Int) (h1 : 1 ≤ t) (h7 : t ≤ 7) : Calls Tryd.prog 31 #[iv t, iv (sideOf ini), .bool sent, .bool psk] w (MovRPost w (tokM ini sent psk t)) := by
  rcases (show t = 1 ∨ t = 2 ∨ t = 3 ∨ t = 4 ∨ t = 5 ∨ t = 6 ∨ t = 7 by omega) with rfl | rfl | rfl | rfl | rfl | rfl | rfl
  · exact movesR_1 w ini sent psk
  · exact movesR_2 w ini sent psk
  · exact movesR_3 w ini sent psk
  · exact movesR_4 w ini sent psk
  · exact movesR_5 w ini sent psk
  · exact movesR_6 w ini sent psk
  · exact movesR_7 w ini sent psk
end Go.Proofs.YtpemfmjplejdiaaDoor
