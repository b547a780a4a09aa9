/- Parts of the walks and plain laws, merged: RefWords, RefLine, RowsOf, RowLaw, AllA, All, Find, Fnd. Each theorem bears its own conditions; no other. -/
import Derived.Test.YtkmejehhdjdlbaaGreatDoorGa7
import Derived.Test.YtkmejehhdjdlbaaGreatDoorGa1
namespace Go.Proofs.YtkmejehhdjdlbaaGreatDoor
open Go.RowKit

/-- What is answered: the tokens in a list of the call's own, and whether they are of the form. -/
def RWordsPost (w : World) (s : Q.Bt) (e : Ending) (w' : World) : Prop := Kp w w' ∧ ∃ ao n cap, e = .returned (.tuple #[.slice ao n cap, .bool (wdR s).isSome]) ∧ ∀ l, wdR s = some l → Own w' w.heap.size 3 1 ao n cap (l.map iv) ∧ n ≤ s.length
theorem RWordsPost.no {w w' : World} {s : Q.Bt} (h : wdR s = none) (k : Kp w w') : RWordsPost w s (.returned (.tuple #[.slice none 0 0, .bool false])) w' := ⟨k, none, 0, 0, by rw [h]; rfl, fun l hl => by rw [h] at hl; cases hl⟩
theorem RWordsPost.yes {w w' : World} {s : Q.Bt} {l : List Int} {ao : Option Addr} {n cap : Nat} (h : wdR s = some l) (k : Kp w w') (ho : Own w' w.heap.size 3 1 ao n cap (l.map iv)) (hn : n ≤ s.length) : RWordsPost w s (.returned (.tuple #[.slice ao n cap, .bool true])) w' :=
  ⟨k, ao, n, cap, by rw [h]; rfl, fun l' hl => by rw [h] at hl; cases hl; exact ⟨ho, hn⟩⟩
theorem byte_ne {c : UInt8} {k : Nat} (hk : k < 256) (h : c ≠ UInt8.ofNat k) : (((c.toNat : Nat) : Int) == (k : Int)) = false := by
  rw [beq_eq_false_iff_ne]
  intro e
  apply h
  rw [← UInt8.toNat_inj, UInt8.toNat_ofNat']
  omega
def sizeOf' : Value → Nat
  | .string s => s.size
  | _ => 0
set_option maxRecDepth 100000 in
set_option maxHeartbeats 8000000 in
theorem rwords_any (w : World) (s : ByteArray) (hs : s.size ≤ 5000) : Calls Tryz.prog 109 #[.string s] w (RWordsPost w s.data.toList) := by
  have Hsl := Lib.hid (Lib.size_eq s)
  go_enter Tryz.func109, Tryz.ntmps109
  go_wp2_with fail
  go_loopw [0, 4] (fun sv lv wr => ∃ (cur : ByteArray) (acc : List Int) (ao : Option Addr) (n cap : Nat), sv = .string cur ∧ lv = .slice ao n cap ∧ n + cur.size ≤ s.size ∧ Own wr w.heap.size 3 1 ao n cap (acc.map iv) ∧ Kp w wr ∧ wdR s.data.toList = (wdR cur.data.toList).map (acc ++ ·)) (fun sv _ _ => sizeOf' sv)
  case atStart => exact ⟨s, [], none, 0, 0, rfl, rfl, by omega, Own.nil _ _ _ _, Kp.refl _, by simp⟩
  case round =>
    obtain ⟨cur, acc, ao, n, cap, rfl, rfl, hn, hO, hkk, hW⟩ := hrel
    have HW := Lib.hid hW
    have HO := Lib.hid hO
    have HK := Lib.hid hkk
    rename World => wr
    clear hW hO hkk
    go_wp2_with fail
    go_loopw [5] (fun i wv => ∃ k : Nat, k ≤ cur.size ∧ i = .int .i64 (k : Nat) ∧ wr = wv ∧ ∀ j (h : j < cur.size), j < k → cur[j] ≠ 44) (fun i _ => cur.size - (intOf i).toNat)
    case atStart => exact ⟨0, by omega, rfl, rfl, fun j h h' => by omega⟩
    case round =>
      obtain ⟨k, hk, rfl, rfl, hall⟩ := hrel
      have Hall := Lib.hid hall
      clear hall
      by_cases hgo : ∃ h : k < cur.size, cur[k] ≠ 44
      · obtain ⟨hlt, h44⟩ := hgo
        have hb : (((cur[k].toNat : Nat) : Int) == 44) = false := byte_ne (k := 44) (by decide) h44
        have H44 := Lib.hid h44
        clear h44
        go_wp2_with fail
        go_roundw
        case rel => exact ⟨k + 1, by omega, by go_num, trivial, fun j h h' => by
          rcases Nat.lt_or_ge j k with q | q
          · exact Hall.out j h q
          · obtain rfl : j = k := by omega
            exact H44.out⟩
        case measure => simp [intOf]; omega
      · have he : k = cur.size ∨ ∃ h : k < cur.size, cur[k] = 44 := by
          rcases Nat.lt_or_ge k cur.size with q | q
          · exact .inr ⟨q, Decidable.byContradiction (fun hn => hgo ⟨q, hn⟩)⟩
          · exact .inl (by omega)
        have HE := Lib.hid he
        clear he hgo
        go_upto_region 3 with fail
        go_cut [17] (fun v wc => v = .bool false ∧ wr = wc)
        case first =>
          rcases HE.out with rfl | ⟨hlt, h44⟩
          · go_wp2_with fail
            go_meet
            case rel => exact ⟨rfl, rfl⟩
          · have hb : (((cur[k].toNat : Nat) : Int) == 44) = true := by rw [h44]; rfl
            clear h44
            go_wp2_with fail
            go_meet
            case rel => exact ⟨by rw [bne, hb]; rfl, rfl⟩
        case rest =>
          obtain ⟨rfl, rfl⟩ := hcut
          obtain ⟨x, hx⟩ : ∃ x, x = cur.extract 0 k := ⟨_, rfl⟩
          have Hx := Lib.hid hx
          clear hx
          go_wp2_with fail
          go_loopw [6, 7] (fun t i wv => ∃ j : Nat, j ≤ 7 ∧ i = .int .i64 ((j + 1 : Nat) : Int) ∧ t = .int .i64 ((tokTo x j : Nat) : Int) ∧ Kp wr wv) (fun _ i _ => 8 - (intOf i).toNat)
          case atStart => exact ⟨0, by omega, rfl, rfl, Kp.refl _⟩
          case round =>
            obtain ⟨j, hj, rfl, rfl, hkv⟩ := hrel
            rename World => wv
            by_cases hj7 : j < 7
            · have Hstep := Lib.hid (show tokTo x (j + 1) = if ((wordL (j + 1)).toList == x.toList) = true then j + 1 else tokTo x j from rfl)
              have Hw := Lib.hid (show ∀ q, Calls Tryz.prog 103 #[iv ((j + 1 : Nat) : Int)] (wv.drewN q) fun e w' => e = .returned (.string (wordL (j + 1))) ∧ w' = wv.drewN q from fun q => word_any (wv.drewN q) (j + 1) (by omega) (by omega))
              have htl := tokTo_le x j
              rw [Hx.out] at Hstep
              have Hkv := Lib.hid hkv
              clear hkv
              cases hq : (wordL (j + 1)).toList == (cur.extract 0 k).toList with
              | true =>
                have Hs2 := Lib.hid (show tokTo x (j + 1) = j + 1 by rw [Hx.out, Hstep.out, hq]; rfl)
                go_wp2_with fail
                go_quiet ((go_at_call 103; exact Calls.quiet_of_same (Hw.out _)))
                go_wp2_with fail
                go_roundw
                case rel => exact ⟨j + 1, by omega, by go_num, by rw [Hs2.out], Kp.trans Hkv.out (Kp.of_drewN _ _)⟩
                case measure => simp [intOf]; omega
              | false =>
                have Hs2 := Lib.hid (show tokTo x (j + 1) = tokTo x j by rw [Hx.out, Hstep.out, hq]; rfl)
                go_wp2_with fail
                go_quiet ((go_at_call 103; exact Calls.quiet_of_same (Hw.out _)))
                go_wp2_with fail
                go_roundw
                case rel => exact ⟨j + 1, by omega, by go_num, by rw [Hs2.out], Kp.trans Hkv.out (Kp.of_drewN _ _)⟩
                case measure => simp [intOf]; omega
            · obtain rfl : j = 7 := by omega
              have HKv := Lib.hid (Kp.trans HK.out hkv)
              have HOv := Lib.hid (HO.out.keep hkv)
              have htl := tokTo_le x 7
              obtain ⟨tk, htk⟩ : ∃ tk, tk = tokTo x 7 := ⟨_, rfl⟩
              have Htk := Lib.hid (show tk = tokTo (cur.extract 0 k) 7 by rw [htk, Hx.out])
              rw [← htk] at htl ⊢
              clear htk hkv
              by_cases ht0 : tk = 0
              · have hno : wdR s.data.toList = none := by
                  rw [HW.out, wdR_none hk Hall.out HE.out (by rw [← Htk.out]; exact ht0)]; rfl
                have Hp := Lib.hid (RWordsPost.no hno HKv.out)
                subst ht0
                clear hno
                go_wp2_with fail
                show bodyPost Tryz.prog Tryz.f109 (RWordsPost w s.data.toList) .ret _ _
                refine bodyPost_ret (v := .tuple #[.slice none 0 0, .bool false]) (by simp [results, Tryz.results109, go_sem]) rfl ?_
                exact Hp.out
              · have ht0' : ((tk : Nat) : Int) ≠ 0 := by omega
                have hHne := Lib.hid (show tokTo (cur.extract 0 k) 7 ≠ 0 by rw [← Htk.out]; exact ht0)
                rcases HE.out with he | ⟨hlt, h44⟩
                · have hyes : wdR s.data.toList = some (acc ++ [((tk : Nat) : Int)]) := by
                    subst he
                    rw [HW.out, wdR_last (fun j hj _ => Hall.out j hj hj) hHne.out, ← Htk.out]; rfl
                  have Hyes := Lib.hid hyes
                  have hnl : n + 1 ≤ s.size + 1 := by omega
                  have hb : ((k : Int) == (cur.size : Int)) = true := by simp [he]
                  have Hcs := Lib.hid (show 0 < cur.size by
                    rcases Nat.eq_zero_or_pos cur.size with q | q
                    · exfalso
                      have h3 := hHne.out
                      rw [he, q] at h3
                      have : (cur.extract 0 0) = ⟨#[]⟩ := by rw [ByteArray.ext_iff]; simp
                      rw [this] at h3
                      exact h3 (by kernel_rfl)
                    · exact q)
                  clear hyes he
                  go_wp2_with (at_builtin; refine wpList_app rfl (.tmp 33) (.tmp 35) 22 rfl el22 w.heap.size rfl (HOv.out.keep (Kp.new _ _)) rfl [iv ((tk : Nat) : Int)] rfl (Cs.new wv [iv ((tk : Nat) : Int)] 3 (0, 0)) (by simp [Value.oneCell']) (n + 1) rfl ((acc ++ [((tk : Nat) : Int)]).map iv) (by simp) (by omega) (Nat.le_trans HKv.out.size (by simp)) ?_; intro ao2 cap2 w2 ha; have HK2 := Lib.hid (kp_own HKv.out (Kp.new _ _) (Nat.le_refl _) HOv.out ha); have HO2 := Lib.hid ha.own; clear ha)
                  show bodyPost Tryz.prog Tryz.f109 (RWordsPost w s.data.toList) .ret _ _
                  refine bodyPost_ret (v := .tuple #[.slice ao2 (n + 1) cap2, .bool true]) (by simp [results, Tryz.results109, go_sem]) rfl ?_
                  exact RWordsPost.yes Hyes.out HK2.out HO2.out (by rw [← Hsl.out]; have := Hcs.out; omega)
                · have hb : ((k : Int) == (cur.size : Int)) = false := by simp; omega
                  by_cases h1 : k + 1 < cur.size
                  · by_cases h32 : cur[k + 1] = 32
                    · have hb2 : (((cur[k + 1].toNat : Nat) : Int) == 32) = true := by rw [h32]; rfl
                      have Hnext := Lib.hid (show wdR s.data.toList = (wdR (cur.extract (k + 2) cur.size).data.toList).map ((acc ++ [((tk : Nat) : Int)]) ++ ·) by
                        rw [HW.out, wdR_next Hall.out hlt h44 h1 h32 hHne.out, ← Htk.out]
                        cases wdR (cur.extract (k + 2) cur.size).data.toList <;> simp)
                      have Hsz2 := Lib.hid (show (cur.extract (k + 2) cur.size).size = cur.size - (k + 2) by rw [ByteArray.size_extract]; omega)
                      have H32 := Lib.hid hb2
                      clear h44 h32 hb2
                      go_upto_region 16 with (at_builtin; refine wpList_app rfl (.tmp 33) (.tmp 35) 22 rfl el22 w.heap.size rfl (HOv.out.keep (Kp.new _ _)) rfl [iv ((tk : Nat) : Int)] rfl (Cs.new wv [iv ((tk : Nat) : Int)] 3 (0, 0)) (by simp [Value.oneCell']) (n + 1) rfl ((acc ++ [((tk : Nat) : Int)]).map iv) (by simp) (by omega) (Nat.le_trans HKv.out.size (by simp)) ?_; intro ao2 cap2 w2 ha; have HK2 := Lib.hid (kp_own HKv.out (Kp.new _ _) (Nat.le_refl _) HOv.out ha); have HO2 := Lib.hid ha.own; clear ha)
                      go_cut [53] (fun v wc => v = .bool false ∧ w2 = wc)
                      case first =>
                        go_wp2_with fail
                        all_goals
                          go_meet
                          case rel => exact ⟨by first | rfl | (refine congrArg Value.bool ?_; have q := beq_iff_eq.1 H32.out; rw [Bool.eq_iff_iff]; simp; omega), rfl⟩
                      case rest =>
                        obtain ⟨rfl, rfl⟩ := hcut
                        go_wp2_with fail
                        go_roundw
                        case rel => exact ⟨cur.extract (k + 2) cur.size, acc ++ [((tk : Nat) : Int)], ao2, n + 1, cap2, rfl, rfl, by rw [Hsz2.out]; omega, HO2.out, HK2.out, Hnext.out⟩
                        case measure => simp only [sizeOf']; rw [Hsz2.out]; omega
                    · have hb2 : (((cur[k + 1].toNat : Nat) : Int) == 32) = false := byte_ne (k := 32) (by decide) h32
                      have Hno := Lib.hid (show wdR s.data.toList = none by rw [HW.out, wdR_bad Hall.out hlt h44 (.inr ⟨h1, h32⟩)]; rfl)
                      have H32 := Lib.hid hb2
                      clear h44 h32 hb2
                      go_upto_region 16 with (at_builtin; refine wpList_app rfl (.tmp 33) (.tmp 35) 22 rfl el22 w.heap.size rfl (HOv.out.keep (Kp.new _ _)) rfl [iv ((tk : Nat) : Int)] rfl (Cs.new wv [iv ((tk : Nat) : Int)] 3 (0, 0)) (by simp [Value.oneCell']) (n + 1) rfl ((acc ++ [((tk : Nat) : Int)]).map iv) (by simp) (by omega) (Nat.le_trans HKv.out.size (by simp)) ?_; intro ao2 cap2 w2 ha; have HK2 := Lib.hid (kp_own HKv.out (Kp.new _ _) (Nat.le_refl _) HOv.out ha); have HO2 := Lib.hid ha.own; clear ha)
                      go_cut [53] (fun v wc => v = .bool true ∧ w2 = wc)
                      case first =>
                        go_wp2_with fail
                        all_goals
                          go_meet
                          case rel => exact ⟨by first | rfl | (refine congrArg Value.bool ?_; have q := beq_eq_false_iff_ne.1 H32.out; rw [Bool.eq_iff_iff]; simp; omega), rfl⟩
                      case rest =>
                        obtain ⟨rfl, rfl⟩ := hcut
                        go_wp2_with fail
                        show bodyPost Tryz.prog Tryz.f109 (RWordsPost w s.data.toList) .ret _ _
                        refine bodyPost_ret (v := .tuple #[.slice none 0 0, .bool false]) (by simp [results, Tryz.results109, go_sem]) rfl ?_
                        exact RWordsPost.no Hno.out HK2.out
                  · have Hno := Lib.hid (show wdR s.data.toList = none by rw [HW.out, wdR_bad Hall.out hlt h44 (.inl (by omega))]; rfl)
                    clear h44
                    go_upto_region 16 with (at_builtin; refine wpList_app rfl (.tmp 33) (.tmp 35) 22 rfl el22 w.heap.size rfl (HOv.out.keep (Kp.new _ _)) rfl [iv ((tk : Nat) : Int)] rfl (Cs.new wv [iv ((tk : Nat) : Int)] 3 (0, 0)) (by simp [Value.oneCell']) (n + 1) rfl ((acc ++ [((tk : Nat) : Int)]).map iv) (by simp) (by omega) (Nat.le_trans HKv.out.size (by simp)) ?_; intro ao2 cap2 w2 ha; have HK2 := Lib.hid (kp_own HKv.out (Kp.new _ _) (Nat.le_refl _) HOv.out ha); have HO2 := Lib.hid ha.own; clear ha)
                    go_cut [53] (fun v wc => v = .bool true ∧ w2 = wc)
                    case first =>
                      go_wp2_with fail
                      all_goals
                        go_meet
                        case rel => exact ⟨by first | rfl | (refine congrArg Value.bool ?_; first | omega | (rw [Bool.eq_iff_iff]; simp; try omega)), rfl⟩
                    case rest =>
                      obtain ⟨rfl, rfl⟩ := hcut
                      go_wp2_with fail
                      show bodyPost Tryz.prog Tryz.f109 (RWordsPost w s.data.toList) .ret _ _
                      refine bodyPost_ret (v := .tuple #[.slice none 0 0, .bool false]) (by simp [results, Tryz.results109, go_sem]) rfl ?_
                      exact RWordsPost.no Hno.out HK2.out
end Go.Proofs.YtkmejehhdjdlbaaGreatDoor

namespace Go.Proofs.YtkmejehhdjdlbaaGreatDoor
open Go.RowKit

def RLinePost (w : World) (s : Q.Bt) (e : Ending) (w' : World) : Prop := Kp w w' ∧ ∃ (f : Int) (ao : Option Addr) (n cap : Nat), e = .returned (.tuple #[.agg #[iv f, .slice ao n cap], .bool (Q.lineR s).isSome]) ∧ ∀ l, Q.lineR s = some l → f = l.1 ∧ Own w' w.heap.size 3 1 ao n cap (l.2.map iv) ∧ n ≤ s.length
theorem lineR_wd (s : Q.Bt) : Q.lineR s = if Lib.hasPrefix s Q.outR || Lib.hasPrefix s Q.inR then (wdR (s.drop 5)).map (fun l => (if s[2]? = some 60 then 1 else 0, l)) else none := by
  unfold Q.lineR
  rw [wdR_fuel (k := s.length + 1) (s := s.drop 5) (by simp; omega)]
theorem pre_take (s : ByteArray) (p : Q.Bt) (hp : p.length = 5) : Lib.hasPrefix s.data.toList p = ((s.extract 0 5).toList == p) := by
  have e : (s.extract 0 5).toList = s.data.toList.take 5 := by
    rw [Lib.toList_data]
    simp
  rw [e]
  unfold Lib.hasPrefix
  rw [Bool.eq_iff_iff, List.isPrefixOf_iff_prefix, beq_iff_eq, List.prefix_iff_eq_take, hp]
  exact eq_comm
theorem short_pre {s : Q.Bt} {p : Q.Bt} (hp : p.length = 5) (h : s.length < 5) : Lib.hasPrefix s p = false := by
  cases hq : Lib.hasPrefix s p with
  | false => rfl
  | true =>
    obtain ⟨r, rfl⟩ := Q.pre_get hq
    rw [List.length_append] at h
    omega
theorem RLinePost.no {w w' : World} {s : Q.Bt} (h : Q.lineR s = none) (k : Kp w w') (f : Int) (ao : Option Addr) (n cap : Nat) : RLinePost w s (.returned (.tuple #[.agg #[iv f, .slice ao n cap], .bool false])) w' := ⟨k, f, ao, n, cap, by rw [h]; rfl, fun l hl => by rw [h] at hl; cases hl⟩
/-- What the words of the row leave, as the row. -/
theorem RLinePost.of {w w' : World} {s : ByteArray} {f : Int} {ao : Option Addr} {n cap : Nat} (k : Kp w w') (h : Q.lineR s.data.toList = (wdR (s.extract 5 s.size).data.toList).map (fun l => (f, l)))
    (ho : ∀ l, wdR (s.extract 5 s.size).data.toList = some l → Own w' w.heap.size 3 1 ao n cap (l.map iv) ∧ n ≤ (s.extract 5 s.size).data.toList.length) :
    RLinePost w s.data.toList (.returned (.tuple #[.agg #[iv f, .slice ao n cap], .bool (wdR (s.extract 5 s.size).data.toList).isSome])) w' := by
  refine ⟨k, f, ao, n, cap, by rw [h]; cases wdR (s.extract 5 s.size).data.toList <;> rfl, fun l hl => ?_⟩
  rw [h] at hl
  obtain ⟨l', hl', rfl⟩ := Option.map_eq_some_iff.1 hl
  have := ho l' hl'
  refine ⟨rfl, this.1, Nat.le_trans this.2 ?_⟩
  rw [← Lib.size_eq, ← Lib.size_eq, ByteArray.size_extract]
  omega
theorem line_of {s : ByteArray} {f : Int} (p : Q.Bt) (hp : p = Q.outR ∧ f = 0 ∨ p = Q.inR ∧ f = 1) (h : ((s.extract 0 5).toList == p) = true) :
    Q.lineR s.data.toList = (wdR (s.extract 5 s.size).data.toList).map (fun l => (f, l)) ∧ s.data.toList[2]? = some (if f = 0 then 45 else 60) := by
  have hl : p.length = 5 := by rcases hp with ⟨rfl, _⟩ | ⟨rfl, _⟩ <;> rfl
  have h1 : Lib.hasPrefix s.data.toList p = true := by rw [pre_take s p hl]; exact h
  obtain ⟨r, hr⟩ := Q.pre_get h1
  have hd : (s.extract 5 s.size).data.toList = s.data.toList.drop 5 := by
    simp only [ByteArray.data_extract, Array.toList_extract, List.extract_eq_take_drop]
    exact List.take_of_length_le (by simp)
  rw [lineR_wd, hd]
  rcases hp with ⟨rfl, rfl⟩ | ⟨rfl, rfl⟩
  · rw [h1, hr]
    exact ⟨by rfl, rfl⟩
  · rw [h1, Bool.or_true, if_pos rfl, hr]
    exact ⟨by rfl, rfl⟩
set_option maxRecDepth 100000 in
set_option maxHeartbeats 8000000 in
theorem rline_any (w : World) (s : ByteArray) (hs : s.size ≤ 5000) : Calls Tryz.prog 72 #[.string s] w (RLinePost w s.data.toList) := by
  have hk0 := Kp.new w (.cells #[iv 0, .slice none 0 0] 73)
  have hT := Two2.new w (iv 0) (.slice none 0 0) 73
  have Hsl := Lib.hid (Lib.size_eq s)
  by_cases h5 : s.size < 5
  · have hno : Q.lineR s.data.toList = none := by
      rw [lineR_wd, short_pre rfl (by rw [← Hsl.out]; exact h5), short_pre rfl (by rw [← Hsl.out]; exact h5)]; rfl
    have Hno := Lib.hid hno
    have HKf := Lib.hid hk0
    obtain ⟨y0, y1, z0, z1⟩ := hT
    clear hno hk0
    go_enter Tryz.func72, Tryz.ntmps72
    go_wp2_with fail
    show bodyPost Tryz.prog Tryz.f72 (RLinePost w s.data.toList) .ret _ _
    refine bodyPost_ret (v := .tuple #[.agg #[iv 0, .slice none 0 0], .bool false]) (by simp [results, Tryz.results72, go_sem, y0, y1]) rfl ?_
    exact RLinePost.no Hno.out HKf.out 0 none 0 0
  · cases hbo : ((s.extract 0 5).toList == [32, 32, 45, 62, 32]) with
    | true =>
      have hl := line_of (f := 0) Q.outR (.inl ⟨rfl, rfl⟩) hbo
      have Hl := Lib.hid hl.1
      have h2 : (((s[2]'(by omega)).toNat : Int) == 60) = false := by
        have q := hl.2
        rw [List.getElem?_eq_getElem (by simp; omega)] at q
        simp only [Option.some.injEq] at q
        have q2 : s[2]'(by omega) = 45 := by rw [Array.getElem_toList] at q; exact q
        rw [q2]; rfl
      have Hk0 := Lib.hid hk0
      have HT := Lib.hid hT
      have HW := Lib.hid (rwords_any (w.alloc (.cells #[iv 0, .slice none 0 0] 73)) (s.extract 5 s.size) (by rw [ByteArray.size_extract]; omega))
      clear hk0 hT hl
      go_enter Tryz.func72, Tryz.ntmps72
      go_wp2_with fail
      (with_reducible refine HW.out.mono ?_)
      rintro e w2 ⟨hk2, ao, n, cap, rfl, ho⟩
      have hT2 := HT.out.kp hk2
      have hlt : w.heap.size < w2.heap.size := by have := World.block_lt_of_cell? _ _ hT2.c0; simpa using this
      have hkk := Kp.trans Hk0.out hk2
      obtain ⟨wf, hwf, d0, d1⟩ := hT2.set2 (iv 0) (.slice ao n cap)
      have hF : Fr [w.heap.size] w2 wf := by rw [hwf]; exact (Fr.set _ ⟨w.heap.size, 0, none⟩ (iv 0)).trans (Fr.set _ ⟨w.heap.size, 1, none⟩ (.slice ao n cap))
      have HKf := Lib.hid ((Fr.of_kp hkk).step hF (fun j hj => .inr (by simp at hj; omega))).kp
      have HO := Lib.hid (show ∀ l, wdR (s.extract 5 s.size).data.toList = some l → Own wf w.heap.size 3 1 ao n cap (l.map iv) ∧ n ≤ (s.extract 5 s.size).data.toList.length from fun l hl => by
        have q := ho l hl
        refine ⟨hF.own (q.1.mono (fun k hk => by have := (q.1.lt k hk).1; rw [World.size_alloc] at this; omega)) (fun k hk hk2 => ?_), q.2⟩
        have := (q.1.lt k (mem_blkL.1 hk)).1
        rw [World.size_alloc] at this
        simp at hk2
        omega)
      have Hwf := Lib.hid hwf
      obtain ⟨y0, y1, z0, z1⟩ := hT2
      generalize hbb : (wdR (s.extract 5 s.size).data.toList).isSome = bb at *
      have Hbb := Lib.hid hbb.symm
      clear hbb
      clear ho hF hwf hkk hk2
      go_wp2_with fail
      rw [← Hwf.out]
      refine bodyPost_ret (v := .tuple #[.agg #[iv 0, .slice ao n cap], .bool bb]) (by simp [results, Tryz.results72, go_sem, d0, d1]) rfl ?_
      rw [Hbb.out]
      exact RLinePost.of HKf.out Hl.out HO.out
    | false =>
      cases hbi : ((s.extract 0 5).toList == [32, 32, 60, 45, 32]) with
      | true =>
        have hl := line_of (f := 1) Q.inR (.inr ⟨rfl, rfl⟩) hbi
        have Hl := Lib.hid hl.1
        have h2 : (((s[2]'(by omega)).toNat : Int) == 60) = true := by
          have q := hl.2
          rw [List.getElem?_eq_getElem (by simp; omega)] at q
          simp only [Option.some.injEq] at q
          have q2 : s[2]'(by omega) = 60 := by rw [Array.getElem_toList] at q; exact q
          rw [q2]; rfl
        have Hk0 := Lib.hid hk0
        have HT := Lib.hid hT
        have HW := Lib.hid (rwords_any (w.alloc (.cells #[iv 0, .slice none 0 0] 73)) (s.extract 5 s.size) (by rw [ByteArray.size_extract]; omega))
        clear hk0 hT hl
        go_enter Tryz.func72, Tryz.ntmps72
        go_wp2_with fail
        (with_reducible refine HW.out.mono ?_)
        rintro e w2 ⟨hk2, ao, n, cap, rfl, ho⟩
        have hT2 := HT.out.kp hk2
        have hlt : w.heap.size < w2.heap.size := by have := World.block_lt_of_cell? _ _ hT2.c0; simpa using this
        have hkk := Kp.trans Hk0.out hk2
        obtain ⟨wf, hwf, d0, d1⟩ := hT2.set2 (iv 1) (.slice ao n cap)
        have hF : Fr [w.heap.size] w2 wf := by rw [hwf]; exact (Fr.set _ ⟨w.heap.size, 0, none⟩ (iv 1)).trans (Fr.set _ ⟨w.heap.size, 1, none⟩ (.slice ao n cap))
        have HKf := Lib.hid ((Fr.of_kp hkk).step hF (fun j hj => .inr (by simp at hj; omega))).kp
        have HO := Lib.hid (show ∀ l, wdR (s.extract 5 s.size).data.toList = some l → Own wf w.heap.size 3 1 ao n cap (l.map iv) ∧ n ≤ (s.extract 5 s.size).data.toList.length from fun l hl => by
          have q := ho l hl
          refine ⟨hF.own (q.1.mono (fun k hk => by have := (q.1.lt k hk).1; rw [World.size_alloc] at this; omega)) (fun k hk hk2 => ?_), q.2⟩
          have := (q.1.lt k (mem_blkL.1 hk)).1
          rw [World.size_alloc] at this
          simp at hk2
          omega)
        have Hwf := Lib.hid hwf
        obtain ⟨y0, y1, z0, z1⟩ := hT2
        generalize hbb : (wdR (s.extract 5 s.size).data.toList).isSome = bb at *
        have Hbb := Lib.hid hbb.symm
        clear hbb
        clear ho hF hwf hkk hk2
        go_wp2_with fail
        rw [← Hwf.out]
        refine bodyPost_ret (v := .tuple #[.agg #[iv 1, .slice ao n cap], .bool bb]) (by simp [results, Tryz.results72, go_sem, d0, d1]) rfl ?_
        rw [Hbb.out]
        exact RLinePost.of HKf.out Hl.out HO.out
      | false =>
        have hno : Q.lineR s.data.toList = none := by
          rw [lineR_wd, pre_take s _ rfl, pre_take s _ rfl]
          rw [show Q.outR = [32, 32, 45, 62, 32] from rfl, show Q.inR = [32, 32, 60, 45, 32] from rfl, hbo, hbi]; rfl
        have Hno := Lib.hid hno
        have HKf := Lib.hid hk0
        obtain ⟨y0, y1, z0, z1⟩ := hT
        clear hno hk0
        go_enter Tryz.func72, Tryz.ntmps72
        go_wp2_with fail
        show bodyPost Tryz.prog Tryz.f72 (RLinePost w s.data.toList) .ret _ _
        refine bodyPost_ret (v := .tuple #[.agg #[iv 0, .slice none 0 0], .bool false]) (by simp [results, Tryz.results72, go_sem, y0, y1]) rfl ?_
        exact RLinePost.no Hno.out HKf.out 0 none 0 0
end Go.Proofs.YtkmejehhdjdlbaaGreatDoor

namespace Go.Proofs.YtkmejehhdjdlbaaGreatDoor
open Go.RowKit

/-- The rows of the table, as texts. -/
def rowsL : List ByteArray := [⟨#[73, 49, 75, 124, 124, 115, 124, 101, 32, 101, 115, 32, 115, 59, 101, 32, 101, 101, 59, 115, 101]⟩, ⟨#[73, 49, 75, 49, 124, 124, 115, 124, 101, 32, 115, 59, 101, 32, 101, 101, 32, 101, 115, 59, 115, 101]⟩, ⟨#[73, 49, 78, 124, 124, 124, 101, 32, 115, 59, 101, 32, 101, 101, 59, 115, 101]⟩, ⟨#[73, 49, 88, 124, 124, 124, 101, 32, 115, 59, 101, 32, 101, 101, 32, 115, 32, 101, 115, 59, 115, 101]⟩, ⟨#[73, 49, 88, 49, 124, 124, 124, 101, 32, 115, 59, 101, 32, 101, 101, 32, 115, 59, 115, 101, 32, 101, 115]⟩, ⟨#[73, 75, 124, 124, 115, 124, 101, 32, 101, 115, 32, 115, 32, 115, 115, 59, 101, 32, 101, 101, 32, 115, 101]⟩, ⟨#[73, 75, 49, 124, 124, 115, 124, 101, 32, 115, 59, 101, 32, 101, 101, 32, 115, 101, 32, 101, 115]⟩, ⟨#[73, 78, 124, 124, 124, 101, 32, 115, 59, 101, 32, 101, 101, 32, 115, 101]⟩, ⟨#[73, 88, 124, 124, 124, 101, 32, 115, 59, 101, 32, 101, 101, 32, 115, 101, 32, 115, 32, 101, 115]⟩, ⟨#[73, 88, 49, 124, 124, 124, 101, 32, 115, 59, 101, 32, 101, 101, 32, 115, 101, 32, 115, 59, 101, 115]⟩, ⟨#[75, 124, 115, 124, 115, 124, 101, 32, 101, 115, 32, 115, 115]⟩, ⟨#[75, 49, 75, 124, 115, 124, 115, 124, 101, 32, 101, 115, 59, 101, 32, 101, 101, 59, 115, 101]⟩, ⟨#[75, 49, 75, 49, 124, 115, 124, 115, 124, 101, 59, 101, 32, 101, 101, 32, 101, 115, 59, 115, 101]⟩, ⟨#[75, 49, 78, 124, 115, 124, 124, 101, 59, 101, 32, 101, 101, 59, 115, 101]⟩, ⟨#[75, 49, 88, 124, 115, 124, 124, 101, 59, 101, 32, 101, 101, 32, 115, 32, 101, 115, 59, 115, 101]⟩, ⟨#[75, 49, 88, 49, 124, 115, 124, 124, 101, 59, 101, 32, 101, 101, 32, 115, 59, 115, 101, 32, 101, 115]⟩, ⟨#[75, 75, 124, 115, 124, 115, 124, 101, 32, 101, 115, 32, 115, 115, 59, 101, 32, 101, 101, 32, 115, 101]⟩, ⟨#[75, 75, 49, 124, 115, 124, 115, 124, 101, 59, 101, 32, 101, 101, 32, 115, 101, 32, 101, 115]⟩, ⟨#[75, 78, 124, 115, 124, 124, 101, 59, 101, 32, 101, 101, 32, 115, 101]⟩, ⟨#[75, 88, 124, 115, 124, 124, 101, 59, 101, 32, 101, 101, 32, 115, 101, 32, 115, 32, 101, 115]⟩, ⟨#[75, 88, 49, 124, 115, 124, 124, 101, 59, 101, 32, 101, 101, 32, 115, 101, 32, 115, 59, 101, 115]⟩, ⟨#[78, 124, 124, 115, 124, 101, 32, 101, 115]⟩, ⟨#[78, 75, 124, 124, 115, 124, 101, 32, 101, 115, 59, 101, 32, 101, 101]⟩, ⟨#[78, 75, 49, 124, 124, 115, 124, 101, 59, 101, 32, 101, 101, 32, 101, 115]⟩, ⟨#[78, 78, 124, 124, 124, 101, 59, 101, 32, 101, 101]⟩, ⟨#[78, 88, 124, 124, 124, 101, 59, 101, 32, 101, 101, 32, 115, 32, 101, 115]⟩, ⟨#[78, 88, 49, 124, 124, 124, 101, 59, 101, 32, 101, 101, 32, 115, 59, 101, 115]⟩, ⟨#[88, 124, 124, 115, 124, 101, 32, 101, 115, 32, 115, 32, 115, 115]⟩, ⟨#[88, 49, 75, 124, 124, 115, 124, 101, 32, 101, 115, 59, 101, 32, 101, 101, 59, 115, 59, 115, 101]⟩, ⟨#[88, 49, 75, 49, 124, 124, 115, 124, 101, 59, 101, 32, 101, 101, 32, 101, 115, 59, 115, 59, 115, 101]⟩, ⟨#[88, 49, 78, 124, 124, 124, 101, 59, 101, 32, 101, 101, 59, 115, 59, 115, 101]⟩, ⟨#[88, 49, 88, 124, 124, 124, 101, 59, 101, 32, 101, 101, 32, 115, 32, 101, 115, 59, 115, 59, 115, 101]⟩, ⟨#[88, 49, 88, 49, 124, 124, 124, 101, 59, 101, 32, 101, 101, 32, 115, 59, 101, 115, 32, 115, 59, 115, 101]⟩, ⟨#[88, 75, 124, 124, 115, 124, 101, 32, 101, 115, 59, 101, 32, 101, 101, 59, 115, 32, 115, 101]⟩, ⟨#[88, 75, 49, 124, 124, 115, 124, 101, 59, 101, 32, 101, 101, 32, 101, 115, 59, 115, 32, 115, 101]⟩, ⟨#[88, 78, 124, 124, 124, 101, 59, 101, 32, 101, 101, 59, 115, 32, 115, 101]⟩, ⟨#[88, 88, 124, 124, 124, 101, 59, 101, 32, 101, 101, 32, 115, 32, 101, 115, 59, 115, 32, 115, 101]⟩, ⟨#[88, 88, 49, 124, 124, 124, 101, 59, 101, 32, 101, 101, 32, 115, 59, 101, 115, 32, 115, 32, 115, 101]⟩]
theorem rowsL_length : rowsL.length = 38 := rfl
def RowsPost (w : World) (e : Ending) (w' : World) : Prop := Kp w w' ∧ ∃ b, e = .returned (.slice (some ⟨b, 0, none⟩) 38 38) ∧ Strs w' (some ⟨b, 0, none⟩) 38 rowsL

set_option maxRecDepth 100000 in
set_option maxHeartbeats 4000000 in
theorem rows_any (w : World) : Calls Tryz.prog 75 #[] w (RowsPost w) := by
  have hpost : RowsPost w (.returned (.slice (some ⟨w.heap.size, 0, none⟩) 38 38)) (w.alloc (.cells (rowsL.map Value.string).toArray 9)) := ⟨Kp.new _ _, w.heap.size, rfl, rfl, by unfold maxLen; omega, Cs.new w (rowsL.map Value.string) 9 (0, 0)⟩
  have Hpost := Lib.hid hpost; clear hpost
  go_enter Tryz.func75, Tryz.ntmps75
  go_wp2_with fail
  go_ret
  exact Hpost.out
end Go.Proofs.YtkmejehhdjdlbaaGreatDoor

namespace Go.Proofs.YtkmejehhdjdlbaaGreatDoor
open Go.RowKit

/-- A text's parts, its lines, and what a row holds. -/
def partL (r : ByteArray) (j : Nat) : ByteArray := (splitL r 124).getD j ⟨#[]⟩
def lineL (l : List ByteArray) (k : Nat) : List Ln := l.mapIdx fun i x => (((k + i) % 2 : Nat), tokL x)
def rowLs (r : ByteArray) : List Ln := lineL (splitL (partL r 3) 59) 0
/-- No part of a row is long. -/
def rowOk (r : ByteArray) : Bool := (splitL r 124).length == 4 && decide (r.size ≤ 1000) && decide ((partL r 1).size ≤ 1000) && decide ((partL r 2).size ≤ 1000) && decide ((partL r 3).size ≤ 1000) && ((splitL (partL r 3) 59).all fun x => decide (x.size ≤ 1000)) && decide ((splitL (partL r 3) 59).length ≤ 1000)
theorem rows_ok : (rowsL.all rowOk) = true := by kernel_rfl
def nameNN : ByteArray := ⟨#[78, 78]⟩
/-- The row NN: its number, its parts. -/
theorem nn_at : (rowsL.findIdx? fun r => decide ((partL r 0).data.toList = nameNN.data.toList)) = some 24 := by kernel_rfl
theorem nn_b0 : (partL (rowsL.getD 24 ⟨#[]⟩) 1).size = 0 := by kernel_rfl
theorem nn_b1 : (partL (rowsL.getD 24 ⟨#[]⟩) 2).size = 0 := by kernel_rfl
/-- Tokens, as the kernel reckons them. -/
def tokQ (x : ByteArray) : Nat → List Int
  | 0 => []
  | j + 1 => tokQ x j ++ (if ((wordL (j + 1)).data.toList == x.data.toList) = true then [((j + 1 : Nat) : Int)] else [])
theorem tokOf_q (x : ByteArray) (j : Nat) : tokOf x j = tokQ x j := by
  induction j with
  | zero => rfl
  | succ j ih => unfold tokOf tokQ; rw [ih, ByteArray.toList_eq, ByteArray.toList_eq]
def tokLQ (s : ByteArray) : List Int := if s.size = 0 then [] else (splitL s 32).flatMap (tokQ · 7)
theorem tokL_q (s : ByteArray) : tokL s = tokLQ s := by
  unfold tokL tokLQ
  have : (fun x => tokOf x 7) = fun x => tokQ x 7 := funext fun x => tokOf_q x 7
  rw [this]
def rowLsQ (r : ByteArray) : List Ln := (splitL (partL r 3) 59).mapIdx fun i x => (((0 + i) % 2 : Nat), tokLQ x)
theorem rowLs_q (r : ByteArray) : rowLs r = rowLsQ r := by
  unfold rowLs lineL rowLsQ
  congr 1
  funext i x
  rw [tokL_q]
theorem nn_ls : rowLs (rowsL.getD 24 ⟨#[]⟩) = [(0, [1]), (1, [1, 3])] := by rw [rowLs_q]; kernel_rfl
end Go.Proofs.YtkmejehhdjdlbaaGreatDoor

namespace Go.Proofs.YtkmejehhdjdlbaaGreatDoor
open Go.RowKit

/-- It holds, and goes on to hold when only the blocks of X change. -/
def Sta (w : World) (X : List Nat) (P : World → Prop) : Prop := ∀ w', Fr X w w' → P w'
theorem Sta.now {w : World} {X : List Nat} {P : World → Prop} (h : Sta w X P) : P w := h w (Fr.refl _ _)
theorem Sta.step {a b : World} {X Y Z : List Nat} {P : World → Prop} (h : Sta a X P) (k : Fr Y a b) (hY : ∀ j ∈ Y, j ∈ X ∨ a.heap.size ≤ j) (hZ : ∀ j ∈ Z, j ∈ X ∨ a.heap.size ≤ j) : Sta b Z P := fun w' k' =>
  h w' (((Fr.refl X a).step k hY).step k' hZ)
theorem Sta.kp {a b : World} {X : List Nat} {P : World → Prop} (h : Sta a X P) (k : Kp a b) : Sta b X P := h.step (Fr.of_kp k) (by simp) (fun _ hj => .inl hj)
theorem Sta.new {w : World} {ao : Option Addr} {n : Nat} {xs : List Int} {X : List Nat} (h : Is w ao n xs) (hX : ∀ k ∈ blkL ao, k ∉ X) : Sta w X (fun w => Is w ao n xs) := fun _ k => ⟨h.1, h.2.1, k.cs h.2.2 hX⟩
theorem Sta.mp {w : World} {X : List Nat} {P Q : World → Prop} (h : Sta w X P) (hPQ : ∀ w', P w' → Q w') : Sta w X Q := fun w' k => hPQ w' (h w' k)
theorem Sta.sub {w : World} {X Y : List Nat} {P : World → Prop} (h : Sta w X P) (hs : ∀ j ∈ Y, j ∈ X) : Sta w Y P := fun w' k => h w' (k.mono hs)

/-- Messages of the call's own, each with a list of its own; the blocks of X may change. -/
def LnO (w : World) (B : Nat) (X : List Nat) (ao : Option Addr) (n cap : Nat) (ls : List Ln) : Prop :=
  ls.length = n ∧ ∃ ts : List Tv, ts.length = ls.length ∧ Own w B 73 2 ao n cap (lnc ls ts) ∧ ∀ (j : Nat) (h : j < ls.length) (h' : j < ts.length), ts[j].n ≤ 7007 ∧ Sta w (blkL ao ++ X) (fun w => Is w ts[j].ao ts[j].n ls[j].2)
theorem LnO.nil (w : World) (B : Nat) (X : List Nat) : LnO w B X none 0 0 [] := ⟨rfl, [], rfl, Own.nil _ _ _ _, fun j h => by simp at h⟩
theorem LnO.lns {w : World} {B : Nat} {X : List Nat} {ao : Option Addr} {n cap : Nat} {ls : List Ln} (h : LnO w B X ao n cap ls) (hn : n ≤ 140737488351232) : Lns w ao n ls := by
  obtain ⟨h1, ts, h2, h3, h4⟩ := h
  refine ⟨h1, hn, fun j hj => ?_⟩
  obtain ⟨b, off, rfl, hc⟩ := h3.cs.at (j * 2) (by rw [lnc_length h2]; omega)
  obtain ⟨g0, g1⟩ := lnc_get h2 j hj
  obtain ⟨q1, q2⟩ := h4 j hj (by omega)
  exact ⟨b, off, _, _, _, rfl, hc _ _ g0, by have := hc _ _ g1; rwa [← Nat.add_assoc] at this, q2.now, by omega⟩
/-- The messages hold on while the blocks of X change. -/
theorem LnO.sta {w : World} {B : Nat} {X Y : List Nat} {ao : Option Addr} {n cap : Nat} {ls : List Ln} (h : LnO w B X ao n cap ls) (hn : n ≤ 140737488351232) (hY : ∀ j ∈ Y, j ∈ X) (hB : ∀ j ∈ Y, j ∉ blkL ao) : Sta w Y (fun w => Lns w ao n ls) := by
  intro w' k
  obtain ⟨h1, ts, h2, h3, h4⟩ := h
  refine LnO.lns (X := []) (B := B) (cap := cap) ⟨h1, ts, h2, k.own h3 (fun j hj hj2 => hB j hj2 hj), fun j hj hj' => ⟨(h4 j hj hj').1, ?_⟩⟩ hn
  exact (h4 j hj hj').2.step k (fun i hi => .inl (List.mem_append.2 (.inr (hY i hi)))) (fun i hi => .inl (List.mem_append.2 (.inl (by simpa using hi))))
theorem LnO.keep {w w' : World} {B : Nat} {X Y : List Nat} {ao : Option Addr} {n cap : Nat} {ls : List Ln} (h : LnO w B X ao n cap ls) (k : Fr Y w w') (hY : ∀ j ∈ Y, j ∈ X ∨ w.heap.size ≤ j) (hB : ∀ j ∈ Y, j ∉ blkL ao) : LnO w' B X ao n cap ls := by
  obtain ⟨h1, ts, h2, h3, h4⟩ := h
  exact ⟨h1, ts, h2, k.own h3 (fun j hj hj2 => hB j hj2 hj), fun j hj hj' => ⟨(h4 j hj hj').1, (h4 j hj hj').2.step k (fun i hi => (hY i hi).imp (fun q => List.mem_append.2 (.inr q)) id) (fun i hi => .inl hi)⟩⟩
/-- One more message. -/
theorem LnO.app {a w w' : World} {B : Nat} {X : List Nat} {ao ao' : Option Addr} {n cap cap' N : Nat} {ls : List Ln} (h : LnO a B X ao n cap ls) (ts : List Tv) (h2 : ts.length = ls.length) (h4 : ∀ (j : Nat) (h : j < ls.length) (h' : j < ts.length), ts[j].n ≤ 7007 ∧ Sta a (blkL ao ++ X) (fun w => Is w ts[j].ao ts[j].n ls[j].2))
    (k : Kp a w) (l : Ln) (t : Tv) (ht : Is w t.ao t.n l.2) (htn : t.n ≤ 7007) (hX : ∀ j ∈ blkL t.ao, j < w.heap.size ∧ j ∉ blkL ao ++ X) (hN : N = n + 1)
    (ha : Appd w w' B 73 2 ao cap 1 N (lnc (ls ++ [l]) (ts ++ [t])) ao' cap') : LnO w' B X ao' N cap' (ls ++ [l]) := by
  have hf := ha.fr
  have hb' : ∀ j ∈ blkL ao', j ∈ blkL ao ∨ j = w.heap.size := fun j hj => by
    rcases ha.fresh j (mem_blkL.1 hj) with q | q
    · exact .inl (mem_blkL.2 q)
    · exact .inr q
  have hsz := k.size
  refine ⟨by rw [List.length_append, h.1, hN]; rfl, ts ++ [t], by simp [h2], ha.own, fun j hj hj' => ?_⟩
  by_cases hlt : j < ls.length
  · rw [List.getElem_append_left hlt, List.getElem_append_left (by omega)]
    refine ⟨(h4 j hlt (by omega)).1, ((h4 j hlt (by omega)).2.kp k).step hf (fun i hi => .inl (List.mem_append.2 (.inl hi))) (fun i hi => ?_)⟩
    rcases List.mem_append.1 hi with q | q
    · rcases hb' i q with q | q
      · exact .inl (List.mem_append.2 (.inl q))
      · exact .inr (by omega)
    · exact .inl (List.mem_append.2 (.inr q))
  · have hje : j = ls.length := by simp at hj; omega
    subst hje
    rw [List.getElem_concat_length rfl]
    have : (ts ++ [t])[ls.length]'hj' = t := by simp [← h2]
    rw [this]
    refine ⟨htn, Sta.step (Sta.new ht (fun i hi => (hX i hi).2)) hf (fun i hi => .inl (List.mem_append.2 (.inl hi))) (fun i hi => ?_)⟩
    rcases List.mem_append.1 hi with q | q
    · rcases hb' i q with q | q
      · exact .inl (List.mem_append.2 (.inl q))
      · exact .inr (by omega)
    · exact .inl (List.mem_append.2 (.inr q))

/-- A pattern among the cells of a list. -/
structure Pv where
  nm : ByteArray
  b0 : Tv
  b1 : Tv
  ls : Tv
def pvc (p : Pv) : List Value := [.string p.nm, tvv p.b0, tvv p.b1, tvv p.ls]
theorem pvc_len (ps : List Pv) : (ps.flatMap pvc).length = ps.length * 4 := by
  induction ps with
  | nil => rfl
  | cons p r ih => simp only [List.flatMap_cons, List.length_append, ih, List.length_cons, pvc, List.length_nil]; omega
theorem pvc_get (ps : List Pv) (j : Nat) (h : j < ps.length) : (ps.flatMap pvc)[j * 4]? = some (.string ps[j].nm) ∧ (ps.flatMap pvc)[j * 4 + 1]? = some (tvv ps[j].b0) ∧ (ps.flatMap pvc)[j * 4 + 2]? = some (tvv ps[j].b1) ∧ (ps.flatMap pvc)[j * 4 + 3]? = some (tvv ps[j].ls) := by
  induction ps generalizing j with
  | nil => simp at h
  | cons p r ih =>
    rw [List.flatMap_cons]
    rcases j with _ | j
    · exact ⟨rfl, rfl, rfl, rfl⟩
    · have := ih j (by simpa using h)
      simp only [List.getElem_cons_succ]
      rw [show (j + 1) * 4 = j * 4 + 4 by omega]
      have e : ∀ i, (pvc p ++ r.flatMap pvc)[i + 4]? = (r.flatMap pvc)[i]? := fun i => by
        rw [List.getElem?_append_right (by simp [pvc])]
        rfl
      rw [show j * 4 + 4 + 1 = j * 4 + 1 + 4 by omega, show j * 4 + 4 + 2 = j * 4 + 2 + 4 by omega, show j * 4 + 4 + 3 = j * 4 + 3 + 4 by omega, e, e, e, e]
      exact this
/-- A pattern's lists read what its row says. -/
def PvR (r : ByteArray) (p : Pv) (w : World) : Prop := p.b0.n ≤ 7007 ∧ p.b1.n ≤ 7007 ∧ p.ls.n ≤ 7007 ∧ Is w p.b0.ao p.b0.n (tokL (partL r 1)) ∧ Is w p.b1.ao p.b1.n (tokL (partL r 2)) ∧ Lns w p.ls.ao p.ls.n (rowLs r)
/-- The first k patterns of the table, in a list of the call's own. -/
def PvO (w : World) (B : Nat) (X : List Nat) (ao : Option Addr) (n cap : Nat) (k : Nat) : Prop :=
  n = k ∧ ∃ ps : List Pv, ps.length = k ∧ Own w B 26 4 ao n cap (ps.flatMap pvc) ∧ ∀ (j : Nat) (h : j < ps.length) (r : ByteArray), rowsL[j]? = some r → ps[j].nm = partL r 0 ∧ Sta w (blkL ao ++ X) (PvR r ps[j])
theorem PvO.nil (w : World) (B : Nat) (X : List Nat) : PvO w B X none 0 0 0 := ⟨rfl, [], rfl, Own.nil _ _ _ _, fun j h => by simp at h⟩
theorem PvO.app {a w w' : World} {B : Nat} {X : List Nat} {ao ao' : Option Addr} {n cap cap' N k : Nat} (ps : List Pv) (h1 : n = k) (h2 : ps.length = k) (h4 : ∀ (j : Nat) (h : j < ps.length) (r : ByteArray), rowsL[j]? = some r → ps[j].nm = partL r 0 ∧ Sta a (blkL ao ++ X) (PvR r ps[j]))
    (hk : Kp a w) (p : Pv) (r : ByteArray) (hr : rowsL[k]? = some r) (hnm : p.nm = partL r 0) (hp : Sta w (blkL ao ++ X) (PvR r p)) (hN : N = n + 1)
    (ha : Appd w w' B 26 4 ao cap 1 N ((ps ++ [p]).flatMap pvc) ao' cap') : PvO w' B X ao' N cap' (k + 1) := by
  have hf := ha.fr
  have hb' : ∀ j ∈ blkL ao' ++ X, j ∈ blkL ao ++ X ∨ w.heap.size ≤ j := fun j hj => by
    rcases List.mem_append.1 hj with hj | hj
    · rcases ha.fresh j (mem_blkL.1 hj) with q | q
      · exact .inl (List.mem_append.2 (.inl (mem_blkL.2 q)))
      · exact .inr (by omega)
    · exact .inl (List.mem_append.2 (.inr hj))
  refine ⟨by omega, ps ++ [p], by simp [h2], ha.own, fun j hj r' hr' => ?_⟩
  by_cases hlt : j < ps.length
  · rw [List.getElem_append_left hlt]
    obtain ⟨q1, q2⟩ := h4 j hlt r' hr'
    exact ⟨q1, (q2.kp hk).step hf (fun i hi => .inl (List.mem_append.2 (.inl hi))) hb'⟩
  · have hje : j = ps.length := by simp at hj; omega
    subst hje
    rw [h2] at hr'
    rw [hr] at hr'
    cases hr'
    rw [List.getElem_concat_length rfl]
    exact ⟨hnm, hp.step hf (fun i hi => .inl (List.mem_append.2 (.inl hi))) hb'⟩
theorem el80 : El Tryz.prog 53 26 (.agg #[.string ⟨#[]⟩, .slice none 0 0, .slice none 0 0, .slice none 0 0]) 4 88 := ⟨Tryz.underlying53, by kernel_rfl, rfl, by decide, by decide⟩
end Go.Proofs.YtkmejehhdjdlbaaGreatDoor

namespace Go.Proofs.YtkmejehhdjdlbaaGreatDoor
open Go.RowKit

theorem row_ok {k : Nat} {r : ByteArray} (h : rowsL[k]? = some r) : r.size ≤ 1000 ∧ (splitL r 124).length = 4 ∧ (partL r 1).size ≤ 1000 ∧ (partL r 2).size ≤ 1000 ∧ (partL r 3).size ≤ 1000 ∧ (∀ x ∈ splitL (partL r 3) 59, x.size ≤ 1000) ∧ (splitL (partL r 3) 59).length ≤ 1000 := by
  have hm := List.all_eq_true.1 rows_ok r (List.mem_of_getElem? h)
  simp only [rowOk, Bool.and_eq_true, decide_eq_true_eq, beq_iff_eq, List.all_eq_true] at hm
  obtain ⟨⟨⟨⟨⟨⟨h1, h2⟩, h3⟩, h4⟩, h5⟩, h6⟩, h7⟩ := hm
  exact ⟨h2, h1, h3, h4, h5, h6, h7⟩

/-- The variable that a row's pattern is made in. -/
def At4 (w : World) (b : Nat) (nm : ByteArray) (t0 t1 tl : Tv) : Prop :=
  (w.cell? ⟨b, 0, none⟩ = some (.string nm) ∧ w.cell? ⟨b, 1, none⟩ = some (tvv t0) ∧ w.cell? ⟨b, 2, none⟩ = some (tvv t1) ∧ w.cell? ⟨b, 3, none⟩ = some (tvv tl)) ∧ w.frozen? ⟨b, 1, none⟩ = false ∧ w.frozen? ⟨b, 2, none⟩ = false ∧ w.frozen? ⟨b, 3, none⟩ = false
theorem At4.new (w : World) (nm : ByteArray) : At4 (w.alloc (.cells #[.string nm, .slice none 0 0, .slice none 0 0, .slice none 0 0] 26)) w.heap.size nm ⟨none, 0, 0⟩ ⟨none, 0, 0⟩ ⟨none, 0, 0⟩ := by
  refine ⟨⟨?_, ?_, ?_, ?_⟩, ?_, ?_, ?_⟩
  · rw [World.cell?_alloc_at _ _ _ _ rfl]; rfl
  · rw [World.cell?_alloc_at _ _ _ _ rfl]; rfl
  · rw [World.cell?_alloc_at _ _ _ _ rfl]; rfl
  · rw [World.cell?_alloc_at _ _ _ _ rfl]; rfl
  · exact World.frozen?_alloc_at _ _ _ _ rfl
  · exact World.frozen?_alloc_at _ _ _ _ rfl
  · exact World.frozen?_alloc_at _ _ _ _ rfl
theorem At4.fr {X : List Nat} {w w' : World} {b : Nat} {nm : ByteArray} {t0 t1 tl : Tv} (h : At4 w b nm t0 t1 tl) (k : Fr X w w') (hb : b ∉ X) : At4 w' b nm t0 t1 tl := by
  obtain ⟨⟨h0, h1, h2, h3⟩, f1, f2, f3⟩ := h
  exact ⟨⟨k.cell h0 hb, k.cell h1 hb, k.cell h2 hb, k.cell h3 hb⟩, k.free h1 f1 hb, k.free h2 f2 hb, k.free h3 f3 hb⟩
theorem At4.kp {w w' : World} {b : Nat} {nm : ByteArray} {t0 t1 tl : Tv} (h : At4 w b nm t0 t1 tl) (k : Kp w w') : At4 w' b nm t0 t1 tl := h.fr (Fr.of_kp k) (by simp)
theorem At4.set1 {w : World} {b : Nat} {nm : ByteArray} {t0 t1 tl : Tv} (h : At4 w b nm t0 t1 tl) (t : Tv) : At4 (w.setCell ⟨b, 1, none⟩ (tvv t)) b nm t t1 tl := by
  obtain ⟨⟨h0, h1, h2, h3⟩, f1, f2, f3⟩ := h
  refine ⟨⟨?_, World.cell?_setCell_same _ _ _ h1, ?_, ?_⟩, ?_, ?_, ?_⟩
  · rw [World.cell?_setCell_other _ _ _ _ (by simp)]; exact h0
  · rw [World.cell?_setCell_other _ _ _ _ (by simp)]; exact h2
  · rw [World.cell?_setCell_other _ _ _ _ (by simp)]; exact h3
  · rw [World.frozen?_setCell]; exact f1
  · rw [World.frozen?_setCell]; exact f2
  · rw [World.frozen?_setCell]; exact f3
theorem At4.set2 {w : World} {b : Nat} {nm : ByteArray} {t0 t1 tl : Tv} (h : At4 w b nm t0 t1 tl) (t : Tv) : At4 (w.setCell ⟨b, 2, none⟩ (tvv t)) b nm t0 t tl := by
  obtain ⟨⟨h0, h1, h2, h3⟩, f1, f2, f3⟩ := h
  refine ⟨⟨?_, ?_, World.cell?_setCell_same _ _ _ h2, ?_⟩, ?_, ?_, ?_⟩
  · rw [World.cell?_setCell_other _ _ _ _ (by simp)]; exact h0
  · rw [World.cell?_setCell_other _ _ _ _ (by simp)]; exact h1
  · rw [World.cell?_setCell_other _ _ _ _ (by simp)]; exact h3
  · rw [World.frozen?_setCell]; exact f1
  · rw [World.frozen?_setCell]; exact f2
  · rw [World.frozen?_setCell]; exact f3
theorem At4.set3 {w : World} {b : Nat} {nm : ByteArray} {t0 t1 tl : Tv} (h : At4 w b nm t0 t1 tl) (t : Tv) : At4 (w.setCell ⟨b, 3, none⟩ (tvv t)) b nm t0 t1 t := by
  obtain ⟨⟨h0, h1, h2, h3⟩, f1, f2, f3⟩ := h
  refine ⟨⟨?_, ?_, ?_, World.cell?_setCell_same _ _ _ h3⟩, ?_, ?_, ?_⟩
  · rw [World.cell?_setCell_other _ _ _ _ (by simp)]; exact h0
  · rw [World.cell?_setCell_other _ _ _ _ (by simp)]; exact h1
  · rw [World.cell?_setCell_other _ _ _ _ (by simp)]; exact h2
  · rw [World.frozen?_setCell]; exact f1
  · rw [World.frozen?_setCell]; exact f2
  · rw [World.frozen?_setCell]; exact f3
theorem row_step {r : ByteArray} {pcs : List ByteArray} (h : rowLs r = lineL pcs 0) (j : Nat) (hj : j < pcs.length) : (rowLs r).take (j + 1) = (rowLs r).take j ++ [(((j % 2 : Nat) : Int), tokL pcs[j])] := by
  have hl : j < (rowLs r).length := by rw [h]; unfold lineL; rw [List.length_mapIdx]; exact hj
  rw [take_step _ _ hl]
  congr 2
  have : ∀ (l : List Ln) (e : rowLs r = l) (h' : j < l.length), (rowLs r)[j] = l[j] := fun l e h' => by subst e; rfl
  rw [this _ h (by rw [← h]; exact hl)]
  unfold lineL
  rw [List.getElem_mapIdx, Nat.zero_add]
/-- What one more message leaves. -/
theorem all_fin {w8 wr wq wc wz w9 : World} {bp : Nat} {nm : ByteArray} {T0 T1 : Tv} {al ao2 tt : Option Addr} {FF : List Nat} {nl cl cap2 mt dt : Nat} {ls : List Ln} {l : Ln} (hl1 : ls.length = nl) (ts : List Tv) (hl2 : ts.length = ls.length) (hl3 : Own wr w8.heap.size 73 2 al nl cl (lnc ls ts))
    (hl4 : ∀ (j : Nat) (h : j < ls.length) (h' : j < ts.length), ts[j].n ≤ 7007 ∧ Sta wr (blkL al ++ (bp :: FF)) (fun w => Is w ts[j].ao ts[j].n ls[j].2)) (hk : Kp wr wz) (hP : At4 wr bp nm T0 T1 ⟨al, nl, cl⟩) (hF : Fr [bp] w8 wr) (hbp : bp < w8.heap.size)
    (hbt : ∀ i ∈ blkL tt, wq.heap.size ≤ i ∧ i < wc.heap.size) (hq : wr.heap.size ≤ wq.heap.size) (_hq2 : wq.heap.size ≤ wz.heap.size) (hq3 : wc.heap.size ≤ wz.heap.size) (hT : Is wz tt mt l.2) (hmt : mt ≤ 7007) (hFb : ∀ j ∈ FF, j < bp)
    (ha : Appd wz w9 w8.heap.size 73 2 al cl 1 (nl + 1) (lnc (ls ++ [l]) (ts ++ [⟨tt, mt, dt⟩])) ao2 cap2) :
    At4 (w9.setCell ⟨bp, 3, none⟩ (.slice ao2 (nl + 1) cap2)) bp nm T0 T1 ⟨ao2, nl + 1, cap2⟩ ∧ LnO (w9.setCell ⟨bp, 3, none⟩ (.slice ao2 (nl + 1) cap2)) w8.heap.size (bp :: FF) ao2 (nl + 1) cap2 (ls ++ [l]) ∧ Fr [bp] w8 (w9.setCell ⟨bp, 3, none⟩ (.slice ao2 (nl + 1) cap2)) := by
  have hal : ∀ i ∈ blkL al, w8.heap.size ≤ i ∧ i < wr.heap.size := fun i hi => hl3.lt i (mem_blkL.1 hi)
  have hbal : bp ∉ blkL al := fun h => by have := (hal bp h).1; omega
  have hs8 := hF.size
  have hL9 : LnO w9 w8.heap.size (bp :: FF) ao2 (nl + 1) cap2 (ls ++ [l]) := LnO.app (a := wr) (w := wz) ⟨hl1, ts, hl2, hl3, hl4⟩ ts hl2 hl4 hk l ⟨tt, mt, dt⟩ hT hmt (fun i hi => by
    obtain ⟨q1, q2⟩ := hbt i hi
    refine ⟨by omega, fun hm => ?_⟩
    rcases List.mem_append.1 hm with q | q
    · have := (hal i q).2; omega
    · rcases List.mem_cons.1 q with q | q
      · omega
      · have := hFb i q; omega) rfl ha
  have hset := Fr.set w9 ⟨bp, 3, none⟩ (.slice ao2 (nl + 1) cap2)
  refine ⟨((hP.kp hk).fr ha.fr hbal).set3 ⟨ao2, nl + 1, cap2⟩, hL9.keep hset (fun i hi => .inl (by simp at hi; simp [hi])) (fun i hi hm => ?_), ?_⟩
  · have := (ha.own.lt i (mem_blkL.1 hm)).1
    simp at hi; omega
  · exact ((hF.trans ((Fr.of_kp hk).mono (by simp))).step ha.fr (fun i hi => .inr (hal i hi).1)).trans hset
theorem PvO.mono {w : World} {B B' : Nat} {X : List Nat} {ao : Option Addr} {n cap k : Nat} (h : PvO w B X ao n cap k) (hb : B' ≤ B) : PvO w B' X ao n cap k := by
  obtain ⟨h1, ps, h2, h3, h4⟩ := h
  exact ⟨h1, ps, h2, h3.mono (fun i hi => Nat.le_trans hb (h3.lt i hi).1), h4⟩
def AllPost (w : World) (X : List Nat) (e : Ending) (w' : World) : Prop := Kp w w' ∧ ∃ ao n cap, e = .returned (.slice ao n cap) ∧ PvO w' w.heap.size X ao n cap 38

set_option maxRecDepth 100000 in
set_option maxHeartbeats 4000000 in
theorem all_any (w : World) (X : List Nat) (hX : ∀ j ∈ X, j < w.heap.size) : Calls Tryz.prog 34 #[] w (AllPost w X) := by
  have Hr := Lib.hid (rows_any w)
  go_enter Tryz.func34, Tryz.ntmps34
  go_wp2_with fail
  (with_reducible refine Hr.out.mono ?_)
  rintro e w1 ⟨hk1, rb, rfl, hS⟩
  have hw1 := hk1.size
  go_wp2_with fail
  go_loopw [1, 3] (fun l i wr => ∃ k n cap ao, k ≤ 38 ∧ i = .int .i64 (k : Nat) ∧ l = .slice ao n cap ∧ PvO wr w1.heap.size X ao n cap k ∧ Kp w1 wr) (fun _ i _ => 38 - (intOf i).toNat)
  case atStart => exact ⟨0, 0, 0, none, by omega, rfl, rfl, PvO.nil _ _ _, Kp.refl _⟩
  case round =>
    obtain ⟨k, n, cap, ao, hk, rfl, rfl, hO, hkk⟩ := hrel
    by_cases hlt : k < 38
    · rename World => wo
      obtain ⟨hnk, ps, hpl, hown, hps⟩ := hO
      replace hnk := hnk.symm
      subst hnk
      obtain ⟨b, off, hbo, hcc⟩ := hS.at k hlt
      have hck := hkk.cell (hcc k hlt)
      have hrk : rowsL[k]? = some (rowsL[k]'(by rw [rowsL_length]; exact hlt)) := List.getElem?_eq_getElem _
      cases hbo
      rw [Nat.zero_add] at hck
      generalize rowsL[k]'(by rw [rowsL_length]; exact hlt) = r at hck hrk
      obtain ⟨r1, r2, r3, r4, r5, r6, r7⟩ := row_ok hrk
      have Hsp := Lib.hid (show Calls Tryz.prog 76 #[.string r, .int .u8 124] wo (SplitPost wo (splitL r 124)) from split_any wo r 124 r1)
      clear hcc
      have Hps := Lib.hid hps; clear hps
      have Hrk := Lib.hid hrk; clear hrk
      have Hr6 := Lib.hid r6; clear r6
      go_wp2_with fail
      (with_reducible refine Hsp.out.mono ?_)
      rintro e w2 ⟨hk2, xo, xm, xc, rfl, hX, _⟩
      have hxm : xm = 4 := by rw [← hX.1, r2]
      subst hxm
      obtain ⟨xb, xoff, rfl, hxc⟩ := hX.at 0 (by omega)
      have hpart : ∀ j (h : j < 4), (splitL r 124)[j]'(by omega) = partL r j := fun j h => by unfold partL; rw [List.getD, List.getElem?_eq_getElem (by omega)]; rfl
      have x0 := hxc 0 (by omega)
      have x1 := hxc 1 (by omega)
      have x2 := hxc 2 (by omega)
      have x3 := hxc 3 (by omega)
      rw [hpart 0 (by omega), Nat.add_zero] at x0
      rw [hpart 1 (by omega)] at x1
      rw [hpart 2 (by omega)] at x2
      rw [hpart 3 (by omega)] at x3
      have hxb : xb < w2.heap.size := World.block_lt_of_cell? w2 _ x0
      clear hxc hX hpart hck r1 r2
      go_upto_region 8 with fail
      generalize hw3 : w2.alloc (.cells #[.string (partL r 0), .slice none 0 0, .slice none 0 0, .slice none 0 0] 26) = w3
      have hk3 : Kp w2 w3 := hw3 ▸ Kp.new _ _
      obtain ⟨bp, hbp⟩ : ∃ bp, bp = w2.heap.size := ⟨_, rfl⟩
      have hP : At4 w3 bp (partL r 0) ⟨none, 0, 0⟩ ⟨none, 0, 0⟩ ⟨none, 0, 0⟩ := by rw [hbp]; exact hw3 ▸ At4.new w2 _
      rw [← hbp]
      have hFb : ∀ j ∈ blkL ao ++ X, j < bp := fun j hj => by
        have := hk2.size
        rcases List.mem_append.1 hj with hj | hj
        · have := (hown.lt j (mem_blkL.1 hj)).2; omega
        · have := hX j hj; have := hkk.size; omega
      have hbo : wo.heap.size ≤ bp := by have := hk2.size; omega
      have hbp3 : bp < w3.heap.size := World.block_lt_of_cell? w3 _ hP.1.1
      have hxn : xb ≠ bp := by omega
      clear hbp hw3
      replace x1 := hk3.cell x1
      replace x2 := hk3.cell x2
      replace x3 := hk3.cell x3
      have Ht1 := Lib.hid (tokens_any w3 (partL r 1) r3)
      clear x0
      go_wp2_with fail
      (with_reducible refine Ht1.out.mono ?_)
      rintro e w4 ⟨hk4, t0, m0, d0, rfl, hT0, hm0, hd0, hb0⟩
      replace hP := hP.kp hk4
      obtain ⟨⟨e0, e1, e2, e3⟩, f1, f2, f3⟩ := hP
      go_upto_region 9 with fail
      generalize hw5 : w4.setCell ⟨bp, 1, none⟩ (.slice t0 m0 d0) = w5
      have hF5 : Fr [bp] w4 w5 := hw5 ▸ Fr.set w4 ⟨bp, 1, none⟩ _
      have hP : At4 w5 bp (partL r 0) ⟨t0, m0, d0⟩ ⟨none, 0, 0⟩ ⟨none, 0, 0⟩ := hw5 ▸ At4.set1 ⟨⟨e0, e1, e2, e3⟩, f1, f2, f3⟩ ⟨t0, m0, d0⟩
      clear hw5 e0 e1 e2 e3 f1 f2 f3
      have S0 : Sta w5 (bp :: (blkL ao ++ X)) (fun w => Is w t0 m0 (tokL (partL r 1))) := (Sta.new (X := bp :: (blkL ao ++ X)) hT0 (fun j hj hj2 => by
        have := hb0 j hj
        rcases List.mem_cons.1 hj2 with q | q
        · omega
        · have := hFb j q; omega)).step hF5 (fun j hj => .inl (by simp at hj; simp [hj])) (fun j hj => .inl hj)
      replace x2 := hF5.cell (hk4.cell x2) (by simpa using hxn)
      replace x3 := hF5.cell (hk4.cell x3) (by simpa using hxn)
      have hs35 : w3.heap.size ≤ w5.heap.size := Nat.le_trans hk4.size hF5.size
      have hF35 : Fr [bp] w3 w5 := ((Fr.of_kp hk4).mono (by simp)).trans hF5
      have Ht2 := Lib.hid (tokens_any w5 (partL r 2) r4)
      clear Ht1 hT0 hb0 x1
      go_wp2_with fail
      (with_reducible refine Ht2.out.mono ?_)
      rintro e w6 ⟨hk6, t1, m1, d1, rfl, hT1, hm1, hd1, hb1⟩
      replace hP := hP.kp hk6
      obtain ⟨⟨e0, e1, e2, e3⟩, f1, f2, f3⟩ := hP
      go_upto_region 10 with fail
      generalize hw7 : w6.setCell ⟨bp, 2, none⟩ (.slice t1 m1 d1) = w7
      have hF7 : Fr [bp] w6 w7 := hw7 ▸ Fr.set w6 ⟨bp, 2, none⟩ _
      have hP : At4 w7 bp (partL r 0) ⟨t0, m0, d0⟩ ⟨t1, m1, d1⟩ ⟨none, 0, 0⟩ := hw7 ▸ At4.set2 ⟨⟨e0, e1, e2, e3⟩, f1, f2, f3⟩ ⟨t1, m1, d1⟩
      clear hw7 e0 e1 e2 e3 f1 f2 f3
      have S1 : Sta w7 (bp :: (blkL ao ++ X)) (fun w => Is w t1 m1 (tokL (partL r 2))) := (Sta.new (X := bp :: (blkL ao ++ X)) hT1 (fun j hj hj2 => by
        have := hb1 j hj
        rcases List.mem_cons.1 hj2 with q | q
        · omega
        · have := hFb j q; omega)).step hF7 (fun j hj => .inl (by simp at hj; simp [hj])) (fun j hj => .inl hj)
      replace S0 := (S0.kp hk6).step hF7 (Z := bp :: (blkL ao ++ X)) (fun j hj => .inl (by simp at hj; simp [hj])) (fun j hj => .inl hj)
      replace x3 := hF7.cell (hk6.cell x3) (by simpa using hxn)
      have hF37 : Fr [bp] w3 w7 := hF35.trans (((Fr.of_kp hk6).mono (by simp)).trans hF7)
      have hs37 : w3.heap.size ≤ w7.heap.size := Nat.le_trans hs35 (Nat.le_trans hk6.size hF7.size)
      have Ht3 := Lib.hid (show Calls Tryz.prog 76 #[.string (partL r 3), .int .u8 59] w7 (SplitPost w7 (splitL (partL r 3) 59)) from split_any w7 (partL r 3) 59 r5)
      clear Ht2 hT1 hb1 x2
      go_wp2_with fail
      (with_reducible refine Ht3.out.mono ?_)
      rintro e w8 ⟨hk8, yo, M, yc, rfl, hY, hyb⟩
      replace hP := hP.kp hk8
      replace S0 := S0.kp hk8
      replace S1 := S1.kp hk8
      have hM : M ≤ 1000 := by rw [← hY.1]; exact r7
      have hF38 : Fr [bp] w3 w8 := hF37.trans ((Fr.of_kp hk8).mono (by simp))
      have hs38 : w3.heap.size ≤ w8.heap.size := Nat.le_trans hs37 hk8.size
      have hyn : ∀ j ∈ blkL yo, j ≠ bp := fun j hj => by have := hyb j hj; omega
      obtain ⟨pcs, hpcs⟩ : ∃ pcs, pcs = splitL (partL r 3) 59 := ⟨_, rfl⟩
      rw [← hpcs] at hY Hr6
      have Hls := Lib.hid (show rowLs r = lineL pcs 0 by rw [hpcs]; rfl)
      clear hpcs Ht3 x3 hyb r3 r4 r5 r7
      go_wp2_with fail
      have Hd := Lib.hid (And.intro hk2 (And.intro hk3 hF38))
      have HS := Lib.hid (And.intro S0 S1)
      clear hF5 hk4 hF35 hk6 hF7 hF37 hk8 hs35 hs37 S0 S1 Hsp hF38
      go_loopw [7] (fun i wi => ∃ (j nl cl : Nat) (al : Option Addr), j ≤ M ∧ i = .int .i64 (j : Nat) ∧ At4 wi bp (partL r 0) ⟨t0, m0, d0⟩ ⟨t1, m1, d1⟩ ⟨al, nl, cl⟩ ∧ LnO wi w8.heap.size (bp :: (blkL ao ++ X)) al nl cl ((rowLs r).take j) ∧ Fr [bp] w8 wi) (fun i _ => M - (intOf i).toNat)
      case atStart => exact ⟨0, 0, 0, none, by omega, rfl, hP, LnO.nil _ _ _, Fr.refl _ _⟩
      case round =>
        obtain ⟨j, nl, cl, al, hj, rfl, hP, hL, hF⟩ := hrel
        by_cases hjM : j < M
        · obtain ⟨yb, yoff, rfl, hyc⟩ := hY.at j hjM
          have hlj : j < pcs.length := by rw [hY.1]; exact hjM
          have hyj := hF.cell (hyc j hjM) (by have := hyn yb (by simp [blkL, blk]); simpa using this)
          have hxs := Hr6.out (pcs[j]'hlj) (List.getElem_mem _)
          have hst := row_step Hls.out j hlj
          clear hyc
          generalize pcs[j]'hlj = x at hyj hxs hst
          have Hst := Lib.hid hst; clear hst
          obtain ⟨⟨e0, e1, e2, e3⟩, f1, f2, f3⟩ := hP
          obtain ⟨hl1, ts, hl2, hl3, hl4⟩ := hL
          have hnl : nl ≤ 1000 := by rw [← hl1, List.length_take]; omega
          have hbal : bp ∉ blkL al := fun h => by have := (hl3.lt bp (mem_blkL.1 h)).1; omega
          have HP := Lib.hid (show At4 wr bp (partL r 0) ⟨t0, m0, d0⟩ ⟨t1, m1, d1⟩ ⟨al, nl, cl⟩ from ⟨⟨e0, e1, e2, e3⟩, f1, f2, f3⟩)
          clear e0 e1 e2 f1 f2
          go_upto_region 14 with fail
          refine any_start (by kernel_rfl) ?_
          refine any_take [0, 2, 3, 4, 5, 6] (by kernel_rfl) ?_
          simp only [opsAt, List.getElem?_toArray, List.getElem?_cons_zero, List.getElem?_cons_succ]
          repeat (go_big_quiet_step (fail))
          refine wpQuiet_nil ?_
          generalize hwq : wr.drew = wq
          have hkq : Kp wr wq := hwq ▸ Kp.of_drewN wr 1
          replace e3 : wq.cell? ⟨bp, 3, none⟩ = some (.slice al nl cl) := hkq.cell e3
          have e3q := e3
          replace f3 := (HP.out.kp hkq).2.2.2
          have hyq := hkq.cell hyj
          have Htk := Lib.hid (tokens_any wq x hxs)
          clear hwq hyj
          refine any_two 1 7 (by kernel_rfl) ?_ ?_
          · simp only [opsAt, List.getElem?_toArray, List.getElem?_cons_zero, List.getElem?_cons_succ]
            go_wp2_with fail
            refine any_one 7 (by kernel_rfl) ?_
            simp only [opsAt, List.getElem?_toArray, List.getElem?_cons_zero, List.getElem?_cons_succ]
            go_wp2_with fail
            refine any_one 8 (by kernel_rfl) ?_
            simp only [opsAt, List.getElem?_toArray, List.getElem?_cons_zero, List.getElem?_cons_succ]
            go_wp2_with (go_at_call 77; go_loud (refine Htk.out.mono ?_); rintro e wc ⟨hkc, tt, mt, dt, rfl, hT, hmt, hdt, hbt⟩; have e3 := Kp.cell hkc e3; have f3 := Kp.frz hkc e3q f3; have e3c := e3)
            refine any_take [9] (by kernel_rfl) ?_
            simp only [opsAt, List.getElem?_toArray, List.getElem?_cons_zero, List.getElem?_cons_succ]
            repeat (go_big_quiet_step (fail))
            refine wpQuiet_nil ?_
            refine any_one 10 (by kernel_rfl) ?_
            simp only [opsAt, List.getElem?_toArray, List.getElem?_cons_zero, List.getElem?_cons_succ]
            go_wp2_with fail
            have hcs : Cs (wc.alloc (.cells #[iv ((j : Int) % 2), .slice tt mt dt] 73)) (some ⟨wc.heap.size, 0, none⟩) [iv ((j : Int) % 2), .slice tt mt dt] := Cs.new wc [iv ((j : Int) % 2), .slice tt mt dt] 73 (0, 0)
            have hkz : Kp wc (wc.alloc (.cells #[iv ((j : Int) % 2), .slice tt mt dt] 73)) := Kp.new wc _
            generalize wc.alloc (.cells #[iv ((j : Int) % 2), .slice tt mt dt] 73) = wz at hcs hkz ⊢
            have f3 := Kp.frz hkz e3c f3
            have e3 := Kp.cell hkz e3c
            have e3z := e3
            have hkwz : Kp wr wz := Kp.trans hkq (Kp.trans hkc hkz)
            refine any_one 11 (by kernel_rfl) ?_
            simp only [opsAt, List.getElem?_toArray, List.getElem?_cons_zero, List.getElem?_cons_succ]
            go_wp2_with (at_builtin; refine wpList_app rfl (.tmp 47) (.tmp 56) 24 rfl el24 w8.heap.size rfl (hl3.keep hkwz) rfl [iv ((j : Int) % 2), .slice tt mt dt] rfl hcs (by simp [Value.oneCell']) (nl + 1) rfl (lnc ((rowLs r).take j ++ [(((j % 2 : Nat) : Int), tokL x)]) (ts ++ [⟨tt, mt, dt⟩])) (lnc_append _ _ hl2) (by omega) (Nat.le_trans hF.size hkwz.size) ?_; intro ao2 cap2 w9 ha; have e3 := Fr.cell ha.fr e3 hbal; have f3 := Fr.free ha.fr e3z f3 hbal)
            refine any_take [12] (by kernel_rfl) ?_
            simp only [opsAt, List.getElem?_toArray, List.getElem?_cons_zero, List.getElem?_cons_succ]
            repeat (go_big_quiet_step (fail))
            refine wpQuiet_nil ?_
            refine any_one 13 (by kernel_rfl) ?_
            simp only [opsAt, List.getElem?_toArray, List.getElem?_cons_zero, List.getElem?_cons_succ]
            go_wp2_with fail
            refine any_end (by kernel_rfl) ?_
            have Hfin := Lib.hid (all_fin hl1 ts hl2 hl3 hl4 hkwz HP.out hF (by omega) (fun i hi => (hbt i hi)) hkq.size (hkc.trans hkz).size hkz.size (hkz.is hT) hmt hFb ha)
            go_wp2_with fail
            go_roundw
            case rel => exact ⟨j + 1, nl + 1, cap2, ao2, by omega, by go_num, Hfin.out.1, by rw [Hst.out]; exact Hfin.out.2.1, Hfin.out.2.2⟩
            case measure => simp [intOf]; omega
          · simp only [opsAt, List.getElem?_toArray, List.getElem?_cons_zero, List.getElem?_cons_succ]
            go_wp2_with fail
            refine any_two 1 8 (by kernel_rfl) ?_ ?_
            · simp only [opsAt, List.getElem?_toArray, List.getElem?_cons_zero, List.getElem?_cons_succ]
              go_wp2_with fail
              refine any_one 8 (by kernel_rfl) ?_
              simp only [opsAt, List.getElem?_toArray, List.getElem?_cons_zero, List.getElem?_cons_succ]
              go_wp2_with (go_at_call 77; go_loud (refine Htk.out.mono ?_); rintro e wc ⟨hkc, tt, mt, dt, rfl, hT, hmt, hdt, hbt⟩; have e3 := Kp.cell hkc e3; have f3 := Kp.frz hkc e3q f3; have e3c := e3)
              refine any_take [9] (by kernel_rfl) ?_
              simp only [opsAt, List.getElem?_toArray, List.getElem?_cons_zero, List.getElem?_cons_succ]
              repeat (go_big_quiet_step (fail))
              refine wpQuiet_nil ?_
              refine any_one 10 (by kernel_rfl) ?_
              simp only [opsAt, List.getElem?_toArray, List.getElem?_cons_zero, List.getElem?_cons_succ]
              go_wp2_with fail
              have hcs : Cs (wc.alloc (.cells #[iv ((j : Int) % 2), .slice tt mt dt] 73)) (some ⟨wc.heap.size, 0, none⟩) [iv ((j : Int) % 2), .slice tt mt dt] := Cs.new wc [iv ((j : Int) % 2), .slice tt mt dt] 73 (0, 0)
              have hkz : Kp wc (wc.alloc (.cells #[iv ((j : Int) % 2), .slice tt mt dt] 73)) := Kp.new wc _
              generalize wc.alloc (.cells #[iv ((j : Int) % 2), .slice tt mt dt] 73) = wz at hcs hkz ⊢
              have f3 := Kp.frz hkz e3c f3
              have e3 := Kp.cell hkz e3c
              have e3z := e3
              have hkwz : Kp wr wz := Kp.trans hkq (Kp.trans hkc hkz)
              refine any_one 11 (by kernel_rfl) ?_
              simp only [opsAt, List.getElem?_toArray, List.getElem?_cons_zero, List.getElem?_cons_succ]
              go_wp2_with (at_builtin; refine wpList_app rfl (.tmp 47) (.tmp 56) 24 rfl el24 w8.heap.size rfl (hl3.keep hkwz) rfl [iv ((j : Int) % 2), .slice tt mt dt] rfl hcs (by simp [Value.oneCell']) (nl + 1) rfl (lnc ((rowLs r).take j ++ [(((j % 2 : Nat) : Int), tokL x)]) (ts ++ [⟨tt, mt, dt⟩])) (lnc_append _ _ hl2) (by omega) (Nat.le_trans hF.size hkwz.size) ?_; intro ao2 cap2 w9 ha; have e3 := Fr.cell ha.fr e3 hbal; have f3 := Fr.free ha.fr e3z f3 hbal)
              refine any_take [12] (by kernel_rfl) ?_
              simp only [opsAt, List.getElem?_toArray, List.getElem?_cons_zero, List.getElem?_cons_succ]
              repeat (go_big_quiet_step (fail))
              refine wpQuiet_nil ?_
              refine any_one 13 (by kernel_rfl) ?_
              simp only [opsAt, List.getElem?_toArray, List.getElem?_cons_zero, List.getElem?_cons_succ]
              go_wp2_with fail
              refine any_end (by kernel_rfl) ?_
              have Hfin := Lib.hid (all_fin hl1 ts hl2 hl3 hl4 hkwz HP.out hF (by omega) (fun i hi => (hbt i hi)) hkq.size (hkc.trans hkz).size hkz.size (hkz.is hT) hmt hFb ha)
              go_wp2_with fail
              go_roundw
              case rel => exact ⟨j + 1, nl + 1, cap2, ao2, by omega, by go_num, Hfin.out.1, by rw [Hst.out]; exact Hfin.out.2.1, Hfin.out.2.2⟩
              case measure => simp [intOf]; omega
            · simp only [opsAt, List.getElem?_toArray, List.getElem?_cons_zero, List.getElem?_cons_succ]
              go_wp2_with (go_at_call 77; go_loud (refine Htk.out.mono ?_); rintro e wc ⟨hkc, tt, mt, dt, rfl, hT, hmt, hdt, hbt⟩; have e3 := Kp.cell hkc e3; have f3 := Kp.frz hkc e3q f3; have e3c := e3)
              refine any_take [9] (by kernel_rfl) ?_
              simp only [opsAt, List.getElem?_toArray, List.getElem?_cons_zero, List.getElem?_cons_succ]
              repeat (go_big_quiet_step (fail))
              refine wpQuiet_nil ?_
              refine any_two 1 10 (by kernel_rfl) ?_ ?_
              · simp only [opsAt, List.getElem?_toArray, List.getElem?_cons_zero, List.getElem?_cons_succ]
                go_wp2_with fail
                refine any_one 10 (by kernel_rfl) ?_
                simp only [opsAt, List.getElem?_toArray, List.getElem?_cons_zero, List.getElem?_cons_succ]
                go_wp2_with fail
                have hcs : Cs (wc.alloc (.cells #[iv ((j : Int) % 2), .slice tt mt dt] 73)) (some ⟨wc.heap.size, 0, none⟩) [iv ((j : Int) % 2), .slice tt mt dt] := Cs.new wc [iv ((j : Int) % 2), .slice tt mt dt] 73 (0, 0)
                have hkz : Kp wc (wc.alloc (.cells #[iv ((j : Int) % 2), .slice tt mt dt] 73)) := Kp.new wc _
                generalize wc.alloc (.cells #[iv ((j : Int) % 2), .slice tt mt dt] 73) = wz at hcs hkz ⊢
                have f3 := Kp.frz hkz e3c f3
                have e3 := Kp.cell hkz e3c
                have e3z := e3
                have hkwz : Kp wr wz := Kp.trans hkq (Kp.trans hkc hkz)
                refine any_one 11 (by kernel_rfl) ?_
                simp only [opsAt, List.getElem?_toArray, List.getElem?_cons_zero, List.getElem?_cons_succ]
                go_wp2_with (at_builtin; refine wpList_app rfl (.tmp 47) (.tmp 56) 24 rfl el24 w8.heap.size rfl (hl3.keep hkwz) rfl [iv ((j : Int) % 2), .slice tt mt dt] rfl hcs (by simp [Value.oneCell']) (nl + 1) rfl (lnc ((rowLs r).take j ++ [(((j % 2 : Nat) : Int), tokL x)]) (ts ++ [⟨tt, mt, dt⟩])) (lnc_append _ _ hl2) (by omega) (Nat.le_trans hF.size hkwz.size) ?_; intro ao2 cap2 w9 ha; have e3 := Fr.cell ha.fr e3 hbal; have f3 := Fr.free ha.fr e3z f3 hbal)
                refine any_take [12] (by kernel_rfl) ?_
                simp only [opsAt, List.getElem?_toArray, List.getElem?_cons_zero, List.getElem?_cons_succ]
                repeat (go_big_quiet_step (fail))
                refine wpQuiet_nil ?_
                refine any_one 13 (by kernel_rfl) ?_
                simp only [opsAt, List.getElem?_toArray, List.getElem?_cons_zero, List.getElem?_cons_succ]
                go_wp2_with fail
                refine any_end (by kernel_rfl) ?_
                have Hfin := Lib.hid (all_fin hl1 ts hl2 hl3 hl4 hkwz HP.out hF (by omega) (fun i hi => (hbt i hi)) hkq.size (hkc.trans hkz).size hkz.size (hkz.is hT) hmt hFb ha)
                go_wp2_with fail
                go_roundw
                case rel => exact ⟨j + 1, nl + 1, cap2, ao2, by omega, by go_num, Hfin.out.1, by rw [Hst.out]; exact Hfin.out.2.1, Hfin.out.2.2⟩
                case measure => simp [intOf]; omega
              · simp only [opsAt, List.getElem?_toArray, List.getElem?_cons_zero, List.getElem?_cons_succ]
                go_wp2_with fail
                have hcs : Cs (wc.alloc (.cells #[iv ((j : Int) % 2), .slice tt mt dt] 73)) (some ⟨wc.heap.size, 0, none⟩) [iv ((j : Int) % 2), .slice tt mt dt] := Cs.new wc [iv ((j : Int) % 2), .slice tt mt dt] 73 (0, 0)
                have hkz : Kp wc (wc.alloc (.cells #[iv ((j : Int) % 2), .slice tt mt dt] 73)) := Kp.new wc _
                generalize wc.alloc (.cells #[iv ((j : Int) % 2), .slice tt mt dt] 73) = wz at hcs hkz ⊢
                have f3 := Kp.frz hkz e3c f3
                have e3 := Kp.cell hkz e3c
                have e3z := e3
                refine any_one 1 (by kernel_rfl) ?_
                simp only [opsAt, List.getElem?_toArray, List.getElem?_cons_zero, List.getElem?_cons_succ]
                go_wp2_with fail
                have hkwz : Kp wr wz := Kp.trans hkq (Kp.trans hkc hkz)
                refine any_one 11 (by kernel_rfl) ?_
                simp only [opsAt, List.getElem?_toArray, List.getElem?_cons_zero, List.getElem?_cons_succ]
                go_wp2_with (at_builtin; refine wpList_app rfl (.tmp 47) (.tmp 56) 24 rfl el24 w8.heap.size rfl (hl3.keep hkwz) rfl [iv ((j : Int) % 2), .slice tt mt dt] rfl hcs (by simp [Value.oneCell']) (nl + 1) rfl (lnc ((rowLs r).take j ++ [(((j % 2 : Nat) : Int), tokL x)]) (ts ++ [⟨tt, mt, dt⟩])) (lnc_append _ _ hl2) (by omega) (Nat.le_trans hF.size hkwz.size) ?_; intro ao2 cap2 w9 ha; have e3 := Fr.cell ha.fr e3 hbal; have f3 := Fr.free ha.fr e3z f3 hbal)
                refine any_take [12] (by kernel_rfl) ?_
                simp only [opsAt, List.getElem?_toArray, List.getElem?_cons_zero, List.getElem?_cons_succ]
                repeat (go_big_quiet_step (fail))
                refine wpQuiet_nil ?_
                refine any_one 13 (by kernel_rfl) ?_
                simp only [opsAt, List.getElem?_toArray, List.getElem?_cons_zero, List.getElem?_cons_succ]
                go_wp2_with fail
                refine any_end (by kernel_rfl) ?_
                have Hfin := Lib.hid (all_fin hl1 ts hl2 hl3 hl4 hkwz HP.out hF (by omega) (fun i hi => (hbt i hi)) hkq.size (hkc.trans hkz).size hkz.size (hkz.is hT) hmt hFb ha)
                go_wp2_with fail
                go_roundw
                case rel => exact ⟨j + 1, nl + 1, cap2, ao2, by omega, by go_num, Hfin.out.1, by rw [Hst.out]; exact Hfin.out.2.1, Hfin.out.2.2⟩
                case measure => simp [intOf]; omega
        · obtain rfl : j = M := by omega
          rw [List.take_of_length_le (by rw [Hls.out]; unfold lineL; rw [List.length_mapIdx, hY.1]; exact Nat.le_refl _)] at hL
          have hnl : nl ≤ 1000 := by rw [← hL.1, Hls.out]; unfold lineL; rw [List.length_mapIdx, hY.1]; exact hM
          have hkwr : Kp wo wr := (((Fr.of_kp Hd.out.1).trans (Fr.of_kp Hd.out.2.1)).step (Hd.out.2.2.trans hF) (fun i hi => .inr (by simp at hi; omega))).kp
          have hSL : Sta wr (blkL ao ++ X) (fun w => Lns w al nl (rowLs r)) := hL.sta (by omega) (fun i hi => List.mem_cons_of_mem _ hi) (fun i hi hm => by
            obtain ⟨_, ts, _, hl3, _⟩ := hL
            have := (hl3.lt i (mem_blkL.1 hm)).1
            have := hFb i hi; omega)
          have hS0 := (HS.out.1.step hF (Z := blkL ao ++ X) (fun i hi => .inl (by simp at hi; simp [hi])) (fun i hi => .inl (List.mem_cons_of_mem _ hi)))
          have hS1 := (HS.out.2.step hF (Z := blkL ao ++ X) (fun i hi => .inl (by simp at hi; simp [hi])) (fun i hi => .inl (List.mem_cons_of_mem _ hi)))
          have hpv : Sta wr (blkL ao ++ X) (PvR r ⟨partL r 0, ⟨t0, m0, d0⟩, ⟨t1, m1, d1⟩, ⟨al, nl, cl⟩⟩) := fun w' k => ⟨hm0, hm1, by show nl ≤ 7007; omega, hS0 w' k, hS1 w' k, hSL w' k⟩
          obtain ⟨⟨e0, e1, e2, e3⟩, f1, f2, f3⟩ := hP
          unfold tvv at e1 e2 e3
          simp only at e1 e2 e3
          clear hSL hS0 hS1 HS hL hF Hd
          have hcs : Cs (wr.alloc (.cells #[.string (partL r 0), .slice t0 m0 d0, .slice t1 m1 d1, .slice al nl cl] 26)) (some ⟨wr.heap.size, 0, none⟩) [.string (partL r 0), .slice t0 m0 d0, .slice t1 m1 d1, .slice al nl cl] := Cs.new wr [.string (partL r 0), .slice t0 m0 d0, .slice t1 m1 d1, .slice al nl cl] 26 (0, 0)
          have hown2 : Own (wr.alloc (.cells #[.string (partL r 0), .slice t0 m0 d0, .slice t1 m1 d1, .slice al nl cl] 26)) w1.heap.size 26 4 ao k cap (ps.flatMap pvc) := hown.keep (Kp.trans hkwr (Kp.new _ _))
          have hbase : w1.heap.size ≤ (wr.alloc (.cells #[.string (partL r 0), .slice t0 m0 d0, .slice t1 m1 d1, .slice al nl cl] 26)).heap.size := Nat.le_trans hkk.size (Nat.le_trans hkwr.size (by simp))
          have hzs : (ps ++ [(⟨partL r 0, ⟨t0, m0, d0⟩, ⟨t1, m1, d1⟩, ⟨al, nl, cl⟩⟩ : Pv)]).flatMap pvc = ps.flatMap pvc ++ [.string (partL r 0), .slice t0 m0 d0, .slice t1 m1 d1, .slice al nl cl] := by simp [pvc, tvv]
          have hby : (k + 1) * 88 ≤ 140737488355328 := by omega
          have hone : ∀ u ∈ ([.string (partL r 0), .slice t0 m0 d0, .slice t1 m1 d1, .slice al nl cl] : List Value), u.oneCell' = true := by simp [Value.oneCell']
          go_wp2_with (at_builtin; refine wpList_app rfl (.tmp 59) (.tmp 61) 53 rfl el80 w1.heap.size rfl hown2 rfl [.string (partL r 0), .slice t0 m0 d0, .slice t1 m1 d1, .slice al nl cl] rfl hcs hone (k + 1) rfl ((ps ++ [(⟨partL r 0, ⟨t0, m0, d0⟩, ⟨t1, m1, d1⟩, ⟨al, nl, cl⟩⟩ : Pv)]).flatMap pvc) hzs hby hbase ?_; intro ao2 cap2 w9 ha)
          have Hfin := Lib.hid (show PvO w9 w1.heap.size X ao2 (k + 1) cap2 (k + 1) ∧ Kp w1 w9 from ⟨PvO.app (k := k) ps rfl hpl Hps.out (Kp.trans hkwr (Kp.new _ _)) ⟨partL r 0, ⟨t0, m0, d0⟩, ⟨t1, m1, d1⟩, ⟨al, nl, cl⟩⟩ r Hrk.out rfl (hpv.kp (Kp.new _ _)) rfl ha, ((Fr.of_kp (Kp.trans hkk (Kp.trans hkwr (Kp.new _ _)))).step ha.fr (fun i hi => .inr (hown2.lt i (mem_blkL.1 hi)).1)).kp⟩)
          clear ha
          go_wp2_with fail
          go_roundw
          case rel => exact ⟨k + 1, k + 1, cap2, ao2, by omega, by go_num, rfl, Hfin.out.1, Hfin.out.2⟩
          case measure => simp [intOf]; omega
    · obtain rfl : k = 38 := by omega
      have hpost : AllPost w X (.returned (.slice ao n cap)) wr := ⟨Kp.trans hk1 hkk, ao, n, cap, rfl, hO.mono hw1⟩
      have Hpost := Lib.hid hpost; clear hpost hO
      go_wp2_with fail
      go_ret
      exact Hpost.out
end Go.Proofs.YtkmejehhdjdlbaaGreatDoor

namespace Go.Proofs.YtkmejehhdjdlbaaGreatDoor
open Go.RowKit

/-- The document's table, read. -/
def refL : List (Q.Bt × (List Int × List Int) × List Ln) := rowsL.map fun r => ((partL r 0).data.toList, (tokLQ (partL r 1), tokLQ (partL r 2)), rowLsQ r)
theorem ref_rows : (refL.map fun x => (rowOf x.1).map (fun y => (y.1, y.2.1, y.2.2.1))) = refL.map some := by kernel_rfl
theorem ref_names : (Q.tableL.all fun y => refL.any (fun x => x.1 == y.1)) = true := by kernel_rfl
theorem ref_small : (refL.all fun x => decide (x.2.1.1.length ≤ 2) && decide (x.2.1.2.length ≤ 2) && decide (x.2.2.length ≤ 4) && x.2.2.all (fun l => decide (l.2.length ≤ 5))) = true := by kernel_rfl
theorem ref_mem {k : Nat} {r : ByteArray} (h : rowsL[k]? = some r) : ((partL r 0).data.toList, (tokL (partL r 1), tokL (partL r 2)), rowLs r) ∈ refL := by
  rw [tokL_q, tokL_q, rowLs_q]
  exact List.mem_map.2 ⟨r, List.mem_of_getElem? h, rfl⟩
theorem ref_at {k : Nat} {r : ByteArray} (h : rowsL[k]? = some r) : ∃ y : Row, rowOf (partL r 0).data.toList = some y ∧ y.1 = (partL r 0).data.toList ∧ y.2.1.1 = tokL (partL r 1) ∧ y.2.1.2 = tokL (partL r 2) ∧ y.2.2.1 = rowLs r := by
  have hm := ref_mem h
  obtain ⟨j, hj⟩ := List.getElem?_of_mem hm
  have h1 : (refL.map fun x => (rowOf x.1).map (fun y => (y.1, y.2.1, y.2.2.1)))[j]? = (refL.map some)[j]? := by rw [ref_rows]
  rw [List.getElem?_map, List.getElem?_map, hj] at h1
  simp only [Option.map_some, Option.some.injEq] at h1
  obtain ⟨y, hy, he⟩ := Option.map_eq_some_iff.1 h1
  simp only [Prod.mk.injEq] at he
  exact ⟨y, hy, he.1, by rw [he.2.1], by rw [he.2.1], he.2.2⟩
theorem ref_none {nm : Q.Bt} (h : ∀ (k : Nat) (r : ByteArray), rowsL[k]? = some r → (partL r 0).data.toList ≠ nm) : rowOf nm = none := by
  unfold rowOf
  rw [List.find?_eq_none]
  intro y hy hc
  have h1 := List.all_eq_true.1 ref_names y hy
  obtain ⟨x, hx, hxe⟩ := List.any_eq_true.1 h1
  obtain ⟨r, hr, rfl⟩ := List.mem_map.1 hx
  obtain ⟨k, hk⟩ := List.getElem?_of_mem hr
  exact h k r hk ((beq_iff_eq.1 hxe).trans (beq_iff_eq.1 hc))
/-- What the document's Find answers. -/
def RFindPost (w : World) (nm : Q.Bt) (e : Ending) (w' : World) : Prop := Kp w w' ∧ match rowOf nm with
  | none => e = .returned (.tuple #[zeroP, .bool false])
  | some y => ∃ t0 t1 tl : Tv, e = .returned (.tuple #[.agg #[.string (bs y.1), tvv t0, tvv t1, tvv tl], .bool true]) ∧ PatI w' t0.ao t1.ao tl.ao t0.n t1.n tl.n y.2.1.1 y.2.1.2 y.2.2.1
theorem RFindPost.no {w w' : World} {nm : Q.Bt} (hk : Kp w w') (h : rowOf nm = none) : RFindPost w nm (.returned (.tuple #[zeroP, .bool false])) w' := ⟨hk, by rw [h]⟩
theorem RFindPost.yes {w w' : World} {nm : Q.Bt} {y : Row} {t0 t1 tl : Tv} (hk : Kp w w') (h : rowOf nm = some y) (hp : PatI w' t0.ao t1.ao tl.ao t0.n t1.n tl.n y.2.1.1 y.2.1.2 y.2.2.1) :
    RFindPost w nm (.returned (.tuple #[.agg #[.string (bs y.1), tvv t0, tvv t1, tvv tl], .bool true])) w' := ⟨hk, by rw [h]; exact ⟨t0, t1, tl, rfl, hp⟩⟩
theorem bs_of {s : ByteArray} {x : Q.Bt} (h : x = s.data.toList) : bs x = s := by subst h; exact bs_data s

attribute [local irreducible] tblK tblP tblQ Q.piecesB Q.tableB Q.tableL rowOf rowsL
set_option maxRecDepth 100000 in
set_option maxHeartbeats 4000000 in
theorem rfind_any (w : World) (s : ByteArray) : Calls Tryz.prog 33 #[.string s] w (RFindPost w s.data.toList) := by
  have Ha := Lib.hid (all_any (w.alloc (.cells #[.string ⟨#[]⟩, .slice none 0 0, .slice none 0 0, .slice none 0 0] 26)) [w.heap.size] (by simp))
  have hF4 := Four.new w (.string ⟨#[]⟩) (.slice none 0 0) (.slice none 0 0) (.slice none 0 0) 26
  have HF4 := Lib.hid hF4
  have hk0 := Kp.new w (.cells #[.string ⟨#[]⟩, .slice none 0 0, .slice none 0 0, .slice none 0 0] 26)
  have Hk0 := Lib.hid hk0
  clear hF4 hk0
  go_enter Tryz.func33, Tryz.ntmps33
  go_wp2_with fail
  (with_reducible refine Ha.out.mono ?_)
  rintro e w1 ⟨hk1, ao, n, cap, rfl, hn, ps, hpl, hown, hps⟩
  subst hn
  have HF := Lib.hid (HF4.out.kp hk1)
  have HK := Lib.hid (Kp.trans Hk0.out hk1)
  have hcs := hown.cs
  obtain ⟨b, off, rfl, hc⟩ := hcs.at 0 (by rw [pvc_len]; omega)
  have hcell : ∀ j (h : j < ps.length), w1.cell? ⟨b, off + j * 4, none⟩ = some (.string ps[j].nm) ∧ w1.cell? ⟨b, off + j * 4 + 1, none⟩ = some (tvv ps[j].b0) ∧ w1.cell? ⟨b, off + j * 4 + 2, none⟩ = some (tvv ps[j].b1) ∧ w1.cell? ⟨b, off + j * 4 + 3, none⟩ = some (tvv ps[j].ls) := fun j h => by
    obtain ⟨g0, g1, g2, g3⟩ := pvc_get ps j h
    refine ⟨hc _ _ g0, ?_, ?_, ?_⟩
    · have := hc _ _ g1; rwa [← Nat.add_assoc] at this
    · have := hc _ _ g2; rwa [← Nat.add_assoc] at this
    · have := hc _ _ g3; rwa [← Nat.add_assoc] at this
  have Hps := Lib.hid hps
  have Hcell := Lib.hid hcell
  clear hps hcell hc hcs hown Ha hk1 HF4 Hk0
  go_wp2_with fail
  go_loopw [5] (fun i wr => ∃ k : Nat, k ≤ 38 ∧ i = .int .i64 (k : Nat) ∧ w1 = wr ∧ ∀ (j : Nat) (r : ByteArray), j < k → rowsL[j]? = some r → (partL r 0).data.toList ≠ s.data.toList) (fun i _ => 38 - (intOf i).toNat)
  case atStart => exact ⟨0, by omega, rfl, rfl, fun j r hj => by omega⟩
  case round =>
    obtain ⟨k, hk, rfl, rfl, hno⟩ := hrel
    have Hno := Lib.hid hno
    clear hno
    by_cases hlt : k < 38
    · have hkl : k < ps.length := by omega
      obtain ⟨g0, g1, g2, g3⟩ := Hcell.out k hkl
      obtain ⟨r, hr⟩ : ∃ r, rowsL[k]? = some r := ⟨_, List.getElem?_eq_getElem (by rw [rowsL_length]; omega)⟩
      have hnm := (Hps.out k hkl r hr).1
      by_cases heq : (partL r 0).data.toList = s.data.toList
      · obtain ⟨y, hy1, hy2, hy3, hy4, hy5⟩ := ref_at hr
        have hfin : ∀ w', Fr [w.heap.size] w1 w' → PatI w' (ps[k]'hkl).b0.ao (ps[k]'hkl).b1.ao (ps[k]'hkl).ls.ao (ps[k]'hkl).b0.n (ps[k]'hkl).b1.n (ps[k]'hkl).ls.n y.2.1.1 y.2.1.2 y.2.2.1 := fun w' hk => by
          obtain ⟨_, _, _, q1, q2, q3⟩ := (Hps.out k hkl r hr).2 w' (hk.mono (fun j hj => List.mem_append.2 (.inr hj)))
          rw [hy3, hy4, hy5]
          exact ⟨q1, q2, q3⟩
        have Hfin := Lib.hid hfin
        have hnmy : (ps[k]'hkl).nm = bs y.1 := by rw [hnm, hy2]; exact (bs_data _).symm
        have Hrow := Lib.hid (show rowOf s.data.toList = some y by rw [← heq]; exact hy1)
        have Hb := Lib.hid (show ((bs y.1).toList == s.toList) = true by rw [Lib.toList_data, Lib.toList_data, bs_list, hy2, heq, beq_self_eq_true])
        rw [hnmy] at g0
        generalize ps[k]'hkl = p at g1 g2 g3 Hfin
        obtain ⟨nm, ⟨t0, m0, c0⟩, ⟨t1, m1, c1⟩, ⟨tl, nl, cl⟩⟩ := p
        unfold tvv at g1 g2 g3
        simp only at g1 g2 g3 Hfin
        obtain ⟨wf, hwf, hF, hPf⟩ := HF.out.set (.string (bs y.1)) (.slice t0 m0 c0) (.slice t1 m1 c1) (.slice tl nl cl)
        have hpost : RFindPost w s.data.toList (.returned (.tuple #[.agg #[.string (bs y.1), .slice t0 m0 c0, .slice t1 m1 c1, .slice tl nl cl], .bool true])) wf :=
          RFindPost.yes (t0 := ⟨t0, m0, c0⟩) (t1 := ⟨t1, m1, c1⟩) (tl := ⟨tl, nl, cl⟩) (((Fr.of_kp HK.out).step hF (fun i hi => .inr (by simp at hi; omega))).kp) Hrow.out (Hfin.out _ hF)
        have Hpost := Lib.hid hpost
        have Hwf := Lib.hid hwf
        obtain ⟨s0, s1, s2, s3, f0, f1, f2, f3⟩ := HF.out
        obtain ⟨c0', c1', c2', c3', _, _, _, _⟩ := hPf
        have hb := Hb.out
        clear hfin hpost hwf hF hr hnm heq hnmy hy1 hy2 hy3 hy4 hy5
        go_wp2_with fail
        rw [← Hwf.out]
        refine bodyPost_ret (v := .tuple #[.agg #[.string (bs y.1), .slice t0 m0 c0, .slice t1 m1 c1, .slice tl nl cl], .bool true]) (by simp [results, Tryz.results33, go_sem, c0', c1', c2', c3']) rfl Hpost.out
      · have hb : ((partL r 0).toList == s.toList) = false := by rw [Lib.toList_data, Lib.toList_data, beq_eq_false_iff_ne]; exact heq
        rw [← hnm] at hb
        have Hnext := Lib.hid (show ∀ (j : Nat) (r : ByteArray), j < k + 1 → rowsL[j]? = some r → (partL r 0).data.toList ≠ s.data.toList from fun j r' hj hr' => by
          rcases Nat.lt_or_ge j k with q | q
          · exact Hno.out j r' q hr'
          · obtain rfl : j = k := by omega
            rw [hr] at hr'
            cases hr'
            exact heq)
        generalize ps[k]'hkl = p at g0 g1 g2 g3 hb
        clear hr hnm g1 g2 g3 heq
        go_wp2_with fail
        go_roundw
        case rel => exact ⟨k + 1, by omega, by go_num, trivial, Hnext.out⟩
        case measure => simp [intOf]; omega
    · obtain rfl : k = 38 := by omega
      have hno : rowOf s.data.toList = none := ref_none (fun k r hr => Hno.out k r (by
        have := (List.getElem?_eq_some_iff.1 hr).1
        rw [rowsL_length] at this
        exact this) hr)
      obtain ⟨wf, hwf, hF, hPf⟩ := HF.out.set (.string ⟨#[]⟩) (.slice none 0 0) (.slice none 0 0) (.slice none 0 0)
      have Hpost := Lib.hid (RFindPost.no (((Fr.of_kp HK.out).step hF (fun i hi => .inr (by simp at hi; omega))).kp) hno)
      have Hwf := Lib.hid hwf
      obtain ⟨s0, s1, s2, s3, f0, f1, f2, f3⟩ := HF.out
      obtain ⟨c0', c1', c2', c3', _, _, _, _⟩ := hPf
      clear hno hwf hF
      go_wp2_with fail
      rw [← Hwf.out]
      refine bodyPost_ret (v := .tuple #[zeroP, .bool false]) (by simp [results, Tryz.results33, go_sem, c0', c1', c2', c3']) rfl Hpost.out
end Go.Proofs.YtkmejehhdjdlbaaGreatDoor

namespace Go.Proofs.YtkmejehhdjdlbaaGreatDoor
open Go.RowKit

/-- What is found: the name, what is known ahead, the messages; is there one? -/
def fnd (nm : Q.Bt) : ByteArray × List Int × List Int × List Ln × Bool := match rowOf nm with
  | none => (⟨#[]⟩, [], [], [], false)
  | some y => (bs y.1, y.2.1.1, y.2.1.2, y.2.2.1, true)
theorem row_small {nm : Q.Bt} {y : Row} (h : rowOf nm = some y) : y.2.2.1.length ≤ 5000 ∧ ∀ l ∈ y.2.2.1, l.2.length ≤ 5000 := by
  have hm := List.mem_of_find?_eq_some h
  have ht : (Q.tableL.all fun y => decide (y.2.2.1.length ≤ 5000) && y.2.2.1.all (fun l => decide (l.2.length ≤ 5000))) = true := by kernel_rfl
  have := List.all_eq_true.1 ht y hm
  simp only [Bool.and_eq_true, decide_eq_true_eq, List.all_eq_true] at this
  exact this
theorem find_all (w : World) (E : Nat → Addr) (m : Int) (hE : Env w E m) (s : ByteArray) (hs : s.size ≤ maxLen) : Calls Tryz.prog 32 #[.string s] w fun e w' => Kp w w' ∧ ∃ t0 t1 tl : Tv,
    e = .returned (.tuple #[.agg #[.string (fnd s.data.toList).1, tvv t0, tvv t1, tvv tl], .bool (fnd s.data.toList).2.2.2.2]) ∧ PatI w' t0.ao t1.ao tl.ao t0.n t1.n tl.n (fnd s.data.toList).2.1 (fnd s.data.toList).2.2.1 (fnd s.data.toList).2.2.2.1 := by
  refine (find_any s m E (E 8) w hs hE.mx hE.errs hE.c5).mono ?_
  rintro e w' ⟨hk, h⟩
  refine ⟨hk, ?_⟩
  unfold fnd
  cases hq : rowOf s.data.toList with
  | none =>
    rw [hq] at h
    exact ⟨nilT, nilT, nilT, h, PatI.none w'⟩
  | some y =>
    rw [hq] at h
    obtain ⟨t0, t1, tl, ts, he, hP⟩ := h
    have hs := row_small hq
    exact ⟨t0, t1, tl, he, hP.patI hs.1 hs.2⟩
theorem rfind_all (w : World) (s : ByteArray) (_ : s.size ≤ maxLen) : Calls Tryz.prog 33 #[.string s] w fun e w' => Kp w w' ∧ ∃ t0 t1 tl : Tv,
    e = .returned (.tuple #[.agg #[.string (fnd s.data.toList).1, tvv t0, tvv t1, tvv tl], .bool (fnd s.data.toList).2.2.2.2]) ∧ PatI w' t0.ao t1.ao tl.ao t0.n t1.n tl.n (fnd s.data.toList).2.1 (fnd s.data.toList).2.2.1 (fnd s.data.toList).2.2.2.1 := by
  refine (rfind_any w s).mono ?_
  rintro e w' ⟨hk, h⟩
  refine ⟨hk, ?_⟩
  unfold fnd
  cases hq : rowOf s.data.toList with
  | none =>
    rw [hq] at h
    exact ⟨nilT, nilT, nilT, h, PatI.none w'⟩
  | some y =>
    rw [hq] at h
    obtain ⟨t0, t1, tl, he, hP⟩ := h
    exact ⟨t0, t1, tl, he, hP⟩
end Go.Proofs.YtkmejehhdjdlbaaGreatDoor
