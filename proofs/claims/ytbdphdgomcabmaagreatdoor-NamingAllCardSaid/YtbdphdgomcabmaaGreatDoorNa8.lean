/- Parts of the walks and plain laws, merged: RWd, RFu, NmP, FndX. Each theorem bears its own conditions; no other. -/
import Derived.Test.YtbdphdgomcabmaaGreatDoorSpN
import Derived.Test.YtbdphdgomcabmaaGreatDoorNa7
namespace Go.Proofs.YtbdphdgomcabmaaGreatDoor
open Go.RowKit

def WdPost (w : World) (s : ByteArray) (e : Ending) (w' : World) : Prop := Kp w w' ∧ match Q.behind s.data.toList with
  | none => e = .returned (.tuple #[.slice none 0 0, .bool false])
  | some l => ∃ (ws : List ByteArray) (ao : Option Addr) (n cap : Nat), e = .returned (.tuple #[.slice ao n cap, .bool true]) ∧ wl ws = l ∧ Strs w' ao n ws
theorem WdPost.no {w w' : World} {s : ByteArray} (hk : Kp w w') (h : Q.behind s.data.toList = none) : WdPost w s (.returned (.tuple #[.slice none 0 0, .bool false])) w' := ⟨hk, by rw [h]⟩
theorem WdPost.yes {w w' : World} {s : ByteArray} {ws : List ByteArray} {ao : Option Addr} {n cap : Nat} (hk : Kp w w') (h : Q.behind s.data.toList = some (wl ws)) (hw : Strs w' ao n ws) : WdPost w s (.returned (.tuple #[.slice ao n cap, .bool true])) w' := ⟨hk, by rw [h]; exact ⟨ws, ao, n, cap, rfl, rfl, hw⟩⟩
theorem wd_off2 {s : ByteArray} {f i : Nat} (hi : i < s.size) (hl : Q.loB s[i] = false) (hp : s[i] ≠ 43) : Q.wd (s.extract f i).data.toList (s.data.toList.drop i) = none := by
  cases h : Q.badW (s.extract f i).data.toList with
  | true => exact wd_bad (.inr ⟨hi, hl⟩) h
  | false => exact wd_off hi hl h hp
theorem badW_byte {x : ByteArray} (h : 0 < x.size) : Q.badW x.data.toList = Q.digB x[0] := by
  have := drop_byte h
  rw [List.drop_zero] at this
  rw [this]; rfl
set_option maxRecDepth 100000 in
set_option maxHeartbeats 8000000 in
theorem rwordsN_any (w : World) (s : ByteArray) (hsz : s.size ≤ 100000) : Calls Tryz.prog 28 #[.string s] w (WdPost w s) := by
  by_cases hs0 : s.size = 0
  · have hl : s.toList = [] := by rw [Lib.toList_data]; exact List.length_eq_zero_iff.1 (by rw [← Lib.size_eq]; exact hs0)
    have hlb : (s.toList == []) = true := by rw [hl]; rfl
    have Hyes := Lib.hid (WdPost.yes (cap := 0) (n := 0) (ao := none) (ws := []) (Kp.refl w) (show Q.behind s.data.toList = some (wl []) by rw [← Lib.toList_data, hl]; rfl) ⟨rfl, Nat.zero_le _, fun j u hu => by simp at hu⟩)
    clear hs0
    go_enter Tryz.func28, Tryz.ntmps28
    go_wp2_with fail
    show bodyPost Tryz.prog Tryz.f28 (WdPost w s) .ret _ _
    refine bodyPost_ret (v := .tuple #[.slice none 0 0, .bool true]) (by simp [results, Tryz.results28, go_sem]) rfl ?_
    exact Hyes.out
  · have hl : ¬ s.toList = [] := by rw [Lib.toList_data]; intro q; rw [Lib.size_eq, q] at hs0; simp at hs0
    have hlb : (s.toList == []) = false := by simpa using hl
    have Hne := Lib.hid (show Q.behind s.data.toList = Q.wd [] s.data.toList by
      rw [Lib.toList_data] at hl
      cases h : s.data.toList with
      | nil => exact absurd h hl
      | cons c t => rfl)
    go_enter Tryz.func28, Tryz.ntmps28
    go_wp2_with fail
    clear hl hlb
    go_loopw [4, 5, 6] (fun ov fv iv_ wr => ∃ (i f : Nat) (ws : List ByteArray) (ao : Option Addr) (n cap : Nat), ov = .slice ao n cap ∧ fv = .int .i64 (f : Nat) ∧ iv_ = .int .i64 (i : Nat) ∧ n ≤ i ∧ Kp w wr ∧ Own wr w.heap.size 9 1 ao n cap (strV ws) ∧ ((f ≤ i ∧ i ≤ s.size ∧ Q.wd [] s.data.toList = (Q.wd (s.extract f i).data.toList (s.data.toList.drop i)).map (wl ws ++ ·)) ∨ (i = s.size + 1 ∧ Q.wd [] s.data.toList = some (wl ws)))) (fun _ _ i _ => s.size + 1 - (intOf i).toNat)
    case atStart => exact ⟨0, 0, [], none, 0, 0, rfl, rfl, rfl, Nat.le_refl _, Kp.refl _, Own.nil _ _ _ _, .inl ⟨Nat.le_refl _, Nat.zero_le _, by rw [ext_nil, List.drop_zero]; cases Q.wd [] s.data.toList <;> rfl⟩⟩
    case round =>
      obtain ⟨i, f, ws, ao, n, cap, rfl, rfl, rfl, hn, hk, hO, hst⟩ := hrel
      rename World => wr
      have HK := Lib.hid hk
      have HO := Lib.hid hO
      have HS := Lib.hid hst
      clear hk hO hst
      by_cases hend : i = s.size + 1
      · have hw : Q.wd [] s.data.toList = some (wl ws) := by
          rcases HS.out with ⟨h1, h2, h3⟩ | ⟨h1, h2⟩
          · omega
          · exact h2
        have Hyes := Lib.hid (WdPost.yes (cap := cap) HK.out (show Q.behind s.data.toList = some (wl ws) from Hne.out.trans hw) HO.out.strs)
        have hii : ¬ ((i : Nat) : Int) ≤ (s.size : Nat) := by omega
        clear hend hw
        go_wp2_with fail
        show bodyPost Tryz.prog Tryz.f28 (WdPost w s) .ret _ _
        refine bodyPost_ret (v := .tuple #[.slice ao n cap, .bool true]) (by simp [results, Tryz.results28, go_sem]) rfl ?_
        exact Hyes.out
      · obtain ⟨hf, hi, hW⟩ : f ≤ i ∧ i ≤ s.size ∧ Q.wd [] s.data.toList = (Q.wd (s.extract f i).data.toList (s.data.toList.drop i)).map (wl ws ++ ·) := by
          rcases HS.out with h1 | ⟨h1, h2⟩
          · exact h1
          · exact absurd h1 hend
        have HW := Lib.hid hW
        have hii : ((i : Nat) : Int) ≤ (s.size : Nat) := by omega
        clear hW hend HS
        by_cases hgo : ∃ h : i < s.size, Q.loB s[i] = true
        · obtain ⟨hi1, hlo⟩ := hgo
          have HJ := Lib.hid (HW.out.trans (by rw [wd_lo hf hi1 hlo] : _ = (Q.wd (s.extract f (i + 1)).data.toList (s.data.toList.drop (i + 1))).map (wl ws ++ ·)))
          have hij : ((i : Nat) : Int) < (s.size : Nat) := by omega
          have HC := Lib.hid (lower_any wr s[i])
          rw [hlo] at HC
          clear hlo
          go_wp2_with fail
          (with_reducible refine HC.out.mono ?_)
          rintro e v ⟨rfl, rfl⟩
          clear HC
          go_wp2_with fail
          go_roundw
          case rel => exact ⟨i + 1, f, ws, ao, n, cap, rfl, rfl, by go_num, by omega, HK.out, HO.out, .inl ⟨by omega, by omega, HJ.out⟩⟩
          case measure => simp [intOf]; omega
        · have hst : i = s.size ∨ ∃ hi : i < s.size, Q.loB s[i] = false := by
            rcases Nat.lt_or_ge i s.size with q | q
            · exact .inr ⟨q, by cases h : Q.loB s[i] with | false => rfl | true => exact absurd ⟨q, h⟩ hgo⟩
            · exact .inl (by omega)
          have Hst := Lib.hid hst
          clear hgo hst
          by_cases hp : ∃ h : i < s.size, s[i] ≠ 43
          · obtain ⟨hi1, hp⟩ := hp
            have hlo : Q.loB s[i] = false := by rcases Hst.out with q | ⟨_, q⟩; omega; exact q
            have Hno := Lib.hid (WdPost.no HK.out (show Q.behind s.data.toList = none from Hne.out.trans (HW.out.trans (by rw [wd_off2 hi1 hlo hp]; rfl))))
            have hij : ((i : Nat) : Int) < (s.size : Nat) := by omega
            have HC := Lib.hid (lower_any wr s[i])
            have hb2 : ¬ ((s[i].toNat : Nat) : Int) = 43 := fun e => hp (by rw [← UInt8.toNat_inj]; show _ = 43; omega)
            have hb3 : (((s[i].toNat : Nat) : Int) == 43) = false := by simpa using hb2
            rw [hlo] at HC
            clear hlo hp
            go_wp2_with fail
            (with_reducible refine HC.out.mono ?_)
            rintro e v ⟨rfl, rfl⟩
            clear HC
            go_wp2_with fail
            show bodyPost Tryz.prog Tryz.f28 (WdPost w s) .ret _ _
            refine bodyPost_ret (v := .tuple #[.slice none 0 0, .bool false]) (by simp [results, Tryz.results28, go_sem]) rfl ?_
            exact Hno.out
          · go_upto_region 8 with fail
            go_cut [25] (fun v wc => v = .bool false ∧ wc = wr)
            case first =>
              rcases Hst.out with hz | ⟨hi1, hlo⟩
              · have hij : ¬ ((i : Nat) : Int) < (s.size : Nat) := by omega
                clear hz
                go_wp2_with fail
                go_meet
                case rel => exact ⟨rfl, rfl⟩
              · have hij : ((i : Nat) : Int) < (s.size : Nat) := by omega
                have HC := Lib.hid (lower_any wr s[i])
                rw [hlo] at HC
                clear hlo
                go_wp2_with fail
                (with_reducible refine HC.out.mono ?_)
                rintro e v ⟨rfl, rfl⟩
                clear HC
                go_wp2_with fail
                go_meet
                case rel => exact ⟨rfl, rfl⟩
            case rest =>
              obtain ⟨rfl, hcw⟩ := hcut
              replace hcw := hcw.symm
              subst hcw
              go_upto_region 9 with fail
              go_cut [35] (fun v wc => v = .bool false ∧ wc = wr)
              case first =>
                rcases Nat.lt_or_ge i s.size with hi1 | hz
                · have hij : ((i : Nat) : Int) < (s.size : Nat) := by omega
                  have h43 : s[i] = 43 := Decidable.byContradiction (fun q => hp ⟨hi1, q⟩)
                  have hb2 : ((s[i].toNat : Nat) : Int) = 43 := by rw [h43]; rfl
                  have hb3 : (((s[i].toNat : Nat) : Int) == 43) = true := by rw [hb2]; rfl
                  clear h43
                  go_wp2_with fail
                  go_meet
                  case rel => exact ⟨by first | rfl | (rw [bne, hb3]; rfl) | simp, rfl⟩
                · have hij : ¬ ((i : Nat) : Int) < (s.size : Nat) := by omega
                  clear hz
                  go_wp2_with fail
                  go_meet
                  case rel => exact ⟨rfl, rfl⟩
              case rest =>
                obtain ⟨rfl, hcw⟩ := hcut
                replace hcw := hcw.symm
                subst hcw
                obtain ⟨x, hx⟩ : ∃ x, x = s.extract f i := ⟨_, rfl⟩
                have Hx := Lib.hid hx
                have Hp := Lib.hid hp
                clear hx hp
                go_upto_region 12 with fail
                rw [← Hx.out]
                go_cut [51] (fun v wc => v = .bool (Q.badW x.data.toList) ∧ wc = wr)
                case first =>
                  rcases Nat.eq_zero_or_pos x.size with h0 | h0
                  · have hl : x.toList = [] := by rw [Lib.toList_data]; exact List.length_eq_zero_iff.1 (by rw [← Lib.size_eq]; exact h0)
                    have hlb : (x.toList == []) = true := by rw [hl]; rfl
                    have Hbw := Lib.hid (show Q.badW x.data.toList = true by rw [← Lib.toList_data, hl]; rfl)
                    clear h0
                    go_wp2_with fail
                    go_meet
                    case rel => exact ⟨by rw [Hbw.out], rfl⟩
                  · have hl : ¬ x.toList = [] := by rw [Lib.toList_data]; intro q; rw [Lib.size_eq, q] at h0; simp at h0
                    have hlb : (x.toList == []) = false := by simpa using hl
                    have Hbw := Lib.hid (badW_byte h0)
                    have h0I : (0 : Int) < (x.size : Nat) := by omega
                    by_cases h48 : 48 ≤ x[0].toNat
                    · have h48I : (48 : Int) ≤ (x[0].toNat : Nat) := by omega
                      have h57 : decide (((x[0].toNat : Nat) : Int) ≤ 57) = decide (x[0].toNat ≤ 57) := by rw [Bool.eq_iff_iff]; simp; omega
                      have Hd := Lib.hid (show Q.digB x[0] = decide (x[0].toNat ≤ 57) by unfold Q.digB; simp [h48])
                      go_wp2_with fail
                      go_meet
                      case rel => exact ⟨by rw [Hbw.out, Hd.out], rfl⟩
                    · have h48I : ¬ (48 : Int) ≤ (x[0].toNat : Nat) := by omega
                      have Hd := Lib.hid (show Q.digB x[0] = false by unfold Q.digB; simp [h48])
                      go_wp2_with fail
                      go_meet
                      case rel => exact ⟨by rw [Hbw.out, Hd.out], rfl⟩
                case rest =>
                  obtain ⟨rfl, hcw⟩ := hcut
                  replace hcw := hcw.symm
                  subst hcw
                  cases hbw : Q.badW x.data.toList with
                  | true =>
                    have Hno := Lib.hid (WdPost.no HK.out (show Q.behind s.data.toList = none from Hne.out.trans (HW.out.trans (by rw [wd_bad Hst.out (by rw [← Hx.out]; exact hbw)]; rfl))))
                    clear hbw
                    go_wp2_with fail
                    show bodyPost Tryz.prog Tryz.f28 (WdPost w s) .ret _ _
                    refine bodyPost_ret (v := .tuple #[.slice none 0 0, .bool false]) (by simp [results, Tryz.results28, go_sem]) rfl ?_
                    exact Hno.out
                  | false =>
                    have Hbw := Lib.hid (show Q.badW (s.extract f i).data.toList = false by rw [← Hx.out]; exact hbw)
                    clear hbw
                    have Hzs := Lib.hid (show strV (ws ++ [x]) = strV ws ++ [.string x] by simp)
                    have HK5 := Lib.hid (fun (ao2 : Option Addr) (cap2 : Nat) (w2 : World) (ha : Appd (wr.alloc (.cells #[.string x] 9)) w2 w.heap.size 9 1 ao cap 1 (n + 1) (strV (ws ++ [x])) ao2 cap2) => (show Kp w w2 from kp_own HK.out (Kp.new wr (.cells #[.string x] 9)) (Nat.le_refl _) HO.out ha))
                    have HNx := Lib.hid (show (i + 1 ≤ s.size ∧ Q.wd [] s.data.toList = (Q.wd (s.extract (i + 1) (i + 1)).data.toList (s.data.toList.drop (i + 1))).map (wl (ws ++ [x]) ++ ·)) ∨ (i + 1 = s.size + 1 ∧ Q.wd [] s.data.toList = some (wl (ws ++ [x]))) by
                      rcases Hst.out with hz | ⟨hi1, hlo⟩
                      · refine .inr ⟨by omega, HW.out.trans ?_⟩
                        have q := Hbw.out
                        rw [Hx.out, wl_snoc]
                        subst hz
                        rw [wd_end q]; rfl
                      · have h43 : s[i] = 43 := Decidable.byContradiction (fun q => Hp.out ⟨hi1, q⟩)
                        refine .inl ⟨by omega, HW.out.trans ?_⟩
                        rw [wd_plus hi1 hlo Hbw.out h43, map_app, Hx.out, wl_snoc, ext_nil])
                    go_wp2_with (at_builtin; refine wpList_app rfl (.tmp 52) (.tmp 54) 39 rfl el100 w.heap.size rfl (HO.out.keep (Kp.new _ _)) rfl [.string x] rfl (Cs.new wr [.string x] 9 (0, 0)) (by simp [Value.oneCell']) (n + 1) rfl (strV (ws ++ [x])) Hzs.out (by omega) (Nat.le_trans HK.out.size (by simp)) ?_; intro ao2 cap2 w2 ha)
                    have hk5 := HK5.out _ _ _ ha
                    have hO5 := ha.own
                    clear ha
                    go_wp2_with fail
                    go_roundw
                    case rel =>
                      refine ⟨i + 1, i + 1, ws ++ [x], ao2, n + 1, cap2, rfl, by go_num, by go_num, by omega, hk5, hO5, ?_⟩
                      rcases HNx.out with ⟨q1, q2⟩ | q
                      · exact .inl ⟨Nat.le_refl _, q1, q2⟩
                      · exact .inr q
                    case measure => simp [intOf]; omega
end Go.Proofs.YtbdphdgomcabmaaGreatDoor

namespace Go.Proofs.YtbdphdgomcabmaaGreatDoor
open Go.RowKit

def FullPost (w : World) (s : ByteArray) (e : Ending) (w' : World) : Prop := w = w' ∧ match Q.fullN s.data.toList with
  | none => e = .returned (.tuple #[.string ⟨#[]⟩, .bool false])
  | some l => ∃ f : ByteArray, e = .returned (.tuple #[.string f, .bool true]) ∧ f.data.toList = l
theorem FullPost.no {w : World} {s : ByteArray} (h : Q.fullN s.data.toList = none) : FullPost w s (.returned (.tuple #[.string ⟨#[]⟩, .bool false])) w := ⟨rfl, by rw [h]⟩
theorem FullPost.yes {w : World} {s f : ByteArray} (h : Q.fullN s.data.toList = some f.data.toList) : FullPost w s (.returned (.tuple #[.string f, .bool true])) w := ⟨rfl, by rw [h]; exact ⟨f, rfl, rfl⟩⟩
set_option maxRecDepth 100000 in
set_option maxHeartbeats 4000000 in
theorem fullN_any (w : World) (s : ByteArray) (hsz : s.size ≤ 9223372036854775807) : Calls Tryz.prog 25 #[.string s] w (FullPost w s) := by
  have Hsz := Lib.hid (Lib.size_eq s)
  by_cases h1 : 255 < s.size
  · have h1I : (255 : Int) < (s.size : Nat) := by omega
    have H := Lib.hid (FullPost.no (w := w) (s := s) (by unfold Q.fullN; rw [if_pos (.inl (by rw [← Hsz.out]; exact h1))]))
    go_enter Tryz.func25, Tryz.ntmps25
    go_wp2_with fail
    show bodyPost Tryz.prog Tryz.f25 (FullPost w s) .ret _ _
    refine bodyPost_ret (v := .tuple #[.string ⟨#[]⟩, .bool false]) (by simp [results, Tryz.results25, go_sem]) rfl ?_
    exact H.out
  · have h1I : ¬ (255 : Int) < (s.size : Nat) := by omega
    by_cases h2 : s.size < 31
    · have h2I : ((s.size : Nat) : Int) < 31 := by omega
      have H := Lib.hid (FullPost.no (w := w) (s := s) (by unfold Q.fullN; rw [if_pos (.inr (.inl (by rw [← Hsz.out]; exact h2)))]))
      go_enter Tryz.func25, Tryz.ntmps25
      go_wp2_with fail
      show bodyPost Tryz.prog Tryz.f25 (FullPost w s) .ret _ _
      refine bodyPost_ret (v := .tuple #[.string ⟨#[]⟩, .bool false]) (by simp [results, Tryz.results25, go_sem]) rfl ?_
      exact H.out
    · have h2I : ¬ ((s.size : Nat) : Int) < 31 := by omega
      have h6 : 6 ≤ s.size := by omega
      have hm : ((s.size : Nat) : Int) - 25 = ((s.size - 25 : Nat) : Int) := by omega
      have hm2 : s.size - 25 ≤ s.size := by omega
      have hm3 : 6 ≤ s.size - 25 := by omega
      by_cases h3 : (s.extract 0 6).toList = [78, 111, 105, 115, 101, 95]
      · have h3b : ((s.extract 0 6).toList == [78, 111, 105, 115, 101, 95]) = true := by rw [h3]; rfl
        by_cases h4 : (s.extract (s.size - 25) s.size).toList = [95, 50, 53, 53, 49, 57, 95, 67, 104, 97, 67, 104, 97, 80, 111, 108, 121, 95, 66, 76, 65, 75, 69, 50, 115]
        · have h4b : ((s.extract (s.size - 25) s.size).toList == [95, 50, 53, 53, 49, 57, 95, 67, 104, 97, 67, 104, 97, 80, 111, 108, 121, 95, 66, 76, 65, 75, 69, 50, 115]) = true := by rw [h4]; rfl
          have H := Lib.hid (FullPost.yes (w := w) (s := s) (by
            unfold Q.fullN
            have e3 : s.data.toList.take 6 = Q.headN := by rw [Lib.toList_data, ext_list] at h3; simpa [Q.headN] using h3
            have e4 : s.data.toList.drop (s.data.toList.length - 25) = Q.tailN := by rw [Lib.toList_data, ext_list, List.take_of_length_le (by rw [List.length_drop, ← Hsz.out]; omega)] at h4; rw [← Hsz.out]; exact h4
            rw [if_neg (by rintro (q | q | q | q); rw [← Hsz.out] at q; omega; rw [← Hsz.out] at q; omega; exact q e3; exact q e4), ext_list, ← Hsz.out]
            rw [show s.size - 25 - 6 = s.size - 31 by omega]))
          clear h3 h4 h1 h2
          go_enter Tryz.func25, Tryz.ntmps25
          go_wp2_with fail
          show bodyPost Tryz.prog Tryz.f25 (FullPost w s) .ret _ _
          refine bodyPost_ret (v := .tuple #[.string (s.extract 6 (s.size - 25)), .bool true]) (by simp [results, Tryz.results25, go_sem]) rfl ?_
          exact H.out
        · have h4b : ((s.extract (s.size - 25) s.size).toList == [95, 50, 53, 53, 49, 57, 95, 67, 104, 97, 67, 104, 97, 80, 111, 108, 121, 95, 66, 76, 65, 75, 69, 50, 115]) = false := by simpa using h4
          have H := Lib.hid (FullPost.no (w := w) (s := s) (by unfold Q.fullN; rw [if_pos (.inr (.inr (.inr (fun q => h4 (by rw [Lib.toList_data, ext_list, List.take_of_length_le (by rw [List.length_drop, ← Hsz.out]; omega)]; rw [← Hsz.out] at q; exact q)))))]))
          clear h3 h1 h2
          go_enter Tryz.func25, Tryz.ntmps25
          go_wp2_with fail
          show bodyPost Tryz.prog Tryz.f25 (FullPost w s) .ret _ _
          refine bodyPost_ret (v := .tuple #[.string ⟨#[]⟩, .bool false]) (by simp [results, Tryz.results25, go_sem]) rfl ?_
          exact H.out
      · have h3b : ((s.extract 0 6).toList == [78, 111, 105, 115, 101, 95]) = false := by simpa using h3
        have H := Lib.hid (FullPost.no (w := w) (s := s) (by unfold Q.fullN; rw [if_pos (.inr (.inr (.inl (fun q => h3 (by rw [Lib.toList_data, ext_list]; simpa [Q.headN] using q)))))]))
        clear h1 h2
        go_enter Tryz.func25, Tryz.ntmps25
        go_wp2_with fail
        show bodyPost Tryz.prog Tryz.f25 (FullPost w s) .ret _ _
        refine bodyPost_ret (v := .tuple #[.string ⟨#[]⟩, .bool false]) (by simp [results, Tryz.results25, go_sem]) rfl ?_
        exact H.out
end Go.Proofs.YtbdphdgomcabmaaGreatDoor

namespace Go.Proofs.YtbdphdgomcabmaaGreatDoor
open Go.RowKit

theorem wd_count : ∀ (s cur : Q.Bt) (ws : List Q.Bt), Q.wd cur s = some ws → 2 * ws.length ≤ cur.length + s.length + 1 ∧ ∀ x ∈ ws, x.length ≤ cur.length + s.length
  | [], cur, ws, h => by
    unfold Q.wd at h
    split at h
    · cases h
    · rename_i hb
      cases h
      refine ⟨?_, fun x hx => ?_⟩
      · cases cur with
        | nil => exact absurd rfl hb
        | cons c t => simp
      · simp at hx; subst hx; simp
  | c :: t, cur, ws, h => by
    unfold Q.wd at h
    split at h
    · obtain ⟨h1, h2⟩ := wd_count t _ ws h
      simp only [List.length_append, List.length_cons, List.length_nil] at h1 h2 ⊢
      exact ⟨by omega, fun x hx => by have := h2 x hx; omega⟩
    · split at h
      · cases h
      · rename_i hb
        split at h
        · cases hq : Q.wd [] t with
          | none => rw [hq] at h; cases h
          | some ws' =>
            rw [hq] at h
            simp only [Option.map_some, Option.some.injEq] at h
            subst h
            obtain ⟨h1, h2⟩ := wd_count t _ ws' hq
            have hc : 1 ≤ cur.length := by
              cases cur with
              | nil => exact absurd rfl hb
              | cons c t => simp
            simp only [List.length_nil, List.length_cons] at h1 h2 ⊢
            refine ⟨by omega, fun x hx => ?_⟩
            rcases List.mem_cons.1 hx with rfl | hx
            · omega
            · have := h2 x hx; omega
        · cases h
theorem behind_count {s : Q.Bt} {ws : List Q.Bt} (h : Q.behind s = some ws) : 2 * ws.length ≤ s.length + 1 ∧ ∀ x ∈ ws, x.length ≤ s.length := by
  cases s with
  | nil => cases h; simp
  | cons c t =>
    have := wd_count (c :: t) [] ws h
    simpa using this
theorem tbl_small : (Q.tableL.all fun y => decide (y.2.2.1.length ≤ 10) && y.2.2.1.all (fun l => decide (l.2.length ≤ 10)) && decide (y.1.length ≤ 10) && decide (y.2.1.1.length ≤ 10) && decide (y.2.1.2.length ≤ 10) && decide (checkL y.2.1.1 y.2.1.2 y.2.2.1 = 0) && y.1.all Q.upB) = true := by kernel_rfl
structure RowS (y : Row) : Prop where
  ls : y.2.2.1.length ≤ 10
  ts : ∀ l ∈ y.2.2.1, l.2.length ≤ 10
  nm : y.1.length ≤ 10
  b0 : y.2.1.1.length ≤ 10
  b1 : y.2.1.2.length ≤ 10
  ck : checkL y.2.1.1 y.2.1.2 y.2.2.1 = 0
  up : y.1.all Q.upB = true
theorem row_s {x : Q.Bt} {y : Row} (h : rowOf x = some y) : RowS y ∧ y.1 = x := by
  have h1 := List.all_eq_true.1 tbl_small y (List.mem_of_find?_eq_some h)
  simp only [Bool.and_eq_true, decide_eq_true_eq] at h1
  obtain ⟨⟨⟨⟨⟨⟨a, b⟩, c⟩, d⟩, e⟩, f⟩, g⟩ := h1
  exact ⟨⟨a, fun l hl => by have := List.all_eq_true.1 b l hl; simpa using this, c, d, e, f, g⟩, by have := List.find?_some h; simpa using this⟩
/-- The pattern of a protocol's name: its parts, and is there one? -/
def nmD (x : Q.Bt) : ByteArray × List Int × List Int × List Ln × Bool := match Q.parseN x with
  | none => (⟨#[]⟩, [], [], [], false)
  | some q => (bs q.nm, q.b0, q.b1, q.ls, true)
def errN (E : Nat → Addr) (b : Bool) : Value := if b then .nilIface else .iface 197 (.pointer (some (E 13)))
/-- What Parse answers, 'v' what it says of a mistake. -/
def NmPost (w : World) (v : Bool → Value) (x : ByteArray × List Int × List Int × List Ln × Bool) (e : Ending) (w' : World) : Prop := Kp w w' ∧ ∃ t0 t1 tl : Tv,
  e = .returned (.tuple #[.agg #[.string x.1, tvv t0, tvv t1, tvv tl], v x.2.2.2.2]) ∧ PatI w' t0.ao t1.ao tl.ao t0.n t1.n tl.n x.2.1 x.2.2.1 x.2.2.2.1
theorem NmPost.no {w w' : World} {v : Bool → Value} {u : Value} {x : Q.Bt} (hk : Kp w w') (h : Q.parseN x = none) (hu : v false = u) : NmPost w v (nmD x) (.returned (.tuple #[zeroP, u])) w' := by
  refine ⟨hk, nilT, nilT, nilT, ?_, ?_⟩
  · unfold nmD; rw [h, ← hu]; rfl
  · unfold nmD; rw [h]; exact PatI.none w'
theorem NmPost.yes {w w' : World} {v : Bool → Value} {u : Value} {x : Q.Bt} {q : Q.Pn} {t0 t1 tl : Tv} {nm : ByteArray} (hk : Kp w w') (h : Q.parseN x = some q) (hu : v true = u) (hn : nm = bs q.nm) (hP : PatI w' t0.ao t1.ao tl.ao t0.n t1.n tl.n q.b0 q.b1 q.ls) :
    NmPost w v (nmD x) (.returned (.tuple #[.agg #[.string nm, .slice t0.ao t0.n t0.c, .slice t1.ao t1.n t1.c, .slice tl.ao tl.n tl.c], u])) w' := by
  refine ⟨hk, t0, t1, tl, ?_, ?_⟩
  · unfold nmD; rw [h, ← hu, hn]; rfl
  · unfold nmD; rw [h]; exact hP
theorem parse_none {x : Q.Bt} (h : Q.fullN x = none) : Q.parseN x = none := by unfold Q.parseN; rw [h]; rfl
theorem parse_row {x f : Q.Bt} (h : Q.fullN x = some f) (hr : rowOf (f.takeWhile Q.upB) = none) : Q.parseN x = none := by
  unfold Q.parseN Q.patN
  rw [h]
  show (match Q.tableL.find? (fun y => y.1 == f.takeWhile Q.upB) with | none => none | some y => _) = none
  rw [show Q.tableL.find? (fun y => y.1 == f.takeWhile Q.upB) = none from hr]
theorem parse_words {x f : Q.Bt} {y : Row} (h : Q.fullN x = some f) (hr : rowOf (f.takeWhile Q.upB) = some y) : Q.parseN x = match Q.behind (f.dropWhile Q.upB) with
    | none => none
    | some [] => some ⟨y.1, y.2.1.1, y.2.1.2, y.2.2.1⟩
    | some (w :: ws) => (Q.modR ⟨y.1, y.2.1.1, y.2.1.2, y.2.2.1⟩ (w :: ws)).1 := by
  unfold Q.parseN Q.patN
  rw [h]
  show (match Q.tableL.find? (fun y => y.1 == f.takeWhile Q.upB) with | none => none | some y => _) = _
  rw [show Q.tableL.find? (fun y => y.1 == f.takeWhile Q.upB) = some y from hr]
  cases Q.behind (f.dropWhile Q.upB) with
  | none => rfl
  | some l => cases l <;> rfl
theorem parse_no_words {x f : Q.Bt} (h : Q.fullN x = some f) (hb : Q.behind (f.dropWhile Q.upB) = none) : Q.parseN x = none := by
  cases hr : rowOf (f.takeWhile Q.upB) with
  | none => exact parse_row h hr
  | some y => rw [parse_words h hr, hb]
/-- Modify's answer, as Parse uses it. -/
theorem modR_mdf {p : Q.Pn} {ws : List Q.Bt} : (∃ q, (Q.modR p ws).1 = some q ∧ mdf p ws = (bs q.nm, q.b0, q.b1, q.ls, 0)) ∨ ((Q.modR p ws).1 = none ∧ (mdf p ws).2.2.2.2 ≠ 0) := by
  have hc := modR_code p ws
  unfold mdf
  cases h : Q.modR p ws with
  | mk q c =>
    rw [h] at hc
    cases q with
    | none => exact .inr ⟨rfl, hc.1⟩
    | some q => exact .inl ⟨q, rfl, rfl⟩
theorem fnd_none {x : Q.Bt} (h : rowOf x = none) : fnd x = (⟨#[]⟩, [], [], [], false) := by unfold fnd; rw [h]
theorem fnd_some {x : Q.Bt} {y : Row} (h : rowOf x = some y) : fnd x = (bs y.1, y.2.1.1, y.2.1.2, y.2.2.1, true) := by unfold fnd; rw [h]
end Go.Proofs.YtbdphdgomcabmaaGreatDoor

namespace Go.Proofs.YtbdphdgomcabmaaGreatDoor
open Go.RowKit

def RFindX (w : World) (X : List Nat) (nm : Q.Bt) (e : Ending) (w' : World) : Prop := Kp w w' ∧ match rowOf nm with
  | none => e = .returned (.tuple #[zeroP, .bool false])
  | some y => ∃ t0 t1 tl : Tv, e = .returned (.tuple #[.agg #[.string (bs y.1), tvv t0, tvv t1, tvv tl], .bool true]) ∧ ∀ w'', Fr X w' w'' → PatI w'' t0.ao t1.ao tl.ao t0.n t1.n tl.n y.2.1.1 y.2.1.2 y.2.2.1
theorem RFindX.no {w w' : World} {X : List Nat} {nm : Q.Bt} (hk : Kp w w') (h : rowOf nm = none) : RFindX w X nm (.returned (.tuple #[zeroP, .bool false])) w' := ⟨hk, by rw [h]⟩
theorem RFindX.yes {w w' : World} {X : List Nat} {nm : Q.Bt} {y : Row} {t0 t1 tl : Tv} (hk : Kp w w') (h : rowOf nm = some y) (hp : ∀ w'', Fr X w' w'' → PatI w'' t0.ao t1.ao tl.ao t0.n t1.n tl.n y.2.1.1 y.2.1.2 y.2.2.1) :
    RFindX w X nm (.returned (.tuple #[.agg #[.string (bs y.1), tvv t0, tvv t1, tvv tl], .bool true])) w' := ⟨hk, by rw [h]; exact ⟨t0, t1, tl, rfl, hp⟩⟩
attribute [local irreducible] tblK tblP tblQ Q.piecesB Q.tableB Q.tableL rowOf rowsL
set_option maxRecDepth 100000 in
set_option maxHeartbeats 4000000 in
theorem rfind_x (w : World) (X : List Nat) (hX : ∀ j ∈ X, j < w.heap.size) (s : ByteArray) : Calls Tryz.prog 27 #[.string s] w (RFindX w X s.data.toList) := by
  have Ha := Lib.hid (all_any (w.alloc (.cells #[.string ⟨#[]⟩, .slice none 0 0, .slice none 0 0, .slice none 0 0] 26)) (w.heap.size :: X) (by intro j hj; rcases List.mem_cons.1 hj with rfl | hj; simp; have := hX j hj; simp; omega))
  have hF4 := Four.new w (.string ⟨#[]⟩) (.slice none 0 0) (.slice none 0 0) (.slice none 0 0) 26
  have HF4 := Lib.hid hF4
  have hk0 := Kp.new w (.cells #[.string ⟨#[]⟩, .slice none 0 0, .slice none 0 0, .slice none 0 0] 26)
  have Hk0 := Lib.hid hk0
  clear hF4 hk0
  go_enter Tryz.func27, Tryz.ntmps27
  go_wp2_with fail
  (with_reducible refine Ha.out.mono ?_)
  rintro e w1 ⟨hk1, ao, n, cap, rfl, hn, ps, hpl, hown, hps⟩
  subst hn
  have HF := Lib.hid (HF4.out.kp hk1)
  have HK := Lib.hid (Kp.trans Hk0.out hk1)
  have hcs := hown.cs
  obtain ⟨b, off, rfl, hc⟩ := hcs.at 0 (by rw [pvc_len]; omega)
  have hcell : ∀ j (h : j < ps.length), w1.cell? ⟨b, off + j * 4, none⟩ = some (.string ps[j].nm) ∧ w1.cell? ⟨b, off + j * 4 + 1, none⟩ = some (tvv ps[j].b0) ∧ w1.cell? ⟨b, off + j * 4 + 2, none⟩ = some (tvv ps[j].b1) ∧ w1.cell? ⟨b, off + j * 4 + 3, none⟩ = some (tvv ps[j].ls) := fun j h => by
    obtain ⟨g0, g1, g2, g3⟩ := pvc_get ps j h
    refine ⟨hc _ _ g0, ?_, ?_, ?_⟩
    · have := hc _ _ g1; rwa [← Nat.add_assoc] at this
    · have := hc _ _ g2; rwa [← Nat.add_assoc] at this
    · have := hc _ _ g3; rwa [← Nat.add_assoc] at this
  have Hps := Lib.hid hps
  have Hcell := Lib.hid hcell
  clear hps hcell hc hcs hown Ha hk1 HF4 Hk0
  go_wp2_with fail
  go_loopw [5] (fun i wr => ∃ k : Nat, k ≤ 38 ∧ i = .int .i64 (k : Nat) ∧ w1 = wr ∧ ∀ (j : Nat) (r : ByteArray), j < k → rowsL[j]? = some r → (partL r 0).data.toList ≠ s.data.toList) (fun i _ => 38 - (intOf i).toNat)
  case atStart => exact ⟨0, by omega, rfl, rfl, fun j r hj => by omega⟩
  case round =>
    obtain ⟨k, hk, rfl, rfl, hno⟩ := hrel
    have Hno := Lib.hid hno
    clear hno
    by_cases hlt : k < 38
    · have hkl : k < ps.length := by omega
      obtain ⟨g0, g1, g2, g3⟩ := Hcell.out k hkl
      obtain ⟨r, hr⟩ : ∃ r, rowsL[k]? = some r := ⟨_, List.getElem?_eq_getElem (by rw [rowsL_length]; omega)⟩
      have hnm := (Hps.out k hkl r hr).1
      by_cases heq : (partL r 0).data.toList = s.data.toList
      · obtain ⟨y, hy1, hy2, hy3, hy4, hy5⟩ := ref_at hr
        have hfin : ∀ w', Fr (w.heap.size :: X) w1 w' → PatI w' (ps[k]'hkl).b0.ao (ps[k]'hkl).b1.ao (ps[k]'hkl).ls.ao (ps[k]'hkl).b0.n (ps[k]'hkl).b1.n (ps[k]'hkl).ls.n y.2.1.1 y.2.1.2 y.2.2.1 := fun w' hk => by
          obtain ⟨_, _, _, q1, q2, q3⟩ := (Hps.out k hkl r hr).2 w' (hk.mono (fun j hj => List.mem_append.2 (.inr hj)))
          rw [hy3, hy4, hy5]
          exact ⟨q1, q2, q3⟩
        have Hfin := Lib.hid hfin
        have hnmy : (ps[k]'hkl).nm = bs y.1 := by rw [hnm, hy2]; exact (bs_data _).symm
        have Hrow := Lib.hid (show rowOf s.data.toList = some y by rw [← heq]; exact hy1)
        have Hb := Lib.hid (show ((bs y.1).toList == s.toList) = true by rw [Lib.toList_data, Lib.toList_data, bs_list, hy2, heq, beq_self_eq_true])
        rw [hnmy] at g0
        generalize ps[k]'hkl = p at g1 g2 g3 Hfin
        obtain ⟨nm, ⟨t0, m0, c0⟩, ⟨t1, m1, c1⟩, ⟨tl, nl, cl⟩⟩ := p
        unfold tvv at g1 g2 g3
        simp only at g1 g2 g3 Hfin
        obtain ⟨wf, hwf, hF, hPf⟩ := HF.out.set (.string (bs y.1)) (.slice t0 m0 c0) (.slice t1 m1 c1) (.slice tl nl cl)
        have hpost : RFindX w X s.data.toList (.returned (.tuple #[.agg #[.string (bs y.1), .slice t0 m0 c0, .slice t1 m1 c1, .slice tl nl cl], .bool true])) wf :=
          RFindX.yes (t0 := ⟨t0, m0, c0⟩) (t1 := ⟨t1, m1, c1⟩) (tl := ⟨tl, nl, cl⟩) (((Fr.of_kp HK.out).step hF (fun i hi => .inr (by simp at hi; omega))).kp) Hrow.out (fun w'' hf => Hfin.out w'' ((hF.mono (by simp)).trans (hf.mono (fun j hj => List.mem_cons_of_mem _ hj))))
        have Hpost := Lib.hid hpost
        have Hwf := Lib.hid hwf
        obtain ⟨s0, s1, s2, s3, f0, f1, f2, f3⟩ := HF.out
        obtain ⟨c0', c1', c2', c3', _, _, _, _⟩ := hPf
        have hb := Hb.out
        clear hfin hpost hwf hF hr hnm heq hnmy hy1 hy2 hy3 hy4 hy5
        go_wp2_with fail
        rw [← Hwf.out]
        refine bodyPost_ret (v := .tuple #[.agg #[.string (bs y.1), .slice t0 m0 c0, .slice t1 m1 c1, .slice tl nl cl], .bool true]) (by simp [results, Tryz.results27, go_sem, c0', c1', c2', c3']) rfl Hpost.out
      · have hb : ((partL r 0).toList == s.toList) = false := by rw [Lib.toList_data, Lib.toList_data, beq_eq_false_iff_ne]; exact heq
        rw [← hnm] at hb
        have Hnext := Lib.hid (show ∀ (j : Nat) (r : ByteArray), j < k + 1 → rowsL[j]? = some r → (partL r 0).data.toList ≠ s.data.toList from fun j r' hj hr' => by
          rcases Nat.lt_or_ge j k with q | q
          · exact Hno.out j r' q hr'
          · obtain rfl : j = k := by omega
            rw [hr] at hr'
            cases hr'
            exact heq)
        generalize ps[k]'hkl = p at g0 g1 g2 g3 hb
        clear hr hnm g1 g2 g3 heq
        go_wp2_with fail
        go_roundw
        case rel => exact ⟨k + 1, by omega, by go_num, trivial, Hnext.out⟩
        case measure => simp [intOf]; omega
    · obtain rfl : k = 38 := by omega
      have hno : rowOf s.data.toList = none := ref_none (fun k r hr => Hno.out k r (by
        have := (List.getElem?_eq_some_iff.1 hr).1
        rw [rowsL_length] at this
        exact this) hr)
      obtain ⟨wf, hwf, hF, hPf⟩ := HF.out.set (.string ⟨#[]⟩) (.slice none 0 0) (.slice none 0 0) (.slice none 0 0)
      have Hpost := Lib.hid (RFindX.no (X := X) (((Fr.of_kp HK.out).step hF (fun i hi => .inr (by simp at hi; omega))).kp) hno)
      have Hwf := Lib.hid hwf
      obtain ⟨s0, s1, s2, s3, f0, f1, f2, f3⟩ := HF.out
      obtain ⟨c0', c1', c2', c3', _, _, _, _⟩ := hPf
      clear hno hwf hF
      go_wp2_with fail
      rw [← Hwf.out]
      refine bodyPost_ret (v := .tuple #[zeroP, .bool false]) (by simp [results, Tryz.results27, go_sem, c0', c1', c2', c3']) rfl Hpost.out

/-- The same, by what is found. -/
theorem rfind_st (w : World) (X : List Nat) (hX : ∀ j ∈ X, j < w.heap.size) (s : ByteArray) : Calls Tryz.prog 27 #[.string s] w fun e w' => Kp w w' ∧ ∃ t0 t1 tl : Tv,
    e = .returned (.tuple #[.agg #[.string (fnd s.data.toList).1, tvv t0, tvv t1, tvv tl], .bool (fnd s.data.toList).2.2.2.2]) ∧ ∀ w'', Fr X w' w'' → PatI w'' t0.ao t1.ao tl.ao t0.n t1.n tl.n (fnd s.data.toList).2.1 (fnd s.data.toList).2.2.1 (fnd s.data.toList).2.2.2.1 := by
  refine (rfind_x w X hX s).mono ?_
  rintro e w' ⟨hk, h⟩
  refine ⟨hk, ?_⟩
  cases hq : rowOf s.data.toList with
  | none =>
    rw [hq] at h
    rw [fnd_none hq]
    exact ⟨nilT, nilT, nilT, h, fun w'' _ => PatI.none w''⟩
  | some y =>
    rw [hq] at h
    rw [fnd_some hq]
    exact h
theorem find_st (w : World) (E : Nat → Addr) (m : Int) (hE : Env w E m) (s : ByteArray) (hs : s.size ≤ maxLen) : Calls Tryz.prog 16 #[.string s] w fun e w' => Kp w w' ∧ ∃ t0 t1 tl : Tv,
    e = .returned (.tuple #[.agg #[.string (fnd s.data.toList).1, tvv t0, tvv t1, tvv tl], .bool (fnd s.data.toList).2.2.2.2]) ∧ ∀ X w'', Fr X w' w'' → (∀ x ∈ X, x < w.heap.size) → PatI w'' t0.ao t1.ao tl.ao t0.n t1.n tl.n (fnd s.data.toList).2.1 (fnd s.data.toList).2.2.1 (fnd s.data.toList).2.2.2.1 := by
  refine (find_any s m E (E 8) w hs hE.mx hE.errs hE.c5).mono ?_
  rintro e w' ⟨hk, h⟩
  refine ⟨hk, ?_⟩
  cases hq : rowOf s.data.toList with
  | none =>
    rw [hq] at h
    rw [fnd_none hq]
    exact ⟨nilT, nilT, nilT, h, fun X w'' _ _ => PatI.none w''⟩
  | some y =>
    rw [hq] at h
    rw [fnd_some hq]
    obtain ⟨t0, t1, tl, ts, he, hP⟩ := h
    have hs := row_small hq
    exact ⟨t0, t1, tl, he, fun X w'' hf hX => (hP.fr hf (fun x hx => .inl (hX x hx))).patI hs.1 hs.2⟩
theorem rmod_st (w : World) (nm : ByteArray) (a0 a1 al : Option Addr) (n0 c0 n1 c1 nl cl : Nat) (b0 b1 : List Int) (ls : List Ln) (hP : PatI w a0 a1 al n0 n1 nl b0 b1 ls) (hs : ShortP nm n0 n1 nl ls)
    (ao : Option Addr) (nw cw : Nat) (ss : List ByteArray) (hW : Strs w ao nw ss) (hz : ∀ s ∈ ss, s.size ≤ 281474976710656) (hn : nw ≤ 200) :
    Calls Tryz.prog 29 #[patV nm a0 a1 al n0 c0 n1 c1 nl cl, .slice ao nw cw] w fun e w' => Kp w w' ∧ ∃ t0 t1 tl : Tv,
      e = .returned (.tuple #[.agg #[.string (mdf ⟨nm.data.toList, b0, b1, ls⟩ (wb ss)).1, tvv t0, tvv t1, tvv tl], iv (((mdf ⟨nm.data.toList, b0, b1, ls⟩ (wb ss)).2.2.2.2 : Nat) : Int)]) ∧
      ∀ X w'', Fr X w' w'' → (∀ x ∈ X, x < w.heap.size) → PatI w'' t0.ao t1.ao tl.ao t0.n t1.n tl.n (mdf ⟨nm.data.toList, b0, b1, ls⟩ (wb ss)).2.1 (mdf ⟨nm.data.toList, b0, b1, ls⟩ (wb ss)).2.2.1 (mdf ⟨nm.data.toList, b0, b1, ls⟩ (wb ss)).2.2.2.1 := by
  refine (rmodify_any w nm a0 a1 al n0 c0 n1 c1 nl cl b0 b1 ls hP hs ao nw cw ss hW hz hn).mono ?_
  rintro e w' ⟨hk, h⟩
  refine ⟨hk, ?_⟩
  have hc := modR_code ⟨nm.data.toList, b0, b1, ls⟩ (wb ss)
  unfold mdf
  generalize Q.modR ⟨nm.data.toList, b0, b1, ls⟩ (wb ss) = x at h hc
  obtain ⟨q, c⟩ := x
  cases q with
  | none => exact ⟨nilT, nilT, nilT, by rw [h]; rfl, fun _ w'' _ _ => PatI.none w''⟩
  | some q =>
    obtain ⟨t0, t1, tf, td, ts, D, he, hd, h1, hl, hS⟩ := h
    exact ⟨t0, t1, subT tf D.length, by rw [he]; rfl, fun X w'' hF hX => ((DrS.mk hd h1 hl hS).fr hF (fun x hx => .inl (hX x hx))).pat (by have := hc.1; omega) (fun l hl => by have := hc.2 l hl; omega)⟩
end Go.Proofs.YtbdphdgomcabmaaGreatDoor
