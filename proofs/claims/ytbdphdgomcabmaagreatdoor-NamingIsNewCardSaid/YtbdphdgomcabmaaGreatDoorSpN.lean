/- A full name split by the program. Conditions: the text's length fits. -/
import Derived.Test.YtbdphdgomcabmaaGreatDoorNi3
import Derived.Test.YtbdphdgomcabmaaGreatDoorNi1
import Derived.Test.YtbdphdgomcabmaaGreatDoorNi7
import Derived.Scope
import Derived.WalkMore
namespace Go.Proofs.YtbdphdgomcabmaaGreatDoor
open Go.RowKit

theorem drop_byte {s : ByteArray} {k : Nat} (h : k < s.size) : s.data.toList.drop k = s[k] :: s.data.toList.drop (k + 1) := by
  have h' : k < s.data.toList.length := by simpa using h
  rw [List.drop_eq_getElem_cons h']
  rfl
theorem ext_list (s : ByteArray) (f k : Nat) : (s.extract f k).data.toList = (s.data.toList.drop f).take (k - f) := by
  simp [ByteArray.data_extract, Array.toList_extract, List.extract]
theorem ext_snoc {s : ByteArray} {f k : Nat} (hf : f ≤ k) (h : k < s.size) : (s.extract f (k + 1)).data.toList = (s.extract f k).data.toList ++ [s[k]] := by
  have h' : k < s.data.toList.length := by simpa using h
  rw [ext_list, ext_list, show k + 1 - f = (k - f) + 1 by omega, List.take_add_one, List.getElem?_drop, show f + (k - f) = k by omega, List.getElem?_eq_getElem h']
  rfl
theorem ext_nil (s : ByteArray) (f : Nat) : (s.extract f f).data.toList = [] := by rw [ext_list]; simp
/-- Words, as texts. -/
abbrev strV (ws : List ByteArray) : List Value := ws.map Value.string
def wl (ws : List ByteArray) : List Q.Bt := ws.map (fun x => x.data.toList)
/-- Ahead of a capital. -/
structure CapI (s : ByteArray) (i : Nat) : Prop where
  le : i ≤ s.size
  up : s.data.toList.takeWhile Q.upB = s.data.toList.take i ++ (s.data.toList.drop i).takeWhile Q.upB
  dn : s.data.toList.dropWhile Q.upB = (s.data.toList.drop i).dropWhile Q.upB
theorem CapI.step {s : ByteArray} {i : Nat} (h : CapI s i) (hi : i < s.size) (hu : Q.upB s[i] = true) : CapI s (i + 1) := by
  have h' : i < s.data.toList.length := by simpa using hi
  refine ⟨hi, ?_, ?_⟩
  · rw [h.up, drop_byte hi, List.takeWhile_cons_of_pos hu, List.take_add_one, List.getElem?_eq_getElem h']
    simp
    rfl
  · rw [h.dn, drop_byte hi, List.dropWhile_cons_of_pos hu]
theorem CapI.stop {s : ByteArray} {i : Nat} (h : CapI s i) (hs : i = s.size ∨ ∃ hi : i < s.size, Q.upB s[i] = false) : s.data.toList.takeWhile Q.upB = (s.extract 0 i).data.toList ∧ s.data.toList.dropWhile Q.upB = s.data.toList.drop i := by
  have e : (s.data.toList.drop i).takeWhile Q.upB = [] ∧ (s.data.toList.drop i).dropWhile Q.upB = s.data.toList.drop i := by
    rcases hs with rfl | ⟨hi, hu⟩
    · rw [List.drop_of_length_le (by simp)]
      exact ⟨rfl, rfl⟩
    · rw [drop_byte hi]
      simp [hu]
  rw [h.up, h.dn, e.1, e.2, ext_list]
  simp
/-- What split answers. -/
def SpPost (w : World) (s : ByteArray) (e : Ending) (w' : World) : Prop := Kp w w' ∧ match Q.behind (s.data.toList.dropWhile Q.upB) with
  | none => e = .returned (.tuple #[.string ⟨#[]⟩, .slice none 0 0, .bool false])
  | some l => ∃ (b : ByteArray) (ws : List ByteArray) (ao : Option Addr) (n cap : Nat), e = .returned (.tuple #[.string b, .slice ao n cap, .bool true]) ∧ b.data.toList = s.data.toList.takeWhile Q.upB ∧ wl ws = l ∧ Strs w' ao n ws
noncomputable def lab24 (l : Nat) : Code := match Tryz.f24.body with
  | some (.seq _ (.scope c)) => (match (findLabel c l).getD .skip with | .seq .skip r => r | r => r)
  | _ => .skip
theorem wd_lo {s : ByteArray} {f i : Nat} (hf : f ≤ i) (hi : i < s.size) (h : Q.loB s[i] = true) : Q.wd (s.extract f i).data.toList (s.data.toList.drop i) = Q.wd (s.extract f (i + 1)).data.toList (s.data.toList.drop (i + 1)) := by
  rw [drop_byte hi, ext_snoc hf hi]
  conv => lhs; unfold Q.wd
  rw [if_pos h]
theorem wd_bad {s : ByteArray} {f i : Nat} (hs : i = s.size ∨ ∃ hi : i < s.size, Q.loB s[i] = false) (h : Q.badW (s.extract f i).data.toList = true) : Q.wd (s.extract f i).data.toList (s.data.toList.drop i) = none := by
  rcases hs with rfl | ⟨hi, hl⟩
  · rw [List.drop_of_length_le (by simp)]
    unfold Q.wd
    rw [if_pos h]
  · rw [drop_byte hi]
    unfold Q.wd
    rw [if_neg (by simp [hl]), if_pos h]
theorem wd_end {s : ByteArray} {f : Nat} (h : Q.badW (s.extract f s.size).data.toList = false) : Q.wd (s.extract f s.size).data.toList (s.data.toList.drop s.size) = some [(s.extract f s.size).data.toList] := by
  rw [List.drop_of_length_le (by simp)]
  unfold Q.wd
  rw [if_neg (by rw [h]; exact Bool.false_ne_true)]
theorem wd_off {s : ByteArray} {f i : Nat} (hi : i < s.size) (hl : Q.loB s[i] = false) (h : Q.badW (s.extract f i).data.toList = false) (hp : s[i] ≠ 43) : Q.wd (s.extract f i).data.toList (s.data.toList.drop i) = none := by
  rw [drop_byte hi]
  unfold Q.wd
  rw [if_neg (by rw [hl]; exact Bool.false_ne_true), if_neg (by rw [h]; exact Bool.false_ne_true), if_neg hp]
theorem wd_plus {s : ByteArray} {f i : Nat} (hi : i < s.size) (hl : Q.loB s[i] = false) (h : Q.badW (s.extract f i).data.toList = false) (hp : s[i] = 43) : Q.wd (s.extract f i).data.toList (s.data.toList.drop i) = (Q.wd [] (s.data.toList.drop (i + 1))).map ((s.extract f i).data.toList :: ·) := by
  rw [drop_byte hi]
  conv => lhs; unfold Q.wd
  rw [if_neg (by rw [hl]; exact Bool.false_ne_true), if_neg (by rw [h]; exact Bool.false_ne_true), if_pos hp]
theorem bad_nil (s : ByteArray) (f : Nat) : Q.badW (s.extract f f).data.toList = true := by rw [ext_nil]; rfl
theorem bad_cons {s : ByteArray} {f i : Nat} (hf : f < i) (hi : i ≤ s.size) : Q.badW (s.extract f i).data.toList = Q.digB (s[f]'(by omega)) := by
  rw [ext_list, drop_byte (show f < s.size by omega), show i - f = (i - f - 1) + 1 by omega, List.take_succ_cons]
  rfl
theorem map_app {x : Option (List Q.Bt)} {a : List Q.Bt} {b : Q.Bt} : ((x.map (b :: ·)).map (a ++ ·)) = x.map ((a ++ [b]) ++ ·) := by cases x <;> simp
theorem wl_snoc (ws : List ByteArray) (x : ByteArray) : wl (ws ++ [x]) = wl ws ++ [x.data.toList] := by simp [wl]
theorem loB_of {c : UInt8} (h : Q.digB c = false) : Q.loB c = (decide (97 ≤ c.toNat) && decide (c.toNat ≤ 122)) := by unfold Q.loB; rw [h]; rfl
theorem upB_of {c : UInt8} (h : Q.digB c = false) : Q.upB c = (decide (65 ≤ c.toNat) && decide (c.toNat ≤ 90)) := by unfold Q.upB; rw [h]; rfl
theorem SpPost.no {w w' : World} {s : ByteArray} (hk : Kp w w') (h : Q.behind (s.data.toList.dropWhile Q.upB) = none) : SpPost w s (.returned (.tuple #[.string ⟨#[]⟩, .slice none 0 0, .bool false])) w' := ⟨hk, by rw [h]⟩
theorem SpPost.yes {w w' : World} {s b : ByteArray} {ws : List ByteArray} {ao : Option Addr} {n cap : Nat} (hk : Kp w w') (h : Q.behind (s.data.toList.dropWhile Q.upB) = some (wl ws)) (hb : b.data.toList = s.data.toList.takeWhile Q.upB) (hw : Strs w' ao n ws) : SpPost w s (.returned (.tuple #[.string b, .slice ao n cap, .bool true])) w' := ⟨hk, by rw [h]; exact ⟨b, ws, ao, n, cap, rfl, hb, rfl, hw⟩⟩
set_option maxRecDepth 100000 in
set_option maxHeartbeats 8000000 in
theorem sp_letter (w0 w : World) (s b : ByteArray) (hsz : s.size ≤ 100000) (hb : b.data.toList = s.data.toList.takeWhile Q.upB) (K : Nat → Act → World → Prop) (i f : Nat) (ws : List ByteArray) (ao : Option Addr) (n cap : Nat) (hf : f ≤ i) (hi : i ≤ s.size) (hn : n ≤ i)
    (hk : Kp w0 w) (hO : Own w w0.heap.size 9 1 ao n cap (strV ws)) (hB : Q.behind (s.data.toList.dropWhile Q.upB) = (Q.wd (s.extract f i).data.toList (s.data.toList.drop i)).map (wl ws ++ ·))
    (hK2 : ∀ (y1 y7 y8 y9 y10 y11 y12 y13 y14 y15 y16 y17 y18 y19 y20 y21 y22 y23 y24 y25 y26 y27 y28 y29 y30 y31 y32 y33 y34 y35 y36 y37 y38 y39 y40 y41 y42 y43 y44 y45 y46 y47 y48 y49 y50 y51 y52 y53 y54 y55 y56 y57 y58 y59 y60 y61 y62 y63 y64 y65 y66 y67 y68 y69 y70 y71 y72 y73 y74 y75 y76 y77 y78 y79 y80 y81 y82 y83 y84 y85 y86 y87 y88 y89 y90 y91 : Value), i < s.size → Q.behind (s.data.toList.dropWhile Q.upB) = (Q.wd (s.extract f (i + 1)).data.toList (s.data.toList.drop (i + 1))).map (wl ws ++ ·) → K 2 ({ tmps := List.toArray (.string s :: y1 :: .string b :: .slice ao n cap :: .bool false :: iv ((i + 1 : Nat) : Int) :: iv (f : Nat) :: y7 :: y8 :: y9 :: y10 :: y11 :: y12 :: y13 :: y14 :: y15 :: y16 :: y17 :: y18 :: y19 :: y20 :: y21 :: y22 :: y23 :: y24 :: y25 :: y26 :: y27 :: y28 :: y29 :: y30 :: y31 :: y32 :: y33 :: y34 :: y35 :: y36 :: y37 :: y38 :: y39 :: y40 :: y41 :: y42 :: y43 :: y44 :: y45 :: y46 :: y47 :: y48 :: y49 :: y50 :: y51 :: y52 :: y53 :: y54 :: y55 :: y56 :: y57 :: y58 :: y59 :: y60 :: y61 :: y62 :: y63 :: y64 :: y65 :: y66 :: y67 :: y68 :: y69 :: y70 :: y71 :: y72 :: y73 :: y74 :: y75 :: y76 :: y77 :: y78 :: y79 :: y80 :: y81 :: y82 :: y83 :: y84 :: y85 :: y86 :: y87 :: y88 :: y89 :: y90 :: y91 :: []), defers := [] }) w)
    (hK1 : ∀ (ws2 : List ByteArray) (ao2 : Option Addr) (cap2 : Nat) (w2 : World) (y1 y7 y8 y9 y10 y11 y12 y13 y14 y15 y16 y17 y18 y19 y20 y21 y22 y23 y24 y25 y26 y27 y28 y29 y30 y31 y32 y33 y34 y35 y36 y37 y38 y39 y40 y41 y42 y43 y44 y45 y46 y47 y48 y49 y50 y51 y52 y53 y54 y55 y56 y57 y58 y59 y60 y61 y62 y63 y64 y65 y66 y67 y68 y69 y70 y71 y72 y73 y74 y75 y76 y77 y78 y79 y80 y81 y82 y83 y84 y85 y86 y87 y88 y89 y90 y91 : Value), i < s.size → Kp w0 w2 → Own w2 w0.heap.size 9 1 ao2 (n + 1) cap2 (strV ws2) → Q.behind (s.data.toList.dropWhile Q.upB) = (Q.wd [] (s.data.toList.drop (i + 1))).map (wl ws2 ++ ·) → K 1 ({ tmps := List.toArray (.string s :: y1 :: .string b :: .slice ao2 (n + 1) cap2 :: .bool false :: iv ((i + 1 : Nat) : Int) :: iv (f : Nat) :: y7 :: y8 :: y9 :: y10 :: y11 :: y12 :: y13 :: y14 :: y15 :: y16 :: y17 :: y18 :: y19 :: y20 :: y21 :: y22 :: y23 :: y24 :: y25 :: y26 :: y27 :: y28 :: y29 :: y30 :: y31 :: y32 :: y33 :: y34 :: y35 :: y36 :: y37 :: y38 :: y39 :: y40 :: y41 :: y42 :: y43 :: y44 :: y45 :: y46 :: y47 :: y48 :: y49 :: y50 :: y51 :: y52 :: y53 :: y54 :: y55 :: y56 :: y57 :: y58 :: y59 :: y60 :: y61 :: y62 :: y63 :: y64 :: y65 :: y66 :: y67 :: y68 :: y69 :: y70 :: y71 :: y72 :: y73 :: y74 :: y75 :: y76 :: y77 :: y78 :: y79 :: y80 :: y81 :: y82 :: y83 :: y84 :: y85 :: y86 :: y87 :: y88 :: y89 :: y90 :: y91 :: []), defers := [] }) w2)
    (x1 x7 x8 x9 x10 x11 x12 x13 x14 x15 x16 x17 x18 x19 x20 x21 x22 x23 x24 x25 x26 x27 x28 x29 x30 x31 x32 x33 x34 x35 x36 x37 x38 x39 x40 x41 x42 x43 x44 x45 x46 x47 x48 x49 x50 x51 x52 x53 x54 x55 x56 x57 x58 x59 x60 x61 x62 x63 x64 x65 x66 x67 x68 x69 x70 x71 x72 x73 x74 x75 x76 x77 x78 x79 x80 x81 x82 x83 x84 x85 x86 x87 x88 x89 x90 x91 : Value) :
    (lab24 2).wp Tryz.prog (jumpsQ K (bodyPost Tryz.prog Tryz.f24 (SpPost w0 s))) ({ tmps := List.toArray (.string s :: x1 :: .string b :: .slice ao n cap :: .bool false :: iv (i : Nat) :: iv (f : Nat) :: x7 :: x8 :: x9 :: x10 :: x11 :: x12 :: x13 :: x14 :: x15 :: x16 :: x17 :: x18 :: x19 :: x20 :: x21 :: x22 :: x23 :: x24 :: x25 :: x26 :: x27 :: x28 :: x29 :: x30 :: x31 :: x32 :: x33 :: x34 :: x35 :: x36 :: x37 :: x38 :: x39 :: x40 :: x41 :: x42 :: x43 :: x44 :: x45 :: x46 :: x47 :: x48 :: x49 :: x50 :: x51 :: x52 :: x53 :: x54 :: x55 :: x56 :: x57 :: x58 :: x59 :: x60 :: x61 :: x62 :: x63 :: x64 :: x65 :: x66 :: x67 :: x68 :: x69 :: x70 :: x71 :: x72 :: x73 :: x74 :: x75 :: x76 :: x77 :: x78 :: x79 :: x80 :: x81 :: x82 :: x83 :: x84 :: x85 :: x86 :: x87 :: x88 :: x89 :: x90 :: x91 :: []), defers := [] }) w := by
  have HB := Lib.hid hB
  have HK := Lib.hid hk
  have HO := Lib.hid hO
  have HK2 := Lib.hid hK2
  have HK1 := Lib.hid hK1
  have HBb := Lib.hid hb
  have hfl : f ≤ s.size := by omega
  clear hB hk hO hK2 hK1 hb
  unfold lab24
  conv => arg 2; whnf
  by_cases hgo : ∃ h : i < s.size, Q.loB s[i] = true
  · obtain ⟨hi1, hlo⟩ := hgo
    have HW := Lib.hid (wd_lo hf hi1 hlo)
    have HJ := Lib.hid (HB.out.trans (by rw [HW.out] : _ = (Q.wd (s.extract f (i + 1)).data.toList (s.data.toList.drop (i + 1))).map (wl ws ++ ·)))
    have hii : ((i : Nat) : Int) < (s.size : Nat) := by omega
    have HC := Lib.hid (digit_any w s[i])
    cases hd : Q.digB s[i] with
    | true =>
      rw [hd] at HC
      clear hlo hd
      go_wp2_with fail
      (with_reducible refine HC.out.mono ?_)
      rintro e v ⟨rfl, rfl⟩
      clear HC
      go_wp2_with fail
      go_step3
      show K 2 _ _
      exact HK2.out _ _ _ _ _ _ _ _ _ _ _ _ _ _ _ _ _ _ _ _ _ _ _ _ _ _ _ _ _ _ _ _ _ _ _ _ _ _ _ _ _ _ _ _ _ _ _ _ _ _ _ _ _ _ _ _ _ _ _ _ _ _ _ _ _ _ _ _ _ _ _ _ _ _ _ _ _ _ _ _ _ _ _ _ _ _ hi1 HJ.out
    | false =>
      rw [hd] at HC
      rw [loB_of hd] at hlo
      simp only [Bool.and_eq_true, decide_eq_true_eq] at hlo
      have h97 : (97 : Int) ≤ (s[i].toNat : Nat) := by omega
      have h122 : ((s[i].toNat : Nat) : Int) ≤ 122 := by omega
      clear hlo hd
      go_wp2_with fail
      (with_reducible refine HC.out.mono ?_)
      rintro e v ⟨rfl, rfl⟩
      clear HC
      go_wp2_with fail
      go_step3
      show K 2 _ _
      exact HK2.out _ _ _ _ _ _ _ _ _ _ _ _ _ _ _ _ _ _ _ _ _ _ _ _ _ _ _ _ _ _ _ _ _ _ _ _ _ _ _ _ _ _ _ _ _ _ _ _ _ _ _ _ _ _ _ _ _ _ _ _ _ _ _ _ _ _ _ _ _ _ _ _ _ _ _ _ _ _ _ _ _ _ _ _ _ _ hi1 HJ.out
  · have hst : i = s.size ∨ ∃ hi : i < s.size, Q.loB s[i] = false := by
      rcases Nat.lt_or_ge i s.size with q | q
      · exact .inr ⟨q, by cases h : Q.loB s[i] with | false => rfl | true => exact absurd ⟨q, h⟩ hgo⟩
      · exact .inl (by omega)
    have Hst := Lib.hid hst
    clear hgo hst
    go_upto_region 8 with fail
    go_cut [61] (fun v wc => v = .bool false ∧ wc = w)
    case first =>
      rcases Hst.out with hz | ⟨hi1, hlo⟩
      · have hii : ¬ ((i : Nat) : Int) < (s.size : Nat) := by omega
        clear hz
        go_wp2_with fail
        go_meet
        case rel => exact ⟨rfl, rfl⟩
      · have hii : ((i : Nat) : Int) < (s.size : Nat) := by omega
        have hd : Q.digB s[i] = false := by cases h : Q.digB s[i] with | false => rfl | true => (unfold Q.loB at hlo; rw [h] at hlo; simp at hlo)
        have HC := Lib.hid (digit_any w s[i])
        rw [hd] at HC
        rw [loB_of hd] at hlo
        simp only [Bool.and_eq_false_iff, decide_eq_false_iff_not] at hlo
        clear hd
        by_cases h9 : 97 ≤ s[i].toNat
        · have h97 : (97 : Int) ≤ (s[i].toNat : Nat) := by omega
          have h122 : decide (((s[i].toNat : Nat) : Int) ≤ 122) = false := decide_eq_false (by omega)
          clear hlo
          go_wp2_with fail
          (with_reducible refine HC.out.mono ?_)
          rintro e v ⟨rfl, rfl⟩
          clear HC
          go_wp2_with fail
          go_meet
          case rel => exact ⟨rfl, rfl⟩
        · have h97 : ¬ (97 : Int) ≤ (s[i].toNat : Nat) := by omega
          clear hlo
          go_wp2_with fail
          (with_reducible refine HC.out.mono ?_)
          rintro e v ⟨rfl, rfl⟩
          clear HC
          go_wp2_with fail
          go_meet
          case rel => exact ⟨rfl, rfl⟩
    case rest =>
      obtain ⟨rfl, hcw⟩ := hcut
      replace hcw := hcw.symm
      subst hcw
      by_cases hfi : f = i
      · subst hfi
        have Hno := Lib.hid (SpPost.no HK.out (HB.out.trans (by rw [wd_bad Hst.out (bad_nil s f)]; rfl)))
        go_wp2_with fail
        show bodyPost Tryz.prog Tryz.f24 (SpPost w0 s) .ret _ _
        refine bodyPost_ret (v := .tuple #[.string ⟨#[]⟩, .slice none 0 0, .bool false]) (by simp [results, Tryz.results24, go_sem]) rfl ?_
        exact Hno.out
      · have hfi2 : f < i := by omega
        have hfI : ¬ ((i : Nat) : Int) = (f : Nat) := by omega
        have hfb : (((i : Nat) : Int) == ((f : Nat) : Int)) = false := by simpa using hfI
        have HC := Lib.hid (digit_any w (s[f]'(by omega)))
        have hfs : ((f : Nat) : Int) < (s.size : Nat) := by omega
        have hfs2 : f < s.size := by omega
        have Hbc := Lib.hid (bad_cons (s := s) hfi2 hi)
        cases hd : Q.digB (s[f]'(by omega)) with
        | true =>
          have Hno := Lib.hid (SpPost.no HK.out (HB.out.trans (by rw [wd_bad Hst.out (Hbc.out.trans hd)]; rfl)))
          rw [hd] at HC
          clear hd
          go_wp2_with fail
          (with_reducible refine HC.out.mono ?_)
          rintro e v ⟨rfl, rfl⟩
          clear HC
          go_wp2_with fail
          show bodyPost Tryz.prog Tryz.f24 (SpPost w0 s) .ret _ _
          refine bodyPost_ret (v := .tuple #[.string ⟨#[]⟩, .slice none 0 0, .bool false]) (by simp [results, Tryz.results24, go_sem]) rfl ?_
          exact Hno.out
        | false =>
          have Hbw := Lib.hid (Hbc.out.trans hd)
          rw [hd] at HC
          clear hd
          go_wp2_with fail
          (with_reducible refine HC.out.mono ?_)
          rintro e v ⟨rfl, rfl⟩
          clear HC
          go_upto_region 12 with fail
          have Hzs := Lib.hid (show strV (ws ++ [s.extract f i]) = strV ws ++ [.string (s.extract f i)] by simp)
          have HK5 := Lib.hid (fun (ao2 : Option Addr) (cap2 : Nat) (w2 : World) (ha : Appd (w.alloc (.cells #[.string (s.extract f i)] 9)) w2 w0.heap.size 9 1 ao cap 1 (n + 1) (strV (ws ++ [s.extract f i])) ao2 cap2) => (show Kp w0 w2 from kp_own HK.out (Kp.new w (.cells #[.string (s.extract f i)] 9)) (Nat.le_refl _) HO.out ha))
          rcases Hst.out with hz | ⟨hi1, hlo⟩
          · have hb1 : (((i : Nat) : Int) == ((s.size : Nat) : Int)) = true := by simp [hz]
            have Hend := Lib.hid (show Q.wd (s.extract f i).data.toList (s.data.toList.drop i) = some [(s.extract f i).data.toList] by have q := Hbw.out; subst hz; exact wd_end q)
            clear hz
            go_wp2_with (at_builtin; refine wpList_app rfl (.tmp 73) (.tmp 78) 39 rfl el100 w0.heap.size rfl (HO.out.keep (Kp.new _ _)) rfl [.string (s.extract f i)] rfl (Cs.new w [.string (s.extract f i)] 9 (0, 0)) (by simp [Value.oneCell']) (n + 1) rfl (strV (ws ++ [s.extract f i])) Hzs.out (by omega) (Nat.le_trans HK.out.size (by simp)) ?_; intro ao2 cap2 w2 ha)
            have Hyes := Lib.hid (SpPost.yes (cap := cap2) (HK5.out _ _ _ ha) (HB.out.trans (by rw [Hend.out, wl_snoc]; rfl)) HBb.out ha.own.strs)
            clear ha
            go_wp2_with fail
            show bodyPost Tryz.prog Tryz.f24 (SpPost w0 s) .ret _ _
            refine bodyPost_ret (v := .tuple #[.string b, .slice ao2 (n + 1) cap2, .bool true]) (by simp [results, Tryz.results24, go_sem]) rfl ?_
            exact Hyes.out
          · have hb1 : (((i : Nat) : Int) == ((s.size : Nat) : Int)) = false := by simp; omega
            have hbn : ¬ ((i : Nat) : Int) = ((s.size : Nat) : Int) := by omega
            have hii : ((i : Nat) : Int) < (s.size : Nat) := by omega
            by_cases hp : s[i] = 43
            · have Hpl := Lib.hid (wd_plus hi1 hlo Hbw.out hp)
              have hb2 : ((s[i].toNat : Nat) : Int) = 43 := by rw [hp]; rfl
              have hb3 : (((s[i].toNat : Nat) : Int) == 43) = true := by rw [hb2]; rfl
              clear hp hlo
              go_wp2_with (at_builtin; refine wpList_app rfl (.tmp 73) (.tmp 78) 39 rfl el100 w0.heap.size rfl (HO.out.keep (Kp.new _ _)) rfl [.string (s.extract f i)] rfl (Cs.new w [.string (s.extract f i)] 9 (0, 0)) (by simp [Value.oneCell']) (n + 1) rfl (strV (ws ++ [s.extract f i])) Hzs.out (by omega) (Nat.le_trans HK.out.size (by simp)) ?_; intro ao2 cap2 w2 ha)
              have hk5 := HK5.out _ _ _ ha
              have hO5 := ha.own
              clear ha
              go_wp2_with fail
              go_step3
              show K 1 _ _
              exact HK1.out (ws ++ [s.extract f i]) ao2 cap2 w2 _ _ _ _ _ _ _ _ _ _ _ _ _ _ _ _ _ _ _ _ _ _ _ _ _ _ _ _ _ _ _ _ _ _ _ _ _ _ _ _ _ _ _ _ _ _ _ _ _ _ _ _ _ _ _ _ _ _ _ _ _ _ _ _ _ _ _ _ _ _ _ _ _ _ _ _ _ _ _ _ _ _ _ _ _ _ hi1 hk5 hO5 (HB.out.trans (by rw [Hpl.out, map_app, wl_snoc]))
            · have Hof := Lib.hid (wd_off hi1 hlo Hbw.out hp)
              have hb2 : ¬ ((s[i].toNat : Nat) : Int) = 43 := fun e => hp (by rw [← UInt8.toNat_inj]; show _ = 43; omega)
              have hb3 : (((s[i].toNat : Nat) : Int) == 43) = false := by simpa using hb2
              clear hp hlo
              go_wp2_with (at_builtin; refine wpList_app rfl (.tmp 73) (.tmp 78) 39 rfl el100 w0.heap.size rfl (HO.out.keep (Kp.new _ _)) rfl [.string (s.extract f i)] rfl (Cs.new w [.string (s.extract f i)] 9 (0, 0)) (by simp [Value.oneCell']) (n + 1) rfl (strV (ws ++ [s.extract f i])) Hzs.out (by omega) (Nat.le_trans HK.out.size (by simp)) ?_; intro ao2 cap2 w2 ha)
              have Hno := Lib.hid (SpPost.no (HK5.out _ _ _ ha) (HB.out.trans (by rw [Hof.out]; rfl)))
              clear ha
              go_wp2_with fail
              show bodyPost Tryz.prog Tryz.f24 (SpPost w0 s) .ret _ _
              refine bodyPost_ret (v := .tuple #[.string ⟨#[]⟩, .slice none 0 0, .bool false]) (by simp [results, Tryz.results24, go_sem]) rfl ?_
              exact Hno.out
set_option maxRecDepth 100000 in
set_option maxHeartbeats 8000000 in
theorem sp_word (w0 w : World) (s b : ByteArray) (hsz : s.size ≤ 100000) (hb : b.data.toList = s.data.toList.takeWhile Q.upB) (K : Nat → Act → World → Prop) (i : Nat) (ws : List ByteArray) (ao : Option Addr) (n cap : Nat) (hi : i ≤ s.size) (hn : n ≤ i)
    (hk : Kp w0 w) (hO : Own w w0.heap.size 9 1 ao n cap (strV ws)) (hB : Q.behind (s.data.toList.dropWhile Q.upB) = (Q.wd [] (s.data.toList.drop i)).map (wl ws ++ ·))
    (hK2 : ∀ (y1 y7 y8 y9 y10 y11 y12 y13 y14 y15 y16 y17 y18 y19 y20 y21 y22 y23 y24 y25 y26 y27 y28 y29 y30 y31 y32 y33 y34 y35 y36 y37 y38 y39 y40 y41 y42 y43 y44 y45 y46 y47 y48 y49 y50 y51 y52 y53 y54 y55 y56 y57 y58 y59 y60 y61 y62 y63 y64 y65 y66 y67 y68 y69 y70 y71 y72 y73 y74 y75 y76 y77 y78 y79 y80 y81 y82 y83 y84 y85 y86 y87 y88 y89 y90 y91 : Value), i < s.size → Q.behind (s.data.toList.dropWhile Q.upB) = (Q.wd (s.extract i (i + 1)).data.toList (s.data.toList.drop (i + 1))).map (wl ws ++ ·) → K 2 ({ tmps := List.toArray (.string s :: y1 :: .string b :: .slice ao n cap :: .bool false :: iv ((i + 1 : Nat) : Int) :: iv (i : Nat) :: y7 :: y8 :: y9 :: y10 :: y11 :: y12 :: y13 :: y14 :: y15 :: y16 :: y17 :: y18 :: y19 :: y20 :: y21 :: y22 :: y23 :: y24 :: y25 :: y26 :: y27 :: y28 :: y29 :: y30 :: y31 :: y32 :: y33 :: y34 :: y35 :: y36 :: y37 :: y38 :: y39 :: y40 :: y41 :: y42 :: y43 :: y44 :: y45 :: y46 :: y47 :: y48 :: y49 :: y50 :: y51 :: y52 :: y53 :: y54 :: y55 :: y56 :: y57 :: y58 :: y59 :: y60 :: y61 :: y62 :: y63 :: y64 :: y65 :: y66 :: y67 :: y68 :: y69 :: y70 :: y71 :: y72 :: y73 :: y74 :: y75 :: y76 :: y77 :: y78 :: y79 :: y80 :: y81 :: y82 :: y83 :: y84 :: y85 :: y86 :: y87 :: y88 :: y89 :: y90 :: y91 :: []), defers := [] }) w)
    (hK1 : ∀ (ws2 : List ByteArray) (ao2 : Option Addr) (cap2 : Nat) (w2 : World) (y1 y7 y8 y9 y10 y11 y12 y13 y14 y15 y16 y17 y18 y19 y20 y21 y22 y23 y24 y25 y26 y27 y28 y29 y30 y31 y32 y33 y34 y35 y36 y37 y38 y39 y40 y41 y42 y43 y44 y45 y46 y47 y48 y49 y50 y51 y52 y53 y54 y55 y56 y57 y58 y59 y60 y61 y62 y63 y64 y65 y66 y67 y68 y69 y70 y71 y72 y73 y74 y75 y76 y77 y78 y79 y80 y81 y82 y83 y84 y85 y86 y87 y88 y89 y90 y91 : Value), i < s.size → Kp w0 w2 → Own w2 w0.heap.size 9 1 ao2 (n + 1) cap2 (strV ws2) → Q.behind (s.data.toList.dropWhile Q.upB) = (Q.wd [] (s.data.toList.drop (i + 1))).map (wl ws2 ++ ·) → K 1 ({ tmps := List.toArray (.string s :: y1 :: .string b :: .slice ao2 (n + 1) cap2 :: .bool false :: iv ((i + 1 : Nat) : Int) :: iv (i : Nat) :: y7 :: y8 :: y9 :: y10 :: y11 :: y12 :: y13 :: y14 :: y15 :: y16 :: y17 :: y18 :: y19 :: y20 :: y21 :: y22 :: y23 :: y24 :: y25 :: y26 :: y27 :: y28 :: y29 :: y30 :: y31 :: y32 :: y33 :: y34 :: y35 :: y36 :: y37 :: y38 :: y39 :: y40 :: y41 :: y42 :: y43 :: y44 :: y45 :: y46 :: y47 :: y48 :: y49 :: y50 :: y51 :: y52 :: y53 :: y54 :: y55 :: y56 :: y57 :: y58 :: y59 :: y60 :: y61 :: y62 :: y63 :: y64 :: y65 :: y66 :: y67 :: y68 :: y69 :: y70 :: y71 :: y72 :: y73 :: y74 :: y75 :: y76 :: y77 :: y78 :: y79 :: y80 :: y81 :: y82 :: y83 :: y84 :: y85 :: y86 :: y87 :: y88 :: y89 :: y90 :: y91 :: []), defers := [] }) w2)
    (fv x1 x7 x8 x9 x10 x11 x12 x13 x14 x15 x16 x17 x18 x19 x20 x21 x22 x23 x24 x25 x26 x27 x28 x29 x30 x31 x32 x33 x34 x35 x36 x37 x38 x39 x40 x41 x42 x43 x44 x45 x46 x47 x48 x49 x50 x51 x52 x53 x54 x55 x56 x57 x58 x59 x60 x61 x62 x63 x64 x65 x66 x67 x68 x69 x70 x71 x72 x73 x74 x75 x76 x77 x78 x79 x80 x81 x82 x83 x84 x85 x86 x87 x88 x89 x90 x91 : Value) :
    (lab24 1).wp Tryz.prog (jumpsQ K (bodyPost Tryz.prog Tryz.f24 (SpPost w0 s))) ({ tmps := List.toArray (.string s :: x1 :: .string b :: .slice ao n cap :: .bool false :: iv (i : Nat) :: fv :: x7 :: x8 :: x9 :: x10 :: x11 :: x12 :: x13 :: x14 :: x15 :: x16 :: x17 :: x18 :: x19 :: x20 :: x21 :: x22 :: x23 :: x24 :: x25 :: x26 :: x27 :: x28 :: x29 :: x30 :: x31 :: x32 :: x33 :: x34 :: x35 :: x36 :: x37 :: x38 :: x39 :: x40 :: x41 :: x42 :: x43 :: x44 :: x45 :: x46 :: x47 :: x48 :: x49 :: x50 :: x51 :: x52 :: x53 :: x54 :: x55 :: x56 :: x57 :: x58 :: x59 :: x60 :: x61 :: x62 :: x63 :: x64 :: x65 :: x66 :: x67 :: x68 :: x69 :: x70 :: x71 :: x72 :: x73 :: x74 :: x75 :: x76 :: x77 :: x78 :: x79 :: x80 :: x81 :: x82 :: x83 :: x84 :: x85 :: x86 :: x87 :: x88 :: x89 :: x90 :: x91 :: []), defers := [] }) w := by
  have HB := Lib.hid hB
  have HK := Lib.hid hk
  have HO := Lib.hid hO
  have HK2 := Lib.hid hK2
  have HK1 := Lib.hid hK1
  have HBb := Lib.hid hb
  clear hB hk hO hK2 hK1 hb
  unfold lab24
  conv => arg 2; whnf
  go_wp2_with fail
  go_step3
  rename_i hcont
  exact hcont _ _ (sp_letter w0 w s b hsz HBb.out K i i ws ao n cap (Nat.le_refl _) hi hn HK.out HO.out (HB.out.trans (by rw [ext_nil])) HK2.out HK1.out _ _ _ _ _ _ _ _ _ _ _ _ _ _ _ _ _ _ _ _ _ _ _ _ _ _ _ _ _ _ _ _ _ _ _ _ _ _ _ _ _ _ _ _ _ _ _ _ _ _ _ _ _ _ _ _ _ _ _ _ _ _ _ _ _ _ _ _ _ _ _ _ _ _ _ _ _ _ _ _ _ _ _ _ _ _)
set_option maxRecDepth 100000 in
set_option maxHeartbeats 8000000 in
theorem sp_cap (w0 w : World) (s : ByteArray) (hsz : s.size ≤ 100000) (K : Nat → Act → World → Prop) (i : Nat) (hcp : CapI s i)
    (hk : Kp w0 w)
    (hK0 : ∀ (y1 y7 y8 y9 y10 y11 y12 y13 y14 y15 y16 y17 y18 y19 y20 y21 y22 y23 y24 y25 y26 y27 y28 y29 y30 y31 y32 y33 y34 y35 y36 y37 y38 y39 y40 y41 y42 y43 y44 y45 y46 y47 y48 y49 y50 y51 y52 y53 y54 y55 y56 y57 y58 y59 y60 y61 y62 y63 y64 y65 y66 y67 y68 y69 y70 y71 y72 y73 y74 y75 y76 y77 y78 y79 y80 y81 y82 y83 y84 y85 y86 y87 y88 y89 y90 y91 yf : Value), i < s.size → CapI s (i + 1) → K 0 ({ tmps := List.toArray (.string s :: y1 :: .string ⟨#[]⟩ :: .slice none 0 0 :: .bool false :: iv ((i + 1 : Nat) : Int) :: yf :: y7 :: y8 :: y9 :: y10 :: y11 :: y12 :: y13 :: y14 :: y15 :: y16 :: y17 :: y18 :: y19 :: y20 :: y21 :: y22 :: y23 :: y24 :: y25 :: y26 :: y27 :: y28 :: y29 :: y30 :: y31 :: y32 :: y33 :: y34 :: y35 :: y36 :: y37 :: y38 :: y39 :: y40 :: y41 :: y42 :: y43 :: y44 :: y45 :: y46 :: y47 :: y48 :: y49 :: y50 :: y51 :: y52 :: y53 :: y54 :: y55 :: y56 :: y57 :: y58 :: y59 :: y60 :: y61 :: y62 :: y63 :: y64 :: y65 :: y66 :: y67 :: y68 :: y69 :: y70 :: y71 :: y72 :: y73 :: y74 :: y75 :: y76 :: y77 :: y78 :: y79 :: y80 :: y81 :: y82 :: y83 :: y84 :: y85 :: y86 :: y87 :: y88 :: y89 :: y90 :: y91 :: []), defers := [] }) w)
    (hK2 : ∀ (b : ByteArray) (y1 y7 y8 y9 y10 y11 y12 y13 y14 y15 y16 y17 y18 y19 y20 y21 y22 y23 y24 y25 y26 y27 y28 y29 y30 y31 y32 y33 y34 y35 y36 y37 y38 y39 y40 y41 y42 y43 y44 y45 y46 y47 y48 y49 y50 y51 y52 y53 y54 y55 y56 y57 y58 y59 y60 y61 y62 y63 y64 y65 y66 y67 y68 y69 y70 y71 y72 y73 y74 y75 y76 y77 y78 y79 y80 y81 y82 y83 y84 y85 y86 y87 y88 y89 y90 y91 : Value), b.data.toList = s.data.toList.takeWhile Q.upB → i < s.size → Q.behind (s.data.toList.dropWhile Q.upB) = (Q.wd (s.extract i (i + 1)).data.toList (s.data.toList.drop (i + 1))).map (wl [] ++ ·) → K 2 ({ tmps := List.toArray (.string s :: y1 :: .string b :: .slice none 0 0 :: .bool false :: iv ((i + 1 : Nat) : Int) :: iv (i : Nat) :: y7 :: y8 :: y9 :: y10 :: y11 :: y12 :: y13 :: y14 :: y15 :: y16 :: y17 :: y18 :: y19 :: y20 :: y21 :: y22 :: y23 :: y24 :: y25 :: y26 :: y27 :: y28 :: y29 :: y30 :: y31 :: y32 :: y33 :: y34 :: y35 :: y36 :: y37 :: y38 :: y39 :: y40 :: y41 :: y42 :: y43 :: y44 :: y45 :: y46 :: y47 :: y48 :: y49 :: y50 :: y51 :: y52 :: y53 :: y54 :: y55 :: y56 :: y57 :: y58 :: y59 :: y60 :: y61 :: y62 :: y63 :: y64 :: y65 :: y66 :: y67 :: y68 :: y69 :: y70 :: y71 :: y72 :: y73 :: y74 :: y75 :: y76 :: y77 :: y78 :: y79 :: y80 :: y81 :: y82 :: y83 :: y84 :: y85 :: y86 :: y87 :: y88 :: y89 :: y90 :: y91 :: []), defers := [] }) w)
    (hK1 : ∀ (b : ByteArray) (ws2 : List ByteArray) (ao2 : Option Addr) (cap2 : Nat) (w2 : World) (y1 y7 y8 y9 y10 y11 y12 y13 y14 y15 y16 y17 y18 y19 y20 y21 y22 y23 y24 y25 y26 y27 y28 y29 y30 y31 y32 y33 y34 y35 y36 y37 y38 y39 y40 y41 y42 y43 y44 y45 y46 y47 y48 y49 y50 y51 y52 y53 y54 y55 y56 y57 y58 y59 y60 y61 y62 y63 y64 y65 y66 y67 y68 y69 y70 y71 y72 y73 y74 y75 y76 y77 y78 y79 y80 y81 y82 y83 y84 y85 y86 y87 y88 y89 y90 y91 : Value), b.data.toList = s.data.toList.takeWhile Q.upB → i < s.size → Kp w0 w2 → Own w2 w0.heap.size 9 1 ao2 1 cap2 (strV ws2) → Q.behind (s.data.toList.dropWhile Q.upB) = (Q.wd [] (s.data.toList.drop (i + 1))).map (wl ws2 ++ ·) → K 1 ({ tmps := List.toArray (.string s :: y1 :: .string b :: .slice ao2 1 cap2 :: .bool false :: iv ((i + 1 : Nat) : Int) :: iv (i : Nat) :: y7 :: y8 :: y9 :: y10 :: y11 :: y12 :: y13 :: y14 :: y15 :: y16 :: y17 :: y18 :: y19 :: y20 :: y21 :: y22 :: y23 :: y24 :: y25 :: y26 :: y27 :: y28 :: y29 :: y30 :: y31 :: y32 :: y33 :: y34 :: y35 :: y36 :: y37 :: y38 :: y39 :: y40 :: y41 :: y42 :: y43 :: y44 :: y45 :: y46 :: y47 :: y48 :: y49 :: y50 :: y51 :: y52 :: y53 :: y54 :: y55 :: y56 :: y57 :: y58 :: y59 :: y60 :: y61 :: y62 :: y63 :: y64 :: y65 :: y66 :: y67 :: y68 :: y69 :: y70 :: y71 :: y72 :: y73 :: y74 :: y75 :: y76 :: y77 :: y78 :: y79 :: y80 :: y81 :: y82 :: y83 :: y84 :: y85 :: y86 :: y87 :: y88 :: y89 :: y90 :: y91 :: []), defers := [] }) w2)
    (fv x1 x7 x8 x9 x10 x11 x12 x13 x14 x15 x16 x17 x18 x19 x20 x21 x22 x23 x24 x25 x26 x27 x28 x29 x30 x31 x32 x33 x34 x35 x36 x37 x38 x39 x40 x41 x42 x43 x44 x45 x46 x47 x48 x49 x50 x51 x52 x53 x54 x55 x56 x57 x58 x59 x60 x61 x62 x63 x64 x65 x66 x67 x68 x69 x70 x71 x72 x73 x74 x75 x76 x77 x78 x79 x80 x81 x82 x83 x84 x85 x86 x87 x88 x89 x90 x91 : Value) :
    (lab24 0).wp Tryz.prog (jumpsQ K (bodyPost Tryz.prog Tryz.f24 (SpPost w0 s))) ({ tmps := List.toArray (.string s :: x1 :: .string ⟨#[]⟩ :: .slice none 0 0 :: .bool false :: iv (i : Nat) :: fv :: x7 :: x8 :: x9 :: x10 :: x11 :: x12 :: x13 :: x14 :: x15 :: x16 :: x17 :: x18 :: x19 :: x20 :: x21 :: x22 :: x23 :: x24 :: x25 :: x26 :: x27 :: x28 :: x29 :: x30 :: x31 :: x32 :: x33 :: x34 :: x35 :: x36 :: x37 :: x38 :: x39 :: x40 :: x41 :: x42 :: x43 :: x44 :: x45 :: x46 :: x47 :: x48 :: x49 :: x50 :: x51 :: x52 :: x53 :: x54 :: x55 :: x56 :: x57 :: x58 :: x59 :: x60 :: x61 :: x62 :: x63 :: x64 :: x65 :: x66 :: x67 :: x68 :: x69 :: x70 :: x71 :: x72 :: x73 :: x74 :: x75 :: x76 :: x77 :: x78 :: x79 :: x80 :: x81 :: x82 :: x83 :: x84 :: x85 :: x86 :: x87 :: x88 :: x89 :: x90 :: x91 :: []), defers := [] }) w := by
  have HCp := Lib.hid hcp
  have HK := Lib.hid hk
  have HK2 := Lib.hid hK2
  have HK1 := Lib.hid hK1
  have HK0 := Lib.hid hK0
  have hi := hcp.le
  clear hcp hk hK2 hK1 hK0
  unfold lab24
  conv => arg 2; whnf
  by_cases hgo : ∃ h : i < s.size, Q.upB s[i] = true
  · obtain ⟨hi1, hlo⟩ := hgo
    have HJ := Lib.hid (HCp.out.step hi1 hlo)
    have hii : ((i : Nat) : Int) < (s.size : Nat) := by omega
    have HC := Lib.hid (digit_any w s[i])
    cases hd : Q.digB s[i] with
    | true =>
      rw [hd] at HC
      clear hlo hd
      go_wp2_with fail
      (with_reducible refine HC.out.mono ?_)
      rintro e v ⟨rfl, rfl⟩
      clear HC
      go_wp2_with fail
      go_step3
      show K 0 _ _
      exact HK0.out _ _ _ _ _ _ _ _ _ _ _ _ _ _ _ _ _ _ _ _ _ _ _ _ _ _ _ _ _ _ _ _ _ _ _ _ _ _ _ _ _ _ _ _ _ _ _ _ _ _ _ _ _ _ _ _ _ _ _ _ _ _ _ _ _ _ _ _ _ _ _ _ _ _ _ _ _ _ _ _ _ _ _ _ _ _ _ hi1 HJ.out
    | false =>
      rw [hd] at HC
      rw [upB_of hd] at hlo
      simp only [Bool.and_eq_true, decide_eq_true_eq] at hlo
      have h97 : (65 : Int) ≤ (s[i].toNat : Nat) := by omega
      have h122 : ((s[i].toNat : Nat) : Int) ≤ 90 := by omega
      clear hlo hd
      go_wp2_with fail
      (with_reducible refine HC.out.mono ?_)
      rintro e v ⟨rfl, rfl⟩
      clear HC
      go_wp2_with fail
      go_step3
      show K 0 _ _
      exact HK0.out _ _ _ _ _ _ _ _ _ _ _ _ _ _ _ _ _ _ _ _ _ _ _ _ _ _ _ _ _ _ _ _ _ _ _ _ _ _ _ _ _ _ _ _ _ _ _ _ _ _ _ _ _ _ _ _ _ _ _ _ _ _ _ _ _ _ _ _ _ _ _ _ _ _ _ _ _ _ _ _ _ _ _ _ _ _ _ hi1 HJ.out
  · have hst : i = s.size ∨ ∃ hi : i < s.size, Q.upB s[i] = false := by
      rcases Nat.lt_or_ge i s.size with q | q
      · exact .inr ⟨q, by cases h : Q.upB s[i] with | false => rfl | true => exact absurd ⟨q, h⟩ hgo⟩
      · exact .inl (by omega)
    have Hst := Lib.hid hst
    have Hbs := Lib.hid (HCp.out.stop hst)
    clear hgo hst
    go_upto_region 2 with fail
    go_cut [28] (fun v wc => v = .bool false ∧ wc = w)
    case first =>
      rcases Hst.out with hz | ⟨hi1, hlo⟩
      · have hii : ¬ ((i : Nat) : Int) < (s.size : Nat) := by omega
        clear hz
        go_wp2_with fail
        go_meet
        case rel => exact ⟨rfl, rfl⟩
      · have hii : ((i : Nat) : Int) < (s.size : Nat) := by omega
        have hd : Q.digB s[i] = false := by cases h : Q.digB s[i] with | false => rfl | true => (unfold Q.upB at hlo; rw [h] at hlo; simp at hlo)
        have HC := Lib.hid (digit_any w s[i])
        rw [hd] at HC
        rw [upB_of hd] at hlo
        simp only [Bool.and_eq_false_iff, decide_eq_false_iff_not] at hlo
        clear hd
        by_cases h9 : 65 ≤ s[i].toNat
        · have h97 : (65 : Int) ≤ (s[i].toNat : Nat) := by omega
          have h122 : decide (((s[i].toNat : Nat) : Int) ≤ 90) = false := decide_eq_false (by omega)
          clear hlo
          go_wp2_with fail
          (with_reducible refine HC.out.mono ?_)
          rintro e v ⟨rfl, rfl⟩
          clear HC
          go_wp2_with fail
          go_meet
          case rel => exact ⟨rfl, rfl⟩
        · have h97 : ¬ (65 : Int) ≤ (s[i].toNat : Nat) := by omega
          clear hlo
          go_wp2_with fail
          (with_reducible refine HC.out.mono ?_)
          rintro e v ⟨rfl, rfl⟩
          clear HC
          go_wp2_with fail
          go_meet
          case rel => exact ⟨rfl, rfl⟩
    case rest =>
      obtain ⟨rfl, hcw⟩ := hcut
      replace hcw := hcw.symm
      subst hcw
      have Hup := Lib.hid (show (s.extract 0 i).data.toList = s.data.toList.takeWhile Q.upB from Hbs.out.1.symm)
      by_cases hz : i = s.size
      · have hb1 : (((i : Nat) : Int) == ((s.size : Nat) : Int)) = true := by simp [hz]
        have Hbe := Lib.hid (show Q.behind (s.data.toList.dropWhile Q.upB) = some (wl []) by rw [Hbs.out.2, hz, List.drop_of_length_le (by simp)]; rfl)
        clear hz
        have Hyes := Lib.hid (SpPost.yes (cap := 0) (n := 0) (ao := none) HK.out Hbe.out Hup.out ⟨rfl, Nat.zero_le _, fun j u hu => by simp at hu⟩)
        go_wp2_with fail
        show bodyPost Tryz.prog Tryz.f24 (SpPost w0 s) .ret _ _
        refine bodyPost_ret (v := .tuple #[.string (s.extract 0 i), .slice none 0 0, .bool true]) (by simp [results, Tryz.results24, go_sem]) rfl ?_
        exact Hyes.out
      · have hb1 : (((i : Nat) : Int) == ((s.size : Nat) : Int)) = false := by simp; omega
        have hbn : ¬ ((i : Nat) : Int) = ((s.size : Nat) : Int) := by omega
        have Hbe := Lib.hid (show Q.behind (s.data.toList.dropWhile Q.upB) = (Q.wd [] (s.data.toList.drop i)).map (wl [] ++ ·) by
          rw [Hbs.out.2, drop_byte (show i < s.size by omega)]
          show Q.wd [] _ = _
          cases Q.wd [] (s[i] :: s.data.toList.drop (i + 1)) <;> rfl)
        go_wp2_with fail
        go_step3
        rename_i hcont
        exact hcont _ _ (sp_word w0 w s (s.extract 0 i) hsz Hup.out K i [] none 0 0 hi (Nat.zero_le _) HK.out (Own.nil _ _ _ _) Hbe.out (fun y1 y7 y8 y9 y10 y11 y12 y13 y14 y15 y16 y17 y18 y19 y20 y21 y22 y23 y24 y25 y26 y27 y28 y29 y30 y31 y32 y33 y34 y35 y36 y37 y38 y39 y40 y41 y42 y43 y44 y45 y46 y47 y48 y49 y50 y51 y52 y53 y54 y55 y56 y57 y58 y59 y60 y61 y62 y63 y64 y65 y66 y67 y68 y69 y70 y71 y72 y73 y74 y75 y76 y77 y78 y79 y80 y81 y82 y83 y84 y85 y86 y87 y88 y89 y90 y91 h1 h2 => HK2.out _ y1 y7 y8 y9 y10 y11 y12 y13 y14 y15 y16 y17 y18 y19 y20 y21 y22 y23 y24 y25 y26 y27 y28 y29 y30 y31 y32 y33 y34 y35 y36 y37 y38 y39 y40 y41 y42 y43 y44 y45 y46 y47 y48 y49 y50 y51 y52 y53 y54 y55 y56 y57 y58 y59 y60 y61 y62 y63 y64 y65 y66 y67 y68 y69 y70 y71 y72 y73 y74 y75 y76 y77 y78 y79 y80 y81 y82 y83 y84 y85 y86 y87 y88 y89 y90 y91 Hup.out h1 h2) (fun ws2 ao2 cap2 w2 y1 y7 y8 y9 y10 y11 y12 y13 y14 y15 y16 y17 y18 y19 y20 y21 y22 y23 y24 y25 y26 y27 y28 y29 y30 y31 y32 y33 y34 y35 y36 y37 y38 y39 y40 y41 y42 y43 y44 y45 y46 y47 y48 y49 y50 y51 y52 y53 y54 y55 y56 y57 y58 y59 y60 y61 y62 y63 y64 y65 y66 y67 y68 y69 y70 y71 y72 y73 y74 y75 y76 y77 y78 y79 y80 y81 y82 y83 y84 y85 y86 y87 y88 y89 y90 y91 h1 h2 h3 h4 => HK1.out _ ws2 ao2 cap2 w2 y1 y7 y8 y9 y10 y11 y12 y13 y14 y15 y16 y17 y18 y19 y20 y21 y22 y23 y24 y25 y26 y27 y28 y29 y30 y31 y32 y33 y34 y35 y36 y37 y38 y39 y40 y41 y42 y43 y44 y45 y46 y47 y48 y49 y50 y51 y52 y53 y54 y55 y56 y57 y58 y59 y60 y61 y62 y63 y64 y65 y66 y67 y68 y69 y70 y71 y72 y73 y74 y75 y76 y77 y78 y79 y80 y81 y82 y83 y84 y85 y86 y87 y88 y89 y90 y91 Hup.out h1 h2 h3 h4) _ _ _ _ _ _ _ _ _ _ _ _ _ _ _ _ _ _ _ _ _ _ _ _ _ _ _ _ _ _ _ _ _ _ _ _ _ _ _ _ _ _ _ _ _ _ _ _ _ _ _ _ _ _ _ _ _ _ _ _ _ _ _ _ _ _ _ _ _ _ _ _ _ _ _ _ _ _ _ _ _ _ _ _ _ _ _)
end Go.Proofs.YtbdphdgomcabmaaGreatDoor
