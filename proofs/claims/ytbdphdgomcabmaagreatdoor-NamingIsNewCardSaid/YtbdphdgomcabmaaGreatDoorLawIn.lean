/- NamingIsNew: the law's function answers true. Conditions: the variables lie there (Env). -/
import Derived.Test.YtbdphdgomcabmaaGreatDoorNi6
import Derived.Test.YtbdphdgomcabmaaGreatDoorParO
import Derived.Test.YtbdphdgomcabmaaGreatDoorAwk
namespace Go.Proofs.YtbdphdgomcabmaaGreatDoor
open Go.RowKit

theorem Sep.join {w w1 : World} {B : Nat} {xs ys : List Rw} (h : Sep w B xs) (k : Kp w w1) (g : Sep w1 w.heap.size ys) (hB : B ≤ w.heap.size) : Sep w1 B (xs ++ ys) := by
  refine ⟨fun r hr => ?_, List.pairwise_append.2 ⟨h.ap, g.ap, fun a ha b hb x hx hy => ?_⟩⟩
  · rcases List.mem_append.1 hr with q | q
    · exact (h.kp k).own r q
    · exact (g.base hB).own r q
  · have := (Rw.lt (h.own a ha) hx).2
    have := (Rw.lt (g.own b hb) hy).1
    omega
set_option maxRecDepth 100000 in
set_option maxHeartbeats 16000000 in
theorem nisnew_true (w : World) (E : Nat → Addr) (m : Int) (hE : Env w E m) (one two : ByteArray) : Calls Tryz.prog 7 #[.string one, .string two] w fun e w' => e = .returned (.bool true) ∧ Kp w w' := by
  have HE := Lib.hid hE
  have HA := Lib.hid (fun (v : World) (hv : Kp w v) => awake_any v E m (hE.keep hv))
  clear hE
  by_cases h1 : 1000 < one.size
  · have g1 : (1000 : Int) < (one.size : Nat) := by omega
    have HA1 := Lib.hid (HA.out w (Kp.refl _))
    go_enter Tryz.func7, Tryz.ntmps7
    go_wp2_with fail
    (with_reducible refine HA1.out.mono ?_)
    rintro e w6 ⟨rfl, hk6⟩
    have HK6 := Lib.hid hk6
    clear hk6
    go_wp2_with fail
    go_ret
    exact ⟨rfl, HK6.out⟩
  have g1 : ¬ (1000 : Int) < (one.size : Nat) := by omega
  by_cases h2 : 1000 < two.size
  · have g2 : (1000 : Int) < (two.size : Nat) := by omega
    have HA1 := Lib.hid (HA.out w (Kp.refl _))
    go_enter Tryz.func7, Tryz.ntmps7
    go_wp2_with fail
    (with_reducible refine HA1.out.mono ?_)
    rintro e w6 ⟨rfl, hk6⟩
    have HK6 := Lib.hid hk6
    clear hk6
    go_wp2_with fail
    go_ret
    exact ⟨rfl, HK6.out⟩
  have g2 : ¬ (1000 : Int) < (two.size : Nat) := by omega
  have hq1a : (⟨#[78, 111, 105, 115, 101, 95]⟩ : ByteArray).size = 6 := rfl
  have hq2a : (⟨#[95, 50, 53, 53, 49, 57, 95, 67, 104, 97, 67, 104, 97, 80, 111, 108, 121, 95, 66, 76, 65, 75, 69, 50, 115]⟩ : ByteArray).size = 25 := rfl
  have hq3a : (⟨#[78, 111, 105, 115, 101, 95]⟩ ++ one : ByteArray).size = 6 + one.size := by rw [ByteArray.size_append]; rfl
  have hq5a : (⟨#[78, 111, 105, 115, 101, 95]⟩ : ByteArray).size + one.size ≤ 140737488351300 := by omega
  have hq6a : (⟨#[78, 111, 105, 115, 101, 95]⟩ ++ one : ByteArray).size + (⟨#[95, 50, 53, 53, 49, 57, 95, 67, 104, 97, 67, 104, 97, 80, 111, 108, 121, 95, 66, 76, 65, 75, 69, 50, 115]⟩ : ByteArray).size ≤ 140737488351300 := by omega
  clear hq1a hq2a hq3a
  have hq1b : (⟨#[78, 111, 105, 115, 101, 95]⟩ : ByteArray).size = 6 := rfl
  have hq2b : (⟨#[95, 50, 53, 53, 49, 57, 95, 67, 104, 97, 67, 104, 97, 80, 111, 108, 121, 95, 66, 76, 65, 75, 69, 50, 115]⟩ : ByteArray).size = 25 := rfl
  have hq3b : (⟨#[78, 111, 105, 115, 101, 95]⟩ ++ two : ByteArray).size = 6 + two.size := by rw [ByteArray.size_append]; rfl
  have hq5b : (⟨#[78, 111, 105, 115, 101, 95]⟩ : ByteArray).size + two.size ≤ 140737488351300 := by omega
  have hq6b : (⟨#[78, 111, 105, 115, 101, 95]⟩ ++ two : ByteArray).size + (⟨#[95, 50, 53, 53, 49, 57, 95, 67, 104, 97, 67, 104, 97, 80, 111, 108, 121, 95, 66, 76, 65, 75, 69, 50, 115]⟩ : ByteArray).size ≤ 140737488351300 := by omega
  clear hq1b hq2b hq3b
  have hkA := Kp.new w (.cells #[.string (⟨#[78, 111, 105, 115, 101, 95]⟩ ++ one ++ ⟨#[95, 50, 53, 53, 49, 57, 95, 67, 104, 97, 67, 104, 97, 80, 111, 108, 121, 95, 66, 76, 65, 75, 69, 50, 115]⟩), .string (⟨#[78, 111, 105, 115, 101, 95]⟩ ++ two ++ ⟨#[95, 50, 53, 53, 49, 57, 95, 67, 104, 97, 67, 104, 97, 80, 111, 108, 121, 95, 66, 76, 65, 75, 69, 50, 115]⟩), .string (⟨#[78, 111, 105, 115, 101, 95]⟩ ++ one ++ ⟨#[95, 50, 53, 53, 49, 57, 95, 67, 104, 97, 67, 104, 97, 80, 111, 108, 121, 95, 66, 76, 65, 75, 69, 50, 115]⟩)] 9)
  have hcn : ∀ j : Nat, j < 3 → ∃ s : ByteArray, (w.alloc (.cells #[.string (⟨#[78, 111, 105, 115, 101, 95]⟩ ++ one ++ ⟨#[95, 50, 53, 53, 49, 57, 95, 67, 104, 97, 67, 104, 97, 80, 111, 108, 121, 95, 66, 76, 65, 75, 69, 50, 115]⟩), .string (⟨#[78, 111, 105, 115, 101, 95]⟩ ++ two ++ ⟨#[95, 50, 53, 53, 49, 57, 95, 67, 104, 97, 67, 104, 97, 80, 111, 108, 121, 95, 66, 76, 65, 75, 69, 50, 115]⟩), .string (⟨#[78, 111, 105, 115, 101, 95]⟩ ++ one ++ ⟨#[95, 50, 53, 53, 49, 57, 95, 67, 104, 97, 67, 104, 97, 80, 111, 108, 121, 95, 66, 76, 65, 75, 69, 50, 115]⟩)] 9)).cell? ⟨w.heap.size, j, none⟩ = some (.string s) := fun j hj => by
    rw [World.cell?_alloc_at _ _ _ _ rfl]
    rcases (show j = 0 ∨ j = 1 ∨ j = 2 by omega) with rfl | rfl | rfl
    · exact ⟨_, rfl⟩
    · exact ⟨_, rfl⟩
    · exact ⟨_, rfl⟩
  go_enter Tryz.func7, Tryz.ntmps7
  go_upto_block 0 with fail
  clear h1 h2 g1 g2 hq5a hq6a hq5b hq6b
  generalize w.alloc (.cells #[.string (⟨#[78, 111, 105, 115, 101, 95]⟩ ++ one ++ ⟨#[95, 50, 53, 53, 49, 57, 95, 67, 104, 97, 67, 104, 97, 80, 111, 108, 121, 95, 66, 76, 65, 75, 69, 50, 115]⟩), .string (⟨#[78, 111, 105, 115, 101, 95]⟩ ++ two ++ ⟨#[95, 50, 53, 53, 49, 57, 95, 67, 104, 97, 67, 104, 97, 80, 111, 108, 121, 95, 66, 76, 65, 75, 69, 50, 115]⟩), .string (⟨#[78, 111, 105, 115, 101, 95]⟩ ++ one ++ ⟨#[95, 50, 53, 53, 49, 57, 95, 67, 104, 97, 67, 104, 97, 80, 111, 108, 121, 95, 66, 76, 65, 75, 69, 50, 115]⟩)] 9) = w1 at *
  obtain ⟨bn, hbn⟩ : ∃ bn, bn = w.heap.size := ⟨_, rfl⟩
  rw [← hbn] at hcn ⊢
  have HCn := Lib.hid hcn
  have HK1 := Lib.hid hkA
  clear hcn hkA hbn
  go_cut [6] (fun av wc => ∃ (aa : Option Addr) (ac : Nat) (rs : List Pr), av = .slice aa rs.length ac ∧ rs.length ≤ 3 ∧ (∀ r ∈ rs, r.Ok) ∧ Kp w wc ∧ Sep wc w.heap.size (⟨26, 4, ⟨aa, rs.length, ac⟩, (rs.map Pr.pt).flatMap ptc⟩ :: rs.flatMap Pr.rows))
  case rest =>
    obtain ⟨aa, ac, rs, rfl, h3, hok, hk, hS⟩ := hcut
    go_step
    exact in11 w wc HA.out aa rs.length ac rs hok h3 rfl hk hS _ _ _ _ _ _ _ _ _ _ _ _ _ _ _ _ _ _ _ _ _ _ _ _ _ _ _ _ _ _ _ _ _ _ _ _ _ _ _ _ _ _ _ _ _ _ _ _ _ _ _ _ _ _ _ _ _ _ _ _ _ _ _ _ _ _ _ _ _ _ _ _ _ _ _ _ _ _ _ _ _ _ _ _ _ _ _ _ _ _ _ _ _ _ _ _ _ _ _ _ _ _ _ _ _ _ _ _ _ _ _ _ _ _ _ _ _ _ _ _ _ _ _ _ _ _ _ _ _ _ _ _ _ _ _ _ _ _ _ _ _ _ _ _ _ _ _ _ _ _ _ _ _ _ _ _ _ _ _ _ _ _ _ _ _ _ _ _ _ _ _ _ _ _ _ _ _ _ _ _ _ _ _ _ _ _ _ _ _ _ _ _ _ _ _ _ _ _ _ _ _ _ _ _ _ _ _ _ _ _ _ _ _ _ _ _ _ _ _ _ _ _ _ _ _ _ _ _ _ _ _ _ _ _ _ _ _ _ _ _ _ _ _ _ _ _ _ _ _ _ _ _ _ _ _ _ _ _ _ _ _ _ _ _ _ _ _ _ _ _ _ _ _ _ _ _ _ _ _ _ _ _ _ _ _ _ _ _ _ _ _ _ _ _ _ _ _ _ _ _ _ _ _ _ _ _ _ _ _ _ _
  case first =>
    go_wp2_with fail
    go_loopw [6, 7] (fun av i wr => ∃ (j n : Nat) (aa : Option Addr) (ac : Nat) (rs : List Pr), j ≤ 3 ∧ i = .int .i64 (j : Nat) ∧ n ≤ j ∧ rs.length = n ∧ av = .slice aa n ac ∧ (∀ r ∈ rs, r.Ok) ∧ Kp w1 wr ∧ Sep wr w1.heap.size (⟨26, 4, ⟨aa, n, ac⟩, (rs.map Pr.pt).flatMap ptc⟩ :: rs.flatMap Pr.rows)) (fun _ i _ => 3 - (intOf i).toNat)
    case atStart => exact ⟨0, 0, none, 0, [], by omega, rfl, by omega, rfl, rfl, by simp, Kp.refl _, (Sep.nil _ _).cons (Own.nil _ _ _ _) (by simp [Rw.bl, blkL, blk])⟩
    case round =>
    obtain ⟨j, n, aa, ac, rs, hj, rfl, hn, hrn, rfl, hok, hk, hS⟩ := hrel
    rename World => wr
    have Hok := Lib.hid hok
    have Hrn := Lib.hid hrn
    clear hok hrn
    by_cases hlt : j < 3
    · have hji : ((j : Nat) : Int) < 3 := by omega
      obtain ⟨s, hs⟩ := HCn.out j hlt
      have hc := hk.cell hs
      have hk0 := Kp.trans HK1.out hk
      have HK := Lib.hid hk
      have hbw := hk.size
      have HP := Lib.hid (parseO_any wr E m (HE.out.keep hk0) s)
      have HS := Lib.hid hS
      clear hS hs hk hk0
      go_wp2_with fail
      (with_reducible refine HP.out.mono ?_)
      rintro e wi ⟨hki, ⟨nm, t0, t1, tl, rfl, hO⟩ | rfl⟩
      · unfold tvv
        obtain ⟨tf, td, ts, D, ls, b0, b1, htl, hD, p1, p2, p3, p4, p5⟩ := hO
        obtain ⟨r, hr⟩ : ∃ r : Pr, r = ⟨nm, t0, t1, tf, td, ts, D, ls, b0, b1⟩ := ⟨_, rfl⟩
        have hO : r.Ok := by subst hr; exact ⟨hD.hd, hD.h1, hD.hl, p1, p2, p3, p4, p5⟩
        have hpt : r.pt = ⟨nm, t0, t1, tl⟩ := by subst hr; unfold Pr.pt; rw [htl]
        have hrw : Sep wi wr.heap.size r.rows := by subst hr; exact hD.sep
        have hkq := Kp.new wi (.cells #[.string nm, .slice t0.ao t0.n t0.c, .slice t1.ao t1.n t1.c, .slice tl.ao tl.n tl.c] 26)
        have HF := Lib.hid (Four.new wi (.string nm) (.slice t0.ao t0.n t0.c) (.slice t1.ao t1.n t1.c) (.slice tl.ao tl.n tl.c) 26)
        have HSx := Lib.hid ((HS.out.join hki hrw hbw).kp hkq)
        have HKx := Lib.hid (Kp.trans HK.out (Kp.trans hki hkq))
        have hsx := (Kp.trans hki hkq).size
        have HO := Lib.hid hO
        have Hpt := Lib.hid hpt
        clear hr hO hpt hrw hkq hki HP hD p1 p2 p3 p4 p5 htl hc
        go_upto_region 9 with fail
        generalize wi.alloc (.cells #[.string nm, .slice t0.ao t0.n t0.c, .slice t1.ao t1.n t1.c, .slice tl.ao tl.n tl.c] 26) = wv at *
        generalize wi.heap.size = bv at *
        obtain ⟨x0, x1, x2_, x3_, _, _, _, _⟩ := HF.out
        have hkn := Kp.new wv (.cells #[.string nm, .slice t0.ao t0.n t0.c, .slice t1.ao t1.n t1.c, .slice tl.ao tl.n tl.c] 26)
        have hcs : Cs (wv.alloc (.cells #[.string nm, .slice t0.ao t0.n t0.c, .slice t1.ao t1.n t1.c, .slice tl.ao tl.n tl.c] 26)) (some ⟨wv.heap.size, 0, none⟩) (ptc ⟨nm, t0, t1, tl⟩) := Cs.new wv (ptc ⟨nm, t0, t1, tl⟩) 26 (0, 0)
        have hSk := HSx.out.kp hkn
        have hown : Own (wv.alloc (.cells #[.string nm, .slice t0.ao t0.n t0.c, .slice t1.ao t1.n t1.c, .slice tl.ao tl.n tl.c] 26)) w1.heap.size 26 4 aa n ac ((rs.map Pr.pt).flatMap ptc) := hSk.head
        have hbs : w1.heap.size ≤ (wv.alloc (.cells #[.string nm, .slice t0.ao t0.n t0.c, .slice t1.ao t1.n t1.c, .slice tl.ao tl.n tl.c] 26)).heap.size := by have := hkn.size; omega
        have hzs : ((rs ++ [r]).map Pr.pt).flatMap ptc = (rs.map Pr.pt).flatMap ptc ++ ptc ⟨nm, t0, t1, tl⟩ := by rw [List.map_append, List.flatMap_append, List.map_cons, List.map_nil, List.flatMap_cons, List.flatMap_nil, List.append_nil, Hpt.out]
        go_upto_region 7 with (at_builtin; go_loud (refine wpList_app rfl (.tmp 63) (.tmp 65) 42 rfl el42 w1.heap.size rfl hown rfl (ptc ⟨nm, t0, t1, tl⟩) rfl hcs (by simp [ptc, tvv, Value.oneCell']) (n + 1) rfl (((rs ++ [r]).map Pr.pt).flatMap ptc) hzs (by omega) hbs ?_); intro ao2 cap2 w9 ha)
        have hS9 := Sep.app hSk ha
        have hk9 : Kp w1 w9 := ((Fr.of_kp (Kp.trans HKx.out hkn)).step ha.fr (fun x hx => .inr (hown.lt x (mem_blkL.1 hx)).1)).kp
        have Hfin := Lib.hid (show _ ∧ _ ∧ _ ∧ _ from ⟨(show (rs ++ [r]).length = n + 1 by rw [List.length_append, Hrn.out]; rfl), (fun x hx => by rcases List.mem_append.1 hx with q | q; exact Hok.out x q; (simp only [List.mem_singleton] at q; subst q; exact HO.out) : ∀ x ∈ rs ++ [r], x.Ok), hk9, (by rw [List.flatMap_append]; simpa using hS9 : Sep w9 w1.heap.size (⟨26, 4, ⟨ao2, n + 1, cap2⟩, ((rs ++ [r]).map Pr.pt).flatMap ptc⟩ :: (rs ++ [r]).flatMap Pr.rows))⟩)
        clear hkn hcs hSk hown hbs hzs ha hS9 hk9 x0 x1 x2_ x3_
        go_wp2_with fail
        go_roundw
        case rel => exact ⟨j + 1, n + 1, _, _, rs ++ [r], by omega, by go_num, by omega, Hfin.out.1, rfl, Hfin.out.2.1, Hfin.out.2.2.1, Hfin.out.2.2.2⟩
        case measure => simp [intOf]; omega
      · unfold zeroP
        have hkq := Kp.new wi (.cells #[.string ⟨#[]⟩, .slice none 0 0, .slice none 0 0, .slice none 0 0] 26)
        have hkx := Kp.trans HK.out (Kp.trans hki hkq)
        have HSx := Lib.hid (And.intro hkx (HS.out.kp (Kp.trans hki hkq)))
        clear hkq hki hkx HP hc
        go_wp2_with fail
        go_roundw
        case rel => exact ⟨j + 1, n, _, _, rs, by omega, by go_num, by omega, Hrn.out, rfl, Hok.out, HSx.out.1, HSx.out.2⟩
        case measure => simp [intOf]; omega
    · obtain rfl : j = 3 := by omega
      have hrl := Hrn.out
      subst hrl
      have Hfin := Lib.hid (And.intro hn (And.intro (Kp.trans HK1.out hk) (hS.base HK1.out.size)))
      clear hn hk hS
      rw [show ((3 : Nat) : Int) = 3 from rfl]
      go_wp2_with fail
      go_meet
      case rel => exact ⟨aa, ac, rs, rfl, Hfin.out.1, Hok.out, Hfin.out.2.1, Hfin.out.2.2⟩
end Go.Proofs.YtbdphdgomcabmaaGreatDoor
