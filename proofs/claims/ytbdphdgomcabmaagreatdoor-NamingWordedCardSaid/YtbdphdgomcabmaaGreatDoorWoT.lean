/- NamingWorded, behind the loop over the words. Conditions: the variables lie there (Env); the words lie there. -/
import Derived.Test.YtbdphdgomcabmaaGreatDoorWoP
namespace Go.Proofs.YtbdphdgomcabmaaGreatDoor
open Go.RowKit

/-- The statements from this region's on. -/
def seqAt (n : Nat) : Code → Option Code
  | .seq (.seq (.region m o f) a) b => if m = n then some (.seq (.seq (.region m o f) a) b) else seqAt n b
  | .seq _ b => seqAt n b
  | _ => none
noncomputable def tail6 : Code := match Tryz.f6.body with | some c => (seqAt 18 c).getD .skip | none => .skip
set_option maxRecDepth 100000 in
set_option maxHeartbeats 16000000 in
theorem worded_tail (w : World) (E : Nat → Addr) (m : Int) (hE : Env w E m) (bse fl : ByteArray) (ao : Option Addr) (n cw : Nat) (ss : List ByteArray) (hW : Strs w ao n ss) (wq : World) (hk : Kp w wq)
    (hb20 : bse.size ≤ 20) (hn20 : n ≤ 20) (hn0 : 0 < n) (hflz : fl.size ≤ 461) (hdt : fl.data.toList = bse.data.toList ++ Q.plusAll 0 (wl ss)) (hfi : ∀ x ∈ wl ss, Q.fineW x = true ∧ x.length ≤ 20)
    (x2 x3 x4 iv6 x7 x8 x9 x10 x11 x12 x13 x14 x15 x16 x17 x18 x19 x20 x21 x22 x23 x24 x25 x26 x27 x28 x29 x30 x31 x32 x33 x34 x35 x36 x37 x38 x39 x40 x41 x42 x43 x44 x45 x46 x47 x48 x49 x50 x51 x52 x53 x54 x55 x56 x57 x58 x59 x60 x61 x62 x63 x64 x65 x66 x67 x68 x69 x70 x71 x72 x73 x74 x75 x76 x77 x78 x79 x80 x81 x82 x83 x84 x85 x86 x87 x88 x89 x90 x91 x92 x93 x94 x95 x96 x97 x98 x99 x100 x101 x102 x103 x104 x105 x106 x107 x108 x109 x110 x111 x112 x113 x114 x115 x116 x117 x118 x119 x120 x121 x122 x123 x124 x125 x126 x127 x128 x129 x130 x131 x132 x133 x134 x135 x136 x137 x138 x139 x140 x141 x142 x143 x144 x145 x146 x147 x148 x149 x150 x151 x152 x153 x154 x155 x156 x157 x158 x159 x160 x161 x162 x163 x164 x165 x166 x167 x168 x169 x170 x171 x172 x173 x174 x175 x176 x177 x178 x179 x180 x181 x182 x183 x184 x185 x186 x187 x188 x189 : Value) :
    tail6.wp Tryz.prog (bodyPost Tryz.prog Tryz.f6 fun e w' => e = .returned (.bool true) ∧ Kp w w') { tmps := List.toArray (.string bse :: .slice ao n cw :: x2 :: x3 :: x4 :: .string fl :: iv6 :: x7 :: x8 :: x9 :: x10 :: x11 :: x12 :: x13 :: x14 :: x15 :: x16 :: x17 :: x18 :: x19 :: x20 :: x21 :: x22 :: x23 :: x24 :: x25 :: x26 :: x27 :: x28 :: x29 :: x30 :: x31 :: x32 :: x33 :: x34 :: x35 :: x36 :: x37 :: x38 :: x39 :: x40 :: x41 :: x42 :: x43 :: x44 :: x45 :: x46 :: x47 :: x48 :: x49 :: x50 :: x51 :: x52 :: x53 :: x54 :: x55 :: x56 :: x57 :: x58 :: x59 :: x60 :: x61 :: x62 :: x63 :: x64 :: x65 :: x66 :: x67 :: x68 :: x69 :: x70 :: x71 :: x72 :: x73 :: x74 :: x75 :: x76 :: x77 :: x78 :: x79 :: x80 :: x81 :: x82 :: x83 :: x84 :: x85 :: x86 :: x87 :: x88 :: x89 :: x90 :: x91 :: x92 :: x93 :: x94 :: x95 :: x96 :: x97 :: x98 :: x99 :: x100 :: x101 :: x102 :: x103 :: x104 :: x105 :: x106 :: x107 :: x108 :: x109 :: x110 :: x111 :: x112 :: x113 :: x114 :: x115 :: x116 :: x117 :: x118 :: x119 :: x120 :: x121 :: x122 :: x123 :: x124 :: x125 :: x126 :: x127 :: x128 :: x129 :: x130 :: x131 :: x132 :: x133 :: x134 :: x135 :: x136 :: x137 :: x138 :: x139 :: x140 :: x141 :: x142 :: x143 :: x144 :: x145 :: x146 :: x147 :: x148 :: x149 :: x150 :: x151 :: x152 :: x153 :: x154 :: x155 :: x156 :: x157 :: x158 :: x159 :: x160 :: x161 :: x162 :: x163 :: x164 :: x165 :: x166 :: x167 :: x168 :: x169 :: x170 :: x171 :: x172 :: x173 :: x174 :: x175 :: x176 :: x177 :: x178 :: x179 :: x180 :: x181 :: x182 :: x183 :: x184 :: x185 :: x186 :: x187 :: x188 :: x189 :: []), defers := [] } wq := by
  have HE := Lib.hid hE
  have HW := Lib.hid hW
  have HKb := Lib.hid hk
  have Hdt := Lib.hid hdt
  have Hfi := Lib.hid hfi
  clear hE hW hk hdt hfi
  have hq1 : (⟨#[78, 111, 105, 115, 101, 95]⟩ : ByteArray).size = 6 := rfl
  have hq2 : (⟨#[95, 50, 53, 53, 49, 57, 95, 67, 104, 97, 67, 104, 97, 80, 111, 108, 121, 95, 66, 76, 65, 75, 69, 50, 115]⟩ : ByteArray).size = 25 := rfl
  have hq7 : (⟨#[43]⟩ : ByteArray).size = 1 := rfl
  have hq3 : (⟨#[78, 111, 105, 115, 101, 95]⟩ ++ fl : ByteArray).size = 6 + fl.size := by rw [ByteArray.size_append]; rfl
  have hq8 : (⟨#[78, 111, 105, 115, 101, 95]⟩ ++ fl ++ ⟨#[43]⟩ : ByteArray).size = 7 + fl.size := by rw [ByteArray.size_append, hq3, hq7]; omega
  have hq5 : (⟨#[78, 111, 105, 115, 101, 95]⟩ : ByteArray).size + fl.size ≤ 140737488351300 := by omega
  have hq6 : (⟨#[78, 111, 105, 115, 101, 95]⟩ ++ fl : ByteArray).size + (⟨#[95, 50, 53, 53, 49, 57, 95, 67, 104, 97, 67, 104, 97, 80, 111, 108, 121, 95, 66, 76, 65, 75, 69, 50, 115]⟩ : ByteArray).size ≤ 140737488351300 := by omega
  have hq9 : (⟨#[78, 111, 105, 115, 101, 95]⟩ ++ fl : ByteArray).size + (⟨#[43]⟩ : ByteArray).size ≤ 140737488351300 := by omega
  have hq10 : (⟨#[78, 111, 105, 115, 101, 95]⟩ ++ fl ++ ⟨#[43]⟩ : ByteArray).size + (⟨#[95, 50, 53, 53, 49, 57, 95, 67, 104, 97, 67, 104, 97, 80, 111, 108, 121, 95, 66, 76, 65, 75, 69, 50, 115]⟩ : ByteArray).size ≤ 140737488351300 := by omega
  clear hq1 hq2 hq3 hq7 hq8
  unfold tail6
  conv => arg 2; whnf
  go_wp2_with fail
  go_loopw [9] (fun iv_ wr => ∃ i : Nat, i ≤ bse.size ∧ iv_ = .int .i64 (i : Nat) ∧ Kp w wr ∧ ∀ j (h : j < bse.size), j < i → Q.upB bse[j] = true) (fun i _ => bse.size - (intOf i).toNat)
  case atStart => exact ⟨0, Nat.zero_le _, rfl, HKb.out, fun j h h2 => by omega⟩
  case round =>
    obtain ⟨i, hi, rfl, hkr, hall⟩ := hrel
    rename World => wr
    have HKr := Lib.hid hkr
    have Hall0 := Lib.hid hall
    clear hkr hall
    by_cases hlt : i < bse.size
    · have hii : ((i : Nat) : Int) < (bse.size : Nat) := by omega
      go_upto_region 21 with fail
      go_cut [125] (fun v wc => v = .bool (!Q.upB bse[i]) ∧ wc = wr)
      case first =>
        rcases rangeU (bse[i].toNat) with hr | hr | hr | hr | hr
        · have Hu := Lib.hid (show Q.upB bse[i] = true by unfold Q.upB Q.digB; simp; omega)
          have g0 : ¬ ((bse[i].toNat : Nat) : Int) < 65 := by omega
          have d0 : decide (((bse[i].toNat : Nat) : Int) < 65) = false := decide_eq_false (by omega)
          have g1 : ¬ (90 : Int) < (bse[i].toNat : Nat) := by omega
          have d1 : decide ((90 : Int) < (bse[i].toNat : Nat)) = false := decide_eq_false (by omega)
          clear hr
          go_wp2_with fail
          go_meet
          case rel => exact ⟨by rw [Hu.out]; rfl, rfl⟩
        · have Hu := Lib.hid (show Q.upB bse[i] = true by unfold Q.upB Q.digB; simp; omega)
          have g0 : ((bse[i].toNat : Nat) : Int) < 65 := by omega
          have d0 : decide (((bse[i].toNat : Nat) : Int) < 65) = true := decide_eq_true (by omega)
          have g1 : ¬ ((bse[i].toNat : Nat) : Int) < 48 := by omega
          have d1 : decide (((bse[i].toNat : Nat) : Int) < 48) = false := decide_eq_false (by omega)
          have g2 : ¬ (57 : Int) < (bse[i].toNat : Nat) := by omega
          have d2 : decide ((57 : Int) < (bse[i].toNat : Nat)) = false := decide_eq_false (by omega)
          clear hr
          go_wp2_with fail
          go_meet
          case rel => exact ⟨by rw [Hu.out]; rfl, rfl⟩
        · have Hu := Lib.hid (show Q.upB bse[i] = false by unfold Q.upB Q.digB; simp; omega)
          have g0 : ((bse[i].toNat : Nat) : Int) < 65 := by omega
          have d0 : decide (((bse[i].toNat : Nat) : Int) < 65) = true := decide_eq_true (by omega)
          have g1 : ((bse[i].toNat : Nat) : Int) < 48 := by omega
          have d1 : decide (((bse[i].toNat : Nat) : Int) < 48) = true := decide_eq_true (by omega)
          clear hr
          go_wp2_with fail
          go_meet
          case rel => exact ⟨by rw [Hu.out]; rfl, rfl⟩
        · have Hu := Lib.hid (show Q.upB bse[i] = false by unfold Q.upB Q.digB; simp; omega)
          have g0 : ((bse[i].toNat : Nat) : Int) < 65 := by omega
          have d0 : decide (((bse[i].toNat : Nat) : Int) < 65) = true := decide_eq_true (by omega)
          have g1 : ¬ ((bse[i].toNat : Nat) : Int) < 48 := by omega
          have d1 : decide (((bse[i].toNat : Nat) : Int) < 48) = false := decide_eq_false (by omega)
          have g2 : (57 : Int) < (bse[i].toNat : Nat) := by omega
          have d2 : decide ((57 : Int) < (bse[i].toNat : Nat)) = true := decide_eq_true (by omega)
          clear hr
          go_wp2_with fail
          go_meet
          case rel => exact ⟨by rw [Hu.out]; rfl, rfl⟩
        · have Hu := Lib.hid (show Q.upB bse[i] = false by unfold Q.upB Q.digB; simp; omega)
          have g0 : ¬ ((bse[i].toNat : Nat) : Int) < 65 := by omega
          have d0 : decide (((bse[i].toNat : Nat) : Int) < 65) = false := decide_eq_false (by omega)
          have g1 : (90 : Int) < (bse[i].toNat : Nat) := by omega
          have d1 : decide ((90 : Int) < (bse[i].toNat : Nat)) = true := decide_eq_true (by omega)
          have g2 : ¬ ((bse[i].toNat : Nat) : Int) < 48 := by omega
          have d2 : decide (((bse[i].toNat : Nat) : Int) < 48) = false := decide_eq_false (by omega)
          have g3 : (57 : Int) < (bse[i].toNat : Nat) := by omega
          have d3 : decide ((57 : Int) < (bse[i].toNat : Nat)) = true := decide_eq_true (by omega)
          clear hr
          go_wp2_with fail
          go_meet
          case rel => exact ⟨by rw [Hu.out]; rfl, rfl⟩
      case rest =>
        obtain ⟨rfl, hcw⟩ := hcut
        replace hcw := hcw.symm
        subst hcw
        cases hu : Q.upB bse[i] with
        | true =>
          have Hn := Lib.hid (step_all hlt Hall0.out hu)
          clear hu
          go_wp2_with fail
          go_roundw
          case rel => exact ⟨i + 1, by omega, by go_num, HKr.out, Hn.out⟩
          case measure => simp [intOf]; omega
        | false =>
          clear hu
          have HN := Lib.hid (awake_any wr E m (HE.out.keep HKr.out))
          go_wp2_with fail
          (with_reducible refine HN.out.mono ?_)
          rintro e w9 ⟨rfl, hk9⟩
          have HK9 := Lib.hid (Kp.trans HKr.out hk9)
          clear hk9
          go_wp2_with fail
          go_ret
          exact ⟨rfl, HK9.out⟩
    · obtain rfl : i = bse.size := by omega
      have Hall := Lib.hid (all_of Hall0.out)
      have hii : ¬ ((bse.size : Nat) : Int) < (bse.size : Nat) := by omega
      clear Hall0 hlt
      have hlen : (wl ss).length = n := by unfold wl; rw [List.length_map]; exact HW.out.1
      have hz : ∀ s ∈ ss, s.size ≤ 281474976710656 := fun s hs => by have := (Hfi.out s.data.toList (List.mem_map.2 ⟨s, hs, rfl⟩)).2; rw [Lib.size_eq]; omega
      have hwo := wo_row Hall.out Hfi.out (by intro h; rw [h] at hlen; simp at hlen; omega) (by omega) Hdt.out
      have HP := Lib.hid (parseN_any wr E m (HE.out.keep HKr.out) (⟨#[78, 111, 105, 115, 101, 95]⟩ ++ fl ++ ⟨#[95, 50, 53, 53, 49, 57, 95, 67, 104, 97, 67, 104, 97, 80, 111, 108, 121, 95, 66, 76, 65, 75, 69, 50, 115]⟩))
      unfold NmPost at HP
      rw [hwo.1] at HP
      have HG := Lib.hid (fun (v : World) (hv : Kp w v) => parseN_any v E m (HE.out.keep hv) (⟨#[78, 111, 105, 115, 101, 95]⟩ ++ fl ++ ⟨#[43]⟩ ++ ⟨#[95, 50, 53, 53, 49, 57, 95, 67, 104, 97, 67, 104, 97, 80, 111, 108, 121, 95, 66, 76, 65, 75, 69, 50, 115]⟩))
      unfold NmPost at HG
      rw [hwo.2] at HG
      clear hwo hlen
      cases hr : rowOf bse.data.toList with
      | none =>
        rw [hr] at HP
        simp only [errN, Bool.false_eq_true, if_false] at HP
        have HFi := Lib.hid (fun (v : World) (hv : Kp w v) => find_all v E m (HE.out.keep hv) bse (by unfold maxLen; omega))
        rw [fnd_none hr] at HFi
        simp only at HFi
        clear hr
        go_wp2_with fail
        (with_reducible refine HP.out.mono ?_)
        rintro e wi1 ⟨hi1, t0, t1, tl, rfl, hp1⟩
        unfold tvv
        have hj1 := Kp.new wi1 (.cells #[.string ⟨#[]⟩, .slice t0.ao t0.n t0.c, .slice t1.ao t1.n t1.c, .slice tl.ao tl.n tl.c] 26)
        have HF1 := Lib.hid (Four.new wi1 (.string ⟨#[]⟩) (.slice t0.ao t0.n t0.c) (.slice t1.ao t1.n t1.c) (.slice tl.ao tl.n tl.c) 26)
        have HP1 := Lib.hid (hp1.kp hj1)
        have hij1 := Kp.trans hi1 hj1
        have HK1 := Lib.hid (Kp.trans HKr.out hij1)
        clear hi1 hj1 hij1 hp1 HP
        go_upto_region 24 with fail
        generalize wi1.alloc (.cells #[.string ⟨#[]⟩, .slice t0.ao t0.n t0.c, .slice t1.ao t1.n t1.c, .slice tl.ao tl.n tl.c] 26) = v1 at *
        generalize wi1.heap.size = p1 at *
        have HC := Lib.hid (HFi.out v1 HK1.out)
        clear HFi
        go_wp2_with fail
        (with_reducible refine HC.out.mono ?_)
        rintro e wi2 ⟨hi2, u0, u1, ul, rfl, hp2⟩
        unfold tvv
        have hj2 := Kp.new wi2 (.cells #[.string ⟨#[]⟩, .slice u0.ao u0.n u0.c, .slice u1.ao u1.n u1.c, .slice ul.ao ul.n ul.c] 26)
        have HF2 := Lib.hid (Four.new wi2 (.string ⟨#[]⟩) (.slice u0.ao u0.n u0.c) (.slice u1.ao u1.n u1.c) (.slice ul.ao ul.n ul.c) 26)
        have HP2 := Lib.hid (hp2.kp hj2)
        have hij2 := Kp.trans hi2 hj2
        have HK2 := Lib.hid (Kp.trans HK1.out hij2)
        replace HF1 := Lib.hid (HF1.out.kp hij2)
        replace HP1 := Lib.hid (HP1.out.kp hij2)
        clear hi2 hj2 hij2 hp2 HC
        go_upto_region 26 with fail
        generalize wi2.alloc (.cells #[.string ⟨#[]⟩, .slice u0.ao u0.n u0.c, .slice u1.ao u1.n u1.c, .slice ul.ao ul.n ul.c] 26) = v2 at *
        generalize wi2.heap.size = p2 at *
        have hc := (HE.out.keep HK2.out).c13
        have es := eq_same v2 (E 13)
        have HN := Lib.hid (awake_any v2 E m (HE.out.keep HK2.out))
        go_wp2_with fail
        (with_reducible refine HN.out.mono ?_)
        rintro e w9 ⟨rfl, hk9⟩
        have HK9 := Lib.hid (Kp.trans HK2.out hk9)
        clear hk9
        go_wp2_with fail
        go_ret
        exact ⟨rfl, HK9.out⟩
      | some y =>
        have Hy := Lib.hid (row_s hr).1
        have hM := mdf_cases ⟨y.1, y.2.1.1, y.2.1.2, y.2.2.1⟩ (wl ss)
        have HMo := Lib.hid (fun (v : World) (hv : Kp w v) (t0 t1 tl : Tv) (hp : PatI v t0.ao t1.ao tl.ao t0.n t1.n tl.n y.2.1.1 y.2.1.2 y.2.2.1) => wmod_any v E m (HE.out.keep hv) y Hy.out t0 t1 tl hp ao n cw ss (HW.out.kp hv) hz (by omega))
        rw [hr] at HP
        simp only at HP
        have HFi := Lib.hid (fun (v : World) (hv : Kp w v) => find_all v E m (HE.out.keep hv) bse (by unfold maxLen; omega))
        rw [fnd_some hr] at HFi
        simp only at HFi
        clear hr
        obtain ⟨M, hMM⟩ : ∃ M, mdf ⟨y.1, y.2.1.1, y.2.1.2, y.2.2.1⟩ (wl ss) = M := ⟨_, rfl⟩
        rw [hMM] at HP HMo hM
        clear hMM
        rcases hM with ⟨q, _, rfl⟩ | ⟨_, c, h0, rfl⟩
        · simp only [errN, decide_true, if_true] at HP
          simp only [errV_nil] at HMo
          go_wp2_with fail
          (with_reducible refine HP.out.mono ?_)
          rintro e wi1 ⟨hi1, t0, t1, tl, rfl, hp1⟩
          unfold tvv
          have hj1 := Kp.new wi1 (.cells #[.string (bs q.nm), .slice t0.ao t0.n t0.c, .slice t1.ao t1.n t1.c, .slice tl.ao tl.n tl.c] 26)
          have HF1 := Lib.hid (Four.new wi1 (.string (bs q.nm)) (.slice t0.ao t0.n t0.c) (.slice t1.ao t1.n t1.c) (.slice tl.ao tl.n tl.c) 26)
          have HP1 := Lib.hid (hp1.kp hj1)
          have hij1 := Kp.trans hi1 hj1
          have HK1 := Lib.hid (Kp.trans HKr.out hij1)
          clear hi1 hj1 hij1 hp1 HP
          go_upto_region 24 with fail
          generalize wi1.alloc (.cells #[.string (bs q.nm), .slice t0.ao t0.n t0.c, .slice t1.ao t1.n t1.c, .slice tl.ao tl.n tl.c] 26) = v1 at *
          generalize wi1.heap.size = p1 at *
          have HC := Lib.hid (HFi.out v1 HK1.out)
          clear HFi
          go_wp2_with fail
          (with_reducible refine HC.out.mono ?_)
          rintro e wi2 ⟨hi2, u0, u1, ul, rfl, hp2⟩
          unfold tvv
          have hj2 := Kp.new wi2 (.cells #[.string (bs y.1), .slice u0.ao u0.n u0.c, .slice u1.ao u1.n u1.c, .slice ul.ao ul.n ul.c] 26)
          have HF2 := Lib.hid (Four.new wi2 (.string (bs y.1)) (.slice u0.ao u0.n u0.c) (.slice u1.ao u1.n u1.c) (.slice ul.ao ul.n ul.c) 26)
          have HP2 := Lib.hid (hp2.kp hj2)
          have hij2 := Kp.trans hi2 hj2
          have HK2 := Lib.hid (Kp.trans HK1.out hij2)
          replace HF1 := Lib.hid (HF1.out.kp hij2)
          replace HP1 := Lib.hid (HP1.out.kp hij2)
          clear hi2 hj2 hij2 hp2 HC
          go_upto_region 27 with fail
          generalize wi2.alloc (.cells #[.string (bs y.1), .slice u0.ao u0.n u0.c, .slice u1.ao u1.n u1.c, .slice ul.ao ul.n ul.c] 26) = v2 at *
          generalize wi2.heap.size = p2 at *
          have HC := Lib.hid (HMo.out v2 HK2.out u0 u1 ul HP2.out)
          clear HMo
          obtain ⟨x0, x1, x2_, x3_, _, _, _, _⟩ := HF2.out
          go_wp2_with fail
          (with_reducible refine HC.out.mono ?_)
          rintro e wi3 ⟨hi3, z0, z1, zl, rfl, hp3⟩
          unfold tvv
          clear x0 x1 x2_ x3_
          have hj3 := Kp.new wi3 (.cells #[.string (bs q.nm), .slice z0.ao z0.n z0.c, .slice z1.ao z1.n z1.c, .slice zl.ao zl.n zl.c] 26)
          have HF3 := Lib.hid (Four.new wi3 (.string (bs q.nm)) (.slice z0.ao z0.n z0.c) (.slice z1.ao z1.n z1.c) (.slice zl.ao zl.n zl.c) 26)
          have HP3 := Lib.hid (hp3.kp hj3)
          have hij3 := Kp.trans hi3 hj3
          have HK3 := Lib.hid (Kp.trans HK2.out hij3)
          replace HF1 := Lib.hid (HF1.out.kp hij3)
          replace HP1 := Lib.hid (HP1.out.kp hij3)
          clear hi3 hj3 hij3 hp3 HC
          go_upto_region 30 with fail
          generalize wi3.alloc (.cells #[.string (bs q.nm), .slice z0.ao z0.n z0.c, .slice z1.ao z1.n z1.c, .slice zl.ao zl.n zl.c] 26) = v3 at *
          generalize wi3.heap.size = p3 at *
          have HC := Lib.hid (HG.out v3 HK3.out)
          simp only [errN, Bool.false_eq_true, if_false] at HC
          clear HG
          go_wp2_with fail
          (with_reducible refine HC.out.mono ?_)
          rintro e wi4 ⟨hi4, s0, s1, sl, rfl, hp4⟩
          unfold tvv
          have hj4 := Kp.new wi4 (.cells #[.string ⟨#[]⟩, .slice s0.ao s0.n s0.c, .slice s1.ao s1.n s1.c, .slice sl.ao sl.n sl.c] 26)
          have HF4 := Lib.hid (Four.new wi4 (.string ⟨#[]⟩) (.slice s0.ao s0.n s0.c) (.slice s1.ao s1.n s1.c) (.slice sl.ao sl.n sl.c) 26)
          have HP4 := Lib.hid (hp4.kp hj4)
          have hij4 := Kp.trans hi4 hj4
          have HK4 := Lib.hid (Kp.trans HK3.out hij4)
          replace HF1 := Lib.hid (HF1.out.kp hij4)
          replace HP1 := Lib.hid (HP1.out.kp hij4)
          replace HF3 := Lib.hid (HF3.out.kp hij4)
          replace HP3 := Lib.hid (HP3.out.kp hij4)
          clear hi4 hj4 hij4 hp4 HC
          go_upto_region 31 with fail
          generalize wi4.alloc (.cells #[.string ⟨#[]⟩, .slice s0.ao s0.n s0.c, .slice s1.ao s1.n s1.c, .slice sl.ao sl.n sl.c] 26) = v4 at *
          generalize wi4.heap.size = p4 at *
          obtain ⟨x0, x1, x2_, x3_, _, _, _, _⟩ := HF1.out
          obtain ⟨y0, y1, y2_, y3_, _, _, _, _⟩ := HF3.out
          have hc := (HE.out.keep HK4.out).c13
          have es := eq_same v4 (E 13)
          have HS := Lib.hid (same_yes v4 (bs q.nm) t0.ao t1.ao tl.ao z0.ao z1.ao zl.ao t0.n t0.c t1.n t1.c tl.n tl.c z0.n z0.c z1.n z1.c zl.n zl.c q.b0 q.b1 q.ls HP1.out HP3.out)
          go_wp2_with fail
          (with_reducible refine HS.out.mono ?_)
          rintro e w6 ⟨rfl, hk6⟩
          have HK6 := Lib.hid (Kp.trans HK4.out hk6)
          clear hc es x0 x1 x2_ x3_ y0 y1 y2_ y3_ HS hk6
          have hc := (HE.out.keep HK6.out).c13
          have es := eq_same w6 (E 13)
          have HN := Lib.hid (awake_any w6 E m (HE.out.keep HK6.out))
          go_wp2_with fail
          (with_reducible refine HN.out.mono ?_)
          rintro e w9 ⟨rfl, hk9⟩
          have HK9 := Lib.hid (Kp.trans HK6.out hk9)
          clear hk9
          go_wp2_with fail
          go_ret
          exact ⟨rfl, HK9.out⟩
        · simp only [errN, decide_eq_false h0, Bool.false_eq_true, if_false] at HP
          simp only [errV_ptr E h0] at HMo
          go_wp2_with fail
          (with_reducible refine HP.out.mono ?_)
          rintro e wi1 ⟨hi1, t0, t1, tl, rfl, hp1⟩
          unfold tvv
          have hn0 : tl.n = 0 := by rw [← hp1.il.1]; rfl
          obtain ⟨tla, tln, tlc⟩ := tl
          simp only at hn0 hp1 ⊢
          subst hn0
          have hj1 := Kp.new wi1 (.cells #[.string ⟨#[]⟩, .slice t0.ao t0.n t0.c, .slice t1.ao t1.n t1.c, .slice tla 0 tlc] 26)
          have HF1 := Lib.hid (Four.new wi1 (.string ⟨#[]⟩) (.slice t0.ao t0.n t0.c) (.slice t1.ao t1.n t1.c) (.slice tla 0 tlc) 26)
          have HP1 := Lib.hid (hp1.kp hj1)
          have hij1 := Kp.trans hi1 hj1
          have HK1 := Lib.hid (Kp.trans HKr.out hij1)
          clear hi1 hj1 hij1 hp1 HP
          go_upto_region 24 with fail
          generalize wi1.alloc (.cells #[.string ⟨#[]⟩, .slice t0.ao t0.n t0.c, .slice t1.ao t1.n t1.c, .slice tla 0 tlc] 26) = v1 at *
          generalize wi1.heap.size = p1 at *
          have HC := Lib.hid (HFi.out v1 HK1.out)
          clear HFi
          go_wp2_with fail
          (with_reducible refine HC.out.mono ?_)
          rintro e wi2 ⟨hi2, u0, u1, ul, rfl, hp2⟩
          unfold tvv
          have hj2 := Kp.new wi2 (.cells #[.string (bs y.1), .slice u0.ao u0.n u0.c, .slice u1.ao u1.n u1.c, .slice ul.ao ul.n ul.c] 26)
          have HF2 := Lib.hid (Four.new wi2 (.string (bs y.1)) (.slice u0.ao u0.n u0.c) (.slice u1.ao u1.n u1.c) (.slice ul.ao ul.n ul.c) 26)
          have HP2 := Lib.hid (hp2.kp hj2)
          have hij2 := Kp.trans hi2 hj2
          have HK2 := Lib.hid (Kp.trans HK1.out hij2)
          replace HF1 := Lib.hid (HF1.out.kp hij2)
          clear hi2 hj2 hij2 hp2 HC
          go_upto_region 27 with fail
          generalize wi2.alloc (.cells #[.string (bs y.1), .slice u0.ao u0.n u0.c, .slice u1.ao u1.n u1.c, .slice ul.ao ul.n ul.c] 26) = v2 at *
          generalize wi2.heap.size = p2 at *
          have HC := Lib.hid (HMo.out v2 HK2.out u0 u1 ul HP2.out)
          clear HMo
          obtain ⟨x0, x1, x2_, x3_, _, _, _, _⟩ := HF2.out
          go_wp2_with fail
          (with_reducible refine HC.out.mono ?_)
          rintro e wi3 ⟨hi3, z0, z1, zl, rfl, hp3⟩
          unfold tvv
          clear x0 x1 x2_ x3_
          have hj3 := Kp.new wi3 (.cells #[.string ⟨#[]⟩, .slice z0.ao z0.n z0.c, .slice z1.ao z1.n z1.c, .slice zl.ao zl.n zl.c] 26)
          have HF3 := Lib.hid (Four.new wi3 (.string ⟨#[]⟩) (.slice z0.ao z0.n z0.c) (.slice z1.ao z1.n z1.c) (.slice zl.ao zl.n zl.c) 26)
          have HP3 := Lib.hid (hp3.kp hj3)
          have hij3 := Kp.trans hi3 hj3
          have HK3 := Lib.hid (Kp.trans HK2.out hij3)
          replace HF1 := Lib.hid (HF1.out.kp hij3)
          clear hi3 hj3 hij3 hp3 HC
          go_upto_region 29 with fail
          generalize wi3.alloc (.cells #[.string ⟨#[]⟩, .slice z0.ao z0.n z0.c, .slice z1.ao z1.n z1.c, .slice zl.ao zl.n zl.c] 26) = v3 at *
          generalize wi3.heap.size = p3 at *
          obtain ⟨x0, x1, x2_, x3_, _, _, _, _⟩ := HF1.out
          have hc := (HE.out.keep HK3.out).c13
          have es := eq_same v3 (E 13)
          have HN := Lib.hid (awake_any v3 E m (HE.out.keep HK3.out))
          go_wp2_with fail
          (with_reducible refine HN.out.mono ?_)
          rintro e w9 ⟨rfl, hk9⟩
          have HK9 := Lib.hid (Kp.trans HK3.out hk9)
          clear hk9
          go_wp2_with fail
          go_ret
          exact ⟨rfl, HK9.out⟩
end Go.Proofs.YtbdphdgomcabmaaGreatDoor
