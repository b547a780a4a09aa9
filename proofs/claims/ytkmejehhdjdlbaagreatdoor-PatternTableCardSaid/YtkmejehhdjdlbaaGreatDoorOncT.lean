/- What holds once in a valid pattern: the last questions. Condition: what count answers. -/
import Derived.Test.YtkmejehhdjdlbaaGreatDoorGe7
namespace Go.Proofs.YtkmejehhdjdlbaaGreatDoor
open Go.RowKit

/-- The statements from this region's on. -/
def seqAt (n : Nat) : Code → Option Code
  | .seq (.seq (.region m o f) a) b => if m = n then some (.seq (.seq (.region m o f) a) b) else seqAt n b
  | .seq _ b => seqAt n b
  | _ => none
noncomputable def tail39 : Code := match Tryz.f39.body with | some c => (seqAt 18 c).getD .skip | none => .skip
set_option maxRecDepth 100000 in
set_option maxHeartbeats 16000000 in
theorem once_tail (w w1 : World) (nm : ByteArray) (a0 a1 al : Option Addr) (n0 c0 n1 c1 nl cl : Nat) (N : Int → Int → Nat) (one : Bool) (bx : Nat)
    (hC : ∀ v, Kp w1 v → ∀ f t : Int, Calls Tryz.prog 84 #[patV nm a0 a1 al n0 c0 n1 c1 nl cl, iv f, iv t] v fun e w' => e = .returned (iv ((N f t : Nat) : Int)) ∧ Kp v w')
    (hF : Four w1 bx (.string nm) (.slice a0 n0 c0) (.slice a1 n1 c1) (.slice al nl cl)) (hON : OncN N one) (hk1 : Kp w w1) (wq : World) (hK : Kp w1 wq) (b : Bool) (hb : b = true → one = false) (x0 x2 x3 x4 x6 x7 x8 x9 x10 x11 x12 x13 x14 x15 x16 x17 x18 x19 x20 x21 x22 x23 x24 x25 x26 x27 x28 x29 x30 x31 x32 x33 x34 x35 x36 x37 x38 x39 x40 x41 x42 x43 x44 x45 x46 x47 x48 x49 x50 x51 x52 x53 x54 x55 x56 x57 x58 x59 x60 x61 x62 x63 x64 x65 x66 x67 x68 x69 x70 x71 x72 x73 x74 x75 x76 x77 x78 x79 x80 x81 x82 x83 x84 x85 x86 x87 x88 x89 x90 x91 x92 x93 x94 x95 x96 x97 x98 x99 x100 x101 x102 x103 x104 x105 x106 x107 x108 x109 x110 x111 x112 x113 x114 x115 x116 x117 x118 x119 x120 x121 x122 x123 x124 x125 x126 x127 x128 x129 x130 x131 x132 x133 x134 x135 x136 x137 x138 x139 x140 x141 x142 x143 x144 x145 x146 x147 x148 x149 x150 x151 x152 x153 x154 x155 x156 x157 x158 x159 x160 x161 x162 x163 x164 x165 x166 x167 : Value) :
    tail39.wp Tryz.prog (bodyPost Tryz.prog Tryz.f39 fun e w' => e = .returned (.bool true) ∧ Kp w w') { tmps := List.toArray (x0 :: .pointer (some ⟨bx, 0, none⟩) :: x2 :: x3 :: x4 :: .bool b :: x6 :: x7 :: x8 :: x9 :: x10 :: x11 :: x12 :: x13 :: x14 :: x15 :: x16 :: x17 :: x18 :: x19 :: x20 :: x21 :: x22 :: x23 :: x24 :: x25 :: x26 :: x27 :: x28 :: x29 :: x30 :: x31 :: x32 :: x33 :: x34 :: x35 :: x36 :: x37 :: x38 :: x39 :: x40 :: x41 :: x42 :: x43 :: x44 :: x45 :: x46 :: x47 :: x48 :: x49 :: x50 :: x51 :: x52 :: x53 :: x54 :: x55 :: x56 :: x57 :: x58 :: x59 :: x60 :: x61 :: x62 :: x63 :: x64 :: x65 :: x66 :: x67 :: x68 :: x69 :: x70 :: x71 :: x72 :: x73 :: x74 :: x75 :: x76 :: x77 :: x78 :: x79 :: x80 :: x81 :: x82 :: x83 :: x84 :: x85 :: x86 :: x87 :: x88 :: x89 :: x90 :: x91 :: x92 :: x93 :: x94 :: x95 :: x96 :: x97 :: x98 :: x99 :: x100 :: x101 :: x102 :: x103 :: x104 :: x105 :: x106 :: x107 :: x108 :: x109 :: x110 :: x111 :: x112 :: x113 :: x114 :: x115 :: x116 :: x117 :: x118 :: x119 :: x120 :: x121 :: x122 :: x123 :: x124 :: x125 :: x126 :: x127 :: x128 :: x129 :: x130 :: x131 :: x132 :: x133 :: x134 :: x135 :: x136 :: x137 :: x138 :: x139 :: x140 :: x141 :: x142 :: x143 :: x144 :: x145 :: x146 :: x147 :: x148 :: x149 :: x150 :: x151 :: x152 :: x153 :: x154 :: x155 :: x156 :: x157 :: x158 :: x159 :: x160 :: x161 :: x162 :: x163 :: x164 :: x165 :: x166 :: x167 :: []), defers := [] } wq := by
  have HC := Lib.hid hC
  have HF := Lib.hid hF
  have HON := Lib.hid hON
  have Hk1 := Lib.hid hk1
  have HK := Lib.hid hK
  clear hC hF hON hk1 hK
  obtain ⟨y0, y1, y2, y3, _, _, _, _⟩ := HF.out.kp HK.out
  unfold tail39
  conv => arg 2; whnf
  cases b with
  | false =>
    clear hb
    rcases (show N (-1) 6 = 0 ∨ N (-1) 6 = 1 by have := HON.out.s6; omega) with g6 | g6
    · go_wp2_with fail
      repeat ((with_reducible refine (HC.out _ HK.out _ _).mono ?_); rintro e v ⟨rfl, hk⟩; replace HK := Lib.hid (Kp.trans HK.out hk); clear hk y0 y1 y2 y3; obtain ⟨y0, y1, y2, y3, _, _, _, _⟩ := HF.out.kp HK.out; go_wp2_with fail)
      go_ret
      exact ⟨by first | rfl | simp, Kp.trans Hk1.out HK.out⟩
    · have h46 := HON.out.ss g6
      have g4 := h46.1
      go_wp2_with fail
      repeat ((with_reducible refine (HC.out _ HK.out _ _).mono ?_); rintro e v ⟨rfl, hk⟩; replace HK := Lib.hid (Kp.trans HK.out hk); clear hk y0 y1 y2 y3; obtain ⟨y0, y1, y2, y3, _, _, _, _⟩ := HF.out.kp HK.out; go_wp2_with fail)
      go_ret
      exact ⟨by first | rfl | simp, Kp.trans Hk1.out HK.out⟩
  | true =>
    have hone := hb rfl
    clear hb
    go_upto_region 18 with fail
    go_cut [150] (fun v wc => v = .bool false ∧ Kp w1 wc)
    case first =>
      rcases (show N (-1) 5 = 0 ∨ N (-1) 5 = 1 by have := HON.out.s5; omega) with g5 | g5
      · rcases (show N (-1) 4 = 0 ∨ N (-1) 4 = 1 by have := HON.out.s4; omega) with g4 | g4
        · go_wp2_with fail
          repeat ((with_reducible refine (HC.out _ HK.out _ _).mono ?_); rintro e v ⟨rfl, hk⟩; replace HK := Lib.hid (Kp.trans HK.out hk); clear hk y0 y1 y2 y3; obtain ⟨y0, y1, y2, y3, _, _, _, _⟩ := HF.out.kp HK.out; go_wp2_with fail)
          go_meet
          case rel => exact ⟨by first | rfl | (simp; omega), HK.out⟩
        · have g3 := HON.out.es hone g4
          go_wp2_with fail
          repeat ((with_reducible refine (HC.out _ HK.out _ _).mono ?_); rintro e v ⟨rfl, hk⟩; replace HK := Lib.hid (Kp.trans HK.out hk); clear hk y0 y1 y2 y3; obtain ⟨y0, y1, y2, y3, _, _, _, _⟩ := HF.out.kp HK.out; go_wp2_with fail)
          go_meet
          case rel => exact ⟨by first | rfl | (simp; omega), HK.out⟩
      · have g3 := HON.out.se g5
        rcases (show N (-1) 4 = 0 ∨ N (-1) 4 = 1 by have := HON.out.s4; omega) with g4 | g4
        · go_wp2_with fail
          repeat ((with_reducible refine (HC.out _ HK.out _ _).mono ?_); rintro e v ⟨rfl, hk⟩; replace HK := Lib.hid (Kp.trans HK.out hk); clear hk y0 y1 y2 y3; obtain ⟨y0, y1, y2, y3, _, _, _, _⟩ := HF.out.kp HK.out; go_wp2_with fail)
          go_meet
          case rel => exact ⟨by first | rfl | (simp; omega), HK.out⟩
        · go_wp2_with fail
          repeat ((with_reducible refine (HC.out _ HK.out _ _).mono ?_); rintro e v ⟨rfl, hk⟩; replace HK := Lib.hid (Kp.trans HK.out hk); clear hk y0 y1 y2 y3; obtain ⟨y0, y1, y2, y3, _, _, _, _⟩ := HF.out.kp HK.out; go_wp2_with fail)
          go_meet
          case rel => exact ⟨by first | rfl | (simp; omega), HK.out⟩
    case rest =>
      obtain ⟨rfl, hkc⟩ := hcut
      have HK := Lib.hid hkc
      clear hkc y0 y1 y2 y3
      obtain ⟨y0, y1, y2, y3, _, _, _, _⟩ := HF.out.kp HK.out
      rcases (show N (-1) 6 = 0 ∨ N (-1) 6 = 1 by have := HON.out.s6; omega) with g6 | g6
      · go_wp2_with fail
        repeat ((with_reducible refine (HC.out _ HK.out _ _).mono ?_); rintro e v ⟨rfl, hk⟩; replace HK := Lib.hid (Kp.trans HK.out hk); clear hk y0 y1 y2 y3; obtain ⟨y0, y1, y2, y3, _, _, _, _⟩ := HF.out.kp HK.out; go_wp2_with fail)
        go_ret
        exact ⟨by first | rfl | simp, Kp.trans Hk1.out HK.out⟩
      · have h46 := HON.out.ss g6
        have g4 := h46.1
        have g5 := h46.2 hone
        go_wp2_with fail
        repeat ((with_reducible refine (HC.out _ HK.out _ _).mono ?_); rintro e v ⟨rfl, hk⟩; replace HK := Lib.hid (Kp.trans HK.out hk); clear hk y0 y1 y2 y3; obtain ⟨y0, y1, y2, y3, _, _, _, _⟩ := HF.out.kp HK.out; go_wp2_with fail)
        go_ret
        exact ⟨by first | rfl | simp, Kp.trans Hk1.out HK.out⟩
end Go.Proofs.YtkmejehhdjdlbaaGreatDoor
