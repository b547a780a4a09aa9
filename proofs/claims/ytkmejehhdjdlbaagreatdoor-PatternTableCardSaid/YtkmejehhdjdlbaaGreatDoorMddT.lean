/- What stands behind the words in the law's question of each pattern. Conditions: the variables lie there (Env); the patterns lie there. -/
import Derived.Test.YtkmejehhdjdlbaaGreatDoorGe9
import Derived.Test.YtkmejehhdjdlbaaGreatDoorOncT
namespace Go.Proofs.YtkmejehhdjdlbaaGreatDoor
open Go.RowKit

noncomputable def tail41 : Code := match Tryz.f41.body with | some c => (seqAt 17 c).getD .skip | none => .skip
set_option maxRecDepth 100000 in
set_option maxHeartbeats 16000000 in
theorem modified_tail (w w2 wc : World) (E : Nat → Addr) (m : Int) (hE : Env w2 E m) (nm nq : ByteArray) (a0 a1 al : Option Addr) (n0 c0 n1 c1 nl cl bx bm : Nat) (t0 t1 tl : Tv) (b0 b1 d0 d1 : List Int) (ls dl : List Ln)
    (hF : Four w2 bx (.string nm) (.slice a0 n0 c0) (.slice a1 n1 c1) (.slice al nl cl)) (hP : PatI w2 a0 a1 al n0 n1 nl b0 b1 ls) (hs : ShortP nm n0 n1 nl ls) (hnm : nm.size ≤ 9) (hM : Four wc bm (.string nq) (.slice t0.ao t0.n t0.c) (.slice t1.ao t1.n t1.c) (.slice tl.ao tl.n tl.c)) (hQ : PatI wc t0.ao t1.ao tl.ao t0.n t1.n tl.n d0 d1 dl)
    (hck : checkL d0 d1 dl = 0) (hc : cntF d0 d1 dl (-1) 7 = nl + 1) (hfall : fallOk ⟨nm.data.toList, b0, b1, ls⟩ = true) (hrk : checkL b0 b1 ls = 0) (hk0 : Kp w w2) (hk : Kp w2 wc) (hbm : w2.heap.size ≤ bm) (hn5 : nl ≤ 5) (x0 x2 x3 x5 x6 x7 x8 x9 x12 x13 x14 x15 x16 x17 x18 x19 x20 x21 x22 x23 x24 x25 x26 x27 x28 x29 x30 x31 x32 x33 x34 x35 x36 x37 x38 x39 x40 x41 x42 x43 x44 x45 x46 x47 x48 x49 x50 x51 x52 x53 x54 x55 x56 x57 x58 x59 x60 x61 x62 x63 x64 x65 x66 x67 x68 x69 x70 x71 x72 x73 x74 x75 x76 x77 x78 x79 x80 x81 x82 x83 x84 x85 x86 x87 x88 x89 x90 x91 x92 x93 x94 x95 x96 x97 x98 x99 x100 x101 x102 x103 x104 x105 x106 x107 x108 x109 x110 x111 x112 x113 x114 x115 x116 x117 x118 x119 x120 x121 x122 x123 x124 x125 x126 x127 x128 x129 x130 x131 x132 x133 x134 x135 x136 x137 x138 x139 x140 x141 x142 x143 x144 x145 x146 x147 x148 x149 x150 x151 x152 x153 x154 x155 x156 x157 x158 x159 x160 x161 x162 x163 x164 x165 x166 x167 x168 x169 x170 x171 x172 x173 x174 x175 x176 x177 x178 x179 x180 x181 x182 x183 x184 x185 x186 x187 x188 x189 x190 x191 x192 x193 x194 x195 x196 x197 x198 x199 x200 x201 x202 x203 x204 x205 x206 x207 x208 x209 x210 x211 x212 x213 x214 x215 x216 x217 x218 x219 x220 x221 x222 x223 x224 : Value) :
    tail41.wp Tryz.prog (bodyPost Tryz.prog Tryz.f41 fun e w' => e = .returned (.bool true) ∧ Kp w w') { tmps := List.toArray (x0 :: .pointer (some ⟨bx, 0, none⟩) :: x2 :: x3 :: iv (nl : Nat) :: x5 :: x6 :: x7 :: x8 :: x9 :: .pointer (some ⟨bm, 0, none⟩) :: .nilIface :: x12 :: x13 :: x14 :: x15 :: x16 :: x17 :: x18 :: x19 :: x20 :: x21 :: x22 :: x23 :: x24 :: x25 :: x26 :: x27 :: x28 :: x29 :: x30 :: x31 :: x32 :: x33 :: x34 :: x35 :: x36 :: x37 :: x38 :: x39 :: x40 :: x41 :: x42 :: x43 :: x44 :: x45 :: x46 :: x47 :: x48 :: x49 :: x50 :: x51 :: x52 :: x53 :: x54 :: x55 :: x56 :: x57 :: x58 :: x59 :: x60 :: x61 :: x62 :: x63 :: x64 :: x65 :: x66 :: x67 :: x68 :: x69 :: x70 :: x71 :: x72 :: x73 :: x74 :: x75 :: x76 :: x77 :: x78 :: x79 :: x80 :: x81 :: x82 :: x83 :: x84 :: x85 :: x86 :: x87 :: x88 :: x89 :: x90 :: x91 :: x92 :: x93 :: x94 :: x95 :: x96 :: x97 :: x98 :: x99 :: x100 :: x101 :: x102 :: x103 :: x104 :: x105 :: x106 :: x107 :: x108 :: x109 :: x110 :: x111 :: x112 :: x113 :: x114 :: x115 :: x116 :: x117 :: x118 :: x119 :: x120 :: x121 :: x122 :: x123 :: x124 :: x125 :: x126 :: x127 :: x128 :: x129 :: x130 :: x131 :: x132 :: x133 :: x134 :: x135 :: x136 :: x137 :: x138 :: x139 :: x140 :: x141 :: x142 :: x143 :: x144 :: x145 :: x146 :: x147 :: x148 :: x149 :: x150 :: x151 :: x152 :: x153 :: x154 :: x155 :: x156 :: x157 :: x158 :: x159 :: x160 :: x161 :: x162 :: x163 :: x164 :: x165 :: x166 :: x167 :: x168 :: x169 :: x170 :: x171 :: x172 :: x173 :: x174 :: x175 :: x176 :: x177 :: x178 :: x179 :: x180 :: x181 :: x182 :: x183 :: x184 :: x185 :: x186 :: x187 :: x188 :: x189 :: x190 :: x191 :: x192 :: x193 :: x194 :: x195 :: x196 :: x197 :: x198 :: x199 :: x200 :: x201 :: x202 :: x203 :: x204 :: x205 :: x206 :: x207 :: x208 :: x209 :: x210 :: x211 :: x212 :: x213 :: x214 :: x215 :: x216 :: x217 :: x218 :: x219 :: x220 :: x221 :: x222 :: x223 :: x224 :: []), defers := [] } wc := by
  have HNm := Lib.hid hnm
  have hbxm : bx ≠ bm := by have := hF.lt; omega
  have HE := Lib.hid hE
  have HF := Lib.hid hF
  have HP := Lib.hid hP
  have HM := Lib.hid hM
  have HQ := Lib.hid hQ
  have Hk0 := Lib.hid hk0
  have Hk := Lib.hid hk
  have Hck := Lib.hid hck
  have Hc := Lib.hid hc
  have Hs := Lib.hid hs
  have Hfall := Lib.hid hfall
  have Hrk := Lib.hid hrk
  clear hE hF hP hM hQ hk0 hk hck hc hs hfall hrk hnm
  obtain ⟨x0, x1, x2, x3, _, _, _, _⟩ := HM.out
  unfold tail41
  conv => arg 2; whnf
  have HC := Lib.hid (count_valid wc nq t0.ao t1.ao tl.ao t0.n t0.c t1.n t1.c tl.n tl.c d0 d1 dl HQ.out Hck.out (-1) 7)
  rw [Hc.out] at HC
  go_wp2_with fail
  (with_reducible refine HC.out.mono ?_)
  rintro e v1 ⟨rfl, hk1⟩
  clear x0 x1 x2 x3 HC
  have HM1 := Lib.hid (HM.out.kp hk1)
  have HK1 := Lib.hid (Kp.trans Hk.out hk1)
  clear hk1 HM Hk HQ Hck Hc
  obtain ⟨l, r, rfl⟩ : ∃ l r, ls = l :: r := by cases ls with | nil => (have := Hfall.out; simp [fallOk] at this) | cons l r => exact ⟨l, r, rfl⟩
  obtain ⟨y0, y1, y2, y3, _, _, _, _⟩ := HF.out.kp HK1.out
  go_upto_region 19 with fail
  have hkb := Kp.new v1 (.cells #[.string ⟨#[102, 97, 108, 108, 98, 97, 99, 107]⟩] 9)
  have hs : (v1.alloc (.cells #[.string ⟨#[102, 97, 108, 108, 98, 97, 99, 107]⟩] 9)).cell? ⟨v1.heap.size, 0, none⟩ = some (.string (bs Q.fallB)) := (One1.new v1 (.string ⟨#[102, 97, 108, 108, 98, 97, 99, 107]⟩) 9).c
  have hKb := Kp.trans HK1.out hkb
  have HC := Lib.hid (one_word (v1.alloc (.cells #[.string ⟨#[102, 97, 108, 108, 98, 97, 99, 107]⟩] 9)) E m (HE.out.keep hKb) nm a0 a1 al n0 c0 n1 c1 nl cl b0 b1 (l :: r) (HP.out.kp hKb) Hs.out Q.fallB (by decide) v1.heap.size hs)
  have HM2 := Lib.hid (HM1.out.kp hkb)
  have HK2 := Lib.hid hKb
  have hml := HM2.out.lt
  clear hkb hs hKb HM1 HK1
  obtain ⟨X, hX⟩ : ∃ X, X = mdf ⟨nm.data.toList, b0, b1, l :: r⟩ [Q.fallB] := ⟨_, rfl⟩
  rw [← hX] at HC
  have HX := Lib.hid hX
  clear hX
  go_wp2_with fail
  generalize v1.alloc (.cells #[.string ⟨#[102, 97, 108, 108, 98, 97, 99, 107]⟩] 9) = v2 at *
  (with_reducible refine HC.out.mono ?_)
  rintro e v3 ⟨hk3, u0, u1, ul, rfl, hPX⟩
  unfold tvv
  have hZ := HM2.out.kp hk3
  obtain ⟨v9, hv9, hF9, hN⟩ := hZ.set (.string X.1) (.slice u0.ao u0.n u0.c) (.slice u1.ao u1.n u1.c) (.slice ul.ao ul.n ul.c)
  have HQ := Lib.hid (hPX [bm] v9 hF9 (by simpa using hml))
  have HK := Lib.hid (show Kp w2 v9 from ((Fr.of_kp (Kp.trans HK2.out hk3)).step hF9 (fun x hx => .inr (by simp at hx; omega))).kp)
  have HN := Lib.hid hN
  clear hk3 hPX HC hF9 hN HM2 HK2 y0 y1 y2 y3
  obtain ⟨z0, z1, z2, z3, z4, z5, z6, z7⟩ := hZ
  go_upto_region 20 with fail
  rw [← hv9]
  clear hv9 z0 z1 z2 z3 z4 z5 z6 z7
  obtain ⟨y0, y1, y2, y3, _, _, _, _⟩ := HF.out.kp HK.out
  have hPv := HP.out.kp HK.out
  have hll : (l :: r).length = nl := hPv.il.1
  have hnl0 : 0 < nl := by rw [← hll]; simp
  obtain ⟨g2, o2, sp, sn, sc, rfl, he1, he2, hJ, _⟩ := hPv.il.2.2 0 (by simp)
  simp only [Nat.zero_mul, Nat.add_zero, List.getElem_cons_zero] at he1 he2 hJ
  have Hll := Lib.hid hll
  clear he1 hPv hll
  go_upto_region 21 with fail
  clear he2 y0 y1 y2 y3
  have hsn := hJ.1
  have hsn1 : sn ≤ 2000 := by rw [← hsn]; exact Hs.out.ts l (by simp)
  have hne : l.2 ≠ [] := ((code0 Hrk.out).2.2.2.2 l (by simp)).2.1
  have HJ := Lib.hid hJ
  have Hsn := Lib.hid hsn
  clear hJ hsn
  have hsp : 0 < sn := by rw [← Hsn.out]; exact List.length_pos_iff.2 hne
  obtain ⟨g3, o3, rfl, _, hc⟩ := HJ.out.at 0 hsp
  have Hcc := Lib.hid hc
  clear hc
  go_cut [13] (fun v wc => v = .bool (keysOnly l) ∧ wc = v9)
  case first =>
    have hc0 := Hcc.out 0 hsp
    obtain ⟨lf, lt⟩ := l
    cases lt with
    | nil => exact absurd rfl hne
    | cons t ts =>
      simp only [List.getElem_cons_zero, Nat.add_zero] at hc0
      by_cases ht : t = 1
      · subst ht
        cases ts with
        | nil =>
          obtain rfl : sn = 1 := by have := Hsn.out; simp at this; omega
          go_wp2_with fail
          go_meet
          case rel => exact ⟨rfl, rfl⟩
        | cons t2 ts2 =>
          have hc1 := Hcc.out 1 (by have := Hsn.out; simp at this; omega)
          simp only [List.getElem_cons_succ, List.getElem_cons_zero] at hc1
          cases ts2 with
          | nil =>
            obtain rfl : sn = 2 := by have := Hsn.out; simp at this; omega
            by_cases ht2 : t2 = 2
            · subst ht2
              go_wp2_with fail
              go_meet
              case rel => exact ⟨rfl, rfl⟩
            · go_wp2_with fail
              go_meet
              case rel => exact ⟨by simp [keysOnly], rfl⟩
          | cons t3 ts3 =>
            have h3 : 3 ≤ sn := by have := Hsn.out; simp at this; omega
            have h31 : ¬ ((sn : Nat) : Int) = 1 := by omega
            have h32 : ¬ ((sn : Nat) : Int) = 2 := by omega
            go_wp2_with fail
            go_meet
            case rel => exact ⟨by simp [keysOnly, h31], rfl⟩
      · go_wp2_with fail
        go_meet
        case rel => exact ⟨by simp [keysOnly, ht], rfl⟩
  case rest =>
    obtain ⟨rfl, hcw⟩ := hcut
    replace hcw := hcw.symm
    subst hcw
    cases hko : keysOnly l with
    | false =>
      have hno := fall_no Hfall.out rfl hko
      rw [← HX.out] at hno
      subst hno
      rw [show errV E 1 = .iface 229 (.pointer (some (E 1))) from errV_ptr E (by decide)]
      have c1 := (HE.out.keep HK.out).c0
      have es := eq_same v9 (E 1)
      go_wp2_with fail
      go_ret
      exact ⟨rfl, Kp.trans Hk0.out HK.out⟩
    | true =>
      obtain ⟨e0, e1, x, dl2, hmd, hY⟩ := fall_yes Hfall.out rfl hko
      rw [← HX.out] at hmd
      subst hmd
      have hQ2 := HQ.out
      have hN2 := HN.out
      simp only at hQ2 hN2
      rw [errV_nil]
      rw [show bs (nm.data.toList ++ Q.fallB) = nm ++ ⟨#[102, 97, 108, 108, 98, 97, 99, 107]⟩ by rw [bs_append, bs_data]; rfl] at hN2
      obtain ⟨ula, uln, ulc⟩ := ul
      obtain ⟨u0a, u0n, u0c⟩ := u0
      simp only at hQ2 hN2 ⊢
      have HN2 := Lib.hid hN2
      have HQ2 := Lib.hid hQ2
      clear HQ HN HX Hcc hne Hfall hko
      have hun : uln + 1 = nl := by have h1 := hQ2.il.1; have h2 := hY.len; simp only at h2; rw [← h1, h2, Hll.out]
      have hn0 : u0n = n0 + sn := by have h1 := hQ2.i0.1; have h2 := hY.b0l; have h3 := (HP.out.i0).1; simp only at h2; rw [Hsn.out, h3] at h2; omega
      have hI : ((nl : Nat) : Int) - 1 = (uln : Nat) := by omega
      obtain ⟨q2, p2, tp, tn, tc, rfl, hd1, _, _, _⟩ := hQ2.il.2.2 0 (by simp)
      simp only [Nat.zero_mul, Nat.add_zero, List.getElem_cons_zero] at hd1
      rw [hY.from_] at hd1
      obtain ⟨g4, o4, rfl, _, hc4⟩ := hQ2.i0.at 0 (by omega)
      have he0 := hc4 0 (by omega)
      have h00 : e0[0]? = some 1 := hY.b00
      rw [List.getElem?_eq_getElem (by rw [hQ2.i0.1]; omega), Option.some.injEq] at h00
      rw [h00] at he0
      simp only [Nat.add_zero] at he0
      have hs0 := Hs.out.n0
      have hs1 : nm.size ≤ 9 := HNm.out
      have hs2 : (⟨#[102, 97, 108, 108, 98, 97, 99, 107]⟩ : ByteArray).size ≤ 8 := by decide
      have hs3 : nm.size + (⟨#[102, 97, 108, 108, 98, 97, 99, 107]⟩ : ByteArray).size ≤ 140737488351232 := by omega
      have hs4 : (nm ++ ⟨#[102, 97, 108, 108, 98, 97, 99, 107]⟩).size ≤ 140737488351232 := by rw [ByteArray.size_append]; omega
      have hs5 : nm.size + (⟨#[102, 97, 108, 108, 98, 97, 99, 107]⟩ : ByteArray).size ≤ maxLen := by unfold maxLen; omega
      have HC := Lib.hid (count_valid v9 (nm ++ ⟨#[102, 97, 108, 108, 98, 97, 99, 107]⟩) (some ⟨g4, o4, none⟩) u1.ao (some ⟨q2, p2, none⟩) u0n u0c u1.n u1.c uln ulc e0 e1 (x :: dl2) hQ2 hY.ck 0 1)
      rw [hY.cnt] at HC
      have hup : 0 < uln := by rw [← hQ2.il.1]; simp
      have hu0 : 0 < u0n := by omega
      have hB : ((u0n : Nat) : Int) = (n0 : Nat) + (sn : Nat) := by omega
      clear hQ2 hN2 hY hc4 h00 hun hn0
      obtain ⟨y0, y1, y2, y3, _, _, _, _⟩ := HF.out.kp HK.out
      obtain ⟨z0, z1, z2, z3, _, _, _, _⟩ := HN2.out
      go_wp2_with fail
      (with_reducible refine HC.out.mono ?_)
      rintro e v4 ⟨rfl, hk4⟩
      have HK4 := Lib.hid (Kp.trans HK.out hk4)
      replace he0 := hk4.cell he0
      clear y0 y1 y2 y3 z0 z1 z2 z3 hd1 HC
      obtain ⟨y0, y1, y2, y3, _, _, _, _⟩ := HF.out.kp HK4.out
      obtain ⟨z0, z1, z2, z3, _, _, _, _⟩ := HN2.out.kp hk4
      clear hk4
      go_wp2_with fail
      go_ret
      exact ⟨rfl, Kp.trans Hk0.out HK4.out⟩
end Go.Proofs.YtkmejehhdjdlbaaGreatDoor
