/- Parts of the walks and plain laws, merged: In64, In54, In47, In39, In29, In22. Each theorem bears its own conditions; no other. -/
import Derived.Test.YtbdphdgomcabmaaGreatDoorNi3
namespace Go.Proofs.YtbdphdgomcabmaaGreatDoor
open Go.RowKit

set_option maxRecDepth 100000 in
set_option maxHeartbeats 16000000 in
theorem in64 (w wq : World) (HA : ∀ v, Kp w v → Calls Tryz.prog 15 #[] v fun e w' => e = .returned (.bool true) ∧ Kp v w') (aa la : Option Addr) (an ac ln lc : Nat) (ps : List Pt) (T : List Tv) (hM : Mem w wq ⟨aa, an, ac⟩ ⟨la, ln, lc⟩ ps T)
    (B : Nat) (ma : Option Addr) (mn mc : Nat) (G : List Tv) (hG : Grn wq B 24 (ps.map (·.ls)) cL ⟨ma, mn, mc⟩ G)
    (x0 x1 x2 x3 x4 x5 x7 x8 x9 x10 x11 x12 x13 x14 x15 x16 x17 x18 x19 x20 x21 x22 x23 x25 x26 x27 x28 x29 x30 x31 x32 x33 x34 x35 x36 x37 x38 x39 x40 x41 x42 x43 x44 x45 x46 x47 x48 x49 x50 x51 x52 x53 x54 x55 x56 x57 x58 x59 x60 x61 x62 x63 x64 x65 x66 x67 x68 x69 x70 x71 x72 x73 x74 x75 x76 x77 x78 x79 x80 x81 x82 x83 x84 x85 x86 x87 x88 x89 x90 x91 x92 x93 x94 x95 x96 x97 x98 x99 x100 x101 x102 x103 x104 x105 x106 x107 x108 x109 x110 x111 x112 x113 x114 x115 x116 x117 x118 x119 x120 x121 x122 x123 x124 x125 x126 x127 x128 x129 x130 x131 x132 x133 x134 x135 x136 x137 x138 x139 x140 x141 x142 x143 x144 x145 x146 x147 x148 x149 x150 x151 x152 x153 x154 x155 x156 x157 x158 x159 x160 x161 x162 x163 x164 x165 x166 x167 x168 x169 x170 x171 x172 x173 x174 x175 x176 x177 x178 x179 x180 x181 x182 x183 x184 x185 x186 x187 x188 x189 x190 x191 x192 x193 x194 x195 x196 x197 x198 x199 x200 x201 x202 x203 x204 x205 x206 x207 x208 x209 x210 x211 x212 x213 x214 x215 x216 x217 x218 x219 x220 x221 x222 x223 x224 x225 x226 x227 x228 x229 x230 x231 x232 x233 x234 x235 x236 x237 x238 x239 x240 x241 x242 x243 x244 x245 x246 x247 x248 x249 x250 x251 x252 x253 x254 x255 x256 x257 x258 x259 x260 x261 x262 x263 x264 x265 x266 x267 x268 x269 x270 x271 x272 x273 x274 x275 x276 x277 x278 x279 x280 x281 x282 x283 x284 x285 x286 x287 x288 x289 x290 x291 x292 x293 x294 x295 x296 x297 x298 x299 x300 x301 x302 x303 x304 x305 x306 x307 x308 x309 x310 x311 : Value) :
    (tailI 64).wp Tryz.prog (bodyPost Tryz.prog Tryz.f7 fun e w' => e = .returned (.bool true) ∧ Kp w w') { tmps := List.toArray (x0 :: x1 :: x2 :: x3 :: x4 :: x5 :: .slice aa an ac :: x7 :: x8 :: x9 :: x10 :: x11 :: x12 :: x13 :: x14 :: x15 :: x16 :: x17 :: x18 :: x19 :: x20 :: x21 :: x22 :: x23 :: .slice ma mn mc :: x25 :: x26 :: x27 :: x28 :: x29 :: x30 :: x31 :: x32 :: x33 :: x34 :: x35 :: x36 :: x37 :: x38 :: x39 :: x40 :: x41 :: x42 :: x43 :: x44 :: x45 :: x46 :: x47 :: x48 :: x49 :: x50 :: x51 :: x52 :: x53 :: x54 :: x55 :: x56 :: x57 :: x58 :: x59 :: x60 :: x61 :: x62 :: x63 :: x64 :: x65 :: x66 :: x67 :: x68 :: x69 :: x70 :: x71 :: x72 :: x73 :: x74 :: x75 :: x76 :: x77 :: x78 :: x79 :: x80 :: x81 :: x82 :: x83 :: x84 :: x85 :: x86 :: x87 :: x88 :: x89 :: x90 :: x91 :: x92 :: x93 :: x94 :: x95 :: x96 :: x97 :: x98 :: x99 :: x100 :: x101 :: x102 :: x103 :: x104 :: x105 :: x106 :: x107 :: x108 :: x109 :: x110 :: x111 :: x112 :: x113 :: x114 :: x115 :: x116 :: x117 :: x118 :: x119 :: x120 :: x121 :: x122 :: x123 :: x124 :: x125 :: x126 :: x127 :: x128 :: x129 :: x130 :: x131 :: x132 :: x133 :: x134 :: x135 :: x136 :: x137 :: x138 :: x139 :: x140 :: x141 :: x142 :: x143 :: x144 :: x145 :: x146 :: x147 :: x148 :: x149 :: x150 :: x151 :: x152 :: x153 :: x154 :: x155 :: x156 :: x157 :: x158 :: x159 :: x160 :: x161 :: x162 :: x163 :: x164 :: x165 :: x166 :: x167 :: x168 :: x169 :: x170 :: x171 :: x172 :: x173 :: x174 :: x175 :: x176 :: x177 :: x178 :: x179 :: x180 :: x181 :: x182 :: x183 :: x184 :: x185 :: x186 :: x187 :: x188 :: x189 :: x190 :: x191 :: x192 :: x193 :: x194 :: x195 :: x196 :: x197 :: x198 :: x199 :: x200 :: x201 :: x202 :: x203 :: x204 :: x205 :: x206 :: x207 :: x208 :: x209 :: x210 :: x211 :: x212 :: x213 :: x214 :: x215 :: x216 :: x217 :: x218 :: x219 :: x220 :: x221 :: x222 :: x223 :: x224 :: x225 :: x226 :: x227 :: x228 :: x229 :: x230 :: x231 :: x232 :: x233 :: x234 :: x235 :: x236 :: x237 :: x238 :: x239 :: x240 :: x241 :: x242 :: x243 :: x244 :: x245 :: x246 :: x247 :: x248 :: x249 :: x250 :: x251 :: x252 :: x253 :: x254 :: x255 :: x256 :: x257 :: x258 :: x259 :: x260 :: x261 :: x262 :: x263 :: x264 :: x265 :: x266 :: x267 :: x268 :: x269 :: x270 :: x271 :: x272 :: x273 :: x274 :: x275 :: x276 :: x277 :: x278 :: x279 :: x280 :: x281 :: x282 :: x283 :: x284 :: x285 :: x286 :: x287 :: x288 :: x289 :: x290 :: x291 :: x292 :: x293 :: x294 :: x295 :: x296 :: x297 :: x298 :: x299 :: x300 :: x301 :: x302 :: x303 :: x304 :: x305 :: x306 :: x307 :: x308 :: x309 :: x310 :: x311 :: []), defers := [] } wq := by
  have HM := Lib.hid hM
  have hpl := hM.pl
  have htn := hM.tn
  have Han := Lib.hid hM.an
  have Hln := Lib.hid hM.ln
  have han : an ≤ 3 := by have := hM.an; (try simp only at this); omega
  have hln : ln ≤ 200 := by have := hM.ln; (try simp only at this); omega
  clear hM
  have HG := Lib.hid hG
  clear hG htn hln hpl
  unfold tailI
  conv => arg 2; whnf
  go_wp2_with fail
  go_loopw [28] (fun i wr => ∃ j : Nat, j ≤ an ∧ i = .int .i64 (j : Nat) ∧ wq = wr) (fun i _ => an - (intOf i).toNat)
  case atStart => exact ⟨0, by omega, rfl, rfl⟩
  case round =>
    obtain ⟨j, hj, rfl, rfl⟩ := hrel
    by_cases hlt : j < an
    · have hjp : j < ps.length := by have := Han.out; (try simp only at this); omega
      have hjm : j < mn := by have := HG.out.n; rw [List.length_map] at this; (try simp only at this); omega
      obtain ⟨ga, p, ea, hp, _, _, hc3⟩ := HM.out.pat hjp
      have ht : (ps.map (·.ls))[j]? = some p.ls := by rw [List.getElem?_map, hp]; rfl
      obtain ⟨gm, g, em, hcm, hgn, hgc⟩ := HG.out.at ht
      have hrow := HG.out.row j p.ls ht
      have hpn := HM.out.sp j p hp
      have hg24 : g.n ≤ 33 := by omega
      have Hgn := Lib.hid hgn
      generalize p.ls = t at hc3 hgn hrow hpn Hgn
      obtain ⟨ta, tn, tc⟩ := t
      obtain ⟨gg, gn, gc⟩ := g
      simp only at hc3 hcm hgn hgc hrow hpn hg24 Hgn ea em
      have hgt : tn ≤ gn := by omega
      have Hrow := Lib.hid hrow
      have Hgc := Lib.hid hgc
      have Hc3 := Lib.hid hc3
      have Hcm := Lib.hid hcm
      subst ea
      subst em
      have hji : ((j : Nat) : Int) < (an : Nat) := by omega
      clear hgn hrow hgc ht hp hjp
      go_wp2_with fail
      go_loopw [29] (fun i wr => ∃ k : Nat, k ≤ gn ∧ i = .int .i64 (k : Nat) ∧ wq = wr) (fun i _ => gn - (intOf i).toNat)
      case atStart => exact ⟨0, by omega, rfl, rfl⟩
      case round =>
        obtain ⟨k, hk, rfl, rfl⟩ := hrel
        by_cases hkg : k < gn
        · have hki : ((k : Nat) : Int) < (gn : Nat) := by omega
          obtain ⟨gb, go, rfl, hgv⟩ := repL Hgc.out hkg
          have hcm := Hcm.out
          have hc3 := Hc3.out
          by_cases hkt : k < tn
          · have hkj : ((k : Nat) : Int) < (tn : Nat) := by omega
            obtain ⟨tb, to_, rfl, htv⟩ := repL Hrow.out hkt
            have hc3 := Hc3.out
            go_wp2_with fail
            go_roundw
            case rel => exact ⟨k + 1, by omega, by go_num, trivial⟩
            case measure => simp [intOf]; omega
          · have hkj : ¬ ((k : Nat) : Int) < (tn : Nat) := by omega
            go_wp2_with fail
            go_roundw
            case rel => exact ⟨k + 1, by omega, by go_num, trivial⟩
            case measure => simp [intOf]; omega
        · obtain rfl : k = gn := by omega
          have hki : ¬ ((k : Nat) : Int) < (k : Nat) := by omega
          have hcm := Hcm.out
          go_wp2_with fail
          go_roundw
          case rel => exact ⟨j + 1, by omega, by go_num, trivial⟩
          case measure => simp [intOf]; omega
    · obtain rfl : j = an := by omega
      have hji : ¬ ((j : Nat) : Int) < (j : Nat) := by omega
      have HA1 := Lib.hid (HA wq HM.out.kp)
      go_wp2_with fail
      (with_reducible refine HA1.out.mono ?_)
      rintro e w9 ⟨rfl, hk9⟩
      have HK9 := Lib.hid (Kp.trans HM.out.kp hk9)
      clear hk9
      go_wp2_with fail
      go_ret
      exact ⟨rfl, HK9.out⟩
end Go.Proofs.YtbdphdgomcabmaaGreatDoor

namespace Go.Proofs.YtbdphdgomcabmaaGreatDoor
open Go.RowKit

set_option maxRecDepth 100000 in
set_option maxHeartbeats 16000000 in
theorem in54 (w wq : World) (HA : ∀ v, Kp w v → Calls Tryz.prog 15 #[] v fun e w' => e = .returned (.bool true) ∧ Kp v w') (aa la : Option Addr) (an ac ln lc : Nat) (ps : List Pt) (T : List Tv) (hM : Mem w wq ⟨aa, an, ac⟩ ⟨la, ln, lc⟩ ps T)
    (hR : ∀ (j : Nat) (t : Tv), (ps.map (·.ls))[j]? = some t → OwV wq w.heap.size 45 2 t (rep t.n (cL j))) (hD : ∀ (i j x : Nat) (t u : Tv), (ps.map (·.ls))[i]? = some t → (ps.map (·.ls))[j]? = some u → x ∈ blkL t.ao → x ∈ blkL u.ao → i = j)
    (x0 x1 x2 x3 x4 x5 x7 x8 x9 x10 x11 x12 x13 x14 x15 x16 x17 x18 x19 x20 x21 x22 x23 x24 x25 x26 x27 x28 x29 x30 x31 x32 x33 x34 x35 x36 x37 x38 x39 x40 x41 x42 x43 x44 x45 x46 x47 x48 x49 x50 x51 x52 x53 x54 x55 x56 x57 x58 x59 x60 x61 x62 x63 x64 x65 x66 x67 x68 x69 x70 x71 x72 x73 x74 x75 x76 x77 x78 x79 x80 x81 x82 x83 x84 x85 x86 x87 x88 x89 x90 x91 x92 x93 x94 x95 x96 x97 x98 x99 x100 x101 x102 x103 x104 x105 x106 x107 x108 x109 x110 x111 x112 x113 x114 x115 x116 x117 x118 x119 x120 x121 x122 x123 x124 x125 x126 x127 x128 x129 x130 x131 x132 x133 x134 x135 x136 x137 x138 x139 x140 x141 x142 x143 x144 x145 x146 x147 x148 x149 x150 x151 x152 x153 x154 x155 x156 x157 x158 x159 x160 x161 x162 x163 x164 x165 x166 x167 x168 x169 x170 x171 x172 x173 x174 x175 x176 x177 x178 x179 x180 x181 x182 x183 x184 x185 x186 x187 x188 x189 x190 x191 x192 x193 x194 x195 x196 x197 x198 x199 x200 x201 x202 x203 x204 x205 x206 x207 x208 x209 x210 x211 x212 x213 x214 x215 x216 x217 x218 x219 x220 x221 x222 x223 x224 x225 x226 x227 x228 x229 x230 x231 x232 x233 x234 x235 x236 x237 x238 x239 x240 x241 x242 x243 x244 x245 x246 x247 x248 x249 x250 x251 x252 x253 x254 x255 x256 x257 x258 x259 x260 x261 x262 x263 x264 x265 x266 x267 x268 x269 x270 x271 x272 x273 x274 x275 x276 x277 x278 x279 x280 x281 x282 x283 x284 x285 x286 x287 x288 x289 x290 x291 x292 x293 x294 x295 x296 x297 x298 x299 x300 x301 x302 x303 x304 x305 x306 x307 x308 x309 x310 x311 : Value) :
    (tailI 54).wp Tryz.prog (bodyPost Tryz.prog Tryz.f7 fun e w' => e = .returned (.bool true) ∧ Kp w w') { tmps := List.toArray (x0 :: x1 :: x2 :: x3 :: x4 :: x5 :: .slice aa an ac :: x7 :: x8 :: x9 :: x10 :: x11 :: x12 :: x13 :: x14 :: x15 :: x16 :: x17 :: x18 :: x19 :: x20 :: x21 :: x22 :: x23 :: x24 :: x25 :: x26 :: x27 :: x28 :: x29 :: x30 :: x31 :: x32 :: x33 :: x34 :: x35 :: x36 :: x37 :: x38 :: x39 :: x40 :: x41 :: x42 :: x43 :: x44 :: x45 :: x46 :: x47 :: x48 :: x49 :: x50 :: x51 :: x52 :: x53 :: x54 :: x55 :: x56 :: x57 :: x58 :: x59 :: x60 :: x61 :: x62 :: x63 :: x64 :: x65 :: x66 :: x67 :: x68 :: x69 :: x70 :: x71 :: x72 :: x73 :: x74 :: x75 :: x76 :: x77 :: x78 :: x79 :: x80 :: x81 :: x82 :: x83 :: x84 :: x85 :: x86 :: x87 :: x88 :: x89 :: x90 :: x91 :: x92 :: x93 :: x94 :: x95 :: x96 :: x97 :: x98 :: x99 :: x100 :: x101 :: x102 :: x103 :: x104 :: x105 :: x106 :: x107 :: x108 :: x109 :: x110 :: x111 :: x112 :: x113 :: x114 :: x115 :: x116 :: x117 :: x118 :: x119 :: x120 :: x121 :: x122 :: x123 :: x124 :: x125 :: x126 :: x127 :: x128 :: x129 :: x130 :: x131 :: x132 :: x133 :: x134 :: x135 :: x136 :: x137 :: x138 :: x139 :: x140 :: x141 :: x142 :: x143 :: x144 :: x145 :: x146 :: x147 :: x148 :: x149 :: x150 :: x151 :: x152 :: x153 :: x154 :: x155 :: x156 :: x157 :: x158 :: x159 :: x160 :: x161 :: x162 :: x163 :: x164 :: x165 :: x166 :: x167 :: x168 :: x169 :: x170 :: x171 :: x172 :: x173 :: x174 :: x175 :: x176 :: x177 :: x178 :: x179 :: x180 :: x181 :: x182 :: x183 :: x184 :: x185 :: x186 :: x187 :: x188 :: x189 :: x190 :: x191 :: x192 :: x193 :: x194 :: x195 :: x196 :: x197 :: x198 :: x199 :: x200 :: x201 :: x202 :: x203 :: x204 :: x205 :: x206 :: x207 :: x208 :: x209 :: x210 :: x211 :: x212 :: x213 :: x214 :: x215 :: x216 :: x217 :: x218 :: x219 :: x220 :: x221 :: x222 :: x223 :: x224 :: x225 :: x226 :: x227 :: x228 :: x229 :: x230 :: x231 :: x232 :: x233 :: x234 :: x235 :: x236 :: x237 :: x238 :: x239 :: x240 :: x241 :: x242 :: x243 :: x244 :: x245 :: x246 :: x247 :: x248 :: x249 :: x250 :: x251 :: x252 :: x253 :: x254 :: x255 :: x256 :: x257 :: x258 :: x259 :: x260 :: x261 :: x262 :: x263 :: x264 :: x265 :: x266 :: x267 :: x268 :: x269 :: x270 :: x271 :: x272 :: x273 :: x274 :: x275 :: x276 :: x277 :: x278 :: x279 :: x280 :: x281 :: x282 :: x283 :: x284 :: x285 :: x286 :: x287 :: x288 :: x289 :: x290 :: x291 :: x292 :: x293 :: x294 :: x295 :: x296 :: x297 :: x298 :: x299 :: x300 :: x301 :: x302 :: x303 :: x304 :: x305 :: x306 :: x307 :: x308 :: x309 :: x310 :: x311 :: []), defers := [] } wq := by
  have HM := Lib.hid hM
  have hpl := hM.pl
  have htn := hM.tn
  have Han := Lib.hid hM.an
  have Hln := Lib.hid hM.ln
  have han : an ≤ 3 := by have := hM.an; (try simp only at this); omega
  have hln : ln ≤ 200 := by have := hM.ln; (try simp only at this); omega
  clear hM
  obtain ⟨TL, hTL⟩ : ∃ TL, TL = ps.map (·.ls) := ⟨_, rfl⟩
  have hTp : ∀ (j : Nat) (p : Pt), ps[j]? = some p → TL[j]? = some p.ls := fun j p hp => by rw [hTL, List.getElem?_map, hp]; rfl
  have hTn : TL.length = an := by have := Han.out; try simp only at this; rw [hTL, List.length_map]; omega
  have hMf : ∀ v, Fr (bkT TL) wq v → Mem w v ⟨aa, an, ac⟩ ⟨la, ln, lc⟩ ps T := fun v hv => HM.out.frL (by rw [← hTL]; exact hv)
  rw [← hTL] at hR hD
  obtain ⟨X, hX⟩ : ∃ X : Nat → List Value, X = fun j => rep (TL.getD j nilT).n (cL j) := ⟨_, rfl⟩
  have hXt : ∀ (j : Nat) (t : Tv), TL[j]? = some t → X j = rep t.n (cL j) := fun j t ht => by rw [hX]; simp only; rw [List.getD_eq_getElem?_getD, ht]; rfl
  have HL0 := Lib.hid (Lng.start (et := 24) (K := 9) (c := cL) (X := X) (fun j t ht => by rw [hXt j t ht]; exact hR j t ht) hD)
  have HX := Lib.hid hX
  have HTL := Lib.hid hTL
  have HTp := Lib.hid hTp
  have HTn := Lib.hid hTn
  have HMf := Lib.hid hMf
  have hkq := Lib.hid HM.out.kp.size
  clear hR hD hXt hX hTp hTn hMf hTL hpl htn hln
  unfold tailI
  conv => arg 2; whnf
  go_upto_block 22 with fail
  go_cut [24] (fun mo wc => ∃ ma mc G, mo = .slice ma an mc ∧ Lng wc w.heap.size wq.heap.size 45 2 24 9 TL X cL an ⟨ma, an, mc⟩ G ∧ Fr (bkT TL) wq wc)
  case rest =>
    obtain ⟨ma, mc, G, rfl, hL, hF⟩ := hcut
    go_step
    have hG := Grn.of (HX.out ▸ hL) HTn.out.symm
    rw [HTL.out] at hG
    exact in64 w wc HA aa la an ac ln lc ps T (HMf.out _ hF) _ ma an mc G hG _ _ _ _ _ _ _ _ _ _ _ _ _ _ _ _ _ _ _ _ _ _ _ _ _ _ _ _ _ _ _ _ _ _ _ _ _ _ _ _ _ _ _ _ _ _ _ _ _ _ _ _ _ _ _ _ _ _ _ _ _ _ _ _ _ _ _ _ _ _ _ _ _ _ _ _ _ _ _ _ _ _ _ _ _ _ _ _ _ _ _ _ _ _ _ _ _ _ _ _ _ _ _ _ _ _ _ _ _ _ _ _ _ _ _ _ _ _ _ _ _ _ _ _ _ _ _ _ _ _ _ _ _ _ _ _ _ _ _ _ _ _ _ _ _ _ _ _ _ _ _ _ _ _ _ _ _ _ _ _ _ _ _ _ _ _ _ _ _ _ _ _ _ _ _ _ _ _ _ _ _ _ _ _ _ _ _ _ _ _ _ _ _ _ _ _ _ _ _ _ _ _ _ _ _ _ _ _ _ _ _ _ _ _ _ _ _ _ _ _ _ _ _ _ _ _ _ _ _ _ _ _ _ _ _ _ _ _ _ _ _ _ _ _ _ _ _ _ _ _ _ _ _ _ _ _ _ _ _ _ _ _ _ _ _ _ _ _ _ _ _ _ _ _ _ _ _ _ _ _ _ _ _ _ _ _ _ _ _ _ _ _ _ _ _ _ _ _ _ _ _ _ _ _ _ _ _ _ _ _
  case first =>
    go_wp2_with fail
    go_loopw [24, 25] (fun mo i wr => ∃ (j : Nat) (ma : Option Addr) (mc : Nat) (G : List Tv), j ≤ an ∧ i = .int .i64 (j : Nat) ∧ mo = .slice ma j mc ∧ Lng wr w.heap.size wq.heap.size 45 2 24 9 TL X cL j ⟨ma, j, mc⟩ G ∧ Fr (bkT TL) wq wr) (fun _ i _ => an - (intOf i).toNat)
    case atStart => exact ⟨0, none, 0, [], by omega, rfl, rfl, HL0.out, Fr.refl _ _⟩
    case round =>
    obtain ⟨j, ma, mc, G, hj, rfl, rfl, hL, hF⟩ := hrel
    rename World => wr
    have HL := Lib.hid hL
    have HF := Lib.hid hF
    have HMr := Lib.hid (HMf.out _ hF)
    have hs1 := hF.size
    clear hL hF
    by_cases hlt : j < an
    · have hji : ((j : Nat) : Int) < (an : Nat) := by omega
      have hjp : j < ps.length := by have := Han.out; (try simp only at this); omega
      obtain ⟨ga, p, ea, hp, _, _, hc3⟩ := HMr.out.pat hjp
      have ht := HTp.out j p hp
      have hpn := HMr.out.sp j p hp
      clear hp hjp
      have Hch0 := Lib.hid (Chn.start (cs := cL j) (HL.out.own j _ (Nat.le_refl _) ht))
      generalize p.ls = t at hc3 hpn Hch0 ht
      have Ht := Lib.hid ht
      obtain ⟨ta, tn, tc⟩ := t
      simp only at hc3 hpn ea
      subst ea
      have hlo := HL.out.lo j _ ht
      have Hlo := Lib.hid hlo
      clear ht hlo
      go_wp2_with fail
      go_loopw [26, 27] (fun l k wk => ∃ (n : Nat) (ua : Option Addr) (uc : Nat), n ≤ 9 ∧ k = .int .i64 (n : Nat) ∧ l = .slice ua (tn + n) uc ∧ Chn wr wk w.heap.size 45 2 ⟨ta, tn, tc⟩ (X j) (cL j) n ⟨ua, tn + n, uc⟩) (fun _ k _ => 9 - (intOf k).toNat)
      case atStart => exact ⟨0, ta, tc, by omega, rfl, rfl, Hch0.out⟩
      case round =>
        obtain ⟨n, ua, uc, hn, rfl, rfl, hC⟩ := hrel
        rename World => wk
        have HC := Lib.hid hC
        have hs2 := hC.fr.size
        clear hC
        by_cases hn9 : n < 9
        · have hni : ((n : Nat) : Int) < 9 := by omega
          have hkn := Kp.new wk (.cells #[iv (50 + ((j : Nat) : Int)), .slice none 0 0] 45)
          have hcs : Cs (wk.alloc (.cells #[iv (50 + ((j : Nat) : Int)), .slice none 0 0] 45)) (some ⟨wk.heap.size, 0, none⟩) (cL j) := Cs.new wk (cL j) 45 (0, 0)
          have hC1 := HC.out.kp hkn
          have hbs : w.heap.size ≤ (wk.alloc (.cells #[iv (50 + ((j : Nat) : Int)), .slice none 0 0] 45)).heap.size := by have := hkq.out; have := hkn.size; omega
          go_upto_region 61 with (at_builtin; go_loud (refine wpList_apv rfl (.tmp 251) (.tmp 255) 24 rfl el24I w.heap.size rfl hC1.new rfl (cL j) rfl hcs (by simp [cL, Value.oneCell']) (tn + (n + 1)) (by omega) (X j ++ rep (n + 1) (cL j)) (by rw [rep_succ, List.append_assoc]) (by omega) hbs ?_); intro ao2 cap2 w2 ha)
          have Hfin := Lib.hid (hC1.app rfl rfl ha)
          clear hkn hcs hC1 hbs ha
          go_wp2_with fail
          go_roundw
          case rel => exact ⟨n + 1, _, _, by omega, by go_num, rfl, Hfin.out⟩
          case measure => simp [intOf]; omega
        · obtain rfl : n = 9 := by omega
          have hni : ¬ ((9 : Nat) : Int) < 9 := by omega
          have hkn := Kp.new wk (.cells #[.slice ua (tn + 9) uc] 24)
          have hcs : Cs (wk.alloc (.cells #[.slice ua (tn + 9) uc] 24)) (some ⟨wk.heap.size, 0, none⟩) [.slice ua (tn + 9) uc] := Cs.new wk [.slice ua (tn + 9) uc] 24 (0, 0)
          have hlg := (HC.out.fr.own HL.out.lgo (fun x hx hq => by have h1 := Hlo.out x hq; have h2 := (HL.out.lgo.lt x (mem_blkL.1 hx)).1; omega)).keep hkn
          have hbs : wq.heap.size ≤ (wk.alloc (.cells #[.slice ua (tn + 9) uc] 24)).heap.size := by have := hkn.size; omega
          rw [show ((9 : Nat) : Int) = 9 from rfl]
          go_upto_region 57 with (at_builtin; go_loud (refine wpList_app rfl (.tmp 257) (.tmp 259) 46 rfl el46 wq.heap.size rfl hlg rfl [.slice ua (tn + 9) uc] rfl hcs (by simp [Value.oneCell']) (j + 1) rfl ((G ++ [(⟨ua, tn + 9, uc⟩ : Tv)]).map tvv) (by rw [List.map_append]; rfl) (by omega) hbs ?_); intro ao3 cap3 w3 ha3)
          have hfin := HL.out.next Ht.out HC.out hkn rfl rfl ha3
          have Hfin := Lib.hid (And.intro hfin.1 (HF.out.step hfin.2 (fun x hx => by
            rcases List.mem_append.1 hx with q | q
            · exact .inl (bkT_mem Ht.out q)
            · exact .inr (HL.out.lgo.lt x (mem_blkL.1 q)).1)))
          clear hkn hcs hlg hbs ha3 hfin
          go_wp2_with fail
          go_roundw
          case rel => exact ⟨j + 1, _, _, _, by omega, by go_num, rfl, Hfin.out⟩
          case measure => simp [intOf]; omega
    · obtain rfl : j = an := by omega
      have hji : ¬ ((j : Nat) : Int) < (j : Nat) := by omega
      go_wp2_with fail
      go_meet
      case rel => exact ⟨ma, mc, G, rfl, HL.out, HF.out⟩
end Go.Proofs.YtbdphdgomcabmaaGreatDoor

namespace Go.Proofs.YtbdphdgomcabmaaGreatDoor
open Go.RowKit

set_option maxRecDepth 100000 in
set_option maxHeartbeats 16000000 in
theorem in47 (w wq : World) (HA : ∀ v, Kp w v → Calls Tryz.prog 15 #[] v fun e w' => e = .returned (.bool true) ∧ Kp v w') (aa la : Option Addr) (an ac ln lc : Nat) (ps : List Pt) (T : List Tv) (hM : Mem w wq ⟨aa, an, ac⟩ ⟨la, ln, lc⟩ ps T)
    (hR : ∀ (j : Nat) (t : Tv), (ps.map (·.ls))[j]? = some t → ∃ xs, OwV wq w.heap.size 45 2 t xs) (hD : ∀ (i j x : Nat) (t u : Tv), (ps.map (·.ls))[i]? = some t → (ps.map (·.ls))[j]? = some u → x ∈ blkL t.ao → x ∈ blkL u.ao → i = j)
    (x0 x1 x2 x3 x4 x5 x7 x8 x9 x10 x11 x12 x13 x14 x15 x16 x17 x18 x19 x20 x21 x22 x23 x24 x25 x26 x27 x28 x29 x30 x31 x32 x33 x34 x35 x36 x37 x38 x39 x40 x41 x42 x43 x44 x45 x46 x47 x48 x49 x50 x51 x52 x53 x54 x55 x56 x57 x58 x59 x60 x61 x62 x63 x64 x65 x66 x67 x68 x69 x70 x71 x72 x73 x74 x75 x76 x77 x78 x79 x80 x81 x82 x83 x84 x85 x86 x87 x88 x89 x90 x91 x92 x93 x94 x95 x96 x97 x98 x99 x100 x101 x102 x103 x104 x105 x106 x107 x108 x109 x110 x111 x112 x113 x114 x115 x116 x117 x118 x119 x120 x121 x122 x123 x124 x125 x126 x127 x128 x129 x130 x131 x132 x133 x134 x135 x136 x137 x138 x139 x140 x141 x142 x143 x144 x145 x146 x147 x148 x149 x150 x151 x152 x153 x154 x155 x156 x157 x158 x159 x160 x161 x162 x163 x164 x165 x166 x167 x168 x169 x170 x171 x172 x173 x174 x175 x176 x177 x178 x179 x180 x181 x182 x183 x184 x185 x186 x187 x188 x189 x190 x191 x192 x193 x194 x195 x196 x197 x198 x199 x200 x201 x202 x203 x204 x205 x206 x207 x208 x209 x210 x211 x212 x213 x214 x215 x216 x217 x218 x219 x220 x221 x222 x223 x224 x225 x226 x227 x228 x229 x230 x231 x232 x233 x234 x235 x236 x237 x238 x239 x240 x241 x242 x243 x244 x245 x246 x247 x248 x249 x250 x251 x252 x253 x254 x255 x256 x257 x258 x259 x260 x261 x262 x263 x264 x265 x266 x267 x268 x269 x270 x271 x272 x273 x274 x275 x276 x277 x278 x279 x280 x281 x282 x283 x284 x285 x286 x287 x288 x289 x290 x291 x292 x293 x294 x295 x296 x297 x298 x299 x300 x301 x302 x303 x304 x305 x306 x307 x308 x309 x310 x311 : Value) :
    (tailI 47).wp Tryz.prog (bodyPost Tryz.prog Tryz.f7 fun e w' => e = .returned (.bool true) ∧ Kp w w') { tmps := List.toArray (x0 :: x1 :: x2 :: x3 :: x4 :: x5 :: .slice aa an ac :: x7 :: x8 :: x9 :: x10 :: x11 :: x12 :: x13 :: x14 :: x15 :: x16 :: x17 :: x18 :: x19 :: x20 :: x21 :: x22 :: x23 :: x24 :: x25 :: x26 :: x27 :: x28 :: x29 :: x30 :: x31 :: x32 :: x33 :: x34 :: x35 :: x36 :: x37 :: x38 :: x39 :: x40 :: x41 :: x42 :: x43 :: x44 :: x45 :: x46 :: x47 :: x48 :: x49 :: x50 :: x51 :: x52 :: x53 :: x54 :: x55 :: x56 :: x57 :: x58 :: x59 :: x60 :: x61 :: x62 :: x63 :: x64 :: x65 :: x66 :: x67 :: x68 :: x69 :: x70 :: x71 :: x72 :: x73 :: x74 :: x75 :: x76 :: x77 :: x78 :: x79 :: x80 :: x81 :: x82 :: x83 :: x84 :: x85 :: x86 :: x87 :: x88 :: x89 :: x90 :: x91 :: x92 :: x93 :: x94 :: x95 :: x96 :: x97 :: x98 :: x99 :: x100 :: x101 :: x102 :: x103 :: x104 :: x105 :: x106 :: x107 :: x108 :: x109 :: x110 :: x111 :: x112 :: x113 :: x114 :: x115 :: x116 :: x117 :: x118 :: x119 :: x120 :: x121 :: x122 :: x123 :: x124 :: x125 :: x126 :: x127 :: x128 :: x129 :: x130 :: x131 :: x132 :: x133 :: x134 :: x135 :: x136 :: x137 :: x138 :: x139 :: x140 :: x141 :: x142 :: x143 :: x144 :: x145 :: x146 :: x147 :: x148 :: x149 :: x150 :: x151 :: x152 :: x153 :: x154 :: x155 :: x156 :: x157 :: x158 :: x159 :: x160 :: x161 :: x162 :: x163 :: x164 :: x165 :: x166 :: x167 :: x168 :: x169 :: x170 :: x171 :: x172 :: x173 :: x174 :: x175 :: x176 :: x177 :: x178 :: x179 :: x180 :: x181 :: x182 :: x183 :: x184 :: x185 :: x186 :: x187 :: x188 :: x189 :: x190 :: x191 :: x192 :: x193 :: x194 :: x195 :: x196 :: x197 :: x198 :: x199 :: x200 :: x201 :: x202 :: x203 :: x204 :: x205 :: x206 :: x207 :: x208 :: x209 :: x210 :: x211 :: x212 :: x213 :: x214 :: x215 :: x216 :: x217 :: x218 :: x219 :: x220 :: x221 :: x222 :: x223 :: x224 :: x225 :: x226 :: x227 :: x228 :: x229 :: x230 :: x231 :: x232 :: x233 :: x234 :: x235 :: x236 :: x237 :: x238 :: x239 :: x240 :: x241 :: x242 :: x243 :: x244 :: x245 :: x246 :: x247 :: x248 :: x249 :: x250 :: x251 :: x252 :: x253 :: x254 :: x255 :: x256 :: x257 :: x258 :: x259 :: x260 :: x261 :: x262 :: x263 :: x264 :: x265 :: x266 :: x267 :: x268 :: x269 :: x270 :: x271 :: x272 :: x273 :: x274 :: x275 :: x276 :: x277 :: x278 :: x279 :: x280 :: x281 :: x282 :: x283 :: x284 :: x285 :: x286 :: x287 :: x288 :: x289 :: x290 :: x291 :: x292 :: x293 :: x294 :: x295 :: x296 :: x297 :: x298 :: x299 :: x300 :: x301 :: x302 :: x303 :: x304 :: x305 :: x306 :: x307 :: x308 :: x309 :: x310 :: x311 :: []), defers := [] } wq := by
  have HM := Lib.hid hM
  have hpl := hM.pl
  have htn := hM.tn
  have Han := Lib.hid hM.an
  have Hln := Lib.hid hM.ln
  have han : an ≤ 3 := by have := hM.an; (try simp only at this); omega
  have hln : ln ≤ 200 := by have := hM.ln; (try simp only at this); omega
  clear hM
  have HD := Lib.hid hD
  obtain ⟨TL, hTL⟩ : ∃ TL, TL = ps.map (·.ls) := ⟨_, rfl⟩
  have hTp : ∀ (j : Nat) (p : Pt), ps[j]? = some p → TL[j]? = some p.ls := fun j p hp => by rw [hTL, List.getElem?_map, hp]; rfl
  have hTn : TL.length = an := by have := Han.out; try simp only at this; rw [hTL, List.length_map]; omega
  have hMf : ∀ v, Fr (bkT TL) wq v → Mem w v ⟨aa, an, ac⟩ ⟨la, ln, lc⟩ ps T := fun v hv => HM.out.frL (by rw [← hTL]; exact hv)
  rw [← hTL] at hR hD
  have HF0 := Lib.hid (Fil.start (c := cL) hR hD)
  have HTL := Lib.hid hTL
  have HTp := Lib.hid hTp
  have HTn := Lib.hid hTn
  have HMf := Lib.hid hMf
  clear hR hD hTp hTn hMf hTL hpl htn hln
  unfold tailI
  conv => arg 2; whnf
  go_upto_block 18 with fail
  go_cut [22] (fun _ wc => Fil wc w.heap.size 45 2 TL cL an 0 ∧ Fr (bkT TL) wq wc)
  case rest =>
    obtain ⟨hFi, hF⟩ := hcut
    go_step
    exact in54 w wc HA aa la an ac ln lc ps T (HMf.out _ hF) (by rw [← HTL.out]; exact hFi.done (Nat.le_of_eq HTn.out)) HD.out _ _ _ _ _ _ _ _ _ _ _ _ _ _ _ _ _ _ _ _ _ _ _ _ _ _ _ _ _ _ _ _ _ _ _ _ _ _ _ _ _ _ _ _ _ _ _ _ _ _ _ _ _ _ _ _ _ _ _ _ _ _ _ _ _ _ _ _ _ _ _ _ _ _ _ _ _ _ _ _ _ _ _ _ _ _ _ _ _ _ _ _ _ _ _ _ _ _ _ _ _ _ _ _ _ _ _ _ _ _ _ _ _ _ _ _ _ _ _ _ _ _ _ _ _ _ _ _ _ _ _ _ _ _ _ _ _ _ _ _ _ _ _ _ _ _ _ _ _ _ _ _ _ _ _ _ _ _ _ _ _ _ _ _ _ _ _ _ _ _ _ _ _ _ _ _ _ _ _ _ _ _ _ _ _ _ _ _ _ _ _ _ _ _ _ _ _ _ _ _ _ _ _ _ _ _ _ _ _ _ _ _ _ _ _ _ _ _ _ _ _ _ _ _ _ _ _ _ _ _ _ _ _ _ _ _ _ _ _ _ _ _ _ _ _ _ _ _ _ _ _ _ _ _ _ _ _ _ _ _ _ _ _ _ _ _ _ _ _ _ _ _ _ _ _ _ _ _ _ _ _ _ _ _ _ _ _ _ _ _ _ _ _ _ _ _ _ _ _ _ _ _ _ _ _ _ _ _ _ _ _
  case first =>
    go_wp2_with fail
    go_loopw [22] (fun i wr => ∃ (j : Nat), j ≤ an ∧ i = .int .i64 (j : Nat) ∧ Fil wr w.heap.size 45 2 TL cL j 0 ∧ Fr (bkT TL) wq wr) (fun i _ => an - (intOf i).toNat)
    case atStart => exact ⟨0, by omega, rfl, HF0.out, Fr.refl _ _⟩
    case round =>
    obtain ⟨j, hj, rfl, hFi, hF⟩ := hrel
    rename World => wr
    have HFi := Lib.hid hFi
    have HF := Lib.hid hF
    clear hFi hF
    by_cases hlt : j < an
    · have hji : ((j : Nat) : Int) < (an : Nat) := by omega
      have hjp : j < ps.length := by have := Han.out; (try simp only at this); omega
      obtain ⟨ga, p, ea, hp, _, _, hc3⟩ := (HMf.out _ HF.out).pat hjp
      have hcall : ∀ v, Fr (bkT TL) wq v → v.cell? ⟨ga, j * 4 + 3, none⟩ = some (.slice p.ls.ao p.ls.n p.ls.c) := fun v hv => by
        obtain ⟨ga2, p2, ea2, hp2, _, _, h3⟩ := (HMf.out _ hv).pat hjp
        rw [hp] at hp2
        cases hp2
        rw [ea] at ea2
        cases ea2
        exact h3
      have Ht := Lib.hid (HTp.out j p hp)
      have hpn := HM.out.sp j p hp
      generalize p.ls = t at hcall hpn Ht hc3
      obtain ⟨ta, tn, tc⟩ := t
      simp only at hcall hpn ea hc3
      subst ea
      have Hcall := Lib.hid hcall
      clear hcall hp hjp
      go_wp2_with fail
      go_loopw [23] (fun k wk => ∃ (n : Nat), n ≤ tn ∧ k = .int .i64 (n : Nat) ∧ Fil wk w.heap.size 45 2 TL cL j n ∧ Fr (bkT TL) wq wk) (fun k _ => tn - (intOf k).toNat)
      case atStart => exact ⟨0, by omega, rfl, HFi.out, HF.out⟩
      case round =>
        clear hc3
        obtain ⟨n, hn, rfl, hFk, hG⟩ := hrel
        rename World => wk
        have hc3 := Hcall.out _ hG
        by_cases hnt : n < tn
        · have hni : ((n : Nat) : Int) < (tn : Nat) := by omega
          obtain ⟨g, off, eg, _, _, ⟨u0, c0⟩, ⟨u1, c1⟩, f0, f1, hFn⟩ := hFk.store2 Ht.out hnt rfl
          simp only at eg
          subst eg
          have Hfin := Lib.hid (And.intro hFn (hG.trans (((Fr.set wk ⟨g, off + n * 2, none⟩ (iv (50 + ((j : Nat) : Int)))).trans (Fr.set _ ⟨g, off + n * 2 + 1, none⟩ (.slice none 0 0))).mono (fun x hx => by simp only [List.mem_singleton] at hx; subst hx; exact bkT_mem Ht.out (by simp [blkL, blk])))))
          clear hFk hG hFn
          go_wp2_with fail
          go_roundw
          case rel => exact ⟨n + 1, by omega, by go_num, Hfin.out⟩
          case measure => simp [intOf]; omega
        · obtain rfl : n = tn := by omega
          have hni : ¬ ((n : Nat) : Int) < (n : Nat) := by omega
          have Hfin := Lib.hid (And.intro (hFk.row Ht.out (Nat.le_refl _) (Nat.le_refl _)) hG)
          clear hFk hG
          go_wp2_with fail
          go_roundw
          case rel => exact ⟨j + 1, by omega, by go_num, Hfin.out⟩
          case measure => simp [intOf]; omega
    · obtain rfl : j = an := by omega
      have hji : ¬ ((j : Nat) : Int) < (j : Nat) := by omega
      go_wp2_with fail
      go_meet
      case rel => exact ⟨HFi.out, HF.out⟩
end Go.Proofs.YtbdphdgomcabmaaGreatDoor

namespace Go.Proofs.YtbdphdgomcabmaaGreatDoor
open Go.RowKit

set_option maxRecDepth 100000 in
set_option maxHeartbeats 16000000 in
theorem in39 (w wq : World) (HA : ∀ v, Kp w v → Calls Tryz.prog 15 #[] v fun e w' => e = .returned (.bool true) ∧ Kp v w') (aa la : Option Addr) (an ac ln lc : Nat) (ps : List Pt) (T : List Tv) (hM : Mem w wq ⟨aa, an, ac⟩ ⟨la, ln, lc⟩ ps T)
    (B : Nat) (ma : Option Addr) (mn mc : Nat) (G : List Tv) (hG : Grn wq B 22 T cI ⟨ma, mn, mc⟩ G) (hR : ∀ (j : Nat) (t : Tv), (ps.map (·.ls))[j]? = some t → ∃ xs, OwV wq w.heap.size 45 2 t xs) (hD : ∀ (i j x : Nat) (t u : Tv), (ps.map (·.ls))[i]? = some t → (ps.map (·.ls))[j]? = some u → x ∈ blkL t.ao → x ∈ blkL u.ao → i = j)
    (x0 x1 x2 x3 x4 x5 x7 x8 x9 x10 x12 x13 x14 x15 x17 x18 x19 x20 x21 x22 x23 x24 x25 x26 x27 x28 x29 x30 x31 x32 x33 x34 x35 x36 x37 x38 x39 x40 x41 x42 x43 x44 x45 x46 x47 x48 x49 x50 x51 x52 x53 x54 x55 x56 x57 x58 x59 x60 x61 x62 x63 x64 x65 x66 x67 x68 x69 x70 x71 x72 x73 x74 x75 x76 x77 x78 x79 x80 x81 x82 x83 x84 x85 x86 x87 x88 x89 x90 x91 x92 x93 x94 x95 x96 x97 x98 x99 x100 x101 x102 x103 x104 x105 x106 x107 x108 x109 x110 x111 x112 x113 x114 x115 x116 x117 x118 x119 x120 x121 x122 x123 x124 x125 x126 x127 x128 x129 x130 x131 x132 x133 x134 x135 x136 x137 x138 x139 x140 x141 x142 x143 x144 x145 x146 x147 x148 x149 x150 x151 x152 x153 x154 x155 x156 x157 x158 x159 x160 x161 x162 x163 x164 x165 x166 x167 x168 x169 x170 x171 x172 x173 x174 x175 x176 x177 x178 x179 x180 x181 x182 x183 x184 x185 x186 x187 x188 x189 x190 x191 x192 x193 x194 x195 x196 x197 x198 x199 x200 x201 x202 x203 x204 x205 x206 x207 x208 x209 x210 x211 x212 x213 x214 x215 x216 x217 x218 x219 x220 x221 x222 x223 x224 x225 x226 x227 x228 x229 x230 x231 x232 x233 x234 x235 x236 x237 x238 x239 x240 x241 x242 x243 x244 x245 x246 x247 x248 x249 x250 x251 x252 x253 x254 x255 x256 x257 x258 x259 x260 x261 x262 x263 x264 x265 x266 x267 x268 x269 x270 x271 x272 x273 x274 x275 x276 x277 x278 x279 x280 x281 x282 x283 x284 x285 x286 x287 x288 x289 x290 x291 x292 x293 x294 x295 x296 x297 x298 x299 x300 x301 x302 x303 x304 x305 x306 x307 x308 x309 x310 x311 : Value) :
    (tailI 39).wp Tryz.prog (bodyPost Tryz.prog Tryz.f7 fun e w' => e = .returned (.bool true) ∧ Kp w w') { tmps := List.toArray (x0 :: x1 :: x2 :: x3 :: x4 :: x5 :: .slice aa an ac :: x7 :: x8 :: x9 :: x10 :: .slice la ln lc :: x12 :: x13 :: x14 :: x15 :: .slice ma mn mc :: x17 :: x18 :: x19 :: x20 :: x21 :: x22 :: x23 :: x24 :: x25 :: x26 :: x27 :: x28 :: x29 :: x30 :: x31 :: x32 :: x33 :: x34 :: x35 :: x36 :: x37 :: x38 :: x39 :: x40 :: x41 :: x42 :: x43 :: x44 :: x45 :: x46 :: x47 :: x48 :: x49 :: x50 :: x51 :: x52 :: x53 :: x54 :: x55 :: x56 :: x57 :: x58 :: x59 :: x60 :: x61 :: x62 :: x63 :: x64 :: x65 :: x66 :: x67 :: x68 :: x69 :: x70 :: x71 :: x72 :: x73 :: x74 :: x75 :: x76 :: x77 :: x78 :: x79 :: x80 :: x81 :: x82 :: x83 :: x84 :: x85 :: x86 :: x87 :: x88 :: x89 :: x90 :: x91 :: x92 :: x93 :: x94 :: x95 :: x96 :: x97 :: x98 :: x99 :: x100 :: x101 :: x102 :: x103 :: x104 :: x105 :: x106 :: x107 :: x108 :: x109 :: x110 :: x111 :: x112 :: x113 :: x114 :: x115 :: x116 :: x117 :: x118 :: x119 :: x120 :: x121 :: x122 :: x123 :: x124 :: x125 :: x126 :: x127 :: x128 :: x129 :: x130 :: x131 :: x132 :: x133 :: x134 :: x135 :: x136 :: x137 :: x138 :: x139 :: x140 :: x141 :: x142 :: x143 :: x144 :: x145 :: x146 :: x147 :: x148 :: x149 :: x150 :: x151 :: x152 :: x153 :: x154 :: x155 :: x156 :: x157 :: x158 :: x159 :: x160 :: x161 :: x162 :: x163 :: x164 :: x165 :: x166 :: x167 :: x168 :: x169 :: x170 :: x171 :: x172 :: x173 :: x174 :: x175 :: x176 :: x177 :: x178 :: x179 :: x180 :: x181 :: x182 :: x183 :: x184 :: x185 :: x186 :: x187 :: x188 :: x189 :: x190 :: x191 :: x192 :: x193 :: x194 :: x195 :: x196 :: x197 :: x198 :: x199 :: x200 :: x201 :: x202 :: x203 :: x204 :: x205 :: x206 :: x207 :: x208 :: x209 :: x210 :: x211 :: x212 :: x213 :: x214 :: x215 :: x216 :: x217 :: x218 :: x219 :: x220 :: x221 :: x222 :: x223 :: x224 :: x225 :: x226 :: x227 :: x228 :: x229 :: x230 :: x231 :: x232 :: x233 :: x234 :: x235 :: x236 :: x237 :: x238 :: x239 :: x240 :: x241 :: x242 :: x243 :: x244 :: x245 :: x246 :: x247 :: x248 :: x249 :: x250 :: x251 :: x252 :: x253 :: x254 :: x255 :: x256 :: x257 :: x258 :: x259 :: x260 :: x261 :: x262 :: x263 :: x264 :: x265 :: x266 :: x267 :: x268 :: x269 :: x270 :: x271 :: x272 :: x273 :: x274 :: x275 :: x276 :: x277 :: x278 :: x279 :: x280 :: x281 :: x282 :: x283 :: x284 :: x285 :: x286 :: x287 :: x288 :: x289 :: x290 :: x291 :: x292 :: x293 :: x294 :: x295 :: x296 :: x297 :: x298 :: x299 :: x300 :: x301 :: x302 :: x303 :: x304 :: x305 :: x306 :: x307 :: x308 :: x309 :: x310 :: x311 :: []), defers := [] } wq := by
  have HM := Lib.hid hM
  have hpl := hM.pl
  have htn := hM.tn
  have Han := Lib.hid hM.an
  have Hln := Lib.hid hM.ln
  have han : an ≤ 3 := by have := hM.an; (try simp only at this); omega
  have hln : ln ≤ 200 := by have := hM.ln; (try simp only at this); omega
  clear hM
  have HG := Lib.hid hG
  have HR := Lib.hid hR
  have HD := Lib.hid hD
  clear hG hR hD htn hpl
  unfold tailI
  conv => arg 2; whnf
  go_upto_block 14 with fail
  go_cut [20] (fun _ wc => wq = wc)
  case rest =>
    have hcw := hcut
    subst hcw
    go_step
    exact in47 w wq HA aa la an ac ln lc ps T HM.out HR.out HD.out _ _ _ _ _ _ _ _ _ _ _ _ _ _ _ _ _ _ _ _ _ _ _ _ _ _ _ _ _ _ _ _ _ _ _ _ _ _ _ _ _ _ _ _ _ _ _ _ _ _ _ _ _ _ _ _ _ _ _ _ _ _ _ _ _ _ _ _ _ _ _ _ _ _ _ _ _ _ _ _ _ _ _ _ _ _ _ _ _ _ _ _ _ _ _ _ _ _ _ _ _ _ _ _ _ _ _ _ _ _ _ _ _ _ _ _ _ _ _ _ _ _ _ _ _ _ _ _ _ _ _ _ _ _ _ _ _ _ _ _ _ _ _ _ _ _ _ _ _ _ _ _ _ _ _ _ _ _ _ _ _ _ _ _ _ _ _ _ _ _ _ _ _ _ _ _ _ _ _ _ _ _ _ _ _ _ _ _ _ _ _ _ _ _ _ _ _ _ _ _ _ _ _ _ _ _ _ _ _ _ _ _ _ _ _ _ _ _ _ _ _ _ _ _ _ _ _ _ _ _ _ _ _ _ _ _ _ _ _ _ _ _ _ _ _ _ _ _ _ _ _ _ _ _ _ _ _ _ _ _ _ _ _ _ _ _ _ _ _ _ _ _ _ _ _ _ _ _ _ _ _ _ _ _ _ _ _ _ _ _ _ _ _ _ _ _ _ _ _ _ _ _ _ _ _ _ _ _ _ _ _
  case first =>
    go_wp2_with fail
    go_loopw [20] (fun i wr => ∃ j : Nat, j ≤ ln ∧ i = .int .i64 (j : Nat) ∧ wq = wr) (fun i _ => ln - (intOf i).toNat)
    case atStart => exact ⟨0, by omega, rfl, rfl⟩
    case round =>
    obtain ⟨j, hj, rfl, rfl⟩ := hrel
    by_cases hlt : j < ln
    · have hjp : j < T.length := by have := Hln.out; (try simp only at this); omega
      have hjm : j < mn := by have := HG.out.n; (try simp only at this); omega
      obtain ⟨ga, t, ea, ht, hc3⟩ := HM.out.row hjp
      obtain ⟨gm, g, em, hcm, hgn, hgc⟩ := HG.out.at ht
      have hrow := HG.out.row j t ht
      have hpn := HM.out.st j t ht
      have hg24 : g.n ≤ 33 := by omega
      obtain ⟨ta, tn, tc⟩ := t
      obtain ⟨gg, gn, gc⟩ := g
      simp only at hc3 hcm hgn hgc hrow hpn hg24 ea em
      have hgt : tn ≤ gn := by omega
      have Hrow := Lib.hid hrow
      have Hgc := Lib.hid hgc
      have Hc3 := Lib.hid hc3
      have Hcm := Lib.hid hcm
      subst ea
      subst em
      have hji : ((j : Nat) : Int) < (ln : Nat) := by omega
      clear hgn hrow hgc ht hjp
      go_wp2_with fail
      go_loopw [21] (fun i wr => ∃ k : Nat, k ≤ gn ∧ i = .int .i64 (k : Nat) ∧ wq = wr) (fun i _ => gn - (intOf i).toNat)
      case atStart => exact ⟨0, by omega, rfl, rfl⟩
      case round =>
        obtain ⟨k, hk, rfl, rfl⟩ := hrel
        by_cases hkg : k < gn
        · have hki : ((k : Nat) : Int) < (gn : Nat) := by omega
          obtain ⟨gb, go, rfl, hgv⟩ := repI Hgc.out hkg
          have hcm := Hcm.out
          have hc3 := Hc3.out
          by_cases hkt : k < tn
          · have hkj : ((k : Nat) : Int) < (tn : Nat) := by omega
            obtain ⟨tb, to_, rfl, htv⟩ := repI Hrow.out hkt
            have hc3 := Hc3.out
            go_wp2_with fail
            go_roundw
            case rel => exact ⟨k + 1, by omega, by go_num, trivial⟩
            case measure => simp [intOf]; omega
          · have hkj : ¬ ((k : Nat) : Int) < (tn : Nat) := by omega
            go_wp2_with fail
            go_roundw
            case rel => exact ⟨k + 1, by omega, by go_num, trivial⟩
            case measure => simp [intOf]; omega
        · obtain rfl : k = gn := by omega
          have hki : ¬ ((k : Nat) : Int) < (k : Nat) := by omega
          have hcm := Hcm.out
          go_wp2_with fail
          go_roundw
          case rel => exact ⟨j + 1, by omega, by go_num, trivial⟩
          case measure => simp [intOf]; omega
    · obtain rfl : j = ln := by omega
      have hji : ¬ ((j : Nat) : Int) < (j : Nat) := by omega
      go_wp2_with fail
      go_meet
      case rel => first | trivial | rfl
end Go.Proofs.YtbdphdgomcabmaaGreatDoor

namespace Go.Proofs.YtbdphdgomcabmaaGreatDoor
open Go.RowKit

set_option maxRecDepth 100000 in
set_option maxHeartbeats 16000000 in
theorem in29 (w wq : World) (HA : ∀ v, Kp w v → Calls Tryz.prog 15 #[] v fun e w' => e = .returned (.bool true) ∧ Kp v w') (aa la : Option Addr) (an ac ln lc : Nat) (ps : List Pt) (T : List Tv) (hM : Mem w wq ⟨aa, an, ac⟩ ⟨la, ln, lc⟩ ps T)
    (hT : ∀ (j : Nat) (t : Tv), T[j]? = some t → OwV wq w.heap.size 3 1 t (rep t.n (cI j))) (hDT : ∀ (i j x : Nat) (t u : Tv), T[i]? = some t → T[j]? = some u → x ∈ blkL t.ao → x ∈ blkL u.ao → i = j) (hR : ∀ (j : Nat) (t : Tv), (ps.map (·.ls))[j]? = some t → ∃ xs, OwV wq w.heap.size 45 2 t xs) (hD : ∀ (i j x : Nat) (t u : Tv), (ps.map (·.ls))[i]? = some t → (ps.map (·.ls))[j]? = some u → x ∈ blkL t.ao → x ∈ blkL u.ao → i = j)
    (x0 x1 x2 x3 x4 x5 x7 x8 x9 x10 x12 x13 x14 x15 x16 x17 x18 x19 x20 x21 x22 x23 x24 x25 x26 x27 x28 x29 x30 x31 x32 x33 x34 x35 x36 x37 x38 x39 x40 x41 x42 x43 x44 x45 x46 x47 x48 x49 x50 x51 x52 x53 x54 x55 x56 x57 x58 x59 x60 x61 x62 x63 x64 x65 x66 x67 x68 x69 x70 x71 x72 x73 x74 x75 x76 x77 x78 x79 x80 x81 x82 x83 x84 x85 x86 x87 x88 x89 x90 x91 x92 x93 x94 x95 x96 x97 x98 x99 x100 x101 x102 x103 x104 x105 x106 x107 x108 x109 x110 x111 x112 x113 x114 x115 x116 x117 x118 x119 x120 x121 x122 x123 x124 x125 x126 x127 x128 x129 x130 x131 x132 x133 x134 x135 x136 x137 x138 x139 x140 x141 x142 x143 x144 x145 x146 x147 x148 x149 x150 x151 x152 x153 x154 x155 x156 x157 x158 x159 x160 x161 x162 x163 x164 x165 x166 x167 x168 x169 x170 x171 x172 x173 x174 x175 x176 x177 x178 x179 x180 x181 x182 x183 x184 x185 x186 x187 x188 x189 x190 x191 x192 x193 x194 x195 x196 x197 x198 x199 x200 x201 x202 x203 x204 x205 x206 x207 x208 x209 x210 x211 x212 x213 x214 x215 x216 x217 x218 x219 x220 x221 x222 x223 x224 x225 x226 x227 x228 x229 x230 x231 x232 x233 x234 x235 x236 x237 x238 x239 x240 x241 x242 x243 x244 x245 x246 x247 x248 x249 x250 x251 x252 x253 x254 x255 x256 x257 x258 x259 x260 x261 x262 x263 x264 x265 x266 x267 x268 x269 x270 x271 x272 x273 x274 x275 x276 x277 x278 x279 x280 x281 x282 x283 x284 x285 x286 x287 x288 x289 x290 x291 x292 x293 x294 x295 x296 x297 x298 x299 x300 x301 x302 x303 x304 x305 x306 x307 x308 x309 x310 x311 : Value) :
    (tailI 29).wp Tryz.prog (bodyPost Tryz.prog Tryz.f7 fun e w' => e = .returned (.bool true) ∧ Kp w w') { tmps := List.toArray (x0 :: x1 :: x2 :: x3 :: x4 :: x5 :: .slice aa an ac :: x7 :: x8 :: x9 :: x10 :: .slice la ln lc :: x12 :: x13 :: x14 :: x15 :: x16 :: x17 :: x18 :: x19 :: x20 :: x21 :: x22 :: x23 :: x24 :: x25 :: x26 :: x27 :: x28 :: x29 :: x30 :: x31 :: x32 :: x33 :: x34 :: x35 :: x36 :: x37 :: x38 :: x39 :: x40 :: x41 :: x42 :: x43 :: x44 :: x45 :: x46 :: x47 :: x48 :: x49 :: x50 :: x51 :: x52 :: x53 :: x54 :: x55 :: x56 :: x57 :: x58 :: x59 :: x60 :: x61 :: x62 :: x63 :: x64 :: x65 :: x66 :: x67 :: x68 :: x69 :: x70 :: x71 :: x72 :: x73 :: x74 :: x75 :: x76 :: x77 :: x78 :: x79 :: x80 :: x81 :: x82 :: x83 :: x84 :: x85 :: x86 :: x87 :: x88 :: x89 :: x90 :: x91 :: x92 :: x93 :: x94 :: x95 :: x96 :: x97 :: x98 :: x99 :: x100 :: x101 :: x102 :: x103 :: x104 :: x105 :: x106 :: x107 :: x108 :: x109 :: x110 :: x111 :: x112 :: x113 :: x114 :: x115 :: x116 :: x117 :: x118 :: x119 :: x120 :: x121 :: x122 :: x123 :: x124 :: x125 :: x126 :: x127 :: x128 :: x129 :: x130 :: x131 :: x132 :: x133 :: x134 :: x135 :: x136 :: x137 :: x138 :: x139 :: x140 :: x141 :: x142 :: x143 :: x144 :: x145 :: x146 :: x147 :: x148 :: x149 :: x150 :: x151 :: x152 :: x153 :: x154 :: x155 :: x156 :: x157 :: x158 :: x159 :: x160 :: x161 :: x162 :: x163 :: x164 :: x165 :: x166 :: x167 :: x168 :: x169 :: x170 :: x171 :: x172 :: x173 :: x174 :: x175 :: x176 :: x177 :: x178 :: x179 :: x180 :: x181 :: x182 :: x183 :: x184 :: x185 :: x186 :: x187 :: x188 :: x189 :: x190 :: x191 :: x192 :: x193 :: x194 :: x195 :: x196 :: x197 :: x198 :: x199 :: x200 :: x201 :: x202 :: x203 :: x204 :: x205 :: x206 :: x207 :: x208 :: x209 :: x210 :: x211 :: x212 :: x213 :: x214 :: x215 :: x216 :: x217 :: x218 :: x219 :: x220 :: x221 :: x222 :: x223 :: x224 :: x225 :: x226 :: x227 :: x228 :: x229 :: x230 :: x231 :: x232 :: x233 :: x234 :: x235 :: x236 :: x237 :: x238 :: x239 :: x240 :: x241 :: x242 :: x243 :: x244 :: x245 :: x246 :: x247 :: x248 :: x249 :: x250 :: x251 :: x252 :: x253 :: x254 :: x255 :: x256 :: x257 :: x258 :: x259 :: x260 :: x261 :: x262 :: x263 :: x264 :: x265 :: x266 :: x267 :: x268 :: x269 :: x270 :: x271 :: x272 :: x273 :: x274 :: x275 :: x276 :: x277 :: x278 :: x279 :: x280 :: x281 :: x282 :: x283 :: x284 :: x285 :: x286 :: x287 :: x288 :: x289 :: x290 :: x291 :: x292 :: x293 :: x294 :: x295 :: x296 :: x297 :: x298 :: x299 :: x300 :: x301 :: x302 :: x303 :: x304 :: x305 :: x306 :: x307 :: x308 :: x309 :: x310 :: x311 :: []), defers := [] } wq := by
  have HM := Lib.hid hM
  have hpl := hM.pl
  have htn := hM.tn
  have Han := Lib.hid hM.an
  have Hln := Lib.hid hM.ln
  have han : an ≤ 3 := by have := hM.an; (try simp only at this); omega
  have hln : ln ≤ 200 := by have := hM.ln; (try simp only at this); omega
  clear hM
  have hTn : T.length = ln := by have := Hln.out; (try simp only at this); omega
  obtain ⟨X, hX⟩ : ∃ X : Nat → List Value, X = fun j => rep (T.getD j nilT).n (cI j) := ⟨_, rfl⟩
  have hXt : ∀ (j : Nat) (t : Tv), T[j]? = some t → X j = rep t.n (cI j) := fun j t ht => by rw [hX]; simp only; rw [List.getD_eq_getElem?_getD, ht]; rfl
  have HL0 := Lib.hid (Lng.start (et := 22) (K := 9) (c := cI) (X := X) (fun j t ht => by rw [hXt j t ht]; exact hT j t ht) hDT)
  have HX := Lib.hid hX
  have HTn := Lib.hid hTn
  have HR := Lib.hid hR
  have HD := Lib.hid hD
  have hkq := Lib.hid HM.out.kp.size
  clear hT hDT hR hD hXt hX hTn hpl htn
  unfold tailI
  conv => arg 2; whnf
  go_upto_block 10 with fail
  go_cut [16] (fun mo wc => ∃ ma mc G, mo = .slice ma ln mc ∧ Lng wc w.heap.size wq.heap.size 3 1 22 9 T X cI ln ⟨ma, ln, mc⟩ G ∧ Fr (bkT T) wq wc)
  case rest =>
    obtain ⟨ma, mc, G, rfl, hL, hF⟩ := hcut
    go_step
    have hG := Grn.of (HX.out ▸ hL) HTn.out.symm
    exact in39 w wc HA aa la an ac ln lc ps T (HM.out.frT hF) _ ma ln mc G hG (fun j t ht => by
      obtain ⟨xs, hx⟩ := HR.out j t ht
      refine ⟨xs, hx.fr hF (fun x hx hq => ?_)⟩
      obtain ⟨i, u, hu, hxu⟩ := bkT_of hq
      rw [List.getElem?_map] at ht
      obtain ⟨p, hp, rfl⟩ := Option.map_eq_some_iff.1 ht
      exact HM.out.tp i u j p x hu hp hxu hx) HD.out _ _ _ _ _ _ _ _ _ _ _ _ _ _ _ _ _ _ _ _ _ _ _ _ _ _ _ _ _ _ _ _ _ _ _ _ _ _ _ _ _ _ _ _ _ _ _ _ _ _ _ _ _ _ _ _ _ _ _ _ _ _ _ _ _ _ _ _ _ _ _ _ _ _ _ _ _ _ _ _ _ _ _ _ _ _ _ _ _ _ _ _ _ _ _ _ _ _ _ _ _ _ _ _ _ _ _ _ _ _ _ _ _ _ _ _ _ _ _ _ _ _ _ _ _ _ _ _ _ _ _ _ _ _ _ _ _ _ _ _ _ _ _ _ _ _ _ _ _ _ _ _ _ _ _ _ _ _ _ _ _ _ _ _ _ _ _ _ _ _ _ _ _ _ _ _ _ _ _ _ _ _ _ _ _ _ _ _ _ _ _ _ _ _ _ _ _ _ _ _ _ _ _ _ _ _ _ _ _ _ _ _ _ _ _ _ _ _ _ _ _ _ _ _ _ _ _ _ _ _ _ _ _ _ _ _ _ _ _ _ _ _ _ _ _ _ _ _ _ _ _ _ _ _ _ _ _ _ _ _ _ _ _ _ _ _ _ _ _ _ _ _ _ _ _ _ _ _ _ _ _ _ _ _ _ _ _ _ _ _ _ _ _ _ _ _ _ _ _ _ _ _ _ _ _ _ _ _ _
  case first =>
    go_wp2_with fail
    go_loopw [16, 17] (fun mo i wr => ∃ (j : Nat) (ma : Option Addr) (mc : Nat) (G : List Tv), j ≤ ln ∧ i = .int .i64 (j : Nat) ∧ mo = .slice ma j mc ∧ Lng wr w.heap.size wq.heap.size 3 1 22 9 T X cI j ⟨ma, j, mc⟩ G ∧ Fr (bkT T) wq wr) (fun _ i _ => ln - (intOf i).toNat)
    case atStart => exact ⟨0, none, 0, [], by omega, rfl, rfl, HL0.out, Fr.refl _ _⟩
    case round =>
    obtain ⟨j, ma, mc, G, hj, rfl, rfl, hL, hF⟩ := hrel
    rename World => wr
    have HL := Lib.hid hL
    have HF := Lib.hid hF
    have HMr := Lib.hid (HM.out.frT hF)
    have hs1 := hF.size
    clear hL hF
    by_cases hlt : j < ln
    · have hji : ((j : Nat) : Int) < (ln : Nat) := by omega
      have hjp : j < T.length := by have := Hln.out; (try simp only at this); omega
      obtain ⟨ga, p, ea, ht, hc3⟩ := HMr.out.row hjp
      have hpn := HMr.out.st j p ht
      clear hjp
      have Hch0 := Lib.hid (Chn.start (cs := cI j) (HL.out.own j _ (Nat.le_refl _) ht))
      generalize p = t at hc3 hpn Hch0 ht
      have Ht := Lib.hid ht
      obtain ⟨ta, tn, tc⟩ := t
      simp only at hc3 hpn ea
      subst ea
      have hlo := HL.out.lo j _ ht
      have Hlo := Lib.hid hlo
      clear ht hlo
      go_wp2_with fail
      go_loopw [18, 19] (fun l k wk => ∃ (n : Nat) (ua : Option Addr) (uc : Nat), n ≤ 9 ∧ k = .int .i64 (n : Nat) ∧ l = .slice ua (tn + n) uc ∧ Chn wr wk w.heap.size 3 1 ⟨ta, tn, tc⟩ (X j) (cI j) n ⟨ua, tn + n, uc⟩) (fun _ k _ => 9 - (intOf k).toNat)
      case atStart => exact ⟨0, ta, tc, by omega, rfl, rfl, Hch0.out⟩
      case round =>
        obtain ⟨n, ua, uc, hn, rfl, rfl, hC⟩ := hrel
        rename World => wk
        have HC := Lib.hid hC
        have hs2 := hC.fr.size
        clear hC
        by_cases hn9 : n < 9
        · have hni : ((n : Nat) : Int) < 9 := by omega
          have hkn := Kp.new wk (.cells #[iv (100 + ((j : Nat) : Int))] 3)
          have hcs : Cs (wk.alloc (.cells #[iv (100 + ((j : Nat) : Int))] 3)) (some ⟨wk.heap.size, 0, none⟩) (cI j) := Cs.new wk (cI j) 3 (0, 0)
          have hC1 := HC.out.kp hkn
          have hbs : w.heap.size ≤ (wk.alloc (.cells #[iv (100 + ((j : Nat) : Int))] 3)).heap.size := by have := hkq.out; have := hkn.size; omega
          go_upto_region 36 with (at_builtin; go_loud (refine wpList_apv rfl (.tmp 155) (.tmp 158) 22 rfl el22 w.heap.size rfl hC1.new rfl (cI j) rfl hcs (by simp [cI, Value.oneCell']) (tn + (n + 1)) (by omega) (X j ++ rep (n + 1) (cI j)) (by rw [rep_succ, List.append_assoc]) (by omega) hbs ?_); intro ao2 cap2 w2 ha)
          have Hfin := Lib.hid (hC1.app rfl rfl ha)
          clear hkn hcs hC1 hbs ha
          go_wp2_with fail
          go_roundw
          case rel => exact ⟨n + 1, _, _, by omega, by go_num, rfl, Hfin.out⟩
          case measure => simp [intOf]; omega
        · obtain rfl : n = 9 := by omega
          have hni : ¬ ((9 : Nat) : Int) < 9 := by omega
          have hkn := Kp.new wk (.cells #[.slice ua (tn + 9) uc] 22)
          have hcs : Cs (wk.alloc (.cells #[.slice ua (tn + 9) uc] 22)) (some ⟨wk.heap.size, 0, none⟩) [.slice ua (tn + 9) uc] := Cs.new wk [.slice ua (tn + 9) uc] 22 (0, 0)
          have hlg := (HC.out.fr.own HL.out.lgo (fun x hx hq => by have h1 := Hlo.out x hq; have h2 := (HL.out.lgo.lt x (mem_blkL.1 hx)).1; omega)).keep hkn
          have hbs : wq.heap.size ≤ (wk.alloc (.cells #[.slice ua (tn + 9) uc] 22)).heap.size := by have := hkn.size; omega
          rw [show ((9 : Nat) : Int) = 9 from rfl]
          go_upto_region 32 with (at_builtin; go_loud (refine wpList_app rfl (.tmp 160) (.tmp 162) 43 rfl el43 wq.heap.size rfl hlg rfl [.slice ua (tn + 9) uc] rfl hcs (by simp [Value.oneCell']) (j + 1) rfl ((G ++ [(⟨ua, tn + 9, uc⟩ : Tv)]).map tvv) (by rw [List.map_append]; rfl) (by omega) hbs ?_); intro ao3 cap3 w3 ha3)
          have hfin := HL.out.next Ht.out HC.out hkn rfl rfl ha3
          have Hfin := Lib.hid (And.intro hfin.1 (HF.out.step hfin.2 (fun x hx => by
            rcases List.mem_append.1 hx with q | q
            · exact .inl (bkT_mem Ht.out q)
            · exact .inr (HL.out.lgo.lt x (mem_blkL.1 q)).1)))
          clear hkn hcs hlg hbs ha3 hfin
          go_wp2_with fail
          go_roundw
          case rel => exact ⟨j + 1, _, _, _, by omega, by go_num, rfl, Hfin.out⟩
          case measure => simp [intOf]; omega
    · obtain rfl : j = ln := by omega
      have hji : ¬ ((j : Nat) : Int) < (j : Nat) := by omega
      go_wp2_with fail
      go_meet
      case rel => exact ⟨ma, mc, G, rfl, HL.out, HF.out⟩
end Go.Proofs.YtbdphdgomcabmaaGreatDoor

namespace Go.Proofs.YtbdphdgomcabmaaGreatDoor
open Go.RowKit

set_option maxRecDepth 100000 in
set_option maxHeartbeats 16000000 in
theorem in22 (w wq : World) (HA : ∀ v, Kp w v → Calls Tryz.prog 15 #[] v fun e w' => e = .returned (.bool true) ∧ Kp v w') (aa la : Option Addr) (an ac ln lc : Nat) (ps : List Pt) (T : List Tv) (hM : Mem w wq ⟨aa, an, ac⟩ ⟨la, ln, lc⟩ ps T)
    (hT : ∀ (j : Nat) (t : Tv), T[j]? = some t → ∃ xs, OwV wq w.heap.size 3 1 t xs) (hDT : ∀ (i j x : Nat) (t u : Tv), T[i]? = some t → T[j]? = some u → x ∈ blkL t.ao → x ∈ blkL u.ao → i = j) (hR : ∀ (j : Nat) (t : Tv), (ps.map (·.ls))[j]? = some t → ∃ xs, OwV wq w.heap.size 45 2 t xs) (hD : ∀ (i j x : Nat) (t u : Tv), (ps.map (·.ls))[i]? = some t → (ps.map (·.ls))[j]? = some u → x ∈ blkL t.ao → x ∈ blkL u.ao → i = j)
    (x0 x1 x2 x3 x4 x5 x7 x8 x9 x10 x12 x13 x14 x15 x16 x17 x18 x19 x20 x21 x22 x23 x24 x25 x26 x27 x28 x29 x30 x31 x32 x33 x34 x35 x36 x37 x38 x39 x40 x41 x42 x43 x44 x45 x46 x47 x48 x49 x50 x51 x52 x53 x54 x55 x56 x57 x58 x59 x60 x61 x62 x63 x64 x65 x66 x67 x68 x69 x70 x71 x72 x73 x74 x75 x76 x77 x78 x79 x80 x81 x82 x83 x84 x85 x86 x87 x88 x89 x90 x91 x92 x93 x94 x95 x96 x97 x98 x99 x100 x101 x102 x103 x104 x105 x106 x107 x108 x109 x110 x111 x112 x113 x114 x115 x116 x117 x118 x119 x120 x121 x122 x123 x124 x125 x126 x127 x128 x129 x130 x131 x132 x133 x134 x135 x136 x137 x138 x139 x140 x141 x142 x143 x144 x145 x146 x147 x148 x149 x150 x151 x152 x153 x154 x155 x156 x157 x158 x159 x160 x161 x162 x163 x164 x165 x166 x167 x168 x169 x170 x171 x172 x173 x174 x175 x176 x177 x178 x179 x180 x181 x182 x183 x184 x185 x186 x187 x188 x189 x190 x191 x192 x193 x194 x195 x196 x197 x198 x199 x200 x201 x202 x203 x204 x205 x206 x207 x208 x209 x210 x211 x212 x213 x214 x215 x216 x217 x218 x219 x220 x221 x222 x223 x224 x225 x226 x227 x228 x229 x230 x231 x232 x233 x234 x235 x236 x237 x238 x239 x240 x241 x242 x243 x244 x245 x246 x247 x248 x249 x250 x251 x252 x253 x254 x255 x256 x257 x258 x259 x260 x261 x262 x263 x264 x265 x266 x267 x268 x269 x270 x271 x272 x273 x274 x275 x276 x277 x278 x279 x280 x281 x282 x283 x284 x285 x286 x287 x288 x289 x290 x291 x292 x293 x294 x295 x296 x297 x298 x299 x300 x301 x302 x303 x304 x305 x306 x307 x308 x309 x310 x311 : Value) :
    (tailI 22).wp Tryz.prog (bodyPost Tryz.prog Tryz.f7 fun e w' => e = .returned (.bool true) ∧ Kp w w') { tmps := List.toArray (x0 :: x1 :: x2 :: x3 :: x4 :: x5 :: .slice aa an ac :: x7 :: x8 :: x9 :: x10 :: .slice la ln lc :: x12 :: x13 :: x14 :: x15 :: x16 :: x17 :: x18 :: x19 :: x20 :: x21 :: x22 :: x23 :: x24 :: x25 :: x26 :: x27 :: x28 :: x29 :: x30 :: x31 :: x32 :: x33 :: x34 :: x35 :: x36 :: x37 :: x38 :: x39 :: x40 :: x41 :: x42 :: x43 :: x44 :: x45 :: x46 :: x47 :: x48 :: x49 :: x50 :: x51 :: x52 :: x53 :: x54 :: x55 :: x56 :: x57 :: x58 :: x59 :: x60 :: x61 :: x62 :: x63 :: x64 :: x65 :: x66 :: x67 :: x68 :: x69 :: x70 :: x71 :: x72 :: x73 :: x74 :: x75 :: x76 :: x77 :: x78 :: x79 :: x80 :: x81 :: x82 :: x83 :: x84 :: x85 :: x86 :: x87 :: x88 :: x89 :: x90 :: x91 :: x92 :: x93 :: x94 :: x95 :: x96 :: x97 :: x98 :: x99 :: x100 :: x101 :: x102 :: x103 :: x104 :: x105 :: x106 :: x107 :: x108 :: x109 :: x110 :: x111 :: x112 :: x113 :: x114 :: x115 :: x116 :: x117 :: x118 :: x119 :: x120 :: x121 :: x122 :: x123 :: x124 :: x125 :: x126 :: x127 :: x128 :: x129 :: x130 :: x131 :: x132 :: x133 :: x134 :: x135 :: x136 :: x137 :: x138 :: x139 :: x140 :: x141 :: x142 :: x143 :: x144 :: x145 :: x146 :: x147 :: x148 :: x149 :: x150 :: x151 :: x152 :: x153 :: x154 :: x155 :: x156 :: x157 :: x158 :: x159 :: x160 :: x161 :: x162 :: x163 :: x164 :: x165 :: x166 :: x167 :: x168 :: x169 :: x170 :: x171 :: x172 :: x173 :: x174 :: x175 :: x176 :: x177 :: x178 :: x179 :: x180 :: x181 :: x182 :: x183 :: x184 :: x185 :: x186 :: x187 :: x188 :: x189 :: x190 :: x191 :: x192 :: x193 :: x194 :: x195 :: x196 :: x197 :: x198 :: x199 :: x200 :: x201 :: x202 :: x203 :: x204 :: x205 :: x206 :: x207 :: x208 :: x209 :: x210 :: x211 :: x212 :: x213 :: x214 :: x215 :: x216 :: x217 :: x218 :: x219 :: x220 :: x221 :: x222 :: x223 :: x224 :: x225 :: x226 :: x227 :: x228 :: x229 :: x230 :: x231 :: x232 :: x233 :: x234 :: x235 :: x236 :: x237 :: x238 :: x239 :: x240 :: x241 :: x242 :: x243 :: x244 :: x245 :: x246 :: x247 :: x248 :: x249 :: x250 :: x251 :: x252 :: x253 :: x254 :: x255 :: x256 :: x257 :: x258 :: x259 :: x260 :: x261 :: x262 :: x263 :: x264 :: x265 :: x266 :: x267 :: x268 :: x269 :: x270 :: x271 :: x272 :: x273 :: x274 :: x275 :: x276 :: x277 :: x278 :: x279 :: x280 :: x281 :: x282 :: x283 :: x284 :: x285 :: x286 :: x287 :: x288 :: x289 :: x290 :: x291 :: x292 :: x293 :: x294 :: x295 :: x296 :: x297 :: x298 :: x299 :: x300 :: x301 :: x302 :: x303 :: x304 :: x305 :: x306 :: x307 :: x308 :: x309 :: x310 :: x311 :: []), defers := [] } wq := by
  have HM := Lib.hid hM
  have hpl := hM.pl
  have htn := hM.tn
  have Han := Lib.hid hM.an
  have Hln := Lib.hid hM.ln
  have han : an ≤ 3 := by have := hM.an; (try simp only at this); omega
  have hln : ln ≤ 200 := by have := hM.ln; (try simp only at this); omega
  clear hM
  have hTn : T.length = ln := by have := Hln.out; (try simp only at this); omega
  have HF0 := Lib.hid (Fil.start (c := cI) hT hDT)
  have HDT := Lib.hid hDT
  have HTn := Lib.hid hTn
  have HR := Lib.hid hR
  have HD := Lib.hid hD
  clear hT hDT hR hD hTn hpl htn
  unfold tailI
  conv => arg 2; whnf
  go_upto_block 6 with fail
  go_cut [14] (fun _ wc => Fil wc w.heap.size 3 1 T cI ln 0 ∧ Fr (bkT T) wq wc)
  case rest =>
    obtain ⟨hFi, hF⟩ := hcut
    go_step
    exact in29 w wc HA aa la an ac ln lc ps T (HM.out.frT hF) (hFi.done (Nat.le_of_eq HTn.out)) HDT.out (fun j t ht => by
      obtain ⟨xs, hx⟩ := HR.out j t ht
      refine ⟨xs, hx.fr hF (fun x hx hq => ?_)⟩
      obtain ⟨i, u, hu, hxu⟩ := bkT_of hq
      rw [List.getElem?_map] at ht
      obtain ⟨p, hp, rfl⟩ := Option.map_eq_some_iff.1 ht
      exact HM.out.tp i u j p x hu hp hxu hx) HD.out _ _ _ _ _ _ _ _ _ _ _ _ _ _ _ _ _ _ _ _ _ _ _ _ _ _ _ _ _ _ _ _ _ _ _ _ _ _ _ _ _ _ _ _ _ _ _ _ _ _ _ _ _ _ _ _ _ _ _ _ _ _ _ _ _ _ _ _ _ _ _ _ _ _ _ _ _ _ _ _ _ _ _ _ _ _ _ _ _ _ _ _ _ _ _ _ _ _ _ _ _ _ _ _ _ _ _ _ _ _ _ _ _ _ _ _ _ _ _ _ _ _ _ _ _ _ _ _ _ _ _ _ _ _ _ _ _ _ _ _ _ _ _ _ _ _ _ _ _ _ _ _ _ _ _ _ _ _ _ _ _ _ _ _ _ _ _ _ _ _ _ _ _ _ _ _ _ _ _ _ _ _ _ _ _ _ _ _ _ _ _ _ _ _ _ _ _ _ _ _ _ _ _ _ _ _ _ _ _ _ _ _ _ _ _ _ _ _ _ _ _ _ _ _ _ _ _ _ _ _ _ _ _ _ _ _ _ _ _ _ _ _ _ _ _ _ _ _ _ _ _ _ _ _ _ _ _ _ _ _ _ _ _ _ _ _ _ _ _ _ _ _ _ _ _ _ _ _ _ _ _ _ _ _ _ _ _ _ _ _ _ _ _ _ _ _ _ _ _ _ _ _ _ _ _ _ _ _ _ _
  case first =>
    go_wp2_with fail
    go_loopw [14] (fun i wr => ∃ (j : Nat), j ≤ ln ∧ i = .int .i64 (j : Nat) ∧ Fil wr w.heap.size 3 1 T cI j 0 ∧ Fr (bkT T) wq wr) (fun i _ => ln - (intOf i).toNat)
    case atStart => exact ⟨0, by omega, rfl, HF0.out, Fr.refl _ _⟩
    case round =>
    obtain ⟨j, hj, rfl, hFi, hF⟩ := hrel
    rename World => wr
    have HFi := Lib.hid hFi
    have HF := Lib.hid hF
    clear hFi hF
    by_cases hlt : j < ln
    · have hji : ((j : Nat) : Int) < (ln : Nat) := by omega
      have hjp : j < T.length := by have := Hln.out; (try simp only at this); omega
      obtain ⟨ga, t, ea, ht, hc3⟩ := (HM.out.frT HF.out).row hjp
      have hcall : ∀ v, Fr (bkT T) wq v → v.cell? ⟨ga, j, none⟩ = some (.slice t.ao t.n t.c) := fun v hv => by
        obtain ⟨ga2, p2, ea2, hp2, h3⟩ := (HM.out.frT hv).row hjp
        rw [ht] at hp2
        cases hp2
        rw [ea] at ea2
        cases ea2
        exact h3
      have Ht := Lib.hid ht
      have hpn := HM.out.st j t ht
      clear ht
      obtain ⟨ta, tn, tc⟩ := t
      simp only at hcall hpn ea hc3
      subst ea
      have Hcall := Lib.hid hcall
      clear hcall hjp
      go_wp2_with fail
      go_loopw [15] (fun k wk => ∃ (n : Nat), n ≤ tn ∧ k = .int .i64 (n : Nat) ∧ Fil wk w.heap.size 3 1 T cI j n ∧ Fr (bkT T) wq wk) (fun k _ => tn - (intOf k).toNat)
      case atStart => exact ⟨0, by omega, rfl, HFi.out, HF.out⟩
      case round =>
        clear hc3
        obtain ⟨n, hn, rfl, hFk, hG⟩ := hrel
        rename World => wk
        have hc3 := Hcall.out _ hG
        by_cases hnt : n < tn
        · have hni : ((n : Nat) : Int) < (tn : Nat) := by omega
          obtain ⟨g, off, eg, _, _, ⟨u0, c0⟩, f0, hFn⟩ := hFk.store1 Ht.out hnt rfl
          simp only at eg
          subst eg
          have Hfin := Lib.hid (And.intro hFn (hG.trans ((Fr.set wk ⟨g, off + n, none⟩ (iv (100 + ((j : Nat) : Int)))).mono (fun x hx => by simp only [List.mem_singleton] at hx; subst hx; exact bkT_mem Ht.out (by simp [blkL, blk])))))
          clear hFk hG hFn
          go_wp2_with fail
          go_roundw
          case rel => exact ⟨n + 1, by omega, by go_num, Hfin.out⟩
          case measure => simp [intOf]; omega
        · obtain rfl : n = tn := by omega
          have hni : ¬ ((n : Nat) : Int) < (n : Nat) := by omega
          have Hfin := Lib.hid (And.intro (hFk.row Ht.out (Nat.le_refl _) (Nat.le_refl _)) hG)
          clear hFk hG
          go_wp2_with fail
          go_roundw
          case rel => exact ⟨j + 1, by omega, by go_num, Hfin.out⟩
          case measure => simp [intOf]; omega
    · obtain rfl : j = ln := by omega
      have hji : ¬ ((j : Nat) : Int) < (j : Nat) := by omega
      go_wp2_with fail
      go_meet
      case rel => exact ⟨HFi.out, HF.out⟩
end Go.Proofs.YtbdphdgomcabmaaGreatDoor
