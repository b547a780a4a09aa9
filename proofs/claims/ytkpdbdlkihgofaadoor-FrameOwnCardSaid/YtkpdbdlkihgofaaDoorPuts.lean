/- The law FramePuts returns true. Condition: its arguments read as lists of bytes, the variable ErrLong holds an error. -/
import Derived.Test.YtkpdbdlkihgofaaDoorKnown
import Derived.Test.YtkpdbdlkihgofaaDoorReg
namespace Go.Proofs.YtkpdbdlkihgofaaDoor
open Go.RowKit

def errV (a : Addr) (n : Nat) : Value := if n ≤ 65535 then .nilIface else .iface 61 (.pointer (some a))
def errC (n : Nat) : Int := if n ≤ 65535 then 0 else 3
def putR (xs ys : List UInt8) : List UInt8 := if ys.length ≤ 65535 then putL xs ys else []

theorem putL_length (xs ys : List UInt8) : (putL xs ys).length = xs.length + 2 + ys.length := by simp [putL]; omega

theorem put_both (w : World) (a : Addr) (h : HasErr w a) (ao bo : Option Addr) (n m c d : Nat) (xs ys : List UInt8) (hx : Bs w ao n xs) (hy : Bs w bo m ys) (hn : n ≤ 1000000000) :
    Calls Tryd.prog 10 #[.slice ao n c, .slice bo m d] w fun e w' => ∃ ro k cap, e = .returned (.tuple #[.slice ro k cap, errV a ys.length]) ∧ Bs w' ro k (putR xs ys) ∧ Kp w w' ∧ (∀ j ∈ blkL ro, w.heap.size ≤ j) := by
  have hl := hy.1
  by_cases hm : m ≤ 65535
  · refine (put_any w ao bo n m c d xs ys hx hy hn hm).mono ?_
    rintro e w' ⟨g, rfl, ho, hk⟩
    refine ⟨_, _, _, by rw [errV, if_pos (by omega)], ?_, hk, fun j hj => (ho.lt j (mem_blkL.1 hj)).1⟩
    rw [putR, if_pos (by omega)]
    exact ho.bs
  · refine (put_long w a h ao bo n m c d ys hy (by omega)).mono ?_
    rintro e w' ⟨rfl, k, rfl⟩
    refine ⟨_, _, _, by rw [errV, if_neg (by omega)], ?_, Kp.of_drewN _ _, by simp [blkL, blk]⟩
    rw [putR, if_neg (by omega)]
    exact Bs.zero _ _
theorem refPut_both (w : World) (ao bo : Option Addr) (n m c d : Nat) (xs ys : List UInt8) (hx : Bs w ao n xs) (hy : Bs w bo m ys) (hn : n ≤ 1000000000) :
    Calls Tryd.prog 11 #[.slice ao n c, .slice bo m d] w fun e w' => ∃ ro k cap, e = .returned (.tuple #[.slice ro k cap, .int .i64 (errC ys.length)]) ∧ Bs w' ro k (putR xs ys) ∧ Kp w w' ∧ (∀ j ∈ blkL ro, w.heap.size ≤ j) := by
  have hl := hy.1
  by_cases hm : m ≤ 65535
  · refine (refPut_any w ao bo n m c d xs ys hx hy hn hm).mono ?_
    rintro e w' ⟨ro, cap, rfl, ho, hk⟩
    refine ⟨_, _, _, by rw [errC, if_pos (by omega)], ?_, hk, fun j hj => (ho.lt j (mem_blkL.1 hj)).1⟩
    rw [putR, if_pos (by omega)]
    exact ho.bs
  · refine (refPut_long w ao bo n m c d ys hy (by omega)).mono ?_
    rintro e w' ⟨rfl, k, rfl⟩
    refine ⟨_, _, _, by rw [errC, if_neg (by omega)], ?_, Kp.of_drewN _ _, by simp [blkL, blk]⟩
    rw [putR, if_neg (by omega)]
    exact Bs.zero _ _
theorem code_both (w : World) (a : Addr) (h : HasErr w a) (n : Nat) : Calls Tryd.prog 12 #[errV a n] w fun e w' => e = .returned (.int .i64 (errC n)) ∧ Kp w w' := by
  by_cases hm : n ≤ 65535
  · rw [errV, errC, if_pos hm, if_pos hm]
    exact (code_nil w).mono (by rintro e w' ⟨rfl, k, rfl⟩; exact ⟨rfl, Kp.of_drewN _ _⟩)
  · rw [errV, errC, if_neg hm, if_neg hm]
    exact (code_long w a h).mono (by rintro e w' ⟨rfl, k, rfl⟩; exact ⟨rfl, Kp.of_drewN _ _⟩)
theorem same_kp (w : World) (ao bo : Option Addr) (n m c d : Nat) (xs : List UInt8) (hx : Bs w ao n xs) (hy : Bs w bo m xs) :
    Calls Tryd.prog 13 #[.slice ao n c, .slice bo m d] w fun e w' => e = .returned (.bool true) ∧ Kp w w' :=
  (same_any w ao bo n m c d xs xs hx hy).mono (by rintro e w' ⟨rfl, k, rfl⟩; exact ⟨by simp, Kp.of_drewN _ _⟩)
theorem stands_kp (w : World) (ao bo : Option Addr) (n m c d : Nat) (xs : List UInt8) (hx : Bs w ao n (roomyL xs)) (hy : Bs w bo m xs) :
    Calls Tryd.prog 14 #[.slice ao n c, .slice bo m d] w fun e w' => e = .returned (.bool true) ∧ Kp w w' :=
  (stands_yes w ao bo n m c d xs hx hy).mono (by rintro e w' ⟨rfl, k, rfl⟩; exact ⟨rfl, Kp.of_drewN _ _⟩)

/-- A list's beginning. -/
theorem Bs.head {w : World} {ao : Option Addr} {n : Nat} {xs : List UInt8} (hx : Bs w ao n xs) (k : Nat) (h : k ≤ n) : Bs w ao k (xs.take k) := by
  refine ⟨by simp [hx.1]; omega, Nat.le_trans h hx.2.1, fun j u hu => ?_⟩
  rw [List.map_take, List.getElem?_take] at hu
  split at hu
  · exact hx.2.2 j u hu
  · cases hu
theorem roomyL_take (xs : List UInt8) : (roomyL xs).take xs.length = xs := by simp [roomyL]

theorem xor_one (x : UInt8) : ∃ y : UInt8, bits BinOp.xor IntKind.u8 (x.toNat : Int) 1 = (y.toNat : Int) := by
  have h : ∃ n : Int, bits BinOp.xor IntKind.u8 (x.toNat : Int) 1 = n % 256 := by
    unfold bits
    simp only [IntKind.wrap_u8]
    exact ⟨_, rfl⟩
  obtain ⟨n, hn⟩ := h
  refine ⟨UInt8.ofNat (n % 256).toNat, ?_⟩
  rw [hn, UInt8.toNat_ofNat']
  omega
theorem poke {w : World} {base g N n : Nat} {x : UInt8} {xt : List UInt8} (y : UInt8) (h : Own w base 5 1 (some ⟨g, 0, none⟩) N N ((roomyL (x :: xt)).map by8)) (hn : (x :: xt).length = n) :
    Bs (w.setCell ⟨g, 0, none⟩ (by8 y)) (some ⟨g, 0, none⟩) n (y :: xt) := by
  have h1 := h.store 0 (by8 y)
  have e : ((roomyL (x :: xt)).map by8).set 0 (by8 y) = (y :: (xt ++ (List.range 70).map (fun j => mark ((x :: xt).length + j)))).map by8 := rfl
  rw [e] at h1
  have h2 := h1.bs.head n (by
    have := h.1
    simp [roomyL] at this
    simp at hn
    omega)
  have e2 : (y :: (xt ++ (List.range 70).map (fun j => mark ((x :: xt).length + j)))).take n = y :: xt := by
    subst hn
    simp
  rwa [e2] at h2

set_option maxHeartbeats 4000000 in
set_option maxRecDepth 100000 in
theorem framePuts_walk (w : World) (a : Addr) (hH : HasErr w a) (ao bo : Option Addr) (n m c d : Nat) (xs ys : List UInt8) (hx : Bs w ao n xs) (hy : Bs w bo m ys) (far : Int) :
    Calls Tryd.prog 3 #[.slice ao n c, .slice bo m d, .int .i64 far] w fun e w' => e = .returned (.bool true) ∧ Kp w w' := by
  have hn := hx.2.1
  have hm := hy.2.1
  unfold maxLen at hn hm
  go_enter Tryd.func3, Tryd.ntmps3
  go_upto_region 1 with fail
  go_cut [20] (fun v wc => v = .bool (decide (65530 ≤ far ∧ far ≤ 65540)) ∧ w = wc)
  case first =>
    by_cases h1 : 65530 ≤ far
    · by_cases h2 : far ≤ 65540
      · go_wp2_with fail
        go_meet
        case rel => exact ⟨by simp; omega, rfl⟩
      · go_wp2_with fail
        go_meet
        case rel => exact ⟨by simp; omega, rfl⟩
    · go_wp2_with fail
      go_meet
      case rel => exact ⟨by simp; omega, rfl⟩
  case rest =>
    obtain ⟨rfl, rfl⟩ := hcut
    go_upto_if 20 with fail
    go_cut [1] (fun v wc => ∃ bo m d ys, v = .slice bo m d ∧ Bs wc bo m ys ∧ Kp w wc)
    case first =>
      by_cases hP : 65530 ≤ far ∧ far ≤ 65540
      · have hd : decide (65530 ≤ far ∧ far ≤ 65540) = true := by simp; omega
        obtain ⟨p1, p2⟩ := hP
        go_wp2_with (at_make; go_loud (refine wpList_mk rfl _ _ 22 rfl el22 rfl far.toNat rfl rfl (by omega) (by omega) (by omega) ?_); intro w1 ho1 hk1)
        go_meet
        case rel =>
          have e : List.replicate far.toNat (Value.int .u8 0) = (List.replicate far.toNat (0 : UInt8)).map by8 := by rw [List.map_replicate]; rfl
          rw [e] at ho1
          exact ⟨_, _, _, _, rfl, ho1.bs, hk1⟩
      · have hd : decide (65530 ≤ far ∧ far ≤ 65540) = false := by simp; omega
        go_wp2_with fail
        go_meet
        case rel => exact ⟨_, _, _, _, rfl, hy, Kp.refl _⟩
    case rest =>
      clear hy hm
      obtain ⟨bo, m, d, ys, rfl, hy, hk0⟩ := hcut
      have hm := hy.2.1
      unfold maxLen at hm
      by_cases hn1 : n ≤ 262144
      · by_cases hm1 : m ≤ 262144
        · go_wp2_with fail
          have hXc := Kp.bs hk0 hx
          have hHc := Kp.err hk0 hH
          (with_reducible refine (roomy_any wc ao n c xs hXc (by omega)).mono ?_)
          rintro e w1 ⟨rfl, hA1, hk1⟩
          go_wp2_with fail
          (with_reducible refine (roomy_any w1 bo m d ys (Kp.bs hk1 hy) (by omega)).mono ?_)
          rintro e w2 ⟨rfl, hB2, hk2⟩
          have hA2 := hA1.keep hk2
          have hX2 := Kp.bs hk2 (Kp.bs hk1 hXc)
          have hY2 := Kp.bs hk2 (Kp.bs hk1 hy)
          have hH2 := Kp.err hk2 (Kp.err hk1 hHc)
          have hk02 := Kp.trans (Kp.trans hk0 hk1) hk2
          have hs1 := hk1.size
          have hga : wc.heap.size < w1.heap.size := (hA1.lt _ rfl).2
          clear hA1 hk1 hXc hHc
          have hlx := Lib.hid hx.1
          have hly := Lib.hid hy.1
          have hAd := hA2.bs.head n (by omega)
          have hBd := hB2.bs.head m (by omega)
          rw [show n = xs.length from hlx.out.symm, roomyL_take, hlx.out] at hAd
          rw [show m = ys.length from hly.out.symm, roomyL_take, hly.out] at hBd
          have hput := put_both w2.drew a hH2 (some ⟨wc.heap.size, 0, none⟩) (some ⟨w1.heap.size, 0, none⟩) n m (n + 70) (m + 70) xs ys ((Fr.drew [] w2).bs hAd (by simp)) ((Fr.drew [] w2).bs hBd (by simp)) (by omega)
          have Hput := Lib.hid hput; clear hput
          go_wp2_with fail
          refine region_call 8 (by kernel_rfl) (by kernel_rfl) ?_
          simp only [List.take_succ_cons, List.take_zero, List.drop_succ_cons, List.drop_zero]
          repeat (go_big_quiet_step (fail))
          refine wpQuiet_nil ?_
          go_wp2_with (go_at_call 10; go_loud (refine Hput.out.mono ?_); rintro e w3 ⟨ro, rk, rc, rfl, hR3, hk3, hro⟩)
          repeat (go_big_quiet_step (fail))
          refine wpQuiet_nil ?_
          have hgb : w1.heap.size < w2.heap.size := (hB2.lt _ rfl).2
          have hro : ∀ j ∈ blkL ro, w2.heap.size ≤ j := hro
          have hA3 := Kp.trans (Kp.refl w2) (show Kp w2 w3 from (Fr.drew [] w2).kp.trans hk3)
          clear hk3 Hput
          have hk03 := Kp.trans hk02 hA3
          go_wp2_with fail
          (with_reducible refine (refPut_both w3 ao bo n m c d xs ys (Kp.bs hA3 hX2) (Kp.bs hA3 hY2) (by omega)).mono ?_)
          rintro e w4 ⟨so, sk, sc, rfl, hS4, hk4, hso⟩
          have hso : ∀ j ∈ blkL so, w2.heap.size ≤ j := fun j hj => Nat.le_trans hA3.size (hso j hj)
          have hA4 := Kp.trans hA3 hk4
          have hR4 := Kp.bs hk4 hR3
          have hk04 := Kp.trans hk03 hk4
          clear hA3 hk4 hR3 hk03 hk02
          go_wp2_with fail
          (with_reducible refine (code_both w4 a (Kp.err hA4 hH2) ys.length).mono ?_)
          rintro e w5 ⟨rfl, hk5⟩
          go_wp2_with fail
          (with_reducible refine (same_kp w5 ro so rk sk rc sc _ (Kp.bs hk5 hR4) (Kp.bs hk5 hS4)).mono ?_)
          rintro e w6 ⟨rfl, hk6⟩
          have hk46 := Kp.trans hk5 hk6
          go_wp2_with fail
          (with_reducible refine (stands_kp w6 _ ao _ n _ c xs (Kp.bs hk46 (Kp.bs hA4 hA2.bs)) (Kp.bs hk46 (Kp.bs hA4 hX2))).mono ?_)
          rintro e w7 ⟨rfl, hk7⟩
          have hk47 := Kp.trans hk46 hk7
          go_wp2_with fail
          (with_reducible refine (stands_kp w7 _ bo _ m _ d ys (Kp.bs hk47 (Kp.bs hA4 hB2.bs)) (Kp.bs hk47 (Kp.bs hA4 hY2))).mono ?_)
          rintro e w8 ⟨rfl, hk8⟩
          have hk48 := Kp.trans hk47 hk8
          have hR8 := Kp.bs hk48 hR4
          have hS8 := Kp.bs hk48 hS4
          have hA8 := (hA2.keep hA4).keep hk48
          have hB8 := (hB2.keep hA4).keep hk48
          have hX8 := Kp.bs hk48 (Kp.bs hA4 hX2)
          have hY8 := Kp.bs hk48 (Kp.bs hA4 hY2)
          have hH8 := Kp.err hk48 (Kp.err hA4 hH2)
          have hk08 := Kp.trans hk04 hk48
          clear hk48 hk47 hk46 hk5 hk6 hk7 hk8 hA4 hR4 hS4 hk04 hA2 hB2 hX2 hY2 hH2 hAd hBd
          by_cases hn0 : n = 0
          · have hn0' : ((n : Int) == 0) = true := by simp; omega
            go_wp2_with fail
            (with_reducible refine (known_yes w8 a hH8).mono ?_)
            rintro e w15 ⟨rfl, hk15⟩
            go_wp2_with fail
            go_ret
            exact ⟨rfl, Kp.trans hk08 hk15⟩
          · by_cases hm0 : m = 0
            · have hn0' : ((n : Int) == 0) = false := by simp; omega
              have hm0' : ((m : Int) == 0) = true := by simp; omega
              go_wp2_with fail
              (with_reducible refine (known_yes w8 a hH8).mono ?_)
              rintro e w15 ⟨rfl, hk15⟩
              go_wp2_with fail
              go_ret
              exact ⟨rfl, Kp.trans hk08 hk15⟩
            · obtain ⟨x0, xt, rfl⟩ : ∃ x0 xt, xs = x0 :: xt := by
                cases xs with
                | nil => exact absurd hlx.out (by simp; omega)
                | cons x0 xt => exact ⟨x0, xt, rfl⟩
              obtain ⟨y0, yt, rfl⟩ : ∃ y0 yt, ys = y0 :: yt := by
                cases ys with
                | nil => exact absurd hly.out (by simp; omega)
                | cons y0 yt => exact ⟨y0, yt, rfl⟩
              have cA : w8.cell? ⟨wc.heap.size, 0, none⟩ = some (.int .u8 (x0.toNat : Int)) := by rw [hA8.cell 0 (by omega)]; rfl
              have cB : w8.cell? ⟨w1.heap.size, 0, none⟩ = some (.int .u8 (y0.toNat : Int)) := by rw [hB8.cell 0 (by omega)]; rfl
              have fA := hA8.free 0
              have fB := hB8.free 0
              obtain ⟨x1, xA⟩ := xor_one x0
              obtain ⟨y1, xB⟩ := xor_one y0
              have hn0' : ((n : Int) == 0) = false := by simp; omega
              have hm0' : ((m : Int) == 0) = false := by simp; omega
              have hP1 := poke x1 hA8 hlx.out
              have hP2 := poke (w := w8.setCell ⟨wc.heap.size, 0, none⟩ (.int .u8 (x1.toNat : Int))) y1 ((Fr.set w8 ⟨wc.heap.size, 0, none⟩ _).own hB8 (fun k hk hk2 => by rw [mem_blkL_some] at hk; simp only [List.mem_singleton] at hk2; omega)) hly.out
              have hP1' := (Fr.set (w8.setCell ⟨wc.heap.size, 0, none⟩ (.int .u8 (x1.toNat : Int))) ⟨w1.heap.size, 0, none⟩ (by8 y1)).bs hP1 (fun k hk hk2 => by rw [mem_blkL_some] at hk; simp only [List.mem_singleton] at hk2; omega)
              have hfr : Fr [wc.heap.size, w1.heap.size] w8 ((w8.setCell ⟨wc.heap.size, 0, none⟩ (.int .u8 (x1.toNat : Int))).setCell ⟨w1.heap.size, 0, none⟩ (.int .u8 (y1.toNat : Int))) :=
                ((Fr.set w8 ⟨wc.heap.size, 0, none⟩ _).mono (by simp)).trans ((Fr.set _ ⟨w1.heap.size, 0, none⟩ _).mono (by simp))
              generalize hW9 : (w8.setCell ⟨wc.heap.size, 0, none⟩ (.int .u8 (x1.toNat : Int))).setCell ⟨w1.heap.size, 0, none⟩ (.int .u8 (y1.toNat : Int)) = w9 at hP1' hP2 hfr ⊢
              go_wp2_with fail
              have h0w : 0 < w.heap.size := World.block_lt_of_cell? w _ hH
              have hwc := hk0.size
              have hH9 : HasErr w9 a := hfr.cell hH8 (by simp; omega)
              have hR9 := hfr.bs hR8 (fun k hk hk2 => by have := hro k hk; simp at hk2; omega)
              have hS9 := hfr.bs hS8 (fun k hk hk2 => by have := hso k hk; simp at hk2; omega)
              have hk09 : Kp w w9 := ((Fr.of_kp hk08).step hfr (fun j hj => .inr (by simp at hj; omega))).kp
              clear hR8 hS8 hH8 hk08 hA8 hB8 hX8 hY8 hfr hP1 cA cB fA fB xA xB hW9
              have Hput := Lib.hid (put_both w9.drew a hH9 (some ⟨wc.heap.size, 0, none⟩) (some ⟨w1.heap.size, 0, none⟩) n m (n + 70) (m + 70) _ _ ((Fr.drew [] w9).bs hP1' (by simp)) ((Fr.drew [] w9).bs hP2 (by simp)) (by omega))
              refine region_call 8 (by kernel_rfl) (by kernel_rfl) ?_
              simp only [List.take_succ_cons, List.take_zero, List.drop_succ_cons, List.drop_zero]
              repeat (go_big_quiet_step (fail))
              refine wpQuiet_nil ?_
              go_wp2_with (go_at_call 10; go_loud (refine Hput.out.mono ?_); rintro e w10 ⟨ro2, rk2, rc2, rfl, hR10, hk10, _⟩)
              repeat (go_big_quiet_step (fail))
              refine wpQuiet_nil ?_
              have hk910 : Kp w9 w10 := (Fr.drew [] w9).kp.trans hk10
              clear hk10 Hput
              go_wp2_with fail
              have Hput := Lib.hid (refPut_both w10.drew (some ⟨wc.heap.size, 0, none⟩) (some ⟨w1.heap.size, 0, none⟩) n m (n + 70) (m + 70) _ _ ((Fr.drew [] w10).bs (Kp.bs hk910 hP1') (by simp)) ((Fr.drew [] w10).bs (Kp.bs hk910 hP2) (by simp)) (by omega))
              refine region_call 8 (by kernel_rfl) (by kernel_rfl) ?_
              simp only [List.take_succ_cons, List.take_zero, List.drop_succ_cons, List.drop_zero]
              repeat (go_big_quiet_step (fail))
              refine wpQuiet_nil ?_
              go_wp2_with (go_at_call 11; go_loud (refine Hput.out.mono ?_); rintro e w11 ⟨so2, sk2, sc2, rfl, hS11, hk11, _⟩)
              repeat (go_big_quiet_step (fail))
              refine wpQuiet_nil ?_
              have hk1011 : Kp w10 w11 := (Fr.drew [] w10).kp.trans hk11
              have hk911 := Kp.trans hk910 hk1011
              have hR11 := Kp.bs hk1011 hR10
              clear hk11 Hput
              go_wp2_with fail
              (with_reducible refine (code_both w11 a (Kp.err hk911 hH9) _).mono ?_)
              rintro e w12 ⟨rfl, hk12⟩
              go_wp2_with fail
              (with_reducible refine (same_kp w12 _ _ _ _ _ _ _ (Kp.bs hk12 hR11) (Kp.bs hk12 hS11)).mono ?_)
              rintro e w13 ⟨rfl, hk13⟩
              have hk913 := Kp.trans hk911 (Kp.trans hk12 hk13)
              go_wp2_with fail
              (with_reducible refine (same_kp w13 _ _ _ _ _ _ _ (Kp.bs hk913 hR9) (Kp.bs hk913 hS9)).mono ?_)
              rintro e w14 ⟨rfl, hk14⟩
              have hk914 := Kp.trans hk913 hk14
              go_wp2_with fail
              (with_reducible refine (known_yes w14 a (Kp.err hk914 hH9)).mono ?_)
              rintro e w15 ⟨rfl, hk15⟩
              go_wp2_with fail
              go_ret
              exact ⟨rfl, Kp.trans hk09 (Kp.trans hk914 hk15)⟩
        · go_wp2_with fail
          go_ret
          exact ⟨rfl, hk0⟩
      · go_wp2_with fail
        go_ret
        exact ⟨rfl, hk0⟩
#print axioms framePuts_walk
end Go.Proofs.YtkpdbdlkihgofaaDoor
