/- Parts of the walks and plain laws, merged: Has, Row, Plan, Lists, Equal, Same, MirLaw, NnLaw, RollLaw, RollTLaw, Frame19, RollA, RollJ, RollB, RollC, RollT, RollM. Each theorem bears its own conditions; no other. -/
import Derived.Test.YtbcjeemjpcidhaaDoorMoves
import Derived.Test.YtbcjeemjpcidhaaDoorPa1
import Derived.Test.YtbcjeemjpcidhaaDoorPa2
import Derived.Test.YtbcjeemjpcidhaaDoorShaped
import Derived.Test.YtbcjeemjpcidhaaDoorTakes
import Derived.Deep.QuietTactic
import Derived.BigQuiet
import Derived.Deep.RegionWith
import Derived.Test.YtbcjeemjpcidhaaDoorAll
import Derived.Test.YtbcjeemjpcidhaaDoorPa3
import Derived.WalkLawsBesides
import Derived.OrdersHeld
import Derived.Test.YtbcjeemjpcidhaaDoorTxtE
namespace Go.Proofs.YtbcjeemjpcidhaaDoor
open Go.RowKit

def IdxPost (w : World) (xs : List Int) (x : Int) (e : Ending) (w' : World) : Prop := w = w' ∧ ∃ z : Int, e = .returned (iv z) ∧ decide (0 ≤ z) = xs.contains x

set_option maxHeartbeats 1000000 in
theorem index_any (w : World) (ao : Option Addr) (n c : Nat) (xs : List Int) (x : Int) (hx : Is w ao n xs) : Calls Tryd.prog 32 #[.slice ao n c, iv x] w (IdxPost w xs x) := by
  have hn := hx.2.1
  unfold maxLen at hn
  have Hl := Lib.hid hx.1
  go_enter Tryd.func32, Tryd.ntmps32
  go_wp2_with fail
  go_loop [8] (fun i => ∃ k : Nat, k ≤ n ∧ i = .int .i64 k ∧ ∀ j (h : j < xs.length), j < k → xs[j] ≠ x) (fun i => n - (intOf i).toNat)
  case atStart => exact ⟨0, by omega, rfl, by omega⟩
  case round =>
    obtain ⟨k, hk, rfl, hno⟩ := hrel
    have Hno := Lib.hid hno; clear hno
    by_cases hlt : k < n
    · obtain ⟨b, off, rfl, _, hc⟩ := hx.at k hlt
      have hck := hc k hlt
      have hkl : k < xs.length := by rw [Hl.out]; exact hlt
      obtain ⟨y, hy⟩ : ∃ y, y = xs[k] := ⟨_, rfl⟩
      rw [← hy] at hck
      have Hy := Lib.hid hy; clear hy hc
      by_cases hxy : x = y
      · have hb : (x == y) = true := by simp [hxy]
        have hpost : IdxPost w xs x (.returned (iv k)) w := ⟨rfl, k, rfl, by
          have : x ∈ xs := by rw [hxy, Hy.out]; exact List.getElem_mem _
          simp [this]⟩
        have Hpost := Lib.hid hpost; clear hpost hxy
        go_wp2_with fail
        go_ret
        exact Hpost.out
      · have hb : (x == y) = false := by simpa using hxy
        have hxy' : y ≠ x := fun h => hxy h.symm
        have Hxy := Lib.hid hxy'; clear hxy hxy'
        go_wp2_with fail
        go_round
        case rel =>
          refine ⟨k + 1, by omega, by go_num, fun j h hj => ?_⟩
          rcases Nat.lt_or_ge j k with g | g
          · exact Hno.out j h g
          · obtain rfl : j = k := by omega
            rw [← Hy.out]; exact Hxy.out
        case measure => simp [intOf]; omega
    · have hpost : IdxPost w xs x (.returned (iv (-1))) w := ⟨rfl, -1, rfl, by
        have : x ∉ xs := fun hm => by
          obtain ⟨j, hj, rfl⟩ := List.getElem_of_mem hm
          exact Hno.out j hj (by have := Hl.out; omega) rfl
        simp [this]⟩
      have Hpost := Lib.hid hpost; clear hpost
      go_wp2_with fail
      go_ret
      exact Hpost.out

/-- Does it stand in the list? -/
def inL (l : List Int) (x : Int) : Bool := l.contains x
theorem contains_any (w : World) (ao : Option Addr) (n c : Nat) (xs : List Int) (x : Int) (hx : Is w ao n xs) : Calls Tryd.prog 16 #[.slice ao n c, iv x] w fun e w' => e = .returned (.bool (inL xs x)) ∧ w = w' := by
  go_enter Tryd.func16, Tryd.ntmps16
  go_wp2_with fail
  (with_reducible refine (index_any w ao n c xs x hx).mono ?_)
  rintro e w1 ⟨rfl, z, rfl, hz⟩
  have Hz := Lib.hid hz; clear hz
  go_wp2_with fail
  go_ret
  exact ⟨by unfold inL; rw [← Hz.out]; rfl, rfl⟩

def hasL (ls : List Ln) (side tok : Int) : Bool := ls.any fun l => (decide (side < 0) || l.1 == side) && inL l.2 tok
theorem hasL_at (ls : List Ln) (side tok : Int) (k : Nat) (h : k < ls.length) : hasL (ls.drop k) side tok = (((decide (side < 0) || ls[k].1 == side) && inL ls[k].2 tok) || hasL (ls.drop (k + 1)) side tok) := by
  unfold hasL
  rw [drop_cons ls k h, List.any_cons]

set_option maxRecDepth 100000 in
set_option maxHeartbeats 2000000 in
theorem has_any (w : World) (nm : ByteArray) (a0 a1 al : Option Addr) (n0 c0 n1 c1 nl cl : Nat) (ls : List Ln) (side tok : Int) (hl : Lns w al nl ls) :
    Calls Tryd.prog 15 #[.agg #[.string nm, .slice a0 n0 c0, .slice a1 n1 c1, .slice al nl cl], iv side, iv tok] w fun e w' => e = .returned (.bool (hasL ls side tok)) ∧ Kp w w' := by
  have hnl := hl.2.1
  have Hll := Lib.hid hl.1
  go_enter Tryd.func15, Tryd.ntmps15
  go_wp2_with fail
  have hk0 := Kp.new w (.cells #[.string nm, .slice a0 n0 c0, .slice a1 n1 c1, .slice al nl cl] 29)
  generalize w.alloc (.cells #[.string nm, .slice a0 n0 c0, .slice a1 n1 c1, .slice al nl cl] 29) = wb at *
  go_loopw [12] (fun i wr => ∃ k : Nat, k ≤ nl ∧ i = .int .i64 k ∧ Kp w wr ∧ hasL ls side tok = hasL (ls.drop k) side tok) (fun i _ => nl - (intOf i).toNat)
  case atStart => exact ⟨0, by omega, rfl, hk0, rfl⟩
  case round =>
    clear hk0
    obtain ⟨k, hk, rfl, hkk, hrun⟩ := hrel
    have Hrun := Lib.hid hrun; clear hrun
    by_cases hlt : k < nl
    · have hkl : k < ls.length := by rw [Hll.out]; exact hlt
      obtain ⟨b, off, tp, tn, tc, rfl, hc1, hc2, hI, htn⟩ := hl.2.2 k hkl
      have hc1 := Kp.cell hkk hc1
      have hc2 := Kp.cell hkk hc2
      have hat := hasL_at ls side tok k hkl
      obtain ⟨f, ts, hft⟩ : ∃ f ts, ls[k] = (f, ts) := ⟨_, _, rfl⟩
      rw [hft] at hc1 hI hat
      have hI : Is w tp tn ts := hI
      have hc1 : wr.cell? ⟨b, off + k * 2, none⟩ = some (iv f) := hc1
      have Hat := Lib.hid hat; clear hat hft
      have hkn := Kp.trans hkk (Kp.new wr (.cells #[iv f, .slice tp tn tc] 60))
      have hIn := Kp.is hkn hI
      by_cases hsel : (decide (side < 0) || f == side) = true
      · have hq : ∀ q : Bool, (decide (side < 0) || f == side) = q → q = true → True := fun _ _ _ => trivial
        clear hq
        cases hcc : inL ts tok with
        | true =>
          have HF := Lib.hid (show hasL ls side tok = true by rw [Hrun.out, Hat.out]; simp only [hsel, hcc]; rfl)
          by_cases hs0 : side < 0
          · clear hsel
            go_wp2_with fail
            (with_reducible refine (contains_any _ tp tn tc ts tok hIn).mono ?_)
            rintro e w2 ⟨rfl, rfl⟩
            rw [hcc]; clear hcc
            go_wp2_with fail
            go_ret
            exact ⟨by rw [HF.out]; rfl, hkn⟩
          · have hfs : (f == side) = true := by simpa [hs0] using hsel
            clear hsel
            go_wp2_with fail
            (with_reducible refine (contains_any _ tp tn tc ts tok hIn).mono ?_)
            rintro e w2 ⟨rfl, rfl⟩
            rw [hcc]; clear hcc
            go_wp2_with fail
            go_ret
            exact ⟨by rw [HF.out]; rfl, hkn⟩
        | false =>
          have HF := Lib.hid (show hasL ls side tok = hasL (ls.drop (k + 1)) side tok by rw [Hrun.out, Hat.out]; simp only [hsel, hcc]; rfl)
          by_cases hs0 : side < 0
          · clear hsel
            go_wp2_with fail
            (with_reducible refine (contains_any _ tp tn tc ts tok hIn).mono ?_)
            rintro e w2 ⟨rfl, rfl⟩
            rw [hcc]; clear hcc
            go_wp2_with fail
            go_roundw
            case rel => exact ⟨k + 1, by omega, by go_num, hkn, HF.out⟩
            case measure => simp [intOf]; omega
          · have hfs : (f == side) = true := by simpa [hs0] using hsel
            clear hsel
            go_wp2_with fail
            (with_reducible refine (contains_any _ tp tn tc ts tok hIn).mono ?_)
            rintro e w2 ⟨rfl, rfl⟩
            rw [hcc]; clear hcc
            go_wp2_with fail
            go_roundw
            case rel => exact ⟨k + 1, by omega, by go_num, hkn, HF.out⟩
            case measure => simp [intOf]; omega
      · have hself : (decide (side < 0) || f == side) = false := by simpa using hsel
        have HF := Lib.hid (show hasL ls side tok = hasL (ls.drop (k + 1)) side tok by rw [Hrun.out, Hat.out, hself]; rfl)
        simp only [Bool.or_eq_false_iff, decide_eq_false_iff_not] at hself
        obtain ⟨hs0, hfs⟩ := hself
        clear hsel
        go_wp2_with fail
        go_roundw
        case rel => exact ⟨k + 1, by omega, by go_num, hkn, HF.out⟩
        case measure => simp [intOf]; omega
    · have HF := Lib.hid (show hasL ls side tok = false by rw [Hrun.out, List.drop_of_length_le (by rw [Hll.out]; omega)]; rfl)
      go_wp2_with fail
      go_ret
      exact ⟨by rw [HF.out]; rfl, hkk⟩
end Go.Proofs.YtbcjeemjpcidhaaDoor

namespace Go.Proofs.YtbcjeemjpcidhaaDoor
open Go.RowKit

theorem el30 : El Tryd.prog 30 56 (.agg #[iv 0, iv 0, iv 0]) 3 24 := ⟨Tryd.underlying30, by kernel_rfl, rfl, by decide, by decide⟩
/-- A row of moves of the call's own, all its blocks from B on. -/
def MvO (w : World) (B : Nat) (ao : Option Addr) (n cap : Nat) (ms : List Mv) : Prop := Own w B 56 3 ao n cap (ms.flatMap mvc) ∧ ms.length = n
theorem MvO.nil (w : World) (B : Nat) : MvO w B none 0 0 [] := ⟨Own.nil _ _ _ _, rfl⟩
theorem MvO.mvs {w : World} {B : Nat} {ao : Option Addr} {n cap : Nat} {ms : List Mv} (h : MvO w B ao n cap ms) : Mvs w ao n ms := by
  refine ⟨h.2, ?_, h.1.cs⟩
  rcases h.1.2 with ⟨_, hn⟩ | ⟨g, cap', cur, hv, _, _, h1, h2, _⟩
  · omega
  · exact Nat.le_trans h1 h2
theorem MvO.keep {w w' : World} {B : Nat} {ao : Option Addr} {n cap : Nat} {ms : List Mv} (h : MvO w B ao n cap ms) (k : Kp w w') : MvO w' B ao n cap ms := ⟨h.1.keep k, h.2⟩
theorem MvO.lt {w : World} {B : Nat} {ao : Option Addr} {n cap : Nat} {ms : List Mv} (h : MvO w B ao n cap ms) : ∀ j ∈ blkL ao, B ≤ j ∧ j < w.heap.size := fun j hj => h.1.lt j (mem_blkL.1 hj)
theorem mvc_one (ms : List Mv) : ∀ u ∈ ms.flatMap mvc, u.oneCell' = true := by
  intro u hu
  obtain ⟨m, _, hm⟩ := List.mem_flatMap.1 hu
  simp only [mvc, List.mem_cons, List.not_mem_nil, or_false] at hm
  rcases hm with rfl | rfl | rfl <;> rfl

/-- What an append of moves leaves. -/
structure MvA (w w' : World) (B : Nat) (ao : Option Addr) (N : Nat) (ms : List Mv) (ao' : Option Addr) (cap' : Nat) : Prop where
  own : MvO w' B ao' N cap' ms
  fr : Fr (blkL ao) w w'
  new : ∀ j ∈ blkL ao', j ∈ blkL ao ∨ w.heap.size ≤ j

/-- 'append(l, m...)'. -/
theorem wpList_mvs {w : World} {ops : Array Oper} {rest : List Oper} {o : Oper} {a : Act} {Q : Exit → Act → World → Prop} (hgd : o.guard = none) (s x : Operand)
    (ho : o.op = .call { callee := .builtin .append, args := #[s, x], argTypes := #[30, 30] }) {B : Nat} {ao : Option Addr} {n cap : Nat} {ms : List Mv} (hs : a.eval s = .slice ao n cap) (hO : MvO w B ao n cap ms)
    {bo : Option Addr} {m c : Nat} (hx : a.eval x = .slice bo m c) (news : List Mv) (hm : Mvs w bo m news) (N : Nat) (hN : N = n + m) (hsm : N ≤ 1000000) (hB : B ≤ w.heap.size)
    (h : ∀ ao' cap' w', MvA w w' B ao N (ms ++ news) ao' cap' → wpList Tryd.prog ops Q rest (a.put o.dst (.slice ao' N cap')) w') : wpList Tryd.prog ops Q (o :: rest) a w :=
  wpList_app hgd s x 30 ho el30 B hs hO.1 hx (news.flatMap mvc) (by rw [mvc_length, hm.1]) hm.2.2 (mvc_one _) N hN ((ms ++ news).flatMap mvc) (by simp) (by omega) hB fun ao' cap' w' ha =>
    h ao' cap' w' ⟨⟨ha.own, by rw [List.length_append, hO.2, hm.1, hN]⟩, ha.fr, fun j hj => by rcases ha.fresh j (mem_blkL.1 hj) with h | h; exact .inl (mem_blkL.2 h); exact .inr (by omega)⟩
/-- 'append(l, move)', the move in a new block. -/
theorem wpList_mv1 {w : World} {ops : Array Oper} {rest : List Oper} {o : Oper} {a : Act} {Q : Exit → Act → World → Prop} (hgd : o.guard = none) (s x : Operand)
    (ho : o.op = .call { callee := .builtin .append, args := #[s, x], argTypes := #[30, 30] }) {B : Nat} {ao : Option Addr} {n cap : Nat} {ms : List Mv} (hs : a.eval s = .slice ao n cap) (hO : MvO w B ao n cap ms) (m : Mv)
    {b : Nat} (hx : a.eval x = .slice (some ⟨b, 0, none⟩) 1 1) (hb : b = w.heap.size) (hsm : n + 1 ≤ 1000000) (hB : B ≤ w.heap.size)
    (h : ∀ ao' cap' w', MvA w w' B ao (n + 1) (ms ++ [m]) ao' cap' → wpList Tryd.prog ops Q rest (a.put o.dst (.slice ao' (n + 1) cap')) w') : wpList Tryd.prog ops Q (o :: rest) a (w.alloc (.cells #[iv m.op, iv m.key, iv m.wth] 56)) := by
  subst hb
  have hk := Kp.new w (.cells #[iv m.op, iv m.key, iv m.wth] 56)
  refine wpList_mvs hgd s x ho hs (hO.keep hk) hx [m] ⟨rfl, by unfold maxLen; omega, Cs.new w [iv m.op, iv m.key, iv m.wth] 56 (0, 0)⟩ (n + 1) rfl hsm (Nat.le_trans hB hk.size) fun ao' cap' w' ha => h ao' cap' w' ⟨ha.own, ((Fr.of_kp hk).mono (by simp)).trans ha.fr, fun j hj => ?_⟩
  rcases ha.new j hj with h1 | h1
  · exact .inl h1
  · exact .inr (Nat.le_trans hk.size h1)

theorem MvA.trans {a b c : World} {B N N2 : Nat} {ao ao1 ao2 : Option Addr} {c1 c2 : Nat} {ms ms2 : List Mv} (h : MvA a b B ao N ms ao1 c1) (k : MvA b c B ao1 N2 ms2 ao2 c2) : MvA a c B ao N2 ms2 ao2 c2 := by
  have hs := h.fr.size
  refine ⟨k.own, h.fr.step k.fr h.new, fun j hj => ?_⟩
  rcases k.new j hj with h1 | h1
  · exact h.new j h1
  · exact .inr (Nat.le_trans hs h1)
theorem MvA.refl {a : World} {B N cap : Nat} {ao : Option Addr} {ms : List Mv} (h : MvO a B ao N cap ms) : MvA a a B ao N ms ao cap := ⟨h, Fr.refl _ _, fun _ hj => .inl hj⟩
theorem Fr.mvs {X : List Nat} {w w' : World} (h : Fr X w w') {ao : Option Addr} {n : Nat} {ms : List Mv} (hx : Mvs w ao n ms) (hX : ∀ k ∈ blkL ao, k ∉ X) : Mvs w' ao n ms := ⟨hx.1, hx.2.1, h.cs hx.2.2 hX⟩
def RowPostP (w : World) (B : Nat) (ao : Option Addr) (N : Nat) (ms : List Mv) (e : Ending) (w' : World) : Prop := ∃ ao' cap', e = .returned (.slice ao' N cap') ∧ MvA w w' B ao N ms ao' cap'

set_option maxRecDepth 100000 in
set_option maxHeartbeats 2000000 in
/-- 'row(l, x, y)'. -/
theorem row_any (w : World) (B : Nat) (hB : B ≤ w.heap.size) (ao xo yo : Option Addr) (n cap xn xc yn yc : Nat) (ms xs ys : List Mv) (hO : MvO w B ao n cap ms) (g : Nat) (hg0 : w.cell? ⟨g, 0, none⟩ = some (.slice xo xn xc)) (hg1 : w.cell? ⟨g, 1, none⟩ = some (.slice yo yn yc))
    (hgn : g ∉ blkL ao) (hx : Mvs w xo xn xs) (hy : Mvs w yo yn ys) (hya : ∀ j ∈ blkL yo, j ∉ blkL ao) (hsm : n + xn + yn ≤ 1000000) :
    Calls Tryd.prog 18 #[.slice ao n cap, .slice (some ⟨g, 0, none⟩) 2 2] w (RowPostP w B ao (n + xn + yn) (ms ++ xs ++ ys)) := by
  have hgl : g < w.heap.size := World.block_lt_of_cell? w _ hg0
  go_enter Tryd.func18, Tryd.ntmps18
  go_wp2_with fail
  go_loopw [0, 9] (fun l i wr => ∃ k N ao1 cap1, k ≤ 2 ∧ i = .int .i64 (k : Nat) ∧ l = .slice ao1 N cap1 ∧ (k = 0 → w = wr ∧ N = n ∧ MvA w wr B ao N ms ao1 cap1) ∧ (k = 1 → N = n + xn ∧ MvA w wr B ao N (ms ++ xs) ao1 cap1) ∧ (k = 2 → N = n + xn + yn ∧ MvA w wr B ao N (ms ++ xs ++ ys) ao1 cap1)) (fun _ i _ => 2 - (intOf i).toNat)
  case atStart => exact ⟨0, n, ao, cap, by omega, rfl, rfl, fun _ => ⟨rfl, rfl, MvA.refl hO⟩, by omega, by omega⟩
  case round =>
    obtain ⟨k, N, ao1, cap1, hk, rfl, rfl, r0, r1, r2⟩ := hrel
    rcases (show k = 0 ∨ k = 1 ∨ k = 2 by omega) with rfl | rfl | rfl
    · obtain ⟨rfl, rfl, hA⟩ := r0 rfl
      clear r0 r1 r2
      go_wp2_with (at_builtin; refine wpList_mvs rfl (.tmp 13) (.tmp 14) rfl rfl hA.own rfl xs hx (N + xn) rfl (by omega) hB ?_; intro ao2 cap2 w2 ha)
      have hA2 := hA.trans ha
      go_roundw
      case rel => exact ⟨1, N + xn, ao2, cap2, by omega, rfl, rfl, by omega, fun _ => ⟨rfl, hA2⟩, by omega⟩
      case measure => simp [intOf]
    · obtain ⟨rfl, hA⟩ := r1 rfl
      have c1 := hA.fr.cell hg1 hgn
      have hy1 := hA.fr.mvs hy hya
      have hsz := hA.fr.size
      clear r0 r1 r2
      go_wp2_with (at_builtin; refine wpList_mvs rfl (.tmp 13) (.tmp 14) rfl rfl hA.own rfl ys hy1 (n + xn + yn) rfl (by omega) (Nat.le_trans hB hsz) ?_; intro ao2 cap2 w2 ha)
      have hA2 := hA.trans ha
      go_roundw
      case rel => exact ⟨2, n + xn + yn, ao2, cap2, by omega, rfl, rfl, by omega, by omega, fun _ => ⟨rfl, hA2⟩⟩
      case measure => simp [intOf]
    · obtain ⟨rfl, hA⟩ := r2 rfl
      clear r0 r1 r2
      go_wp2_with fail
      go_ret
      exact ⟨ao1, cap1, rfl, hA⟩
end Go.Proofs.YtbcjeemjpcidhaaDoor

namespace Go.Proofs.YtbcjeemjpcidhaaDoor
open Go.RowKit

def sideOf (ini : Bool) : Int := if ini then 0 else 1
def pskL (ls : List Ln) : Bool := hasL ls (-1) 7
def befM (oth psk : Bool) (t : Int) : List Mv := ⟨3, if oth then t + 2 else t, 0⟩ :: (if t == 1 && psk then [⟨4, if oth then t + 2 else t, 0⟩] else [])
def mixM (sent psk : Bool) (t : Int) : List Mv := if t == 1 && psk then [⟨4, if sent then 1 else 3, 0⟩] else []
def tokM (ini sent psk : Bool) (t : Int) : List Mv := movesL ini t sent ++ mixM sent psk t
def lineM (ini psk : Bool) (l : Ln) : List Mv := ⟨if l.1 == sideOf ini then 5 else 6, 0, 0⟩ :: (l.2.flatMap (tokM ini (l.1 == sideOf ini) psk) ++ [⟨13, 0, 0⟩])
def headM (ini : Bool) (b0 b1 : List Int) (ls : List Ln) : List Mv :=
  (if hasL ls (sideOf ini) 2 || inL (if ini then b0 else b1) 2 then [⟨1, 2, 0⟩] else []) ++ ((if inL (if ini then b0 else b1) 1 then [⟨1, 1, 0⟩] else []) ++ [⟨2, 0, 0⟩])
/-- The moves of one side of a pattern. -/
def unrollL (ini : Bool) (b0 b1 : List Int) (ls : List Ln) : List Mv :=
  headM ini b0 b1 ls ++ b0.flatMap (befM (!ini) (pskL ls)) ++ b1.flatMap (befM ini (pskL ls)) ++ ls.flatMap (lineM ini (pskL ls)) ++ [⟨14, 0, 0⟩]

def befL (ini psk : Bool) (b0 b1 : List Int) (ls : List Ln) (k : Nat) : List Mv := headM ini b0 b1 ls ++ ((if k = 0 then [] else b0.flatMap (befM (!ini) psk)) ++ (if k ≤ 1 then [] else b1.flatMap (befM ini psk)))
theorem befL_1 (ini psk : Bool) (b0 b1 : List Int) (ls : List Ln) : befL ini psk b0 b1 ls 0 ++ b0.flatMap (befM (!ini) psk) = befL ini psk b0 b1 ls 1 := by simp [befL]
theorem befL_2 (ini psk : Bool) (b0 b1 : List Int) (ls : List Ln) : befL ini psk b0 b1 ls 1 ++ b1.flatMap (befM ini psk) = befL ini psk b0 b1 ls 2 := by simp [befL]
theorem movesL_len (ini : Bool) (t : Int) (s : Bool) : (movesL ini t s).length ≤ 2 := by
  unfold movesL
  repeat' split
  all_goals simp
theorem mixM_len (s psk : Bool) (t : Int) : (mixM s psk t).length ≤ 1 := by
  unfold mixM; split <;> simp
theorem befM_len (o psk : Bool) (t : Int) : (befM o psk t).length ≤ 2 := by
  unfold befM
  cases (t == 1 && psk) <;> simp

theorem linesOk_len {ls : List Ln} : ∀ {prev : Option Int} {n : Nat}, linesOk prev n ls = true → (∀ j (h : j < ls.length), n + ls[j].2.length ≤ 24) ∧ (n ≤ 24 → n + ls.length ≤ 24) := by
  induction ls with
  | nil => intro _ n _; exact ⟨fun j h => by simp at h, fun h => by simpa using h⟩
  | cons l r ih =>
    intro prev n hl
    simp only [linesOk, Bool.and_eq_true, decide_eq_true_eq] at hl
    obtain ⟨⟨⟨h1, h2⟩, h3⟩, h4⟩ := hl
    have hp : l.2.length ≠ 0 := by
      simp only [headOk, Bool.and_eq_true, bne_iff_ne] at h1
      exact h1.2
    obtain ⟨g1, g2⟩ := ih h4
    refine ⟨fun j h => ?_, fun _ => ?_⟩
    · rcases j with _ | j
      · exact h3
      · have := g1 j (by simpa using h)
        simp only [List.getElem_cons_succ]
        omega
    · have := g2 h3
      simp only [List.length_cons]
      omega
theorem checkL_ok {b0 b1 : List Int} {ls : List Ln} (h : checkL b0 b1 ls = 0) : shapedL b0 b1 ls = true := by
  cases hs : shapedL b0 b1 ls with
  | true => rfl
  | false => unfold checkL at h; rw [hs] at h; cases h
theorem okB_len {l : List Int} (h : okB l = true) : l.length ≤ 2 := by
  match l, h with
  | [], _ => simp
  | [x], _ => simp
  | [x, y], _ => simp
  | _ :: _ :: _ :: _, h => simp [okB] at h
theorem shapedL_len {b0 b1 : List Int} {ls : List Ln} (h : shapedL b0 b1 ls = true) : b0.length ≤ 2 ∧ b1.length ≤ 2 ∧ ls.length ≤ 24 ∧ ∀ j (h : j < ls.length), ls[j].2.length ≤ 24 := by
  simp only [shapedL, Bool.and_eq_true] at h
  obtain ⟨⟨⟨h1, h2⟩, _⟩, h3⟩ := h
  obtain ⟨g1, g2⟩ := linesOk_len h3
  exact ⟨okB_len h1, okB_len h2, by have := g2 (by omega); omega, fun j hj => by have := g1 j hj; omega⟩
theorem MvA.kp {a b c : World} {B N cap : Nat} {ao ao1 : Option Addr} {ms : List Mv} (h : MvA a b B ao N ms ao1 cap) (k : Kp b c) : MvA a c B ao N ms ao1 cap :=
  ⟨h.own.keep k, h.fr.trans ((Fr.of_kp k).mono (by simp)), h.new⟩
theorem MvA.keeps {a b : World} {B N cap : Nat} {ao1 : Option Addr} {ms : List Mv} (h : MvA a b B none N ms ao1 cap) : Kp a b := (h.fr.mono (Y := []) (by simp [blkL, blk])).kp
theorem MvO.no_map {w : World} {B N cap r Bm : Nat} {ao : Option Addr} {ms : List Mv} {ini : Bool} {K : List TK} (h : MvO w B ao N cap ms) (hm : MapIn w r Bm ini K) : r ∉ blkL ao := by
  intro hr
  obtain ⟨arr, clock, hh⟩ := hm.heap
  rw [mem_blkL] at hr
  rcases h.1.2 with ⟨hv, _⟩ | ⟨g, cap', cur, hv, _, hg, _⟩
  · simp only [Value.slice.injEq] at hv
    rw [hv.1] at hr
    cases hr
  · simp only [Value.slice.injEq] at hv
    obtain ⟨rfl, _, rfl⟩ := hv
    simp only [blk, Option.map_some, Option.some.injEq] at hr
    subst hr
    rw [hg] at hh
    cases hh

/-- What 'Unroll' leaves. -/
def UnrollPost (w : World) (E : Nat → Addr) (ini : Bool) (b0 b1 : List Int) (ls : List Ln) (e : Ending) (w' : World) : Prop := Kp w w' ∧
  if checkL b0 b1 ls = 0 then ∃ ao n cap, e = .returned (.tuple #[.slice ao n cap, .nilIface]) ∧ MvO w' w.heap.size ao n cap (unrollL ini b0 b1 ls)
  else e = .returned (.tuple #[.slice none 0 0, errV E (checkL b0 b1 ls)])
end Go.Proofs.YtbcjeemjpcidhaaDoor

namespace Go.Proofs.YtbcjeemjpcidhaaDoor
open Go.RowKit

theorem lists_cut {α : Type} [BEq α] [LawfulBEq α] (xs ys : List α) (hl : xs.length = ys.length) (k : Nat) (hk : k < xs.length) (h : xs.take k = ys.take k) :
    (xs[k] = ys[k]'(by omega) → xs.take (k + 1) = ys.take (k + 1)) ∧ (xs[k] ≠ ys[k]'(by omega) → xs ≠ ys) := by
  refine ⟨fun he => by rw [take_step xs k hk, take_step ys k (by omega), h, he], fun hne he => ?_⟩
  subst he
  exact hne rfl

set_option maxHeartbeats 2000000 in
theorem lists_any (w : World) (ao bo : Option Addr) (n m c d : Nat) (xs ys : List Int) (hx : Is w ao n xs) (hy : Is w bo m ys) :
    Calls Tryd.prog 20 #[.slice ao n c, .slice bo m d] w fun e w' => e = .returned (.bool (xs == ys)) ∧ ∃ q, w' = w.drewN q := by
  have hn := hx.2.1
  have hm := hy.2.1
  unfold maxLen at hn hm
  have Hx := Lib.hid hx.1
  have Hy := Lib.hid hy.1
  by_cases hnm : n = m
  · subst hnm
    go_enter Tryd.func20, Tryd.ntmps20
    go_wp2_with fail
    go_loopw [5] (fun i wr => ∃ k q : Nat, k ≤ n ∧ i = .int .i64 k ∧ wr = w.drewN q ∧ xs.take k = ys.take k) (fun i _ => n - (intOf i).toNat)
    case atStart => exact ⟨0, 0, by omega, rfl, rfl, rfl⟩
    case round =>
      obtain ⟨k, q, hk, rfl, rfl, htk⟩ := hrel
      by_cases hlt : k < n
      · obtain ⟨b, off, rfl, _, hc⟩ := hx.at k hlt
        obtain ⟨b', off', rfl, _, hc'⟩ := hy.at k hlt
        have c1 := hc k hlt
        have c2 := hc' k hlt
        have lx : k < xs.length := by rw [Hx.out]; exact hlt
        have ly : k < ys.length := by rw [Hy.out]; exact hlt
        have hcut := lists_cut xs ys (by rw [Hx.out, Hy.out]) k lx htk
        clear hc hc' htk
        generalize xs[k]'lx = x at c1 hcut
        generalize ys[k]'ly = y at c2 hcut
        by_cases hxy : x = y
        · have Hc := Lib.hid (hcut.1 hxy)
          have hne : (x != y) = false := by simp [hxy]
          clear hcut hxy
          go_wp2_with fail
          go_quiet (fail)
          go_wp2_with fail
          go_roundw
          case rel => exact ⟨k + 1, _, by omega, by go_num, by first | rfl | exact World.drewN_drewN _ _ _, Hc.out⟩
          case measure => simp [intOf]; omega
        · have Hc := Lib.hid (show (xs == ys) = false by simpa using hcut.2 hxy)
          have hne : (x != y) = true := by simpa using hxy
          clear hcut hxy
          go_wp2_with fail
          go_quiet (fail)
          go_wp2_with fail
          go_ret
          exact ⟨by rw [Hc.out]; rfl, _, World.drewN_drewN _ _ _⟩
      · have Hc := Lib.hid (show (xs == ys) = true by
          rw [List.take_of_length_le (by rw [Hx.out]; omega), List.take_of_length_le (by rw [Hy.out]; omega)] at htk
          simp [htk])
        clear htk
        go_wp2_with fail
        go_ret
        exact ⟨by rw [Hc.out]; rfl, q, rfl⟩
  · have Hc := Lib.hid (show (xs == ys) = false by
      cases hq : (xs == ys) with
      | false => rfl
      | true => exact absurd (by rw [← Hx.out, ← Hy.out, beq_iff_eq.1 hq]) hnm)
    have hb : ((n : Int) != (m : Int)) = true := by simp; omega
    clear hnm
    go_enter Tryd.func20, Tryd.ntmps20
    go_wp2_with fail
    go_ret
    exact ⟨by rw [Hc.out]; rfl, 0, rfl⟩

theorem Mvs.at {w : World} {ao : Option Addr} {n : Nat} {ms : List Mv} (h : Mvs w ao n ms) (k : Nat) (hk : k < n) :
    ∃ b off, ao = some ⟨b, off, none⟩ ∧ ∀ j, (hj : j < n) → w.cell? ⟨b, off + j * 3, none⟩ = some (iv (ms[j]'(by rw [h.1]; exact hj)).op) ∧ w.cell? ⟨b, off + j * 3 + 1, none⟩ = some (iv (ms[j]'(by rw [h.1]; exact hj)).key) ∧ w.cell? ⟨b, off + j * 3 + 2, none⟩ = some (iv (ms[j]'(by rw [h.1]; exact hj)).wth) := by
  obtain ⟨h1, _, h2⟩ := h
  obtain ⟨b, off, rfl, hc⟩ := h2.at (k * 3) (by rw [mvc_length]; omega)
  refine ⟨b, off, rfl, fun j hj => ?_⟩
  obtain ⟨g0, g1, g2⟩ := mvc_get ms j (by omega)
  exact ⟨hc _ _ g0, by have := hc _ _ g1; rwa [← Nat.add_assoc] at this, by have := hc _ _ g2; rwa [← Nat.add_assoc] at this⟩
theorem mv_eq (a b : Mv) : (a.op == b.op && (a.key == b.key && a.wth == b.wth)) = (a == b) := by
  rw [Bool.eq_iff_iff]
  simp only [Bool.and_eq_true, beq_iff_eq]
  constructor
  · rintro ⟨h1, h2, h3⟩; cases a; cases b; simp_all
  · rintro rfl; simp

end Go.Proofs.YtbcjeemjpcidhaaDoor

namespace Go.Proofs.YtbcjeemjpcidhaaDoor
open Go.RowKit

set_option maxHeartbeats 2000000 in
theorem equal_any (w : World) (ao bo : Option Addr) (n m c d : Nat) (xs ys : List Mv) (hx : Mvs w ao n xs) (hy : Mvs w bo m ys) :
    Calls Tryd.prog 19 #[.slice ao n c, .slice bo m d] w fun e w' => e = .returned (.bool (xs == ys)) ∧ Kp w w' := by
  have hn := hx.2.1
  have hm := hy.2.1
  unfold maxLen at hn hm
  have Hx := Lib.hid hx.1
  have Hy := Lib.hid hy.1
  have hq := neq42
  by_cases hnm : n = m
  · subst hnm
    go_enter Tryd.func19, Tryd.ntmps19
    go_wp2_with fail
    go_loopw [13] (fun i wr => ∃ k q : Nat, k ≤ n ∧ i = .int .i64 k ∧ wr = w.drewN q ∧ xs.take k = ys.take k) (fun i _ => n - (intOf i).toNat)
    case atStart => exact ⟨0, 0, by omega, rfl, rfl, rfl⟩
    case round =>
      obtain ⟨k, q, hk, rfl, rfl, htk⟩ := hrel
      by_cases hlt : k < n
      · obtain ⟨b, off, rfl, hc⟩ := hx.at k hlt
        obtain ⟨b', off', rfl, hc'⟩ := hy.at k hlt
        obtain ⟨c1, c2, c3⟩ := hc k hlt
        obtain ⟨d1, d2, d3⟩ := hc' k hlt
        have lx : k < xs.length := by rw [Hx.out]; exact hlt
        have ly : k < ys.length := by rw [Hy.out]; exact hlt
        have hcut := lists_cut xs ys (by rw [Hx.out, Hy.out]) k lx htk
        clear hc hc' htk
        generalize xs[k]'lx = x at c1 c2 c3 hcut
        generalize ys[k]'ly = y at d1 d2 d3 hcut
        have he := mv_eq x y
        by_cases hxy : x = y
        · have Hc := Lib.hid (hcut.1 hxy)
          have he : (x.op == y.op && (x.key == y.key && x.wth == y.wth)) = true := by rw [he]; simp [hxy]
          obtain ⟨x1, x2, x3⟩ := x
          obtain ⟨y1, y2, y3⟩ := y
          simp only at c1 c2 c3 d1 d2 d3 he
          have hq2 : ∀ w, (binOp .neq 56 (.agg #[.int .i64 x1, .int .i64 x2, .int .i64 x3]) (.agg #[.int .i64 y1, .int .i64 y2, .int .i64 y3])).run Tryd.prog w = .ok (.bool false) w := fun w => by rw [neq42, he]; rfl
          clear hcut hxy hq he
          go_wp2_with fail
          go_quiet (fail)
          go_wp2_with fail
          go_roundw
          case rel => exact ⟨k + 1, _, by omega, by go_num, by first | rfl | exact World.drewN_drewN _ _ _, Hc.out⟩
          case measure => simp [intOf]; omega
        · have Hc := Lib.hid (show (xs == ys) = false by simpa using hcut.2 hxy)
          have he : (x.op == y.op && (x.key == y.key && x.wth == y.wth)) = false := by rw [he]; simpa using hxy
          obtain ⟨x1, x2, x3⟩ := x
          obtain ⟨y1, y2, y3⟩ := y
          simp only at c1 c2 c3 d1 d2 d3 he
          have hq2 : ∀ w, (binOp .neq 56 (.agg #[.int .i64 x1, .int .i64 x2, .int .i64 x3]) (.agg #[.int .i64 y1, .int .i64 y2, .int .i64 y3])).run Tryd.prog w = .ok (.bool true) w := fun w => by rw [neq42, he]; rfl
          clear hcut hxy hq he
          go_wp2_with fail
          go_quiet (fail)
          go_wp2_with fail
          go_ret
          exact ⟨by rw [Hc.out]; rfl, by rw [World.drewN_drewN]; exact Kp.of_drewN _ _⟩
      · have Hc := Lib.hid (show (xs == ys) = true by
          rw [List.take_of_length_le (by rw [Hx.out]; omega), List.take_of_length_le (by rw [Hy.out]; omega)] at htk
          simp [htk])
        clear htk hq
        go_wp2_with fail
        go_ret
        exact ⟨by rw [Hc.out]; rfl, Kp.of_drewN _ _⟩
  · have Hc := Lib.hid (show (xs == ys) = false by
      cases hq : (xs == ys) with
      | false => rfl
      | true => exact absurd (by rw [← Hx.out, ← Hy.out, beq_iff_eq.1 hq]) hnm)
    have hb : ((n : Int) != (m : Int)) = true := by simp; omega
    clear hnm hq
    go_enter Tryd.func19, Tryd.ntmps19
    go_wp2_with fail
    go_ret
    exact ⟨by rw [Hc.out]; rfl, Kp.refl _⟩
end Go.Proofs.YtbcjeemjpcidhaaDoor

namespace Go.Proofs.YtbcjeemjpcidhaaDoor
open Go.RowKit

/-- Two patterns, but for their names. -/
def sameL (b0 b1 : List Int) (ls : List Ln) (d0 d1 : List Int) (ms : List Ln) : Bool := b0 == d0 && (b1 == d1 && ls == ms)

theorem lists_kp (w : World) (ao bo : Option Addr) (n m c d : Nat) (xs ys : List Int) (hx : Is w ao n xs) (hy : Is w bo m ys) :
    Calls Tryd.prog 20 #[.slice ao n c, .slice bo m d] w fun e w' => e = .returned (.bool (xs == ys)) ∧ Kp w w' :=
  (lists_any w ao bo n m c d xs ys hx hy).mono (by rintro e w' ⟨rfl, q, rfl⟩; exact ⟨rfl, Kp.of_drewN _ _⟩)

set_option maxRecDepth 100000 in
set_option maxHeartbeats 4000000 in
theorem same_any (w : World) (nm nm' : ByteArray) (a0 a1 al e0 e1 el : Option Addr) (n0 c0 n1 c1 nl cl m0 f0 m1 f1 ml fl : Nat) (b0 b1 : List Int) (ls : List Ln) (d0 d1 : List Int) (ms : List Ln)
    (h0 : Is w a0 n0 b0) (h1 : Is w a1 n1 b1) (hl : Lns w al nl ls) (g0 : Is w e0 m0 d0) (g1 : Is w e1 m1 d1) (gl : Lns w el ml ms) :
    Calls Tryd.prog 7 #[.agg #[.string nm, .slice a0 n0 c0, .slice a1 n1 c1, .slice al nl cl], .agg #[.string nm', .slice e0 m0 f0, .slice e1 m1 f1, .slice el ml fl]] w fun e w' => e = .returned (.bool (sameL b0 b1 ls d0 d1 ms)) ∧ Kp w w' := by
  have hnl := hl.2.1
  have hml := gl.2.1
  have Hll := Lib.hid hl.1
  have Hml := Lib.hid gl.1
  have hk1 := Kp.new w (.cells #[.string nm, .slice a0 n0 c0, .slice a1 n1 c1, .slice al nl cl] 29)
  have hk2 := Kp.new (w.alloc (.cells #[.string nm, .slice a0 n0 c0, .slice a1 n1 c1, .slice al nl cl] 29)) (.cells #[.string nm', .slice e0 m0 f0, .slice e1 m1 f1, .slice el ml fl] 29)
  have hA : ∀ j v, [Value.string nm, .slice a0 n0 c0, .slice a1 n1 c1, .slice al nl cl][j]? = some v → ((w.alloc (.cells #[.string nm, .slice a0 n0 c0, .slice a1 n1 c1, .slice al nl cl] 29)).alloc (.cells #[.string nm', .slice e0 m0 f0, .slice e1 m1 f1, .slice el ml fl] 29)).cell? ⟨w.heap.size, j, none⟩ = some v := fun j v hv => by
    refine Kp.cell hk2 ?_
    rw [World.cell?_alloc_at _ _ _ _ rfl]
    simpa using hv
  have hB : ∀ j v, [Value.string nm', .slice e0 m0 f0, .slice e1 m1 f1, .slice el ml fl][j]? = some v → ((w.alloc (.cells #[.string nm, .slice a0 n0 c0, .slice a1 n1 c1, .slice al nl cl] 29)).alloc (.cells #[.string nm', .slice e0 m0 f0, .slice e1 m1 f1, .slice el ml fl] 29)).cell? ⟨w.heap.size + 1, j, none⟩ = some v := fun j v hv => by
    rw [World.cell?_alloc_at _ _ _ _ (by simp)]
    simpa using hv
  have hkw := Kp.trans hk1 hk2
  have A1 := hA 1 _ rfl
  have A2 := hA 2 _ rfl
  have A3 := hA 3 _ rfl
  have B1 := hB 1 _ rfl
  have B2 := hB 2 _ rfl
  have B3 := hB 3 _ rfl
  clear hA hB hk1 hk2
  go_enter Tryd.func7, Tryd.ntmps7
  go_wp2_with fail
  generalize (w.alloc (.cells #[.string nm, .slice a0 n0 c0, .slice a1 n1 c1, .slice al nl cl] 29)).alloc (.cells #[.string nm', .slice e0 m0 f0, .slice e1 m1 f1, .slice el ml fl] 29) = wb at *
  (with_reducible refine (lists_kp wb a0 e0 n0 m0 c0 f0 b0 d0 (Kp.is hkw h0) (Kp.is hkw g0)).mono ?_)
  rintro e w1 ⟨rfl, hk1⟩
  have A1 := Kp.cell hk1 A1
  have A2 := Kp.cell hk1 A2
  have A3 := Kp.cell hk1 A3
  have B1 := Kp.cell hk1 B1
  have B2 := Kp.cell hk1 B2
  have B3 := Kp.cell hk1 B3
  have hkw := Kp.trans hkw hk1
  cases hq0 : b0 == d0 with
  | false =>
    have HF := Lib.hid (show sameL b0 b1 ls d0 d1 ms = false by unfold sameL; rw [hq0]; rfl)
    clear hq0
    go_wp2_with fail
    go_ret
    exact ⟨by rw [HF.out]; rfl, hkw⟩
  | true =>
    have Hq0 := Lib.hid hq0; clear hq0
    go_wp2_with fail
    (with_reducible refine (lists_kp w1 a1 e1 n1 m1 c1 f1 b1 d1 (Kp.is hkw h1) (Kp.is hkw g1)).mono ?_)
    rintro e w2 ⟨rfl, hk2⟩
    have A3 := Kp.cell hk2 A3
    have B3 := Kp.cell hk2 B3
    have hkw := Kp.trans hkw hk2
    cases hq1 : b1 == d1 with
    | false =>
      have HF := Lib.hid (show sameL b0 b1 ls d0 d1 ms = false by unfold sameL; rw [hq1]; simp)
      clear hq1
      go_wp2_with fail
      go_ret
      exact ⟨by rw [HF.out]; rfl, hkw⟩
    | true =>
      have HF0 := Lib.hid (show sameL b0 b1 ls d0 d1 ms = (ls == ms) by unfold sameL; rw [Hq0.out, hq1]; simp)
      clear hq1
      by_cases hnm : nl = ml
      · subst hnm
        go_wp2_with fail
        go_loopw [5] (fun i wr => ∃ k : Nat, k ≤ nl ∧ i = .int .i64 k ∧ Kp w2 wr ∧ ls.take k = ms.take k) (fun i _ => nl - (intOf i).toNat)
        case atStart => exact ⟨0, by omega, rfl, Kp.refl _, rfl⟩
        case round =>
          obtain ⟨k, hk, rfl, hkk, htk⟩ := hrel
          have A3 := Kp.cell hkk A3
          have B3 := Kp.cell hkk B3
          have hkr := Kp.trans hkw hkk
          by_cases hlt : k < nl
          · have hkl : k < ls.length := by rw [Hll.out]; exact hlt
            have hkm : k < ms.length := by rw [Hml.out]; exact hlt
            obtain ⟨b, off, tp, tn, tc, rfl, hc1, hc2, hI, htn⟩ := hl.2.2 k hkl
            obtain ⟨b', off', tp', tn', tc', rfl, hd1, hd2, hJ, htn'⟩ := gl.2.2 k hkm
            have hc1 := Kp.cell hkr hc1
            have hc2 := Kp.cell hkr hc2
            have hd1 := Kp.cell hkr hd1
            have hd2 := Kp.cell hkr hd2
            have hcut := lists_cut ls ms (by rw [Hll.out, Hml.out]) k hkl htk
            obtain ⟨f, ts, hft⟩ : ∃ f ts, ls[k] = (f, ts) := ⟨_, _, rfl⟩
            obtain ⟨f', ts', hft'⟩ : ∃ f ts, ms[k] = (f, ts) := ⟨_, _, rfl⟩
            rw [hft] at hc1 hI hcut
            rw [hft'] at hd1 hJ hcut
            have hI : Is w tp tn ts := hI
            have hJ : Is w tp' tn' ts' := hJ
            have hc1 : wr.cell? ⟨b, off + k * 2, none⟩ = some (iv f) := hc1
            have hd1 : wr.cell? ⟨b', off' + k * 2, none⟩ = some (iv f') := hd1
            have Hcall := Lib.hid (show ∀ q, Calls Tryd.prog 20 #[.slice tp tn tc, .slice tp' tn' tc'] (wr.drewN q) fun e w' => e = .returned (.bool (ts == ts')) ∧ ∃ k, w' = (wr.drewN q).drewN k from fun q => lists_any (wr.drewN q) tp tp' tn tn' tc tc' ts ts' (Kp.is (Kp.trans hkr (Kp.of_drewN _ _)) hI) (Kp.is (Kp.trans hkr (Kp.of_drewN _ _)) hJ))
            clear hft hft' hI hJ htk
            by_cases hff : f = f'
            · subst hff
              have hfb : (f != f) = false := by simp
              cases hts : ts == ts' with
              | true =>
                obtain rfl : ts = ts' := by simpa using hts
                have Hc := Lib.hid (hcut.1 rfl)
                have Hc2 := Lib.hid hts
                clear hcut hts
                go_wp2_with fail
                rw [Hc2.out] at Hcall
                go_quiet ((go_at_call 20; exact Calls.quiet_of (Hcall.out _)))
                go_wp2_with fail
                go_roundw
                case rel => exact ⟨k + 1, by omega, by go_num, Kp.trans hkk (Kp.of_drewN _ _), Hc.out⟩
                case measure => simp [intOf]; omega
              | false =>
                have HF := Lib.hid (show sameL b0 b1 ls d0 d1 ms = false by
                  rw [HF0.out]
                  have := hcut.2 (by intro h; simp only [Prod.mk.injEq, true_and] at h; rw [h] at hts; simp at hts)
                  simpa using this)
                rw [hts] at Hcall
                clear hcut hts
                go_wp2_with fail
                go_quiet ((go_at_call 20; exact Calls.quiet_of (Hcall.out _)))
                go_wp2_with fail
                go_ret
                exact ⟨by rw [HF.out]; rfl, Kp.trans hkr (Kp.of_drewN _ _)⟩
            · have hfb : (f != f') = true := by simpa using hff
              have HF := Lib.hid (show sameL b0 b1 ls d0 d1 ms = false by
                rw [HF0.out]
                have := hcut.2 (by intro h; simp only [Prod.mk.injEq] at h; exact hff h.1)
                simpa using this)
              clear hcut hff
              go_wp2_with fail
              go_quiet (fail)
              go_wp2_with fail
              go_ret
              exact ⟨by rw [HF.out]; rfl, Kp.trans hkr (Kp.of_drewN _ _)⟩
          · have HF := Lib.hid (show sameL b0 b1 ls d0 d1 ms = true by
              rw [HF0.out]
              rw [List.take_of_length_le (by rw [Hll.out]; omega), List.take_of_length_le (by rw [Hml.out]; omega)] at htk
              simp [htk])
            clear htk
            go_wp2_with fail
            go_ret
            exact ⟨by rw [HF.out]; rfl, hkr⟩
      · have HF := Lib.hid (show sameL b0 b1 ls d0 d1 ms = false by
          rw [HF0.out]
          cases hq : (ls == ms) with
          | false => rfl
          | true => exact absurd (by rw [← Hll.out, ← Hml.out, beq_iff_eq.1 hq]) hnm)
        have hb : ((nl : Int) != (ml : Int)) = true := by simp; omega
        clear hnm
        go_wp2_with fail
        go_ret
        exact ⟨by rw [HF.out]; rfl, hkw⟩
end Go.Proofs.YtbcjeemjpcidhaaDoor

namespace Go.Proofs.YtbcjeemjpcidhaaDoor
open Go.RowKit

def pubL (ini : Bool) (b0 b1 : List Int) (ls : List Ln) : List Mv := (if hasL ls (sideOf ini) 2 || inL (if ini then b0 else b1) 2 then [⟨1, 2, 0⟩] else []) ++ (if inL (if ini then b0 else b1) 1 then [⟨1, 1, 0⟩] else [])
def restL (ini : Bool) (b0 b1 : List Int) (ls : List Ln) : List Mv := ⟨2, 0, 0⟩ :: (b0.flatMap (befM (!ini) (pskL ls)) ++ (b1.flatMap (befM ini (pskL ls)) ++ (ls.flatMap (lineM ini (pskL ls)) ++ [⟨14, 0, 0⟩])))
theorem unrollL_split (ini : Bool) (b0 b1 : List Int) (ls : List Ln) : unrollL ini b0 b1 ls = pubL ini b0 b1 ls ++ restL ini b0 b1 ls := by
  unfold unrollL headM pubL restL
  simp [List.append_assoc]
theorem pubL_op (ini : Bool) (b0 b1 : List Int) (ls : List Ln) : ∀ m ∈ pubL ini b0 b1 ls, m.op = 1 := by
  intro m hm
  unfold pubL at hm
  generalize (hasL ls (sideOf ini) 2 || inL (if ini then b0 else b1) 2) = p at hm
  generalize inL (if ini then b0 else b1) 1 = q at hm
  cases p <;> cases q <;> simp at hm
  · rw [hm]
  · rw [hm]
  · rcases hm with h | h <;> rw [h]

end Go.Proofs.YtbcjeemjpcidhaaDoor

namespace Go.Proofs.YtbcjeemjpcidhaaDoor
def nnLs : List Ln := [(0, [1]), (1, [1, 3])]
theorem nn_check : checkL [] [] nnLs = 0 := by kernel_rfl
theorem nn_moves (ini : Bool) : (unrollL ini [] [] nnLs).length = 11 ∧ ((unrollL ini [] [] nnLs)[0]?).map (·.op) = some 2 ∧ ((unrollL ini [] [] nnLs)[10]?).map (·.op) = some 14 := by
  cases ini <;> exact ⟨by kernel_rfl, by kernel_rfl, by kernel_rfl⟩
end Go.Proofs.YtbcjeemjpcidhaaDoor

namespace Go.Proofs.YtbcjeemjpcidhaaDoor
open Go.RowKit

/-- The token that a move stands for. -/
def backL (ini : Bool) (m : Mv) : Option Int :=
  if m = ⟨7, 1, 0⟩ ∨ m = ⟨8, 3, 0⟩ then some 1 else if m = ⟨9, 2, 0⟩ ∨ m = ⟨10, 4, 0⟩ then some 2 else if m = ⟨12, 0, 0⟩ then some 7
  else if m = ⟨11, 1, 3⟩ then some 3 else if m = ⟨11, 2, 4⟩ then some 6
  else if m = ⟨11, 1, 4⟩ then some (if ini then 4 else 5) else if m = ⟨11, 2, 3⟩ then some (if ini then 5 else 4) else none
/-- A token more in the last message. -/
def addT (ls : List Ln) (t : Int) : List Ln := ls.dropLast ++ (ls.getLast?.map fun l => (l.1, l.2 ++ [t])).toList
/-- What is known ahead of a side: one more. -/
def addB (s : List Int × List Int) (first : Bool) (t : Int) : List Int × List Int := if first then (s.1 ++ [t], s.2) else (s.1, s.2 ++ [t])
/-- One move. -/
def rollS (ini : Bool) (s : (List Int × List Int) × List Ln) (m : Mv) : (List Int × List Int) × List Ln :=
  if m.op = 5 then (s.1, s.2 ++ [(sideOf ini, [])])
  else if m.op = 6 then (s.1, s.2 ++ [(1 - sideOf ini, [])])
  else if s.2.isEmpty then
    (if m.op = 3 ∧ 3 ≤ m.key ∧ m.key ≤ 4 then (addB s.1 (!ini) (m.key - 2), s.2) else if m.op = 3 ∧ 1 ≤ m.key then (addB s.1 ini m.key, s.2) else s)
  else match backL ini m with
    | some t => (s.1, addT s.2 t)
    | none => s
def rollL (ini : Bool) (l : List Mv) : (List Int × List Int) × List Ln := l.foldl (rollS ini) (([], []), [])

theorem rollS_pub (ini : Bool) (p : List Int × List Int) (m : Mv) (h : m.op = 1 ∨ m.op = 2 ∨ m.op = 4) : rollS ini (p, []) m = (p, []) := by
  unfold rollS
  rw [if_neg (by omega), if_neg (by omega), if_pos (show ((p, ([] : List Ln)).2.isEmpty = true) from rfl), if_neg (by omega), if_neg (by omega)]
theorem roll_pub (ini : Bool) (p : List Int × List Int) : ∀ l : List Mv, (∀ m ∈ l, m.op = 1) → l.foldl (rollS ini) (p, []) = (p, [])
  | [], _ => rfl
  | m :: r, h => by rw [List.foldl_cons, rollS_pub ini p m (.inl (h m (by simp)))]; exact roll_pub ini p r (fun x hx => h x (by simp [hx]))
/-- What is known ahead: the initiator's, the responder's. -/
theorem roll_bef (ini o psk first : Bool) (hf : first = (ini != o)) : ∀ (l : List Int) (p : List Int × List Int), (∀ t ∈ l, t = 1 ∨ t = 2) → (l.flatMap (befM o psk)).foldl (rollS ini) (p, []) = ((if first then (p.1 ++ l, p.2) else (p.1, p.2 ++ l)), [])
  | [], p, _ => by cases first <;> simp
  | t :: r, p, h => by
    have h3 : rollS ini (p, []) ⟨3, if o then t + 2 else t, 0⟩ = (addB p first t, []) := by
      subst hf
      rcases h t (by simp) with rfl | rfl <;> cases ini <;> cases o <;> simp [rollS, addB]
    have h1 : (befM o psk t).foldl (rollS ini) (p, []) = (addB p first t, []) := by
      unfold befM
      rw [List.foldl_cons, h3]
      split
      · rw [List.foldl_cons, rollS_pub ini _ _ (.inr (.inr rfl))]; rfl
      · rfl
    rw [List.flatMap_cons, List.foldl_append, h1, roll_bef ini o psk first hf r _ (fun x hx => h x (by simp [hx]))]
    cases first <;> simp [addB]
theorem addT_concat (ls : List Ln) (f t : Int) (ts : List Int) : addT (ls ++ [(f, ts)]) t = ls ++ [(f, ts ++ [t])] := by
  unfold addT
  simp
theorem rollS_tok (ini : Bool) (p : List Int × List Int) (ls : List Ln) (f : Int) (ts : List Int) (m : Mv) (h : m.op ≠ 5 ∧ m.op ≠ 6) : rollS ini (p, ls ++ [(f, ts)]) m = (p, ls ++ [(f, ts ++ (backL ini m).toList)]) := by
  unfold rollS
  rw [if_neg h.1, if_neg h.2, if_neg (by simp)]
  cases hb : backL ini m with
  | none => simp
  | some t => simp only [addT_concat, Option.toList]
theorem roll_toks (ini : Bool) (p : List Int × List Int) (ls : List Ln) (f : Int) : ∀ (l : List Mv) (ts : List Int), (∀ m ∈ l, m.op ≠ 5 ∧ m.op ≠ 6) → l.foldl (rollS ini) (p, ls ++ [(f, ts)]) = (p, ls ++ [(f, ts ++ l.flatMap fun m => (backL ini m).toList)])
  | [], ts, _ => by simp
  | m :: r, ts, h => by
    rw [List.foldl_cons, rollS_tok ini p ls f ts m (h m (by simp)), roll_toks ini p ls f r _ (fun x hx => h x (by simp [hx])), List.flatMap_cons, List.append_assoc]
theorem tokM_back (ini s psk : Bool) (t : Int) (h1 : 1 ≤ t) (h7 : t ≤ 7) : (tokM ini s psk t).flatMap (fun m => (backL ini m).toList) = [t] ∧ ∀ m ∈ tokM ini s psk t, m.op ≠ 5 ∧ m.op ≠ 6 := by
  rcases (show t = 1 ∨ t = 2 ∨ t = 3 ∨ t = 4 ∨ t = 5 ∨ t = 6 ∨ t = 7 by omega) with rfl | rfl | rfl | rfl | rfl | rfl | rfl <;> cases s <;> cases ini <;> cases psk <;> exact ⟨rfl, by decide⟩
theorem toks_back (ini s psk : Bool) : ∀ (l : List Int), (∀ t ∈ l, 1 ≤ t ∧ t ≤ 7) → (l.flatMap (tokM ini s psk)).flatMap (fun m => (backL ini m).toList) = l ∧ ∀ m ∈ l.flatMap (tokM ini s psk), m.op ≠ 5 ∧ m.op ≠ 6
  | [], _ => ⟨rfl, by simp⟩
  | t :: r, h => by
    obtain ⟨g1, g2⟩ := toks_back ini s psk r (fun x hx => h x (by simp [hx]))
    obtain ⟨q1, q2⟩ := tokM_back ini s psk t (h t (by simp)).1 (h t (by simp)).2
    rw [List.flatMap_cons, List.flatMap_append, q1, g1]
    refine ⟨rfl, fun m hm => ?_⟩
    rcases List.mem_append.1 hm with hm | hm
    · exact q2 m hm
    · exact g2 m hm
theorem roll_line (ini psk : Bool) (p : List Int × List Int) (ls : List Ln) (l : Ln) (h : l.1 = 0 ∨ l.1 = 1) (ht : ∀ t ∈ l.2, 1 ≤ t ∧ t ≤ 7) : (lineM ini psk l).foldl (rollS ini) (p, ls) = (p, ls ++ [l]) := by
  obtain ⟨f, ts⟩ := l
  have h1 : rollS ini (p, ls) ⟨if f == sideOf ini then 5 else 6, 0, 0⟩ = (p, ls ++ [(f, [])]) := by
    have h : f = 0 ∨ f = 1 := h
    rcases h with rfl | rfl <;> cases ini <;> simp [rollS, sideOf]
  obtain ⟨g1, g2⟩ := toks_back ini (f == sideOf ini) psk ts ht
  unfold lineM
  rw [List.foldl_cons, h1, List.foldl_append, roll_toks ini p ls f _ _ g2, g1, List.foldl_cons, rollS_tok ini p ls f _ _ (by simp)]
  simp [backL]
theorem roll_lines (ini psk : Bool) (p : List Int × List Int) : ∀ (ms ls : List Ln), (∀ l ∈ ms, (l.1 = 0 ∨ l.1 = 1) ∧ ∀ t ∈ l.2, 1 ≤ t ∧ t ≤ 7) → (ms.flatMap (lineM ini psk)).foldl (rollS ini) (p, ls) = (p, ls ++ ms)
  | [], ls, _ => by simp
  | l :: r, ls, h => by
    rw [List.flatMap_cons, List.foldl_append, roll_line ini psk p ls l (h l (by simp)).1 (h l (by simp)).2, roll_lines ini psk p r _ (fun x hx => h x (by simp [hx])), List.append_assoc]
    rfl
/-- The moves of a pattern roll up to it. -/
theorem roll_unroll (ini : Bool) {b0 b1 : List Int} {ls : List Ln} (h : shapedL b0 b1 ls = true) : rollL ini (unrollL ini b0 b1 ls) = ((b0, b1), ls) := by
  obtain ⟨h0, h1, hpos, hl⟩ := shapedL_mem h
  have g0 : ∀ t ∈ b0, t = 1 ∨ t = 2 := fun t ht => by obtain ⟨j, hj, rfl⟩ := List.getElem_of_mem ht; exact okB_mem h0 j hj
  have g1 : ∀ t ∈ b1, t = 1 ∨ t = 2 := fun t ht => by obtain ⟨j, hj, rfl⟩ := List.getElem_of_mem ht; exact okB_mem h1 j hj
  have gl : ∀ l ∈ ls, (l.1 = 0 ∨ l.1 = 1) ∧ ∀ t ∈ l.2, 1 ≤ t ∧ t ≤ 7 := fun l hm => by
    obtain ⟨j, hj, rfl⟩ := List.getElem_of_mem hm
    obtain ⟨q1, _, q2⟩ := hl j hj
    exact ⟨q1, fun t ht => by obtain ⟨i, hi, rfl⟩ := List.getElem_of_mem ht; exact q2 i hi⟩
  unfold rollL
  rw [unrollL_split, List.foldl_append, roll_pub ini _ _ (pubL_op ini b0 b1 ls)]
  unfold restL
  rw [List.foldl_cons, rollS_pub ini _ _ (.inr (.inl rfl)), List.foldl_append, roll_bef ini (!ini) (pskL ls) true (by cases ini <;> rfl) b0 _ g0, List.foldl_append, roll_bef ini ini (pskL ls) false (by cases ini <;> rfl) b1 _ g1, List.foldl_append, roll_lines ini (pskL ls) _ ls _ gl]
  simp only [if_true, Bool.false_eq_true, if_false, List.nil_append, List.foldl_cons, List.foldl_nil]
  obtain ⟨l0, r, rfl⟩ : ∃ l0 r, ls = r ++ [l0] := by
    rcases List.eq_nil_or_concat ls with h | ⟨r, l0, h⟩
    · rw [h] at hpos; simp at hpos
    · exact ⟨l0, r, by rw [h]; simp⟩
  obtain ⟨f, ts⟩ := l0
  rw [rollS_tok ini _ r f ts _ (by simp)]
  simp [backL]
end Go.Proofs.YtbcjeemjpcidhaaDoor

namespace Go.Proofs.YtbcjeemjpcidhaaDoor
open Go.RowKit

abbrev Pt := (List Int × List Int) × List Ln
/-- The pattern that rolls up, if its moves are these again. -/
def keepL (ini : Bool) (l : List Mv) (c : Pt) : Option Pt := if checkL c.1.1 c.1.2 c.2 = 0 ∧ unrollL ini c.1.1 c.1.2 c.2 = l then some c else none
def rolledL (ini : Bool) (l : List Mv) : Option Pt := keepL ini l (rollL ini l)
theorem rolledL_unroll (ini : Bool) {b0 b1 : List Int} {ls : List Ln} (h : checkL b0 b1 ls = 0) : rolledL ini (unrollL ini b0 b1 ls) = some ((b0, b1), ls) := by
  unfold rolledL keepL
  rw [roll_unroll ini (checkL_ok h), if_pos ⟨h, rfl⟩]
end Go.Proofs.YtbcjeemjpcidhaaDoor

namespace Go.Proofs.YtbcjeemjpcidhaaDoor
open Go.RowKit

set_option maxRecDepth 100000 in
/-- A frame of 189 slots, of which the first 13 are said. -/
def F19 (a0 a1 a2 a3 a4 a5 a6 a7 a8 a9 a10 a11 a12 : Value) (a : Act) : Prop := ∃ u : Nat → Value, a = ⟨List.toArray (a0 :: a1 :: a2 :: a3 :: a4 :: a5 :: a6 :: a7 :: a8 :: a9 :: a10 :: a11 :: a12 :: u 13 :: u 14 :: u 15 :: u 16 :: u 17 :: u 18 :: u 19 :: u 20 :: u 21 :: u 22 :: u 23 :: u 24 :: u 25 :: u 26 :: u 27 :: u 28 :: u 29 :: u 30 :: u 31 :: u 32 :: u 33 :: u 34 :: u 35 :: u 36 :: u 37 :: u 38 :: u 39 :: u 40 :: u 41 :: u 42 :: u 43 :: u 44 :: u 45 :: u 46 :: u 47 :: u 48 :: u 49 :: u 50 :: u 51 :: u 52 :: u 53 :: u 54 :: u 55 :: u 56 :: u 57 :: u 58 :: u 59 :: u 60 :: u 61 :: u 62 :: u 63 :: u 64 :: u 65 :: u 66 :: u 67 :: u 68 :: u 69 :: u 70 :: u 71 :: u 72 :: u 73 :: u 74 :: u 75 :: u 76 :: u 77 :: u 78 :: u 79 :: u 80 :: u 81 :: u 82 :: u 83 :: u 84 :: u 85 :: u 86 :: u 87 :: u 88 :: u 89 :: u 90 :: u 91 :: u 92 :: u 93 :: u 94 :: u 95 :: u 96 :: u 97 :: u 98 :: u 99 :: u 100 :: u 101 :: u 102 :: u 103 :: u 104 :: u 105 :: u 106 :: u 107 :: u 108 :: u 109 :: u 110 :: u 111 :: u 112 :: u 113 :: u 114 :: u 115 :: u 116 :: u 117 :: u 118 :: u 119 :: u 120 :: u 121 :: u 122 :: u 123 :: u 124 :: u 125 :: u 126 :: u 127 :: u 128 :: u 129 :: u 130 :: u 131 :: u 132 :: u 133 :: u 134 :: u 135 :: u 136 :: u 137 :: u 138 :: u 139 :: u 140 :: u 141 :: u 142 :: u 143 :: u 144 :: u 145 :: u 146 :: u 147 :: u 148 :: u 149 :: u 150 :: u 151 :: u 152 :: u 153 :: u 154 :: u 155 :: u 156 :: u 157 :: u 158 :: u 159 :: u 160 :: u 161 :: u 162 :: u 163 :: u 164 :: u 165 :: u 166 :: u 167 :: u 168 :: u 169 :: u 170 :: u 171 :: u 172 :: u 173 :: u 174 :: u 175 :: u 176 :: u 177 :: u 178 :: u 179 :: u 180 :: u 181 :: u 182 :: u 183 :: u 184 :: u 185 :: u 186 :: u 187 :: u 188 :: []), []⟩
set_option maxRecDepth 100000 in
theorem F19.of (a0 a1 a2 a3 a4 a5 a6 a7 a8 a9 a10 a11 a12 x13 x14 x15 x16 x17 x18 x19 x20 x21 x22 x23 x24 x25 x26 x27 x28 x29 x30 x31 x32 x33 x34 x35 x36 x37 x38 x39 x40 x41 x42 x43 x44 x45 x46 x47 x48 x49 x50 x51 x52 x53 x54 x55 x56 x57 x58 x59 x60 x61 x62 x63 x64 x65 x66 x67 x68 x69 x70 x71 x72 x73 x74 x75 x76 x77 x78 x79 x80 x81 x82 x83 x84 x85 x86 x87 x88 x89 x90 x91 x92 x93 x94 x95 x96 x97 x98 x99 x100 x101 x102 x103 x104 x105 x106 x107 x108 x109 x110 x111 x112 x113 x114 x115 x116 x117 x118 x119 x120 x121 x122 x123 x124 x125 x126 x127 x128 x129 x130 x131 x132 x133 x134 x135 x136 x137 x138 x139 x140 x141 x142 x143 x144 x145 x146 x147 x148 x149 x150 x151 x152 x153 x154 x155 x156 x157 x158 x159 x160 x161 x162 x163 x164 x165 x166 x167 x168 x169 x170 x171 x172 x173 x174 x175 x176 x177 x178 x179 x180 x181 x182 x183 x184 x185 x186 x187 x188 : Value) : F19 a0 a1 a2 a3 a4 a5 a6 a7 a8 a9 a10 a11 a12 ⟨List.toArray (a0 :: a1 :: a2 :: a3 :: a4 :: a5 :: a6 :: a7 :: a8 :: a9 :: a10 :: a11 :: a12 :: x13 :: x14 :: x15 :: x16 :: x17 :: x18 :: x19 :: x20 :: x21 :: x22 :: x23 :: x24 :: x25 :: x26 :: x27 :: x28 :: x29 :: x30 :: x31 :: x32 :: x33 :: x34 :: x35 :: x36 :: x37 :: x38 :: x39 :: x40 :: x41 :: x42 :: x43 :: x44 :: x45 :: x46 :: x47 :: x48 :: x49 :: x50 :: x51 :: x52 :: x53 :: x54 :: x55 :: x56 :: x57 :: x58 :: x59 :: x60 :: x61 :: x62 :: x63 :: x64 :: x65 :: x66 :: x67 :: x68 :: x69 :: x70 :: x71 :: x72 :: x73 :: x74 :: x75 :: x76 :: x77 :: x78 :: x79 :: x80 :: x81 :: x82 :: x83 :: x84 :: x85 :: x86 :: x87 :: x88 :: x89 :: x90 :: x91 :: x92 :: x93 :: x94 :: x95 :: x96 :: x97 :: x98 :: x99 :: x100 :: x101 :: x102 :: x103 :: x104 :: x105 :: x106 :: x107 :: x108 :: x109 :: x110 :: x111 :: x112 :: x113 :: x114 :: x115 :: x116 :: x117 :: x118 :: x119 :: x120 :: x121 :: x122 :: x123 :: x124 :: x125 :: x126 :: x127 :: x128 :: x129 :: x130 :: x131 :: x132 :: x133 :: x134 :: x135 :: x136 :: x137 :: x138 :: x139 :: x140 :: x141 :: x142 :: x143 :: x144 :: x145 :: x146 :: x147 :: x148 :: x149 :: x150 :: x151 :: x152 :: x153 :: x154 :: x155 :: x156 :: x157 :: x158 :: x159 :: x160 :: x161 :: x162 :: x163 :: x164 :: x165 :: x166 :: x167 :: x168 :: x169 :: x170 :: x171 :: x172 :: x173 :: x174 :: x175 :: x176 :: x177 :: x178 :: x179 :: x180 :: x181 :: x182 :: x183 :: x184 :: x185 :: x186 :: x187 :: x188 :: []), []⟩ :=
  ⟨fun i => (x13 :: x14 :: x15 :: x16 :: x17 :: x18 :: x19 :: x20 :: x21 :: x22 :: x23 :: x24 :: x25 :: x26 :: x27 :: x28 :: x29 :: x30 :: x31 :: x32 :: x33 :: x34 :: x35 :: x36 :: x37 :: x38 :: x39 :: x40 :: x41 :: x42 :: x43 :: x44 :: x45 :: x46 :: x47 :: x48 :: x49 :: x50 :: x51 :: x52 :: x53 :: x54 :: x55 :: x56 :: x57 :: x58 :: x59 :: x60 :: x61 :: x62 :: x63 :: x64 :: x65 :: x66 :: x67 :: x68 :: x69 :: x70 :: x71 :: x72 :: x73 :: x74 :: x75 :: x76 :: x77 :: x78 :: x79 :: x80 :: x81 :: x82 :: x83 :: x84 :: x85 :: x86 :: x87 :: x88 :: x89 :: x90 :: x91 :: x92 :: x93 :: x94 :: x95 :: x96 :: x97 :: x98 :: x99 :: x100 :: x101 :: x102 :: x103 :: x104 :: x105 :: x106 :: x107 :: x108 :: x109 :: x110 :: x111 :: x112 :: x113 :: x114 :: x115 :: x116 :: x117 :: x118 :: x119 :: x120 :: x121 :: x122 :: x123 :: x124 :: x125 :: x126 :: x127 :: x128 :: x129 :: x130 :: x131 :: x132 :: x133 :: x134 :: x135 :: x136 :: x137 :: x138 :: x139 :: x140 :: x141 :: x142 :: x143 :: x144 :: x145 :: x146 :: x147 :: x148 :: x149 :: x150 :: x151 :: x152 :: x153 :: x154 :: x155 :: x156 :: x157 :: x158 :: x159 :: x160 :: x161 :: x162 :: x163 :: x164 :: x165 :: x166 :: x167 :: x168 :: x169 :: x170 :: x171 :: x172 :: x173 :: x174 :: x175 :: x176 :: x177 :: x178 :: x179 :: x180 :: x181 :: x182 :: x183 :: x184 :: x185 :: x186 :: x187 :: x188 :: [] : List Value).getD (i - 13) undef, rfl⟩
end Go.Proofs.YtbcjeemjpcidhaaDoor

namespace Go.Proofs.YtbcjeemjpcidhaaDoor
open Go.RowKit

/-- The code behind a label, in the scope that a function's body is but for its first region. -/
def restOf (f : Func) (l : Nat) : Code := match f.body with
  | some (.seq _ (.scope c)) => match findLabel c l with
    | some (.seq .skip r) => r
    | _ => .skip
  | _ => .skip

/-- Three cells that may be written. -/
def Free3 (w : World) (b : Nat) : Prop := ∃ x0 x1 x2, (w.cell? ⟨b, 0, none⟩ = some x0 ∧ w.cell? ⟨b, 1, none⟩ = some x1 ∧ w.cell? ⟨b, 2, none⟩ = some x2) ∧ w.frozen? ⟨b, 0, none⟩ = false ∧ w.frozen? ⟨b, 1, none⟩ = false ∧ w.frozen? ⟨b, 2, none⟩ = false
theorem Free3.of (w : World) (x0 x1 x2 : Value) (t : TypeId) : Free3 (w.alloc (.cells #[x0, x1, x2] t)) w.heap.size := by
  refine ⟨x0, x1, x2, ⟨?_, ?_, ?_⟩, ?_, ?_, ?_⟩
  · rw [World.cell?_alloc_at _ _ _ _ rfl]; rfl
  · rw [World.cell?_alloc_at _ _ _ _ rfl]; rfl
  · rw [World.cell?_alloc_at _ _ _ _ rfl]; rfl
  · exact World.frozen?_alloc_at _ _ _ _ rfl
  · exact World.frozen?_alloc_at _ _ _ _ rfl
  · exact World.frozen?_alloc_at _ _ _ _ rfl
theorem Free3.fr {X : List Nat} {w w' : World} {b : Nat} (h : Free3 w b) (k : Fr X w w') (hb : b ∉ X) : Free3 w' b := by
  obtain ⟨x0, x1, x2, ⟨h0, h1, h2⟩, f0, f1, f2⟩ := h
  exact ⟨x0, x1, x2, ⟨k.cell h0 hb, k.cell h1 hb, k.cell h2 hb⟩, k.free h0 f0 hb, k.free h1 f1 hb, k.free h2 f2 hb⟩
theorem Free3.set {w : World} {b : Nat} (h : Free3 w b) (y0 y1 y2 : Value) : Free3 (((w.setCell ⟨b, 0, none⟩ y0).setCell ⟨b, 1, none⟩ y1).setCell ⟨b, 2, none⟩ y2) b ∧ Fr [b] w (((w.setCell ⟨b, 0, none⟩ y0).setCell ⟨b, 1, none⟩ y1).setCell ⟨b, 2, none⟩ y2) ∧
    (((w.setCell ⟨b, 0, none⟩ y0).setCell ⟨b, 1, none⟩ y1).setCell ⟨b, 2, none⟩ y2).cell? ⟨b, 0, none⟩ = some y0 ∧ (((w.setCell ⟨b, 0, none⟩ y0).setCell ⟨b, 1, none⟩ y1).setCell ⟨b, 2, none⟩ y2).cell? ⟨b, 1, none⟩ = some y1 ∧ (((w.setCell ⟨b, 0, none⟩ y0).setCell ⟨b, 1, none⟩ y1).setCell ⟨b, 2, none⟩ y2).cell? ⟨b, 2, none⟩ = some y2 := by
  obtain ⟨x0, x1, x2, ⟨h0, h1, h2⟩, f0, f1, f2⟩ := h
  have a1 : (w.setCell ⟨b, 0, none⟩ y0).cell? ⟨b, 1, none⟩ = some x1 := by rw [World.cell?_setCell_other _ _ _ _ (by simp)]; exact h1
  have a2 : (w.setCell ⟨b, 0, none⟩ y0).cell? ⟨b, 2, none⟩ = some x2 := by rw [World.cell?_setCell_other _ _ _ _ (by simp)]; exact h2
  have b2 : ((w.setCell ⟨b, 0, none⟩ y0).setCell ⟨b, 1, none⟩ y1).cell? ⟨b, 2, none⟩ = some x2 := by rw [World.cell?_setCell_other _ _ _ _ (by simp)]; exact a2
  have c0 : (((w.setCell ⟨b, 0, none⟩ y0).setCell ⟨b, 1, none⟩ y1).setCell ⟨b, 2, none⟩ y2).cell? ⟨b, 0, none⟩ = some y0 := by
    rw [World.cell?_setCell_other _ _ _ _ (by simp), World.cell?_setCell_other _ _ _ _ (by simp)]; exact World.cell?_setCell_same _ _ _ h0
  have c1 : (((w.setCell ⟨b, 0, none⟩ y0).setCell ⟨b, 1, none⟩ y1).setCell ⟨b, 2, none⟩ y2).cell? ⟨b, 1, none⟩ = some y1 := by
    rw [World.cell?_setCell_other _ _ _ _ (by simp)]; exact World.cell?_setCell_same _ _ _ a1
  have c2 := World.cell?_setCell_same ((w.setCell ⟨b, 0, none⟩ y0).setCell ⟨b, 1, none⟩ y1) ⟨b, 2, none⟩ y2 b2
  refine ⟨⟨y0, y1, y2, ⟨c0, c1, c2⟩, ?_, ?_, ?_⟩, ((Fr.set w ⟨b, 0, none⟩ y0).trans (Fr.set _ ⟨b, 1, none⟩ y1)).trans (Fr.set _ ⟨b, 2, none⟩ y2), c0, c1, c2⟩
  · rw [World.frozen?_setCell, World.frozen?_setCell, World.frozen?_setCell]; exact f0
  · rw [World.frozen?_setCell, World.frozen?_setCell, World.frozen?_setCell]; exact f1
  · rw [World.frozen?_setCell, World.frozen?_setCell, World.frozen?_setCell]; exact f2

/-- The memory of 'Roll' under way. -/
structure Mem19 (w0 w : World) (B br bp bm rm : Nat) (ini : Bool) (t0 t1 tl : Tv) (ts : List Tv) (p : Pt) : Prop where
  pat : PatO w B t0 t1 tl ts p.1.1 p.1.2 p.2
  at4 : At4 w bp ⟨#[]⟩ t0 t1 tl
  mv : Free3 w bm
  bk : BkIn w rm (backL ini)
  res : Free4 w br
  kp : Kp w0 w
  big : B ≤ w.heap.size
theorem Mem19.at0 {w0 w : World} {B br bp bm rm : Nat} {ini : Bool} {t0 t1 tl : Tv} {ts : List Tv} {p : Pt} (h : Mem19 w0 w B br bp bm rm ini t0 t1 tl ts p) : bp < w.heap.size := World.block_lt_of_cell? w _ h.at4.1.1
/-- How the blocks lie. -/
def Lay (w0 : World) (B br bp bm rm : Nat) : Prop := w0.heap.size ≤ br ∧ br < bp ∧ bp < bm ∧ bm < rm ∧ rm < B
section
variable {w0 w w' : World} {B br bp bm rm : Nat} {ini : Bool} {t0 t1 tl : Tv} {ts : List Tv} {p : Pt}
/-- The variable m is written over. -/
theorem Mem19.setm (h : Mem19 w0 w B br bp bm rm ini t0 t1 tl ts p) (hl : Lay w0 B br bp bm rm) (f : Fr [bm] w w') (hf : Free3 w' bm) : Mem19 w0 w' B br bp bm rm ini t0 t1 tl ts p := by
  obtain ⟨l0, l1, l2, l3, l4⟩ := hl
  refine ⟨h.pat.fr f (by simp; omega), h.at4.fr f (by simp; omega), hf, h.bk.fr f (by simp; omega), h.res.fr f (by simp; omega), ?_, Nat.le_trans h.big f.size⟩
  exact ((Fr.of_kp h.kp).step f (fun j hj => .inr (by simp at hj; omega))).kp
theorem Mem19.drawn (h : Mem19 w0 w B br bp bm rm ini t0 t1 tl ts p) (k : Kp w w') : Mem19 w0 w' B br bp bm rm ini t0 t1 tl ts p :=
  ⟨h.pat.kp k, h.at4.kp k, h.mv.fr (Fr.of_kp k) (by simp), h.bk.kp k, h.res.fr (Fr.of_kp k) (by simp), Kp.trans h.kp k, Nat.le_trans h.big k.size⟩
theorem Mem19.step {t0' t1' tl' : Tv} {ts' : List Tv} {p' : Pt} {X : List Nat} (h : Mem19 w0 w B br bp bm rm ini t0 t1 tl ts p) (hl : Lay w0 B br bp bm rm) (f : Fr X w w') (hX : ∀ x ∈ X, B ≤ x ∨ x = bp)
    (hp : PatO w' B t0' t1' tl' ts' p'.1.1 p'.1.2 p'.2) (ha : At4 w' bp ⟨#[]⟩ t0' t1' tl') : Mem19 w0 w' B br bp bm rm ini t0' t1' tl' ts' p' := by
  obtain ⟨l0, l1, l2, l3, l4⟩ := hl
  refine ⟨hp, ha, h.mv.fr f (fun hx => ?_), h.bk.fr f (fun hx => ?_), h.res.fr f (fun hx => ?_), ((Fr.of_kp h.kp).step f (fun j hj => .inr ?_)).kp, Nat.le_trans h.big f.size⟩
  · rcases hX _ hx with q | q <;> omega
  · rcases hX _ hx with q | q <;> omega
  · rcases hX _ hx with q | q <;> omega
  · rcases hX _ hj with q | q <;> omega
end
/-- The last message's list of tokens, in memory. -/
theorem PatO.last {w : World} {B : Nat} {t0 t1 tl : Tv} {ts : List Tv} {b0 b1 : List Int} {r : List Ln} {f : Int} {tok : List Int} (h : PatO w B t0 t1 tl ts b0 b1 (r ++ [(f, tok)])) :
    ∃ (g cl : Nat) (ts' : List Tv) (t : Tv), tl = ⟨some ⟨g, 0, none⟩, r.length + 1, cl⟩ ∧ ts = ts' ++ [t] ∧ ts'.length = r.length ∧ B ≤ g ∧ g < w.heap.size ∧ g ∉ blkL t.ao ∧ t.n = tok.length ∧ Own w B 3 1 t.ao t.n t.c (tok.map iv) ∧
      w.cell? ⟨g, r.length * 2 + 1, none⟩ = some (.slice t.ao t.n t.c) ∧ w.frozen? ⟨g, r.length * 2 + 1, none⟩ = false := by
  have hnl := h.nl
  simp only [List.length_append, List.length_cons, List.length_nil] at hnl
  have hlen := h.len
  simp only [List.length_append, List.length_cons, List.length_nil] at hlen
  obtain ⟨g, cur, hg, hb, _⟩ := h.ol.block (by omega)
  obtain ⟨ts', t, rfl⟩ : ∃ ts' t, ts = ts' ++ [t] := by
    rcases List.eq_nil_or_concat ts with q | ⟨ts', t, q⟩
    · rw [q] at hlen; simp at hlen
    · exact ⟨ts', t, by rw [q]; simp⟩
  simp only [List.length_append, List.length_cons, List.length_nil] at hlen
  have hl2 : ts'.length = r.length := by omega
  obtain ⟨ao, n, cl⟩ := tl
  simp only at hg hnl
  subst hg; subst hnl
  have ho := h.ot ts'.length t (f, tok) (by simp) (by rw [hl2]; simp)
  have hgl := h.ol.lt g rfl
  have hc := h.ol.cell (r.length * 2 + 1) (by simp only; omega)
  rw [(lnc_append (f, tok) t hl2 : lnc (r ++ [(f, tok)]) (ts' ++ [t]) = _), List.getElem?_append_right (by rw [lnc_length hl2]; omega), lnc_length hl2, show r.length * 2 + 1 - r.length * 2 = 1 by omega] at hc
  have h1 := ho.1
  simp at h1
  refine ⟨g, cl, ts', t, rfl, rfl, hl2, hb, hgl.2, fun hx => ?_, by omega, ho, hc, h.ol.free _⟩
  have := h.dj 2 (ts'.length + 3) g (by simp [blkL, blk]) (by simpa using hx)
  omega
end Go.Proofs.YtbcjeemjpcidhaaDoor

namespace Go.Proofs.YtbcjeemjpcidhaaDoor
open Go.RowKit

def initP : Pt := (([], []), [])
/-- What has been rolled up at a label, the first i moves taken. -/
def St19 (ini : Bool) (ms : List Mv) (l i : Nat) (from' : Int) (p : Pt) : Prop :=
  if l = 0 then i = ms.length ∧ ms.foldl (rollS ini) initP = p
  else if l = 1 then (ms.take i).foldl (rollS ini) initP = p ∧ p.2 = []
  else if l = 2 then (ms.take i).foldl (rollS ini) initP = (p.1, p.2 ++ [(from', [])]) ∧ p.2.length < i
  else if l = 3 then (ms.take i).foldl (rollS ini) initP = p ∧ ∃ (r : List Ln) (f : Int) (ts : List Int), p.2 = r ++ [(f, ts)] ∧ r.length < i ∧ ts.length ≤ i
  else False
theorem St19.zero {ini : Bool} {ms : List Mv} {i : Nat} {f : Int} {p : Pt} : St19 ini ms 0 i f p ↔ i = ms.length ∧ ms.foldl (rollS ini) initP = p := Iff.rfl
theorem St19.one {ini : Bool} {ms : List Mv} {i : Nat} {f : Int} {p : Pt} : St19 ini ms 1 i f p ↔ (ms.take i).foldl (rollS ini) initP = p ∧ p.2 = [] := Iff.rfl
theorem St19.two {ini : Bool} {ms : List Mv} {i : Nat} {f : Int} {p : Pt} : St19 ini ms 2 i f p ↔ (ms.take i).foldl (rollS ini) initP = (p.1, p.2 ++ [(f, [])]) ∧ p.2.length < i := Iff.rfl
theorem St19.three {ini : Bool} {ms : List Mv} {i : Nat} {f : Int} {p : Pt} : St19 ini ms 3 i f p ↔ (ms.take i).foldl (rollS ini) initP = p ∧ ∃ (r : List Ln) (f : Int) (ts : List Int), p.2 = r ++ [(f, ts)] ∧ r.length < i ∧ ts.length ≤ i := Iff.rfl
abbrev pv (b : Nat) : Value := .pointer (some ⟨b, 0, none⟩)
def J19 (w0 : World) (B br bp bm rm : Nat) (ini : Bool) (lo : Option Addr) (n c : Nat) (ms : List Mv) (l : Nat) (a : Act) (w : World) : Prop :=
  ∃ (i : Nat) (from' : Int) (t0 t1 tl : Tv) (ts : List Tv) (p : Pt), i ≤ n ∧ F19 (.slice lo n c) (.bool ini) undef undef (pv br) .nilIface (pv bp) (iv (sideOf ini)) (iv (1 - sideOf ini)) (iv (i : Int)) (iv from') (pv bm) (.map (some rm)) a ∧
    Mem19 w0 w B br bp bm rm ini t0 t1 tl ts p ∧ St19 ini ms l i from' p ∧ p.1.1.length ≤ i ∧ p.1.2.length ≤ i ∧ p.2.length ≤ i
def mu19 (n : Nat) (l : Nat) (a : Act) (_w : World) : Nat := if l = 0 then 0 else n + 1 - (intOf (a.tmps.getD 9 undef)).toNat
/-- What a pass may end in: a jump that lowers the measure. -/
def K19 (w0 : World) (B br bp bm rm : Nat) (ini : Bool) (lo : Option Addr) (n c : Nat) (ms : List Mv) (m : Nat) : Nat → Act → World → Prop := fun l a w => J19 w0 B br bp bm rm ini lo n c ms l a w ∧ mu19 n l a w < m
theorem F19.nine {a0 a1 a2 a3 a4 a5 a6 a7 a8 a9 a10 a11 a12 : Value} {a : Act} (h : F19 a0 a1 a2 a3 a4 a5 a6 a7 a8 a9 a10 a11 a12 a) : a.tmps.getD 9 undef = a9 := by
  obtain ⟨u, rfl⟩ := h; rfl
section
variable {w0 w : World} {B br bp bm rm : Nat} {ini : Bool} {lo : Option Addr} {n c : Nat} {ms : List Mv} {a : Act}
theorem K19.mk {l k : Nat} (i : Nat) {z from' : Int} {t0 t1 tl : Tv} {ts : List Tv} {p : Pt} (hz : z = (i : Int)) (hi : i ≤ n) (hf : F19 (.slice lo n c) (.bool ini) undef undef (pv br) .nilIface (pv bp) (iv (sideOf ini)) (iv (1 - sideOf ini)) (iv z) (iv from') (pv bm) (.map (some rm)) a)
    (hm : Mem19 w0 w B br bp bm rm ini t0 t1 tl ts p) (hs : St19 ini ms l i from' p) (h0 : p.1.1.length ≤ i) (h1 : p.1.2.length ≤ i) (h2 : p.2.length ≤ i) (hk : (l = 0 ∧ 0 < k) ∨ n + 1 - i < k) : K19 w0 B br bp bm rm ini lo n c ms k l a w := by
  subst hz
  refine ⟨⟨i, from', t0, t1, tl, ts, p, hi, hf, hm, hs, h0, h1, h2⟩, ?_⟩
  unfold mu19
  rw [hf.nine]
  rcases hk with ⟨rfl, hk⟩ | hk
  · exact hk
  · split
    · omega
    · simp [intOf]; exact hk
end
theorem take_fold {ms : List Mv} {ini : Bool} {i : Nat} (hi : i < ms.length) : (ms.take (i + 1)).foldl (rollS ini) initP = rollS ini ((ms.take i).foldl (rollS ini) initP) ms[i] := by
  rw [take_step ms i hi, List.foldl_append]; rfl
end Go.Proofs.YtbcjeemjpcidhaaDoor

namespace Go.Proofs.YtbcjeemjpcidhaaDoor
open Go.RowKit

section
variable {w0 w wa w2 : World} {B br bp bm rm : Nat} {ini : Bool} {ta ao2 : Option Addr} {tn tc N cap2 : Nat} {tt tl : Tv} {ts : List Tv} {b0 b1 : List Int} {ls : List Ln} {x : Int}
theorem Mem19.app0 (h : Mem19 w0 w B br bp bm rm ini ⟨ta, tn, tc⟩ tt tl ts ((b0, b1), ls)) (hl : Lay w0 B br bp bm rm) (k : Kp w wa) (ha : Appd wa w2 B 3 1 ta tc 1 N ((b0 ++ [x]).map iv) ao2 cap2) :
    Mem19 w0 (w2.setCell ⟨bp, 1, none⟩ (.slice ao2 N cap2)) B br bp bm rm ini ⟨ao2, N, cap2⟩ tt tl ts ((b0 ++ [x], b1), ls) := by
  obtain ⟨l0, l1, l2, l3, l4⟩ := id hl
  have hO := h.pat.o0
  have hbt : bp ∉ blkL ta := fun hx => by have := (hO.lt bp (mem_blkL.1 hx)).1; omega
  have f1 : Fr (blkL ta) w w2 := ((Fr.of_kp k).mono (by simp)).trans ha.fr
  have hset := Fr.set w2 ⟨bp, 1, none⟩ (.slice ao2 N cap2)
  have f2 : Fr (blkL ta ++ [bp]) w (w2.setCell ⟨bp, 1, none⟩ (.slice ao2 N cap2)) := (f1.mono (fun x hx => List.mem_append.2 (.inl hx))).trans (hset.mono (fun x hx => List.mem_append.2 (.inr hx)))
  have hX : ∀ x ∈ blkL ta ++ [bp], B ≤ x ∨ x = bp := fun x hx => by
    rcases List.mem_append.1 hx with q | q
    · exact .inl (hO.lt x (mem_blkL.1 q)).1
    · right; simpa using q
  exact h.step hl f2 hX (((h.pat.kp k).app0 (t0 := ⟨ta, tn, tc⟩) x ha).fr hset (by simp; omega)) ((h.at4.fr f1 hbt).set1 ⟨ao2, N, cap2⟩)
theorem Mem19.app1 (h : Mem19 w0 w B br bp bm rm ini tt ⟨ta, tn, tc⟩ tl ts ((b0, b1), ls)) (hl : Lay w0 B br bp bm rm) (k : Kp w wa) (ha : Appd wa w2 B 3 1 ta tc 1 N ((b1 ++ [x]).map iv) ao2 cap2) :
    Mem19 w0 (w2.setCell ⟨bp, 2, none⟩ (.slice ao2 N cap2)) B br bp bm rm ini tt ⟨ao2, N, cap2⟩ tl ts ((b0, b1 ++ [x]), ls) := by
  obtain ⟨l0, l1, l2, l3, l4⟩ := id hl
  have hO := h.pat.o1
  have hbt : bp ∉ blkL ta := fun hx => by have := (hO.lt bp (mem_blkL.1 hx)).1; omega
  have f1 : Fr (blkL ta) w w2 := ((Fr.of_kp k).mono (by simp)).trans ha.fr
  have hset := Fr.set w2 ⟨bp, 2, none⟩ (.slice ao2 N cap2)
  have f2 : Fr (blkL ta ++ [bp]) w (w2.setCell ⟨bp, 2, none⟩ (.slice ao2 N cap2)) := (f1.mono (fun x hx => List.mem_append.2 (.inl hx))).trans (hset.mono (fun x hx => List.mem_append.2 (.inr hx)))
  have hX : ∀ x ∈ blkL ta ++ [bp], B ≤ x ∨ x = bp := fun x hx => by
    rcases List.mem_append.1 hx with q | q
    · exact .inl (hO.lt x (mem_blkL.1 q)).1
    · right; simpa using q
  exact h.step hl f2 hX (((h.pat.kp k).app1 (t1 := ⟨ta, tn, tc⟩) x ha).fr hset (by simp; omega)) ((h.at4.fr f1 hbt).set2 ⟨ao2, N, cap2⟩)
end
end Go.Proofs.YtbcjeemjpcidhaaDoor

namespace Go.Proofs.YtbcjeemjpcidhaaDoor
open Go.RowKit

/-- Block rm is a map from moves to tokens: it says nothing wrong, and all that S says. -/
def Bk (w : World) (rm : Nat) (ini : Bool) (S : Mv → Prop) : Prop := ∃ D, BkIn w rm D ∧ (∀ m t, D m = some t → backL ini m = some t) ∧ ∀ m, S m → D m = backL ini m
theorem Bk.fr {w w' : World} {rm : Nat} {ini : Bool} {S : Mv → Prop} (h : Bk w rm ini S) {X : List Nat} (k : Fr X w w') (hr : rm ∉ X) : Bk w' rm ini S := by
  obtain ⟨D, h1, h2⟩ := h
  exact ⟨D, h1.fr k hr, h2⟩
theorem Bk.mono {w : World} {rm : Nat} {ini : Bool} {S S' : Mv → Prop} (h : Bk w rm ini S) (hs : ∀ m, S' m → S m) : Bk w rm ini S' := by
  obtain ⟨D, h1, h2, h3⟩ := h
  exact ⟨D, h1, h2, fun m hm => h3 m (hs m hm)⟩
theorem Bk.new (w : World) (clock : Nat) (ini : Bool) : Bk (w.alloc (.map #[] clock)) w.heap.size ini (fun _ => False) := ⟨fun _ => none, BkIn.new w clock, fun m t h => (by cases h), fun m h => h.elim⟩
theorem Bk.all {w : World} {rm : Nat} {ini : Bool} {S : Mv → Prop} (h : Bk w rm ini S) (hs : ∀ m, backL ini m ≠ none → S m) : BkIn w rm (backL ini) := by
  obtain ⟨D, h1, h2, h3⟩ := h
  refine h1.congr (fun m => ?_)
  cases hb : backL ini m with
  | some t => rw [← hb]; exact h3 m (hs m (by rw [hb]; simp))
  | none =>
    cases hd : D m with
    | none => rfl
    | some t => rw [h2 m t hd] at hb; cases hb
theorem Bk.lt {w : World} {rm : Nat} {ini : Bool} {S : Mv → Prop} (h : Bk w rm ini S) : rm < w.heap.size := by
  obtain ⟨D, h1, _⟩ := h; exact h1.lt
theorem Bk.put {w : World} {rm : Nat} {ini : Bool} {S : Mv → Prop} (h : Bk w rm ini S) (m : Mv) (t : Int) (hb : backL ini m = some t) :
    ∃ w', (Instr.mapUpdate 64 (.map (some rm)) (mvv m) (iv t)).run Tryd.prog w = .ok () w' ∧ Bk w' rm ini (fun x => S x ∨ x = m) ∧ Fr [rm] w w' := by
  obtain ⟨D, h1, h2, h3⟩ := h
  have hD : D m = none ∨ D m = some t := by
    cases hd : D m with
    | none => exact .inl rfl
    | some t' => right; have := h2 m t' hd; rw [hb] at this; rw [this]
  obtain ⟨w', r1, r2, r3⟩ := h1.put m t hD
  refine ⟨w', r1, ⟨_, r2, fun x t' hx => ?_, fun x hx => ?_⟩, r3⟩
  · unfold updD at hx
    split at hx
    · rename_i he; subst he; rw [hb]; exact hx
    · exact h2 x t' hx
  · unfold updD
    split
    · rename_i he; subst he; exact hb.symm
    · rename_i he
      rcases hx with q | q
      · exact h3 x q
      · exact absurd q he
theorem wp_bkput {w : World} {o : Oper} {a : Act} {Kc : Act → World → Prop} {Q : Exit → Act → World → Prop} (m x v : Operand) (hop : o.op = .mapUpdate 64 m x v ∨ o.op = .insert 64 m x v) {rm : Nat} {ini : Bool} {S : Mv → Prop} (hm : a.eval m = .map (some rm)) (h : Bk w rm ini S) (k : Mv) (t : Int) (hb : backL ini k = some t)
    (hx : a.eval x = mvv k) (hv : a.eval v = iv t) (hK : ∀ w', Bk w' rm ini (fun y => S y ∨ y = k) → Fr [rm] w w' → Kc (a.put o.dst undef) w') : o.wp Tryd.prog a w Kc Q := by
  obtain ⟨w', hrun, r1, r2⟩ := h.put k t hb
  unfold Oper.wp
  rcases hop with hop | hop
  · simp only [execOp, hop, hm, hx, hv, Sem.run_bind, hrun, Result.andThen_ok, Sem.run_pure]
    exact hK w' r1 r2
  · simp only [execOp, hop, hm, hx, hv, Sem.run_bind, hrun, Result.andThen_ok, Sem.run_pure]
    exact hK w' r1 r2
theorem wpList_bkput {w : World} {ops : Array Oper} {rest : List Oper} {o : Oper} {a : Act} {Q : Exit → Act → World → Prop} (hg : o.guard = none) (m x v : Operand) (hop : o.op = .mapUpdate 64 m x v) {rm : Nat} {ini : Bool} {S : Mv → Prop} (hm : a.eval m = .map (some rm)) (h : Bk w rm ini S) (k : Mv) (t : Int) (hb : backL ini k = some t)
    (hx : a.eval x = mvv k) (hv : a.eval v = iv t) (hK : ∀ w', Bk w' rm ini (fun y => S y ∨ y = k) → Fr [rm] w w' → wpList Tryd.prog ops Q rest (a.put o.dst undef) w') : wpList Tryd.prog ops Q (o :: rest) a w :=
  wpList_plain hg fun _ hK' => wp_bkput m x v (.inl hop) hm h k t hb hx hv fun w' h1 h2 => hK' _ _ (hK w' h1 h2)

/-- What stands behind a token's one move, if it is a secret. -/
theorem back_share (ini : Bool) (k : TK) (hk : k ∈ KK 2) (m : Mv) (hm : movesL ini k.1 k.2 = [m]) (h11 : m.op = 11) : backL ini m = some k.1 := by
  have hd : ∀ k ∈ KK 2, ∀ ini : Bool, (match movesL ini k.1 k.2 with | [m] => m.op ≠ 11 ∨ backL ini m = some k.1 | _ => True) := by
    intro k hk
    replace hk : k ∈ ([(7, true), (6, true), (5, true), (4, true), (3, true), (7, false), (6, false), (5, false), (4, false), (3, false), (1, true), (1, false), (2, true), (2, false)] : List TK) := hk
    simp only [List.mem_cons, List.not_mem_nil, or_false] at hk
    rcases hk with rfl | rfl | rfl | rfl | rfl | rfl | rfl | rfl | rfl | rfl | rfl | rfl | rfl | rfl <;> intro ini <;> cases ini <;> simp [movesL, wantI, wantR, backL]
  have := hd k hk ini
  rw [hm] at this
  rcases this with h | h
  · exact absurd h11 h
  · exact h
/-- The moves that stand in the map from its making on. -/
def five (m : Mv) : Prop := m = ⟨7, 1, 0⟩ ∨ m = ⟨8, 3, 0⟩ ∨ m = ⟨9, 2, 0⟩ ∨ m = ⟨10, 4, 0⟩ ∨ m = ⟨12, 0, 0⟩
theorem back_some (ini : Bool) (m : Mv) (h : backL ini m ≠ none) : five m ∨ ∃ k ∈ KK 2, movesL ini k.1 k.2 = [m] ∧ m.op = 11 := by
  by_cases h5 : five m
  · exact .inl h5
  · right
    have h4 : m = ⟨11, 1, 3⟩ ∨ m = ⟨11, 2, 4⟩ ∨ m = ⟨11, 1, 4⟩ ∨ m = ⟨11, 2, 3⟩ := by
      unfold backL at h
      unfold five at h5
      by_cases a : m = ⟨11, 1, 3⟩
      · exact .inl a
      · by_cases b : m = ⟨11, 2, 4⟩
        · exact .inr (.inl b)
        · by_cases c : m = ⟨11, 1, 4⟩
          · exact .inr (.inr (.inl c))
          · by_cases d : m = ⟨11, 2, 3⟩
            · exact .inr (.inr (.inr d))
            · exfalso; apply h
              rw [if_neg (fun q => h5 (by rcases q with q | q <;> simp [q])), if_neg (fun q => h5 (by rcases q with q | q <;> simp [q])), if_neg (fun q => h5 (by simp [q])), if_neg a, if_neg b, if_neg c, if_neg d]
    rcases h4 with rfl | rfl | rfl | rfl <;> cases ini
    · exact ⟨(3, true), by decide, rfl, rfl⟩
    · exact ⟨(3, true), by decide, rfl, rfl⟩
    · exact ⟨(6, true), by decide, rfl, rfl⟩
    · exact ⟨(6, true), by decide, rfl, rfl⟩
    · exact ⟨(5, true), by decide, rfl, rfl⟩
    · exact ⟨(4, true), by decide, rfl, rfl⟩
    · exact ⟨(4, true), by decide, rfl, rfl⟩
    · exact ⟨(5, true), by decide, rfl, rfl⟩

/-! ### The map's making -/
def got (l : Array Bool) (m : Mv) : Prop := (l.getD 2 true = true ∧ m = ⟨7, 1, 0⟩) ∨ (l.getD 4 true = true ∧ m = ⟨8, 3, 0⟩) ∨ (l.getD 6 true = true ∧ m = ⟨9, 2, 0⟩) ∨ (l.getD 8 true = true ∧ m = ⟨10, 4, 0⟩) ∨ (l.getD 10 true = true ∧ m = ⟨12, 0, 0⟩)
def Inv7 (a0 : Act) (w1 : World) (rm : Nat) (ini : Bool) (l : Array Bool) (a : Act) (w : World) : Prop := l.size = 13 ∧
  (l.getD 11 true = false → l.getD 12 true = false ∧ a = a0) ∧ (l.getD 11 true = true → (∀ i, i ∈ [2, 4, 6, 8, 10] → l.getD i true = true) ∧ a = (if l.getD 12 true then (a0.put (some 30) (.map (some rm))).put (some 12) (.map (some rm)) else a0.put (some 30) (.map (some rm)))) ∧
  Fr [rm] w1 w ∧ Bk w rm ini (got l) ∧ (∀ i, i ∈ [0, 1, 3, 5, 7, 9] → l.getD i true = true)
theorem got_set (l : Array Bool) (i : Nat) (hs : i < l.size) (hi : i ∉ [2, 4, 6, 8, 10]) (m : Mv) : got (l.setIfInBounds i true) m → got l m := by
  unfold got
  simp only [List.mem_cons, List.not_mem_nil, or_false, not_or] at hi
  rw [set_getD l i 2 hs, set_getD l i 4 hs, set_getD l i 6 hs, set_getD l i 8 hs, set_getD l i 10 hs, if_neg (Ne.symm hi.1), if_neg (Ne.symm hi.2.1), if_neg (Ne.symm hi.2.2.1), if_neg (Ne.symm hi.2.2.2.1), if_neg (Ne.symm hi.2.2.2.2)]
  exact id
theorem got_all (l : Array Bool) (h : ∀ i, i < 13 → l.getD i true = true) (m : Mv) : five m → got l m := by
  unfold got five
  rw [h 2 (by omega), h 4 (by omega), h 6 (by omega), h 8 (by omega), h 10 (by omega)]
  simp
end Go.Proofs.YtbcjeemjpcidhaaDoor

namespace Go.Proofs.YtbcjeemjpcidhaaDoor
open Go.RowKit

set_option maxRecDepth 100000 in
set_option maxHeartbeats 4000000 in
theorem roll_token (w0 : World) (B br bp bm rm : Nat) (hL : Lay w0 B br bp bm rm) (ini : Bool) (lo : Option Addr) (n c : Nat) (ms : List Mv) (hms : Mvs w0 lo n ms) (hn : n ≤ 1000) (Q : Exit → Act → World → Prop) (a : Act) (w : World)
    (hJ : J19 w0 B br bp bm rm ini lo n c ms 3 a w) : (restOf Tryd.f6 3).wp Tryd.prog (Exit.jumps (K19 w0 B br bp bm rm ini lo n c ms (mu19 n 3 a w)) Q) a w := by
  obtain ⟨i, from', t0, t1, tl, ts, p, hi, hF, hM, hS, h0, h1, h2⟩ := hJ
  have hmu : mu19 n 3 a w = n + 1 - i := by
    unfold mu19; rw [hF.nine]; simp [intOf]
  rw [hmu]
  obtain ⟨u, rfl⟩ := hF
  obtain ⟨hS, r, f, tok, hp, hr, htk⟩ := St19.three.1 hS
  have hml := hms.1
  conv => enter [2]; whnf
  by_cases hlt : i < n
  · obtain ⟨b, off, rfl, hc⟩ := (Kp.mvs hM.kp hms).at i hlt
    obtain ⟨c1, c2, c3⟩ := hc i hlt
    clear hc
    have Hf := Lib.hid (take_fold (ini := ini) (show i < ms.length by omega))
    generalize ms[i] = m at c1 c2 c3 Hf
    obtain ⟨x0, x1, x2, ⟨d0, d1, d2⟩, f0, f1, f2⟩ := hM.mv
    have hne : ((i : Int) == (n : Int)) = false := by simp; omega
    go_upto_region 28 with fail
    obtain ⟨hv, hFr, e0, e1, e2⟩ := Free3.set hM.mv (iv m.op) (iv m.key) (iv m.wth)
    have hM1 := hM.setm hL hFr hv
    clear c1 c2 c3 d0 d1 d2 f0 f1 f2 hv hFr hM
    generalize ((w.setCell ⟨bm, 0, none⟩ (iv m.op)).setCell ⟨bm, 1, none⟩ (iv m.key)).setCell ⟨bm, 2, none⟩ (iv m.wth) = w1 at *
    have HM := Lib.hid hM1
    by_cases h5 : m.op = 5
    · have g5 : (m.op == 5) = true := by simp [h5]
      have Hf2 := Lib.hid (show (ms.take (i + 1)).foldl (rollS ini) initP = (p.1, p.2 ++ [(sideOf ini, [])]) by rw [Hf.out, hS]; unfold rollS; rw [if_pos h5])
      clear hM1 hS h5
      go_wp2_with fail
      go_step3
      show K19 w0 B br bp bm rm ini _ n c ms (n + 1 - i) 2 _ _
      exact K19.mk (i + 1) rfl (by omega) (F19.of ..) HM.out (St19.two.2 ⟨Hf2.out, by rw [hp]; simp; omega⟩) (by omega) (by omega) (by omega) (.inr (by omega))
    · by_cases h6 : m.op = 6
      · have g5 : (m.op == 5) = false := by simp [h5]
        have g6 : (m.op == 6) = true := by simp [h6]
        have Hf2 := Lib.hid (show (ms.take (i + 1)).foldl (rollS ini) initP = (p.1, p.2 ++ [(1 - sideOf ini, [])]) by rw [Hf.out, hS]; unfold rollS; rw [if_neg h5, if_pos h6])
        clear hM1 hS h5 h6
        go_wp2_with fail
        go_step3
        show K19 w0 B br bp bm rm ini _ n c ms (n + 1 - i) 2 _ _
        exact K19.mk (i + 1) rfl (by omega) (F19.of ..) HM.out (St19.two.2 ⟨Hf2.out, by rw [hp]; simp; omega⟩) (by omega) (by omega) (by omega) (.inr (by omega))
      · have g5 : (m.op == 5) = false := by simp [h5]
        have g6 : (m.op == 6) = false := by simp [h6]
        have hroll : rollS ini p m = (match backL ini m with | some t => (p.1, addT p.2 t) | none => p) := by
          unfold rollS
          rw [if_neg h5, if_neg h6, if_neg (by rw [hp]; simp)]
          all_goals (cases backL ini m <;> rfl)
        have hget := hM1.bk.get m
        unfold mvv at hget
        cases hb : backL ini m with
        | none =>
          rw [hb] at hget hroll
          simp only [Option.getD_none, Option.isSome_none] at hget
          have Hf2 := Lib.hid (show (ms.take (i + 1)).foldl (rollS ini) initP = p by rw [Hf.out, hS, hroll])
          clear hroll hM1 h5 h6 hS
          go_wp2_with fail
          go_step3
          show K19 w0 B br bp bm rm ini _ n c ms (n + 1 - i) 3 _ _
          exact K19.mk (i + 1) rfl (by omega) (F19.of ..) HM.out (St19.three.2 ⟨Hf2.out, r, f, tok, hp, by omega, by omega⟩) (by omega) (by omega) (by omega) (.inr (by omega))
        | some t =>
          rw [hb] at hget hroll
          simp only [Option.getD_some, Option.isSome_some] at hget
          obtain ⟨⟨b0, b1⟩, ls⟩ := p
          simp only at hp
          subst hp
          have Hf2 := Lib.hid (show (ms.take (i + 1)).foldl (rollS ini) initP = ((b0, b1), r ++ [(f, tok ++ [t])]) by rw [Hf.out, hS, hroll]; simp only [addT_concat])
          obtain ⟨g, cl, ts', t', rfl, rfl, hlt', hBg, hgw, hgt, htn, hO, hcell, hfree⟩ := hM1.pat.last
          have y3 := hM1.at4.1.2.2.2
          unfold tvv at y3
          have hbp := hM1.at0
          obtain ⟨l0, l1, l2, l3, l4⟩ := hL
          clear hroll h5 h6 hS hb Hf
          obtain ⟨ta, tn, tc⟩ := t'
          simp only at hgt htn hO hcell y3
          have hkn := Kp.new w1 (.cells #[iv t] 3)
          have hby : (tn + 1) * 8 ≤ 140737488355328 := by omega
          have hBw : B ≤ (w1.alloc (.cells #[iv t] 3)).heap.size := by simp; omega
          have Htn := Lib.hid htn
          clear htn
          go_wp2_with (at_builtin; refine wpList_app rfl (.tmp 166) (.tmp 168) 25 rfl el22 B rfl (hO.keep hkn) rfl [iv t] rfl (Cs.new w1 [iv t] 3 (0, 0)) (by simp [Value.oneCell']) (tn + 1) rfl ((tok ++ [t]).map iv) (by simp) hby hBw ?_; intro ao2 cap2 w2 ha; have z0 := Fr.cell ha.fr (Kp.cell hkn hcell) hgt; have z1 := Fr.free ha.fr (Kp.cell hkn hcell) ((Fr.of_kp hkn).free hcell hfree (by simp)) hgt)
          go_step3
          have f1 : Fr (blkL ta) w1 w2 := ((Fr.of_kp hkn).mono (by simp)).trans ha.fr
          have f2 : Fr (blkL ta ++ [g]) w1 (w2.setCell ⟨g, r.length * 2 + 1, none⟩ (.slice ao2 (tn + 1) cap2)) := (f1.mono (fun x hx => List.mem_append.2 (.inl hx))).trans ((Fr.set w2 ⟨g, r.length * 2 + 1, none⟩ _).mono (fun x hx => List.mem_append.2 (.inr hx)))
          have hX : ∀ x ∈ blkL ta ++ [g], B ≤ x ∨ x = bp := fun x hx => by
            rcases List.mem_append.1 hx with q | q
            · exact .inl (hO.lt x (mem_blkL.1 q)).1
            · left; simp at q; omega
          have hM2 : Mem19 w0 (w2.setCell ⟨g, r.length * 2 + 1, none⟩ (.slice ao2 (tn + 1) cap2)) B br bp bm rm ini t0 t1 ⟨some ⟨g, 0, none⟩, r.length + 1, cl⟩ (ts' ++ [⟨ao2, tn + 1, cap2⟩]) ((b0, b1), r ++ [(f, tok ++ [t])]) :=
            hM1.step ⟨l0, l1, l2, l3, l4⟩ f2 hX (PatO.appt (hM1.pat.kp hkn) t ha) (hM1.at4.fr f2 (fun hx => by
              rcases List.mem_append.1 hx with q | q
              · have := (hO.lt bp (mem_blkL.1 q)).1; omega
              · simp at q; omega))
          show K19 w0 B br bp bm rm ini _ n c ms (n + 1 - i) 3 _ _
          exact K19.mk (i + 1) rfl (by omega) (F19.of ..) hM2 (St19.three.2 ⟨Hf2.out, r, f, tok ++ [t], rfl, by omega, by simp; omega⟩) (by simp only; omega) (by simp only; omega) (by simp only [List.length_append, List.length_cons, List.length_nil] at h2 ⊢; omega) (.inr (by omega))
  · have heq : ((i : Int) == (n : Int)) = true := by simp; omega
    obtain rfl : i = n := by omega
    have Hf := Lib.hid (show ms.foldl (rollS ini) initP = p by rw [← hS, List.take_of_length_le (by omega)])
    go_wp2_with fail
    go_step3
    show K19 w0 B br bp bm rm ini _ i c ms (i + 1 - i) 0 _ _
    exact K19.mk i rfl (by omega) (F19.of ..) hM (St19.zero.2 ⟨hml.symm, Hf.out⟩) (by omega) (by omega) (by omega) (.inl ⟨rfl, by omega⟩)
end Go.Proofs.YtbcjeemjpcidhaaDoor

namespace Go.Proofs.YtbcjeemjpcidhaaDoor
open Go.RowKit

theorem jumps_rest {J J' : Nat → Act → World → Prop} {Q : Exit → Act → World → Prop} {c : Code} {a : Act} {w : World} (h : c.wp Tryd.prog (Exit.jumps J Q) a w) (hJ : ∀ l a w, J l a w → J' l a w) : c.wp Tryd.prog (Exit.jumps J' Q) a w := Code.wp_mono (jumps_mono hJ) h

set_option maxRecDepth 100000 in
set_option maxHeartbeats 4000000 in
theorem roll_message (w0 : World) (B br bp bm rm : Nat) (hL : Lay w0 B br bp bm rm) (ini : Bool) (lo : Option Addr) (n c : Nat) (ms : List Mv) (hms : Mvs w0 lo n ms) (hn : n ≤ 1000) (Q : Exit → Act → World → Prop) (a : Act) (w : World)
    (hJ : J19 w0 B br bp bm rm ini lo n c ms 2 a w) : (restOf Tryd.f6 2).wp Tryd.prog (Exit.jumps (K19 w0 B br bp bm rm ini lo n c ms (mu19 n 2 a w)) Q) a w := by
  obtain ⟨i, from', t0, t1, tl, ts, p, hi, hF, hM, hS, h0, h1, h2⟩ := hJ
  have hmu : mu19 n 2 a w = n + 1 - i := by
    unfold mu19; rw [hF.nine]; simp [intOf]
  rw [hmu]
  obtain ⟨u, rfl⟩ := hF
  obtain ⟨hS, hr⟩ := St19.two.1 hS
  have Hml := Lib.hid hms.1
  have HT := Lib.hid (fun a' w' i' (hi' : i' = i) (h : mu19 n 3 a' w' = n + 1 - i') (hJ : J19 w0 B br bp bm rm ini lo n c ms 3 a' w') => by
    have := roll_token w0 B br bp bm rm hL ini lo n c ms hms hn Q a' w' hJ
    rw [h, hi'] at this; exact this)
  conv => enter [2]; whnf
  obtain ⟨⟨b0, b1⟩, ls⟩ := p
  have hp := hM.pat
  have hnl := hp.nl
  obtain ⟨ta, tn, tc⟩ := tl
  have hO := hp.ol
  simp only at hnl hO hr h0 h1 h2
  have hby : (tn + 1) * 32 ≤ 140737488355328 := by omega
  obtain ⟨⟨y0, y1, y2, y3⟩, q1, q2, q3⟩ := hM.at4
  unfold tvv at y3
  simp only at y3
  have hbp := hM.at0
  obtain ⟨l0, l1, l2, l3, l4⟩ := id hL
  have hkn := Kp.new w (.cells #[iv from', .slice none 0 0] 60)
  have hBw : B ≤ (w.alloc (.cells #[iv from', .slice none 0 0] 60)).heap.size := Nat.le_trans hM.big hkn.size
  have hbt : bp ∉ blkL ta := fun hx => by have := (hO.lt bp (mem_blkL.1 hx)).1; omega
  have Hnl := Lib.hid hnl
  clear hnl
  go_wp2_with (at_builtin; refine wpList_app rfl (.tmp 122) (.tmp 125) 27 rfl el24 B rfl (hO.keep hkn) rfl [iv from', .slice none 0 0] rfl (Cs.new w [iv from', .slice none 0 0] 60 (0, 0)) (by simp [Value.oneCell']) (tn + 1) rfl (lnc (ls ++ [(from', [])]) (ts ++ [nilT])) (lnc_append _ _ hp.len) hby hBw ?_; intro ao2 cap2 w2 ha; have z0 := Fr.cell ha.fr (Kp.cell hkn y3) hbt; have z1 := Fr.free ha.fr (Kp.cell hkn y3) ((Fr.of_kp hkn).free y3 q3 (by simp)) hbt)
  go_step3
  rename_i hK
  refine hK _ _ ?_
  clear hK
  have f1 : Fr (blkL ta) w w2 := ((Fr.of_kp hkn).mono (by simp)).trans ha.fr
  have hPat := PatO.appl (hp.kp hkn) from' ha
  have hset := Fr.set w2 ⟨bp, 3, none⟩ (.slice ao2 (tn + 1) cap2)
  have f2 : Fr (blkL ta ++ [bp]) w (w2.setCell ⟨bp, 3, none⟩ (.slice ao2 (tn + 1) cap2)) := (f1.mono (fun x hx => List.mem_append.2 (.inl hx))).trans (hset.mono (fun x hx => List.mem_append.2 (.inr hx)))
  have hX : ∀ x ∈ blkL ta ++ [bp], B ≤ x ∨ x = bp := fun x hx => by
    rcases List.mem_append.1 hx with q | q
    · exact .inl (hO.lt x (mem_blkL.1 q)).1
    · right; simpa using q
  have hA2 : At4 w2 bp ⟨#[]⟩ t0 t1 ⟨ta, tn, tc⟩ := hM.at4.fr f1 hbt
  have hM2 : Mem19 w0 (w2.setCell ⟨bp, 3, none⟩ (.slice ao2 (tn + 1) cap2)) B br bp bm rm ini t0 t1 ⟨ao2, tn + 1, cap2⟩ (ts ++ [nilT]) ((b0, b1), ls ++ [(from', [])]) :=
    hM.step hL f2 hX (hPat.fr hset (by simp; omega)) (hA2.set3 ⟨ao2, tn + 1, cap2⟩)
  refine HT.out _ _ i rfl ?_ ⟨i, from', t0, t1, ⟨ao2, tn + 1, cap2⟩, ts ++ [nilT], ((b0, b1), ls ++ [(from', [])]), hi, F19.of .., hM2, St19.three.2 ⟨hS, ls, from', [], rfl, hr, by simp⟩, h0, h1, by simp; omega⟩
  unfold mu19; rw [F19.nine (F19.of ..)]; simp [intOf]
end Go.Proofs.YtbcjeemjpcidhaaDoor
