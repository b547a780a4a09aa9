/- Parts of the walks and plain laws, merged: Has, Row, Plan, Lists, Equal, RefParts, Same, Large, LargeB, Split, Tokens, RowsOf, RowLaw. Each theorem bears its own conditions; no other. -/
import Derived.Test.YtpemfmjplejdiaaDoorMoves
import Derived.Deep.QuietTactic
import Derived.BigQuiet
namespace Go.Proofs.YtpemfmjplejdiaaDoor
open Go.RowKit

def IdxPost (w : World) (xs : List Int) (x : Int) (e : Ending) (w' : World) : Prop := w = w' ∧ ∃ z : Int, e = .returned (iv z) ∧ decide (0 ≤ z) = xs.contains x

set_option maxHeartbeats 1000000 in
theorem index_any (w : World) (ao : Option Addr) (n c : Nat) (xs : List Int) (x : Int) (hx : Is w ao n xs) : Calls Tryd.prog 40 #[.slice ao n c, iv x] w (IdxPost w xs x) := by
  have hn := hx.2.1
  unfold maxLen at hn
  have Hl := Lib.hid hx.1
  go_enter Tryd.func40, Tryd.ntmps40
  go_wp2_with fail
  go_loop [8] (fun i => ∃ k : Nat, k ≤ n ∧ i = .int .i64 k ∧ ∀ j (h : j < xs.length), j < k → xs[j] ≠ x) (fun i => n - (intOf i).toNat)
  case atStart => exact ⟨0, by omega, rfl, by omega⟩
  case round =>
    obtain ⟨k, hk, rfl, hno⟩ := hrel
    have Hno := Lib.hid hno; clear hno
    by_cases hlt : k < n
    · obtain ⟨b, off, rfl, _, hc⟩ := hx.at k hlt
      have hck := hc k hlt
      have hkl : k < xs.length := by rw [Hl.out]; exact hlt
      obtain ⟨y, hy⟩ : ∃ y, y = xs[k] := ⟨_, rfl⟩
      rw [← hy] at hck
      have Hy := Lib.hid hy; clear hy hc
      by_cases hxy : x = y
      · have hb : (x == y) = true := by simp [hxy]
        have hpost : IdxPost w xs x (.returned (iv k)) w := ⟨rfl, k, rfl, by
          have : x ∈ xs := by rw [hxy, Hy.out]; exact List.getElem_mem _
          simp [this]⟩
        have Hpost := Lib.hid hpost; clear hpost hxy
        go_wp2_with fail
        go_ret
        exact Hpost.out
      · have hb : (x == y) = false := by simpa using hxy
        have hxy' : y ≠ x := fun h => hxy h.symm
        have Hxy := Lib.hid hxy'; clear hxy hxy'
        go_wp2_with fail
        go_round
        case rel =>
          refine ⟨k + 1, by omega, by go_num, fun j h hj => ?_⟩
          rcases Nat.lt_or_ge j k with g | g
          · exact Hno.out j h g
          · obtain rfl : j = k := by omega
            rw [← Hy.out]; exact Hxy.out
        case measure => simp [intOf]; omega
    · have hpost : IdxPost w xs x (.returned (iv (-1))) w := ⟨rfl, -1, rfl, by
        have : x ∉ xs := fun hm => by
          obtain ⟨j, hj, rfl⟩ := List.getElem_of_mem hm
          exact Hno.out j hj (by have := Hl.out; omega) rfl
        simp [this]⟩
      have Hpost := Lib.hid hpost; clear hpost
      go_wp2_with fail
      go_ret
      exact Hpost.out

/-- Does it stand in the list? -/
def inL (l : List Int) (x : Int) : Bool := l.contains x
theorem contains_any (w : World) (ao : Option Addr) (n c : Nat) (xs : List Int) (x : Int) (hx : Is w ao n xs) : Calls Tryd.prog 24 #[.slice ao n c, iv x] w fun e w' => e = .returned (.bool (inL xs x)) ∧ w = w' := by
  go_enter Tryd.func24, Tryd.ntmps24
  go_wp2_with fail
  (with_reducible refine (index_any w ao n c xs x hx).mono ?_)
  rintro e w1 ⟨rfl, z, rfl, hz⟩
  have Hz := Lib.hid hz; clear hz
  go_wp2_with fail
  go_ret
  exact ⟨by unfold inL; rw [← Hz.out]; rfl, rfl⟩

def hasL (ls : List Ln) (side tok : Int) : Bool := ls.any fun l => (decide (side < 0) || l.1 == side) && inL l.2 tok
theorem hasL_at (ls : List Ln) (side tok : Int) (k : Nat) (h : k < ls.length) : hasL (ls.drop k) side tok = (((decide (side < 0) || ls[k].1 == side) && inL ls[k].2 tok) || hasL (ls.drop (k + 1)) side tok) := by
  unfold hasL
  rw [drop_cons ls k h, List.any_cons]

set_option maxRecDepth 100000 in
set_option maxHeartbeats 2000000 in
theorem has_any (w : World) (nm : ByteArray) (a0 a1 al : Option Addr) (n0 c0 n1 c1 nl cl : Nat) (ls : List Ln) (side tok : Int) (hl : Lns w al nl ls) :
    Calls Tryd.prog 23 #[.agg #[.string nm, .slice a0 n0 c0, .slice a1 n1 c1, .slice al nl cl], iv side, iv tok] w fun e w' => e = .returned (.bool (hasL ls side tok)) ∧ Kp w w' := by
  have hnl := hl.2.1
  have Hll := Lib.hid hl.1
  go_enter Tryd.func23, Tryd.ntmps23
  go_wp2_with fail
  have hk0 := Kp.new w (.cells #[.string nm, .slice a0 n0 c0, .slice a1 n1 c1, .slice al nl cl] 26)
  generalize w.alloc (.cells #[.string nm, .slice a0 n0 c0, .slice a1 n1 c1, .slice al nl cl] 26) = wb at *
  go_loopw [12] (fun i wr => ∃ k : Nat, k ≤ nl ∧ i = .int .i64 k ∧ Kp w wr ∧ hasL ls side tok = hasL (ls.drop k) side tok) (fun i _ => nl - (intOf i).toNat)
  case atStart => exact ⟨0, by omega, rfl, hk0, rfl⟩
  case round =>
    clear hk0
    obtain ⟨k, hk, rfl, hkk, hrun⟩ := hrel
    have Hrun := Lib.hid hrun; clear hrun
    by_cases hlt : k < nl
    · have hkl : k < ls.length := by rw [Hll.out]; exact hlt
      obtain ⟨b, off, tp, tn, tc, rfl, hc1, hc2, hI, htn⟩ := hl.2.2 k hkl
      have hc1 := Kp.cell hkk hc1
      have hc2 := Kp.cell hkk hc2
      have hat := hasL_at ls side tok k hkl
      obtain ⟨f, ts, hft⟩ : ∃ f ts, ls[k] = (f, ts) := ⟨_, _, rfl⟩
      rw [hft] at hc1 hI hat
      have hI : Is w tp tn ts := hI
      have hc1 : wr.cell? ⟨b, off + k * 2, none⟩ = some (iv f) := hc1
      have Hat := Lib.hid hat; clear hat hft
      have hkn := Kp.trans hkk (Kp.new wr (.cells #[iv f, .slice tp tn tc] 53))
      have hIn := Kp.is hkn hI
      by_cases hsel : (decide (side < 0) || f == side) = true
      · have hq : ∀ q : Bool, (decide (side < 0) || f == side) = q → q = true → True := fun _ _ _ => trivial
        clear hq
        cases hcc : inL ts tok with
        | true =>
          have HF := Lib.hid (show hasL ls side tok = true by rw [Hrun.out, Hat.out]; simp only [hsel, hcc]; rfl)
          by_cases hs0 : side < 0
          · clear hsel
            go_wp2_with fail
            (with_reducible refine (contains_any _ tp tn tc ts tok hIn).mono ?_)
            rintro e w2 ⟨rfl, rfl⟩
            rw [hcc]; clear hcc
            go_wp2_with fail
            go_ret
            exact ⟨by rw [HF.out]; rfl, hkn⟩
          · have hfs : (f == side) = true := by simpa [hs0] using hsel
            clear hsel
            go_wp2_with fail
            (with_reducible refine (contains_any _ tp tn tc ts tok hIn).mono ?_)
            rintro e w2 ⟨rfl, rfl⟩
            rw [hcc]; clear hcc
            go_wp2_with fail
            go_ret
            exact ⟨by rw [HF.out]; rfl, hkn⟩
        | false =>
          have HF := Lib.hid (show hasL ls side tok = hasL (ls.drop (k + 1)) side tok by rw [Hrun.out, Hat.out]; simp only [hsel, hcc]; rfl)
          by_cases hs0 : side < 0
          · clear hsel
            go_wp2_with fail
            (with_reducible refine (contains_any _ tp tn tc ts tok hIn).mono ?_)
            rintro e w2 ⟨rfl, rfl⟩
            rw [hcc]; clear hcc
            go_wp2_with fail
            go_roundw
            case rel => exact ⟨k + 1, by omega, by go_num, hkn, HF.out⟩
            case measure => simp [intOf]; omega
          · have hfs : (f == side) = true := by simpa [hs0] using hsel
            clear hsel
            go_wp2_with fail
            (with_reducible refine (contains_any _ tp tn tc ts tok hIn).mono ?_)
            rintro e w2 ⟨rfl, rfl⟩
            rw [hcc]; clear hcc
            go_wp2_with fail
            go_roundw
            case rel => exact ⟨k + 1, by omega, by go_num, hkn, HF.out⟩
            case measure => simp [intOf]; omega
      · have hself : (decide (side < 0) || f == side) = false := by simpa using hsel
        have HF := Lib.hid (show hasL ls side tok = hasL (ls.drop (k + 1)) side tok by rw [Hrun.out, Hat.out, hself]; rfl)
        simp only [Bool.or_eq_false_iff, decide_eq_false_iff_not] at hself
        obtain ⟨hs0, hfs⟩ := hself
        clear hsel
        go_wp2_with fail
        go_roundw
        case rel => exact ⟨k + 1, by omega, by go_num, hkn, HF.out⟩
        case measure => simp [intOf]; omega
    · have HF := Lib.hid (show hasL ls side tok = false by rw [Hrun.out, List.drop_of_length_le (by rw [Hll.out]; omega)]; rfl)
      go_wp2_with fail
      go_ret
      exact ⟨by rw [HF.out]; rfl, hkk⟩
end Go.Proofs.YtpemfmjplejdiaaDoor

namespace Go.Proofs.YtpemfmjplejdiaaDoor
open Go.RowKit

theorem el30 : El Tryd.prog 30 42 (.agg #[iv 0, iv 0, iv 0]) 3 24 := ⟨Tryd.underlying30, by kernel_rfl, rfl, by decide, by decide⟩
theorem el22' : El Tryd.prog 22 3 (.int .i64 0) 1 8 := el22
/-- A row of moves of the call's own, all its blocks from B on. -/
def MvO (w : World) (B : Nat) (ao : Option Addr) (n cap : Nat) (ms : List Mv) : Prop := Own w B 42 3 ao n cap (ms.flatMap mvc) ∧ ms.length = n
theorem MvO.nil (w : World) (B : Nat) : MvO w B none 0 0 [] := ⟨Own.nil _ _ _ _, rfl⟩
theorem MvO.mvs {w : World} {B : Nat} {ao : Option Addr} {n cap : Nat} {ms : List Mv} (h : MvO w B ao n cap ms) : Mvs w ao n ms := by
  refine ⟨h.2, ?_, h.1.cs⟩
  rcases h.1.2 with ⟨_, hn⟩ | ⟨g, cap', cur, hv, _, _, h1, h2, _⟩
  · omega
  · exact Nat.le_trans h1 h2
theorem MvO.keep {w w' : World} {B : Nat} {ao : Option Addr} {n cap : Nat} {ms : List Mv} (h : MvO w B ao n cap ms) (k : Kp w w') : MvO w' B ao n cap ms := ⟨h.1.keep k, h.2⟩
theorem MvO.lt {w : World} {B : Nat} {ao : Option Addr} {n cap : Nat} {ms : List Mv} (h : MvO w B ao n cap ms) : ∀ j ∈ blkL ao, B ≤ j ∧ j < w.heap.size := fun j hj => h.1.lt j (mem_blkL.1 hj)
theorem mvc_one (ms : List Mv) : ∀ u ∈ ms.flatMap mvc, u.oneCell' = true := by
  intro u hu
  obtain ⟨m, _, hm⟩ := List.mem_flatMap.1 hu
  simp only [mvc, List.mem_cons, List.not_mem_nil, or_false] at hm
  rcases hm with rfl | rfl | rfl <;> rfl

/-- What an append of moves leaves. -/
structure MvA (w w' : World) (B : Nat) (ao : Option Addr) (N : Nat) (ms : List Mv) (ao' : Option Addr) (cap' : Nat) : Prop where
  own : MvO w' B ao' N cap' ms
  fr : Fr (blkL ao) w w'
  new : ∀ j ∈ blkL ao', j ∈ blkL ao ∨ w.heap.size ≤ j

/-- 'append(l, m...)'. -/
theorem wpList_mvs {w : World} {ops : Array Oper} {rest : List Oper} {o : Oper} {a : Act} {Q : Exit → Act → World → Prop} (hgd : o.guard = none) (s x : Operand)
    (ho : o.op = .call { callee := .builtin .append, args := #[s, x], argTypes := #[30, 30] }) {B : Nat} {ao : Option Addr} {n cap : Nat} {ms : List Mv} (hs : a.eval s = .slice ao n cap) (hO : MvO w B ao n cap ms)
    {bo : Option Addr} {m c : Nat} (hx : a.eval x = .slice bo m c) (news : List Mv) (hm : Mvs w bo m news) (N : Nat) (hN : N = n + m) (hsm : N ≤ 1000000) (hB : B ≤ w.heap.size)
    (h : ∀ ao' cap' w', MvA w w' B ao N (ms ++ news) ao' cap' → wpList Tryd.prog ops Q rest (a.put o.dst (.slice ao' N cap')) w') : wpList Tryd.prog ops Q (o :: rest) a w :=
  wpList_app hgd s x 30 ho el30 B hs hO.1 hx (news.flatMap mvc) (by rw [mvc_length, hm.1]) hm.2.2 (mvc_one _) N hN ((ms ++ news).flatMap mvc) (by simp) (by omega) hB fun ao' cap' w' ha =>
    h ao' cap' w' ⟨⟨ha.own, by rw [List.length_append, hO.2, hm.1, hN]⟩, ha.fr, fun j hj => by rcases ha.fresh j (mem_blkL.1 hj) with h | h; exact .inl (mem_blkL.2 h); exact .inr (by omega)⟩
/-- 'append(l, move)', the move in a new block. -/
theorem wpList_mv1 {w : World} {ops : Array Oper} {rest : List Oper} {o : Oper} {a : Act} {Q : Exit → Act → World → Prop} (hgd : o.guard = none) (s x : Operand)
    (ho : o.op = .call { callee := .builtin .append, args := #[s, x], argTypes := #[30, 30] }) {B : Nat} {ao : Option Addr} {n cap : Nat} {ms : List Mv} (hs : a.eval s = .slice ao n cap) (hO : MvO w B ao n cap ms) (m : Mv)
    {b : Nat} (hx : a.eval x = .slice (some ⟨b, 0, none⟩) 1 1) (hb : b = w.heap.size) (hsm : n + 1 ≤ 1000000) (hB : B ≤ w.heap.size)
    (h : ∀ ao' cap' w', MvA w w' B ao (n + 1) (ms ++ [m]) ao' cap' → wpList Tryd.prog ops Q rest (a.put o.dst (.slice ao' (n + 1) cap')) w') : wpList Tryd.prog ops Q (o :: rest) a (w.alloc (.cells #[iv m.op, iv m.key, iv m.wth] 42)) := by
  subst hb
  have hk := Kp.new w (.cells #[iv m.op, iv m.key, iv m.wth] 42)
  refine wpList_mvs hgd s x ho hs (hO.keep hk) hx [m] ⟨rfl, by unfold maxLen; omega, Cs.new w [iv m.op, iv m.key, iv m.wth] 42 (0, 0)⟩ (n + 1) rfl hsm (Nat.le_trans hB hk.size) fun ao' cap' w' ha => h ao' cap' w' ⟨ha.own, ((Fr.of_kp hk).mono (by simp)).trans ha.fr, fun j hj => ?_⟩
  rcases ha.new j hj with h1 | h1
  · exact .inl h1
  · exact .inr (Nat.le_trans hk.size h1)

theorem MvA.trans {a b c : World} {B N N2 : Nat} {ao ao1 ao2 : Option Addr} {c1 c2 : Nat} {ms ms2 : List Mv} (h : MvA a b B ao N ms ao1 c1) (k : MvA b c B ao1 N2 ms2 ao2 c2) : MvA a c B ao N2 ms2 ao2 c2 := by
  have hs := h.fr.size
  refine ⟨k.own, h.fr.step k.fr h.new, fun j hj => ?_⟩
  rcases k.new j hj with h1 | h1
  · exact h.new j h1
  · exact .inr (Nat.le_trans hs h1)
theorem MvA.refl {a : World} {B N cap : Nat} {ao : Option Addr} {ms : List Mv} (h : MvO a B ao N cap ms) : MvA a a B ao N ms ao cap := ⟨h, Fr.refl _ _, fun _ hj => .inl hj⟩
theorem Fr.mvs {X : List Nat} {w w' : World} (h : Fr X w w') {ao : Option Addr} {n : Nat} {ms : List Mv} (hx : Mvs w ao n ms) (hX : ∀ k ∈ blkL ao, k ∉ X) : Mvs w' ao n ms := ⟨hx.1, hx.2.1, h.cs hx.2.2 hX⟩
def RowPost (w : World) (B : Nat) (ao : Option Addr) (N : Nat) (ms : List Mv) (e : Ending) (w' : World) : Prop := ∃ ao' cap', e = .returned (.slice ao' N cap') ∧ MvA w w' B ao N ms ao' cap'

set_option maxRecDepth 100000 in
set_option maxHeartbeats 2000000 in
/-- 'row(l, x, y)'. -/
theorem row_any (w : World) (B : Nat) (hB : B ≤ w.heap.size) (ao xo yo : Option Addr) (n cap xn xc yn yc : Nat) (ms xs ys : List Mv) (hO : MvO w B ao n cap ms) (g : Nat) (hg0 : w.cell? ⟨g, 0, none⟩ = some (.slice xo xn xc)) (hg1 : w.cell? ⟨g, 1, none⟩ = some (.slice yo yn yc))
    (hgn : g ∉ blkL ao) (hx : Mvs w xo xn xs) (hy : Mvs w yo yn ys) (hya : ∀ j ∈ blkL yo, j ∉ blkL ao) (hsm : n + xn + yn ≤ 1000000) :
    Calls Tryd.prog 26 #[.slice ao n cap, .slice (some ⟨g, 0, none⟩) 2 2] w (RowPost w B ao (n + xn + yn) (ms ++ xs ++ ys)) := by
  have hgl : g < w.heap.size := World.block_lt_of_cell? w _ hg0
  go_enter Tryd.func26, Tryd.ntmps26
  go_wp2_with fail
  go_loopw [0, 9] (fun l i wr => ∃ k N ao1 cap1, k ≤ 2 ∧ i = .int .i64 (k : Nat) ∧ l = .slice ao1 N cap1 ∧ (k = 0 → w = wr ∧ N = n ∧ MvA w wr B ao N ms ao1 cap1) ∧ (k = 1 → N = n + xn ∧ MvA w wr B ao N (ms ++ xs) ao1 cap1) ∧ (k = 2 → N = n + xn + yn ∧ MvA w wr B ao N (ms ++ xs ++ ys) ao1 cap1)) (fun _ i _ => 2 - (intOf i).toNat)
  case atStart => exact ⟨0, n, ao, cap, by omega, rfl, rfl, fun _ => ⟨rfl, rfl, MvA.refl hO⟩, by omega, by omega⟩
  case round =>
    obtain ⟨k, N, ao1, cap1, hk, rfl, rfl, r0, r1, r2⟩ := hrel
    rcases (show k = 0 ∨ k = 1 ∨ k = 2 by omega) with rfl | rfl | rfl
    · obtain ⟨rfl, rfl, hA⟩ := r0 rfl
      clear r0 r1 r2
      go_wp2_with (at_builtin; refine wpList_mvs rfl (.tmp 13) (.tmp 14) rfl rfl hA.own rfl xs hx (N + xn) rfl (by omega) hB ?_; intro ao2 cap2 w2 ha)
      have hA2 := hA.trans ha
      go_roundw
      case rel => exact ⟨1, N + xn, ao2, cap2, by omega, rfl, rfl, by omega, fun _ => ⟨rfl, hA2⟩, by omega⟩
      case measure => simp [intOf]
    · obtain ⟨rfl, hA⟩ := r1 rfl
      have c1 := hA.fr.cell hg1 hgn
      have hy1 := hA.fr.mvs hy hya
      have hsz := hA.fr.size
      clear r0 r1 r2
      go_wp2_with (at_builtin; refine wpList_mvs rfl (.tmp 13) (.tmp 14) rfl rfl hA.own rfl ys hy1 (n + xn + yn) rfl (by omega) (Nat.le_trans hB hsz) ?_; intro ao2 cap2 w2 ha)
      have hA2 := hA.trans ha
      go_roundw
      case rel => exact ⟨2, n + xn + yn, ao2, cap2, by omega, rfl, rfl, by omega, by omega, fun _ => ⟨rfl, hA2⟩⟩
      case measure => simp [intOf]
    · obtain ⟨rfl, hA⟩ := r2 rfl
      clear r0 r1 r2
      go_wp2_with fail
      go_ret
      exact ⟨ao1, cap1, rfl, hA⟩
end Go.Proofs.YtpemfmjplejdiaaDoor

namespace Go.Proofs.YtpemfmjplejdiaaDoor
open Go.RowKit

def sideOf (ini : Bool) : Int := if ini then 0 else 1
def pskL (ls : List Ln) : Bool := hasL ls (-1) 7
def befM (oth psk : Bool) (t : Int) : List Mv := ⟨3, if oth then t + 2 else t, 0⟩ :: (if t == 1 && psk then [⟨4, if oth then t + 2 else t, 0⟩] else [])
def mixM (sent psk : Bool) (t : Int) : List Mv := if t == 1 && psk then [⟨4, if sent then 1 else 3, 0⟩] else []
def tokM (ini sent psk : Bool) (t : Int) : List Mv := movesL ini t sent ++ mixM sent psk t
def lineM (ini psk : Bool) (l : Ln) : List Mv := ⟨if l.1 == sideOf ini then 5 else 6, 0, 0⟩ :: (l.2.flatMap (tokM ini (l.1 == sideOf ini) psk) ++ [⟨13, 0, 0⟩])
def headM (ini : Bool) (b0 b1 : List Int) (ls : List Ln) : List Mv :=
  (if hasL ls (sideOf ini) 2 || inL (if ini then b0 else b1) 2 then [⟨1, 2, 0⟩] else []) ++ ((if inL (if ini then b0 else b1) 1 then [⟨1, 1, 0⟩] else []) ++ [⟨2, 0, 0⟩])
/-- The moves of one side of a pattern. -/
def unrollL (ini : Bool) (b0 b1 : List Int) (ls : List Ln) : List Mv :=
  headM ini b0 b1 ls ++ b0.flatMap (befM (!ini) (pskL ls)) ++ b1.flatMap (befM ini (pskL ls)) ++ ls.flatMap (lineM ini (pskL ls)) ++ [⟨14, 0, 0⟩]

def befL (ini psk : Bool) (b0 b1 : List Int) (ls : List Ln) (k : Nat) : List Mv := headM ini b0 b1 ls ++ ((if k = 0 then [] else b0.flatMap (befM (!ini) psk)) ++ (if k ≤ 1 then [] else b1.flatMap (befM ini psk)))
theorem befL_1 (ini psk : Bool) (b0 b1 : List Int) (ls : List Ln) : befL ini psk b0 b1 ls 0 ++ b0.flatMap (befM (!ini) psk) = befL ini psk b0 b1 ls 1 := by simp [befL]
theorem befL_2 (ini psk : Bool) (b0 b1 : List Int) (ls : List Ln) : befL ini psk b0 b1 ls 1 ++ b1.flatMap (befM ini psk) = befL ini psk b0 b1 ls 2 := by simp [befL]
theorem movesL_len (ini : Bool) (t : Int) (s : Bool) : (movesL ini t s).length ≤ 2 := by
  unfold movesL
  repeat' split
  all_goals simp
theorem mixM_len (s psk : Bool) (t : Int) : (mixM s psk t).length ≤ 1 := by
  unfold mixM; split <;> simp
theorem befM_len (o psk : Bool) (t : Int) : (befM o psk t).length ≤ 2 := by
  unfold befM
  cases (t == 1 && psk) <;> simp

theorem linesOk_len {ls : List Ln} : ∀ {prev : Option Int} {n : Nat}, linesOk prev n ls = true → (∀ j (h : j < ls.length), n + ls[j].2.length ≤ 24) ∧ (n ≤ 24 → n + ls.length ≤ 24) := by
  induction ls with
  | nil => intro _ n _; exact ⟨fun j h => by simp at h, fun h => by simpa using h⟩
  | cons l r ih =>
    intro prev n hl
    simp only [linesOk, Bool.and_eq_true, decide_eq_true_eq] at hl
    obtain ⟨⟨⟨h1, h2⟩, h3⟩, h4⟩ := hl
    have hp : l.2.length ≠ 0 := by
      simp only [headOk, Bool.and_eq_true, bne_iff_ne] at h1
      exact h1.2
    obtain ⟨g1, g2⟩ := ih h4
    refine ⟨fun j h => ?_, fun _ => ?_⟩
    · rcases j with _ | j
      · exact h3
      · have := g1 j (by simpa using h)
        simp only [List.getElem_cons_succ]
        omega
    · have := g2 h3
      simp only [List.length_cons]
      omega
theorem checkL_ok {b0 b1 : List Int} {ls : List Ln} (h : checkL b0 b1 ls = 0) : shapedL b0 b1 ls = true := by
  cases hs : shapedL b0 b1 ls with
  | true => rfl
  | false => unfold checkL at h; rw [hs] at h; cases h
theorem okB_len {l : List Int} (h : okB l = true) : l.length ≤ 2 := by
  match l, h with
  | [], _ => simp
  | [x], _ => simp
  | [x, y], _ => simp
  | _ :: _ :: _ :: _, h => simp [okB] at h
theorem shapedL_len {b0 b1 : List Int} {ls : List Ln} (h : shapedL b0 b1 ls = true) : b0.length ≤ 2 ∧ b1.length ≤ 2 ∧ ls.length ≤ 24 ∧ ∀ j (h : j < ls.length), ls[j].2.length ≤ 24 := by
  simp only [shapedL, Bool.and_eq_true] at h
  obtain ⟨⟨⟨h1, h2⟩, _⟩, h3⟩ := h
  obtain ⟨g1, g2⟩ := linesOk_len h3
  exact ⟨okB_len h1, okB_len h2, by have := g2 (by omega); omega, fun j hj => by have := g1 j hj; omega⟩
theorem flatMap_take {α β : Type} (f : α → List β) (l : List α) (k : Nat) (h : k < l.length) : (l.take (k + 1)).flatMap f = (l.take k).flatMap f ++ f l[k] := by
  rw [take_step l k h, List.flatMap_append]; simp

theorem MvA.kp {a b c : World} {B N cap : Nat} {ao ao1 : Option Addr} {ms : List Mv} (h : MvA a b B ao N ms ao1 cap) (k : Kp b c) : MvA a c B ao N ms ao1 cap :=
  ⟨h.own.keep k, h.fr.trans ((Fr.of_kp k).mono (by simp)), h.new⟩
theorem MvA.keeps {a b : World} {B N cap : Nat} {ao1 : Option Addr} {ms : List Mv} (h : MvA a b B none N ms ao1 cap) : Kp a b := (h.fr.mono (Y := []) (by simp [blkL, blk])).kp
theorem MvO.no_map {w : World} {B N cap r Bm : Nat} {ao : Option Addr} {ms : List Mv} {ini : Bool} {K : List TK} (h : MvO w B ao N cap ms) (hm : MapIn w r Bm ini K) : r ∉ blkL ao := by
  intro hr
  obtain ⟨arr, clock, hh⟩ := hm.heap
  rw [mem_blkL] at hr
  rcases h.1.2 with ⟨hv, _⟩ | ⟨g, cap', cur, hv, _, hg, _⟩
  · simp only [Value.slice.injEq] at hv
    rw [hv.1] at hr
    cases hr
  · simp only [Value.slice.injEq] at hv
    obtain ⟨rfl, _, rfl⟩ := hv
    simp only [blk, Option.map_some, Option.some.injEq] at hr
    subst hr
    rw [hg] at hh
    cases hh

/-- What 'Unroll' leaves. -/
def UnrollPost (w : World) (E : Nat → Addr) (ini : Bool) (b0 b1 : List Int) (ls : List Ln) (e : Ending) (w' : World) : Prop := Kp w w' ∧
  if checkL b0 b1 ls = 0 then ∃ ao n cap, e = .returned (.tuple #[.slice ao n cap, .nilIface]) ∧ MvO w' w.heap.size ao n cap (unrollL ini b0 b1 ls)
  else e = .returned (.tuple #[.slice none 0 0, errV E (checkL b0 b1 ls)])
end Go.Proofs.YtpemfmjplejdiaaDoor

namespace Go.Proofs.YtpemfmjplejdiaaDoor
open Go.RowKit

theorem lists_cut {α : Type} [BEq α] [LawfulBEq α] (xs ys : List α) (hl : xs.length = ys.length) (k : Nat) (hk : k < xs.length) (h : xs.take k = ys.take k) :
    (xs[k] = ys[k]'(by omega) → xs.take (k + 1) = ys.take (k + 1)) ∧ (xs[k] ≠ ys[k]'(by omega) → xs ≠ ys) := by
  refine ⟨fun he => by rw [take_step xs k hk, take_step ys k (by omega), h, he], fun hne he => ?_⟩
  subst he
  exact hne rfl

set_option maxHeartbeats 2000000 in
theorem lists_any (w : World) (ao bo : Option Addr) (n m c d : Nat) (xs ys : List Int) (hx : Is w ao n xs) (hy : Is w bo m ys) :
    Calls Tryd.prog 33 #[.slice ao n c, .slice bo m d] w fun e w' => e = .returned (.bool (xs == ys)) ∧ ∃ q, w' = w.drewN q := by
  have hn := hx.2.1
  have hm := hy.2.1
  unfold maxLen at hn hm
  have Hx := Lib.hid hx.1
  have Hy := Lib.hid hy.1
  by_cases hnm : n = m
  · subst hnm
    go_enter Tryd.func33, Tryd.ntmps33
    go_wp2_with fail
    go_loopw [5] (fun i wr => ∃ k q : Nat, k ≤ n ∧ i = .int .i64 k ∧ wr = w.drewN q ∧ xs.take k = ys.take k) (fun i _ => n - (intOf i).toNat)
    case atStart => exact ⟨0, 0, by omega, rfl, rfl, rfl⟩
    case round =>
      obtain ⟨k, q, hk, rfl, rfl, htk⟩ := hrel
      by_cases hlt : k < n
      · obtain ⟨b, off, rfl, _, hc⟩ := hx.at k hlt
        obtain ⟨b', off', rfl, _, hc'⟩ := hy.at k hlt
        have c1 := hc k hlt
        have c2 := hc' k hlt
        have lx : k < xs.length := by rw [Hx.out]; exact hlt
        have ly : k < ys.length := by rw [Hy.out]; exact hlt
        have hcut := lists_cut xs ys (by rw [Hx.out, Hy.out]) k lx htk
        clear hc hc' htk
        generalize xs[k]'lx = x at c1 hcut
        generalize ys[k]'ly = y at c2 hcut
        by_cases hxy : x = y
        · have Hc := Lib.hid (hcut.1 hxy)
          have hne : (x != y) = false := by simp [hxy]
          clear hcut hxy
          go_wp2_with fail
          go_quiet (fail)
          go_wp2_with fail
          go_roundw
          case rel => exact ⟨k + 1, _, by omega, by go_num, by first | rfl | exact World.drewN_drewN _ _ _, Hc.out⟩
          case measure => simp [intOf]; omega
        · have Hc := Lib.hid (show (xs == ys) = false by simpa using hcut.2 hxy)
          have hne : (x != y) = true := by simpa using hxy
          clear hcut hxy
          go_wp2_with fail
          go_quiet (fail)
          go_wp2_with fail
          go_ret
          exact ⟨by rw [Hc.out]; rfl, _, World.drewN_drewN _ _ _⟩
      · have Hc := Lib.hid (show (xs == ys) = true by
          rw [List.take_of_length_le (by rw [Hx.out]; omega), List.take_of_length_le (by rw [Hy.out]; omega)] at htk
          simp [htk])
        clear htk
        go_wp2_with fail
        go_ret
        exact ⟨by rw [Hc.out]; rfl, q, rfl⟩
  · have Hc := Lib.hid (show (xs == ys) = false by
      cases hq : (xs == ys) with
      | false => rfl
      | true => exact absurd (by rw [← Hx.out, ← Hy.out, beq_iff_eq.1 hq]) hnm)
    have hb : ((n : Int) != (m : Int)) = true := by simp; omega
    clear hnm
    go_enter Tryd.func33, Tryd.ntmps33
    go_wp2_with fail
    go_ret
    exact ⟨by rw [Hc.out]; rfl, 0, rfl⟩

theorem Mvs.at {w : World} {ao : Option Addr} {n : Nat} {ms : List Mv} (h : Mvs w ao n ms) (k : Nat) (hk : k < n) :
    ∃ b off, ao = some ⟨b, off, none⟩ ∧ ∀ j, (hj : j < n) → w.cell? ⟨b, off + j * 3, none⟩ = some (iv (ms[j]'(by rw [h.1]; exact hj)).op) ∧ w.cell? ⟨b, off + j * 3 + 1, none⟩ = some (iv (ms[j]'(by rw [h.1]; exact hj)).key) ∧ w.cell? ⟨b, off + j * 3 + 2, none⟩ = some (iv (ms[j]'(by rw [h.1]; exact hj)).wth) := by
  obtain ⟨h1, _, h2⟩ := h
  obtain ⟨b, off, rfl, hc⟩ := h2.at (k * 3) (by rw [mvc_length]; omega)
  refine ⟨b, off, rfl, fun j hj => ?_⟩
  obtain ⟨g0, g1, g2⟩ := mvc_get ms j (by omega)
  exact ⟨hc _ _ g0, by have := hc _ _ g1; rwa [← Nat.add_assoc] at this, by have := hc _ _ g2; rwa [← Nat.add_assoc] at this⟩
theorem mv_eq (a b : Mv) : (a.op == b.op && (a.key == b.key && a.wth == b.wth)) = (a == b) := by
  rw [Bool.eq_iff_iff]
  simp only [Bool.and_eq_true, beq_iff_eq]
  constructor
  · rintro ⟨h1, h2, h3⟩; cases a; cases b; simp_all
  · rintro rfl; simp

set_option maxHeartbeats 2000000 in
theorem moves2_any (w : World) (ao bo : Option Addr) (n m c d : Nat) (xs ys : List Mv) (hx : Mvs w ao n xs) (hy : Mvs w bo m ys) :
    Calls Tryd.prog 15 #[.slice ao n c, .slice bo m d] w fun e w' => e = .returned (.bool (xs == ys)) ∧ Kp w w' := by
  have hn := hx.2.1
  have hm := hy.2.1
  unfold maxLen at hn hm
  have Hx := Lib.hid hx.1
  have Hy := Lib.hid hy.1
  have hq := neq42
  by_cases hnm : n = m
  · subst hnm
    go_enter Tryd.func15, Tryd.ntmps15
    go_wp2_with fail
    go_loopw [5] (fun i wr => ∃ k q : Nat, k ≤ n ∧ i = .int .i64 k ∧ wr = w.drewN q ∧ xs.take k = ys.take k) (fun i _ => n - (intOf i).toNat)
    case atStart => exact ⟨0, 0, by omega, rfl, rfl, rfl⟩
    case round =>
      obtain ⟨k, q, hk, rfl, rfl, htk⟩ := hrel
      by_cases hlt : k < n
      · obtain ⟨b, off, rfl, hc⟩ := hx.at k hlt
        obtain ⟨b', off', rfl, hc'⟩ := hy.at k hlt
        obtain ⟨c1, c2, c3⟩ := hc k hlt
        obtain ⟨d1, d2, d3⟩ := hc' k hlt
        have lx : k < xs.length := by rw [Hx.out]; exact hlt
        have ly : k < ys.length := by rw [Hy.out]; exact hlt
        have hcut := lists_cut xs ys (by rw [Hx.out, Hy.out]) k lx htk
        clear hc hc' htk
        generalize xs[k]'lx = x at c1 c2 c3 hcut
        generalize ys[k]'ly = y at d1 d2 d3 hcut
        have he := mv_eq x y
        by_cases hxy : x = y
        · have Hc := Lib.hid (hcut.1 hxy)
          have he : (x.op == y.op && (x.key == y.key && x.wth == y.wth)) = true := by rw [he]; simp [hxy]
          obtain ⟨x1, x2, x3⟩ := x
          obtain ⟨y1, y2, y3⟩ := y
          simp only at c1 c2 c3 d1 d2 d3 he
          have hq2 : ∀ w, (binOp .neq 42 (.agg #[.int .i64 x1, .int .i64 x2, .int .i64 x3]) (.agg #[.int .i64 y1, .int .i64 y2, .int .i64 y3])).run Tryd.prog w = .ok (.bool false) w := fun w => by rw [neq42, he]; rfl
          clear hcut hxy hq he
          go_wp2_with fail
          go_quiet (fail)
          go_wp2_with fail
          go_roundw
          case rel => exact ⟨k + 1, _, by omega, by go_num, by first | rfl | exact World.drewN_drewN _ _ _, Hc.out⟩
          case measure => simp [intOf]; omega
        · have Hc := Lib.hid (show (xs == ys) = false by simpa using hcut.2 hxy)
          have he : (x.op == y.op && (x.key == y.key && x.wth == y.wth)) = false := by rw [he]; simpa using hxy
          obtain ⟨x1, x2, x3⟩ := x
          obtain ⟨y1, y2, y3⟩ := y
          simp only at c1 c2 c3 d1 d2 d3 he
          have hq2 : ∀ w, (binOp .neq 42 (.agg #[.int .i64 x1, .int .i64 x2, .int .i64 x3]) (.agg #[.int .i64 y1, .int .i64 y2, .int .i64 y3])).run Tryd.prog w = .ok (.bool true) w := fun w => by rw [neq42, he]; rfl
          clear hcut hxy hq he
          go_wp2_with fail
          go_quiet (fail)
          go_wp2_with fail
          go_ret
          exact ⟨by rw [Hc.out]; rfl, by rw [World.drewN_drewN]; exact Kp.of_drewN _ _⟩
      · have Hc := Lib.hid (show (xs == ys) = true by
          rw [List.take_of_length_le (by rw [Hx.out]; omega), List.take_of_length_le (by rw [Hy.out]; omega)] at htk
          simp [htk])
        clear htk hq
        go_wp2_with fail
        go_ret
        exact ⟨by rw [Hc.out]; rfl, Kp.of_drewN _ _⟩
  · have Hc := Lib.hid (show (xs == ys) = false by
      cases hq : (xs == ys) with
      | false => rfl
      | true => exact absurd (by rw [← Hx.out, ← Hy.out, beq_iff_eq.1 hq]) hnm)
    have hb : ((n : Int) != (m : Int)) = true := by simp; omega
    clear hnm hq
    go_enter Tryd.func15, Tryd.ntmps15
    go_wp2_with fail
    go_ret
    exact ⟨by rw [Hc.out]; rfl, Kp.refl _⟩
end Go.Proofs.YtpemfmjplejdiaaDoor

namespace Go.Proofs.YtpemfmjplejdiaaDoor
open Go.RowKit

set_option maxHeartbeats 2000000 in
theorem equal_any (w : World) (ao bo : Option Addr) (n m c d : Nat) (xs ys : List Mv) (hx : Mvs w ao n xs) (hy : Mvs w bo m ys) :
    Calls Tryd.prog 34 #[.slice ao n c, .slice bo m d] w fun e w' => e = .returned (.bool (xs == ys)) ∧ Kp w w' := by
  have hn := hx.2.1
  have hm := hy.2.1
  unfold maxLen at hn hm
  have Hx := Lib.hid hx.1
  have Hy := Lib.hid hy.1
  have hq := neq42
  by_cases hnm : n = m
  · subst hnm
    go_enter Tryd.func34, Tryd.ntmps34
    go_wp2_with fail
    go_loopw [13] (fun i wr => ∃ k q : Nat, k ≤ n ∧ i = .int .i64 k ∧ wr = w.drewN q ∧ xs.take k = ys.take k) (fun i _ => n - (intOf i).toNat)
    case atStart => exact ⟨0, 0, by omega, rfl, rfl, rfl⟩
    case round =>
      obtain ⟨k, q, hk, rfl, rfl, htk⟩ := hrel
      by_cases hlt : k < n
      · obtain ⟨b, off, rfl, hc⟩ := hx.at k hlt
        obtain ⟨b', off', rfl, hc'⟩ := hy.at k hlt
        obtain ⟨c1, c2, c3⟩ := hc k hlt
        obtain ⟨d1, d2, d3⟩ := hc' k hlt
        have lx : k < xs.length := by rw [Hx.out]; exact hlt
        have ly : k < ys.length := by rw [Hy.out]; exact hlt
        have hcut := lists_cut xs ys (by rw [Hx.out, Hy.out]) k lx htk
        clear hc hc' htk
        generalize xs[k]'lx = x at c1 c2 c3 hcut
        generalize ys[k]'ly = y at d1 d2 d3 hcut
        have he := mv_eq x y
        by_cases hxy : x = y
        · have Hc := Lib.hid (hcut.1 hxy)
          have he : (x.op == y.op && (x.key == y.key && x.wth == y.wth)) = true := by rw [he]; simp [hxy]
          obtain ⟨x1, x2, x3⟩ := x
          obtain ⟨y1, y2, y3⟩ := y
          simp only at c1 c2 c3 d1 d2 d3 he
          have hq2 : ∀ w, (binOp .neq 42 (.agg #[.int .i64 x1, .int .i64 x2, .int .i64 x3]) (.agg #[.int .i64 y1, .int .i64 y2, .int .i64 y3])).run Tryd.prog w = .ok (.bool false) w := fun w => by rw [neq42, he]; rfl
          clear hcut hxy hq he
          go_wp2_with fail
          go_quiet (fail)
          go_wp2_with fail
          go_roundw
          case rel => exact ⟨k + 1, _, by omega, by go_num, by first | rfl | exact World.drewN_drewN _ _ _, Hc.out⟩
          case measure => simp [intOf]; omega
        · have Hc := Lib.hid (show (xs == ys) = false by simpa using hcut.2 hxy)
          have he : (x.op == y.op && (x.key == y.key && x.wth == y.wth)) = false := by rw [he]; simpa using hxy
          obtain ⟨x1, x2, x3⟩ := x
          obtain ⟨y1, y2, y3⟩ := y
          simp only at c1 c2 c3 d1 d2 d3 he
          have hq2 : ∀ w, (binOp .neq 42 (.agg #[.int .i64 x1, .int .i64 x2, .int .i64 x3]) (.agg #[.int .i64 y1, .int .i64 y2, .int .i64 y3])).run Tryd.prog w = .ok (.bool true) w := fun w => by rw [neq42, he]; rfl
          clear hcut hxy hq he
          go_wp2_with fail
          go_quiet (fail)
          go_wp2_with fail
          go_ret
          exact ⟨by rw [Hc.out]; rfl, by rw [World.drewN_drewN]; exact Kp.of_drewN _ _⟩
      · have Hc := Lib.hid (show (xs == ys) = true by
          rw [List.take_of_length_le (by rw [Hx.out]; omega), List.take_of_length_le (by rw [Hy.out]; omega)] at htk
          simp [htk])
        clear htk hq
        go_wp2_with fail
        go_ret
        exact ⟨by rw [Hc.out]; rfl, Kp.of_drewN _ _⟩
  · have Hc := Lib.hid (show (xs == ys) = false by
      cases hq : (xs == ys) with
      | false => rfl
      | true => exact absurd (by rw [← Hx.out, ← Hy.out, beq_iff_eq.1 hq]) hnm)
    have hb : ((n : Int) != (m : Int)) = true := by simp; omega
    clear hnm hq
    go_enter Tryd.func34, Tryd.ntmps34
    go_wp2_with fail
    go_ret
    exact ⟨by rw [Hc.out]; rfl, Kp.refl _⟩
end Go.Proofs.YtpemfmjplejdiaaDoor

namespace Go.Proofs.YtpemfmjplejdiaaDoor
open Go.RowKit

theorem inL_take (xs : List Int) (t : Int) (k : Nat) (h : k < xs.length) (h0 : inL (xs.take k) t = false) (hx : xs[k] ≠ t) : inL (xs.take (k + 1)) t = false := by
  unfold inL at *
  rw [take_step xs k h, List.contains_append, h0]
  simpa using fun e => hx e.symm
theorem inL_yes (xs : List Int) (t : Int) (k : Nat) (h : k < xs.length) (hx : xs[k] = t) : inL xs t = true := by
  unfold inL
  rw [List.contains_iff_mem, ← hx]
  exact List.getElem_mem h
set_option maxHeartbeats 2000000 in
theorem refHas_any (w : World) (ao : Option Addr) (n c : Nat) (xs : List Int) (t : Int) (hx : Is w ao n xs) : Calls Tryd.prog 28 #[.slice ao n c, iv t] w fun e w' => e = .returned (.bool (inL xs t)) ∧ w' = w := by
  have hm := hx.2.1
  unfold maxLen at hm
  go_enter Tryd.func28, Tryd.ntmps28
  go_wp2_with fail
  go_loopw [5] (fun i wr => ∃ k : Nat, k ≤ n ∧ i = .int .i64 (k : Nat) ∧ wr = w ∧ inL (xs.take k) t = false) (fun i _ => n - (intOf i).toNat)
  case atStart => exact ⟨0, by omega, rfl, rfl, rfl⟩
  case round =>
    obtain ⟨k, hk, rfl, rfl, hno⟩ := hrel
    have Hno := Lib.hid hno; clear hno
    by_cases hlt : k < n
    · obtain ⟨b, off, rfl, _, hcc⟩ := hx.at k hlt
      have hck := hcc k hlt
      have hkl : k < xs.length := by rw [hx.1]; exact hlt
      have hstep := inL_take xs t k hkl Hno.out
      have hyes := inL_yes xs t k hkl
      clear hcc
      generalize xs[k]'hkl = x at hck hstep hyes
      by_cases hxt : x = t
      · have Hy := Lib.hid (hyes hxt)
        have hb : (x == t) = true := by simpa using hxt
        clear hstep hyes hxt
        go_wp2_with fail
        go_ret
        exact ⟨by rw [Hy.out]; rfl, rfl⟩
      · have Hn := Lib.hid (hstep hxt)
        have hb : (x == t) = false := by simpa using hxt
        clear hstep hyes hxt
        go_wp2_with fail
        go_roundw
        case rel => exact ⟨k + 1, by omega, by go_num, trivial, Hn.out⟩
        case measure => simp [intOf]; omega
    · obtain rfl : k = n := by omega
      have Hn := Lib.hid (show inL xs t = false by have h := Hno.out; rwa [List.take_of_length_le (by rw [hx.1]; exact Nat.le_refl _)] at h)
      go_wp2_with fail
      go_ret
      exact ⟨by rw [Hn.out]; rfl, rfl⟩

def keyR (t : Int) (own : Bool) : Int := (if t = 2 then 2 else 1) + (if own then 0 else 2)
set_option maxHeartbeats 2000000 in
theorem keyR_any (w : World) (t : Int) (own : Bool) (h : t = 1 ∨ t = 2) : Calls Tryd.prog 29 #[iv t, .bool own] w fun e w' => e = .returned (iv (keyR t own)) ∧ w' = w := by
  rcases h with rfl | rfl <;> cases own
  all_goals
    go_enter Tryd.func29, Tryd.ntmps29
    go_wp2
    go_ret
    exact ⟨rfl, rfl⟩
set_option maxHeartbeats 2000000 in
theorem shares_any (w : World) (t : Int) (h : t = 3 ∨ t = 4 ∨ t = 5 ∨ t = 6) : Calls Tryd.prog 47 #[iv t] w fun e w' => e = .returned (.tuple #[iv (wantI t), iv (wantR t)]) ∧ w' = w := by
  rcases h with rfl | rfl | rfl | rfl
  all_goals
    go_enter Tryd.func47, Tryd.ntmps47
    go_wp2
    go_ret2
    exact ⟨rfl, rfl⟩
theorem hasL_take (ls : List Ln) (s tok : Int) (k : Nat) (h : k < ls.length) : hasL (ls.take (k + 1)) s tok = (hasL (ls.take k) s tok || ((decide (s < 0) || ls[k].1 == s) && inL ls[k].2 tok)) := by
  unfold hasL
  rw [take_step ls k h, List.any_append]
  simp
theorem hasL_yes (ls : List Ln) (s tok : Int) (k : Nat) (h : k < ls.length) (hx : ((decide (s < 0) || ls[k].1 == s) && inL ls[k].2 tok) = true) : hasL ls s tok = true := by
  unfold hasL
  rw [List.any_eq_true]
  exact ⟨ls[k], List.getElem_mem h, hx⟩
set_option maxRecDepth 100000 in
set_option maxHeartbeats 2000000 in
theorem psk_any (w : World) (nm : ByteArray) (a0 a1 al : Option Addr) (n0 c0 n1 c1 nl cl : Nat) (ls : List Ln) (hl : Lns w al nl ls) :
    Calls Tryd.prog 30 #[.agg #[.string nm, .slice a0 n0 c0, .slice a1 n1 c1, .slice al nl cl]] w fun e w' => e = .returned (.bool (pskL ls)) ∧ Kp w w' := by
  have hnl := hl.2.1
  have hk1 := Kp.new w (.cells #[.string nm, .slice a0 n0 c0, .slice a1 n1 c1, .slice al nl cl] 26)
  have y3 : (w.alloc (.cells #[.string nm, .slice a0 n0 c0, .slice a1 n1 c1, .slice al nl cl] 26)).cell? ⟨w.heap.size, 3, none⟩ = some (.slice al nl cl) := by rw [World.cell?_alloc_at _ _ _ _ rfl]; rfl
  obtain ⟨wa, hwa⟩ : ∃ wa, wa = w.alloc (.cells #[.string nm, .slice a0 n0 c0, .slice a1 n1 c1, .slice al nl cl] 26) := ⟨_, rfl⟩
  obtain ⟨bb, hbb⟩ : ∃ bb, bb = w.heap.size := ⟨_, rfl⟩
  rw [← hwa] at hk1 y3
  rw [← hbb] at y3
  replace hl := hk1.lns hl
  have Hk := Lib.hid hk1; clear hk1
  go_enter Tryd.func30, Tryd.ntmps30
  go_upto_region 1 with fail
  rw [← hwa, ← hbb]
  clear hwa hbb
  go_wp2_with fail
  go_loopw [3] (fun i wr => ∃ k : Nat, k ≤ nl ∧ i = .int .i64 (k : Nat) ∧ wr = wa ∧ hasL (ls.take k) (-1) 7 = false) (fun i _ => nl - (intOf i).toNat)
  case atStart => exact ⟨0, by omega, rfl, rfl, rfl⟩
  case round =>
    obtain ⟨k, hk, rfl, rfl, hno⟩ := hrel
    have Hno := Lib.hid hno; clear hno
    by_cases hlt : k < nl
    · have hkl : k < ls.length := by rw [hl.1]; exact hlt
      obtain ⟨b, off, tp, tn, tc, rfl, hc1, hc2, hI, _⟩ := hl.2.2 k hkl
      have hst := hasL_take ls (-1) 7 k hkl
      have hye := hasL_yes ls (-1) 7 k hkl
      have Hh := Lib.hid (refHas_any wr tp tn tc _ 7 hI)
      generalize ls[k]'hkl = l at hst hye Hh
      rw [Hno.out] at hst
      have Hst := Lib.hid hst
      have Hye := Lib.hid hye
      clear hst hye hc1 hI
      go_wp2_with fail
      (with_reducible refine Hh.out.mono ?_)
      rintro e w1 ⟨rfl, rfl⟩
      cases hq : inL l.2 7 with
      | true =>
        have Hy := Lib.hid (show pskL ls = true from Hye.out (by simp [hq]))
        clear hq
        go_wp2_with fail
        go_ret
        exact ⟨by rw [Hy.out]; rfl, Hk.out⟩
      | false =>
        have Hy := Lib.hid (show hasL (ls.take (k + 1)) (-1) 7 = false by rw [Hst.out, hq]; simp)
        clear hq
        go_wp2_with fail
        go_roundw
        case rel => exact ⟨k + 1, by omega, by go_num, trivial, Hy.out⟩
        case measure => simp [intOf]; omega
    · obtain rfl : k = ls.length := by have := hl.1; omega
      have Hn := Lib.hid (show pskL ls = false by have h := Hno.out; rwa [List.take_of_length_le (Nat.le_refl _)] at h)
      have hnle : nl = ls.length := hl.1.symm
      subst hnle
      go_wp2_with fail
      go_ret
      exact ⟨by rw [Hn.out]; rfl, Hk.out⟩

/-- What the document's 'moves' leaves. -/
def MovRPost (w : World) (ms : List Mv) (e : Ending) (w' : World) : Prop := Kp w w' ∧ ∃ ao n cap, e = .returned (.slice ao n cap) ∧ MvO w' w.heap.size ao n cap ms ∧ n ≤ 3
theorem MvO.new1 (w : World) (m : Mv) : MvO (w.alloc (.cells #[iv m.op, iv m.key, iv m.wth] 42)) w.heap.size (some ⟨w.heap.size, 0, none⟩) 1 1 [m] := by
  refine ⟨⟨rfl, .inr ⟨w.heap.size, 1, _, rfl, Nat.le_refl _, heap_alloc_new w _, Nat.le_refl _, by unfold maxLen; omega, rfl, rfl⟩⟩, rfl⟩
theorem MvO.new2 (w : World) (m m' : Mv) : MvO (w.alloc (.cells #[iv m.op, iv m.key, iv m.wth, iv m'.op, iv m'.key, iv m'.wth] 42)) w.heap.size (some ⟨w.heap.size, 0, none⟩) 2 2 [m, m'] := by
  refine ⟨⟨rfl, .inr ⟨w.heap.size, 2, _, rfl, Nat.le_refl _, heap_alloc_new w _, Nat.le_refl _, by unfold maxLen; omega, rfl, rfl⟩⟩, rfl⟩

set_option maxHeartbeats 4000000 in
theorem movesR_1 (w : World) (ini sent psk : Bool) : Calls Tryd.prog 31 #[iv 1, iv (sideOf ini), .bool sent, .bool psk] w (MovRPost w (tokM ini sent psk 1)) := by
  have Hk := Lib.hid (fun w => keyR_any w 1 sent (.inl rfl))
  generalize sideOf ini = side
  cases sent with
  | true =>
    have HT := Lib.hid (show tokM ini true psk 1 = [⟨7, 1, 0⟩, ⟨3, 1, 0⟩] ++ mixM true psk 1 by cases ini <;> rfl)
    have Hk := Lib.hid (show ∀ w, Calls Tryd.prog 29 #[iv 1, .bool true] w fun e w' => e = .returned (iv 1) ∧ w' = w from Hk.out)
    cases psk with
    | true =>
      go_enter Tryd.func31, Tryd.ntmps31
      go_wp2_with fail
      (with_reducible refine (Hk.out _).mono ?_)
      rintro e w1 ⟨rfl, rfl⟩
      go_wp2_with (at_builtin; refine wpList_mv1 rfl (.tmp 28) (.tmp 31) rfl rfl (MvO.new2 w1 ⟨7, 1, 0⟩ ⟨3, 1, 0⟩) ⟨4, 1, 0⟩ rfl (by simp) (by omega) (by simp) ?_; intro ao2 cap2 w2 ha)
      have hp : MovRPost w1 (tokM ini true true 1) (.returned (.slice ao2 (2 + 1) cap2)) w2 := ⟨((Fr.of_kp (Kp.new w1 _)).step ha.fr (fun i hi => .inr (by rw [mem_blkL_some] at hi; omega))).kp, ao2, 2 + 1, cap2, rfl, by rw [HT.out]; exact ha.own, by omega⟩
      have Hp := Lib.hid hp; clear hp ha
      go_wp2_with fail
      go_ret
      exact Hp.out
    | false =>
      go_enter Tryd.func31, Tryd.ntmps31
      go_wp2_with fail
      (with_reducible refine (Hk.out _).mono ?_)
      rintro e w1 ⟨rfl, rfl⟩
      go_wp2_with fail
      go_ret
      exact ⟨Kp.new _ _, some ⟨w1.heap.size, 0, none⟩, 2, 2, rfl, by rw [HT.out]; exact MvO.new2 w1 ⟨7, 1, 0⟩ ⟨3, 1, 0⟩, by omega⟩
  | false =>
    have HT := Lib.hid (show tokM ini false psk 1 = [⟨8, 3, 0⟩, ⟨3, 3, 0⟩] ++ mixM false psk 1 by cases ini <;> rfl)
    have Hk := Lib.hid (show ∀ w, Calls Tryd.prog 29 #[iv 1, .bool false] w fun e w' => e = .returned (iv 3) ∧ w' = w from Hk.out)
    cases psk with
    | true =>
      go_enter Tryd.func31, Tryd.ntmps31
      go_wp2_with fail
      (with_reducible refine (Hk.out _).mono ?_)
      rintro e w1 ⟨rfl, rfl⟩
      go_wp2_with (at_builtin; refine wpList_mv1 rfl (.tmp 28) (.tmp 31) rfl rfl (MvO.new2 w1 ⟨8, 3, 0⟩ ⟨3, 3, 0⟩) ⟨4, 3, 0⟩ rfl (by simp) (by omega) (by simp) ?_; intro ao2 cap2 w2 ha)
      have hp : MovRPost w1 (tokM ini false true 1) (.returned (.slice ao2 (2 + 1) cap2)) w2 := ⟨((Fr.of_kp (Kp.new w1 _)).step ha.fr (fun i hi => .inr (by rw [mem_blkL_some] at hi; omega))).kp, ao2, 2 + 1, cap2, rfl, by rw [HT.out]; exact ha.own, by omega⟩
      have Hp := Lib.hid hp; clear hp ha
      go_wp2_with fail
      go_ret
      exact Hp.out
    | false =>
      go_enter Tryd.func31, Tryd.ntmps31
      go_wp2_with fail
      (with_reducible refine (Hk.out _).mono ?_)
      rintro e w1 ⟨rfl, rfl⟩
      go_wp2_with fail
      go_ret
      exact ⟨Kp.new _ _, some ⟨w1.heap.size, 0, none⟩, 2, 2, rfl, by rw [HT.out]; exact MvO.new2 w1 ⟨8, 3, 0⟩ ⟨3, 3, 0⟩, by omega⟩

set_option maxHeartbeats 4000000 in
theorem movesR_2 (w : World) (ini sent psk : Bool) : Calls Tryd.prog 31 #[iv 2, iv (sideOf ini), .bool sent, .bool psk] w (MovRPost w (tokM ini sent psk 2)) := by
  have HT := Lib.hid (show tokM ini sent psk 2 = (if sent then [⟨9, 2, 0⟩] else [⟨10, 4, 0⟩]) by cases ini <;> cases sent <;> cases psk <;> rfl)
  generalize sideOf ini = side
  cases sent with
  | true =>
    go_enter Tryd.func31, Tryd.ntmps31
    go_wp2_with fail
    go_ret
    exact ⟨Kp.new _ _, some ⟨w.heap.size, 0, none⟩, 1, 1, rfl, by rw [HT.out]; exact MvO.new1 w ⟨9, 2, 0⟩, by omega⟩
  | false =>
    go_enter Tryd.func31, Tryd.ntmps31
    go_wp2_with fail
    go_ret
    exact ⟨Kp.new _ _, some ⟨w.heap.size, 0, none⟩, 1, 1, rfl, by rw [HT.out]; exact MvO.new1 w ⟨10, 4, 0⟩, by omega⟩
set_option maxHeartbeats 4000000 in
theorem movesR_7 (w : World) (ini sent psk : Bool) : Calls Tryd.prog 31 #[iv 7, iv (sideOf ini), .bool sent, .bool psk] w (MovRPost w (tokM ini sent psk 7)) := by
  have HT := Lib.hid (show tokM ini sent psk 7 = [⟨12, 0, 0⟩] by cases ini <;> cases sent <;> cases psk <;> rfl)
  generalize sideOf ini = side
  go_enter Tryd.func31, Tryd.ntmps31
  go_wp2_with fail
  go_ret
  exact ⟨Kp.new _ _, some ⟨w.heap.size, 0, none⟩, 1, 1, rfl, by rw [HT.out]; exact MvO.new1 w ⟨12, 0, 0⟩, by omega⟩

set_option maxHeartbeats 4000000 in
theorem movesR_3 (w : World) (ini sent psk : Bool) : Calls Tryd.prog 31 #[iv 3, iv (sideOf ini), .bool sent, .bool psk] w (MovRPost w (tokM ini sent psk 3)) := by
  have Hs := Lib.hid (show ∀ w, Calls Tryd.prog 47 #[iv 3] w fun e w' => e = .returned (.tuple #[iv 1, iv 1]) ∧ w' = w from fun w => shares_any w 3 (by omega))
  have Ka := Lib.hid (show ∀ w, Calls Tryd.prog 29 #[iv 1, .bool true] w fun e w' => e = .returned (iv 1) ∧ w' = w from fun w => keyR_any w 1 true (by omega))
  have Kb := Lib.hid (show ∀ w, Calls Tryd.prog 29 #[iv 1, .bool false] w fun e w' => e = .returned (iv 3) ∧ w' = w from fun w => keyR_any w 1 false (by omega))
  have Kc := Lib.hid (show ∀ w, Calls Tryd.prog 29 #[iv 1, .bool true] w fun e w' => e = .returned (iv 1) ∧ w' = w from fun w => keyR_any w 1 true (by omega))
  have Kd := Lib.hid (show ∀ w, Calls Tryd.prog 29 #[iv 1, .bool false] w fun e w' => e = .returned (iv 3) ∧ w' = w from fun w => keyR_any w 1 false (by omega))
  cases ini with
  | true =>
    have HT := Lib.hid (show tokM true sent psk 3 = [⟨11, 1, 3⟩] by cases sent <;> cases psk <;> rfl)
    unfold sideOf
    go_enter Tryd.func31, Tryd.ntmps31
    go_wp2_with fail
    (with_reducible refine (Hs.out _).mono ?_)
    rintro e w1 ⟨rfl, rfl⟩
    go_wp2_with fail
    (with_reducible refine (Ka.out _).mono ?_)
    rintro e w2 ⟨rfl, rfl⟩
    go_wp2_with fail
    (with_reducible refine (Kb.out _).mono ?_)
    rintro e w3 ⟨rfl, rfl⟩
    go_wp2_with fail
    go_ret
    exact ⟨Kp.new _ _, some ⟨w3.heap.size, 0, none⟩, 1, 1, rfl, by rw [HT.out]; exact MvO.new1 w3 ⟨11, 1, 3⟩, by omega⟩
  | false =>
    have HT := Lib.hid (show tokM false sent psk 3 = [⟨11, 1, 3⟩] by cases sent <;> cases psk <;> rfl)
    unfold sideOf
    go_enter Tryd.func31, Tryd.ntmps31
    go_wp2_with fail
    (with_reducible refine (Hs.out _).mono ?_)
    rintro e w1 ⟨rfl, rfl⟩
    go_wp2_with fail
    (with_reducible refine (Kc.out _).mono ?_)
    rintro e w2 ⟨rfl, rfl⟩
    go_wp2_with fail
    (with_reducible refine (Kd.out _).mono ?_)
    rintro e w3 ⟨rfl, rfl⟩
    go_wp2_with fail
    go_ret
    exact ⟨Kp.new _ _, some ⟨w3.heap.size, 0, none⟩, 1, 1, rfl, by rw [HT.out]; exact MvO.new1 w3 ⟨11, 1, 3⟩, by omega⟩

set_option maxHeartbeats 4000000 in
theorem movesR_4 (w : World) (ini sent psk : Bool) : Calls Tryd.prog 31 #[iv 4, iv (sideOf ini), .bool sent, .bool psk] w (MovRPost w (tokM ini sent psk 4)) := by
  have Hs := Lib.hid (show ∀ w, Calls Tryd.prog 47 #[iv 4] w fun e w' => e = .returned (.tuple #[iv 1, iv 2]) ∧ w' = w from fun w => shares_any w 4 (by omega))
  have Ka := Lib.hid (show ∀ w, Calls Tryd.prog 29 #[iv 1, .bool true] w fun e w' => e = .returned (iv 1) ∧ w' = w from fun w => keyR_any w 1 true (by omega))
  have Kb := Lib.hid (show ∀ w, Calls Tryd.prog 29 #[iv 2, .bool false] w fun e w' => e = .returned (iv 4) ∧ w' = w from fun w => keyR_any w 2 false (by omega))
  have Kc := Lib.hid (show ∀ w, Calls Tryd.prog 29 #[iv 2, .bool true] w fun e w' => e = .returned (iv 2) ∧ w' = w from fun w => keyR_any w 2 true (by omega))
  have Kd := Lib.hid (show ∀ w, Calls Tryd.prog 29 #[iv 1, .bool false] w fun e w' => e = .returned (iv 3) ∧ w' = w from fun w => keyR_any w 1 false (by omega))
  cases ini with
  | true =>
    have HT := Lib.hid (show tokM true sent psk 4 = [⟨11, 1, 4⟩] by cases sent <;> cases psk <;> rfl)
    unfold sideOf
    go_enter Tryd.func31, Tryd.ntmps31
    go_wp2_with fail
    (with_reducible refine (Hs.out _).mono ?_)
    rintro e w1 ⟨rfl, rfl⟩
    go_wp2_with fail
    (with_reducible refine (Ka.out _).mono ?_)
    rintro e w2 ⟨rfl, rfl⟩
    go_wp2_with fail
    (with_reducible refine (Kb.out _).mono ?_)
    rintro e w3 ⟨rfl, rfl⟩
    go_wp2_with fail
    go_ret
    exact ⟨Kp.new _ _, some ⟨w3.heap.size, 0, none⟩, 1, 1, rfl, by rw [HT.out]; exact MvO.new1 w3 ⟨11, 1, 4⟩, by omega⟩
  | false =>
    have HT := Lib.hid (show tokM false sent psk 4 = [⟨11, 2, 3⟩] by cases sent <;> cases psk <;> rfl)
    unfold sideOf
    go_enter Tryd.func31, Tryd.ntmps31
    go_wp2_with fail
    (with_reducible refine (Hs.out _).mono ?_)
    rintro e w1 ⟨rfl, rfl⟩
    go_wp2_with fail
    (with_reducible refine (Kc.out _).mono ?_)
    rintro e w2 ⟨rfl, rfl⟩
    go_wp2_with fail
    (with_reducible refine (Kd.out _).mono ?_)
    rintro e w3 ⟨rfl, rfl⟩
    go_wp2_with fail
    go_ret
    exact ⟨Kp.new _ _, some ⟨w3.heap.size, 0, none⟩, 1, 1, rfl, by rw [HT.out]; exact MvO.new1 w3 ⟨11, 2, 3⟩, by omega⟩

set_option maxHeartbeats 4000000 in
theorem movesR_5 (w : World) (ini sent psk : Bool) : Calls Tryd.prog 31 #[iv 5, iv (sideOf ini), .bool sent, .bool psk] w (MovRPost w (tokM ini sent psk 5)) := by
  have Hs := Lib.hid (show ∀ w, Calls Tryd.prog 47 #[iv 5] w fun e w' => e = .returned (.tuple #[iv 2, iv 1]) ∧ w' = w from fun w => shares_any w 5 (by omega))
  have Ka := Lib.hid (show ∀ w, Calls Tryd.prog 29 #[iv 2, .bool true] w fun e w' => e = .returned (iv 2) ∧ w' = w from fun w => keyR_any w 2 true (by omega))
  have Kb := Lib.hid (show ∀ w, Calls Tryd.prog 29 #[iv 1, .bool false] w fun e w' => e = .returned (iv 3) ∧ w' = w from fun w => keyR_any w 1 false (by omega))
  have Kc := Lib.hid (show ∀ w, Calls Tryd.prog 29 #[iv 1, .bool true] w fun e w' => e = .returned (iv 1) ∧ w' = w from fun w => keyR_any w 1 true (by omega))
  have Kd := Lib.hid (show ∀ w, Calls Tryd.prog 29 #[iv 2, .bool false] w fun e w' => e = .returned (iv 4) ∧ w' = w from fun w => keyR_any w 2 false (by omega))
  cases ini with
  | true =>
    have HT := Lib.hid (show tokM true sent psk 5 = [⟨11, 2, 3⟩] by cases sent <;> cases psk <;> rfl)
    unfold sideOf
    go_enter Tryd.func31, Tryd.ntmps31
    go_wp2_with fail
    (with_reducible refine (Hs.out _).mono ?_)
    rintro e w1 ⟨rfl, rfl⟩
    go_wp2_with fail
    (with_reducible refine (Ka.out _).mono ?_)
    rintro e w2 ⟨rfl, rfl⟩
    go_wp2_with fail
    (with_reducible refine (Kb.out _).mono ?_)
    rintro e w3 ⟨rfl, rfl⟩
    go_wp2_with fail
    go_ret
    exact ⟨Kp.new _ _, some ⟨w3.heap.size, 0, none⟩, 1, 1, rfl, by rw [HT.out]; exact MvO.new1 w3 ⟨11, 2, 3⟩, by omega⟩
  | false =>
    have HT := Lib.hid (show tokM false sent psk 5 = [⟨11, 1, 4⟩] by cases sent <;> cases psk <;> rfl)
    unfold sideOf
    go_enter Tryd.func31, Tryd.ntmps31
    go_wp2_with fail
    (with_reducible refine (Hs.out _).mono ?_)
    rintro e w1 ⟨rfl, rfl⟩
    go_wp2_with fail
    (with_reducible refine (Kc.out _).mono ?_)
    rintro e w2 ⟨rfl, rfl⟩
    go_wp2_with fail
    (with_reducible refine (Kd.out _).mono ?_)
    rintro e w3 ⟨rfl, rfl⟩
    go_wp2_with fail
    go_ret
    exact ⟨Kp.new _ _, some ⟨w3.heap.size, 0, none⟩, 1, 1, rfl, by rw [HT.out]; exact MvO.new1 w3 ⟨11, 1, 4⟩, by omega⟩

set_option maxHeartbeats 4000000 in
theorem movesR_6 (w : World) (ini sent psk : Bool) : Calls Tryd.prog 31 #[iv 6, iv (sideOf ini), .bool sent, .bool psk] w (MovRPost w (tokM ini sent psk 6)) := by
  have Hs := Lib.hid (show ∀ w, Calls Tryd.prog 47 #[iv 6] w fun e w' => e = .returned (.tuple #[iv 2, iv 2]) ∧ w' = w from fun w => shares_any w 6 (by omega))
  have Ka := Lib.hid (show ∀ w, Calls Tryd.prog 29 #[iv 2, .bool true] w fun e w' => e = .returned (iv 2) ∧ w' = w from fun w => keyR_any w 2 true (by omega))
  have Kb := Lib.hid (show ∀ w, Calls Tryd.prog 29 #[iv 2, .bool false] w fun e w' => e = .returned (iv 4) ∧ w' = w from fun w => keyR_any w 2 false (by omega))
  have Kc := Lib.hid (show ∀ w, Calls Tryd.prog 29 #[iv 2, .bool true] w fun e w' => e = .returned (iv 2) ∧ w' = w from fun w => keyR_any w 2 true (by omega))
  have Kd := Lib.hid (show ∀ w, Calls Tryd.prog 29 #[iv 2, .bool false] w fun e w' => e = .returned (iv 4) ∧ w' = w from fun w => keyR_any w 2 false (by omega))
  cases ini with
  | true =>
    have HT := Lib.hid (show tokM true sent psk 6 = [⟨11, 2, 4⟩] by cases sent <;> cases psk <;> rfl)
    unfold sideOf
    go_enter Tryd.func31, Tryd.ntmps31
    go_wp2_with fail
    (with_reducible refine (Hs.out _).mono ?_)
    rintro e w1 ⟨rfl, rfl⟩
    go_wp2_with fail
    (with_reducible refine (Ka.out _).mono ?_)
    rintro e w2 ⟨rfl, rfl⟩
    go_wp2_with fail
    (with_reducible refine (Kb.out _).mono ?_)
    rintro e w3 ⟨rfl, rfl⟩
    go_wp2_with fail
    go_ret
    exact ⟨Kp.new _ _, some ⟨w3.heap.size, 0, none⟩, 1, 1, rfl, by rw [HT.out]; exact MvO.new1 w3 ⟨11, 2, 4⟩, by omega⟩
  | false =>
    have HT := Lib.hid (show tokM false sent psk 6 = [⟨11, 2, 4⟩] by cases sent <;> cases psk <;> rfl)
    unfold sideOf
    go_enter Tryd.func31, Tryd.ntmps31
    go_wp2_with fail
    (with_reducible refine (Hs.out _).mono ?_)
    rintro e w1 ⟨rfl, rfl⟩
    go_wp2_with fail
    (with_reducible refine (Kc.out _).mono ?_)
    rintro e w2 ⟨rfl, rfl⟩
    go_wp2_with fail
    (with_reducible refine (Kd.out _).mono ?_)
    rintro e w3 ⟨rfl, rfl⟩
    go_wp2_with fail
    go_ret
    exact ⟨Kp.new _ _, some ⟨w3.heap.size, 0, none⟩, 1, 1, rfl, by rw [HT.out]; exact MvO.new1 w3 ⟨11, 2, 4⟩, by omega⟩

theorem movesR_any (w : World) (ini sent psk : Bool) (t : Int) (h1 : 1 ≤ t) (h7 : t ≤ 7) : Calls Tryd.prog 31 #[iv t, iv (sideOf ini), .bool sent, .bool psk] w (MovRPost w (tokM ini sent psk t)) := by
  rcases (show t = 1 ∨ t = 2 ∨ t = 3 ∨ t = 4 ∨ t = 5 ∨ t = 6 ∨ t = 7 by omega) with rfl | rfl | rfl | rfl | rfl | rfl | rfl
  · exact movesR_1 w ini sent psk
  · exact movesR_2 w ini sent psk
  · exact movesR_3 w ini sent psk
  · exact movesR_4 w ini sent psk
  · exact movesR_5 w ini sent psk
  · exact movesR_6 w ini sent psk
  · exact movesR_7 w ini sent psk
end Go.Proofs.YtpemfmjplejdiaaDoor

namespace Go.Proofs.YtpemfmjplejdiaaDoor
open Go.RowKit

/-- Two patterns, but for their names. -/
def sameL (b0 b1 : List Int) (ls : List Ln) (d0 d1 : List Int) (ms : List Ln) : Bool := b0 == d0 && (b1 == d1 && ls == ms)

theorem lists_kp (w : World) (ao bo : Option Addr) (n m c d : Nat) (xs ys : List Int) (hx : Is w ao n xs) (hy : Is w bo m ys) :
    Calls Tryd.prog 33 #[.slice ao n c, .slice bo m d] w fun e w' => e = .returned (.bool (xs == ys)) ∧ Kp w w' :=
  (lists_any w ao bo n m c d xs ys hx hy).mono (by rintro e w' ⟨rfl, q, rfl⟩; exact ⟨rfl, Kp.of_drewN _ _⟩)

set_option maxRecDepth 100000 in
set_option maxHeartbeats 4000000 in
theorem same_any (w : World) (nm nm' : ByteArray) (a0 a1 al e0 e1 el : Option Addr) (n0 c0 n1 c1 nl cl m0 f0 m1 f1 ml fl : Nat) (b0 b1 : List Int) (ls : List Ln) (d0 d1 : List Int) (ms : List Ln)
    (h0 : Is w a0 n0 b0) (h1 : Is w a1 n1 b1) (hl : Lns w al nl ls) (g0 : Is w e0 m0 d0) (g1 : Is w e1 m1 d1) (gl : Lns w el ml ms) :
    Calls Tryd.prog 18 #[.agg #[.string nm, .slice a0 n0 c0, .slice a1 n1 c1, .slice al nl cl], .agg #[.string nm', .slice e0 m0 f0, .slice e1 m1 f1, .slice el ml fl]] w fun e w' => e = .returned (.bool (sameL b0 b1 ls d0 d1 ms)) ∧ Kp w w' := by
  have hnl := hl.2.1
  have hml := gl.2.1
  have Hll := Lib.hid hl.1
  have Hml := Lib.hid gl.1
  have hk1 := Kp.new w (.cells #[.string nm, .slice a0 n0 c0, .slice a1 n1 c1, .slice al nl cl] 26)
  have hk2 := Kp.new (w.alloc (.cells #[.string nm, .slice a0 n0 c0, .slice a1 n1 c1, .slice al nl cl] 26)) (.cells #[.string nm', .slice e0 m0 f0, .slice e1 m1 f1, .slice el ml fl] 26)
  have hA : ∀ j v, [Value.string nm, .slice a0 n0 c0, .slice a1 n1 c1, .slice al nl cl][j]? = some v → ((w.alloc (.cells #[.string nm, .slice a0 n0 c0, .slice a1 n1 c1, .slice al nl cl] 26)).alloc (.cells #[.string nm', .slice e0 m0 f0, .slice e1 m1 f1, .slice el ml fl] 26)).cell? ⟨w.heap.size, j, none⟩ = some v := fun j v hv => by
    refine Kp.cell hk2 ?_
    rw [World.cell?_alloc_at _ _ _ _ rfl]
    simpa using hv
  have hB : ∀ j v, [Value.string nm', .slice e0 m0 f0, .slice e1 m1 f1, .slice el ml fl][j]? = some v → ((w.alloc (.cells #[.string nm, .slice a0 n0 c0, .slice a1 n1 c1, .slice al nl cl] 26)).alloc (.cells #[.string nm', .slice e0 m0 f0, .slice e1 m1 f1, .slice el ml fl] 26)).cell? ⟨w.heap.size + 1, j, none⟩ = some v := fun j v hv => by
    rw [World.cell?_alloc_at _ _ _ _ (by simp)]
    simpa using hv
  have hkw := Kp.trans hk1 hk2
  have A1 := hA 1 _ rfl
  have A2 := hA 2 _ rfl
  have A3 := hA 3 _ rfl
  have B1 := hB 1 _ rfl
  have B2 := hB 2 _ rfl
  have B3 := hB 3 _ rfl
  clear hA hB hk1 hk2
  go_enter Tryd.func18, Tryd.ntmps18
  go_wp2_with fail
  generalize (w.alloc (.cells #[.string nm, .slice a0 n0 c0, .slice a1 n1 c1, .slice al nl cl] 26)).alloc (.cells #[.string nm', .slice e0 m0 f0, .slice e1 m1 f1, .slice el ml fl] 26) = wb at *
  (with_reducible refine (lists_kp wb a0 e0 n0 m0 c0 f0 b0 d0 (Kp.is hkw h0) (Kp.is hkw g0)).mono ?_)
  rintro e w1 ⟨rfl, hk1⟩
  have A1 := Kp.cell hk1 A1
  have A2 := Kp.cell hk1 A2
  have A3 := Kp.cell hk1 A3
  have B1 := Kp.cell hk1 B1
  have B2 := Kp.cell hk1 B2
  have B3 := Kp.cell hk1 B3
  have hkw := Kp.trans hkw hk1
  cases hq0 : b0 == d0 with
  | false =>
    have HF := Lib.hid (show sameL b0 b1 ls d0 d1 ms = false by unfold sameL; rw [hq0]; rfl)
    clear hq0
    go_wp2_with fail
    go_ret
    exact ⟨by rw [HF.out]; rfl, hkw⟩
  | true =>
    have Hq0 := Lib.hid hq0; clear hq0
    go_wp2_with fail
    (with_reducible refine (lists_kp w1 a1 e1 n1 m1 c1 f1 b1 d1 (Kp.is hkw h1) (Kp.is hkw g1)).mono ?_)
    rintro e w2 ⟨rfl, hk2⟩
    have A3 := Kp.cell hk2 A3
    have B3 := Kp.cell hk2 B3
    have hkw := Kp.trans hkw hk2
    cases hq1 : b1 == d1 with
    | false =>
      have HF := Lib.hid (show sameL b0 b1 ls d0 d1 ms = false by unfold sameL; rw [hq1]; simp)
      clear hq1
      go_wp2_with fail
      go_ret
      exact ⟨by rw [HF.out]; rfl, hkw⟩
    | true =>
      have HF0 := Lib.hid (show sameL b0 b1 ls d0 d1 ms = (ls == ms) by unfold sameL; rw [Hq0.out, hq1]; simp)
      clear hq1
      by_cases hnm : nl = ml
      · subst hnm
        go_wp2_with fail
        go_loopw [5] (fun i wr => ∃ k : Nat, k ≤ nl ∧ i = .int .i64 k ∧ Kp w2 wr ∧ ls.take k = ms.take k) (fun i _ => nl - (intOf i).toNat)
        case atStart => exact ⟨0, by omega, rfl, Kp.refl _, rfl⟩
        case round =>
          obtain ⟨k, hk, rfl, hkk, htk⟩ := hrel
          have A3 := Kp.cell hkk A3
          have B3 := Kp.cell hkk B3
          have hkr := Kp.trans hkw hkk
          by_cases hlt : k < nl
          · have hkl : k < ls.length := by rw [Hll.out]; exact hlt
            have hkm : k < ms.length := by rw [Hml.out]; exact hlt
            obtain ⟨b, off, tp, tn, tc, rfl, hc1, hc2, hI, htn⟩ := hl.2.2 k hkl
            obtain ⟨b', off', tp', tn', tc', rfl, hd1, hd2, hJ, htn'⟩ := gl.2.2 k hkm
            have hc1 := Kp.cell hkr hc1
            have hc2 := Kp.cell hkr hc2
            have hd1 := Kp.cell hkr hd1
            have hd2 := Kp.cell hkr hd2
            have hcut := lists_cut ls ms (by rw [Hll.out, Hml.out]) k hkl htk
            obtain ⟨f, ts, hft⟩ : ∃ f ts, ls[k] = (f, ts) := ⟨_, _, rfl⟩
            obtain ⟨f', ts', hft'⟩ : ∃ f ts, ms[k] = (f, ts) := ⟨_, _, rfl⟩
            rw [hft] at hc1 hI hcut
            rw [hft'] at hd1 hJ hcut
            have hI : Is w tp tn ts := hI
            have hJ : Is w tp' tn' ts' := hJ
            have hc1 : wr.cell? ⟨b, off + k * 2, none⟩ = some (iv f) := hc1
            have hd1 : wr.cell? ⟨b', off' + k * 2, none⟩ = some (iv f') := hd1
            have Hcall := Lib.hid (show ∀ q, Calls Tryd.prog 33 #[.slice tp tn tc, .slice tp' tn' tc'] (wr.drewN q) fun e w' => e = .returned (.bool (ts == ts')) ∧ ∃ k, w' = (wr.drewN q).drewN k from fun q => lists_any (wr.drewN q) tp tp' tn tn' tc tc' ts ts' (Kp.is (Kp.trans hkr (Kp.of_drewN _ _)) hI) (Kp.is (Kp.trans hkr (Kp.of_drewN _ _)) hJ))
            clear hft hft' hI hJ htk
            by_cases hff : f = f'
            · subst hff
              have hfb : (f != f) = false := by simp
              cases hts : ts == ts' with
              | true =>
                obtain rfl : ts = ts' := by simpa using hts
                have Hc := Lib.hid (hcut.1 rfl)
                have Hc2 := Lib.hid hts
                clear hcut hts
                go_wp2_with fail
                rw [Hc2.out] at Hcall
                go_quiet ((go_at_call 33; exact Calls.quiet_of (Hcall.out _)))
                go_wp2_with fail
                go_roundw
                case rel => exact ⟨k + 1, by omega, by go_num, Kp.trans hkk (Kp.of_drewN _ _), Hc.out⟩
                case measure => simp [intOf]; omega
              | false =>
                have HF := Lib.hid (show sameL b0 b1 ls d0 d1 ms = false by
                  rw [HF0.out]
                  have := hcut.2 (by intro h; simp only [Prod.mk.injEq, true_and] at h; rw [h] at hts; simp at hts)
                  simpa using this)
                rw [hts] at Hcall
                clear hcut hts
                go_wp2_with fail
                go_quiet ((go_at_call 33; exact Calls.quiet_of (Hcall.out _)))
                go_wp2_with fail
                go_ret
                exact ⟨by rw [HF.out]; rfl, Kp.trans hkr (Kp.of_drewN _ _)⟩
            · have hfb : (f != f') = true := by simpa using hff
              have HF := Lib.hid (show sameL b0 b1 ls d0 d1 ms = false by
                rw [HF0.out]
                have := hcut.2 (by intro h; simp only [Prod.mk.injEq] at h; exact hff h.1)
                simpa using this)
              clear hcut hff
              go_wp2_with fail
              go_quiet (fail)
              go_wp2_with fail
              go_ret
              exact ⟨by rw [HF.out]; rfl, Kp.trans hkr (Kp.of_drewN _ _)⟩
          · have HF := Lib.hid (show sameL b0 b1 ls d0 d1 ms = true by
              rw [HF0.out]
              rw [List.take_of_length_le (by rw [Hll.out]; omega), List.take_of_length_le (by rw [Hml.out]; omega)] at htk
              simp [htk])
            clear htk
            go_wp2_with fail
            go_ret
            exact ⟨by rw [HF.out]; rfl, hkr⟩
      · have HF := Lib.hid (show sameL b0 b1 ls d0 d1 ms = false by
          rw [HF0.out]
          cases hq : (ls == ms) with
          | false => rfl
          | true => exact absurd (by rw [← Hll.out, ← Hml.out, beq_iff_eq.1 hq]) hnm)
        have hb : ((nl : Int) != (ml : Int)) = true := by simp; omega
        clear hnm
        go_wp2_with fail
        go_ret
        exact ⟨by rw [HF.out]; rfl, hkw⟩
end Go.Proofs.YtpemfmjplejdiaaDoor

namespace Go.Proofs.YtpemfmjplejdiaaDoor
open Go.RowKit

def SomeBool (w : World) (e : Ending) (w' : World) : Prop := ∃ b, e = .returned (.bool b) ∧ Kp w w'

set_option maxRecDepth 100000 in
set_option maxHeartbeats 2000000 in
theorem large_any (w : World) (nm : ByteArray) (a0 a1 al : Option Addr) (n0 c0 n1 c1 nl cl : Nat) (b0 b1 : List Int) (ls : List Ln) (hnm : nm.size ≤ 9223372036854775807) (h0 : Is w a0 n0 b0) (h1 : Is w a1 n1 b1) (hl : Lns w al nl ls) :
    Calls Tryd.prog 9 #[.agg #[.string nm, .slice a0 n0 c0, .slice a1 n1 c1, .slice al nl cl]] w (SomeBool w) := by
  have hn0 := h0.2.1
  have hn1 := h1.2.1
  unfold maxLen at hn0 hn1
  have hnl := hl.2.1
  have Hll := Lib.hid hl.1
  have hk1 := Kp.new w (.cells #[.string nm, .slice a0 n0 c0, .slice a1 n1 c1, .slice al nl cl] 26)
  by_cases c1' : 1000 < nl
  · go_enter Tryd.func9, Tryd.ntmps9
    go_wp2_with fail
    go_ret
    exact ⟨_, rfl, hk1⟩
  · by_cases c2' : 1000 < n0
    · go_enter Tryd.func9, Tryd.ntmps9
      go_wp2_with fail
      go_ret
      exact ⟨_, rfl, hk1⟩
    · by_cases c3' : 1000 < n1
      · go_enter Tryd.func9, Tryd.ntmps9
        go_wp2_with fail
        go_ret
        exact ⟨_, rfl, hk1⟩
      · by_cases c4' : 1000 < nm.size
        · go_enter Tryd.func9, Tryd.ntmps9
          go_wp2_with fail
          go_ret
          exact ⟨_, rfl, hk1⟩
        · have hnew : (w.alloc (.cells #[.string nm, .slice a0 n0 c0, .slice a1 n1 c1, .slice al nl cl] 26)).cell? ⟨w.heap.size, 3, none⟩ = some (.slice al nl cl) := by rw [World.cell?_alloc_at _ _ _ _ rfl]; rfl
          go_enter Tryd.func9, Tryd.ntmps9
          go_wp2_with fail
          generalize w.alloc (.cells #[.string nm, .slice a0 n0 c0, .slice a1 n1 c1, .slice al nl cl] 26) = wb at *
          go_loopw [3, 4] (fun t i wr => ∃ k n : Nat, k ≤ nl ∧ n ≤ 1000 ∧ i = .int .i64 k ∧ t = .int .i64 n ∧ wb = wr) (fun _ i _ => nl - (intOf i).toNat)
          case atStart => exact ⟨0, 0, by omega, by omega, rfl, rfl, rfl⟩
          case round =>
            obtain ⟨k, n, hk, hn, rfl, rfl, rfl⟩ := hrel
            by_cases hlt : k < nl
            · have hkl : k < ls.length := by rw [Hll.out]; exact hlt
              obtain ⟨b, off, tp, tn, tc, rfl, hd1, hd2, hI, htn⟩ := hl.2.2 k hkl
              have hd2 := Kp.cell hk1 hd2
              by_cases hov : n + tn ≤ 1000
              · go_wp2_with fail
                go_roundw
                case rel => exact ⟨k + 1, n + tn, by omega, hov, by go_num, rfl, trivial⟩
                case measure => simp [intOf]; omega
              · go_wp2_with fail
                go_ret
                exact ⟨_, rfl, hk1⟩
            · go_wp2_with fail
              go_ret
              exact ⟨_, rfl, hk1⟩
end Go.Proofs.YtpemfmjplejdiaaDoor

namespace Go.Proofs.YtpemfmjplejdiaaDoor
open Go.RowKit

/-- What is not large has short lists. -/
def SmallP (n0 n1 nl sz : Nat) (ls : List Ln) : Prop := n0 ≤ 1000 ∧ n1 ≤ 1000 ∧ nl ≤ 1000 ∧ sz ≤ 1000 ∧ ∀ j (h : j < ls.length), ls[j].2.length ≤ 1000
def LargePost (w : World) (n0 n1 nl sz : Nat) (ls : List Ln) (e : Ending) (w' : World) : Prop := ∃ b, e = .returned (.bool b) ∧ Kp w w' ∧ (b = false → SmallP n0 n1 nl sz ls)

set_option maxRecDepth 100000 in
set_option maxHeartbeats 2000000 in
theorem largeB_any (w : World) (nm : ByteArray) (a0 a1 al : Option Addr) (n0 c0 n1 c1 nl cl : Nat) (b0 b1 : List Int) (ls : List Ln) (hnm : nm.size ≤ 9223372036854775807) (h0 : Is w a0 n0 b0) (h1 : Is w a1 n1 b1) (hl : Lns w al nl ls) :
    Calls Tryd.prog 9 #[.agg #[.string nm, .slice a0 n0 c0, .slice a1 n1 c1, .slice al nl cl]] w (LargePost w n0 n1 nl nm.size ls) := by
  have hn0 := h0.2.1
  have hn1 := h1.2.1
  unfold maxLen at hn0 hn1
  have hnl := hl.2.1
  have Hll := Lib.hid hl.1
  have hk1 := Kp.new w (.cells #[.string nm, .slice a0 n0 c0, .slice a1 n1 c1, .slice al nl cl] 26)
  by_cases c1' : 1000 < nl
  · go_enter Tryd.func9, Tryd.ntmps9
    go_wp2_with fail
    go_ret
    exact ⟨_, rfl, hk1, fun h => by cases h⟩
  · by_cases c2' : 1000 < n0
    · go_enter Tryd.func9, Tryd.ntmps9
      go_wp2_with fail
      go_ret
      exact ⟨_, rfl, hk1, fun h => by cases h⟩
    · by_cases c3' : 1000 < n1
      · go_enter Tryd.func9, Tryd.ntmps9
        go_wp2_with fail
        go_ret
        exact ⟨_, rfl, hk1, fun h => by cases h⟩
      · by_cases c4' : 1000 < nm.size
        · go_enter Tryd.func9, Tryd.ntmps9
          go_wp2_with fail
          go_ret
          exact ⟨_, rfl, hk1, fun h => by cases h⟩
        · have hnew : (w.alloc (.cells #[.string nm, .slice a0 n0 c0, .slice a1 n1 c1, .slice al nl cl] 26)).cell? ⟨w.heap.size, 3, none⟩ = some (.slice al nl cl) := by rw [World.cell?_alloc_at _ _ _ _ rfl]; rfl
          go_enter Tryd.func9, Tryd.ntmps9
          go_wp2_with fail
          generalize w.alloc (.cells #[.string nm, .slice a0 n0 c0, .slice a1 n1 c1, .slice al nl cl] 26) = wb at *
          go_loopw [3, 4] (fun t i wr => ∃ k n : Nat, k ≤ nl ∧ n ≤ 1000 ∧ i = .int .i64 k ∧ t = .int .i64 n ∧ wb = wr ∧ ∀ j (h : j < ls.length), j < k → ls[j].2.length ≤ 1000) (fun _ i _ => nl - (intOf i).toNat)
          case atStart => exact ⟨0, 0, by omega, by omega, rfl, rfl, rfl, fun j _ h => absurd h (by omega)⟩
          case round =>
            obtain ⟨k, n, hk, hn, rfl, rfl, rfl, hall⟩ := hrel
            have Hall := Lib.hid hall; clear hall
            by_cases hlt : k < nl
            · have hkl : k < ls.length := by rw [Hll.out]; exact hlt
              obtain ⟨b, off, tp, tn, tc, rfl, hd1, hd2, hI, htn⟩ := hl.2.2 k hkl
              have hd2 := Kp.cell hk1 hd2
              have Hlen := Lib.hid hI.1
              by_cases hov : n + tn ≤ 1000
              · go_wp2_with fail
                go_roundw
                case rel =>
                  refine ⟨k + 1, n + tn, by omega, hov, by go_num, rfl, trivial, fun j h hj => ?_⟩
                  rcases Nat.lt_or_ge j k with q | q
                  · exact Hall.out j h q
                  · obtain rfl : j = k := by omega
                    rw [Hlen.out]; omega
                case measure => simp [intOf]; omega
              · go_wp2_with fail
                go_ret
                exact ⟨_, rfl, hk1, fun h => by cases h⟩
            · go_wp2_with fail
              go_ret
              exact ⟨_, rfl, hk1, fun _ => ⟨by omega, by omega, by omega, by omega, fun j h => Hall.out j h (by rw [Hll.out] at h; omega)⟩⟩
end Go.Proofs.YtpemfmjplejdiaaDoor

namespace Go.Proofs.YtpemfmjplejdiaaDoor
open Go.RowKit

/-- A slice value's parts read a list of strings. -/
def Strs (w : World) (ao : Option Addr) (n : Nat) (ss : List ByteArray) : Prop := ss.length = n ∧ n ≤ maxLen ∧ Cs w ao (ss.map .string)
theorem Kp.strs {w w' : World} (h : Kp w w') {ao : Option Addr} {n : Nat} {ss : List ByteArray} (hx : Strs w ao n ss) : Strs w' ao n ss := ⟨hx.1, hx.2.1, h.cs hx.2.2⟩
theorem Strs.at {w : World} {ao : Option Addr} {n : Nat} {ss : List ByteArray} (h : Strs w ao n ss) (k : Nat) (hk : k < n) :
    ∃ b off, ao = some ⟨b, off, none⟩ ∧ ∀ j, (hj : j < n) → w.cell? ⟨b, off + j, none⟩ = some (.string (ss[j]'(by rw [h.1]; exact hj))) := by
  obtain ⟨h1, _, h2⟩ := h
  obtain ⟨b, off, rfl, hc⟩ := h2.at k (by simp; omega)
  exact ⟨b, off, rfl, fun j hj => hc j _ (by simp [show j < ss.length by omega])⟩

def cutAt (s : ByteArray) (c : UInt8) (k : Nat) : Bool := k == s.size || (s.data.toList.getD k 0 == c)
def splitTo (s : ByteArray) (c : UInt8) : Nat → List ByteArray × Nat
  | 0 => ([], 0)
  | k + 1 => if cutAt s c k then ((splitTo s c k).1 ++ [s.extract (splitTo s c k).2 k], k + 1) else splitTo s c k
def splitL (s : ByteArray) (c : UInt8) : List ByteArray := (splitTo s c (s.size + 1)).1
theorem splitTo_le (s : ByteArray) (c : UInt8) (k : Nat) : (splitTo s c k).2 ≤ k ∧ (splitTo s c k).1.length ≤ k := by
  induction k with
  | zero => exact ⟨Nat.le_refl _, Nat.le_refl _⟩
  | succ k ih =>
    unfold splitTo
    split
    · exact ⟨Nat.le_refl _, by simp; omega⟩
    · omega
theorem el100 : El Tryd.prog 100 9 (.string ⟨#[]⟩) 1 16 := ⟨Tryd.underlying100, by kernel_rfl, rfl, by decide, by decide⟩
def SplitPost (w : World) (ss : List ByteArray) (e : Ending) (w' : World) : Prop := Kp w w' ∧ ∃ ao n cap, e = .returned (.slice ao n cap) ∧ Strs w' ao n ss ∧ ∀ k ∈ blkL ao, w.heap.size ≤ k
theorem Own.strs {w : World} {base : Nat} {e : TypeId} {ao : Option Addr} {n cap : Nat} {ss : List ByteArray} (h : Own w base e 1 ao n cap (ss.map .string)) : Strs w ao n ss := by
  have hl := h.1
  refine ⟨by simpa using hl, ?_, h.cs⟩
  rcases h.2 with ⟨_, hn⟩ | ⟨g, cap', cur, hv, _, _, h1, h2, _⟩
  · omega
  · exact Nat.le_trans h1 h2

theorem getD_byte {s : ByteArray} {k : Nat} (h : k < s.size) : s.data.toList.getD k 0 = s[k]'h := by
  have h' : k < s.data.toList.length := by simpa using h
  rw [List.getD, List.getElem?_eq_getElem h']
  rfl
theorem byte_at {s : ByteArray} {c : UInt8} {k : Nat} (h : k < s.size) (hc : cutAt s c k = true) (hk : ¬ k = s.size) : (((s[k]'h).toNat : Int) == (c.toNat : Int)) = true := by
  unfold cutAt at hc
  rw [getD_byte h, Bool.or_eq_true, beq_iff_eq, beq_iff_eq] at hc
  rcases hc with hc | hc
  · exact absurd hc hk
  · rw [hc]; simp
theorem byte_not {s : ByteArray} {c : UInt8} {k : Nat} (h : k < s.size) (hc : cutAt s c k = false) : (((s[k]'h).toNat : Int) == (c.toNat : Int)) = false := by
  unfold cutAt at hc
  rw [getD_byte h, Bool.or_eq_false_iff] at hc
  have h2 : s[k]'h ≠ c := by simpa using hc.2
  cases hq : (((s[k]'h).toNat : Int) == (c.toNat : Int)) with
  | false => rfl
  | true => exact absurd (UInt8.toNat_inj.1 (by have := beq_iff_eq.1 hq; omega)) h2
theorem kp_step' {w0 w w' : World} {X : List Nat} (hk : Kp w0 w) (k : Fr X w w') (h : ∀ j ∈ X, w0.heap.size ≤ j) : Kp w0 w' := ((Fr.of_kp hk).step k (fun j hj => .inr (h j hj))).kp
theorem kp_own {w wr wr1 w2 : World} (h : Kp w wr) (k : Kp wr wr1) {e : TypeId} {ao ao2 : Option Addr} {n cap m N cap2 : Nat} {xs zs : List Value} (hO : Own wr w.heap.size e 1 ao n cap xs) (a : Appd wr1 w2 w.heap.size e 1 ao cap m N zs ao2 cap2) : Kp w w2 :=
  kp_step' (Kp.trans h k) a.fr (fun j hj => (hO.lt j (mem_blkL.1 hj)).1)
set_option maxRecDepth 100000 in
set_option maxHeartbeats 4000000 in
theorem split_any (w : World) (s : ByteArray) (c : UInt8) (hs : s.size ≤ 1000) : Calls Tryd.prog 51 #[.string s, .int .u8 (c.toNat : Int)] w (SplitPost w (splitL s c)) := by
  have hc := c.toNat_lt
  go_enter Tryd.func51, Tryd.ntmps51
  go_wp2_with fail
  go_loopw [5, 6, 7] (fun l at_ i wr => ∃ k n cap p ao, k ≤ s.size + 1 ∧ i = .int .i64 (k : Nat) ∧ at_ = .int .i64 (p : Nat) ∧ p = (splitTo s c k).2 ∧ l = .slice ao n cap ∧ n ≤ k ∧ Own wr w.heap.size 9 1 ao n cap ((splitTo s c k).1.map .string) ∧ Kp w wr) (fun _ _ i _ => s.size + 1 - (intOf i).toNat)
  case atStart => exact ⟨0, 0, 0, 0, none, by omega, rfl, rfl, rfl, rfl, by omega, Own.nil _ _ _ _, Kp.refl _⟩
  case round =>
    obtain ⟨k, n, cap, p, ao, hk, rfl, rfl, hp, rfl, hn, hO, hkk⟩ := hrel
    have hle := (splitTo_le s c k).1
    rw [← hp] at hle
    have Hp := Lib.hid hp; clear hp
    by_cases hlt : k ≤ s.size
    · have hstep : splitTo s c (k + 1) = if cutAt s c k then ((splitTo s c k).1 ++ [s.extract p k], k + 1) else splitTo s c k := by
        rw [Hp.out]; rfl
      have Hstep := Lib.hid hstep; clear hstep
      cases hcut : cutAt s c k with
      | true =>
        have H1 := Lib.hid (show (splitTo s c (k + 1)).1 = (splitTo s c k).1 ++ [s.extract p k] by rw [Hstep.out, hcut]; rfl)
        have H2 := Lib.hid (show (splitTo s c (k + 1)).2 = k + 1 by rw [Hstep.out, hcut]; rfl)
        have Hz := Lib.hid (show ((splitTo s c (k + 1)).1.map Value.string) = (splitTo s c k).1.map Value.string ++ [.string (s.extract p k)] by rw [H1.out]; simp)
        by_cases hks : k = s.size
        · have hb : ((k : Int) == (s.size : Int)) = true := by simp [hks]
          clear hcut hks
          go_wp2_with (at_builtin; refine wpList_app rfl (.tmp 25) (.tmp 30) 100 rfl el100 w.heap.size rfl (hO.keep (Kp.new _ _)) rfl [.string (s.extract p k)] rfl (Cs.new wr [.string (s.extract p k)] 9 (0, 0)) (by simp [Value.oneCell']) (n + 1) rfl ((splitTo s c (k + 1)).1.map .string) Hz.out (by omega) (Nat.le_trans hkk.size (by simp)) ?_; intro ao2 cap2 w2 ha)
          have hk2 : Kp w w2 := kp_own hkk (Kp.new wr (.cells #[.string (s.extract p k)] 9)) hO ha
          have hO2 := ha.own
          clear ha
          go_roundw
          case rel => exact ⟨k + 1, n + 1, cap2, k + 1, ao2, by omega, by go_num, by go_num, H2.out.symm, rfl, by omega, hO2, hk2⟩
          case measure => simp [intOf]; omega
        · have hk1 : k < s.size := by omega
          have hb : ((k : Int) == (s.size : Int)) = false := by simp; omega
          have hb2 : (((s[k]'hk1).toNat : Int) == (c.toNat : Int)) = true := byte_at hk1 hcut hks
          clear hcut hks
          go_wp2_with (at_builtin; refine wpList_app rfl (.tmp 25) (.tmp 30) 100 rfl el100 w.heap.size rfl (hO.keep (Kp.new _ _)) rfl [.string (s.extract p k)] rfl (Cs.new wr [.string (s.extract p k)] 9 (0, 0)) (by simp [Value.oneCell']) (n + 1) rfl ((splitTo s c (k + 1)).1.map .string) Hz.out (by omega) (Nat.le_trans hkk.size (by simp)) ?_; intro ao2 cap2 w2 ha)
          have hk2 : Kp w w2 := kp_own hkk (Kp.new wr (.cells #[.string (s.extract p k)] 9)) hO ha
          have hO2 := ha.own
          clear ha
          go_roundw
          case rel => exact ⟨k + 1, n + 1, cap2, k + 1, ao2, by omega, by go_num, by go_num, H2.out.symm, rfl, by omega, hO2, hk2⟩
          case measure => simp [intOf]; omega
      | false =>
        have H1 := Lib.hid (show splitTo s c (k + 1) = splitTo s c k by rw [Hstep.out, hcut]; rfl)
        have hks : k ≠ s.size := fun h => by simp [cutAt, h] at hcut
        have hk1 : k < s.size := by omega
        have hb : ((k : Int) == (s.size : Int)) = false := by simp; omega
        have hb2 : (((s[k]'hk1).toNat : Int) == (c.toNat : Int)) = false := byte_not hk1 hcut
        clear hcut hks
        go_wp2_with fail
        go_roundw
        case rel => exact ⟨k + 1, n, cap, p, ao, by omega, by go_num, rfl, by rw [H1.out]; exact Hp.out, rfl, by omega, by rw [H1.out]; exact hO, hkk⟩
        case measure => simp [intOf]; omega
    · obtain rfl : k = s.size + 1 := by omega
      have hpost : SplitPost w (splitL s c) (.returned (.slice ao n cap)) wr := ⟨hkk, ao, n, cap, rfl, hO.strs, fun k hk => (hO.lt k (mem_blkL.1 hk)).1⟩
      have Hpost := Lib.hid hpost; clear hpost hO
      go_wp2_with fail
      go_ret
      exact Hpost.out
end Go.Proofs.YtpemfmjplejdiaaDoor

namespace Go.Proofs.YtpemfmjplejdiaaDoor
open Go.RowKit

def wordL (t : Nat) : ByteArray :=
  if t = 1 then ⟨#[101]⟩ else if t = 2 then ⟨#[115]⟩ else if t = 3 then ⟨#[101, 101]⟩ else if t = 4 then ⟨#[101, 115]⟩ else if t = 5 then ⟨#[115, 101]⟩ else if t = 6 then ⟨#[115, 115]⟩ else ⟨#[112, 115, 107]⟩
set_option maxHeartbeats 1000000 in
theorem word_any (w : World) (t : Nat) (h1 : 1 ≤ t) (h7 : t ≤ 7) : Calls Tryd.prog 55 #[iv (t : Int)] w fun e w' => e = .returned (.string (wordL t)) ∧ w' = w := by
  rcases (show t = 1 ∨ t = 2 ∨ t = 3 ∨ t = 4 ∨ t = 5 ∨ t = 6 ∨ t = 7 by omega) with rfl | rfl | rfl | rfl | rfl | rfl | rfl
  all_goals
    go_enter Tryd.func55, Tryd.ntmps55
    go_wp2
    go_ret
    exact ⟨rfl, rfl⟩

def tokOf (x : ByteArray) : Nat → List Int
  | 0 => []
  | j + 1 => tokOf x j ++ (if ((wordL (j + 1)).toList == x.toList) = true then [((j + 1 : Nat) : Int)] else [])
def tokL (s : ByteArray) : List Int := if s.size = 0 then [] else (splitL s 32).flatMap (tokOf · 7)
def TokPost (w : World) (xs : List Int) (e : Ending) (w' : World) : Prop := Kp w w' ∧ ∃ ao n cap, e = .returned (.slice ao n cap) ∧ Is w' ao n xs ∧ n ≤ 7007 ∧ n ≤ cap ∧ ∀ k ∈ blkL ao, w.heap.size ≤ k ∧ k < w'.heap.size
theorem Own.is {w : World} {base : Nat} {e : TypeId} {ao : Option Addr} {n cap : Nat} {xs : List Int} (h : Own w base e 1 ao n cap (xs.map iv)) : Is w ao n xs := by
  have hl := h.1
  refine ⟨by simpa using hl, ?_, h.cs⟩
  rcases h.2 with ⟨_, hn⟩ | ⟨g, cap', cur, hv, _, _, h1, h2, _⟩
  · omega
  · exact Nat.le_trans h1 h2
theorem empty_iff (s : ByteArray) : s.toList.isEmpty = decide (s.size = 0) := by
  rw [ByteArray.toList_eq]
  show s.data.toList.isEmpty = decide (s.data.size = 0)
  rw [← Array.length_toList]
  cases s.data.toList <;> simp

set_option maxRecDepth 100000 in
set_option maxHeartbeats 4000000 in
theorem tokens_any (w : World) (s : ByteArray) (hs : s.size ≤ 1000) : Calls Tryd.prog 52 #[.string s] w (TokPost w (tokL s)) := by
  by_cases h0 : s.size = 0
  · have hpost : TokPost w (tokL s) (.returned (.slice none 0 0)) w := ⟨Kp.refl _, none, 0, 0, rfl, by unfold tokL; rw [if_pos h0]; exact Is.zero _ _, by omega, by omega, fun k hk => by simp [blkL, blk] at hk⟩
    have Hpost := Lib.hid hpost
    have hb : s.toList.isEmpty = true := by rw [empty_iff, h0]; rfl
    clear hpost h0
    go_enter Tryd.func52, Tryd.ntmps52
    go_wp2_with fail
    go_ret
    exact Hpost.out
  · have hb : s.toList.isEmpty = false := by rw [empty_iff]; simpa using h0
    have hsp := split_any w s 32 hs
    rw [show ((UInt8.toNat 32 : Nat) : Int) = 32 from rfl] at hsp
    have Hsp := Lib.hid hsp; clear hsp
    have HT := Lib.hid (show tokL s = (splitL s 32).flatMap (tokOf · 7) by unfold tokL; rw [if_neg h0])
    clear h0
    go_enter Tryd.func52, Tryd.ntmps52
    go_wp2_with fail
    (with_reducible refine Hsp.out.mono ?_)
    rintro e w1 ⟨hk1, bo, m, bc, rfl, hS, _⟩
    have hm : m ≤ 1001 := by rw [← hS.1]; have := (splitTo_le s 32 (s.size + 1)).2; unfold splitL; omega
    obtain ⟨ss, hss⟩ : ∃ ss, ss = splitL s 32 := ⟨_, rfl⟩
    rw [← hss] at hS HT
    clear hss
    have Hl := Lib.hid hS.1
    go_wp2_with fail
    go_loopw [3, 5] (fun l i wr => ∃ k n cap ao, k ≤ m ∧ i = .int .i64 (k : Nat) ∧ l = .slice ao n cap ∧ n ≤ 7 * k ∧ Own wr w1.heap.size 3 1 ao n cap (((ss.take k).flatMap (tokOf · 7)).map iv) ∧ Kp w1 wr) (fun _ i _ => m - (intOf i).toNat)
    case atStart => exact ⟨0, 0, 0, none, by omega, rfl, rfl, by omega, Own.nil _ _ _ _, Kp.refl _⟩
    case round =>
      obtain ⟨k, n, cap, ao, hk, rfl, rfl, hn, hO, hkk⟩ := hrel
      by_cases hlt : k < m
      · obtain ⟨b, off, rfl, hcc⟩ := hS.at k hlt
        have hck := hcc k hlt
        have hkl : k < ss.length := by rw [Hl.out]; exact hlt
        have hsucc := flatMap_take (tokOf · 7) ss k hkl
        clear hcc
        generalize ss[k]'hkl = x at hck hsucc
        have Hsucc := Lib.hid hsucc; clear hsucc
        have hO0 : Own wr w1.heap.size 3 1 ao n cap ((((ss.take k).flatMap (tokOf · 7)) ++ tokOf x 0).map iv) := by rw [show tokOf x 0 = [] from rfl, List.append_nil]; exact hO
        obtain ⟨X, hX⟩ : ∃ X, X = (ss.take k).flatMap (tokOf · 7) := ⟨_, rfl⟩
        rw [← hX] at hO0 Hsucc
        clear hX hO
        obtain ⟨wo, rfl⟩ : ∃ wo : World, wo = wr := ⟨_, rfl⟩
        go_wp2_with fail
        go_loopw [3, 6] (fun l i wr => ∃ j n cap ao, j ≤ 7 ∧ i = .int .i64 ((j + 1 : Nat) : Int) ∧ l = .slice ao n cap ∧ n ≤ 7 * k + j ∧ Own wr w1.heap.size 3 1 ao n cap ((X ++ tokOf x j).map iv) ∧ Kp w1 wr) (fun _ i _ => 8 - (intOf i).toNat)
        case atStart => exact ⟨0, n, cap, ao, by omega, rfl, rfl, by omega, hO0, hkk⟩
        case round =>
          clear hO0 hkk hn
          obtain ⟨j, n, cap, ao, hj, rfl, rfl, hn, hO, hkk⟩ := hrel
          have hck := Kp.cell hkk hck
          by_cases hj7 : j < 7
          · have Hstep := Lib.hid (show tokOf x (j + 1) = tokOf x j ++ (if ((wordL (j + 1)).toList == x.toList) = true then [((j + 1 : Nat) : Int)] else []) from rfl)
            have Hw := Lib.hid (show ∀ q, Calls Tryd.prog 55 #[iv ((j + 1 : Nat) : Int)] (wr.drewN q) fun e w' => e = .returned (.string (wordL (j + 1))) ∧ w' = wr.drewN q from fun q => word_any (wr.drewN q) (j + 1) (by omega) (by omega))
            cases hq : (wordL (j + 1)).toList == x.toList with
            | true =>
              have Hs2 := Lib.hid (show (X ++ tokOf x (j + 1)).map iv = (X ++ tokOf x j).map iv ++ [iv ((j : Int) + 1)] by rw [Hstep.out, hq]; simp)
              go_wp2_with fail
              go_quiet ((go_at_call 55; exact Calls.quiet_of_same (Hw.out _)))
              have hOq := hO.keep (Kp.of_drewN wr nq)
              have hkq := Kp.trans hkk (Kp.of_drewN wr nq)
              clear hO
              go_wp2_with (at_builtin; refine wpList_app rfl (.tmp 28) (.tmp 30) 22 rfl el22 w1.heap.size rfl (hOq.keep (Kp.new _ _)) rfl [iv ((j : Int) + 1)] rfl (Cs.new (wr.drewN nq) [iv ((j : Int) + 1)] 3 (0, 0)) (by simp [Value.oneCell']) (n + 1) rfl ((X ++ tokOf x (j + 1)).map iv) Hs2.out (by omega) (Nat.le_trans hkq.size (by simp)) ?_; intro ao2 cap2 w2 ha)
              have hk2 : Kp w1 w2 := kp_own hkq (Kp.new _ _) hOq ha
              have hO2 := ha.own
              clear ha
              go_roundw
              case rel => exact ⟨j + 1, n + 1, cap2, ao2, by omega, by go_num, rfl, by omega, hO2, hk2⟩
              case measure => simp [intOf]; omega
            | false =>
              have Hs2 := Lib.hid (show tokOf x (j + 1) = tokOf x j by rw [Hstep.out, hq]; simp)
              go_wp2_with fail
              go_quiet ((go_at_call 55; exact Calls.quiet_of_same (Hw.out _)))
              have hOq := hO.keep (Kp.of_drewN wr nq)
              have hkq := Kp.trans hkk (Kp.of_drewN wr nq)
              clear hO
              go_wp2_with fail
              go_roundw
              case rel => exact ⟨j + 1, n, cap, ao, by omega, by go_num, rfl, by omega, by rw [Hs2.out]; exact hOq, hkq⟩
              case measure => simp [intOf]; omega
          · obtain rfl : j = 7 := by omega
            have hfin : Own wr w1.heap.size 3 1 ao n cap (((ss.take (k + 1)).flatMap (tokOf · 7)).map iv) := by rw [Hsucc.out]; exact hO
            have Hfin := Lib.hid hfin
            clear hfin hO
            go_wp2_with fail
            go_roundw
            case rel => exact ⟨k + 1, n, cap, ao, by omega, by go_num, rfl, by omega, Hfin.out, hkk⟩
            case measure => simp [intOf]; omega
      · obtain rfl : k = ss.length := by rw [Hl.out]; omega
        rw [List.take_of_length_le (Nat.le_refl _), ← HT.out] at hO
        have hpost : TokPost w (tokL s) (.returned (.slice ao n cap)) wr := ⟨Kp.trans hk1 hkk, ao, n, cap, rfl, hO.is, by omega, hO.cap, fun k hk => ⟨Nat.le_trans hk1.size (hO.lt k (mem_blkL.1 hk)).1, (hO.lt k (mem_blkL.1 hk)).2⟩⟩
        have Hpost := Lib.hid hpost
        clear hpost hO
        have hml : m = ss.length := Hl.out.symm
        subst hml
        go_wp2_with fail
        go_ret
        exact Hpost.out
end Go.Proofs.YtpemfmjplejdiaaDoor

namespace Go.Proofs.YtpemfmjplejdiaaDoor
open Go.RowKit

/-- The rows of the table, as texts. -/
def rowsL : List ByteArray := [⟨#[73, 49, 75, 124, 124, 115, 124, 101, 32, 101, 115, 32, 115, 59, 101, 32, 101, 101, 59, 115, 101]⟩, ⟨#[73, 49, 75, 49, 124, 124, 115, 124, 101, 32, 115, 59, 101, 32, 101, 101, 32, 101, 115, 59, 115, 101]⟩, ⟨#[73, 49, 78, 124, 124, 124, 101, 32, 115, 59, 101, 32, 101, 101, 59, 115, 101]⟩, ⟨#[73, 49, 88, 124, 124, 124, 101, 32, 115, 59, 101, 32, 101, 101, 32, 115, 32, 101, 115, 59, 115, 101]⟩, ⟨#[73, 49, 88, 49, 124, 124, 124, 101, 32, 115, 59, 101, 32, 101, 101, 32, 115, 59, 115, 101, 32, 101, 115]⟩, ⟨#[73, 75, 124, 124, 115, 124, 101, 32, 101, 115, 32, 115, 32, 115, 115, 59, 101, 32, 101, 101, 32, 115, 101]⟩, ⟨#[73, 75, 49, 124, 124, 115, 124, 101, 32, 115, 59, 101, 32, 101, 101, 32, 115, 101, 32, 101, 115]⟩, ⟨#[73, 78, 124, 124, 124, 101, 32, 115, 59, 101, 32, 101, 101, 32, 115, 101]⟩, ⟨#[73, 88, 124, 124, 124, 101, 32, 115, 59, 101, 32, 101, 101, 32, 115, 101, 32, 115, 32, 101, 115]⟩, ⟨#[73, 88, 49, 124, 124, 124, 101, 32, 115, 59, 101, 32, 101, 101, 32, 115, 101, 32, 115, 59, 101, 115]⟩, ⟨#[75, 124, 115, 124, 115, 124, 101, 32, 101, 115, 32, 115, 115]⟩, ⟨#[75, 49, 75, 124, 115, 124, 115, 124, 101, 32, 101, 115, 59, 101, 32, 101, 101, 59, 115, 101]⟩, ⟨#[75, 49, 75, 49, 124, 115, 124, 115, 124, 101, 59, 101, 32, 101, 101, 32, 101, 115, 59, 115, 101]⟩, ⟨#[75, 49, 78, 124, 115, 124, 124, 101, 59, 101, 32, 101, 101, 59, 115, 101]⟩, ⟨#[75, 49, 88, 124, 115, 124, 124, 101, 59, 101, 32, 101, 101, 32, 115, 32, 101, 115, 59, 115, 101]⟩, ⟨#[75, 49, 88, 49, 124, 115, 124, 124, 101, 59, 101, 32, 101, 101, 32, 115, 59, 115, 101, 32, 101, 115]⟩, ⟨#[75, 75, 124, 115, 124, 115, 124, 101, 32, 101, 115, 32, 115, 115, 59, 101, 32, 101, 101, 32, 115, 101]⟩, ⟨#[75, 75, 49, 124, 115, 124, 115, 124, 101, 59, 101, 32, 101, 101, 32, 115, 101, 32, 101, 115]⟩, ⟨#[75, 78, 124, 115, 124, 124, 101, 59, 101, 32, 101, 101, 32, 115, 101]⟩, ⟨#[75, 88, 124, 115, 124, 124, 101, 59, 101, 32, 101, 101, 32, 115, 101, 32, 115, 32, 101, 115]⟩, ⟨#[75, 88, 49, 124, 115, 124, 124, 101, 59, 101, 32, 101, 101, 32, 115, 101, 32, 115, 59, 101, 115]⟩, ⟨#[78, 124, 124, 115, 124, 101, 32, 101, 115]⟩, ⟨#[78, 75, 124, 124, 115, 124, 101, 32, 101, 115, 59, 101, 32, 101, 101]⟩, ⟨#[78, 75, 49, 124, 124, 115, 124, 101, 59, 101, 32, 101, 101, 32, 101, 115]⟩, ⟨#[78, 78, 124, 124, 124, 101, 59, 101, 32, 101, 101]⟩, ⟨#[78, 88, 124, 124, 124, 101, 59, 101, 32, 101, 101, 32, 115, 32, 101, 115]⟩, ⟨#[78, 88, 49, 124, 124, 124, 101, 59, 101, 32, 101, 101, 32, 115, 59, 101, 115]⟩, ⟨#[88, 124, 124, 115, 124, 101, 32, 101, 115, 32, 115, 32, 115, 115]⟩, ⟨#[88, 49, 75, 124, 124, 115, 124, 101, 32, 101, 115, 59, 101, 32, 101, 101, 59, 115, 59, 115, 101]⟩, ⟨#[88, 49, 75, 49, 124, 124, 115, 124, 101, 59, 101, 32, 101, 101, 32, 101, 115, 59, 115, 59, 115, 101]⟩, ⟨#[88, 49, 78, 124, 124, 124, 101, 59, 101, 32, 101, 101, 59, 115, 59, 115, 101]⟩, ⟨#[88, 49, 88, 124, 124, 124, 101, 59, 101, 32, 101, 101, 32, 115, 32, 101, 115, 59, 115, 59, 115, 101]⟩, ⟨#[88, 49, 88, 49, 124, 124, 124, 101, 59, 101, 32, 101, 101, 32, 115, 59, 101, 115, 32, 115, 59, 115, 101]⟩, ⟨#[88, 75, 124, 124, 115, 124, 101, 32, 101, 115, 59, 101, 32, 101, 101, 59, 115, 32, 115, 101]⟩, ⟨#[88, 75, 49, 124, 124, 115, 124, 101, 59, 101, 32, 101, 101, 32, 101, 115, 59, 115, 32, 115, 101]⟩, ⟨#[88, 78, 124, 124, 124, 101, 59, 101, 32, 101, 101, 59, 115, 32, 115, 101]⟩, ⟨#[88, 88, 124, 124, 124, 101, 59, 101, 32, 101, 101, 32, 115, 32, 101, 115, 59, 115, 32, 115, 101]⟩, ⟨#[88, 88, 49, 124, 124, 124, 101, 59, 101, 32, 101, 101, 32, 115, 59, 101, 115, 32, 115, 32, 115, 101]⟩]
theorem rowsL_length : rowsL.length = 38 := rfl
def RowsPost (w : World) (e : Ending) (w' : World) : Prop := Kp w w' ∧ ∃ b, e = .returned (.slice (some ⟨b, 0, none⟩) 38 38) ∧ Strs w' (some ⟨b, 0, none⟩) 38 rowsL

set_option maxRecDepth 100000 in
set_option maxHeartbeats 4000000 in
theorem rows_any (w : World) : Calls Tryd.prog 50 #[] w (RowsPost w) := by
  have hpost : RowsPost w (.returned (.slice (some ⟨w.heap.size, 0, none⟩) 38 38)) (w.alloc (.cells (rowsL.map Value.string).toArray 9)) := ⟨Kp.new _ _, w.heap.size, rfl, rfl, by unfold maxLen; omega, Cs.new w (rowsL.map Value.string) 9 (0, 0)⟩
  have Hpost := Lib.hid hpost; clear hpost
  go_enter Tryd.func50, Tryd.ntmps50
  go_wp2_with fail
  go_ret
  exact Hpost.out
end Go.Proofs.YtpemfmjplejdiaaDoor

namespace Go.Proofs.YtpemfmjplejdiaaDoor
open Go.RowKit

/-- A text's parts, its lines, and what a row holds. -/
def partL (r : ByteArray) (j : Nat) : ByteArray := (splitL r 124).getD j ⟨#[]⟩
def lineL (l : List ByteArray) (k : Nat) : List Ln := l.mapIdx fun i x => (((k + i) % 2 : Nat), tokL x)
def rowLs (r : ByteArray) : List Ln := lineL (splitL (partL r 3) 59) 0
/-- No part of a row is long. -/
def rowOk (r : ByteArray) : Bool := (splitL r 124).length == 4 && decide (r.size ≤ 1000) && decide ((partL r 1).size ≤ 1000) && decide ((partL r 2).size ≤ 1000) && decide ((partL r 3).size ≤ 1000) && ((splitL (partL r 3) 59).all fun x => decide (x.size ≤ 1000)) && decide ((splitL (partL r 3) 59).length ≤ 1000)
theorem rows_ok : (rowsL.all rowOk) = true := by kernel_rfl
def nameNN : ByteArray := ⟨#[78, 78]⟩
/-- The row NN: its number, its parts. -/
theorem nn_at : (rowsL.findIdx? fun r => decide ((partL r 0).data.toList = nameNN.data.toList)) = some 24 := by kernel_rfl
theorem nn_b0 : (partL (rowsL.getD 24 ⟨#[]⟩) 1).size = 0 := by kernel_rfl
theorem nn_b1 : (partL (rowsL.getD 24 ⟨#[]⟩) 2).size = 0 := by kernel_rfl
/-- Tokens, as the kernel reckons them. -/
def tokQ (x : ByteArray) : Nat → List Int
  | 0 => []
  | j + 1 => tokQ x j ++ (if ((wordL (j + 1)).data.toList == x.data.toList) = true then [((j + 1 : Nat) : Int)] else [])
theorem tokOf_q (x : ByteArray) (j : Nat) : tokOf x j = tokQ x j := by
  induction j with
  | zero => rfl
  | succ j ih => unfold tokOf tokQ; rw [ih, ByteArray.toList_eq, ByteArray.toList_eq]
def tokLQ (s : ByteArray) : List Int := if s.size = 0 then [] else (splitL s 32).flatMap (tokQ · 7)
theorem tokL_q (s : ByteArray) : tokL s = tokLQ s := by
  unfold tokL tokLQ
  have : (fun x => tokOf x 7) = fun x => tokQ x 7 := funext fun x => tokOf_q x 7
  rw [this]
def rowLsQ (r : ByteArray) : List Ln := (splitL (partL r 3) 59).mapIdx fun i x => (((0 + i) % 2 : Nat), tokLQ x)
theorem rowLs_q (r : ByteArray) : rowLs r = rowLsQ r := by
  unfold rowLs lineL rowLsQ
  congr 1
  funext i x
  rw [tokL_q]
theorem nn_ls : rowLs (rowsL.getD 24 ⟨#[]⟩) = [(0, [1]), (1, [1, 3])] := by rw [rowLs_q]; kernel_rfl
end Go.Proofs.YtpemfmjplejdiaaDoor
