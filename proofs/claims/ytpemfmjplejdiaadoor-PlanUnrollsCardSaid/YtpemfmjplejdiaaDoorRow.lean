/- Moves of the call's own, and what 'row' adds to them. Conditions: the moves lie there (Own, Mvs). -/
import Derived.Test.YtpemfmjplejdiaaDoorHas
namespace Go.Proofs.YtpemfmjplejdiaaDoor
open Go.RowKit

theorem el30 : El Tryd.prog 30 42 (.agg #[iv 0, iv 0, iv 0]) 3 24 := ⟨Tryd.underlying30, by kernel_rfl, rfl, by decide, by decide⟩
theorem el22' : El Tryd.prog 22 3 (.int .i64 0) 1 8 := el22
/-- A row of moves of the call's own, all its blocks from B on. -/
def MvO (w : World) (B : Nat) (ao : Option Addr) (n cap : Nat) (ms : List Mv) : Prop := Own w B 42 3 ao n cap (ms.flatMap mvc) ∧ ms.length = n
theorem MvO.nil (w : World) (B : Nat) : MvO w B none 0 0 [] := ⟨Own.nil _ _ _ _, rfl⟩
theorem MvO.mvs {w : World} {B : Nat} {ao : Option Addr} {n cap : Nat} {ms : List Mv} (h : MvO w B ao n cap ms) : Mvs w ao n ms := by
  refine ⟨h.2, ?_, h.1.cs⟩
  rcases h.1.2 with ⟨_, hn⟩ | ⟨g, cap', cur, hv, _, _, h1, h2, _⟩
  · omega
  · exact Nat.le_trans h1 h2
theorem MvO.keep {w w' : World} {B : Nat} {ao : Option Addr} {n cap : Nat} {ms : List Mv} (h : MvO w B ao n cap ms) (k : Kp w w') : MvO w' B ao n cap ms := ⟨h.1.keep k, h.2⟩
theorem MvO.lt {w : World} {B : Nat} {ao : Option Addr} {n cap : Nat} {ms : List Mv} (h : MvO w B ao n cap ms) : ∀ j ∈ blkL ao, B ≤ j ∧ j < w.heap.size := fun j hj => h.1.lt j (mem_blkL.1 hj)
theorem mvc_one (ms : List Mv) : ∀ u ∈ ms.flatMap mvc, u.oneCell' = true := by
  intro u hu
  obtain ⟨m, _, hm⟩ := List.mem_flatMap.1 hu
  simp only [mvc, List.mem_cons, List.not_mem_nil, or_false] at hm
  rcases hm with rfl | rfl | rfl <;> rfl

/-- What an append of moves leaves. -/
structure MvA (w w' : World) (B : Nat) (ao : Option Addr) (N : Nat) (ms : List Mv) (ao' : Option Addr) (cap' : Nat) : Prop where
  own : MvO w' B ao' N cap' ms
  fr : Fr (blkL ao) w w'
  new : ∀ j ∈ blkL ao', j ∈ blkL ao ∨ w.heap.size ≤ j

/-- 'append(l, m...)'. -/
theorem wpList_mvs {w : World} {ops : Array Oper} {rest : List Oper} {o : Oper} {a : Act} {Q : Exit → Act → World → Prop} (hgd : o.guard = none) (s x : Operand)
    (ho : o.op = .call { callee := .builtin .append, args := #[s, x], argTypes := #[30, 30] }) {B : Nat} {ao : Option Addr} {n cap : Nat} {ms : List Mv} (hs : a.eval s = .slice ao n cap) (hO : MvO w B ao n cap ms)
    {bo : Option Addr} {m c : Nat} (hx : a.eval x = .slice bo m c) (news : List Mv) (hm : Mvs w bo m news) (N : Nat) (hN : N = n + m) (hsm : N ≤ 1000000) (hB : B ≤ w.heap.size)
    (h : ∀ ao' cap' w', MvA w w' B ao N (ms ++ news) ao' cap' → wpList Tryd.prog ops Q rest (a.put o.dst (.slice ao' N cap')) w') : wpList Tryd.prog ops Q (o :: rest) a w :=
  wpList_app hgd s x 30 ho el30 B hs hO.1 hx (news.flatMap mvc) (by rw [mvc_length, hm.1]) hm.2.2 (mvc_one _) N hN ((ms ++ news).flatMap mvc) (by simp) (by omega) hB fun ao' cap' w' ha =>
    h ao' cap' w' ⟨⟨ha.own, by rw [List.length_append, hO.2, hm.1, hN]⟩, ha.fr, fun j hj => by rcases ha.fresh j (mem_blkL.1 hj) with h | h; exact .inl (mem_blkL.2 h); exact .inr (by omega)⟩
/-- 'append(l, move)', the move in a new block. -/
theorem wpList_mv1 {w : World} {ops : Array Oper} {rest : List Oper} {o : Oper} {a : Act} {Q : Exit → Act → World → Prop} (hgd : o.guard = none) (s x : Operand)
    (ho : o.op = .call { callee := .builtin .append, args := #[s, x], argTypes := #[30, 30] }) {B : Nat} {ao : Option Addr} {n cap : Nat} {ms : List Mv} (hs : a.eval s = .slice ao n cap) (hO : MvO w B ao n cap ms) (m : Mv)
    {b : Nat} (hx : a.eval x = .slice (some ⟨b, 0, none⟩) 1 1) (hb : b = w.heap.size) (hsm : n + 1 ≤ 1000000) (hB : B ≤ w.heap.size)
    (h : ∀ ao' cap' w', MvA w w' B ao (n + 1) (ms ++ [m]) ao' cap' → wpList Tryd.prog ops Q rest (a.put o.dst (.slice ao' (n + 1) cap')) w') : wpList Tryd.prog ops Q (o :: rest) a (w.alloc (.cells #[iv m.op, iv m.key, iv m.wth] 42)) := by
  subst hb
  have hk := Kp.new w (.cells #[iv m.op, iv m.key, iv m.wth] 42)
  refine wpList_mvs hgd s x ho hs (hO.keep hk) hx [m] ⟨rfl, by unfold maxLen; omega, Cs.new w [iv m.op, iv m.key, iv m.wth] 42 (0, 0)⟩ (n + 1) rfl hsm (Nat.le_trans hB hk.size) fun ao' cap' w' ha => h ao' cap' w' ⟨ha.own, ((Fr.of_kp hk).mono (by simp)).trans ha.fr, fun j hj => ?_⟩
  rcases ha.new j hj with h1 | h1
  · exact .inl h1
  · exact .inr (Nat.le_trans hk.size h1)

theorem MvA.trans {a b c : World} {B N N2 : Nat} {ao ao1 ao2 : Option Addr} {c1 c2 : Nat} {ms ms2 : List Mv} (h : MvA a b B ao N ms ao1 c1) (k : MvA b c B ao1 N2 ms2 ao2 c2) : MvA a c B ao N2 ms2 ao2 c2 := by
  have hs := h.fr.size
  refine ⟨k.own, h.fr.step k.fr h.new, fun j hj => ?_⟩
  rcases k.new j hj with h1 | h1
  · exact h.new j h1
  · exact .inr (Nat.le_trans hs h1)
theorem MvA.refl {a : World} {B N cap : Nat} {ao : Option Addr} {ms : List Mv} (h : MvO a B ao N cap ms) : MvA a a B ao N ms ao cap := ⟨h, Fr.refl _ _, fun _ hj => .inl hj⟩
theorem Fr.mvs {X : List Nat} {w w' : World} (h : Fr X w w') {ao : Option Addr} {n : Nat} {ms : List Mv} (hx : Mvs w ao n ms) (hX : ∀ k ∈ blkL ao, k ∉ X) : Mvs w' ao n ms := ⟨hx.1, hx.2.1, h.cs hx.2.2 hX⟩
def RowPost (w : World) (B : Nat) (ao : Option Addr) (N : Nat) (ms : List Mv) (e : Ending) (w' : World) : Prop := ∃ ao' cap', e = .returned (.slice ao' N cap') ∧ MvA w w' B ao N ms ao' cap'

set_option maxRecDepth 100000 in
set_option maxHeartbeats 2000000 in
/-- 'row(l, x, y)'. -/
theorem row_any (w : World) (B : Nat) (hB : B ≤ w.heap.size) (ao xo yo : Option Addr) (n cap xn xc yn yc : Nat) (ms xs ys : List Mv) (hO : MvO w B ao n cap ms) (g : Nat) (hg0 : w.cell? ⟨g, 0, none⟩ = some (.slice xo xn xc)) (hg1 : w.cell? ⟨g, 1, none⟩ = some (.slice yo yn yc))
    (hgn : g ∉ blkL ao) (hx : Mvs w xo xn xs) (hy : Mvs w yo yn ys) (hya : ∀ j ∈ blkL yo, j ∉ blkL ao) (hsm : n + xn + yn ≤ 1000000) :
    Calls Tryd.prog 26 #[.slice ao n cap, .slice (some ⟨g, 0, none⟩) 2 2] w (RowPost w B ao (n + xn + yn) (ms ++ xs ++ ys)) := by
  have hgl : g < w.heap.size := World.block_lt_of_cell? w _ hg0
  go_enter Tryd.func26, Tryd.ntmps26
  go_wp2_with fail
  go_loopw [0, 9] (fun l i wr => ∃ k N ao1 cap1, k ≤ 2 ∧ i = .int .i64 (k : Nat) ∧ l = .slice ao1 N cap1 ∧ (k = 0 → w = wr ∧ N = n ∧ MvA w wr B ao N ms ao1 cap1) ∧ (k = 1 → N = n + xn ∧ MvA w wr B ao N (ms ++ xs) ao1 cap1) ∧ (k = 2 → N = n + xn + yn ∧ MvA w wr B ao N (ms ++ xs ++ ys) ao1 cap1)) (fun _ i _ => 2 - (intOf i).toNat)
  case atStart => exact ⟨0, n, ao, cap, by omega, rfl, rfl, fun _ => ⟨rfl, rfl, MvA.refl hO⟩, by omega, by omega⟩
  case round =>
    obtain ⟨k, N, ao1, cap1, hk, rfl, rfl, r0, r1, r2⟩ := hrel
    rcases (show k = 0 ∨ k = 1 ∨ k = 2 by omega) with rfl | rfl | rfl
    · obtain ⟨rfl, rfl, hA⟩ := r0 rfl
      clear r0 r1 r2
      go_wp2_with (at_builtin; refine wpList_mvs rfl (.tmp 13) (.tmp 14) rfl rfl hA.own rfl xs hx (N + xn) rfl (by omega) hB ?_; intro ao2 cap2 w2 ha)
      have hA2 := hA.trans ha
      go_roundw
      case rel => exact ⟨1, N + xn, ao2, cap2, by omega, rfl, rfl, by omega, fun _ => ⟨rfl, hA2⟩, by omega⟩
      case measure => simp [intOf]
    · obtain ⟨rfl, hA⟩ := r1 rfl
      have c1 := hA.fr.cell hg1 hgn
      have hy1 := hA.fr.mvs hy hya
      have hsz := hA.fr.size
      clear r0 r1 r2
      go_wp2_with (at_builtin; refine wpList_mvs rfl (.tmp 13) (.tmp 14) rfl rfl hA.own rfl ys hy1 (n + xn + yn) rfl (by omega) (Nat.le_trans hB hsz) ?_; intro ao2 cap2 w2 ha)
      have hA2 := hA.trans ha
      go_roundw
      case rel => exact ⟨2, n + xn + yn, ao2, cap2, by omega, rfl, rfl, by omega, by omega, fun _ => ⟨rfl, hA2⟩⟩
      case measure => simp [intOf]
    · obtain ⟨rfl, hA⟩ := r2 rfl
      clear r0 r1 r2
      go_wp2_with fail
      go_ret
      exact ⟨ao1, cap1, rfl, hA⟩
end Go.Proofs.YtpemfmjplejdiaaDoor
