/- Parts of the walks and plain laws, merged: Base, Eq, Known, QText, QNum, QTextR, QPrint, QTable, Run, Run2, Run3, Run4, RunO, RunO2, RunP, Run5, RunT, RunS. Each theorem bears its own conditions; no other. -/
import Derived.Test.YtkmejehhdjdlbaaGreatDoorChecked
import Derived.WalkKit
import Derived.WalkSpells
import Derived.WalkLawsBesides
import Derived.BigQuiet
import Derived.Lib.Hide
import Derived.Deep.DeepFit
import Derived.Deep.RegionWith
import Derived.Deep.DeepCutAuto
import Derived.Laws.CopyOwn
import Derived.StillTailTactics
import Derived.Lib.SlBytesConst
import Derived.ChangeKeysEq
import Derived.DeepKeys
import Derived.Laws.StructEq
import Derived.Lib.SplitLaws
import Derived.Lib.Strings
import Derived.Lib.AtoiAll
import Derived.Lib.ItoaNum
import Derived.OrdersHeld
namespace Go.Proofs.YtkmejehhdjdlbaaGreatDoor
open Go.RowKit

/-- The cells from an address on read xs. -/
def Cs (w : World) (ao : Option Addr) (xs : List Value) : Prop :=
  ∀ j u, xs[j]? = some u → ∃ b off, ao = some ⟨b, off, none⟩ ∧ w.cell? ⟨b, off + j, none⟩ = some u

theorem Cs.at {w : World} {ao : Option Addr} {xs : List Value} (h : Cs w ao xs) (k : Nat) (hk : k < xs.length) :
    ∃ b off, ao = some ⟨b, off, none⟩ ∧ ∀ j u, xs[j]? = some u → w.cell? ⟨b, off + j, none⟩ = some u := by
  obtain ⟨b, off, rfl, _⟩ := h k _ (List.getElem?_eq_getElem hk)
  refine ⟨b, off, rfl, fun j u hu => ?_⟩
  obtain ⟨b', off', e, hc⟩ := h j u hu
  simp only [Option.some.injEq, Addr.mk.injEq, and_true] at e
  obtain ⟨rfl, rfl⟩ := e
  exact hc

abbrev by8 (x : UInt8) : Value := .int .u8 (x.toNat : Int)

/-- A slice value's parts read a list of bytes. -/
def Bs (w : World) (ao : Option Addr) (n : Nat) (xs : List UInt8) : Prop := xs.length = n ∧ n ≤ maxLen ∧ Cs w ao (xs.map by8)

theorem Bs.at {w : World} {ao : Option Addr} {n : Nat} {xs : List UInt8} (h : Bs w ao n xs) (k : Nat) (hk : k < n) :
    ∃ b off, ao = some ⟨b, off, none⟩ ∧ b < w.heap.size ∧ ∀ j, (hj : j < n) → w.cell? ⟨b, off + j, none⟩ = some (.int .u8 ((xs[j]'(by rw [h.1]; exact hj)).toNat : Int)) := by
  obtain ⟨h1, _, h2⟩ := h
  obtain ⟨b, off, rfl, hc⟩ := h2.at k (by simp; omega)
  have hlt := World.block_lt_of_cell? w _ (hc k _ (List.getElem?_eq_getElem (by simp; omega)))
  exact ⟨b, off, rfl, hlt, fun j hj => hc j _ (by simp [show j < xs.length by omega])⟩

theorem take_step {α : Type} (l : List α) (k : Nat) (h : k < l.length) : l.take (k + 1) = l.take k ++ [l[k]] := List.take_succ_eq_append_getElem h

/-! ### Frames -/
/-- Everything that was there is as it was. -/
abbrev Kp (w w' : World) : Prop := Below w.heap.size w w'

theorem Kp.of_drewN (w : World) (k : Nat) : Kp w (w.drewN k) := ⟨rfl, rfl, rfl, Nat.le_refl _, fun _ _ => rfl⟩
theorem Kp.new (w : World) (o : Obj) : Kp w (w.alloc o) := (Below.refl _ _).alloc (Nat.le_refl _) o
theorem Kp.refl (w : World) : Kp w w := Below.refl _ _
theorem Kp.trans {a b c : World} (h : Kp a b) (k : Kp b c) : Kp a c := Below.trans h (Below.mono k h.size)
theorem Kp.cell {w w' : World} (h : Kp w w') {p : Addr} {v : Value} (hc : w.cell? p = some v) : w'.cell? p = some v :=
  (Below.cell h (World.block_lt_of_cell? w p hc)).trans hc
theorem Kp.cs {w w' : World} (h : Kp w w') {ao : Option Addr} {xs : List Value} (hx : Cs w ao xs) : Cs w' ao xs := fun j u hu => by
  obtain ⟨b, off, e, hc⟩ := hx j u hu
  exact ⟨b, off, e, h.cell hc⟩
theorem Kp.bs {w w' : World} (h : Kp w w') {ao : Option Addr} {n : Nat} {xs : List UInt8} (hx : Bs w ao n xs) : Bs w' ao n xs := ⟨hx.1, hx.2.1, h.cs hx.2.2⟩

/-! ### Rows of the call's own -/
/-- A slice value's parts own a row of cells, in a block from 'base' on. -/
def Own (w : World) (base : Nat) (e : TypeId) (size : Nat) (ao : Option Addr) (n cap : Nat) (xs : List Value) : Prop := w.ownsRow base e size (.slice ao n cap) n xs

def blk (ao : Option Addr) : Option Nat := ao.map (·.block)
theorem ownBlock_slice (ao : Option Addr) (n cap : Nat) : Value.ownBlock (.slice ao n cap) = blk ao := by cases ao <;> rfl

theorem Own.nil (w : World) (base : Nat) (e : TypeId) (size : Nat) : Own w base e size none 0 0 [] := World.ownsRow_nil w base e size
theorem Own.cs {w : World} {base : Nat} {e : TypeId} {size : Nat} {ao : Option Addr} {n cap : Nat} {xs : List Value} (h : Own w base e size ao n cap xs) : Cs w ao xs := by
  intro j u hu
  have h0 := h
  obtain ⟨hl, hc⟩ := h
  rcases hc with ⟨hv, hn⟩ | ⟨g, cap', cur, hv, _, hg, _, _, _, ht⟩
  · subst hn; simp at hl; subst hl; simp at hu
  · simp only [Value.slice.injEq] at hv
    obtain ⟨rfl, _, rfl⟩ := hv
    exact ⟨g, 0, rfl, by have := World.ownsRow.cells h0 (g := g) rfl j u hu; rwa [Addr.add_lit] at this⟩
theorem Own.keep {w w' : World} {base : Nat} {e : TypeId} {size : Nat} {ao : Option Addr} {n cap : Nat} {xs : List Value} (h : Own w base e size ao n cap xs) (k : Kp w w') : Own w' base e size ao n cap xs := by
  obtain ⟨hl, hc⟩ := h
  refine ⟨hl, ?_⟩
  rcases hc with hn | ⟨g, cap', cur, hv, hb, hg, r⟩
  · exact .inl hn
  · refine .inr ⟨g, cap', cur, hv, hb, ?_, r⟩
    rw [k.block g (Array.getElem?_eq_some_iff.1 hg).1]; exact hg
theorem Own.lt {w : World} {base : Nat} {e : TypeId} {size : Nat} {ao : Option Addr} {n cap : Nat} {xs : List Value} (h : Own w base e size ao n cap xs) : ∀ k, blk ao = some k → base ≤ k ∧ k < w.heap.size := by
  intro k hk
  exact World.ownsRow.lt h k (by rw [ownBlock_slice]; exact hk)
theorem Own.mono {w : World} {base base' : Nat} {e : TypeId} {size : Nat} {ao : Option Addr} {n cap : Nat} {xs : List Value} (h : Own w base e size ao n cap xs) (hb : ∀ k, blk ao = some k → base' ≤ k) : Own w base' e size ao n cap xs := by
  obtain ⟨hl, hc⟩ := h
  refine ⟨hl, ?_⟩
  rcases hc with hn | ⟨g, cap', cur, hv, hb', r⟩
  · exact .inl hn
  · refine .inr ⟨g, cap', cur, hv, ?_, r⟩
    simp only [Value.slice.injEq] at hv
    obtain ⟨rfl, _, _⟩ := hv
    exact hb g rfl

section app
variable {P : Program}

theorem run_append_owned_none' (w : World) (base : Nat) (t ty e : TypeId) (i : TypeInfo) (size : Nat) (ht : P.underlying t = some (.slice e)) (hi : P.info? e = some i)
    (v : Value) (n c : Nat) (xs : List Value) (hown : w.ownsRow base e size v n xs) :
    (Builtin.append_ #[t, t] ty #[v, .slice none 0 c]).run P w = .ok v w := by
  rcases hown.2 with ⟨rfl, rfl⟩ | ⟨g, cap, cur, rfl, _, _, hnc, _⟩
  · simp [Builtin.append_, run_underlying ht, sizeOf, typeInfo, hi, Builtin.lenOf, Builtin.firstCells]
  · simp [Builtin.append_, run_underlying ht, sizeOf, typeInfo, hi, Builtin.lenOf, Builtin.firstCells, hnc, storeCells]

/-- An element type's row of the table. -/
structure El (P : Program) (t e : TypeId) (z : Value) (size bytes : Nat) : Prop where
  und : P.underlying t = some (.slice e)
  info : (P.info? e).map (fun i => (i.zero, i.size, i.bytes)) = some (some z, size, bytes)
  zs : z.cells.size = size
  pos : 0 < size
  bpos : 0 < bytes

/-- What an append on a row of the call's own leaves. -/
structure Appd (w w' : World) (base : Nat) (e : TypeId) (size : Nat) (ao : Option Addr) (cap m N : Nat) (zs : List Value) (ao' : Option Addr) (cap' : Nat) : Prop where
  own : Own w' base e size ao' N cap' zs
  grown : w.grownBy w' (blk ao)
  room : N ≤ cap → ao ≠ none → ao' = ao ∧ cap' = cap
  nil : ao' = none ↔ ao = none ∧ m = 0
  fresh : ∀ k, blk ao' = some k → blk ao = some k ∨ k = w.heap.size
  move : ao' = ao ∨ w.grownBy w' none ∧ blk ao' = some w.heap.size

theorem run_app (w : World) (base : Nat) (t ty e : TypeId) (z : Value) (size bytes : Nat) (E : El P t e z size bytes)
    (ao : Option Addr) (n cap : Nat) (xs : List Value) (hown : Own w base e size ao n cap xs)
    (bo : Option Addr) (m c : Nat) (news : List Value) (hl : news.length = m * size) (hnews : Cs w bo news) (h1 : ∀ u ∈ news, u.oneCell' = true)
    (N : Nat) (hN : N = n + m) (zs : List Value) (hzs : zs = xs ++ news) (hbytes : N * bytes ≤ 140737488355328) (hbase : base ≤ w.heap.size) :
    ∃ ao' cap' w', (Builtin.append_ #[t, t] ty #[.slice ao n cap, .slice bo m c]).run P w = .ok (.slice ao' N cap') w' ∧ Appd w w' base e size ao cap m N zs ao' cap' := by
  subst hN; subst hzs
  have ht := E.und
  have hsz := E.pos
  obtain ⟨i, hi, hz, hsize, hby⟩ := info_parts E.info
  have h63 : n + m ≤ maxLen := by
    have h1 := E.bpos
    have h2 : (n + m) * 1 ≤ (n + m) * bytes := Nat.mul_le_mul_left _ h1
    unfold maxLen; omega
  cases bo with
  | none =>
    have hnn : news = [] := by
      cases news with
      | nil => rfl
      | cons u r => obtain ⟨b, off, e, _⟩ := hnews 0 u rfl; cases e
    subst hnn
    have hm : m = 0 := by
      rcases Nat.eq_zero_or_pos m with h | h
      · exact h
      · have := Nat.mul_pos h hsz
        simp only [List.length_nil] at hl
        omega
    subst hm
    refine ⟨ao, cap, w, run_append_owned_none' w base t ty e i size ht hi _ n c xs hown, by simpa using hown, World.grownBy.refl _ _, fun _ _ => ⟨rfl, rfl⟩, by simp, fun k hk => .inl hk, .inl rfl⟩
  | some ad =>
    have hnews' : ∀ j u, news[j]? = some u → w.cell? (ad.add j) = some u := fun j u hu => by
      obtain ⟨b, off, e, hc⟩ := hnews j u hu
      simp only [Option.some.injEq] at e
      subst e
      rw [Addr.add_lit]; exact hc
    by_cases hroom : n + m ≤ cap ∧ ao ≠ none
    · obtain ⟨hroom, hne⟩ := hroom
      have hown0 := hown
      obtain ⟨_, hc⟩ := hown
      rcases hc with ⟨hv, hn⟩ | ⟨g, cap', cur, hv, _⟩
      · simp only [Value.slice.injEq] at hv; exact absurd hv.1 hne
      · simp only [Value.slice.injEq] at hv
        obtain ⟨rfl, _, rfl⟩ := hv
        obtain ⟨w', hr, h2, h3⟩ := run_append_fits (P := P) w base t ty e i size ht hi hsize g n cap xs hown0 ad m c news hl hnews' h1 hroom
        exact ⟨_, _, w', hr, h2, h3, fun _ _ => ⟨rfl, rfl⟩, by simp, fun k hk => .inl hk, .inl rfl⟩
    · have hlen : (xs ++ news).length = (n + m) * size := by rw [List.length_append, hown.1, hl, Nat.add_mul]
      have grown : ∀ (old : Nat), old < n + m → ∀ (row : Option Nat),
          Own (w.drew.alloc (.cells (xs.toArray ++ news.toArray ++ Builtin.zeroCells z.cells (grownCap w (n + m) old e - (n + m))) e)) base e size
            (some ⟨w.heap.size, 0, none⟩) (n + m) (grownCap w (n + m) old e) (xs ++ news) ∧
          w.grownBy (w.drew.alloc (.cells (xs.toArray ++ news.toArray ++ Builtin.zeroCells z.cells (grownCap w (n + m) old e - (n + m))) e)) row := by
        intro old ho row
        have hge := grownCap_ge w (n + m) old e
        have hcm : grownCap w (n + m) old e ≤ maxLen := grownCap_le_maxLen w (n + m) old e h63
        refine ⟨⟨hlen, .inr ⟨w.heap.size, _, _, rfl, hbase, heap_alloc_new w.drew _, hge, hcm, ?_, ?_⟩⟩, ⟨rfl, rfl, rfl, by simp, fun k hk _ => Below.heap_alloc w.drew _ k hk⟩⟩
        · simp only [Array.size_append, List.size_toArray, size_zeroCells, E.zs, hown.1, hl, ← Nat.add_mul]
          congr 1
          omega
        · simp only [Array.toList_append, List.append_assoc]
          rw [← List.append_assoc, ← hlen]
          exact List.take_left
      subst hsize; subst hby
      have hown0 := hown
      rcases hown.2 with ⟨hv, hn0⟩ | ⟨g, cap', cur, hv, hbg, hg, hnc, hcm, hcs, htake⟩
      · simp only [Value.slice.injEq] at hv
        obtain ⟨rfl, _, rfl⟩ := hv
        subst hn0
        have hx : xs = [] := List.eq_nil_of_length_eq_zero (by simpa using hown.1)
        subst hx
        by_cases hm : m = 0
        · subst hm
          have hn : news = [] := List.eq_nil_of_length_eq_zero (by simpa using hl)
          subst hn
          refine ⟨none, 0, w, ?_, Own.nil _ _ _ _, World.grownBy.refl _ _, fun _ h => absurd rfl h, by simp, fun k hk => .inl hk, .inl rfl⟩
          simp [Builtin.append_, run_underlying ht, sizeOf, typeInfo, hi, Builtin.lenOf, Builtin.firstCells, loadCells, loadCellsFrom]
        · have hr := run_append_nil (P := P) w t ty e i z ht hi hz ad m c news hl hnews' (by omega) (by unfold maxLen at h63; omega) (by have hb := hbytes; simp only [Nat.zero_add] at hb; omega)
          have hgr := grown 0 (by omega) (blk none)
          simp only [Nat.zero_add, List.nil_append, Array.empty_append] at hgr ⊢
          exact ⟨_, _, _, hr, hgr.1, hgr.2, fun _ h => absurd rfl h, by simp [hm], fun k hk => .inr (by simpa [blk, eq_comm] using hk), .inr ⟨hgr.2, rfl⟩⟩
      · simp only [Value.slice.injEq] at hv
        obtain ⟨rfl, _, rfl⟩ := hv
        have holds : ∀ j u, xs[j]? = some u → w.cell? ((⟨g, 0, none⟩ : Addr).add j) = some u := World.ownsRow.cells hown0 (g := g) rfl
        have hlt : cap < n + m := by
          rcases Nat.lt_or_ge cap (n + m) with h | h
          · exact h
          · exact absurd ⟨h, by simp⟩ hroom
        have hr := run_append_grow (P := P) w t ty e i z ht hi hz ⟨g, 0, none⟩ n cap xs hown.1 holds ad m c news hl hnews' (by omega) (by unfold maxLen at h63; omega) (growslice_fits (by unfold maxLen at h63; omega) hbytes)
        have hgr := grown cap (by omega) (blk (some ⟨g, 0, none⟩))
        have hgr2 := grown cap (by omega) none
        exact ⟨_, _, _, hr, hgr.1, hgr.2, fun a b => absurd ⟨a, b⟩ hroom, by simp, fun k hk => .inr (by simpa [blk, eq_comm] using hk), .inr ⟨hgr2.2, rfl⟩⟩

theorem wp_app {w : World} {o : Oper} {a : Act} {K : Act → World → Prop} {Q : Exit → Act → World → Prop} (s x : Operand) (t : TypeId)
    (ho : o.op = .call { callee := .builtin .append, args := #[s, x], argTypes := #[t, t] })
    (e : TypeId) (z : Value) (size bytes : Nat) (E : El P t e z size bytes) (base : Nat)
    (ao : Option Addr) (n cap : Nat) (xs : List Value) (hs : a.eval s = .slice ao n cap) (hown : Own w base e size ao n cap xs)
    (bo : Option Addr) (m c : Nat) (news : List Value) (hx : a.eval x = .slice bo m c) (hl : news.length = m * size) (hnews : Cs w bo news) (h1 : ∀ u ∈ news, u.oneCell' = true)
    (N : Nat) (hN : N = n + m) (zs : List Value) (hzs : zs = xs ++ news) (hbytes : N * bytes ≤ 140737488355328) (hbase : base ≤ w.heap.size)
    (h : ∀ ao' cap' w', Appd w w' base e size ao cap m N zs ao' cap' → K (a.put o.dst (.slice ao' N cap')) w') : o.wp P a w K Q := by
  obtain ⟨ao', cap', w', hr, h2⟩ := run_app (P := P) w base t o.type e z size bytes E ao n cap xs hown bo m c news hl hnews h1 N hN zs hzs hbytes hbase
  unfold Oper.wp execOp
  simp only [ho, resolve, invoke, builtin, Sem.run_bind, Sem.run_pure, Result.andThen_ok, List.map_toArray, List.map_cons, List.map_nil, hs, hx, hr]
  exact h ao' cap' w' h2

/-- 'append' on a row of the call's own (or nil), whatever the source: nil, empty, or not. The new length N and the new cells zs are given. -/
theorem wpList_app {w : World} {ops : Array Oper} {rest : List Oper} {o : Oper} {a : Act} {Q : Exit → Act → World → Prop} (hgd : o.guard = none) (s x : Operand) (t : TypeId)
    (ho : o.op = .call { callee := .builtin .append, args := #[s, x], argTypes := #[t, t] })
    {e : TypeId} {z : Value} {size bytes : Nat} (E : El P t e z size bytes) (base : Nat)
    {ao : Option Addr} {n cap : Nat} {xs : List Value} (hs : a.eval s = .slice ao n cap) (hown : Own w base e size ao n cap xs)
    {bo : Option Addr} {m c : Nat} (hx : a.eval x = .slice bo m c) (news : List Value) (hl : news.length = m * size) (hnews : Cs w bo news) (h1 : ∀ u ∈ news, u.oneCell' = true)
    (N : Nat) (hN : N = n + m) (zs : List Value) (hzs : zs = xs ++ news) (hbytes : N * bytes ≤ 140737488355328) (hbase : base ≤ w.heap.size)
    (h : ∀ ao' cap' w', Appd w w' base e size ao cap m N zs ao' cap' → wpList P ops Q rest (a.put o.dst (.slice ao' N cap')) w') : wpList P ops Q (o :: rest) a w :=
  wpList_plain hgd fun _ hK => wp_app s x t ho e z size bytes E base ao n cap xs hs hown bo m c news hx hl hnews h1 N hN zs hzs hbytes hbase fun ao' cap' w' h2 => hK _ _ (h ao' cap' w' h2)

end app

/-- A new block of cells is read as its cells. -/
theorem Cs.new (w : World) (cs : List Value) (e : TypeId) (mk : Nat × Nat) : Cs (w.alloc (.cells cs.toArray e mk)) (some ⟨w.heap.size, 0, none⟩) cs := fun j u hu => by
  refine ⟨w.heap.size, 0, rfl, ?_⟩
  rw [cell_of_row _ w.heap.size (0 + j) cs.toArray e mk (heap_alloc_new w _)]
  simpa using hu


/-! ### Frames with a footprint: only the blocks of X may have changed -/
structure Fr (X : List Nat) (w w' : World) : Prop where
  os : w'.os = w.os
  tape : w'.tape = w.tape
  output : w'.output = w.output
  size : w.heap.size ≤ w'.heap.size
  block : ∀ k, k < w.heap.size → k ∉ X → w'.heap[k]? = w.heap[k]?

def blkL (ao : Option Addr) : List Nat := (blk ao).toList
theorem mem_blkL {ao : Option Addr} {k : Nat} : k ∈ blkL ao ↔ blk ao = some k := by unfold blkL; cases blk ao <;> simp [eq_comm]
theorem mem_blkL_some {b o : Nat} {k : Nat} : k ∈ blkL (some ⟨b, o, none⟩) ↔ k = b := by simp [blkL, blk]

theorem Fr.of_kp {w w' : World} (h : Kp w w') : Fr [] w w' := ⟨h.os, h.tape, h.output, h.size, fun k hk _ => h.block k hk⟩
theorem Fr.kp {w w' : World} (h : Fr [] w w') : Kp w w' := ⟨h.os, h.tape, h.output, h.size, fun k hk => h.block k hk (by simp)⟩
theorem Fr.refl (X : List Nat) (w : World) : Fr X w w := ⟨rfl, rfl, rfl, Nat.le_refl _, fun _ _ _ => rfl⟩
theorem Fr.mono {X Y : List Nat} {w w' : World} (h : Fr X w w') (hs : ∀ k ∈ X, k ∈ Y) : Fr Y w w' := ⟨h.os, h.tape, h.output, h.size, fun k hk hn => h.block k hk (fun hx => hn (hs k hx))⟩
theorem Fr.trans {X : List Nat} {a b c : World} (h : Fr X a b) (k : Fr X b c) : Fr X a c :=
  ⟨k.os.trans h.os, k.tape.trans h.tape, k.output.trans h.output, Nat.le_trans h.size k.size, fun i hi hn => (k.block i (Nat.lt_of_lt_of_le hi h.size) hn).trans (h.block i hi hn)⟩
/-- What is changed in the second step is of X, or new. -/
theorem Fr.step {X Y : List Nat} {a b c : World} (h : Fr X a b) (k : Fr Y b c) (hY : ∀ j ∈ Y, j ∈ X ∨ a.heap.size ≤ j) : Fr X a c :=
  ⟨k.os.trans h.os, k.tape.trans h.tape, k.output.trans h.output, Nat.le_trans h.size k.size, fun i hi hn => (k.block i (Nat.lt_of_lt_of_le hi h.size) (fun hy => by rcases hY i hy with h1 | h1; exact hn h1; omega)).trans (h.block i hi hn)⟩
theorem Fr.of_grown {w w' : World} {ao : Option Addr} (h : w.grownBy w' (blk ao)) : Fr (blkL ao) w w' :=
  ⟨h.os, h.tape, h.output, h.size, fun k hk hn => h.block k hk (fun e => hn (mem_blkL.2 e.symm))⟩
theorem Appd.fr {w w' : World} {base : Nat} {e : TypeId} {size : Nat} {ao : Option Addr} {cap m N : Nat} {zs : List Value} {ao' : Option Addr} {cap' : Nat}
    (h : Appd w w' base e size ao cap m N zs ao' cap') : Fr (blkL ao) w w' := Fr.of_grown h.grown
theorem Fr.new (X : List Nat) (w : World) (o : Obj) : Fr X w (w.alloc o) := (Fr.of_kp (Kp.new w o)).mono (by simp)
theorem Fr.set (w : World) (p : Addr) (u : Value) : Fr [p.block] w (w.setCell p u) :=
  ⟨rfl, rfl, rfl, by simp [World.setCell], fun k _ hn => Below.heap_setCell _ _ _ _ (by simpa using hn)⟩
theorem Fr.drewN (X : List Nat) (w : World) (k : Nat) : Fr X w (w.drewN k) := (Fr.of_kp (Kp.of_drewN w k)).mono (by simp)
theorem Fr.drew (X : List Nat) (w : World) : Fr X w w.drew := ⟨rfl, rfl, rfl, Nat.le_refl _, fun _ _ _ => rfl⟩

theorem Fr.cell {X : List Nat} {w w' : World} (h : Fr X w w') {p : Addr} {v : Value} (hc : w.cell? p = some v) (hX : p.block ∉ X) : w'.cell? p = some v :=
  (World.cell?_of_block (h.block p.block (World.block_lt_of_cell? w p hc) hX)).trans hc
theorem Fr.free {X : List Nat} {w w' : World} (h : Fr X w w') {p : Addr} {u : Value} (hc : w.cell? p = some u) {f : Bool} (hf : w.frozen? p = f) (hX : p.block ∉ X) : w'.frozen? p = f :=
  (World.frozen?_of_block (h.block p.block (World.block_lt_of_cell? w p hc) hX)).trans hf
theorem Fr.cs {X : List Nat} {w w' : World} (h : Fr X w w') {ao : Option Addr} {xs : List Value} (hx : Cs w ao xs) (hX : ∀ k ∈ blkL ao, k ∉ X) : Cs w' ao xs := fun j u hu => by
  obtain ⟨b, off, rfl, hc⟩ := hx j u hu
  exact ⟨b, off, rfl, h.cell hc (hX b (by simp [blkL, blk]))⟩
theorem Fr.bs {X : List Nat} {w w' : World} (h : Fr X w w') {ao : Option Addr} {n : Nat} {xs : List UInt8} (hx : Bs w ao n xs) (hX : ∀ k ∈ blkL ao, k ∉ X) : Bs w' ao n xs := ⟨hx.1, hx.2.1, h.cs hx.2.2 hX⟩
theorem Fr.own {X : List Nat} {w w' : World} (k : Fr X w w') {base : Nat} {e : TypeId} {size : Nat} {ao : Option Addr} {n cap : Nat} {xs : List Value} (h : Own w base e size ao n cap xs) (hX : ∀ k ∈ blkL ao, k ∉ X) : Own w' base e size ao n cap xs := by
  obtain ⟨hl, hc⟩ := h
  refine ⟨hl, ?_⟩
  rcases hc with hn | ⟨g, cap', cur, hv, hb, hg, r⟩
  · exact .inl hn
  · refine .inr ⟨g, cap', cur, hv, hb, ?_, r⟩
    simp only [Value.slice.injEq] at hv
    rw [k.block g (Array.getElem?_eq_some_iff.1 hg).1 (hX g (by rw [hv.1]; simp [blkL, blk]))]; exact hg

theorem Own.bs {w : World} {base : Nat} {e : TypeId} {ao : Option Addr} {n cap : Nat} {xs : List UInt8} (h : Own w base e 1 ao n cap (xs.map by8)) : Bs w ao n xs := by
  have hl := h.1
  refine ⟨by simpa using hl, ?_, h.cs⟩
  rcases h.2 with ⟨_, hn⟩ | ⟨g, cap', cur, hv, _, _, h1, h2, _⟩
  · omega
  · exact Nat.le_trans h1 h2
theorem Own.cap {w : World} {base : Nat} {e : TypeId} {size : Nat} {ao : Option Addr} {n cap : Nat} {xs : List Value} (h : Own w base e size ao n cap xs) : n ≤ cap := by
  rcases h.2 with ⟨hv, hn⟩ | ⟨g, cap', cur, hv, _, _, h1, h2, _⟩
  · omega
  · simp only [Value.slice.injEq] at hv; omega

/-- A slice of bytes cut at its head: 's[l:h]'. -/
theorem Bs.cut {w : World} {ao : Option Addr} {n : Nat} {xs : List UInt8} (hx : Bs w ao n xs) (l k : Nat) (h : l + k ≤ n) (c : Prop) [Decidable c] (hc : c → k = 0) :
    Bs w (if c then ao else ao.map (·.add l)) k ((xs.drop l).take k) := by
  refine ⟨by simp [hx.1]; omega, Nat.le_trans (by omega) hx.2.1, ?_⟩
  by_cases hk : c
  · rw [hc hk]; intro j u hu; simp at hu
  · rw [if_neg hk]
    intro j u hu
    have hj : j < k := by
      have := (List.getElem?_eq_some_iff.1 hu).1
      simp at this; omega
    have hu' : (xs.map by8)[l + j]? = some u := by
      simp only [List.map_take, List.map_drop] at hu
      rw [List.getElem?_take, if_pos hj, List.getElem?_drop] at hu
      exact hu
    obtain ⟨b, off, rfl, hcc⟩ := hx.2.2 _ _ hu'
    refine ⟨b, off + l, ?_, by rw [Nat.add_assoc]; exact hcc⟩
    simp [Addr.add_lit]

theorem Bs.zero (w : World) (ao : Option Addr) : Bs w ao 0 [] := ⟨rfl, Nat.zero_le _, fun j u hu => by simp at hu⟩
theorem Bs.sub {w : World} {b off : Nat} {n : Nat} {xs : List UInt8} (hx : Bs w (some ⟨b, off, none⟩) n xs) (l k : Nat) (h : l + k ≤ n) :
    Bs w (some ⟨b, off + l, none⟩) k ((xs.drop l).take k) := by
  have := hx.cut l k h False (fun h => h.elim)
  rwa [if_neg (fun h => h), Option.map_some, Addr.add_lit] at this

theorem Own.block {w : World} {base : Nat} {e : TypeId} {size : Nat} {ao : Option Addr} {n cap : Nat} {xs : List Value} (h : Own w base e size ao n cap xs) (hn : 0 < n) :
    ∃ g cur, ao = some ⟨g, 0, none⟩ ∧ base ≤ g ∧ w.heap[g]? = some (.cells cur e (0, 0)) ∧ cur.size = cap * size ∧ cap ≤ maxLen ∧ cur.toList.take (n * size) = xs := by
  rcases h.2 with ⟨hv, h0⟩ | ⟨g, cap', cur, hv, hb, hg, h1, h2, h3, h4⟩
  · omega
  · simp only [Value.slice.injEq] at hv
    obtain ⟨rfl, _, rfl⟩ := hv
    exact ⟨g, cur, rfl, hb, hg, h3, h2, h4⟩

/-- A region that draws: n operations that only read, then a forced tail. -/
theorem region_tail {P : Program} {id : Nat} {Q : Exit → Act → World → Prop} {a : Act} {w : World} {l : List Oper} (n : Nat) (hm : P.follows .mixedOrders = true) (hB : Region.lexTailB .any l.toArray n = true)
    (h : wpStill P l.toArray w.drew (fun a' => wpList P l.toArray Q (l.drop n) a' w.drew) (l.take n) a) : (Code.region id l.toArray true).wp P Q a w := wp_region_still_tail n hm hB h

end Go.Proofs.YtkmejehhdjdlbaaGreatDoor

namespace Go.Proofs.YtkmejehhdjdlbaaGreatDoor
open Go.RowKit

theorem eq3 (w : World) (d : Nat) (a b : Int) : (Op.equalIn (d + 1) 3 (.int .i64 a) (.int .i64 b)).run Tryz.prog w = .ok (a == b) w := by
  simp [Op.equalIn, run_underlying Tryz.underlying3]
theorem cellsOf3 : Tryz.prog.cellsOf 3 = 1 := by kernel_rfl
theorem part3 (w : World) (xs : Array Value) (k : Nat) (v : Value) (h : xs[k]? = some v) : (part 3 xs k).run Tryz.prog w = .ok v w := run_part_plain w (by kernel_rfl) h
theorem eq104 (w : World) (a b c d : Int) : (binOp .eql 76 (.agg #[.int .i64 a, .int .i64 b]) (.agg #[.int .i64 c, .int .i64 d])).run Tryz.prog w = .ok (.bool (a == c && b == d)) w := by
  obtain ⟨i, hi, _⟩ := Option.map_eq_some_iff.1 (show (Tryz.prog.info? 3).map (·.size) = some 1 by kernel_rfl)
  have h := run_equalIn_array w 9999 #[.int .i64 a, .int .i64 b] #[.int .i64 c, .int .i64 d] Tryz.underlying76 hi
  rw [cellsOf3] at h
  have hr : List.range 2 = [0, 1] := by decide
  rw [hr] at h
  simp only [binOp, Op.equal, Op.maxDepth, Sem.run_bind, h]
  have e0 := eq3 w 9998 a c
  have e1 := eq3 w 9998 b d
  have p0 := part3 w #[.int .i64 a, .int .i64 b] 0 (.int .i64 a) rfl
  have p1 := part3 w #[.int .i64 a, .int .i64 b] 1 (.int .i64 b) rfl
  have q0 := part3 w #[.int .i64 c, .int .i64 d] 0 (.int .i64 c) rfl
  have q1 := part3 w #[.int .i64 c, .int .i64 d] 1 (.int .i64 d) rfl
  generalize (a == c) = p at e0 ⊢
  generalize (b == d) = q at e1 ⊢
  simp only [Op.eqItems, Sem.run_bind, Nat.zero_mul, Nat.one_mul, p0, q0, Result.andThen_ok, e0]
  cases p <;> cases q <;> simp [p1, q1, e1]

end Go.Proofs.YtkmejehhdjdlbaaGreatDoor

namespace Go.Proofs.YtkmejehhdjdlbaaGreatDoor
open Go.RowKit

abbrev iv (z : Int) : Value := .int .i64 z
/-- A slice value's parts read a list of numbers. -/
def Is (w : World) (ao : Option Addr) (n : Nat) (xs : List Int) : Prop := xs.length = n ∧ n ≤ maxLen ∧ Cs w ao (xs.map iv)
theorem Is.zero (w : World) (ao : Option Addr) : Is w ao 0 [] := ⟨rfl, Nat.zero_le _, fun j u hu => by simp at hu⟩
theorem Is.at {w : World} {ao : Option Addr} {n : Nat} {xs : List Int} (h : Is w ao n xs) (k : Nat) (hk : k < n) :
    ∃ b off, ao = some ⟨b, off, none⟩ ∧ b < w.heap.size ∧ ∀ j, (hj : j < n) → w.cell? ⟨b, off + j, none⟩ = some (.int .i64 (xs[j]'(by rw [h.1]; exact hj))) := by
  obtain ⟨h1, _, h2⟩ := h
  obtain ⟨b, off, rfl, hc⟩ := h2.at k (by simp; omega)
  have hlt := World.block_lt_of_cell? w _ (hc k _ (List.getElem?_eq_getElem (by simp; omega)))
  exact ⟨b, off, rfl, hlt, fun j hj => hc j _ (by simp [show j < xs.length by omega])⟩
theorem Kp.is {w w' : World} (h : Kp w w') {ao : Option Addr} {n : Nat} {xs : List Int} (hx : Is w ao n xs) : Is w' ao n xs := ⟨hx.1, hx.2.1, h.cs hx.2.2⟩

/-- What may be known ahead of a side. -/
def okB : List Int → Bool
  | [] => true
  | [x] => x == 1 || x == 2
  | [x, y] => x == 1 && y == 2
  | _ => false

theorem el22 : El Tryz.prog 22 3 (.int .i64 0) 1 8 := ⟨Tryz.underlying22, by kernel_rfl, rfl, by decide, by decide⟩

theorem known_copy {w : World} {ao : Option Addr} {n : Nat} {xs : List Int} (hx : Is w ao n xs) (o : Obj) (j : 0 < ((xs.take 2).map iv).length) :
    some (⟨w.heap.size, 0, none⟩ : Addr) = some ⟨w.heap.size, 0, none⟩ ∧ ∃ ad, ao = some ad ∧ ∀ k v, ((xs.take 2).map iv)[k]? = some v → (w.alloc o).cell? (ad.add k) = some v := by
  have h1 := (Kp.cs (Kp.new w o) hx.2.2)
  obtain ⟨b, off, rfl, hc⟩ := h1.at 0 (by simp at j ⊢; omega)
  refine ⟨rfl, _, rfl, fun k v hv => ?_⟩
  rw [Addr.add_lit]
  refine hc k v ?_
  rw [List.map_take, List.getElem?_take] at hv
  split at hv
  · exact hv
  · cases hv

theorem cells2 {w : World} {g : Nat} {a b : Value} {t : TypeId} {mk : Nat × Nat} (h : w.heap[g]? = some (.cells #[a, b] t mk)) : w.cell? ⟨g, 0, none⟩ = some a ∧ w.cell? ⟨g, 1, none⟩ = some b := by
  constructor
  · rw [cell_of_row w g 0 #[a, b] t mk h]; rfl
  · rw [cell_of_row w g 1 #[a, b] t mk h]; rfl

set_option maxHeartbeats 1000000 in
set_option maxRecDepth 100000 in
theorem known_any (w : World) (ao : Option Addr) (n c : Nat) (xs : List Int) (hx : Is w ao n xs) :
    Calls Tryz.prog 94 #[.slice ao n c] w fun e w' => e = .returned (.bool (okB xs)) ∧ Kp w w' := by
  have hinfo : (Tryz.prog.info? 3).map (·.size) = some 1 := by kernel_rfl
  have hl := hx.1
  match xs, hx with
  | [], hx =>
    obtain rfl : n = 0 := hx.1.symm
    have hcp := known_copy hx (.cells #[iv 0, iv 0] 76)
    go_enter Tryz.func94, Tryz.ntmps94
    go_wp2_with (show wpList _ _ _ (Oper.mk (some 6) _ _ _ _ _ :: _) _ _; refine wpList_copy_splice (o := ⟨some 6, _, _, _, _, _⟩) (w := w.alloc (.cells #[iv 0, iv 0] 76)) rfl (.tmp 4) (.tmp 5) 22 22 rfl 3 Tryz.underlying22 hinfo (some ⟨w.heap.size, 0, none⟩) ao 2 2 0 c rfl rfl w.heap.size 0 [iv 0, iv 0] 76 (heap_alloc_new w _) [] rfl (fun h => by cases h) (by simp) (by simp) w.heap.size w (Kp.new w _) (Nat.le_refl _) ?_; intro w1 hh hk1)
    go_ret
    exact ⟨rfl, hk1⟩
  | [x], hx =>
    obtain rfl : n = 1 := hx.1.symm
    have hcp := Lib.hid (known_copy hx (.cells #[iv 0, iv 0] 76))
    have hq := eq104
    clear hx hl
    show Calls Tryz.prog 94 #[.slice ao 1 c] w fun e w' => e = .returned (.bool (x == 1 || x == 2)) ∧ Kp w w'
    by_cases h1 : (x == 1) = true
    · go_enter Tryz.func94, Tryz.ntmps94
      go_wp2_with (show wpList _ _ _ (Oper.mk (some 6) _ _ _ _ _ :: _) _ _; refine wpList_copy_splice (o := ⟨some 6, _, _, _, _, _⟩) (w := w.alloc (.cells #[iv 0, iv 0] 76)) rfl (.tmp 4) (.tmp 5) 22 22 rfl 3 Tryz.underlying22 hinfo (some ⟨w.heap.size, 0, none⟩) ao 2 2 1 c rfl rfl w.heap.size 0 [iv 0, iv 0] 76 (heap_alloc_new w _) [iv x] rfl hcp.out (by simp) (by simp [Value.oneCell']) w.heap.size w (Kp.new w _) (Nat.le_refl _) ?_; intro w1 hh hk1; obtain ⟨hc0, hc1⟩ := cells2 hh.out)
      go_ret
      exact ⟨rfl, hk1⟩
    · have h1 : (x == 1) = false := by simpa using h1
      go_enter Tryz.func94, Tryz.ntmps94
      go_wp2_with (show wpList _ _ _ (Oper.mk (some 6) _ _ _ _ _ :: _) _ _; refine wpList_copy_splice (o := ⟨some 6, _, _, _, _, _⟩) (w := w.alloc (.cells #[iv 0, iv 0] 76)) rfl (.tmp 4) (.tmp 5) 22 22 rfl 3 Tryz.underlying22 hinfo (some ⟨w.heap.size, 0, none⟩) ao 2 2 1 c rfl rfl w.heap.size 0 [iv 0, iv 0] 76 (heap_alloc_new w _) [iv x] rfl hcp.out (by simp) (by simp [Value.oneCell']) w.heap.size w (Kp.new w _) (Nat.le_refl _) ?_; intro w1 hh hk1; obtain ⟨hc0, hc1⟩ := cells2 hh.out)
      go_ret
      exact ⟨rfl, hk1⟩
  | [x, y], hx =>
    obtain rfl : n = 2 := hx.1.symm
    have hcp := Lib.hid (known_copy hx (.cells #[iv 0, iv 0] 76))
    have hq := eq104
    clear hx hl
    show Calls Tryz.prog 94 #[.slice ao 2 c] w fun e w' => e = .returned (.bool (x == 1 && y == 2)) ∧ Kp w w'
    go_enter Tryz.func94, Tryz.ntmps94
    go_wp2_with (show wpList _ _ _ (Oper.mk (some 6) _ _ _ _ _ :: _) _ _; refine wpList_copy_splice (o := ⟨some 6, _, _, _, _, _⟩) (w := w.alloc (.cells #[iv 0, iv 0] 76)) rfl (.tmp 4) (.tmp 5) 22 22 rfl 3 Tryz.underlying22 hinfo (some ⟨w.heap.size, 0, none⟩) ao 2 2 2 c rfl rfl w.heap.size 0 [iv 0, iv 0] 76 (heap_alloc_new w _) [iv x, iv y] rfl hcp.out (by simp) (by simp [Value.oneCell']) w.heap.size w (Kp.new w _) (Nat.le_refl _) ?_; intro w1 hh hk1; obtain ⟨hc0, hc1⟩ := cells2 hh.out)
    go_ret
    exact ⟨rfl, hk1⟩
  | x :: y :: z :: r, hx =>
    obtain ⟨m, rfl⟩ : ∃ m, n = m + 3 := ⟨r.length, by rw [← hx.1]; rfl⟩
    have hcp := Lib.hid (known_copy hx (.cells #[iv 0, iv 0] 76))
    have hm := hx.2.1
    unfold maxLen at hm
    clear hx hl
    have hmin : ([iv x, iv y] : List Value).length = Nat.min (m + 3) 2 := by show 2 = min (m + 3) 2; omega
    show Calls Tryz.prog 94 #[.slice ao (m + 3) c] w fun e w' => e = .returned (.bool false) ∧ Kp w w'
    go_enter Tryz.func94, Tryz.ntmps94
    go_wp2_with (show wpList _ _ _ (Oper.mk (some 6) _ _ _ _ _ :: _) _ _; refine wpList_copy_splice (o := ⟨some 6, _, _, _, _, _⟩) (w := w.alloc (.cells #[iv 0, iv 0] 76)) rfl (.tmp 4) (.tmp 5) 22 22 rfl 3 Tryz.underlying22 hinfo (some ⟨w.heap.size, 0, none⟩) ao 2 2 (m + 3) c rfl rfl w.heap.size 0 [iv 0, iv 0] 76 (heap_alloc_new w _) [iv x, iv y] hmin hcp.out (by simp) (by simp [Value.oneCell']) w.heap.size w (Kp.new w _) (Nat.le_refl _) ?_; intro w1 hh hk1; obtain ⟨hc0, hc1⟩ := cells2 hh.out)
    go_ret
    exact ⟨rfl, hk1⟩
end Go.Proofs.YtkmejehhdjdlbaaGreatDoor

namespace Go.Proofs.YtkmejehhdjdlbaaGreatDoor.Q

abbrev Ln := Int × List Int
abbrev Bt := List UInt8
/-- The token of a word. -/
def wordT : Bt → Option Int
  | [101] => some 1
  | [115] => some 2
  | [101, 101] => some 3
  | [101, 115] => some 4
  | [115, 101] => some 5
  | [115, 115] => some 6
  | [112, 115, 107] => some 7
  | _ => none
def outR : Bt := [32, 32, 45, 62, 32]
def inR : Bt := [32, 32, 60, 45, 32]
def restR : Bt := [32, 32, 46, 46, 46]
def comma : Bt := [44, 32]
/-- All the tokens of a list of words. -/
def wordsT : List Bt → Option (List Int)
  | [] => some []
  | x :: r => match wordT x, wordsT r with
    | some t, some l => some (t :: l)
    | _, _ => none
/-- A row of a side, as the program reads it. -/
def lineP (s : Bt) : Option Ln :=
  if Lib.hasPrefix s outR then (wordsT (Lib.split (s.drop 5) comma)).map (fun l => (0, l))
  else if Lib.hasPrefix s inR then (wordsT (Lib.split (s.drop 5) comma)).map (fun l => (1, l)) else none

/-- What has been read so far: known ahead, the messages, has the row of three dots been met. -/
structure Rd where
  b0 : List Int
  b1 : List Int
  ls : List Ln
  rest : Bool
def rd0 : Rd := ⟨[], [], [], false⟩
/-- May the row of three dots stand here? -/
def restOk (S : Rd) : Bool := !S.rest && (match S.ls with
  | [_] => true
  | [a, b] => decide (a.1 < b.1)
  | _ => false)
/-- The row of three dots: the messages so far are what is known ahead. -/
def moved (S : Rd) : Rd := ⟨S.ls.foldl (fun b l => if l.1 = 0 then l.2 else b) S.b0, S.ls.foldl (fun b l => if l.1 = 0 then b else l.2) S.b1, [], true⟩
/-- One row, as the program takes it. -/
def rowP (S : Rd) (s : Bt) : Option Rd :=
  if s = restR then (if restOk S then some (moved S) else none)
  else match lineP s with
    | some l => some { S with ls := S.ls ++ [l] }
    | none => none
/-- The rows, one behind the other, while there is a text left. -/
def loopP : Nat → Bt → Rd → Option Rd
  | 0, _, _ => none
  | k + 1, r, S => if r = [] then some S else
    match Lib.cut r [10] with
    | (s, rest, true) => (rowP S s).bind (loopP k rest)
    | _ => none
/-- May a byte stand in a name? -/
def nameC (c : UInt8) : Bool := (65 ≤ c && c ≤ 90) || (97 ≤ c && c ≤ 122) || (48 ≤ c && c ≤ 57) || c == 43
def isName (s : Bt) : Bool := s.all nameC && !s.isEmpty
/-- A whole text, as the program reads it. -/
def readP (t : Bt) : Option (Bt × Rd) :=
  match Lib.cut t [10] with
  | (s, rest, true) => if Lib.hasSuffix s [58] && isName (Lib.trimSuffix s [58]) then (loopP (rest.length + 1) rest rd0).map (fun S => (Lib.trimSuffix s [58], S)) else none
  | _ => none

theorem cut_shorter {r s rest : Bt} (h : Lib.cut r [10] = (s, rest, true)) : rest.length < r.length := by
  unfold Lib.cut at h
  split at h
  · rename_i hi
    simp only [Prod.mk.injEq, and_true] at h
    obtain ⟨_, rfl⟩ := h
    have := Lib.index_room r [10] hi
    simp only [List.length_cons, List.length_nil] at this
    simp only [List.length_drop, List.length_cons, List.length_nil]
    omega
  · simp at h
theorem loopP_fuel : ∀ (k m : Nat) (r : Bt) (S : Rd), r.length < k → r.length < m → loopP k r S = loopP m r S := by
  intro k
  induction k with
  | zero => intro m r S h; omega
  | succ k ih =>
    intro m r S h1 h2
    obtain ⟨m, rfl⟩ : ∃ m', m = m' + 1 := ⟨m - 1, by omega⟩
    simp only [loopP]
    split
    · rfl
    · split
      · rename_i s rest hc
        have := cut_shorter hc
        cases rowP S s with
        | none => rfl
        | some S' => exact ih m rest S' (by omega) (by omega)
      · rfl
/-- The rest of a reading. -/
def goP (r : Bt) (S : Rd) : Option Rd := loopP (r.length + 1) r S
theorem goP_nil (S : Rd) : goP [] S = some S := rfl
theorem goP_cons {r : Bt} (S : Rd) (h : r ≠ []) : goP r S = match Lib.cut r [10] with
    | (s, rest, true) => (rowP S s).bind (goP rest)
    | _ => none := by
  unfold goP
  rw [loopP, if_neg h]
  split
  · rename_i s rest hc
    have := cut_shorter hc
    cases rowP S s with
    | none => rfl
    | some S' => exact loopP_fuel _ _ _ _ (by omega) (by omega)
  · rfl
theorem readP_eq (t : Bt) : readP t = match Lib.cut t [10] with
  | (s, rest, true) => if Lib.hasSuffix s [58] && isName (Lib.trimSuffix s [58]) then (goP rest rd0).map (fun S => (Lib.trimSuffix s [58], S)) else none
  | _ => none := rfl
end Go.Proofs.YtkmejehhdjdlbaaGreatDoor.Q

namespace Go.Proofs.YtkmejehhdjdlbaaGreatDoor.Q

def headPsk : Bt := [112, 115, 107]
/-- As the program reads it: a numeral that is written again as it stands. -/
def numP (w : Bt) : Option Nat :=
  if Lib.hasPrefix w headPsk && decide (3 < w.length) then
    match Lib.atoiAll (w.drop 3) with
    | .ok v => if 0 ≤ v ∧ Lib.itoa v = w.drop 3 then some v.toNat else none
    | _ => none
  else none
end Go.Proofs.YtkmejehhdjdlbaaGreatDoor.Q

namespace Go.Proofs.YtkmejehhdjdlbaaGreatDoor.Q

/-! ### Words -/
theorem pre_get {s p : Bt} (h : Lib.hasPrefix s p = true) : ∃ r, s = p ++ r := by
  unfold Lib.hasPrefix at h
  obtain ⟨r, hr⟩ := List.isPrefixOf_iff_prefix.1 h
  exact ⟨r, hr.symm⟩
/-! ### Rows -/
end Go.Proofs.YtkmejehhdjdlbaaGreatDoor.Q

namespace Go.Proofs.YtkmejehhdjdlbaaGreatDoor.Q

def tokW (t : Int) : Bt := if t = 1 then [101] else if t = 2 then [115] else if t = 3 then [101, 101] else if t = 4 then [101, 115] else if t = 5 then [115, 101] else if t = 6 then [115, 115] else if t = 7 then [112, 115, 107] else []
theorem wordT_some {x : Bt} {t : Int} (h : wordT x = some t) : tokW t = x ∧ 1 ≤ t ∧ t ≤ 7 := by
  unfold wordT at h
  split at h <;> first | (simp only [Option.some.injEq] at h; subst h; exact ⟨rfl, by decide, by decide⟩) | cases h
/-- Words with commas between. -/
def joinT : List Bt → Bt
  | [] => []
  | [x] => x
  | x :: y :: r => x ++ comma ++ joinT (y :: r)
/-! ### Rows -/
def headT (f : Int) : Bt := if f = 1 then inR else outR
/-- A row of a side, without its end. -/
def rowT (l : Ln) : Bt := headT l.1 ++ joinT (l.2.map tokW)
/-- A pattern's rows behind the first one. -/
def rowsT (b0 b1 : List Int) (ls : List Ln) : List Bt :=
  (if b0 = [] then [] else [rowT (0, b0)]) ++ (if b1 = [] then [] else [rowT (1, b1)]) ++ (if b0 = [] ∧ b1 = [] then [] else [restR]) ++ ls.map rowT
def endR (s : Bt) : Bt := s ++ [10]
/-- A pattern's text. -/
def printT (nm : Bt) (b0 b1 : List Int) (ls : List Ln) : Bt := nm ++ [58, 10] ++ (rowsT b0 b1 ls).flatMap endR
end Go.Proofs.YtkmejehhdjdlbaaGreatDoor.Q

namespace Go.Proofs.YtkmejehhdjdlbaaGreatDoor.Q

/-- The patterns of it, in the text's order: name, known ahead of each side, messages, whether there is a row of three dots. -/
def tableL : List (Bt × (List Int × List Int) × List Ln × Bool) := [
  ([78], ([], [2]), [(0, [1, 4])], true),
  ([75], ([2], [2]), [(0, [1, 4, 6])], true),
  ([88], ([], [2]), [(0, [1, 4, 2, 6])], true),
  ([78, 78], ([], []), [(0, [1]), (1, [1, 3])], false),
  ([78, 75], ([], [2]), [(0, [1, 4]), (1, [1, 3])], true),
  ([78, 88], ([], []), [(0, [1]), (1, [1, 3, 2, 4])], false),
  ([88, 78], ([], []), [(0, [1]), (1, [1, 3]), (0, [2, 5])], false),
  ([88, 75], ([], [2]), [(0, [1, 4]), (1, [1, 3]), (0, [2, 5])], true),
  ([88, 88], ([], []), [(0, [1]), (1, [1, 3, 2, 4]), (0, [2, 5])], false),
  ([75, 78], ([2], []), [(0, [1]), (1, [1, 3, 5])], true),
  ([75, 75], ([2], [2]), [(0, [1, 4, 6]), (1, [1, 3, 5])], true),
  ([75, 88], ([2], []), [(0, [1]), (1, [1, 3, 5, 2, 4])], true),
  ([73, 78], ([], []), [(0, [1, 2]), (1, [1, 3, 5])], false),
  ([73, 75], ([], [2]), [(0, [1, 4, 2, 6]), (1, [1, 3, 5])], true),
  ([73, 88], ([], []), [(0, [1, 2]), (1, [1, 3, 5, 2, 4])], false),
  ([78, 75, 49], ([], [2]), [(0, [1]), (1, [1, 3, 4])], true),
  ([78, 88, 49], ([], []), [(0, [1]), (1, [1, 3, 2]), (0, [4])], false),
  ([88, 49, 78], ([], []), [(0, [1]), (1, [1, 3]), (0, [2]), (1, [5])], false),
  ([88, 49, 75], ([], [2]), [(0, [1, 4]), (1, [1, 3]), (0, [2]), (1, [5])], true),
  ([88, 75, 49], ([], [2]), [(0, [1]), (1, [1, 3, 4]), (0, [2, 5])], true),
  ([88, 49, 75, 49], ([], [2]), [(0, [1]), (1, [1, 3, 4]), (0, [2]), (1, [5])], true),
  ([88, 49, 88], ([], []), [(0, [1]), (1, [1, 3, 2, 4]), (0, [2]), (1, [5])], false),
  ([88, 88, 49], ([], []), [(0, [1]), (1, [1, 3, 2]), (0, [4, 2, 5])], false),
  ([88, 49, 88, 49], ([], []), [(0, [1]), (1, [1, 3, 2]), (0, [4, 2]), (1, [5])], false),
  ([75, 49, 78], ([2], []), [(0, [1]), (1, [1, 3]), (0, [5])], true),
  ([75, 49, 75], ([2], [2]), [(0, [1, 4]), (1, [1, 3]), (0, [5])], true),
  ([75, 75, 49], ([2], [2]), [(0, [1]), (1, [1, 3, 5, 4])], true),
  ([75, 49, 75, 49], ([2], [2]), [(0, [1]), (1, [1, 3, 4]), (0, [5])], true),
  ([75, 49, 88], ([2], []), [(0, [1]), (1, [1, 3, 2, 4]), (0, [5])], true),
  ([75, 88, 49], ([2], []), [(0, [1]), (1, [1, 3, 5, 2]), (0, [4])], true),
  ([75, 49, 88, 49], ([2], []), [(0, [1]), (1, [1, 3, 2]), (0, [5, 4])], true),
  ([73, 49, 78], ([], []), [(0, [1, 2]), (1, [1, 3]), (0, [5])], false),
  ([73, 49, 75], ([], [2]), [(0, [1, 4, 2]), (1, [1, 3]), (0, [5])], true),
  ([73, 75, 49], ([], [2]), [(0, [1, 2]), (1, [1, 3, 5, 4])], true),
  ([73, 49, 75, 49], ([], [2]), [(0, [1, 2]), (1, [1, 3, 4]), (0, [5])], true),
  ([73, 49, 88], ([], []), [(0, [1, 2]), (1, [1, 3, 2, 4]), (0, [5])], false),
  ([73, 88, 49], ([], []), [(0, [1, 2]), (1, [1, 3, 5, 2]), (0, [4])], false),
  ([73, 49, 88, 49], ([], []), [(0, [1, 2]), (1, [1, 3, 2]), (0, [5, 4])], false)]
/-- The text of the table: each pattern printed, and an empty row behind it. -/
def tableB : Bt := tableL.flatMap (fun y => printT y.1 y.2.1.1 y.2.1.2 y.2.2.1 ++ [10])
def piecesB : List Bt := Lib.splitK [10, 10] 2 (Lib.count tableB [10, 10]) tableB
def rowR (x : Bt × (List Int × List Int) × List Ln × Bool) : Bt × Bool × Option (Bt × Rd) := (x.1, true, some (x.1, ⟨x.2.1.1, x.2.1.2, x.2.2.1, x.2.2.2⟩))
theorem pieces_count : Lib.count tableB [10, 10] = 38 := by kernel_rfl
end Go.Proofs.YtkmejehhdjdlbaaGreatDoor.Q

namespace Go.Proofs.YtkmejehhdjdlbaaGreatDoor
open Go.RowKit

section
variable {P : Program} {ops : Array Oper} {md : Region.Mode} {w : World}

/-- A region is shown to end at its end. -/
def Qn (Q : Exit → Act → World → Prop) : Exit → Act → World → Prop
  | .normal, a, w => Q .normal a w
  | _, _, _ => False

theorem any_start {id : Nat} {Q : Exit → Act → World → Prop} {a : Act} {l : List Oper} (hm : P.follows .mixedOrders = true)
    (h : wpAny P .any l.toArray (Qn Q) l.length (Array.replicate l.length false) a w.drew) : (Code.region id l.toArray true).wp P Q a w :=
  Code.wp_mono (fun e a w h => by cases e <;> first | exact h | exact h.elim) (wp_region_any (Q := Qn Q) hm (by simpa using h))

theorem any_end {Q : Exit → Act → World → Prop} {a : Act} {listed : Array Bool} {fuel : Nat} (hr : (Region.ready md ops listed).isEmpty = true) (h : Q .normal a w) : wpAny P md ops (Qn Q) fuel listed a w :=
  wpAny_done (Q := Qn Q) (by simpa using hr) h fuel

/-- The operations of these numbers. -/
def opsAt (ops : Array Oper) : List Nat → List Oper
  | [] => []
  | i :: r => match ops[i]? with | some o => o :: opsAt ops r | none => opsAt ops r

def listAll (listed : Array Bool) : List Nat → Array Bool
  | [] => listed
  | i :: r => listAll (listed.setIfInBounds i true) r

/-! ### One operation that is the only one that may come up -/
theorem any_one {Q : Exit → Act → World → Prop} {a : Act} {listed : Array Bool} {n : Nat} (i : Nat) (hr : (decide (Region.ready md ops listed = [i]) && decide (i < ops.size) && decide (0 < n)) = true)
    (h : wpList P ops (fun e a2 w2 => match e with | .normal => wpAny P md ops (Qn Q) (n - 1) (listed.setIfInBounds i true) a2 w2 | _ => False) (opsAt ops [i]) a w) : wpAny P md ops (Qn Q) n listed a w := by
  simp only [Bool.and_eq_true, decide_eq_true_eq] at hr
  obtain ⟨⟨hr, hi⟩, hn⟩ := hr
  obtain ⟨fuel, rfl⟩ : ∃ fuel, n = fuel + 1 := ⟨n - 1, by omega⟩
  rw [Nat.add_sub_cancel] at h
  have ho : ops[i]? = some ops[i] := Array.getElem?_eq_getElem hi
  generalize ops[i] = o at ho
  simp only [opsAt, ho] at h
  refine ⟨fun h0 => (by rw [h0] at hr; cases hr), fun j hj => ?_⟩
  rw [hr] at hj
  obtain rfl : j = i := by simpa using hj
  unfold wpOp
  simp only [ho]
  unfold wpList at h
  split
  · rename_i hw
    rw [if_pos hw] at h
    rcases h with h1 | ⟨_, h2⟩
    · left
      unfold Oper.wp at h1 ⊢
      generalize (execOp a.eval o).run P w = r at h1 ⊢
      cases r with
      | ok nx w' =>
        cases nx <;> simp only [Oper.upon] at h1 ⊢ <;> first
          | exact h1
          | exact Calls.mono h1 (fun e w'' he => by cases e <;> first | exact he | exact he.elim | (obtain ⟨_, _, hf⟩ := he; exact hf.elim))
          | exact Rows.mono h1 (fun _ _ he => he)
      | halt x w' => cases x <;> simp only [Oper.upon] at h1
    · exact absurd h2 (by simp [LetsOut])
  · rename_i hw
    rw [if_neg hw] at h
    exact h

/-! ### Operations that look at no world -/
/-- These hand on a value or end the call: nothing else. -/
def valued (o : Oper) : Bool :=
  match o.op with
  | .move _ | .assign _ | .pick .. | .binOp .. | .unOp .. | .convert .. | .slice .. | .build .. | .fieldAddr .. | .field .. | .indexAddr .. | .index .. | .extract .. => true
  | .nilCheck _ => true
  | .call c => (match c.callee with | .builtin .len => true | .builtin .cap => true | _ => false)
  | _ => false

theorem ok_bind_value {s : Sem Value} {x : Next} {w' : World} (h : (do pure (Next.value (← s)) : Sem Next).run P w = .ok x w') : ∃ v, x = .value v := by
  simp only [Sem.run_bind] at h
  cases hs : s.run P w with
  | ok v w1 => rw [hs] at h; simp only [Result.andThen, Sem.run_pure, Result.ok.injEq] at h; exact ⟨v, h.1.symm⟩
  | halt x w1 => rw [hs] at h; simp [Result.andThen] at h

theorem vd_bind {α : Type} {s : Sem α} {f : α → Sem Next} (hf : ∀ (a : α) (w : World) x w', (f a).run P w = .ok x w' → ∃ v, x = .value v) {x : Next} {w' : World} (h : (s >>= f).run P w = .ok x w') : ∃ v, x = .value v := by
  simp only [Sem.run_bind] at h
  cases hs : s.run P w with
  | ok v w1 => rw [hs] at h; exact hf _ _ _ _ h
  | halt x w1 => rw [hs] at h; simp [Result.andThen] at h
theorem vd_pure (v : Value) (x : Next) (w' : World) (h : (pure (Next.value v) : Sem Next).run P w = .ok x w') : ∃ v, x = .value v := by
  simp only [Sem.run_pure, Result.ok.injEq] at h; exact ⟨_, h.1.symm⟩

theorem valued_ok {o : Oper} {ρ : Operand → Value} {x : Next} {w' : World} (hv : valued o = true) (h : (execOp ρ o).run P w = .ok x w') : ∃ v, x = .value v := by
  obtain ⟨dst, op, type, pos, after, guard⟩ := o
  unfold execOp at h
  cases op <;> simp only [valued, Bool.false_eq_true] at hv <;> simp only at h
  case move y => simp only [Sem.run_pure, Result.ok.injEq] at h; exact ⟨_, h.1.symm⟩
  case assign y => simp only [Sem.run_pure, Result.ok.injEq] at h; exact ⟨_, h.1.symm⟩
  case pick c p q =>
    simp only [Sem.run_bind] at h
    cases hs : (asBool (ρ c)).run P w with
    | ok v w1 => rw [hs] at h; simp only [Result.andThen, Sem.run_pure, Result.ok.injEq] at h; exact ⟨_, h.1.symm⟩
    | halt x w1 => rw [hs] at h; simp [Result.andThen] at h
  case nilCheck y =>
    have hp : (runtimePanic .nilDeref : Sem Next).run P w = .ok x w' → ∃ v, x = .value v := by
      intro he
      exfalso
      simp [runtimePanic, goPanic] at he
    (repeat' split at h) <;> first
      | exact hp h
      | (simp only [Sem.run_pure, Result.ok.injEq] at h; exact ⟨_, h.1.symm⟩)
      | (refine vd_bind (fun p w1 x1 w2 h1 => vd_bind (fun q w3 x3 w4 h3 => ?_) h1) h
         split at h3
         · exact vd_bind (fun _ _ _ _ h5 => vd_pure _ _ _ h5) h3
         · exact vd_pure _ _ _ h3)
  case call c =>
    obtain ⟨callee, args, ats⟩ := c
    cases callee with
    | value f => cases hv
    | invoke r m => cases hv
    | builtin b =>
      cases b <;> first
        | (cases hv; done)
        | (rw [Sem.run_bind] at h; exact ok_bind_value h)
  all_goals exact ok_bind_value h

def takeB (md : Region.Mode) (ops : Array Oper) : Array Bool → List Nat → Bool
  | _, [] => true
  | listed, i :: r => (match ops[i]? with | some o => valued o | none => false) && (Region.ready md ops listed).contains i && Region.free md ops listed i && takeB md ops (listed.setIfInBounds i true) r

theorem yields_of_quiet {o : Oper} {a : Act} {v : Value} (hv : valued o = true) (hw : Region.wanted o (yielded ops a.tmps) = true) (h : ∀ w : World, True → o.quietAt P a (fun _ => True) w v) : Yields P ops o v a := by
  left
  refine ⟨hw, fun w => ?_⟩
  have h1 := h w trivial
  unfold Oper.quietAt at h1
  cases hr : (execOp a.eval o).run P w with
  | ok x w' =>
    obtain ⟨u, rfl⟩ := valued_ok hv hr
    rw [hr] at h1
    simp only [Oper.quietUpon] at h1
    obtain ⟨rfl, rfl⟩ := h1
    rfl
  | halt x w' =>
    rw [hr] at h1
    simp only [Oper.quietUpon] at h1

theorem take_all {Q : Exit → Act → World → Prop} (hs : Region.noSelect ops = true) (fuel : Nat) : ∀ (is : List Nat) (listed : Array Bool) (a : Act), takeB md ops listed is = true →
    wpQuiet P ops (fun _ => True) (fun a' => wpAny P md ops (Qn Q) fuel (listAll listed is) a' w) (opsAt ops is) a → wpAny P md ops (Qn Q) (fuel + is.length) listed a w
  | [], _, _, _, h => h
  | i :: r, listed, a, hB, h => by
    simp only [takeB, Bool.and_eq_true] at hB
    obtain ⟨⟨⟨hv, hr⟩, hf⟩, hB'⟩ := hB
    cases ho : ops[i]? with
    | none => rw [ho] at hv; cases hv
    | some o =>
      rw [ho] at hv
      simp only [opsAt, ho] at h
      unfold wpQuiet at h
      rw [List.length_cons, ← Nat.add_assoc]
      split at h
      · rename_i hw
        obtain ⟨v, h1, h2⟩ := h
        exact wpAny_take (Q := Qn Q) ho hs hf hr (fun _ _ _ h => h.elim) (yields_of_quiet hv hw h1) (take_all hs fuel r _ _ hB' h2)
      · rename_i hw
        exact wpAny_take (Q := Qn Q) ho hs hf hr (fun _ _ _ h => h.elim) (.inr ⟨by simpa using hw, rfl⟩) (take_all hs fuel r _ _ hB' h)

/-- Operations that look at no world, taken first. -/
theorem any_take {Q : Exit → Act → World → Prop} {n : Nat} {listed : Array Bool} {a : Act} (is : List Nat) (hB : (Region.noSelect ops && takeB md ops listed is && decide (is.length ≤ n)) = true)
    (h : wpQuiet P ops (fun _ => True) (fun a' => wpAny P md ops (Qn Q) (n - is.length) (listAll listed is) a' w) (opsAt ops is) a) : wpAny P md ops (Qn Q) n listed a w := by
  simp only [Bool.and_eq_true, decide_eq_true_eq] at hB
  have := take_all hB.1.1 (n - is.length) is listed a hB.1.2 h
  rwa [Nat.sub_add_cancel hB.2] at this


/-! ### Any operations, by what holds whichever have run -/
theorem ready_spec {listed : Array Bool} {i : Nat} (h : i ∈ Region.ready md ops listed) : i < ops.size ∧ listed.getD i true = false ∧ ∀ o, ops[i]? = some o → ∀ e ∈ o.after, Region.binds md e = true → listed.getD e.on false = true := by
  unfold Region.ready at h
  rw [List.mem_filter] at h
  obtain ⟨h1, h2⟩ := h
  simp only [Bool.and_eq_true, Bool.not_eq_true'] at h2
  refine ⟨List.mem_range.1 h1, h2.1, fun o ho e he hb => ?_⟩
  have h3 := h2.2
  rw [ho] at h3
  simp only [Option.map_some, Option.getD_some] at h3
  have h4 := Array.all_eq_true_iff_forall_mem.1 h3 e he
  simpa [hb] using h4
end
end Go.Proofs.YtkmejehhdjdlbaaGreatDoor

namespace Go.Proofs.YtkmejehhdjdlbaaGreatDoor
open Go.RowKit
section
variable {P : Program} {ops : Array Oper} {md : Region.Mode} {w : World}
/-! ### Two operations that may come up -/
theorem op_of_list {Q : Exit → Act → World → Prop} {a : Act} {i : Nat} {K : Act → World → Prop} (hi : i < ops.size)
    (h : wpList P ops (fun e a2 w2 => match e with | .normal => K a2 w2 | _ => False) (opsAt ops [i]) a w) : wpOp P ops (Qn Q) i K a w := by
  have ho : ops[i]? = some ops[i] := Array.getElem?_eq_getElem hi
  generalize ops[i] = o at ho
  simp only [opsAt, ho] at h
  unfold wpOp
  simp only [ho]
  unfold wpList at h
  split
  · rename_i hw
    rw [if_pos hw] at h
    rcases h with h1 | ⟨_, h2⟩
    · left
      unfold Oper.wp at h1 ⊢
      generalize (execOp a.eval o).run P w = r at h1 ⊢
      cases r with
      | ok nx w' =>
        cases nx <;> simp only [Oper.upon] at h1 ⊢ <;> first
          | exact h1
          | exact Calls.mono h1 (fun e w'' he => by cases e <;> first | exact he | exact he.elim | (obtain ⟨_, _, hf⟩ := he; exact hf.elim))
          | exact Rows.mono h1 (fun _ _ he => he)
      | halt x w' => cases x <;> simp only [Oper.upon] at h1
    · exact absurd h2 (by simp [LetsOut])
  · rename_i hw
    rw [if_neg hw] at h
    exact h
theorem any_two {Q : Exit → Act → World → Prop} {a : Act} {listed : Array Bool} {n : Nat} (i j : Nat) (hr : (decide (Region.ready md ops listed = [i, j]) && decide (i < ops.size) && decide (j < ops.size) && decide (0 < n)) = true)
    (h1 : wpList P ops (fun e a2 w2 => match e with | .normal => wpAny P md ops (Qn Q) (n - 1) (listed.setIfInBounds i true) a2 w2 | _ => False) (opsAt ops [i]) a w)
    (h2 : wpList P ops (fun e a2 w2 => match e with | .normal => wpAny P md ops (Qn Q) (n - 1) (listed.setIfInBounds j true) a2 w2 | _ => False) (opsAt ops [j]) a w) : wpAny P md ops (Qn Q) n listed a w := by
  simp only [Bool.and_eq_true, decide_eq_true_eq] at hr
  obtain ⟨⟨⟨hr, hi⟩, hj⟩, hn⟩ := hr
  obtain ⟨fuel, rfl⟩ : ∃ fuel, n = fuel + 1 := ⟨n - 1, by omega⟩
  rw [Nat.add_sub_cancel] at h1 h2
  refine ⟨fun h0 => (by rw [h0] at hr; cases hr), fun m hm => ?_⟩
  rw [hr] at hm
  rcases List.mem_cons.1 hm with rfl | hm
  · exact op_of_list hi h1
  · obtain rfl : m = j := by simpa using hm
    exact op_of_list hj h2

end
end Go.Proofs.YtkmejehhdjdlbaaGreatDoor

namespace Go.Proofs.YtkmejehhdjdlbaaGreatDoor
open Go.RowKit

section
variable {P : Program} {ops : Array Oper} {md : Region.Mode} {w : World} {S : World → Prop}

end
end Go.Proofs.YtkmejehhdjdlbaaGreatDoor

namespace Go.Proofs.YtkmejehhdjdlbaaGreatDoor
open Go.RowKit

section
variable {P : Program} {ops : Array Oper} {md : Region.Mode} {w : World} {S : World → Prop} {N : Nat}

/-- Whatever order is picked, and S holds behind each operation but the last one. -/
def wpAnyN (P : Program) (md : Region.Mode) (ops : Array Oper) (Q : Exit → Act → World → Prop) (S : World → Prop) (N : Nat) : Nat → Array Bool → Act → World → Prop
  | 0, listed, a, w => Region.ready md ops listed = [] ∧ Q .normal a w
  | fuel + 1, listed, a, w => (Region.ready md ops listed = [] → Q .normal a w) ∧
    ∀ i ∈ Region.ready md ops listed, wpOp P ops Q i (fun a' w' => (i ≠ N → S w') ∧ wpAnyN P md ops Q S N fuel (listed.setIfInBounds i true) a' w') a w
theorem wpAny_of_N {Q : Exit → Act → World → Prop} : ∀ (fuel : Nat) (listed : Array Bool) (a : Act) (w : World), wpAnyN P md ops Q S N fuel listed a w → wpAny P md ops Q fuel listed a w
  | 0, _, _, _, h => h
  | fuel + 1, _, _, _, h => ⟨h.1, fun i hi => wpOp_mono (fun a' w' h' => wpAny_of_N fuel _ a' w' h'.2) (h.2 i hi)⟩
/-- The last operation waits for number i. -/
def lastB (md : Region.Mode) (ops : Array Oper) (N i : Nat) : Bool := match ops[N]? with
  | some o => o.after.any fun e => Region.binds md e && e.on == i
  | none => false
theorem lastB_spec {i : Nat} {o : Oper} (h : lastB md ops N i = true) (ho : ops[N]? = some o) : ∃ e ∈ o.after, Region.binds md e = true ∧ e.on = i := by
  unfold lastB at h
  rw [ho] at h
  obtain ⟨e, he, hb⟩ := Array.any_eq_true'.1 h
  simp only [Bool.and_eq_true, beq_iff_eq] at hb
  exact ⟨e, he, hb.1, hb.2⟩
theorem wpAnyN_first {Q : Exit → Act → World → Prop} {i : Nat} {oi : Oper} {v : Value} (hi : ops[i]? = some oi) (hsel : ∀ (j : Nat) (o : Oper) cs b, ops[j]? = some o → o.op ≠ .select cs b)
    (hQ : ∀ c a w, Q (.panic c) (a.put oi.dst v) w → Q (.panic c) a w) (hN : lastB md ops N i = true) :
    ∀ (fuel : Nat) (listed : Array Bool) (a : Act) (w : World),
      (∀ j oj, ops[j]? = some oj → j ≠ i → listed.getD j true = false → (∀ e ∈ oj.after, Region.binds md e = true → e.on ≠ i) → oi.apart ops oj = true) →
      i ∈ Region.ready md ops listed → YieldsIf P ops S oi v a → S w →
      wpAnyN P md ops Q S N fuel (listed.setIfInBounds i true) (a.put oi.dst v) w → wpAnyN P md ops Q S N (fuel + 1) listed a w := by
  intro fuel
  induction fuel with
  | zero =>
    intro listed a w _ hr hy hS H
    refine ⟨fun h => (by rw [h] at hr; cases hr), fun j hj => ?_⟩
    by_cases hji : j = i
    · subst hji; exact hy.wpOp hi hS ⟨fun _ => hS, H⟩
    · have := ready_mono hj hji
      rw [H.1] at this
      cases this
  | succ fuel ih =>
    intro listed a w hfree hr hy hS H
    refine ⟨fun h => (by rw [h] at hr; cases hr), fun j hj => ?_⟩
    by_cases hji : j = i
    · subst hji; exact hy.wpOp hi hS ⟨fun _ => hS, H⟩
    · have h1 := H.2 j (ready_mono hj hji)
      obtain ⟨hjun, oj, hoj, hall⟩ := mem_ready.1 hj
      have hnot : ∀ e ∈ oj.after, Region.binds md e = true → e.on ≠ i := fun e he hb heq => by
        have h1 := hall e he hb
        have h0 := (mem_ready.1 hr).1
        rw [heq] at h1
        rcases Nat.lt_or_ge i listed.size with h' | h'
        · simp [h'] at h0 h1; rw [h0] at h1; cases h1
        · simp [Array.getElem?_eq_none h'] at h1
      have hjN : j ≠ N := by
        rintro rfl
        obtain ⟨e, he, hb, h2⟩ := lastB_spec hN hoj
        exact hnot e he hb h2
      have h2 := wpOp_putIf hoj (hfree j oj hoj hji hjun hnot) (fun cs b => hsel i oi cs b hi) (fun cs b => hsel j oj cs b hoj) hQ hy h1
      have hfree' : ∀ k ok, ops[k]? = some ok → k ≠ i → (listed.setIfInBounds j true).getD k true = false →
          (∀ e ∈ ok.after, Region.binds md e = true → e.on ≠ i) → oi.apart ops ok = true := fun k ok hk hki hun hno => by
        refine hfree k ok hk hki ?_ hno
        by_cases hjk : j = k
        · subst hjk; exact hjun
        · rw [getD_set_ne true hjk] at hun; exact hun
      refine wpOp_mono (fun a' w' h3 => ⟨fun _ => h3.2.1 hjN, ih (listed.setIfInBounds j true) a' w' hfree' (ready_mono hr (Ne.symm hji)) h3.1 (h3.2.1 hjN) ?_⟩) h2
      rw [Array.setIfInBounds_comm _ _ hji]
      exact h3.2.2
theorem wpAnyN_take {Q : Exit → Act → World → Prop} {i : Nat} {oi : Oper} {v : Value} {fuel : Nat} {listed : Array Bool} {a : Act} {w : World} (hi : ops[i]? = some oi)
    (hs : Region.noSelect ops = true) (hf : Region.free md ops listed i = true) (hr : (Region.ready md ops listed).contains i = true) (hN : lastB md ops N i = true)
    (hQ : ∀ c a w, Q (.panic c) (a.put oi.dst v) w → Q (.panic c) a w) (hy : YieldsIf P ops S oi v a) (hS : S w)
    (h : wpAnyN P md ops Q S N fuel (listed.setIfInBounds i true) (a.put oi.dst v) w) : wpAnyN P md ops Q S N (fuel + 1) listed a w :=
  wpAnyN_first hi (Region.noSelect_spec hs) hQ hN fuel listed a w (Region.free_spec hi hf) (by simpa using hr) hy hS h

end
end Go.Proofs.YtkmejehhdjdlbaaGreatDoor

namespace Go.Proofs.YtkmejehhdjdlbaaGreatDoor
open Go.RowKit

section
variable {P : Program} {ops : Array Oper} {md : Region.Mode}
/-- Each of these is the only one that may come up, when those ahead of it have. -/
def onesB (md : Region.Mode) (ops : Array Oper) : Array Bool → List Nat → Bool
  | _, [] => true
  | listed, i :: r => decide (Region.ready md ops listed = [i]) && decide (i < ops.size) && onesB md ops (listed.setIfInBounds i true) r
theorem ones_all {Q : Exit → Act → World → Prop} (fuel : Nat) : ∀ (is : List Nat) (listed : Array Bool) (a : Act) (w : World), onesB md ops listed is = true →
    wpList P ops (fun e a2 w2 => match e with | .normal => wpAny P md ops (Qn Q) fuel (listAll listed is) a2 w2 | _ => False) (opsAt ops is) a w → wpAny P md ops (Qn Q) (fuel + is.length) listed a w
  | [], _, _, _, _, h => h
  | i :: r, listed, a, w, hB, h => by
    unfold onesB at hB
    simp only [Bool.and_eq_true, decide_eq_true_eq] at hB
    obtain ⟨⟨h1, h2⟩, h3⟩ := hB
    refine any_one (n := fuel + (i :: r).length) i (by simp [h1, h2]; omega) ?_
    rw [show fuel + (i :: r).length - 1 = fuel + r.length by simp only [List.length_cons]; omega]
    have ho : ops[i]? = some ops[i] := Array.getElem?_eq_getElem h2
    generalize ops[i] = o at ho
    simp only [opsAt, ho] at h ⊢
    have ih := fun a2 w2 => ones_all (Q := Q) fuel r (listed.setIfInBounds i true) a2 w2 h3
    unfold wpList at h ⊢
    split
    · rename_i hw
      rw [if_pos hw] at h
      rcases h with hl | ⟨_, hl⟩
      · left
        unfold Oper.wp at hl ⊢
        generalize (execOp a.eval o).run P w = s at hl ⊢
        cases s with
        | ok nx w' =>
          cases nx <;> simp only [Oper.upon] at hl ⊢ <;> first
            | exact ih _ _ hl
            | exact Calls.mono hl (fun e w'' he => by cases e <;> first | exact ih _ _ he | exact he.elim | (obtain ⟨_, _, hf⟩ := he; exact hf.elim))
            | exact Rows.mono hl (fun _ _ he => ih _ _ he)
            | exact hl
        | halt x w' => cases x <;> simp only [Oper.upon] at hl
      · exact absurd hl (by simp [LetsOut])
    · rename_i hw
      rw [if_neg hw] at h
      exact ih _ _ h
theorem any_ones {Q : Exit → Act → World → Prop} {n : Nat} {listed : Array Bool} {a : Act} {w : World} (is : List Nat) (hB : (onesB md ops listed is && decide (is.length ≤ n)) = true)
    (h : wpList P ops (fun e a2 w2 => match e with | .normal => wpAny P md ops (Qn Q) (n - is.length) (listAll listed is) a2 w2 | _ => False) (opsAt ops is) a w) : wpAny P md ops (Qn Q) n listed a w := by
  simp only [Bool.and_eq_true, decide_eq_true_eq] at hB
  have := ones_all (Q := Q) (n - is.length) is listed a w hB.1 h
  rwa [Nat.sub_add_cancel hB.2] at this
end
end Go.Proofs.YtkmejehhdjdlbaaGreatDoor

namespace Go.Proofs.YtkmejehhdjdlbaaGreatDoor
open Go.RowKit

section
variable {P : Program} {ops : Array Oper} {md : Region.Mode}
theorem load_one {Q : Exit → Act → World → Prop} {n : Nat} {listed : Array Bool} {a : Act} {w : World} (i : Nat) {oi : Oper} {vi : Value} (hi : ops[i]? = some oi) (hg : Region.wanted oi (yielded ops a.tmps) = true)
    (hv : (execOp a.eval oi).run P w = .ok (.value vi) w) (h : wpAny P md ops (Qn Q) n (listed.setIfInBounds i true) (a.put oi.dst vi) w) : wpOp P ops (Qn Q) i (wpAny P md ops (Qn Q) n (listed.setIfInBounds i true)) a w := by
  unfold wpOp
  simp only [hi]
  rw [if_pos hg]
  left
  unfold Oper.wp
  rw [hv]
  exact h
theorem any_lit {Q : Exit → Act → World → Prop} {n : Nat} {listed : Array Bool} {a : Act} {w : World} (n' : Nat) (listed' : Array Bool) (hB : (decide (n = n') && decide (listed = listed')) = true) (h : wpAny P md ops (Qn Q) n' listed' a w) : wpAny P md ops (Qn Q) n listed a w := by
  simp only [Bool.and_eq_true, decide_eq_true_eq] at hB
  rw [hB.1, hB.2]
  exact h
/-- Two that may come up, each of which yields its value whichever is first. -/
theorem any_pair {Q : Exit → Act → World → Prop} {n : Nat} {listed : Array Bool} {a : Act} {w : World} (i j : Nat) {oi oj : Oper} (vi vj : Value) (hi : ops[i]? = some oi) (hj : ops[j]? = some oj)
    (hr : (decide (Region.ready md ops listed = [i, j]) && decide (Region.ready md ops (listed.setIfInBounds i true) = [j]) && decide (Region.ready md ops (listed.setIfInBounds j true) = [i]) && decide ((listed.setIfInBounds i true).setIfInBounds j true = (listed.setIfInBounds j true).setIfInBounds i true)) = true)
    (hgi : Region.wanted oi (yielded ops a.tmps) = true) (hgj : Region.wanted oj (yielded ops a.tmps) = true) (hgi' : Region.wanted oi (yielded ops (a.put oj.dst vj).tmps) = true) (hgj' : Region.wanted oj (yielded ops (a.put oi.dst vi).tmps) = true)
    (hvi : (execOp a.eval oi).run P w = .ok (.value vi) w) (hvj : (execOp a.eval oj).run P w = .ok (.value vj) w) (hvi' : (execOp (a.put oj.dst vj).eval oi).run P w = .ok (.value vi) w) (hvj' : (execOp (a.put oi.dst vi).eval oj).run P w = .ok (.value vj) w)
    (hp : (a.put oi.dst vi).put oj.dst vj = (a.put oj.dst vj).put oi.dst vi)
    (h : wpAny P md ops (Qn Q) n ((listed.setIfInBounds i true).setIfInBounds j true) ((a.put oi.dst vi).put oj.dst vj) w) : wpAny P md ops (Qn Q) (n + 2) listed a w := by
  simp only [Bool.and_eq_true, decide_eq_true_eq] at hr
  obtain ⟨⟨⟨r1, r2⟩, r3⟩, r4⟩ := hr
  refine ⟨fun h0 => (by rw [h0] at r1; cases r1), fun m hm => ?_⟩
  rw [r1] at hm
  rcases List.mem_cons.1 hm with rfl | hm
  · refine load_one m hi hgi hvi ⟨fun h0 => (by rw [h0] at r2; cases r2), fun k hk => ?_⟩
    rw [r2] at hk
    obtain rfl : k = j := by simpa using hk
    exact load_one k hj hgj' hvj' h
  · obtain rfl : m = j := by simpa using hm
    refine load_one m hj hgj hvj ⟨fun h0 => (by rw [h0] at r3; cases r3), fun k hk => ?_⟩
    rw [r3] at hk
    obtain rfl : k = i := by simpa using hk
    refine load_one k hi hgi' hvi' ?_
    rw [← r4, ← hp]
    exact h
end
end Go.Proofs.YtkmejehhdjdlbaaGreatDoor

namespace Go.Proofs.YtkmejehhdjdlbaaGreatDoor
open Go.RowKit

section
variable {P : Program} {ops : Array Oper} {md : Region.Mode} {w : World} {S : World → Prop} {N : Nat}
/-- The ways out of a region: to its end, or by a panic. -/
def Qp (Q : Exit → Act → World → Prop) (I : Act → Prop) (R : List PanicEntry → World → Prop) : Exit → Act → World → Prop
  | .normal, a, w => Q .normal a w
  | .panic c, a, w => I a ∧ R c w
  | _, _, _ => False
/-- What a panic asks of the temporaries is asked of none that the region writes. -/
def Puts (ops : Array Oper) (I : Act → Prop) : Prop := ∀ (i : Nat) (o : Oper), ops[i]? = some o → ∀ (a : Act) (v : Value), I (a.put o.dst v) → I a
theorem op_of_listP {Q : Exit → Act → World → Prop} {I : Act → Prop} {R : List PanicEntry → World → Prop} {a : Act} {i : Nat} {K : Act → World → Prop} (hi : i < ops.size)
    (h : wpList P ops (fun e a2 w2 => match e with | .normal => K a2 w2 | .panic c => I a2 ∧ R c w2 | _ => False) (opsAt ops [i]) a w) : wpOp P ops (Qp Q I R) i K a w := by
  have ho : ops[i]? = some ops[i] := Array.getElem?_eq_getElem hi
  generalize ops[i] = o at ho
  simp only [opsAt, ho] at h
  unfold wpOp
  simp only [ho]
  unfold wpList at h
  split
  · rename_i hw
    rw [if_pos hw] at h
    rcases h with h1 | ⟨_, h2⟩
    · left
      unfold Oper.wp at h1 ⊢
      generalize (execOp a.eval o).run P w = r at h1 ⊢
      cases r with
      | ok nx w' =>
        cases nx <;> simp only [Oper.upon] at h1 ⊢ <;> first
          | exact h1
          | exact Calls.mono h1 (fun e w'' he => by cases e <;> first | exact he | exact he.elim | (obtain ⟨_, _, hf⟩ := he; exact hf.elim))
          | exact Rows.mono h1 (fun _ _ he => he)
      | halt x w' => cases x <;> simp only [Oper.upon] at h1 ⊢ <;> exact h1
    · exact absurd h2 (by simp [LetsOut])
  · rename_i hw
    rw [if_neg hw] at h
    exact h
theorem anyP_start {id : Nat} {Q : Exit → Act → World → Prop} {a : Act} {l : List Oper} (S : World → Prop) (N : Nat) (I : Act → Prop) (R : List PanicEntry → World → Prop) (hm : P.follows .mixedOrders = true) (hp : ∀ c a w, I a → R c w → Q (.panic c) a w)
    (h : wpAnyN P .any l.toArray (Qp Q I R) S N l.length (Array.replicate l.length false) a w.drew) : (Code.region id l.toArray true).wp P Q a w := by
  refine Code.wp_mono (fun e a w h => by cases e <;> first | exact h | exact hp _ _ _ h.1 h.2 | exact h.elim) (wp_region_any (Q := Qp Q I R) hm (wpAny_of_N (S := S) (N := N) _ _ _ _ ?_))
  simpa using h
theorem anyP_end {Q : Exit → Act → World → Prop} {I : Act → Prop} {R : List PanicEntry → World → Prop} {a : Act} {listed : Array Bool} {fuel : Nat} (hr : (Region.ready md ops listed).isEmpty = true) (h : Q .normal a w) : wpAnyN P md ops (Qp Q I R) S N fuel listed a w := by
  have hr : Region.ready md ops listed = [] := by simpa using hr
  cases fuel with
  | zero => exact ⟨hr, h⟩
  | succ f => exact ⟨fun _ => h, by rw [hr]; simp⟩
theorem takeP_all {Q : Exit → Act → World → Prop} {I : Act → Prop} {R : List PanicEntry → World → Prop} (hI : Puts ops I) (hs : Region.noSelect ops = true) (hS : S w) (fuel : Nat) : ∀ (is : List Nat) (listed : Array Bool) (a : Act), takeB md ops listed is = true → is.all (lastB md ops N) = true →
    wpQuiet P ops (fun _ => True) (fun a' => wpAnyN P md ops (Qp Q I R) S N fuel (listAll listed is) a' w) (opsAt ops is) a → wpAnyN P md ops (Qp Q I R) S N (fuel + is.length) listed a w
  | [], _, _, _, _, h => h
  | i :: r, listed, a, hB, hL, h => by
    simp only [takeB, Bool.and_eq_true] at hB
    obtain ⟨⟨⟨hv, hr⟩, hf⟩, hB'⟩ := hB
    simp only [List.all_cons, Bool.and_eq_true] at hL
    cases ho : ops[i]? with
    | none => rw [ho] at hv; cases hv
    | some o =>
      rw [ho] at hv
      simp only [opsAt, ho] at h
      unfold wpQuiet at h
      rw [List.length_cons, ← Nat.add_assoc]
      split at h
      · rename_i hw
        obtain ⟨v, h1, h2⟩ := h
        exact wpAnyN_take (Q := Qp Q I R) ho hs hf hr hL.1 (fun c a w h => ⟨hI _ _ ho _ _ h.1, h.2⟩) (yields_of_quiet hv hw h1).yieldsIf hS (takeP_all hI hs hS fuel r _ _ hB' hL.2 h2)
      · rename_i hw
        exact wpAnyN_take (Q := Qp Q I R) ho hs hf hr hL.1 (fun c a w h => ⟨hI _ _ ho _ _ h.1, h.2⟩) (.inr ⟨by simpa using hw, rfl⟩) hS (takeP_all hI hs hS fuel r _ _ hB' hL.2 h)
/-- Operations that look at no world, taken first. -/
theorem anyP_take {Q : Exit → Act → World → Prop} {I : Act → Prop} {R : List PanicEntry → World → Prop} {n : Nat} {listed : Array Bool} {a : Act} (hI : Puts ops I) (is : List Nat) (hB : (Region.noSelect ops && takeB md ops listed is && is.all (lastB md ops N) && decide (is.length ≤ n)) = true) (hS : S w)
    (h : wpQuiet P ops (fun _ => True) (fun a' => wpAnyN P md ops (Qp Q I R) S N (n - is.length) (listAll listed is) a' w) (opsAt ops is) a) : wpAnyN P md ops (Qp Q I R) S N n listed a w := by
  simp only [Bool.and_eq_true, decide_eq_true_eq] at hB
  have := takeP_all hI hB.1.1.1 hS (n - is.length) is listed a hB.1.1.2 hB.1.2 h
  rwa [Nat.sub_add_cancel hB.2] at this
/-- A load, taken first. -/
theorem anyP_load {Q : Exit → Act → World → Prop} {I : Act → Prop} {R : List PanicEntry → World → Prop} {n : Nat} {listed : Array Bool} {a : Act} (hI : Puts ops I) (i k : Nat) (v : Value) {o : Oper} (ho : ops[i]? = some o) (hd : o.dst = some k)
    (hB : (Region.noSelect ops && Region.free md ops listed i && (Region.ready md ops listed).contains i && lastB md ops N i && decide (0 < n) && o.guard.isNone) = true) (hS : S w)
    (hv : ∀ w, S w → (execOp a.eval o).run P w = .ok (.value v) w)
    (h : wpAnyN P md ops (Qp Q I R) S N (n - 1) (listed.setIfInBounds i true) (a.put (some k) v) w) : wpAnyN P md ops (Qp Q I R) S N n listed a w := by
  rw [← hd] at h
  simp only [Bool.and_eq_true, decide_eq_true_eq] at hB
  obtain ⟨⟨⟨⟨⟨h1, h2⟩, h3⟩, hl⟩, h4⟩, h5⟩ := hB
  obtain ⟨m, rfl⟩ : ∃ m, n = m + 1 := ⟨n - 1, by omega⟩
  rw [Nat.add_sub_cancel] at h
  refine wpAnyN_take (Q := Qp Q I R) ho h1 h2 h3 hl (fun c a w h => ⟨hI _ _ ho _ _ h.1, h.2⟩) (.inl ⟨?_, hv⟩) hS h
  obtain ⟨dst, op, type, pos, after, guard⟩ := o
  cases guard with
  | none => rfl
  | some g => simp at h5
/-- What is to be shown behind an operation. -/
def NextP (P : Program) (md : Region.Mode) (ops : Array Oper) (Q : Exit → Act → World → Prop) (I : Act → Prop) (R : List PanicEntry → World → Prop) (S : World → Prop) (N i n : Nat) (L : Array Bool) (a : Act) (w : World) : Prop := (i ≠ N → S w) ∧ wpAnyN P md ops (Qp Q I R) S N n L a w
theorem anyP_one {Q : Exit → Act → World → Prop} {I : Act → Prop} {R : List PanicEntry → World → Prop} {a : Act} {listed : Array Bool} {n : Nat} (i : Nat) (hr : (decide (Region.ready md ops listed = [i]) && decide (i < ops.size) && decide (0 < n)) = true)
    (h : wpList P ops (fun e a2 w2 => match e with | .normal => NextP P md ops Q I R S N i (n - 1) (listed.setIfInBounds i true) a2 w2 | .panic c => I a2 ∧ R c w2 | _ => False) (opsAt ops [i]) a w) : wpAnyN P md ops (Qp Q I R) S N n listed a w := by
  simp only [Bool.and_eq_true, decide_eq_true_eq] at hr
  obtain ⟨⟨hr, hi⟩, hn⟩ := hr
  obtain ⟨fuel, rfl⟩ : ∃ fuel, n = fuel + 1 := ⟨n - 1, by omega⟩
  rw [Nat.add_sub_cancel] at h
  refine ⟨fun h0 => (by rw [h0] at hr; cases hr), fun m hm => ?_⟩
  rw [hr] at hm
  obtain rfl : m = i := by simpa using hm
  exact op_of_listP hi h
end
end Go.Proofs.YtkmejehhdjdlbaaGreatDoor

namespace Go.Proofs.YtkmejehhdjdlbaaGreatDoor
open Go.RowKit

section
variable {P : Program} {ops : Array Oper} {w : World}
theorem still_of_quiet {Lq : Act → Prop} : ∀ (l : List Oper) (a : Act), wpQuiet P ops (fun w' => w' = w) Lq l a → wpStill P ops w Lq l a
  | [], _, h => h
  | o :: l, a, h => by
    unfold wpQuiet at h
    unfold wpStill
    split
    · rename_i hw
      rw [if_pos hw] at h
      obtain ⟨v, h1, h2⟩ := h
      have h3 := still_of_quiet l _ h2
      have h1 := h1 w rfl
      unfold Oper.quietAt at h1
      unfold Oper.still
      generalize (execOp a.eval o).run P w = r at h1 ⊢
      cases r with
      | ok nx w' =>
        cases nx <;> simp only [Oper.quietUpon] at h1 <;> simp only [Oper.stillUpon]
        case value u => obtain ⟨rfl, rfl⟩ := h1; exact ⟨rfl, h3⟩
        case skip => obtain ⟨rfl, rfl⟩ := h1; exact ⟨rfl, h3⟩
        case enter f args => exact ⟨h1.1, v, h1.2, h3⟩
      | halt x w' => simp only [Oper.quietUpon] at h1
    · rename_i hw
      rw [if_neg hw] at h
      exact still_of_quiet l _ h
/-- n operations that only read, then the rest, one by one. -/
theorem region_tailq {id : Nat} {Q : Exit → Act → World → Prop} {a : Act} {l : List Oper} (n : Nat) (hm : P.follows .mixedOrders = true) (hB : Region.lexTailB .any l.toArray n = true)
    (h : wpQuiet P l.toArray (fun w' => w' = w.drew) (fun a' => wpList P l.toArray Q (l.drop n) a' w.drew) (l.take n) a) : (Code.region id l.toArray true).wp P Q a w := region_tail n hm hB (still_of_quiet _ _ h)
end
end Go.Proofs.YtkmejehhdjdlbaaGreatDoor

namespace Go.Proofs.YtkmejehhdjdlbaaGreatDoor
open Go.RowKit

section
variable {P : Program} {ops : Array Oper} {md : Region.Mode} {w : World} {S : World → Prop} {N : Nat}
/-- What is listed is closed: all that a listed operation waits for is listed. -/
def closedB (md : Region.Mode) (ops : Array Oper) (listed : Array Bool) : Bool := (List.range ops.size).all fun j => !listed.getD j false || (match ops[j]? with
  | some o => o.after.all fun e => !Region.binds md e || listed.getD e.on false
  | none => true)
theorem closedB_spec {listed : Array Bool} (h : closedB md ops listed = true) {j : Nat} {o : Oper} (ho : ops[j]? = some o) (hj : listed.getD j false = true) : ∀ e ∈ o.after, Region.binds md e = true → listed.getD e.on false = true := fun e he hb => by
  have hlt : j < ops.size := (Array.getElem?_eq_some_iff.1 ho).1
  have h1 := List.all_eq_true.1 h j (List.mem_range.2 hlt)
  simp only [Bool.or_eq_true, Bool.not_eq_true'] at h1
  rcases h1 with h1 | h1
  · rw [hj] at h1; cases h1
  · rw [ho] at h1
    have h2 := Array.all_eq_true_iff_forall_mem.1 h1 e he
    simpa [hb] using h2
theorem closedB_set {listed : Array Bool} {j : Nat} (h : closedB md ops listed = true) (hr : ∀ o, ops[j]? = some o → ∀ e ∈ o.after, Region.binds md e = true → listed.getD e.on false = true) : closedB md ops (listed.setIfInBounds j true) = true := by
  have hmono : ∀ k, listed.getD k false = true → (listed.setIfInBounds j true).getD k false = true := fun k hk => by
    by_cases e : j = k
    · subst e
      have hlt : j < listed.size := by
        rcases Nat.lt_or_ge j listed.size with q | q
        · exact q
        · simp [Array.getD, Nat.not_lt.2 q] at hk
      simp [Array.getD, hlt]
    · rw [getD_set_ne false e]; exact hk
  refine List.all_eq_true.2 (fun k hk => ?_)
  simp only [Bool.or_eq_true, Bool.not_eq_true']
  cases hkl : (listed.setIfInBounds j true).getD k false with
  | false => exact .inl rfl
  | true =>
    right
    cases ho : ops[k]? with
    | none => rfl
    | some o =>
      refine Array.all_eq_true_iff_forall_mem.2 (fun e he => ?_)
      cases hb : Region.binds md e with
      | false => rfl
      | true =>
        simp only [Bool.not_true, Bool.false_or]
        refine hmono _ ?_
        by_cases ejk : j = k
        · subst ejk; exact hr o ho e he hb
        · rw [getD_set_ne false ejk] at hkl
          exact closedB_spec h ho hkl e he hb
/-- The operation waits for number i, be it through others. -/
def waitsB (md : Region.Mode) (ops : Array Oper) : Nat → Nat → Nat → Bool
  | 0, _, _ => false
  | f + 1, n, i => match ops[n]? with
    | some o => o.after.any fun e => Region.binds md e && (e.on == i || waitsB md ops f e.on i)
    | none => false
theorem waits_spec {listed : Array Bool} (h : closedB md ops listed = true) {i : Nat} : ∀ (f n : Nat), (∀ o, ops[n]? = some o → ∀ e ∈ o.after, Region.binds md e = true → listed.getD e.on false = true) → waitsB md ops f n i = true → listed.getD i false = true
  | 0, _, _, hw => by cases hw
  | f + 1, n, hn, hw => by
    unfold waitsB at hw
    cases ho : ops[n]? with
    | none => rw [ho] at hw; cases hw
    | some o =>
      rw [ho] at hw
      obtain ⟨e, he, h1⟩ := Array.any_eq_true'.1 hw
      simp only [Bool.and_eq_true, Bool.or_eq_true, beq_iff_eq] at h1
      have hl := hn o ho e he h1.1
      rcases h1.2 with rfl | h2
      · exact hl
      · exact waits_spec h f e.on (fun o' ho' => closedB_spec h ho' hl) h2
theorem wpAnyT_first {Q : Exit → Act → World → Prop} {i F : Nat} {oi : Oper} {v : Value} (hi : ops[i]? = some oi) (hsel : ∀ (j : Nat) (o : Oper) cs b, ops[j]? = some o → o.op ≠ .select cs b)
    (hQ : ∀ c a w, Q (.panic c) (a.put oi.dst v) w → Q (.panic c) a w) (hN : waitsB md ops F N i = true) :
    ∀ (fuel : Nat) (listed : Array Bool) (a : Act) (w : World), closedB md ops listed = true →
      (∀ j oj, ops[j]? = some oj → j ≠ i → listed.getD j true = false → (∀ e ∈ oj.after, Region.binds md e = true → e.on ≠ i) → oi.apart ops oj = true) →
      i ∈ Region.ready md ops listed → YieldsIf P ops S oi v a → S w →
      wpAnyN P md ops Q S N fuel (listed.setIfInBounds i true) (a.put oi.dst v) w → wpAnyN P md ops Q S N (fuel + 1) listed a w := by
  intro fuel
  induction fuel with
  | zero =>
    intro listed a w _ _ hr hy hS H
    refine ⟨fun h => (by rw [h] at hr; cases hr), fun j hj => ?_⟩
    by_cases hji : j = i
    · subst hji; exact hy.wpOp hi hS ⟨fun _ => hS, H⟩
    · have := ready_mono hj hji
      rw [H.1] at this
      cases this
  | succ fuel ih =>
    intro listed a w hcl hfree hr hy hS H
    refine ⟨fun h => (by rw [h] at hr; cases hr), fun j hj => ?_⟩
    by_cases hji : j = i
    · subst hji; exact hy.wpOp hi hS ⟨fun _ => hS, H⟩
    · have h1 := H.2 j (ready_mono hj hji)
      obtain ⟨hjun, oj, hoj, hall⟩ := mem_ready.1 hj
      have hi0 : ¬ listed.getD i false = true := fun h1 => by
        have h0 := (mem_ready.1 hr).1
        rcases Nat.lt_or_ge i listed.size with h' | h'
        · simp [h'] at h0 h1; rw [h0] at h1; cases h1
        · simp [Array.getElem?_eq_none h'] at h1
      have hnot : ∀ e ∈ oj.after, Region.binds md e = true → e.on ≠ i := fun e he hb heq => hi0 (by rw [← heq]; exact hall e he hb)
      have hall' : ∀ o, ops[j]? = some o → ∀ e ∈ o.after, Region.binds md e = true → listed.getD e.on false = true := fun o ho e he hb => by
        rw [hoj] at ho
        simp only [Option.some.injEq] at ho
        subst ho
        exact hall e he hb
      have hjN : j ≠ N := by
        rintro rfl
        exact hi0 (waits_spec hcl F _ hall' hN)
      have h2 := wpOp_putIf hoj (hfree j oj hoj hji hjun hnot) (fun cs b => hsel i oi cs b hi) (fun cs b => hsel j oj cs b hoj) hQ hy h1
      have hfree' : ∀ k ok, ops[k]? = some ok → k ≠ i → (listed.setIfInBounds j true).getD k true = false →
          (∀ e ∈ ok.after, Region.binds md e = true → e.on ≠ i) → oi.apart ops ok = true := fun k ok hk hki hun hno => by
        refine hfree k ok hk hki ?_ hno
        by_cases hjk : j = k
        · subst hjk; exact hjun
        · rw [getD_set_ne true hjk] at hun; exact hun
      refine wpOp_mono (fun a' w' h3 => ⟨fun _ => h3.2.1 hjN, ih (listed.setIfInBounds j true) a' w' (closedB_set hcl hall') hfree' (ready_mono hr (Ne.symm hji)) h3.1 (h3.2.1 hjN) ?_⟩) h2
      rw [Array.setIfInBounds_comm _ _ hji]
      exact h3.2.2
theorem takeT_all {Q : Exit → Act → World → Prop} {I : Act → Prop} {R : List PanicEntry → World → Prop} (hI : Puts ops I) (hs : Region.noSelect ops = true) (hS : S w) (F fuel : Nat) : ∀ (is : List Nat) (listed : Array Bool) (a : Act), closedB md ops listed = true → takeB md ops listed is = true → is.all (waitsB md ops F N) = true →
    wpQuiet P ops (fun _ => True) (fun a' => wpAnyN P md ops (Qp Q I R) S N fuel (listAll listed is) a' w) (opsAt ops is) a → wpAnyN P md ops (Qp Q I R) S N (fuel + is.length) listed a w
  | [], _, _, _, _, _, h => h
  | i :: r, listed, a, hcl, hB, hL, h => by
    simp only [takeB, Bool.and_eq_true] at hB
    obtain ⟨⟨⟨hv, hr⟩, hf⟩, hB'⟩ := hB
    simp only [List.all_cons, Bool.and_eq_true] at hL
    have hri : i ∈ Region.ready md ops listed := by simpa using hr
    have hcl' : closedB md ops (listed.setIfInBounds i true) = true := closedB_set hcl (fun o ho e he hb => (ready_spec hri).2.2 o ho e he hb)
    cases ho : ops[i]? with
    | none => rw [ho] at hv; cases hv
    | some o =>
      rw [ho] at hv
      simp only [opsAt, ho] at h
      unfold wpQuiet at h
      rw [List.length_cons, ← Nat.add_assoc]
      split at h
      · rename_i hw
        obtain ⟨v, h1, h2⟩ := h
        exact wpAnyT_first ho (Region.noSelect_spec hs) (fun c a w h => ⟨hI _ _ ho _ _ h.1, h.2⟩) hL.1 _ _ _ _ hcl (Region.free_spec ho hf) hri (yields_of_quiet hv hw h1).yieldsIf hS (takeT_all hI hs hS F fuel r _ _ hcl' hB' hL.2 h2)
      · rename_i hw
        exact wpAnyT_first ho (Region.noSelect_spec hs) (fun c a w h => ⟨hI _ _ ho _ _ h.1, h.2⟩) hL.1 _ _ _ _ hcl (Region.free_spec ho hf) hri (.inr ⟨by simpa using hw, rfl⟩) hS (takeT_all hI hs hS F fuel r _ _ hcl' hB' hL.2 h)
/-- Operations that look at no world, taken first. -/
theorem anyT_take {Q : Exit → Act → World → Prop} {I : Act → Prop} {R : List PanicEntry → World → Prop} {n : Nat} {listed : Array Bool} {a : Act} (hI : Puts ops I) (is : List Nat) (hB : (Region.noSelect ops && closedB md ops listed && takeB md ops listed is && is.all (waitsB md ops ops.size N) && decide (is.length ≤ n)) = true) (hS : S w)
    (h : wpQuiet P ops (fun _ => True) (fun a' => wpAnyN P md ops (Qp Q I R) S N (n - is.length) (listAll listed is) a' w) (opsAt ops is) a) : wpAnyN P md ops (Qp Q I R) S N n listed a w := by
  simp only [Bool.and_eq_true, decide_eq_true_eq] at hB
  have := takeT_all hI hB.1.1.1.1 hS ops.size (n - is.length) is listed a hB.1.1.1.2 hB.1.1.2 hB.1.2 h
  rwa [Nat.sub_add_cancel hB.2] at this
/-- A load, taken first. -/
theorem anyT_load {Q : Exit → Act → World → Prop} {I : Act → Prop} {R : List PanicEntry → World → Prop} {n : Nat} {listed : Array Bool} {a : Act} (hI : Puts ops I) (i k : Nat) (v : Value) {o : Oper} (ho : ops[i]? = some o) (hd : o.dst = some k)
    (hB : (Region.noSelect ops && closedB md ops listed && Region.free md ops listed i && (Region.ready md ops listed).contains i && waitsB md ops ops.size N i && decide (0 < n) && o.guard.isNone) = true) (hS : S w)
    (hv : ∀ w, S w → (execOp a.eval o).run P w = .ok (.value v) w)
    (h : wpAnyN P md ops (Qp Q I R) S N (n - 1) (listed.setIfInBounds i true) (a.put (some k) v) w) : wpAnyN P md ops (Qp Q I R) S N n listed a w := by
  rw [← hd] at h
  simp only [Bool.and_eq_true, decide_eq_true_eq] at hB
  obtain ⟨⟨⟨⟨⟨⟨h1, hc⟩, h2⟩, h3⟩, hl⟩, h4⟩, h5⟩ := hB
  obtain ⟨m, rfl⟩ : ∃ m, n = m + 1 := ⟨n - 1, by omega⟩
  rw [Nat.add_sub_cancel] at h
  refine wpAnyT_first ho (Region.noSelect_spec h1) (fun c a w h => ⟨hI _ _ ho _ _ h.1, h.2⟩) hl _ _ _ _ hc (Region.free_spec ho h2) (by simpa using h3) (.inl ⟨?_, hv⟩) hS h
  obtain ⟨dst, op, type, pos, after, guard⟩ := o
  cases guard with
  | none => rfl
  | some g => simp at h5
end
end Go.Proofs.YtkmejehhdjdlbaaGreatDoor

namespace Go.Proofs.YtkmejehhdjdlbaaGreatDoor
open Go.RowKit


section
variable {P : Program} {ops : Array Oper} {md : Region.Mode} {w : World}

def ancB (md : Region.Mode) (ops : Array Oper) : Nat → Nat → Nat → Bool
  | 0, _, _ => false
  | f + 1, r, i => match ops[r]? with
    | none => false
    | some o => (o.after.any fun e => Region.binds md e && e.on == i) || (o.after.any fun e => Region.binds md e && ancB md ops f e.on i)

def Cl (md : Region.Mode) (ops : Array Oper) (listed : Array Bool) : Prop :=
  listed.size = ops.size ∧ ∀ j oj, ops[j]? = some oj → listed.getD j false = true → ∀ e ∈ oj.after, Region.binds md e = true → listed.getD e.on false = true

theorem Cl.set {listed : Array Bool} (h : Cl md ops listed) {i : Nat} (hi : i ∈ Region.ready md ops listed) : Cl md ops (listed.setIfInBounds i true) := by
  obtain ⟨_, oi, hoi, hall⟩ := mem_ready.1 hi
  refine ⟨by simp [h.1], fun j oj hj hl e he hb => ?_⟩
  by_cases hij : i = j
  · subst hij
    obtain rfl : oj = oi := Option.some.inj (hj.symm.trans hoi)
    exact getD_set_true (hall e he hb)
  · rw [getD_set_ne false hij] at hl
    exact getD_set_true (h.2 j oj hj hl e he hb)

theorem anc_listed {listed : Array Bool} (h : Cl md ops listed) {i : Nat} : ∀ (f r : Nat) (o : Oper), ops[r]? = some o → (∀ e ∈ o.after, Region.binds md e = true → listed.getD e.on false = true) → ancB md ops f r i = true → listed.getD i false = true
  | 0, _, _, _, _, hA => by cases hA
  | f + 1, r, o, ho, hall, hA => by
    simp only [ancB, ho, Bool.or_eq_true] at hA
    rcases hA with hA | hA
    · obtain ⟨e, he, hb⟩ := Array.any_eq_true'.1 hA
      simp only [Bool.and_eq_true, beq_iff_eq] at hb
      rw [← hb.2]; exact hall e he hb.1
    · obtain ⟨e, he, hb⟩ := Array.any_eq_true'.1 hA
      simp only [Bool.and_eq_true] at hb
      have hl := hall e he hb.1
      cases hoe : ops[e.on]? with
      | none => have h2 := hb.2; cases f <;> simp [ancB, hoe] at h2
      | some oe => exact anc_listed h f e.on oe hoe (fun e' he' hb' => h.2 e.on oe hoe hl e' he' hb') hb.2

/-- Whatever is not of D and not listed waits for all of D. -/
def waitB (md : Region.Mode) (ops : Array Oper) (listed : Array Bool) (D : List Nat) : Bool :=
  (List.range ops.size).all fun r => listed.getD r true || D.contains r || D.all fun i => ancB md ops ops.size r i

def anyS (P : Program) (md : Region.Mode) (ops : Array Oper) (w : World) (D : List Nat) (L : Array Bool → Act → Prop) : Nat → Array Bool → Act → Prop
  | 0, listed, a => L listed a
  | f + 1, listed, a => Region.ready md ops listed ≠ [] ∧ ∀ i ∈ Region.ready md ops listed, i ∈ D ∧ stOp P ops w i (anyS P md ops w D L f (listed.setIfInBounds i true)) a

theorem any_of_S {D : List Nat} {g : Nat} {L : Array Bool → Act → Prop} {Q : Exit → Act → World → Prop} (hL : ∀ listed a, L listed a → wpAny P md ops Q g listed a w) :
    ∀ (f : Nat) (listed : Array Bool) (a : Act), anyS P md ops w D L f listed a → wpAny P md ops Q (f + g) listed a w
  | 0, listed, a, h => by rw [Nat.zero_add]; exact hL _ _ h
  | f + 1, listed, a, h => by
    rw [show f + 1 + g = (f + g) + 1 by omega]
    exact ⟨fun h0 => absurd h0 h.1, fun i hi => wpOp_of_stOp (fun a' h' => any_of_S hL f _ a' h') (h.2 i hi).2⟩
def stillB (md : Region.Mode) (ops : Array Oper) : Array Bool → List Nat → Bool
  | _, [] => true
  | listed, i :: r => (Region.ready md ops listed).contains i && Region.free md ops listed i && stillB md ops (listed.setIfInBounds i true) r

theorem in_D {listed0 listed : Array Bool} {D : List Nat} (hW : waitB md ops listed0 D = true) (hC : Cl md ops listed) (hM : ∀ j, listed.getD j true = false → listed0.getD j true = false)
    {i r : Nat} (hi : i ∈ D) (hun : listed.getD i true = false) (hr : r ∈ Region.ready md ops listed) : r ∈ D := by
  obtain ⟨hru, o, ho, hall⟩ := mem_ready.1 hr
  have h1 := List.all_eq_true.1 hW r (List.mem_range.2 (Array.getElem?_eq_some_iff.1 ho).1)
  simp only [Bool.or_eq_true, hM r hru, Bool.false_eq_true, false_or] at h1
  rcases h1 with h1 | h1
  · simpa using h1
  · have h2 := List.all_eq_true.1 h1 i hi
    have h3 := anc_listed hC _ _ _ ho hall h2
    rw [getD_both hun] at h3
    cases h3

theorem st_first {i : Nat} {oi : Oper} {v : Value} {listed0 : Array Bool} {D : List Nat} {L : Array Bool → Act → Prop} (hi : ops[i]? = some oi) (hsel : ∀ (j : Nat) (o : Oper) cs b, ops[j]? = some o → o.op ≠ .select cs b)
    (hW : waitB md ops listed0 D = true) (hin : i ∈ D) (hdone : ∀ listed a, L listed a → ∀ d ∈ D, listed.getD d true = true) :
    ∀ (f : Nat) (listed : Array Bool) (a : Act), Cl md ops listed → (∀ j, listed.getD j true = false → listed0.getD j true = false) →
      (∀ j oj, ops[j]? = some oj → j ≠ i → listed.getD j true = false → (∀ e ∈ oj.after, Region.binds md e = true → e.on ≠ i) → oi.apart ops oj = true) →
      i ∈ Region.ready md ops listed → YieldsAt P ops w oi v a →
      anyS P md ops w D L f (listed.setIfInBounds i true) (a.put oi.dst v) → anyS P md ops w D L (f + 1) listed a := by
  intro f
  induction f with
  | zero =>
    intro listed a hC hM _ hr hy H
    have hun := (mem_ready.1 hr).1
    refine ⟨fun h => (by rw [h] at hr; cases hr), fun j hj => ?_⟩
    by_cases hji : j = i
    · subst hji; exact ⟨hin, hy.stOp hi H⟩
    · exfalso
      have hd := hdone _ _ H j (in_D hW hC hM hin hun hj)
      rw [getD_set_ne true (Ne.symm hji), (mem_ready.1 hj).1] at hd
      cases hd
  | succ f ih =>
    intro listed a hC hM hfree hr hy H
    have hun := (mem_ready.1 hr).1
    refine ⟨fun h => (by rw [h] at hr; cases hr), fun j hj => ?_⟩
    by_cases hji : j = i
    · subst hji; exact ⟨hin, hy.stOp hi H⟩
    · refine ⟨in_D hW hC hM hin hun hj, ?_⟩
      have h1 := (H.2 j (ready_mono hj hji)).2
      obtain ⟨hjun, oj, hoj, hall⟩ := mem_ready.1 hj
      have hnot : ∀ e ∈ oj.after, Region.binds md e = true → e.on ≠ i := fun e he hb heq => by
        have h1 := hall e he hb
        rw [heq, getD_both hun] at h1
        cases h1
      have h2 := stOp_put hoj (hfree j oj hoj hji hjun hnot) (fun cs b => hsel i oi cs b hi) (fun cs b => hsel j oj cs b hoj) hy h1
      refine stOp_mono (fun a' h3 => ih (listed.setIfInBounds j true) a' (hC.set hj) ?_ ?_ (ready_mono hr (Ne.symm hji)) h3.1 ?_) h2
      · intro k hk
        by_cases hjk : j = k
        · subst hjk; exact hM _ hjun
        · rw [getD_set_ne true hjk] at hk; exact hM _ hk
      · intro k ok hk hki hunk hno
        refine hfree k ok hk hki ?_ hno
        by_cases hjk : j = k
        · subst hjk; exact hjun
        · rw [getD_set_ne true hjk] at hunk; exact hunk
      · rw [Array.setIfInBounds_comm _ _ hji]
        exact h3.2

theorem st_lex {listed0 X : Array Bool} {D : List Nat} {Lq : Act → Prop} (hsel : Region.noSelect ops = true) (hW : waitB md ops listed0 D = true) :
    ∀ (E : List Nat) (listed : Array Bool) (a : Act), (∀ i ∈ E, i ∈ D) → (∀ d ∈ D, d ∈ E ∨ listed.getD d true = true) → Cl md ops listed → (∀ j, listed.getD j true = false → listed0.getD j true = false) →
    stillB md ops listed E = true → listAll listed E = X → wpStill P ops w Lq (opsAt ops E) a →
    anyS P md ops w D (fun l' a' => (∀ d ∈ D, l'.getD d true = true) ∧ l' = X ∧ Lq a') E.length listed a
  | [], listed, a, _, hd, _, _, _, hX, h => ⟨fun d hd' => (hd d hd').resolve_left (by simp), hX, h⟩
  | i :: E, listed, a, hE, hd, hC, hM, hB, hX, h => by
    simp only [stillB, Bool.and_eq_true] at hB
    obtain ⟨⟨hr, hf⟩, hB'⟩ := hB
    have hr' : i ∈ Region.ready md ops listed := by simpa using hr
    obtain ⟨hun, oi, hoi, hall⟩ := mem_ready.1 hr'
    have hst : stOp P ops w i (wpStill P ops w Lq (opsAt ops E)) a := by unfold stOp; simp only [hoi]; simp only [opsAt, hoi] at h; unfold wpStill at h; exact h
    obtain ⟨v, hy, hK⟩ := yieldsAt_of_stOp hoi hst
    have hset : (listed.setIfInBounds i true).getD i true = true := by
      by_cases hlt : i < listed.size <;> simp [Array.getD, hlt]
    refine st_first hoi (Region.noSelect_spec hsel) hW (hE i (by simp)) (fun l' a' hL => hL.1) E.length listed a hC hM (Region.free_spec hoi hf) hr' hy
      (st_lex hsel hW E _ _ (fun j hj => hE j (by simp [hj])) ?_ (hC.set hr') ?_ hB' hX hK)
    · intro d hdd
      by_cases hid : i = d
      · subst hid; exact .inr hset
      · rcases hd d hdd with h1 | h1
        · rcases List.mem_cons.1 h1 with h2 | h2
          · exact absurd h2.symm hid
          · exact .inl h2
        · exact .inr (by rw [getD_set_ne true hid]; exact h1)
    · intro k hk
      by_cases hik : i = k
      · subst hik; rw [hset] at hk; cases hk
      · rw [getD_set_ne true hik] at hk; exact hM _ hk

/-- Operations that only read: each of them stands ahead of whatever else is left. -/
theorem any_still {Q : Exit → Act → World → Prop} {n : Nat} {listed : Array Bool} {a : Act} (D : List Nat)
    (hB : (Region.noSelect ops && closedB md ops listed && waitB md ops listed D && stillB md ops listed D && decide (D.length ≤ n) && decide (listed.size = ops.size)) = true)
    (h : wpQuiet P ops (fun w' => w' = w) (fun a' => wpAny P md ops (Qn Q) (n - D.length) (listAll listed D) a' w) (opsAt ops D) a) : wpAny P md ops (Qn Q) n listed a w := by
  simp only [Bool.and_eq_true, decide_eq_true_eq] at hB
  obtain ⟨⟨⟨⟨⟨hsel, hC⟩, hW⟩, hS⟩, hn⟩, hz⟩ := hB
  have H := st_lex (X := listAll listed D) hsel hW D listed a (fun _ h => h) (fun d h => .inl h) ⟨hz, fun _ _ ho hl e he hb => closedB_spec hC ho hl e he hb⟩ (fun _ h => h) hS rfl (still_of_quiet _ _ h)
  have H2 := any_of_S (Q := Qn Q) (g := n - D.length) (fun l' a' hL => by rw [hL.2.1]; exact hL.2.2) _ _ _ H
  rwa [Nat.add_sub_cancel' hn] at H2
end
end Go.Proofs.YtkmejehhdjdlbaaGreatDoor
