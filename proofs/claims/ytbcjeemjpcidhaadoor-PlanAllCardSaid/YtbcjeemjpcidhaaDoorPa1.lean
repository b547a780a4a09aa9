/- Parts of the walks and plain laws, merged: Base, Eq, Known, QText, QPrint, QTable, Run, Run2, Run4, RunP, Run5, Shelf, Iter, TxtA, TxtB, Wants, Safe. Each theorem bears its own conditions; no other. -/
import Derived.Test.YtbcjeemjpcidhaaDoorChecked
import Derived.WalkKit
import Derived.WalkSpells
import Derived.WalkLawsBesides
import Derived.BigQuiet
import Derived.Lib.Hide
import Derived.Deep.DeepFit
import Derived.Deep.RegionWith
import Derived.Deep.DeepCutAuto
import Derived.Laws.CopyOwn
import Derived.StillTailTactics
import Derived.Lib.SlBytesConst
import Derived.ChangeKeysEq
import Derived.DeepKeys
import Derived.Laws.StructEq
import Derived.Lib.SplitLaws
import Derived.Lib.Strings
import Derived.OrdersHeld
import Derived.Shelf.Small.Bits
import Derived.Shelf.Small.Wraps
import Derived.Shelf.Utf8.RuneCount
import Derived.Shelf.Strconv.Itoa0
import Derived.Shelf.Strings.Search1
import Derived.Shelf.Strings.Search2
import Derived.Shelf.Strings.Search3
import Derived.Shelf.Strings.Cut
import Derived.Shelf.Strings.Count
import Derived.Shelf.LaysM
import Derived.Shelf.Strings.Shaped
import Derived.Shelf.Sort.Plain
import Derived.Shelf.Strings.Prefix
import Derived.Shelf.Strings.Split
import Derived.Shelf.Strings.SplitShaped
import Derived.Shelf.Unicode.Decode
import Derived.Shelf.Strings.RuneCount
import Derived.Shelf.Strings.Explode
import Derived.Shelf.Unicode.DecodeSlow
import Derived.Shelf.Unicode.DecodeAny
import Derived.Shelf.Slices.Turned
import Derived.Shelf.Slices.In.SortNone
import Derived.Test.YtbcjeemjpcidhaaDoorProg
import Derived.Shelf.SlIter.Nil
import Derived.Shelf.SortM.Plain
import Derived.Shelf.SortM.SortNone
import Derived.Ground.GgzProg
import Derived.Ground.SlgmProg
namespace Go.Proofs.YtbcjeemjpcidhaaDoor
open Go.RowKit

/-- The cells from an address on read xs. -/
def Cs (w : World) (ao : Option Addr) (xs : List Value) : Prop :=
  ∀ j u, xs[j]? = some u → ∃ b off, ao = some ⟨b, off, none⟩ ∧ w.cell? ⟨b, off + j, none⟩ = some u

theorem Cs.at {w : World} {ao : Option Addr} {xs : List Value} (h : Cs w ao xs) (k : Nat) (hk : k < xs.length) :
    ∃ b off, ao = some ⟨b, off, none⟩ ∧ ∀ j u, xs[j]? = some u → w.cell? ⟨b, off + j, none⟩ = some u := by
  obtain ⟨b, off, rfl, _⟩ := h k _ (List.getElem?_eq_getElem hk)
  refine ⟨b, off, rfl, fun j u hu => ?_⟩
  obtain ⟨b', off', e, hc⟩ := h j u hu
  simp only [Option.some.injEq, Addr.mk.injEq, and_true] at e
  obtain ⟨rfl, rfl⟩ := e
  exact hc

abbrev by8 (x : UInt8) : Value := .int .u8 (x.toNat : Int)

/-- A slice value's parts read a list of bytes. -/
def Bs (w : World) (ao : Option Addr) (n : Nat) (xs : List UInt8) : Prop := xs.length = n ∧ n ≤ maxLen ∧ Cs w ao (xs.map by8)

theorem Bs.at {w : World} {ao : Option Addr} {n : Nat} {xs : List UInt8} (h : Bs w ao n xs) (k : Nat) (hk : k < n) :
    ∃ b off, ao = some ⟨b, off, none⟩ ∧ b < w.heap.size ∧ ∀ j, (hj : j < n) → w.cell? ⟨b, off + j, none⟩ = some (.int .u8 ((xs[j]'(by rw [h.1]; exact hj)).toNat : Int)) := by
  obtain ⟨h1, _, h2⟩ := h
  obtain ⟨b, off, rfl, hc⟩ := h2.at k (by simp; omega)
  have hlt := World.block_lt_of_cell? w _ (hc k _ (List.getElem?_eq_getElem (by simp; omega)))
  exact ⟨b, off, rfl, hlt, fun j hj => hc j _ (by simp [show j < xs.length by omega])⟩

theorem take_step {α : Type} (l : List α) (k : Nat) (h : k < l.length) : l.take (k + 1) = l.take k ++ [l[k]] := List.take_succ_eq_append_getElem h

/-! ### Frames -/
/-- Everything that was there is as it was. -/
abbrev Kp (w w' : World) : Prop := Below w.heap.size w w'

theorem Kp.of_drewN (w : World) (k : Nat) : Kp w (w.drewN k) := ⟨rfl, rfl, rfl, Nat.le_refl _, fun _ _ => rfl⟩
theorem Kp.new (w : World) (o : Obj) : Kp w (w.alloc o) := (Below.refl _ _).alloc (Nat.le_refl _) o
theorem Kp.refl (w : World) : Kp w w := Below.refl _ _
theorem Kp.trans {a b c : World} (h : Kp a b) (k : Kp b c) : Kp a c := Below.trans h (Below.mono k h.size)
theorem Kp.cell {w w' : World} (h : Kp w w') {p : Addr} {v : Value} (hc : w.cell? p = some v) : w'.cell? p = some v :=
  (Below.cell h (World.block_lt_of_cell? w p hc)).trans hc
theorem Kp.cs {w w' : World} (h : Kp w w') {ao : Option Addr} {xs : List Value} (hx : Cs w ao xs) : Cs w' ao xs := fun j u hu => by
  obtain ⟨b, off, e, hc⟩ := hx j u hu
  exact ⟨b, off, e, h.cell hc⟩
theorem Kp.bs {w w' : World} (h : Kp w w') {ao : Option Addr} {n : Nat} {xs : List UInt8} (hx : Bs w ao n xs) : Bs w' ao n xs := ⟨hx.1, hx.2.1, h.cs hx.2.2⟩

/-! ### Rows of the call's own -/
/-- A slice value's parts own a row of cells, in a block from 'base' on. -/
def Own (w : World) (base : Nat) (e : TypeId) (size : Nat) (ao : Option Addr) (n cap : Nat) (xs : List Value) : Prop := w.ownsRow base e size (.slice ao n cap) n xs

def blk (ao : Option Addr) : Option Nat := ao.map (·.block)
theorem ownBlock_slice (ao : Option Addr) (n cap : Nat) : Value.ownBlock (.slice ao n cap) = blk ao := by cases ao <;> rfl

theorem Own.nil (w : World) (base : Nat) (e : TypeId) (size : Nat) : Own w base e size none 0 0 [] := World.ownsRow_nil w base e size
theorem Own.cs {w : World} {base : Nat} {e : TypeId} {size : Nat} {ao : Option Addr} {n cap : Nat} {xs : List Value} (h : Own w base e size ao n cap xs) : Cs w ao xs := by
  intro j u hu
  have h0 := h
  obtain ⟨hl, hc⟩ := h
  rcases hc with ⟨hv, hn⟩ | ⟨g, cap', cur, hv, _, hg, _, _, _, ht⟩
  · subst hn; simp at hl; subst hl; simp at hu
  · simp only [Value.slice.injEq] at hv
    obtain ⟨rfl, _, rfl⟩ := hv
    exact ⟨g, 0, rfl, by have := World.ownsRow.cells h0 (g := g) rfl j u hu; rwa [Addr.add_lit] at this⟩
theorem Own.keep {w w' : World} {base : Nat} {e : TypeId} {size : Nat} {ao : Option Addr} {n cap : Nat} {xs : List Value} (h : Own w base e size ao n cap xs) (k : Kp w w') : Own w' base e size ao n cap xs := by
  obtain ⟨hl, hc⟩ := h
  refine ⟨hl, ?_⟩
  rcases hc with hn | ⟨g, cap', cur, hv, hb, hg, r⟩
  · exact .inl hn
  · refine .inr ⟨g, cap', cur, hv, hb, ?_, r⟩
    rw [k.block g (Array.getElem?_eq_some_iff.1 hg).1]; exact hg
theorem Own.lt {w : World} {base : Nat} {e : TypeId} {size : Nat} {ao : Option Addr} {n cap : Nat} {xs : List Value} (h : Own w base e size ao n cap xs) : ∀ k, blk ao = some k → base ≤ k ∧ k < w.heap.size := by
  intro k hk
  exact World.ownsRow.lt h k (by rw [ownBlock_slice]; exact hk)
theorem Own.mono {w : World} {base base' : Nat} {e : TypeId} {size : Nat} {ao : Option Addr} {n cap : Nat} {xs : List Value} (h : Own w base e size ao n cap xs) (hb : ∀ k, blk ao = some k → base' ≤ k) : Own w base' e size ao n cap xs := by
  obtain ⟨hl, hc⟩ := h
  refine ⟨hl, ?_⟩
  rcases hc with hn | ⟨g, cap', cur, hv, hb', r⟩
  · exact .inl hn
  · refine .inr ⟨g, cap', cur, hv, ?_, r⟩
    simp only [Value.slice.injEq] at hv
    obtain ⟨rfl, _, _⟩ := hv
    exact hb g rfl

section app
variable {P : Program}

theorem run_append_owned_none' (w : World) (base : Nat) (t ty e : TypeId) (i : TypeInfo) (size : Nat) (ht : P.underlying t = some (.slice e)) (hi : P.info? e = some i)
    (v : Value) (n c : Nat) (xs : List Value) (hown : w.ownsRow base e size v n xs) :
    (Builtin.append_ #[t, t] ty #[v, .slice none 0 c]).run P w = .ok v w := by
  rcases hown.2 with ⟨rfl, rfl⟩ | ⟨g, cap, cur, rfl, _, _, hnc, _⟩
  · simp [Builtin.append_, run_underlying ht, sizeOf, typeInfo, hi, Builtin.lenOf, Builtin.firstCells]
  · simp [Builtin.append_, run_underlying ht, sizeOf, typeInfo, hi, Builtin.lenOf, Builtin.firstCells, hnc, storeCells]

/-- An element type's row of the table. -/
structure El (P : Program) (t e : TypeId) (z : Value) (size bytes : Nat) : Prop where
  und : P.underlying t = some (.slice e)
  info : (P.info? e).map (fun i => (i.zero, i.size, i.bytes)) = some (some z, size, bytes)
  zs : z.cells.size = size
  pos : 0 < size
  bpos : 0 < bytes

/-- What an append on a row of the call's own leaves. -/
structure Appd (w w' : World) (base : Nat) (e : TypeId) (size : Nat) (ao : Option Addr) (cap m N : Nat) (zs : List Value) (ao' : Option Addr) (cap' : Nat) : Prop where
  own : Own w' base e size ao' N cap' zs
  grown : w.grownBy w' (blk ao)
  room : N ≤ cap → ao ≠ none → ao' = ao ∧ cap' = cap
  nil : ao' = none ↔ ao = none ∧ m = 0
  fresh : ∀ k, blk ao' = some k → blk ao = some k ∨ k = w.heap.size
  move : ao' = ao ∨ w.grownBy w' none ∧ blk ao' = some w.heap.size

theorem run_app (w : World) (base : Nat) (t ty e : TypeId) (z : Value) (size bytes : Nat) (E : El P t e z size bytes)
    (ao : Option Addr) (n cap : Nat) (xs : List Value) (hown : Own w base e size ao n cap xs)
    (bo : Option Addr) (m c : Nat) (news : List Value) (hl : news.length = m * size) (hnews : Cs w bo news) (h1 : ∀ u ∈ news, u.oneCell' = true)
    (N : Nat) (hN : N = n + m) (zs : List Value) (hzs : zs = xs ++ news) (hbytes : N * bytes ≤ 140737488355328) (hbase : base ≤ w.heap.size) :
    ∃ ao' cap' w', (Builtin.append_ #[t, t] ty #[.slice ao n cap, .slice bo m c]).run P w = .ok (.slice ao' N cap') w' ∧ Appd w w' base e size ao cap m N zs ao' cap' := by
  subst hN; subst hzs
  have ht := E.und
  have hsz := E.pos
  obtain ⟨i, hi, hz, hsize, hby⟩ := info_parts E.info
  have h63 : n + m ≤ maxLen := by
    have h1 := E.bpos
    have h2 : (n + m) * 1 ≤ (n + m) * bytes := Nat.mul_le_mul_left _ h1
    unfold maxLen; omega
  cases bo with
  | none =>
    have hnn : news = [] := by
      cases news with
      | nil => rfl
      | cons u r => obtain ⟨b, off, e, _⟩ := hnews 0 u rfl; cases e
    subst hnn
    have hm : m = 0 := by
      rcases Nat.eq_zero_or_pos m with h | h
      · exact h
      · have := Nat.mul_pos h hsz
        simp only [List.length_nil] at hl
        omega
    subst hm
    refine ⟨ao, cap, w, run_append_owned_none' w base t ty e i size ht hi _ n c xs hown, by simpa using hown, World.grownBy.refl _ _, fun _ _ => ⟨rfl, rfl⟩, by simp, fun k hk => .inl hk, .inl rfl⟩
  | some ad =>
    have hnews' : ∀ j u, news[j]? = some u → w.cell? (ad.add j) = some u := fun j u hu => by
      obtain ⟨b, off, e, hc⟩ := hnews j u hu
      simp only [Option.some.injEq] at e
      subst e
      rw [Addr.add_lit]; exact hc
    by_cases hroom : n + m ≤ cap ∧ ao ≠ none
    · obtain ⟨hroom, hne⟩ := hroom
      have hown0 := hown
      obtain ⟨_, hc⟩ := hown
      rcases hc with ⟨hv, hn⟩ | ⟨g, cap', cur, hv, _⟩
      · simp only [Value.slice.injEq] at hv; exact absurd hv.1 hne
      · simp only [Value.slice.injEq] at hv
        obtain ⟨rfl, _, rfl⟩ := hv
        obtain ⟨w', hr, h2, h3⟩ := run_append_fits (P := P) w base t ty e i size ht hi hsize g n cap xs hown0 ad m c news hl hnews' h1 hroom
        exact ⟨_, _, w', hr, h2, h3, fun _ _ => ⟨rfl, rfl⟩, by simp, fun k hk => .inl hk, .inl rfl⟩
    · have hlen : (xs ++ news).length = (n + m) * size := by rw [List.length_append, hown.1, hl, Nat.add_mul]
      have grown : ∀ (old : Nat), old < n + m → ∀ (row : Option Nat),
          Own (w.drew.alloc (.cells (xs.toArray ++ news.toArray ++ Builtin.zeroCells z.cells (grownCap w (n + m) old e - (n + m))) e)) base e size
            (some ⟨w.heap.size, 0, none⟩) (n + m) (grownCap w (n + m) old e) (xs ++ news) ∧
          w.grownBy (w.drew.alloc (.cells (xs.toArray ++ news.toArray ++ Builtin.zeroCells z.cells (grownCap w (n + m) old e - (n + m))) e)) row := by
        intro old ho row
        have hge := grownCap_ge w (n + m) old e
        have hcm : grownCap w (n + m) old e ≤ maxLen := grownCap_le_maxLen w (n + m) old e h63
        refine ⟨⟨hlen, .inr ⟨w.heap.size, _, _, rfl, hbase, heap_alloc_new w.drew _, hge, hcm, ?_, ?_⟩⟩, ⟨rfl, rfl, rfl, by simp, fun k hk _ => Below.heap_alloc w.drew _ k hk⟩⟩
        · simp only [Array.size_append, List.size_toArray, size_zeroCells, E.zs, hown.1, hl, ← Nat.add_mul]
          congr 1
          omega
        · simp only [Array.toList_append, List.append_assoc]
          rw [← List.append_assoc, ← hlen]
          exact List.take_left
      subst hsize; subst hby
      have hown0 := hown
      rcases hown.2 with ⟨hv, hn0⟩ | ⟨g, cap', cur, hv, hbg, hg, hnc, hcm, hcs, htake⟩
      · simp only [Value.slice.injEq] at hv
        obtain ⟨rfl, _, rfl⟩ := hv
        subst hn0
        have hx : xs = [] := List.eq_nil_of_length_eq_zero (by simpa using hown.1)
        subst hx
        by_cases hm : m = 0
        · subst hm
          have hn : news = [] := List.eq_nil_of_length_eq_zero (by simpa using hl)
          subst hn
          refine ⟨none, 0, w, ?_, Own.nil _ _ _ _, World.grownBy.refl _ _, fun _ h => absurd rfl h, by simp, fun k hk => .inl hk, .inl rfl⟩
          simp [Builtin.append_, run_underlying ht, sizeOf, typeInfo, hi, Builtin.lenOf, Builtin.firstCells, loadCells, loadCellsFrom]
        · have hr := run_append_nil (P := P) w t ty e i z ht hi hz ad m c news hl hnews' (by omega) (by unfold maxLen at h63; omega) (by have hb := hbytes; simp only [Nat.zero_add] at hb; omega)
          have hgr := grown 0 (by omega) (blk none)
          simp only [Nat.zero_add, List.nil_append, Array.empty_append] at hgr ⊢
          exact ⟨_, _, _, hr, hgr.1, hgr.2, fun _ h => absurd rfl h, by simp [hm], fun k hk => .inr (by simpa [blk, eq_comm] using hk), .inr ⟨hgr.2, rfl⟩⟩
      · simp only [Value.slice.injEq] at hv
        obtain ⟨rfl, _, rfl⟩ := hv
        have holds : ∀ j u, xs[j]? = some u → w.cell? ((⟨g, 0, none⟩ : Addr).add j) = some u := World.ownsRow.cells hown0 (g := g) rfl
        have hlt : cap < n + m := by
          rcases Nat.lt_or_ge cap (n + m) with h | h
          · exact h
          · exact absurd ⟨h, by simp⟩ hroom
        have hr := run_append_grow (P := P) w t ty e i z ht hi hz ⟨g, 0, none⟩ n cap xs hown.1 holds ad m c news hl hnews' (by omega) (by unfold maxLen at h63; omega) (growslice_fits (by unfold maxLen at h63; omega) hbytes)
        have hgr := grown cap (by omega) (blk (some ⟨g, 0, none⟩))
        have hgr2 := grown cap (by omega) none
        exact ⟨_, _, _, hr, hgr.1, hgr.2, fun a b => absurd ⟨a, b⟩ hroom, by simp, fun k hk => .inr (by simpa [blk, eq_comm] using hk), .inr ⟨hgr2.2, rfl⟩⟩

theorem wp_app {w : World} {o : Oper} {a : Act} {K : Act → World → Prop} {Q : Exit → Act → World → Prop} (s x : Operand) (t : TypeId)
    (ho : o.op = .call { callee := .builtin .append, args := #[s, x], argTypes := #[t, t] })
    (e : TypeId) (z : Value) (size bytes : Nat) (E : El P t e z size bytes) (base : Nat)
    (ao : Option Addr) (n cap : Nat) (xs : List Value) (hs : a.eval s = .slice ao n cap) (hown : Own w base e size ao n cap xs)
    (bo : Option Addr) (m c : Nat) (news : List Value) (hx : a.eval x = .slice bo m c) (hl : news.length = m * size) (hnews : Cs w bo news) (h1 : ∀ u ∈ news, u.oneCell' = true)
    (N : Nat) (hN : N = n + m) (zs : List Value) (hzs : zs = xs ++ news) (hbytes : N * bytes ≤ 140737488355328) (hbase : base ≤ w.heap.size)
    (h : ∀ ao' cap' w', Appd w w' base e size ao cap m N zs ao' cap' → K (a.put o.dst (.slice ao' N cap')) w') : o.wp P a w K Q := by
  obtain ⟨ao', cap', w', hr, h2⟩ := run_app (P := P) w base t o.type e z size bytes E ao n cap xs hown bo m c news hl hnews h1 N hN zs hzs hbytes hbase
  unfold Oper.wp execOp
  simp only [ho, resolve, invoke, builtin, Sem.run_bind, Sem.run_pure, Result.andThen_ok, List.map_toArray, List.map_cons, List.map_nil, hs, hx, hr]
  exact h ao' cap' w' h2

/-- 'append' on a row of the call's own (or nil), whatever the source: nil, empty, or not. The new length N and the new cells zs are given. -/
theorem wpList_app {w : World} {ops : Array Oper} {rest : List Oper} {o : Oper} {a : Act} {Q : Exit → Act → World → Prop} (hgd : o.guard = none) (s x : Operand) (t : TypeId)
    (ho : o.op = .call { callee := .builtin .append, args := #[s, x], argTypes := #[t, t] })
    {e : TypeId} {z : Value} {size bytes : Nat} (E : El P t e z size bytes) (base : Nat)
    {ao : Option Addr} {n cap : Nat} {xs : List Value} (hs : a.eval s = .slice ao n cap) (hown : Own w base e size ao n cap xs)
    {bo : Option Addr} {m c : Nat} (hx : a.eval x = .slice bo m c) (news : List Value) (hl : news.length = m * size) (hnews : Cs w bo news) (h1 : ∀ u ∈ news, u.oneCell' = true)
    (N : Nat) (hN : N = n + m) (zs : List Value) (hzs : zs = xs ++ news) (hbytes : N * bytes ≤ 140737488355328) (hbase : base ≤ w.heap.size)
    (h : ∀ ao' cap' w', Appd w w' base e size ao cap m N zs ao' cap' → wpList P ops Q rest (a.put o.dst (.slice ao' N cap')) w') : wpList P ops Q (o :: rest) a w :=
  wpList_plain hgd fun _ hK => wp_app s x t ho e z size bytes E base ao n cap xs hs hown bo m c news hx hl hnews h1 N hN zs hzs hbytes hbase fun ao' cap' w' h2 => hK _ _ (h ao' cap' w' h2)

end app

/-- A new block of cells is read as its cells. -/
theorem Cs.new (w : World) (cs : List Value) (e : TypeId) (mk : Nat × Nat) : Cs (w.alloc (.cells cs.toArray e mk)) (some ⟨w.heap.size, 0, none⟩) cs := fun j u hu => by
  refine ⟨w.heap.size, 0, rfl, ?_⟩
  rw [cell_of_row _ w.heap.size (0 + j) cs.toArray e mk (heap_alloc_new w _)]
  simpa using hu


/-! ### Frames with a footprint: only the blocks of X may have changed -/
structure Fr (X : List Nat) (w w' : World) : Prop where
  os : w'.os = w.os
  tape : w'.tape = w.tape
  output : w'.output = w.output
  size : w.heap.size ≤ w'.heap.size
  block : ∀ k, k < w.heap.size → k ∉ X → w'.heap[k]? = w.heap[k]?

def blkL (ao : Option Addr) : List Nat := (blk ao).toList
theorem mem_blkL {ao : Option Addr} {k : Nat} : k ∈ blkL ao ↔ blk ao = some k := by unfold blkL; cases blk ao <;> simp [eq_comm]
theorem mem_blkL_some {b o : Nat} {k : Nat} : k ∈ blkL (some ⟨b, o, none⟩) ↔ k = b := by simp [blkL, blk]

theorem Fr.of_kp {w w' : World} (h : Kp w w') : Fr [] w w' := ⟨h.os, h.tape, h.output, h.size, fun k hk _ => h.block k hk⟩
theorem Fr.kp {w w' : World} (h : Fr [] w w') : Kp w w' := ⟨h.os, h.tape, h.output, h.size, fun k hk => h.block k hk (by simp)⟩
theorem Fr.refl (X : List Nat) (w : World) : Fr X w w := ⟨rfl, rfl, rfl, Nat.le_refl _, fun _ _ _ => rfl⟩
theorem Fr.mono {X Y : List Nat} {w w' : World} (h : Fr X w w') (hs : ∀ k ∈ X, k ∈ Y) : Fr Y w w' := ⟨h.os, h.tape, h.output, h.size, fun k hk hn => h.block k hk (fun hx => hn (hs k hx))⟩
theorem Fr.trans {X : List Nat} {a b c : World} (h : Fr X a b) (k : Fr X b c) : Fr X a c :=
  ⟨k.os.trans h.os, k.tape.trans h.tape, k.output.trans h.output, Nat.le_trans h.size k.size, fun i hi hn => (k.block i (Nat.lt_of_lt_of_le hi h.size) hn).trans (h.block i hi hn)⟩
/-- What is changed in the second step is of X, or new. -/
theorem Fr.step {X Y : List Nat} {a b c : World} (h : Fr X a b) (k : Fr Y b c) (hY : ∀ j ∈ Y, j ∈ X ∨ a.heap.size ≤ j) : Fr X a c :=
  ⟨k.os.trans h.os, k.tape.trans h.tape, k.output.trans h.output, Nat.le_trans h.size k.size, fun i hi hn => (k.block i (Nat.lt_of_lt_of_le hi h.size) (fun hy => by rcases hY i hy with h1 | h1; exact hn h1; omega)).trans (h.block i hi hn)⟩
theorem Fr.of_grown {w w' : World} {ao : Option Addr} (h : w.grownBy w' (blk ao)) : Fr (blkL ao) w w' :=
  ⟨h.os, h.tape, h.output, h.size, fun k hk hn => h.block k hk (fun e => hn (mem_blkL.2 e.symm))⟩
theorem Appd.fr {w w' : World} {base : Nat} {e : TypeId} {size : Nat} {ao : Option Addr} {cap m N : Nat} {zs : List Value} {ao' : Option Addr} {cap' : Nat}
    (h : Appd w w' base e size ao cap m N zs ao' cap') : Fr (blkL ao) w w' := Fr.of_grown h.grown
theorem Fr.new (X : List Nat) (w : World) (o : Obj) : Fr X w (w.alloc o) := (Fr.of_kp (Kp.new w o)).mono (by simp)
theorem Fr.set (w : World) (p : Addr) (u : Value) : Fr [p.block] w (w.setCell p u) :=
  ⟨rfl, rfl, rfl, by simp [World.setCell], fun k _ hn => Below.heap_setCell _ _ _ _ (by simpa using hn)⟩
theorem Fr.drewN (X : List Nat) (w : World) (k : Nat) : Fr X w (w.drewN k) := (Fr.of_kp (Kp.of_drewN w k)).mono (by simp)
theorem Fr.drew (X : List Nat) (w : World) : Fr X w w.drew := ⟨rfl, rfl, rfl, Nat.le_refl _, fun _ _ _ => rfl⟩

theorem Fr.cell {X : List Nat} {w w' : World} (h : Fr X w w') {p : Addr} {v : Value} (hc : w.cell? p = some v) (hX : p.block ∉ X) : w'.cell? p = some v :=
  (World.cell?_of_block (h.block p.block (World.block_lt_of_cell? w p hc) hX)).trans hc
theorem Fr.free {X : List Nat} {w w' : World} (h : Fr X w w') {p : Addr} {u : Value} (hc : w.cell? p = some u) {f : Bool} (hf : w.frozen? p = f) (hX : p.block ∉ X) : w'.frozen? p = f :=
  (World.frozen?_of_block (h.block p.block (World.block_lt_of_cell? w p hc) hX)).trans hf
theorem Fr.cs {X : List Nat} {w w' : World} (h : Fr X w w') {ao : Option Addr} {xs : List Value} (hx : Cs w ao xs) (hX : ∀ k ∈ blkL ao, k ∉ X) : Cs w' ao xs := fun j u hu => by
  obtain ⟨b, off, rfl, hc⟩ := hx j u hu
  exact ⟨b, off, rfl, h.cell hc (hX b (by simp [blkL, blk]))⟩
theorem Fr.bs {X : List Nat} {w w' : World} (h : Fr X w w') {ao : Option Addr} {n : Nat} {xs : List UInt8} (hx : Bs w ao n xs) (hX : ∀ k ∈ blkL ao, k ∉ X) : Bs w' ao n xs := ⟨hx.1, hx.2.1, h.cs hx.2.2 hX⟩
theorem Fr.own {X : List Nat} {w w' : World} (k : Fr X w w') {base : Nat} {e : TypeId} {size : Nat} {ao : Option Addr} {n cap : Nat} {xs : List Value} (h : Own w base e size ao n cap xs) (hX : ∀ k ∈ blkL ao, k ∉ X) : Own w' base e size ao n cap xs := by
  obtain ⟨hl, hc⟩ := h
  refine ⟨hl, ?_⟩
  rcases hc with hn | ⟨g, cap', cur, hv, hb, hg, r⟩
  · exact .inl hn
  · refine .inr ⟨g, cap', cur, hv, hb, ?_, r⟩
    simp only [Value.slice.injEq] at hv
    rw [k.block g (Array.getElem?_eq_some_iff.1 hg).1 (hX g (by rw [hv.1]; simp [blkL, blk]))]; exact hg

theorem Own.bs {w : World} {base : Nat} {e : TypeId} {ao : Option Addr} {n cap : Nat} {xs : List UInt8} (h : Own w base e 1 ao n cap (xs.map by8)) : Bs w ao n xs := by
  have hl := h.1
  refine ⟨by simpa using hl, ?_, h.cs⟩
  rcases h.2 with ⟨_, hn⟩ | ⟨g, cap', cur, hv, _, _, h1, h2, _⟩
  · omega
  · exact Nat.le_trans h1 h2
theorem Own.cap {w : World} {base : Nat} {e : TypeId} {size : Nat} {ao : Option Addr} {n cap : Nat} {xs : List Value} (h : Own w base e size ao n cap xs) : n ≤ cap := by
  rcases h.2 with ⟨hv, hn⟩ | ⟨g, cap', cur, hv, _, _, h1, h2, _⟩
  · omega
  · simp only [Value.slice.injEq] at hv; omega

/-- A slice of bytes cut at its head: 's[l:h]'. -/
theorem Bs.cut {w : World} {ao : Option Addr} {n : Nat} {xs : List UInt8} (hx : Bs w ao n xs) (l k : Nat) (h : l + k ≤ n) (c : Prop) [Decidable c] (hc : c → k = 0) :
    Bs w (if c then ao else ao.map (·.add l)) k ((xs.drop l).take k) := by
  refine ⟨by simp [hx.1]; omega, Nat.le_trans (by omega) hx.2.1, ?_⟩
  by_cases hk : c
  · rw [hc hk]; intro j u hu; simp at hu
  · rw [if_neg hk]
    intro j u hu
    have hj : j < k := by
      have := (List.getElem?_eq_some_iff.1 hu).1
      simp at this; omega
    have hu' : (xs.map by8)[l + j]? = some u := by
      simp only [List.map_take, List.map_drop] at hu
      rw [List.getElem?_take, if_pos hj, List.getElem?_drop] at hu
      exact hu
    obtain ⟨b, off, rfl, hcc⟩ := hx.2.2 _ _ hu'
    refine ⟨b, off + l, ?_, by rw [Nat.add_assoc]; exact hcc⟩
    simp [Addr.add_lit]

theorem Bs.zero (w : World) (ao : Option Addr) : Bs w ao 0 [] := ⟨rfl, Nat.zero_le _, fun j u hu => by simp at hu⟩
theorem Own.block {w : World} {base : Nat} {e : TypeId} {size : Nat} {ao : Option Addr} {n cap : Nat} {xs : List Value} (h : Own w base e size ao n cap xs) (hn : 0 < n) :
    ∃ g cur, ao = some ⟨g, 0, none⟩ ∧ base ≤ g ∧ w.heap[g]? = some (.cells cur e (0, 0)) ∧ cur.size = cap * size ∧ cap ≤ maxLen ∧ cur.toList.take (n * size) = xs := by
  rcases h.2 with ⟨hv, h0⟩ | ⟨g, cap', cur, hv, hb, hg, h1, h2, h3, h4⟩
  · omega
  · simp only [Value.slice.injEq] at hv
    obtain ⟨rfl, _, rfl⟩ := hv
    exact ⟨g, cur, rfl, hb, hg, h3, h2, h4⟩

/-- A region that draws: n operations that only read, then a forced tail. -/
theorem region_tail {P : Program} {id : Nat} {Q : Exit → Act → World → Prop} {a : Act} {w : World} {l : List Oper} (n : Nat) (hm : P.follows .mixedOrders = true) (hB : Region.lexTailB .any l.toArray n = true)
    (h : wpStill P l.toArray w.drew (fun a' => wpList P l.toArray Q (l.drop n) a' w.drew) (l.take n) a) : (Code.region id l.toArray true).wp P Q a w := wp_region_still_tail n hm hB h

end Go.Proofs.YtbcjeemjpcidhaaDoor

namespace Go.Proofs.YtbcjeemjpcidhaaDoor
open Go.RowKit

theorem eq3 (w : World) (d : Nat) (a b : Int) : (Op.equalIn (d + 1) 3 (.int .i64 a) (.int .i64 b)).run Tryd.prog w = .ok (a == b) w := by
  simp [Op.equalIn, run_underlying Tryd.underlying3]
theorem eq4 (w : World) (d : Nat) (a b : Bool) : (Op.equalIn (d + 1) 4 (.bool a) (.bool b)).run Tryd.prog w = .ok (a == b) w := by
  simp [Op.equalIn, run_underlying Tryd.underlying4]
theorem cellsOf3 : Tryd.prog.cellsOf 3 = 1 := by kernel_rfl
theorem part3 (w : World) (xs : Array Value) (k : Nat) (v : Value) (h : xs[k]? = some v) : (part 3 xs k).run Tryd.prog w = .ok v w := run_part_plain w (by kernel_rfl) h
theorem part4 (w : World) (xs : Array Value) (k : Nat) (v : Value) (h : xs[k]? = some v) : (part 4 xs k).run Tryd.prog w = .ok v w := run_part_plain w (by kernel_rfl) h

theorem eq104 (w : World) (a b c d : Int) : (binOp .eql 129 (.agg #[.int .i64 a, .int .i64 b]) (.agg #[.int .i64 c, .int .i64 d])).run Tryd.prog w = .ok (.bool (a == c && b == d)) w := by
  obtain ⟨i, hi, _⟩ := Option.map_eq_some_iff.1 (show (Tryd.prog.info? 3).map (·.size) = some 1 by kernel_rfl)
  have h := run_equalIn_array w 9999 #[.int .i64 a, .int .i64 b] #[.int .i64 c, .int .i64 d] Tryd.underlying129 hi
  rw [cellsOf3] at h
  have hr : List.range 2 = [0, 1] := by decide
  rw [hr] at h
  simp only [binOp, Op.equal, Op.maxDepth, Sem.run_bind, h]
  have e0 := eq3 w 9998 a c
  have e1 := eq3 w 9998 b d
  have p0 := part3 w #[.int .i64 a, .int .i64 b] 0 (.int .i64 a) rfl
  have p1 := part3 w #[.int .i64 a, .int .i64 b] 1 (.int .i64 b) rfl
  have q0 := part3 w #[.int .i64 c, .int .i64 d] 0 (.int .i64 c) rfl
  have q1 := part3 w #[.int .i64 c, .int .i64 d] 1 (.int .i64 d) rfl
  generalize (a == c) = p at e0 ⊢
  generalize (b == d) = q at e1 ⊢
  simp only [Op.eqItems, Sem.run_bind, Nat.zero_mul, Nat.one_mul, p0, q0, Result.andThen_ok, e0]
  cases p <;> cases q <;> simp [p1, q1, e1]

end Go.Proofs.YtbcjeemjpcidhaaDoor

namespace Go.Proofs.YtbcjeemjpcidhaaDoor
open Go.RowKit

abbrev iv (z : Int) : Value := .int .i64 z
/-- A slice value's parts read a list of numbers. -/
def Is (w : World) (ao : Option Addr) (n : Nat) (xs : List Int) : Prop := xs.length = n ∧ n ≤ maxLen ∧ Cs w ao (xs.map iv)
theorem Is.zero (w : World) (ao : Option Addr) : Is w ao 0 [] := ⟨rfl, Nat.zero_le _, fun j u hu => by simp at hu⟩
theorem Is.at {w : World} {ao : Option Addr} {n : Nat} {xs : List Int} (h : Is w ao n xs) (k : Nat) (hk : k < n) :
    ∃ b off, ao = some ⟨b, off, none⟩ ∧ b < w.heap.size ∧ ∀ j, (hj : j < n) → w.cell? ⟨b, off + j, none⟩ = some (.int .i64 (xs[j]'(by rw [h.1]; exact hj))) := by
  obtain ⟨h1, _, h2⟩ := h
  obtain ⟨b, off, rfl, hc⟩ := h2.at k (by simp; omega)
  have hlt := World.block_lt_of_cell? w _ (hc k _ (List.getElem?_eq_getElem (by simp; omega)))
  exact ⟨b, off, rfl, hlt, fun j hj => hc j _ (by simp [show j < xs.length by omega])⟩
theorem Kp.is {w w' : World} (h : Kp w w') {ao : Option Addr} {n : Nat} {xs : List Int} (hx : Is w ao n xs) : Is w' ao n xs := ⟨hx.1, hx.2.1, h.cs hx.2.2⟩

/-- What may be known ahead of a side. -/
def okB : List Int → Bool
  | [] => true
  | [x] => x == 1 || x == 2
  | [x, y] => x == 1 && y == 2
  | _ => false

theorem el22 : El Tryd.prog 25 3 (.int .i64 0) 1 8 := ⟨Tryd.underlying25, by kernel_rfl, rfl, by decide, by decide⟩

theorem known_copy {w : World} {ao : Option Addr} {n : Nat} {xs : List Int} (hx : Is w ao n xs) (o : Obj) (j : 0 < ((xs.take 2).map iv).length) :
    some (⟨w.heap.size, 0, none⟩ : Addr) = some ⟨w.heap.size, 0, none⟩ ∧ ∃ ad, ao = some ad ∧ ∀ k v, ((xs.take 2).map iv)[k]? = some v → (w.alloc o).cell? (ad.add k) = some v := by
  have h1 := (Kp.cs (Kp.new w o) hx.2.2)
  obtain ⟨b, off, rfl, hc⟩ := h1.at 0 (by simp at j ⊢; omega)
  refine ⟨rfl, _, rfl, fun k v hv => ?_⟩
  rw [Addr.add_lit]
  refine hc k v ?_
  rw [List.map_take, List.getElem?_take] at hv
  split at hv
  · exact hv
  · cases hv

theorem cells2 {w : World} {g : Nat} {a b : Value} {t : TypeId} {mk : Nat × Nat} (h : w.heap[g]? = some (.cells #[a, b] t mk)) : w.cell? ⟨g, 0, none⟩ = some a ∧ w.cell? ⟨g, 1, none⟩ = some b := by
  constructor
  · rw [cell_of_row w g 0 #[a, b] t mk h]; rfl
  · rw [cell_of_row w g 1 #[a, b] t mk h]; rfl

set_option maxHeartbeats 1000000 in
set_option maxRecDepth 100000 in
theorem known_any (w : World) (ao : Option Addr) (n c : Nat) (xs : List Int) (hx : Is w ao n xs) :
    Calls Tryd.prog 42 #[.slice ao n c] w fun e w' => e = .returned (.bool (okB xs)) ∧ Kp w w' := by
  have hinfo : (Tryd.prog.info? 3).map (·.size) = some 1 := by kernel_rfl
  have hl := hx.1
  match xs, hx with
  | [], hx =>
    obtain rfl : n = 0 := hx.1.symm
    have hcp := known_copy hx (.cells #[iv 0, iv 0] 129)
    go_enter Tryd.func42, Tryd.ntmps42
    go_wp2_with (show wpList _ _ _ (Oper.mk (some 6) _ _ _ _ _ :: _) _ _; refine wpList_copy_splice (o := ⟨some 6, _, _, _, _, _⟩) (w := w.alloc (.cells #[iv 0, iv 0] 129)) rfl (.tmp 4) (.tmp 5) 25 25 rfl 3 Tryd.underlying25 hinfo (some ⟨w.heap.size, 0, none⟩) ao 2 2 0 c rfl rfl w.heap.size 0 [iv 0, iv 0] 129 (heap_alloc_new w _) [] rfl (fun h => by cases h) (by simp) (by simp) w.heap.size w (Kp.new w _) (Nat.le_refl _) ?_; intro w1 hh hk1)
    go_ret
    exact ⟨rfl, hk1⟩
  | [x], hx =>
    obtain rfl : n = 1 := hx.1.symm
    have hcp := Lib.hid (known_copy hx (.cells #[iv 0, iv 0] 129))
    have hq := eq104
    clear hx hl
    show Calls Tryd.prog 42 #[.slice ao 1 c] w fun e w' => e = .returned (.bool (x == 1 || x == 2)) ∧ Kp w w'
    by_cases h1 : (x == 1) = true
    · go_enter Tryd.func42, Tryd.ntmps42
      go_wp2_with (show wpList _ _ _ (Oper.mk (some 6) _ _ _ _ _ :: _) _ _; refine wpList_copy_splice (o := ⟨some 6, _, _, _, _, _⟩) (w := w.alloc (.cells #[iv 0, iv 0] 129)) rfl (.tmp 4) (.tmp 5) 25 25 rfl 3 Tryd.underlying25 hinfo (some ⟨w.heap.size, 0, none⟩) ao 2 2 1 c rfl rfl w.heap.size 0 [iv 0, iv 0] 129 (heap_alloc_new w _) [iv x] rfl hcp.out (by simp) (by simp [Value.oneCell']) w.heap.size w (Kp.new w _) (Nat.le_refl _) ?_; intro w1 hh hk1; obtain ⟨hc0, hc1⟩ := cells2 hh.out)
      go_ret
      exact ⟨rfl, hk1⟩
    · have h1 : (x == 1) = false := by simpa using h1
      go_enter Tryd.func42, Tryd.ntmps42
      go_wp2_with (show wpList _ _ _ (Oper.mk (some 6) _ _ _ _ _ :: _) _ _; refine wpList_copy_splice (o := ⟨some 6, _, _, _, _, _⟩) (w := w.alloc (.cells #[iv 0, iv 0] 129)) rfl (.tmp 4) (.tmp 5) 25 25 rfl 3 Tryd.underlying25 hinfo (some ⟨w.heap.size, 0, none⟩) ao 2 2 1 c rfl rfl w.heap.size 0 [iv 0, iv 0] 129 (heap_alloc_new w _) [iv x] rfl hcp.out (by simp) (by simp [Value.oneCell']) w.heap.size w (Kp.new w _) (Nat.le_refl _) ?_; intro w1 hh hk1; obtain ⟨hc0, hc1⟩ := cells2 hh.out)
      go_ret
      exact ⟨rfl, hk1⟩
  | [x, y], hx =>
    obtain rfl : n = 2 := hx.1.symm
    have hcp := Lib.hid (known_copy hx (.cells #[iv 0, iv 0] 129))
    have hq := eq104
    clear hx hl
    show Calls Tryd.prog 42 #[.slice ao 2 c] w fun e w' => e = .returned (.bool (x == 1 && y == 2)) ∧ Kp w w'
    go_enter Tryd.func42, Tryd.ntmps42
    go_wp2_with (show wpList _ _ _ (Oper.mk (some 6) _ _ _ _ _ :: _) _ _; refine wpList_copy_splice (o := ⟨some 6, _, _, _, _, _⟩) (w := w.alloc (.cells #[iv 0, iv 0] 129)) rfl (.tmp 4) (.tmp 5) 25 25 rfl 3 Tryd.underlying25 hinfo (some ⟨w.heap.size, 0, none⟩) ao 2 2 2 c rfl rfl w.heap.size 0 [iv 0, iv 0] 129 (heap_alloc_new w _) [iv x, iv y] rfl hcp.out (by simp) (by simp [Value.oneCell']) w.heap.size w (Kp.new w _) (Nat.le_refl _) ?_; intro w1 hh hk1; obtain ⟨hc0, hc1⟩ := cells2 hh.out)
    go_ret
    exact ⟨rfl, hk1⟩
  | x :: y :: z :: r, hx =>
    obtain ⟨m, rfl⟩ : ∃ m, n = m + 3 := ⟨r.length, by rw [← hx.1]; rfl⟩
    have hcp := Lib.hid (known_copy hx (.cells #[iv 0, iv 0] 129))
    have hm := hx.2.1
    unfold maxLen at hm
    clear hx hl
    have hmin : ([iv x, iv y] : List Value).length = Nat.min (m + 3) 2 := by show 2 = min (m + 3) 2; omega
    show Calls Tryd.prog 42 #[.slice ao (m + 3) c] w fun e w' => e = .returned (.bool false) ∧ Kp w w'
    go_enter Tryd.func42, Tryd.ntmps42
    go_wp2_with (show wpList _ _ _ (Oper.mk (some 6) _ _ _ _ _ :: _) _ _; refine wpList_copy_splice (o := ⟨some 6, _, _, _, _, _⟩) (w := w.alloc (.cells #[iv 0, iv 0] 129)) rfl (.tmp 4) (.tmp 5) 25 25 rfl 3 Tryd.underlying25 hinfo (some ⟨w.heap.size, 0, none⟩) ao 2 2 (m + 3) c rfl rfl w.heap.size 0 [iv 0, iv 0] 129 (heap_alloc_new w _) [iv x, iv y] hmin hcp.out (by simp) (by simp [Value.oneCell']) w.heap.size w (Kp.new w _) (Nat.le_refl _) ?_; intro w1 hh hk1; obtain ⟨hc0, hc1⟩ := cells2 hh.out)
    go_ret
    exact ⟨rfl, hk1⟩
end Go.Proofs.YtbcjeemjpcidhaaDoor

namespace Go.Proofs.YtbcjeemjpcidhaaDoor.Q

abbrev Ln := Int × List Int
abbrev Bt := List UInt8
/-- The token of a word. -/
def wordT : Bt → Option Int
  | [101] => some 1
  | [115] => some 2
  | [101, 101] => some 3
  | [101, 115] => some 4
  | [115, 101] => some 5
  | [115, 115] => some 6
  | [112, 115, 107] => some 7
  | _ => none
def outR : Bt := [32, 32, 45, 62, 32]
def inR : Bt := [32, 32, 60, 45, 32]
def restR : Bt := [32, 32, 46, 46, 46]
def comma : Bt := [44, 32]
/-- All the tokens of a list of words. -/
def wordsT : List Bt → Option (List Int)
  | [] => some []
  | x :: r => match wordT x, wordsT r with
    | some t, some l => some (t :: l)
    | _, _ => none
/-- A row of a side, as the program reads it. -/
def lineP (s : Bt) : Option Ln :=
  if Lib.hasPrefix s outR then (wordsT (Lib.split (s.drop 5) comma)).map (fun l => (0, l))
  else if Lib.hasPrefix s inR then (wordsT (Lib.split (s.drop 5) comma)).map (fun l => (1, l)) else none

/-- What has been read so far: known ahead, the messages, has the row of three dots been met. -/
structure Rd where
  b0 : List Int
  b1 : List Int
  ls : List Ln
  rest : Bool
def rd0 : Rd := ⟨[], [], [], false⟩
/-- May the row of three dots stand here? -/
def restOk (S : Rd) : Bool := !S.rest && (match S.ls with
  | [_] => true
  | [a, b] => decide (a.1 < b.1)
  | _ => false)
/-- The row of three dots: the messages so far are what is known ahead. -/
def moved (S : Rd) : Rd := ⟨S.ls.foldl (fun b l => if l.1 = 0 then l.2 else b) S.b0, S.ls.foldl (fun b l => if l.1 = 0 then b else l.2) S.b1, [], true⟩
/-- One row, as the program takes it. -/
def rowP (S : Rd) (s : Bt) : Option Rd :=
  if s = restR then (if restOk S then some (moved S) else none)
  else match lineP s with
    | some l => some { S with ls := S.ls ++ [l] }
    | none => none
/-- The rows, one behind the other, while there is a text left. -/
def loopP : Nat → Bt → Rd → Option Rd
  | 0, _, _ => none
  | k + 1, r, S => if r = [] then some S else
    match Lib.cut r [10] with
    | (s, rest, true) => (rowP S s).bind (loopP k rest)
    | _ => none
/-- May a byte stand in a name? -/
def nameC (c : UInt8) : Bool := (65 ≤ c && c ≤ 90) || (97 ≤ c && c ≤ 122) || (48 ≤ c && c ≤ 57) || c == 43
def isName (s : Bt) : Bool := s.all nameC && !s.isEmpty
/-- A whole text, as the program reads it. -/
def readP (t : Bt) : Option (Bt × Rd) :=
  match Lib.cut t [10] with
  | (s, rest, true) => if Lib.hasSuffix s [58] && isName (Lib.trimSuffix s [58]) then (loopP (rest.length + 1) rest rd0).map (fun S => (Lib.trimSuffix s [58], S)) else none
  | _ => none

theorem cut_shorter {r s rest : Bt} (h : Lib.cut r [10] = (s, rest, true)) : rest.length < r.length := by
  unfold Lib.cut at h
  split at h
  · rename_i hi
    simp only [Prod.mk.injEq, and_true] at h
    obtain ⟨_, rfl⟩ := h
    have := Lib.index_room r [10] hi
    simp only [List.length_cons, List.length_nil] at this
    simp only [List.length_drop, List.length_cons, List.length_nil]
    omega
  · simp at h
theorem loopP_fuel : ∀ (k m : Nat) (r : Bt) (S : Rd), r.length < k → r.length < m → loopP k r S = loopP m r S := by
  intro k
  induction k with
  | zero => intro m r S h; omega
  | succ k ih =>
    intro m r S h1 h2
    obtain ⟨m, rfl⟩ : ∃ m', m = m' + 1 := ⟨m - 1, by omega⟩
    simp only [loopP]
    split
    · rfl
    · split
      · rename_i s rest hc
        have := cut_shorter hc
        cases rowP S s with
        | none => rfl
        | some S' => exact ih m rest S' (by omega) (by omega)
      · rfl
/-- The rest of a reading. -/
def goP (r : Bt) (S : Rd) : Option Rd := loopP (r.length + 1) r S
theorem goP_nil (S : Rd) : goP [] S = some S := rfl
theorem goP_cons {r : Bt} (S : Rd) (h : r ≠ []) : goP r S = match Lib.cut r [10] with
    | (s, rest, true) => (rowP S s).bind (goP rest)
    | _ => none := by
  unfold goP
  rw [loopP, if_neg h]
  split
  · rename_i s rest hc
    have := cut_shorter hc
    cases rowP S s with
    | none => rfl
    | some S' => exact loopP_fuel _ _ _ _ (by omega) (by omega)
  · rfl
theorem readP_eq (t : Bt) : readP t = match Lib.cut t [10] with
  | (s, rest, true) => if Lib.hasSuffix s [58] && isName (Lib.trimSuffix s [58]) then (goP rest rd0).map (fun S => (Lib.trimSuffix s [58], S)) else none
  | _ => none := rfl
end Go.Proofs.YtbcjeemjpcidhaaDoor.Q

namespace Go.Proofs.YtbcjeemjpcidhaaDoor.Q

def tokW (t : Int) : Bt := if t = 1 then [101] else if t = 2 then [115] else if t = 3 then [101, 101] else if t = 4 then [101, 115] else if t = 5 then [115, 101] else if t = 6 then [115, 115] else if t = 7 then [112, 115, 107] else []
theorem wordT_some {x : Bt} {t : Int} (h : wordT x = some t) : tokW t = x ∧ 1 ≤ t ∧ t ≤ 7 := by
  unfold wordT at h
  split at h <;> first | (simp only [Option.some.injEq] at h; subst h; exact ⟨rfl, by decide, by decide⟩) | cases h
/-- Words with commas between. -/
def joinT : List Bt → Bt
  | [] => []
  | [x] => x
  | x :: y :: r => x ++ comma ++ joinT (y :: r)
/-! ### Rows -/
def headT (f : Int) : Bt := if f = 1 then inR else outR
/-- A row of a side, without its end. -/
def rowT (l : Ln) : Bt := headT l.1 ++ joinT (l.2.map tokW)
/-- A pattern's rows behind the first one. -/
def rowsT (b0 b1 : List Int) (ls : List Ln) : List Bt :=
  (if b0 = [] then [] else [rowT (0, b0)]) ++ (if b1 = [] then [] else [rowT (1, b1)]) ++ (if b0 = [] ∧ b1 = [] then [] else [restR]) ++ ls.map rowT
def endR (s : Bt) : Bt := s ++ [10]
/-- A pattern's text. -/
def printT (nm : Bt) (b0 b1 : List Int) (ls : List Ln) : Bt := nm ++ [58, 10] ++ (rowsT b0 b1 ls).flatMap endR
end Go.Proofs.YtbcjeemjpcidhaaDoor.Q

namespace Go.Proofs.YtbcjeemjpcidhaaDoor.Q

/-- The patterns of it, in the text's order: name, known ahead of each side, messages, whether there is a row of three dots. -/
def tableL : List (Bt × (List Int × List Int) × List Ln × Bool) := [
  ([78], ([], [2]), [(0, [1, 4])], true),
  ([75], ([2], [2]), [(0, [1, 4, 6])], true),
  ([88], ([], [2]), [(0, [1, 4, 2, 6])], true),
  ([78, 78], ([], []), [(0, [1]), (1, [1, 3])], false),
  ([78, 75], ([], [2]), [(0, [1, 4]), (1, [1, 3])], true),
  ([78, 88], ([], []), [(0, [1]), (1, [1, 3, 2, 4])], false),
  ([88, 78], ([], []), [(0, [1]), (1, [1, 3]), (0, [2, 5])], false),
  ([88, 75], ([], [2]), [(0, [1, 4]), (1, [1, 3]), (0, [2, 5])], true),
  ([88, 88], ([], []), [(0, [1]), (1, [1, 3, 2, 4]), (0, [2, 5])], false),
  ([75, 78], ([2], []), [(0, [1]), (1, [1, 3, 5])], true),
  ([75, 75], ([2], [2]), [(0, [1, 4, 6]), (1, [1, 3, 5])], true),
  ([75, 88], ([2], []), [(0, [1]), (1, [1, 3, 5, 2, 4])], true),
  ([73, 78], ([], []), [(0, [1, 2]), (1, [1, 3, 5])], false),
  ([73, 75], ([], [2]), [(0, [1, 4, 2, 6]), (1, [1, 3, 5])], true),
  ([73, 88], ([], []), [(0, [1, 2]), (1, [1, 3, 5, 2, 4])], false),
  ([78, 75, 49], ([], [2]), [(0, [1]), (1, [1, 3, 4])], true),
  ([78, 88, 49], ([], []), [(0, [1]), (1, [1, 3, 2]), (0, [4])], false),
  ([88, 49, 78], ([], []), [(0, [1]), (1, [1, 3]), (0, [2]), (1, [5])], false),
  ([88, 49, 75], ([], [2]), [(0, [1, 4]), (1, [1, 3]), (0, [2]), (1, [5])], true),
  ([88, 75, 49], ([], [2]), [(0, [1]), (1, [1, 3, 4]), (0, [2, 5])], true),
  ([88, 49, 75, 49], ([], [2]), [(0, [1]), (1, [1, 3, 4]), (0, [2]), (1, [5])], true),
  ([88, 49, 88], ([], []), [(0, [1]), (1, [1, 3, 2, 4]), (0, [2]), (1, [5])], false),
  ([88, 88, 49], ([], []), [(0, [1]), (1, [1, 3, 2]), (0, [4, 2, 5])], false),
  ([88, 49, 88, 49], ([], []), [(0, [1]), (1, [1, 3, 2]), (0, [4, 2]), (1, [5])], false),
  ([75, 49, 78], ([2], []), [(0, [1]), (1, [1, 3]), (0, [5])], true),
  ([75, 49, 75], ([2], [2]), [(0, [1, 4]), (1, [1, 3]), (0, [5])], true),
  ([75, 75, 49], ([2], [2]), [(0, [1]), (1, [1, 3, 5, 4])], true),
  ([75, 49, 75, 49], ([2], [2]), [(0, [1]), (1, [1, 3, 4]), (0, [5])], true),
  ([75, 49, 88], ([2], []), [(0, [1]), (1, [1, 3, 2, 4]), (0, [5])], true),
  ([75, 88, 49], ([2], []), [(0, [1]), (1, [1, 3, 5, 2]), (0, [4])], true),
  ([75, 49, 88, 49], ([2], []), [(0, [1]), (1, [1, 3, 2]), (0, [5, 4])], true),
  ([73, 49, 78], ([], []), [(0, [1, 2]), (1, [1, 3]), (0, [5])], false),
  ([73, 49, 75], ([], [2]), [(0, [1, 4, 2]), (1, [1, 3]), (0, [5])], true),
  ([73, 75, 49], ([], [2]), [(0, [1, 2]), (1, [1, 3, 5, 4])], true),
  ([73, 49, 75, 49], ([], [2]), [(0, [1, 2]), (1, [1, 3, 4]), (0, [5])], true),
  ([73, 49, 88], ([], []), [(0, [1, 2]), (1, [1, 3, 2, 4]), (0, [5])], false),
  ([73, 88, 49], ([], []), [(0, [1, 2]), (1, [1, 3, 5, 2]), (0, [4])], false),
  ([73, 49, 88, 49], ([], []), [(0, [1, 2]), (1, [1, 3, 2]), (0, [5, 4])], false)]
/-- The text of the table: each pattern printed, and an empty row behind it. -/
def tableB : Bt := tableL.flatMap (fun y => printT y.1 y.2.1.1 y.2.1.2 y.2.2.1 ++ [10])
def piecesB : List Bt := Lib.splitK [10, 10] 2 (Lib.count tableB [10, 10]) tableB
def rowR (x : Bt × (List Int × List Int) × List Ln × Bool) : Bt × Bool × Option (Bt × Rd) := (x.1, true, some (x.1, ⟨x.2.1.1, x.2.1.2, x.2.2.1, x.2.2.2⟩))
theorem pieces_count : Lib.count tableB [10, 10] = 38 := by kernel_rfl
end Go.Proofs.YtbcjeemjpcidhaaDoor.Q

namespace Go.Proofs.YtbcjeemjpcidhaaDoor
open Go.RowKit

section
variable {P : Program} {ops : Array Oper} {md : Region.Mode} {w : World}

/-- A region is shown to end at its end. -/
def Qn (Q : Exit → Act → World → Prop) : Exit → Act → World → Prop
  | .normal, a, w => Q .normal a w
  | _, _, _ => False

theorem any_start {id : Nat} {Q : Exit → Act → World → Prop} {a : Act} {l : List Oper} (hm : P.follows .mixedOrders = true)
    (h : wpAny P .any l.toArray (Qn Q) l.length (Array.replicate l.length false) a w.drew) : (Code.region id l.toArray true).wp P Q a w :=
  Code.wp_mono (fun e a w h => by cases e <;> first | exact h | exact h.elim) (wp_region_any (Q := Qn Q) hm (by simpa using h))

theorem any_end {Q : Exit → Act → World → Prop} {a : Act} {listed : Array Bool} {fuel : Nat} (hr : (Region.ready md ops listed).isEmpty = true) (h : Q .normal a w) : wpAny P md ops (Qn Q) fuel listed a w :=
  wpAny_done (Q := Qn Q) (by simpa using hr) h fuel

/-- The operations of these numbers. -/
def opsAt (ops : Array Oper) : List Nat → List Oper
  | [] => []
  | i :: r => match ops[i]? with | some o => o :: opsAt ops r | none => opsAt ops r

def listAll (listed : Array Bool) : List Nat → Array Bool
  | [] => listed
  | i :: r => listAll (listed.setIfInBounds i true) r

/-! ### One operation that is the only one that may come up -/
theorem any_one {Q : Exit → Act → World → Prop} {a : Act} {listed : Array Bool} {n : Nat} (i : Nat) (hr : (decide (Region.ready md ops listed = [i]) && decide (i < ops.size) && decide (0 < n)) = true)
    (h : wpList P ops (fun e a2 w2 => match e with | .normal => wpAny P md ops (Qn Q) (n - 1) (listed.setIfInBounds i true) a2 w2 | _ => False) (opsAt ops [i]) a w) : wpAny P md ops (Qn Q) n listed a w := by
  simp only [Bool.and_eq_true, decide_eq_true_eq] at hr
  obtain ⟨⟨hr, hi⟩, hn⟩ := hr
  obtain ⟨fuel, rfl⟩ : ∃ fuel, n = fuel + 1 := ⟨n - 1, by omega⟩
  rw [Nat.add_sub_cancel] at h
  have ho : ops[i]? = some ops[i] := Array.getElem?_eq_getElem hi
  generalize ops[i] = o at ho
  simp only [opsAt, ho] at h
  refine ⟨fun h0 => (by rw [h0] at hr; cases hr), fun j hj => ?_⟩
  rw [hr] at hj
  obtain rfl : j = i := by simpa using hj
  unfold wpOp
  simp only [ho]
  unfold wpList at h
  split
  · rename_i hw
    rw [if_pos hw] at h
    rcases h with h1 | ⟨_, h2⟩
    · left
      unfold Oper.wp at h1 ⊢
      generalize (execOp a.eval o).run P w = r at h1 ⊢
      cases r with
      | ok nx w' =>
        cases nx <;> simp only [Oper.upon] at h1 ⊢ <;> first
          | exact h1
          | exact Calls.mono h1 (fun e w'' he => by cases e <;> first | exact he | exact he.elim | (obtain ⟨_, _, hf⟩ := he; exact hf.elim))
          | exact Rows.mono h1 (fun _ _ he => he)
      | halt x w' => cases x <;> simp only [Oper.upon] at h1
    · exact absurd h2 (by simp [LetsOut])
  · rename_i hw
    rw [if_neg hw] at h
    exact h

/-! ### Operations that look at no world -/
/-- These hand on a value or end the call: nothing else. -/
def valued (o : Oper) : Bool :=
  match o.op with
  | .move _ | .assign _ | .pick .. | .binOp .. | .unOp .. | .convert .. | .slice .. | .build .. | .fieldAddr .. | .field .. | .indexAddr .. | .index .. | .extract .. => true
  | .nilCheck _ => true
  | .call c => (match c.callee with | .builtin .len => true | .builtin .cap => true | _ => false)
  | _ => false

theorem ok_bind_value {s : Sem Value} {x : Next} {w' : World} (h : (do pure (Next.value (← s)) : Sem Next).run P w = .ok x w') : ∃ v, x = .value v := by
  simp only [Sem.run_bind] at h
  cases hs : s.run P w with
  | ok v w1 => rw [hs] at h; simp only [Result.andThen, Sem.run_pure, Result.ok.injEq] at h; exact ⟨v, h.1.symm⟩
  | halt x w1 => rw [hs] at h; simp [Result.andThen] at h

theorem vd_bind {α : Type} {s : Sem α} {f : α → Sem Next} (hf : ∀ (a : α) (w : World) x w', (f a).run P w = .ok x w' → ∃ v, x = .value v) {x : Next} {w' : World} (h : (s >>= f).run P w = .ok x w') : ∃ v, x = .value v := by
  simp only [Sem.run_bind] at h
  cases hs : s.run P w with
  | ok v w1 => rw [hs] at h; exact hf _ _ _ _ h
  | halt x w1 => rw [hs] at h; simp [Result.andThen] at h
theorem vd_pure (v : Value) (x : Next) (w' : World) (h : (pure (Next.value v) : Sem Next).run P w = .ok x w') : ∃ v, x = .value v := by
  simp only [Sem.run_pure, Result.ok.injEq] at h; exact ⟨_, h.1.symm⟩

theorem valued_ok {o : Oper} {ρ : Operand → Value} {x : Next} {w' : World} (hv : valued o = true) (h : (execOp ρ o).run P w = .ok x w') : ∃ v, x = .value v := by
  obtain ⟨dst, op, type, pos, after, guard⟩ := o
  unfold execOp at h
  cases op <;> simp only [valued, Bool.false_eq_true] at hv <;> simp only at h
  case move y => simp only [Sem.run_pure, Result.ok.injEq] at h; exact ⟨_, h.1.symm⟩
  case assign y => simp only [Sem.run_pure, Result.ok.injEq] at h; exact ⟨_, h.1.symm⟩
  case pick c p q =>
    simp only [Sem.run_bind] at h
    cases hs : (asBool (ρ c)).run P w with
    | ok v w1 => rw [hs] at h; simp only [Result.andThen, Sem.run_pure, Result.ok.injEq] at h; exact ⟨_, h.1.symm⟩
    | halt x w1 => rw [hs] at h; simp [Result.andThen] at h
  case nilCheck y =>
    have hp : (runtimePanic .nilDeref : Sem Next).run P w = .ok x w' → ∃ v, x = .value v := by
      intro he
      exfalso
      simp [runtimePanic, goPanic] at he
    (repeat' split at h) <;> first
      | exact hp h
      | (simp only [Sem.run_pure, Result.ok.injEq] at h; exact ⟨_, h.1.symm⟩)
      | (refine vd_bind (fun p w1 x1 w2 h1 => vd_bind (fun q w3 x3 w4 h3 => ?_) h1) h
         split at h3
         · exact vd_bind (fun _ _ _ _ h5 => vd_pure _ _ _ h5) h3
         · exact vd_pure _ _ _ h3)
  case call c =>
    obtain ⟨callee, args, ats⟩ := c
    cases callee with
    | value f => cases hv
    | invoke r m => cases hv
    | builtin b =>
      cases b <;> first
        | (cases hv; done)
        | (rw [Sem.run_bind] at h; exact ok_bind_value h)
  all_goals exact ok_bind_value h

def takeB (md : Region.Mode) (ops : Array Oper) : Array Bool → List Nat → Bool
  | _, [] => true
  | listed, i :: r => (match ops[i]? with | some o => valued o | none => false) && (Region.ready md ops listed).contains i && Region.free md ops listed i && takeB md ops (listed.setIfInBounds i true) r

theorem yields_of_quiet {o : Oper} {a : Act} {v : Value} (hv : valued o = true) (hw : Region.wanted o (yielded ops a.tmps) = true) (h : ∀ w : World, True → o.quietAt P a (fun _ => True) w v) : Yields P ops o v a := by
  left
  refine ⟨hw, fun w => ?_⟩
  have h1 := h w trivial
  unfold Oper.quietAt at h1
  cases hr : (execOp a.eval o).run P w with
  | ok x w' =>
    obtain ⟨u, rfl⟩ := valued_ok hv hr
    rw [hr] at h1
    simp only [Oper.quietUpon] at h1
    obtain ⟨rfl, rfl⟩ := h1
    rfl
  | halt x w' =>
    rw [hr] at h1
    simp only [Oper.quietUpon] at h1

theorem take_all {Q : Exit → Act → World → Prop} (hs : Region.noSelect ops = true) (fuel : Nat) : ∀ (is : List Nat) (listed : Array Bool) (a : Act), takeB md ops listed is = true →
    wpQuiet P ops (fun _ => True) (fun a' => wpAny P md ops (Qn Q) fuel (listAll listed is) a' w) (opsAt ops is) a → wpAny P md ops (Qn Q) (fuel + is.length) listed a w
  | [], _, _, _, h => h
  | i :: r, listed, a, hB, h => by
    simp only [takeB, Bool.and_eq_true] at hB
    obtain ⟨⟨⟨hv, hr⟩, hf⟩, hB'⟩ := hB
    cases ho : ops[i]? with
    | none => rw [ho] at hv; cases hv
    | some o =>
      rw [ho] at hv
      simp only [opsAt, ho] at h
      unfold wpQuiet at h
      rw [List.length_cons, ← Nat.add_assoc]
      split at h
      · rename_i hw
        obtain ⟨v, h1, h2⟩ := h
        exact wpAny_take (Q := Qn Q) ho hs hf hr (fun _ _ _ h => h.elim) (yields_of_quiet hv hw h1) (take_all hs fuel r _ _ hB' h2)
      · rename_i hw
        exact wpAny_take (Q := Qn Q) ho hs hf hr (fun _ _ _ h => h.elim) (.inr ⟨by simpa using hw, rfl⟩) (take_all hs fuel r _ _ hB' h)

/-- Operations that look at no world, taken first. -/
theorem any_take {Q : Exit → Act → World → Prop} {n : Nat} {listed : Array Bool} {a : Act} (is : List Nat) (hB : (Region.noSelect ops && takeB md ops listed is && decide (is.length ≤ n)) = true)
    (h : wpQuiet P ops (fun _ => True) (fun a' => wpAny P md ops (Qn Q) (n - is.length) (listAll listed is) a' w) (opsAt ops is) a) : wpAny P md ops (Qn Q) n listed a w := by
  simp only [Bool.and_eq_true, decide_eq_true_eq] at hB
  have := take_all hB.1.1 (n - is.length) is listed a hB.1.2 h
  rwa [Nat.sub_add_cancel hB.2] at this


/-! ### Any operations, by what holds whichever have run -/
def unl (listed : Array Bool) : Nat := listed.toList.count false
theorem ready_spec {listed : Array Bool} {i : Nat} (h : i ∈ Region.ready md ops listed) : i < ops.size ∧ listed.getD i true = false ∧ ∀ o, ops[i]? = some o → ∀ e ∈ o.after, Region.binds md e = true → listed.getD e.on false = true := by
  unfold Region.ready at h
  rw [List.mem_filter] at h
  obtain ⟨h1, h2⟩ := h
  simp only [Bool.and_eq_true, Bool.not_eq_true'] at h2
  refine ⟨List.mem_range.1 h1, h2.1, fun o ho e he hb => ?_⟩
  have h3 := h2.2
  rw [ho] at h3
  simp only [Option.map_some, Option.getD_some] at h3
  have h4 := Array.all_eq_true_iff_forall_mem.1 h3 e he
  simpa [hb] using h4
theorem unl_set {listed : Array Bool} {i : Nat} (h : listed.getD i true = false) : unl (listed.setIfInBounds i true) + 1 = unl listed := by
  have hi : i < listed.size := by
    rcases Nat.lt_or_ge i listed.size with h1 | h1
    · exact h1
    · simp [Array.getD, Nat.not_lt.2 h1] at h
  have hv : listed[i] = false := by simpa [Array.getD, hi] using h
  unfold unl
  rw [Array.toList_setIfInBounds]
  have h1 : i < listed.toList.length := by simpa using hi
  have h2 : listed.toList[i] = false := by simpa using hv
  generalize listed.toList = l at *
  have e : l = l.take i ++ false :: l.drop (i + 1) := by
    rw [← h2, ← List.drop_eq_getElem_cons h1, List.take_append_drop]
  have hc : l.count false = (l.take i).count false + (1 + (l.drop (i + 1)).count false) := by
    have := congrArg (List.count false) e
    rw [List.count_append, List.count_cons] at this
    simp at this
    omega
  rw [List.set_eq_take_append_cons_drop, if_pos h1, hc, List.count_append, List.count_cons]
  simp
  omega
theorem any_inv {Q : Exit → Act → World → Prop} {I : Array Bool → Act → World → Prop} (hend : ∀ listed a w, I listed a w → Region.ready md ops listed = [] → Q .normal a w)
    (hstep : ∀ listed a w i, I listed a w → i < ops.size → listed.getD i true = false → (∀ o, ops[i]? = some o → ∀ e ∈ o.after, Region.binds md e = true → listed.getD e.on false = true) → wpOp P ops (Qn Q) i (fun a' w' => I (listed.setIfInBounds i true) a' w') a w) :
    ∀ (n : Nat) (listed : Array Bool) (a : Act) (w : World), unl listed ≤ n → I listed a w → wpAny P md ops (Qn Q) n listed a w
  | 0, listed, a, w, hn, h => by
    have hr : Region.ready md ops listed = [] := by
      cases hq : Region.ready md ops listed with
      | nil => rfl
      | cons i r =>
        have h1 := (ready_spec (i := i) (by rw [hq]; simp)).2.1
        have := unl_set h1
        omega
    exact ⟨hr, hend _ _ _ h hr⟩
  | n + 1, listed, a, w, hn, h => by
    refine ⟨fun hr => hend _ _ _ h hr, fun i hi => ?_⟩
    obtain ⟨h1, h2, h3⟩ := ready_spec hi
    have hs := hstep listed a w i h h1 h2 h3
    have hm := unl_set h2
    have hK : ∀ a' w', I (listed.setIfInBounds i true) a' w' → wpAny P md ops (Qn Q) n (listed.setIfInBounds i true) a' w' := fun a' w' h' => any_inv hend hstep n _ a' w' (by omega) h'
    unfold wpOp at hs ⊢
    cases ho : ops[i]? with
    | none => rw [ho] at hs; exact hK _ _ hs
    | some o =>
      rw [ho] at hs
      simp only at hs ⊢
      split
      · rename_i hw
        rw [if_pos hw] at hs
        rcases hs with hs | hs
        · exact .inl (Oper.wp_mono hK hs)
        · exact .inr hs
      · rename_i hw
        rw [if_neg hw] at hs
        exact hK _ _ hs
end
end Go.Proofs.YtbcjeemjpcidhaaDoor

namespace Go.Proofs.YtbcjeemjpcidhaaDoor
open Go.RowKit
section
variable {P : Program} {ops : Array Oper} {md : Region.Mode} {w : World}
/-! ### Two operations that may come up -/
theorem op_of_list {Q : Exit → Act → World → Prop} {a : Act} {i : Nat} {K : Act → World → Prop} (hi : i < ops.size)
    (h : wpList P ops (fun e a2 w2 => match e with | .normal => K a2 w2 | _ => False) (opsAt ops [i]) a w) : wpOp P ops (Qn Q) i K a w := by
  have ho : ops[i]? = some ops[i] := Array.getElem?_eq_getElem hi
  generalize ops[i] = o at ho
  simp only [opsAt, ho] at h
  unfold wpOp
  simp only [ho]
  unfold wpList at h
  split
  · rename_i hw
    rw [if_pos hw] at h
    rcases h with h1 | ⟨_, h2⟩
    · left
      unfold Oper.wp at h1 ⊢
      generalize (execOp a.eval o).run P w = r at h1 ⊢
      cases r with
      | ok nx w' =>
        cases nx <;> simp only [Oper.upon] at h1 ⊢ <;> first
          | exact h1
          | exact Calls.mono h1 (fun e w'' he => by cases e <;> first | exact he | exact he.elim | (obtain ⟨_, _, hf⟩ := he; exact hf.elim))
          | exact Rows.mono h1 (fun _ _ he => he)
      | halt x w' => cases x <;> simp only [Oper.upon] at h1
    · exact absurd h2 (by simp [LetsOut])
  · rename_i hw
    rw [if_neg hw] at h
    exact h
theorem any_two {Q : Exit → Act → World → Prop} {a : Act} {listed : Array Bool} {n : Nat} (i j : Nat) (hr : (decide (Region.ready md ops listed = [i, j]) && decide (i < ops.size) && decide (j < ops.size) && decide (0 < n)) = true)
    (h1 : wpList P ops (fun e a2 w2 => match e with | .normal => wpAny P md ops (Qn Q) (n - 1) (listed.setIfInBounds i true) a2 w2 | _ => False) (opsAt ops [i]) a w)
    (h2 : wpList P ops (fun e a2 w2 => match e with | .normal => wpAny P md ops (Qn Q) (n - 1) (listed.setIfInBounds j true) a2 w2 | _ => False) (opsAt ops [j]) a w) : wpAny P md ops (Qn Q) n listed a w := by
  simp only [Bool.and_eq_true, decide_eq_true_eq] at hr
  obtain ⟨⟨⟨hr, hi⟩, hj⟩, hn⟩ := hr
  obtain ⟨fuel, rfl⟩ : ∃ fuel, n = fuel + 1 := ⟨n - 1, by omega⟩
  rw [Nat.add_sub_cancel] at h1 h2
  refine ⟨fun h0 => (by rw [h0] at hr; cases hr), fun m hm => ?_⟩
  rw [hr] at hm
  rcases List.mem_cons.1 hm with rfl | hm
  · exact op_of_list hi h1
  · obtain rfl : m = j := by simpa using hm
    exact op_of_list hj h2

end
end Go.Proofs.YtbcjeemjpcidhaaDoor

namespace Go.Proofs.YtbcjeemjpcidhaaDoor
open Go.RowKit

section
variable {P : Program} {ops : Array Oper} {md : Region.Mode} {w : World} {S : World → Prop} {N : Nat}

/-- Whatever order is picked, and S holds behind each operation but the last one. -/
def wpAnyN (P : Program) (md : Region.Mode) (ops : Array Oper) (Q : Exit → Act → World → Prop) (S : World → Prop) (N : Nat) : Nat → Array Bool → Act → World → Prop
  | 0, listed, a, w => Region.ready md ops listed = [] ∧ Q .normal a w
  | fuel + 1, listed, a, w => (Region.ready md ops listed = [] → Q .normal a w) ∧
    ∀ i ∈ Region.ready md ops listed, wpOp P ops Q i (fun a' w' => (i ≠ N → S w') ∧ wpAnyN P md ops Q S N fuel (listed.setIfInBounds i true) a' w') a w
theorem wpAny_of_N {Q : Exit → Act → World → Prop} : ∀ (fuel : Nat) (listed : Array Bool) (a : Act) (w : World), wpAnyN P md ops Q S N fuel listed a w → wpAny P md ops Q fuel listed a w
  | 0, _, _, _, h => h
  | fuel + 1, _, _, _, h => ⟨h.1, fun i hi => wpOp_mono (fun a' w' h' => wpAny_of_N fuel _ a' w' h'.2) (h.2 i hi)⟩
/-- The last operation waits for number i. -/
def lastB (md : Region.Mode) (ops : Array Oper) (N i : Nat) : Bool := match ops[N]? with
  | some o => o.after.any fun e => Region.binds md e && e.on == i
  | none => false
theorem lastB_spec {i : Nat} {o : Oper} (h : lastB md ops N i = true) (ho : ops[N]? = some o) : ∃ e ∈ o.after, Region.binds md e = true ∧ e.on = i := by
  unfold lastB at h
  rw [ho] at h
  obtain ⟨e, he, hb⟩ := Array.any_eq_true'.1 h
  simp only [Bool.and_eq_true, beq_iff_eq] at hb
  exact ⟨e, he, hb.1, hb.2⟩
theorem wpAnyN_first {Q : Exit → Act → World → Prop} {i : Nat} {oi : Oper} {v : Value} (hi : ops[i]? = some oi) (hsel : ∀ (j : Nat) (o : Oper) cs b, ops[j]? = some o → o.op ≠ .select cs b)
    (hQ : ∀ c a w, Q (.panic c) (a.put oi.dst v) w → Q (.panic c) a w) (hN : lastB md ops N i = true) :
    ∀ (fuel : Nat) (listed : Array Bool) (a : Act) (w : World),
      (∀ j oj, ops[j]? = some oj → j ≠ i → listed.getD j true = false → (∀ e ∈ oj.after, Region.binds md e = true → e.on ≠ i) → oi.apart ops oj = true) →
      i ∈ Region.ready md ops listed → YieldsIf P ops S oi v a → S w →
      wpAnyN P md ops Q S N fuel (listed.setIfInBounds i true) (a.put oi.dst v) w → wpAnyN P md ops Q S N (fuel + 1) listed a w := by
  intro fuel
  induction fuel with
  | zero =>
    intro listed a w _ hr hy hS H
    refine ⟨fun h => (by rw [h] at hr; cases hr), fun j hj => ?_⟩
    by_cases hji : j = i
    · subst hji; exact hy.wpOp hi hS ⟨fun _ => hS, H⟩
    · have := ready_mono hj hji
      rw [H.1] at this
      cases this
  | succ fuel ih =>
    intro listed a w hfree hr hy hS H
    refine ⟨fun h => (by rw [h] at hr; cases hr), fun j hj => ?_⟩
    by_cases hji : j = i
    · subst hji; exact hy.wpOp hi hS ⟨fun _ => hS, H⟩
    · have h1 := H.2 j (ready_mono hj hji)
      obtain ⟨hjun, oj, hoj, hall⟩ := mem_ready.1 hj
      have hnot : ∀ e ∈ oj.after, Region.binds md e = true → e.on ≠ i := fun e he hb heq => by
        have h1 := hall e he hb
        have h0 := (mem_ready.1 hr).1
        rw [heq] at h1
        rcases Nat.lt_or_ge i listed.size with h' | h'
        · simp [h'] at h0 h1; rw [h0] at h1; cases h1
        · simp [Array.getElem?_eq_none h'] at h1
      have hjN : j ≠ N := by
        rintro rfl
        obtain ⟨e, he, hb, h2⟩ := lastB_spec hN hoj
        exact hnot e he hb h2
      have h2 := wpOp_putIf hoj (hfree j oj hoj hji hjun hnot) (fun cs b => hsel i oi cs b hi) (fun cs b => hsel j oj cs b hoj) hQ hy h1
      have hfree' : ∀ k ok, ops[k]? = some ok → k ≠ i → (listed.setIfInBounds j true).getD k true = false →
          (∀ e ∈ ok.after, Region.binds md e = true → e.on ≠ i) → oi.apart ops ok = true := fun k ok hk hki hun hno => by
        refine hfree k ok hk hki ?_ hno
        by_cases hjk : j = k
        · subst hjk; exact hjun
        · rw [getD_set_ne true hjk] at hun; exact hun
      refine wpOp_mono (fun a' w' h3 => ⟨fun _ => h3.2.1 hjN, ih (listed.setIfInBounds j true) a' w' hfree' (ready_mono hr (Ne.symm hji)) h3.1 (h3.2.1 hjN) ?_⟩) h2
      rw [Array.setIfInBounds_comm _ _ hji]
      exact h3.2.2
theorem wpAnyN_take {Q : Exit → Act → World → Prop} {i : Nat} {oi : Oper} {v : Value} {fuel : Nat} {listed : Array Bool} {a : Act} {w : World} (hi : ops[i]? = some oi)
    (hs : Region.noSelect ops = true) (hf : Region.free md ops listed i = true) (hr : (Region.ready md ops listed).contains i = true) (hN : lastB md ops N i = true)
    (hQ : ∀ c a w, Q (.panic c) (a.put oi.dst v) w → Q (.panic c) a w) (hy : YieldsIf P ops S oi v a) (hS : S w)
    (h : wpAnyN P md ops Q S N fuel (listed.setIfInBounds i true) (a.put oi.dst v) w) : wpAnyN P md ops Q S N (fuel + 1) listed a w :=
  wpAnyN_first hi (Region.noSelect_spec hs) hQ hN fuel listed a w (Region.free_spec hi hf) (by simpa using hr) hy hS h

end
end Go.Proofs.YtbcjeemjpcidhaaDoor

namespace Go.Proofs.YtbcjeemjpcidhaaDoor
open Go.RowKit

section
variable {P : Program} {ops : Array Oper} {md : Region.Mode} {w : World} {S : World → Prop} {N : Nat}
/-- The ways out of a region: to its end, or by a panic. -/
def Qp (Q : Exit → Act → World → Prop) (I : Act → Prop) (R : List PanicEntry → World → Prop) : Exit → Act → World → Prop
  | .normal, a, w => Q .normal a w
  | .panic c, a, w => I a ∧ R c w
  | _, _, _ => False
/-- What a panic asks of the temporaries is asked of none that the region writes. -/
def Puts (ops : Array Oper) (I : Act → Prop) : Prop := ∀ (i : Nat) (o : Oper), ops[i]? = some o → ∀ (a : Act) (v : Value), I (a.put o.dst v) → I a
theorem op_of_listP {Q : Exit → Act → World → Prop} {I : Act → Prop} {R : List PanicEntry → World → Prop} {a : Act} {i : Nat} {K : Act → World → Prop} (hi : i < ops.size)
    (h : wpList P ops (fun e a2 w2 => match e with | .normal => K a2 w2 | .panic c => I a2 ∧ R c w2 | _ => False) (opsAt ops [i]) a w) : wpOp P ops (Qp Q I R) i K a w := by
  have ho : ops[i]? = some ops[i] := Array.getElem?_eq_getElem hi
  generalize ops[i] = o at ho
  simp only [opsAt, ho] at h
  unfold wpOp
  simp only [ho]
  unfold wpList at h
  split
  · rename_i hw
    rw [if_pos hw] at h
    rcases h with h1 | ⟨_, h2⟩
    · left
      unfold Oper.wp at h1 ⊢
      generalize (execOp a.eval o).run P w = r at h1 ⊢
      cases r with
      | ok nx w' =>
        cases nx <;> simp only [Oper.upon] at h1 ⊢ <;> first
          | exact h1
          | exact Calls.mono h1 (fun e w'' he => by cases e <;> first | exact he | exact he.elim | (obtain ⟨_, _, hf⟩ := he; exact hf.elim))
          | exact Rows.mono h1 (fun _ _ he => he)
      | halt x w' => cases x <;> simp only [Oper.upon] at h1 ⊢ <;> exact h1
    · exact absurd h2 (by simp [LetsOut])
  · rename_i hw
    rw [if_neg hw] at h
    exact h
theorem anyP_start {id : Nat} {Q : Exit → Act → World → Prop} {a : Act} {l : List Oper} (S : World → Prop) (N : Nat) (I : Act → Prop) (R : List PanicEntry → World → Prop) (hm : P.follows .mixedOrders = true) (hp : ∀ c a w, I a → R c w → Q (.panic c) a w)
    (h : wpAnyN P .any l.toArray (Qp Q I R) S N l.length (Array.replicate l.length false) a w.drew) : (Code.region id l.toArray true).wp P Q a w := by
  refine Code.wp_mono (fun e a w h => by cases e <;> first | exact h | exact hp _ _ _ h.1 h.2 | exact h.elim) (wp_region_any (Q := Qp Q I R) hm (wpAny_of_N (S := S) (N := N) _ _ _ _ ?_))
  simpa using h
theorem anyP_end {Q : Exit → Act → World → Prop} {I : Act → Prop} {R : List PanicEntry → World → Prop} {a : Act} {listed : Array Bool} {fuel : Nat} (hr : (Region.ready md ops listed).isEmpty = true) (h : Q .normal a w) : wpAnyN P md ops (Qp Q I R) S N fuel listed a w := by
  have hr : Region.ready md ops listed = [] := by simpa using hr
  cases fuel with
  | zero => exact ⟨hr, h⟩
  | succ f => exact ⟨fun _ => h, by rw [hr]; simp⟩
theorem takeP_all {Q : Exit → Act → World → Prop} {I : Act → Prop} {R : List PanicEntry → World → Prop} (hI : Puts ops I) (hs : Region.noSelect ops = true) (hS : S w) (fuel : Nat) : ∀ (is : List Nat) (listed : Array Bool) (a : Act), takeB md ops listed is = true → is.all (lastB md ops N) = true →
    wpQuiet P ops (fun _ => True) (fun a' => wpAnyN P md ops (Qp Q I R) S N fuel (listAll listed is) a' w) (opsAt ops is) a → wpAnyN P md ops (Qp Q I R) S N (fuel + is.length) listed a w
  | [], _, _, _, _, h => h
  | i :: r, listed, a, hB, hL, h => by
    simp only [takeB, Bool.and_eq_true] at hB
    obtain ⟨⟨⟨hv, hr⟩, hf⟩, hB'⟩ := hB
    simp only [List.all_cons, Bool.and_eq_true] at hL
    cases ho : ops[i]? with
    | none => rw [ho] at hv; cases hv
    | some o =>
      rw [ho] at hv
      simp only [opsAt, ho] at h
      unfold wpQuiet at h
      rw [List.length_cons, ← Nat.add_assoc]
      split at h
      · rename_i hw
        obtain ⟨v, h1, h2⟩ := h
        exact wpAnyN_take (Q := Qp Q I R) ho hs hf hr hL.1 (fun c a w h => ⟨hI _ _ ho _ _ h.1, h.2⟩) (yields_of_quiet hv hw h1).yieldsIf hS (takeP_all hI hs hS fuel r _ _ hB' hL.2 h2)
      · rename_i hw
        exact wpAnyN_take (Q := Qp Q I R) ho hs hf hr hL.1 (fun c a w h => ⟨hI _ _ ho _ _ h.1, h.2⟩) (.inr ⟨by simpa using hw, rfl⟩) hS (takeP_all hI hs hS fuel r _ _ hB' hL.2 h)
/-- Operations that look at no world, taken first. -/
theorem anyP_take {Q : Exit → Act → World → Prop} {I : Act → Prop} {R : List PanicEntry → World → Prop} {n : Nat} {listed : Array Bool} {a : Act} (hI : Puts ops I) (is : List Nat) (hB : (Region.noSelect ops && takeB md ops listed is && is.all (lastB md ops N) && decide (is.length ≤ n)) = true) (hS : S w)
    (h : wpQuiet P ops (fun _ => True) (fun a' => wpAnyN P md ops (Qp Q I R) S N (n - is.length) (listAll listed is) a' w) (opsAt ops is) a) : wpAnyN P md ops (Qp Q I R) S N n listed a w := by
  simp only [Bool.and_eq_true, decide_eq_true_eq] at hB
  have := takeP_all hI hB.1.1.1 hS (n - is.length) is listed a hB.1.1.2 hB.1.2 h
  rwa [Nat.sub_add_cancel hB.2] at this
/-- A load, taken first. -/
theorem anyP_load {Q : Exit → Act → World → Prop} {I : Act → Prop} {R : List PanicEntry → World → Prop} {n : Nat} {listed : Array Bool} {a : Act} (hI : Puts ops I) (i k : Nat) (v : Value) {o : Oper} (ho : ops[i]? = some o) (hd : o.dst = some k)
    (hB : (Region.noSelect ops && Region.free md ops listed i && (Region.ready md ops listed).contains i && lastB md ops N i && decide (0 < n) && o.guard.isNone) = true) (hS : S w)
    (hv : ∀ w, S w → (execOp a.eval o).run P w = .ok (.value v) w)
    (h : wpAnyN P md ops (Qp Q I R) S N (n - 1) (listed.setIfInBounds i true) (a.put (some k) v) w) : wpAnyN P md ops (Qp Q I R) S N n listed a w := by
  rw [← hd] at h
  simp only [Bool.and_eq_true, decide_eq_true_eq] at hB
  obtain ⟨⟨⟨⟨⟨h1, h2⟩, h3⟩, hl⟩, h4⟩, h5⟩ := hB
  obtain ⟨m, rfl⟩ : ∃ m, n = m + 1 := ⟨n - 1, by omega⟩
  rw [Nat.add_sub_cancel] at h
  refine wpAnyN_take (Q := Qp Q I R) ho h1 h2 h3 hl (fun c a w h => ⟨hI _ _ ho _ _ h.1, h.2⟩) (.inl ⟨?_, hv⟩) hS h
  obtain ⟨dst, op, type, pos, after, guard⟩ := o
  cases guard with
  | none => rfl
  | some g => simp at h5
/-- What is to be shown behind an operation. -/
def NextP (P : Program) (md : Region.Mode) (ops : Array Oper) (Q : Exit → Act → World → Prop) (I : Act → Prop) (R : List PanicEntry → World → Prop) (S : World → Prop) (N i n : Nat) (L : Array Bool) (a : Act) (w : World) : Prop := (i ≠ N → S w) ∧ wpAnyN P md ops (Qp Q I R) S N n L a w
theorem anyP_one {Q : Exit → Act → World → Prop} {I : Act → Prop} {R : List PanicEntry → World → Prop} {a : Act} {listed : Array Bool} {n : Nat} (i : Nat) (hr : (decide (Region.ready md ops listed = [i]) && decide (i < ops.size) && decide (0 < n)) = true)
    (h : wpList P ops (fun e a2 w2 => match e with | .normal => NextP P md ops Q I R S N i (n - 1) (listed.setIfInBounds i true) a2 w2 | .panic c => I a2 ∧ R c w2 | _ => False) (opsAt ops [i]) a w) : wpAnyN P md ops (Qp Q I R) S N n listed a w := by
  simp only [Bool.and_eq_true, decide_eq_true_eq] at hr
  obtain ⟨⟨hr, hi⟩, hn⟩ := hr
  obtain ⟨fuel, rfl⟩ : ∃ fuel, n = fuel + 1 := ⟨n - 1, by omega⟩
  rw [Nat.add_sub_cancel] at h
  refine ⟨fun h0 => (by rw [h0] at hr; cases hr), fun m hm => ?_⟩
  rw [hr] at hm
  obtain rfl : m = i := by simpa using hm
  exact op_of_listP hi h
end
end Go.Proofs.YtbcjeemjpcidhaaDoor

namespace Go.Proofs.YtbcjeemjpcidhaaDoor
open Go.RowKit

section
variable {P : Program} {ops : Array Oper} {w : World}
theorem still_of_quiet {Lq : Act → Prop} : ∀ (l : List Oper) (a : Act), wpQuiet P ops (fun w' => w' = w) Lq l a → wpStill P ops w Lq l a
  | [], _, h => h
  | o :: l, a, h => by
    unfold wpQuiet at h
    unfold wpStill
    split
    · rename_i hw
      rw [if_pos hw] at h
      obtain ⟨v, h1, h2⟩ := h
      have h3 := still_of_quiet l _ h2
      have h1 := h1 w rfl
      unfold Oper.quietAt at h1
      unfold Oper.still
      generalize (execOp a.eval o).run P w = r at h1 ⊢
      cases r with
      | ok nx w' =>
        cases nx <;> simp only [Oper.quietUpon] at h1 <;> simp only [Oper.stillUpon]
        case value u => obtain ⟨rfl, rfl⟩ := h1; exact ⟨rfl, h3⟩
        case skip => obtain ⟨rfl, rfl⟩ := h1; exact ⟨rfl, h3⟩
        case enter f args => exact ⟨h1.1, v, h1.2, h3⟩
      | halt x w' => simp only [Oper.quietUpon] at h1
    · rename_i hw
      rw [if_neg hw] at h
      exact still_of_quiet l _ h
/-- n operations that only read, then the rest, one by one. -/
theorem region_tailq {id : Nat} {Q : Exit → Act → World → Prop} {a : Act} {l : List Oper} (n : Nat) (hm : P.follows .mixedOrders = true) (hB : Region.lexTailB .any l.toArray n = true)
    (h : wpQuiet P l.toArray (fun w' => w' = w.drew) (fun a' => wpList P l.toArray Q (l.drop n) a' w.drew) (l.take n) a) : (Code.region id l.toArray true).wp P Q a w := region_tail n hm hB (still_of_quiet _ _ h)
end
end Go.Proofs.YtbcjeemjpcidhaaDoor

namespace Go.Proofs
open Go.Shelf
def Tryd.lays128_ren : Go.Shelf.Ren := ⟨fun | 128 => 56 | n => n, fun | 51 => 113 | 3 => 3 | 4 => 4 | 46 => 94 | 5 => 5 | 9 => 9 | n => n, fun | n => n⟩
theorem Tryd.lays128 : Go.Proofs.Lays.n128 Tryd.prog Tryd.lays128_ren := {
  mixed := by kernel_rfl
  f128 := Tryd.func56.trans (congrArg some (by kernel_rfl))
  t3 := Tryd.underlying3
  a3 := Tryd.isAgg3
  z3 := Tryd.sizeOf3
  v3 := Tryd.zeroValue3
  t4 := Tryd.underlying4
  a4 := Tryd.isAgg4
  z4 := Tryd.sizeOf4
  v4 := Tryd.zeroValue4
  t5 := Tryd.underlying5
  a5 := Tryd.isAgg5
  z5 := Tryd.sizeOf5
  v5 := Tryd.zeroValue5
  t9 := Tryd.underlying9
  a9 := Tryd.isAgg9
  z9 := Tryd.sizeOf9
  v9 := Tryd.zeroValue9
  t46 := Tryd.underlying94
  a46 := Tryd.isAgg94
  z46 := Tryd.sizeOf94
  v46 := Tryd.zeroValue94
  t51 := Tryd.underlying113
  a51 := Tryd.isAgg113
  z51 := Tryd.sizeOf113
  v51 := Tryd.zeroValue113 }
/-- bits.Len32: "Len32 returns the minimum number of bits required to represent x; the result is 0 for x == 0.": IT RETURNS 'Lib.bitLen x'; the world is as it was. ('h0', 'h1': x is a uint32.) (LAID: no walk: one application.) -/
theorem Tryd.bits_Len32 (x : Int) (w : World) (h0 : 0 ≤ x) (h1 : x ≤ 4294967295) :
    Calls Tryd.prog 56 #[.int .u32 x] w fun e w' => e = .returned (.int .i64 (Lib.bitLen x.toNat)) ∧ w' = w := Any.bits_Len32 Tryd.lays128 x w h0 h1
def Tryd.lays125_ren : Go.Shelf.Ren := ⟨fun | 125 => 37 | 128 => 56 | 129 => 57 | n => n, fun | 46 => 94 | 3 => 3 | 51 => 113 | 53 => 115 | 4 => 4 | 5 => 5 | 9 => 9 | n => n, fun | n => n⟩
theorem Tryd.lays125 : Go.Proofs.Lays.n125 Tryd.prog Tryd.lays125_ren := {
  mixed := by kernel_rfl
  f125 := Tryd.func37.trans (congrArg some (by kernel_rfl))
  f128 := Tryd.func56.trans (congrArg some (by kernel_rfl))
  f129 := Tryd.func57.trans (congrArg some (by kernel_rfl))
  t3 := Tryd.underlying3
  a3 := Tryd.isAgg3
  z3 := Tryd.sizeOf3
  v3 := Tryd.zeroValue3
  t4 := Tryd.underlying4
  a4 := Tryd.isAgg4
  z4 := Tryd.sizeOf4
  v4 := Tryd.zeroValue4
  t5 := Tryd.underlying5
  a5 := Tryd.isAgg5
  z5 := Tryd.sizeOf5
  v5 := Tryd.zeroValue5
  t9 := Tryd.underlying9
  a9 := Tryd.isAgg9
  z9 := Tryd.sizeOf9
  v9 := Tryd.zeroValue9
  t46 := Tryd.underlying94
  a46 := Tryd.isAgg94
  z46 := Tryd.sizeOf94
  v46 := Tryd.zeroValue94
  t51 := Tryd.underlying113
  a51 := Tryd.isAgg113
  z51 := Tryd.sizeOf113
  v51 := Tryd.zeroValue113
  t53 := Tryd.underlying115
  a53 := Tryd.isAgg115
  z53 := Tryd.sizeOf115
  v53 := Tryd.zeroValue115 }
/-- bits.Len: "Len returns the minimum number of bits required to represent x; the result is 0 for x == 0.": IT RETURNS 'Lib.bitLen x'; the world is as it was. (A uint has 64 bits in the model.) ITS CALLEE bits.Len64 IS MET BY ITS OWN CONTRACT OFF THE SHELF (lay that first). (LAID: no walk: one application.) -/
theorem Tryd.bits_Len (x : Int) (w : World) (h0 : 0 ≤ x) (h1 : x ≤ 18446744073709551615) :
    Calls Tryd.prog 37 #[.int .u64 x] w fun e w' => e = .returned (.int .i64 (Lib.bitLen x.toNat)) ∧ w' = w := Any.bits_Len Tryd.lays125 x w h0 h1
def Tryd.lays210_ren : Go.Shelf.Ren := ⟨fun | 210 => 91 | 206 => 93 | n => n, fun | 9 => 9 | 4 => 4 | 3 => 3 | n => n, fun | n => n⟩
theorem Tryd.lays210 : Go.Proofs.Lays.n210 Tryd.prog Tryd.lays210_ren := {
  mixed := by kernel_rfl
  f206 := Tryd.func93.trans (congrArg some (by kernel_rfl))
  f210 := Tryd.func91.trans (congrArg some (by kernel_rfl))
  t3 := Tryd.underlying3
  a3 := Tryd.isAgg3
  z3 := Tryd.sizeOf3
  v3 := Tryd.zeroValue3
  t4 := Tryd.underlying4
  a4 := Tryd.isAgg4
  z4 := Tryd.sizeOf4
  v4 := Tryd.zeroValue4
  t9 := Tryd.underlying9
  a9 := Tryd.isAgg9
  z9 := Tryd.sizeOf9
  v9 := Tryd.zeroValue9 }
open Go.RowKit in
/-- internal/stringslite.CutPrefix (what strings.CutPrefix calls). (LAID: no walk: one application.) -/
theorem Tryd.stringslite_CutPrefix (s p : ByteArray) (w : World) :
    Calls Tryd.prog 91 #[.string s, .string p] w fun e w' => e = .returned (.tuple #[.string ⟨(Lib.trimPrefix s.data.toList p.data.toList).toArray⟩, .bool (Lib.hasPrefix s.data.toList p.data.toList)]) ∧ w' = w := Any.stringslite_CutPrefix Tryd.lays210 s p w
def Tryd.lays103_ren : Go.Shelf.Ren := ⟨fun | 103 => 84 | 210 => 91 | 206 => 93 | n => n, fun | 9 => 9 | 4 => 4 | 24 => 124 | 3 => 3 | n => n, fun | n => n⟩
theorem Tryd.lays103 : Go.Proofs.Lays.n103 Tryd.prog Tryd.lays103_ren := {
  mixed := by kernel_rfl
  f103 := Tryd.func84.trans (congrArg some (by kernel_rfl))
  f206 := Tryd.func93.trans (congrArg some (by kernel_rfl))
  f210 := Tryd.func91.trans (congrArg some (by kernel_rfl))
  t3 := Tryd.underlying3
  a3 := Tryd.isAgg3
  z3 := Tryd.sizeOf3
  v3 := Tryd.zeroValue3
  t4 := Tryd.underlying4
  a4 := Tryd.isAgg4
  z4 := Tryd.sizeOf4
  v4 := Tryd.zeroValue4
  t9 := Tryd.underlying9
  a9 := Tryd.isAgg9
  z9 := Tryd.sizeOf9
  v9 := Tryd.zeroValue9
  t24 := Tryd.underlying124
  a24 := Tryd.isAgg124
  z24 := Tryd.sizeOf124
  v24 := Tryd.zeroValue124 }
open Go.RowKit in
/-- strings.CutPrefix: "CutPrefix returns s without the provided leading prefix string and reports whether it found the prefix. If s doesn't start with prefix, CutPrefix returns s, false. If prefix is the empty string, CutPrefix returns s, true.": IT RETURNS '(Lib.trimPrefix s p, Lib.hasPrefix s p)'; the world is as it was. (LAID: no walk: one application.) -/
theorem Tryd.strings_CutPrefix (s p : ByteArray) (w : World) :
    Calls Tryd.prog 84 #[.string s, .string p] w fun e w' => e = .returned (.tuple #[.string ⟨(Lib.trimPrefix s.data.toList p.data.toList).toArray⟩, .bool (Lib.hasPrefix s.data.toList p.data.toList)]) ∧ w' = w := Any.strings_CutPrefix Tryd.lays103 s p w
def Tryd.lays211_ren : Go.Shelf.Ren := ⟨fun | 211 => 83 | 207 => 62 | n => n, fun | 9 => 9 | 4 => 4 | 3 => 3 | n => n, fun | n => n⟩
theorem Tryd.lays211 : Go.Proofs.Lays.n211 Tryd.prog Tryd.lays211_ren := {
  mixed := by kernel_rfl
  f207 := Tryd.func62.trans (congrArg some (by kernel_rfl))
  f211 := Tryd.func83.trans (congrArg some (by kernel_rfl))
  t3 := Tryd.underlying3
  a3 := Tryd.isAgg3
  z3 := Tryd.sizeOf3
  v3 := Tryd.zeroValue3
  t4 := Tryd.underlying4
  a4 := Tryd.isAgg4
  z4 := Tryd.sizeOf4
  v4 := Tryd.zeroValue4
  t9 := Tryd.underlying9
  a9 := Tryd.isAgg9
  z9 := Tryd.sizeOf9
  v9 := Tryd.zeroValue9 }
open Go.RowKit in
/-- internal/stringslite.CutSuffix (what strings.CutSuffix calls). (LAID: no walk: one application.) -/
theorem Tryd.stringslite_CutSuffix (s p : ByteArray) (w : World) (hs : s.size ≤ 9223372036854775807) :
    Calls Tryd.prog 83 #[.string s, .string p] w fun e w' => e = .returned (.tuple #[.string ⟨(Lib.trimSuffix s.data.toList p.data.toList).toArray⟩, .bool (Lib.hasSuffix s.data.toList p.data.toList)]) ∧ w' = w := Any.stringslite_CutSuffix Tryd.lays211 s p w hs
def Tryd.lays104_ren : Go.Shelf.Ren := ⟨fun | 104 => 64 | 211 => 83 | 207 => 62 | n => n, fun | 9 => 9 | 4 => 4 | 24 => 124 | 3 => 3 | n => n, fun | n => n⟩
theorem Tryd.lays104 : Go.Proofs.Lays.n104 Tryd.prog Tryd.lays104_ren := {
  mixed := by kernel_rfl
  f104 := Tryd.func64.trans (congrArg some (by kernel_rfl))
  f207 := Tryd.func62.trans (congrArg some (by kernel_rfl))
  f211 := Tryd.func83.trans (congrArg some (by kernel_rfl))
  t3 := Tryd.underlying3
  a3 := Tryd.isAgg3
  z3 := Tryd.sizeOf3
  v3 := Tryd.zeroValue3
  t4 := Tryd.underlying4
  a4 := Tryd.isAgg4
  z4 := Tryd.sizeOf4
  v4 := Tryd.zeroValue4
  t9 := Tryd.underlying9
  a9 := Tryd.isAgg9
  z9 := Tryd.sizeOf9
  v9 := Tryd.zeroValue9
  t24 := Tryd.underlying124
  a24 := Tryd.isAgg124
  z24 := Tryd.sizeOf124
  v24 := Tryd.zeroValue124 }
open Go.RowKit in
/-- strings.CutSuffix: "CutSuffix returns s without the provided ending suffix string and reports whether it found the suffix. If s doesn't end with suffix, CutSuffix returns s, false. If suffix is the empty string, CutSuffix returns s, true.": IT RETURNS '(Lib.trimSuffix s p, Lib.hasSuffix s p)'; the world is as it was. (LAID: no walk: one application.) -/
theorem Tryd.strings_CutSuffix (s p : ByteArray) (w : World) (hs : s.size ≤ 9223372036854775807) :
    Calls Tryd.prog 64 #[.string s, .string p] w fun e w' => e = .returned (.tuple #[.string ⟨(Lib.trimSuffix s.data.toList p.data.toList).toArray⟩, .bool (Lib.hasSuffix s.data.toList p.data.toList)]) ∧ w' = w := Any.strings_CutSuffix Tryd.lays104 s p w hs
def Tryd.lays195_ren : Go.Shelf.Ren := ⟨fun | 195 => 76 | n => n, fun | 9 => 9 | 3 => 3 | 0 => 0 | 4 => 4 | n => n, fun | n => n⟩
theorem Tryd.lays195 : Go.Proofs.Lays.n195 Tryd.prog Tryd.lays195_ren := {
  mixed := by kernel_rfl
  f195 := Tryd.func76.trans (congrArg some (by kernel_rfl))
  t0 := Tryd.underlying0
  a0 := Tryd.isAgg0
  z0 := Tryd.sizeOf0
  v0 := Tryd.zeroValue0
  t3 := Tryd.underlying3
  a3 := Tryd.isAgg3
  z3 := Tryd.sizeOf3
  v3 := Tryd.zeroValue3
  t4 := Tryd.underlying4
  a4 := Tryd.isAgg4
  z4 := Tryd.sizeOf4
  v4 := Tryd.zeroValue4
  t9 := Tryd.underlying9
  a9 := Tryd.isAgg9
  z9 := Tryd.sizeOf9
  v9 := Tryd.zeroValue9 }
open Go.RowKit in
/-- unicode/utf8.RuneCountInString: "RuneCountInString is like RuneCount but its input is a string." ("RuneCount returns the number of runes in p. Erroneous and short encodings are treated as single runes of width 1 byte."): EVERY STRING, valid UTF-8 or not: 'Lib.runeCount s' (plain Lean over the model's own 'Utf8.decode'; 'Lib.runeCount_le': at most len(s); 'Lib.runeCount_ascii': on ASCII: len(s)). THE ONE CONDITION: len(s) below 2^63 - 1 (the counter does not wrap): the form's reach pays it. THE WORLD BEHIND THE CALL: ONE BLOCK MORE: the model's iterator over s, at its end: all else as it was. (LAID: no walk: one application.) -/
theorem Tryd.utf8_RuneCountInString (s : ByteArray) (w : World) (hs : s.size < 9223372036854775807) :
    Calls Tryd.prog 76 #[.string s] w fun e w' => e = .returned (.int .i64 (Lib.runeCount s)) ∧ ∃ pos, w' = w.iter s pos := Any.utf8_RuneCountInString Tryd.lays195 s w hs
def Tryd.lays129_ren : Go.Shelf.Ren := ⟨fun | 129 => 57 | n => n, fun | 53 => 115 | 3 => 3 | 4 => 4 | 46 => 94 | 5 => 5 | 9 => 9 | n => n, fun | n => n⟩
theorem Tryd.lays129 : Go.Proofs.Lays.n129 Tryd.prog Tryd.lays129_ren := {
  mixed := by kernel_rfl
  f129 := Tryd.func57.trans (congrArg some (by kernel_rfl))
  t3 := Tryd.underlying3
  a3 := Tryd.isAgg3
  z3 := Tryd.sizeOf3
  v3 := Tryd.zeroValue3
  t4 := Tryd.underlying4
  a4 := Tryd.isAgg4
  z4 := Tryd.sizeOf4
  v4 := Tryd.zeroValue4
  t5 := Tryd.underlying5
  a5 := Tryd.isAgg5
  z5 := Tryd.sizeOf5
  v5 := Tryd.zeroValue5
  t9 := Tryd.underlying9
  a9 := Tryd.isAgg9
  z9 := Tryd.sizeOf9
  v9 := Tryd.zeroValue9
  t46 := Tryd.underlying94
  a46 := Tryd.isAgg94
  z46 := Tryd.sizeOf94
  v46 := Tryd.zeroValue94
  t53 := Tryd.underlying115
  a53 := Tryd.isAgg115
  z53 := Tryd.sizeOf115
  v53 := Tryd.zeroValue115 }
/-- bits.Len64: "Len64 returns the minimum number of bits required to represent x; the result is 0 for x == 0.": IT RETURNS 'Lib.bitLen x'; the world is as it was. ('h0', 'h1': x is a uint64.) (LAID: no walk: one application.) -/
theorem Tryd.bits_Len64 (x : Int) (w : World) (h0 : 0 ≤ x) (h1 : x ≤ 18446744073709551615) :
    Calls Tryd.prog 57 #[.int .u64 x] w fun e w' => e = .returned (.int .i64 (Lib.bitLen x.toNat)) ∧ w' = w := Any.bits_Len64 Tryd.lays129 x w h0 h1
def Tryd.lays217_ren : Go.Shelf.Ren := ⟨fun | 217 => 79 | 266 => 89 | n => n, fun | 9 => 9 | 5 => 5 | 3 => 3 | n => n, fun | n => n⟩
theorem Tryd.lays217 : Go.Proofs.Lays.n217 Tryd.prog Tryd.lays217_ren := {
  mixed := by kernel_rfl
  f217 := Tryd.func79.trans (congrArg some (by kernel_rfl))
  f266 := Tryd.func89.trans (congrArg some (by kernel_rfl))
  t3 := Tryd.underlying3
  a3 := Tryd.isAgg3
  z3 := Tryd.sizeOf3
  v3 := Tryd.zeroValue3
  t5 := Tryd.underlying5
  a5 := Tryd.isAgg5
  z5 := Tryd.sizeOf5
  v5 := Tryd.zeroValue5
  t9 := Tryd.underlying9
  a9 := Tryd.isAgg9
  z9 := Tryd.sizeOf9
  v9 := Tryd.zeroValue9 }
open Go.RowKit Go.Lib in
/-- internal/stringslite.IndexByte (what strings.IndexByte calls): IT RETURNS 'Lib.indexByte s c'; the world is as it was. (LAID: no walk: one application.) -/
theorem Tryd.stringslite_IndexByte (s : ByteArray) (c : Int) (w : World) :
    Calls Tryd.prog 79 #[.string s, .int .u8 c] w fun e w' => e = .returned (.int .i64 (Lib.indexByte s.data.toList c.toNat.toUInt8)) ∧ w' = w := Any.stringslite_IndexByte Tryd.lays217 s c w
def Tryd.lays224_ren : Go.Shelf.Ren := ⟨fun | 224 => 81 | n => n, fun | 3 => 3 | n => n, fun | n => n⟩
theorem Tryd.lays224 : Go.Proofs.Lays.n224 Tryd.prog Tryd.lays224_ren := {
  mixed := by kernel_rfl
  f224 := Tryd.func81.trans (congrArg some (by kernel_rfl))
  t3 := Tryd.underlying3
  a3 := Tryd.isAgg3
  z3 := Tryd.sizeOf3
  v3 := Tryd.zeroValue3 }
open Go.RowKit Go.Lib in
/-- internal/bytealg.Cutover: "Cutover reports the number of failures of IndexByte we should tolerate before switching over to Index. n is the number of bytes processed so far.": on amd64: (n + 16) / 8. (LAID: no walk: one application.) -/
theorem Tryd.bytealg_Cutover (n : Int) (h0 : 0 ≤ n) (h1 : n < 4611686018427387904) (w : World) :
    Calls Tryd.prog 81 #[.int .i64 n] w fun e w' => e = .returned (.int .i64 ((n + 16) / 8)) ∧ w' = w := Any.bytealg_Cutover Tryd.lays224 n h0 h1 w
def Tryd.lays314_ren : Go.Shelf.Ren := ⟨fun | 314 => 90 | n => n, fun | 9 => 9 | 51 => 113 | 3 => 3 | 4 => 4 | 5 => 5 | 46 => 94 | n => n, fun | n => n⟩
theorem Tryd.lays314 : Go.Proofs.Lays.n314 Tryd.prog Tryd.lays314_ren := {
  mixed := by kernel_rfl
  f314 := Tryd.func90.trans (congrArg some (by kernel_rfl))
  t3 := Tryd.underlying3
  a3 := Tryd.isAgg3
  z3 := Tryd.sizeOf3
  v3 := Tryd.zeroValue3
  t4 := Tryd.underlying4
  a4 := Tryd.isAgg4
  z4 := Tryd.sizeOf4
  v4 := Tryd.zeroValue4
  t5 := Tryd.underlying5
  a5 := Tryd.isAgg5
  z5 := Tryd.sizeOf5
  v5 := Tryd.zeroValue5
  t9 := Tryd.underlying9
  a9 := Tryd.isAgg9
  z9 := Tryd.sizeOf9
  v9 := Tryd.zeroValue9
  t46 := Tryd.underlying94
  a46 := Tryd.isAgg94
  z46 := Tryd.sizeOf94
  v46 := Tryd.zeroValue94
  t51 := Tryd.underlying113
  a51 := Tryd.isAgg113
  z51 := Tryd.sizeOf113
  v51 := Tryd.zeroValue113 }
open Go.RowKit Go.Lib in
/-- hashStr: "returns the hash and the appropriate multiplicative factor for use in Rabin-Karp algorithm": THE HASH OF ALL OF sep, AND 16777619 ^ len(sep), both in uint32. (LAID: no walk: one application.) -/
theorem Tryd.bytealg_hashStr (sep : ByteArray) (hs : sep.size < 4294967281) (w : World) :
    Calls Tryd.prog 90 #[.string sep] w fun e w' => e = .returned (.tuple #[.int .u32 (RK.H sep.data.toList % 4294967296), .int .u32 (16777619 ^ sep.size % 4294967296)]) ∧ w' = w := Any.bytealg_hashStr Tryd.lays314 sep hs w
def Tryd.lays267_ren : Go.Shelf.Ren := ⟨fun | 267 => 82 | 314 => 90 | n => n, fun | 9 => 9 | 3 => 3 | 146 => 146 | 51 => 113 | 4 => 4 | 5 => 5 | 46 => 94 | n => n, fun | n => n⟩
theorem Tryd.lays267 : Go.Proofs.Lays.n267 Tryd.prog Tryd.lays267_ren := {
  mixed := by kernel_rfl
  f267 := Tryd.func82.trans (congrArg some (by kernel_rfl))
  f314 := Tryd.func90.trans (congrArg some (by kernel_rfl))
  t3 := Tryd.underlying3
  a3 := Tryd.isAgg3
  z3 := Tryd.sizeOf3
  v3 := Tryd.zeroValue3
  t4 := Tryd.underlying4
  a4 := Tryd.isAgg4
  z4 := Tryd.sizeOf4
  v4 := Tryd.zeroValue4
  t5 := Tryd.underlying5
  a5 := Tryd.isAgg5
  z5 := Tryd.sizeOf5
  v5 := Tryd.zeroValue5
  t9 := Tryd.underlying9
  a9 := Tryd.isAgg9
  z9 := Tryd.sizeOf9
  v9 := Tryd.zeroValue9
  t46 := Tryd.underlying94
  a46 := Tryd.isAgg94
  z46 := Tryd.sizeOf94
  v46 := Tryd.zeroValue94
  t51 := Tryd.underlying113
  a51 := Tryd.isAgg113
  z51 := Tryd.sizeOf113
  v51 := Tryd.zeroValue113
  t146 := Tryd.underlying146
  a146 := Tryd.isAgg146
  z146 := Tryd.sizeOf146
  v146 := Tryd.zeroValue146 }
open Go.RowKit Go.Lib in
theorem Tryd.bytealg_IndexRabinKarp (s sep : ByteArray) (h1 : 1 ≤ sep.size) (h2 : sep.size ≤ s.size) (hs : s.size < 4294967281) (w : World) :
    Calls Tryd.prog 82 #[.string s, .string sep] w fun e w' => e = .returned (.int .i64 (Lib.index s.data.toList sep.data.toList)) ∧ w' = w := Any.bytealg_IndexRabinKarp Tryd.lays267 s sep h1 h2 hs w
def Tryd.lays219_ren : Go.Shelf.Ren := ⟨fun | 219 => 61 | 217 => 79 | 225 => 80 | 224 => 81 | 267 => 82 | 266 => 89 | 314 => 90 | n => n, fun | 9 => 9 | 3 => 3 | 4 => 4 | 5 => 5 | 46 => 94 | 146 => 146 | 51 => 113 | n => n, fun | 1 => 5 | n => n⟩
theorem Tryd.lays219 : Go.Proofs.Lays.n219 Tryd.prog Tryd.lays219_ren := {
  mixed := by kernel_rfl
  f217 := Tryd.func79.trans (congrArg some (by kernel_rfl))
  f219 := Tryd.func61.trans (congrArg some (by kernel_rfl))
  f224 := Tryd.func81.trans (congrArg some (by kernel_rfl))
  f225 := Tryd.func80.trans (congrArg some (by kernel_rfl))
  f266 := Tryd.func89.trans (congrArg some (by kernel_rfl))
  f267 := Tryd.func82.trans (congrArg some (by kernel_rfl))
  f314 := Tryd.func90.trans (congrArg some (by kernel_rfl))
  t3 := Tryd.underlying3
  a3 := Tryd.isAgg3
  z3 := Tryd.sizeOf3
  v3 := Tryd.zeroValue3
  t4 := Tryd.underlying4
  a4 := Tryd.isAgg4
  z4 := Tryd.sizeOf4
  v4 := Tryd.zeroValue4
  t5 := Tryd.underlying5
  a5 := Tryd.isAgg5
  z5 := Tryd.sizeOf5
  v5 := Tryd.zeroValue5
  t9 := Tryd.underlying9
  a9 := Tryd.isAgg9
  z9 := Tryd.sizeOf9
  v9 := Tryd.zeroValue9
  t46 := Tryd.underlying94
  a46 := Tryd.isAgg94
  z46 := Tryd.sizeOf94
  v46 := Tryd.zeroValue94
  t51 := Tryd.underlying113
  a51 := Tryd.isAgg113
  z51 := Tryd.sizeOf113
  v51 := Tryd.zeroValue113
  t146 := Tryd.underlying146
  a146 := Tryd.isAgg146
  z146 := Tryd.sizeOf146
  v146 := Tryd.zeroValue146
  g1 := by kernel_rfl }
open Go.RowKit Go.Lib in
/-- internal/stringslite.Index (what strings.Index calls) AT A substr OF ONE BYTE c: IT RETURNS 'Lib.indexByte s c'; the world is as it was. (LAID: no walk: one application.) -/
theorem Tryd.stringslite_Index_one (s : ByteArray) (c : UInt8) (w : World) :
    Calls Tryd.prog 61 #[.string s, .string ⟨#[c]⟩] w fun e w' => e = .returned (.int .i64 (Lib.indexByte s.data.toList c)) ∧ w' = w := Any.stringslite_Index_one Tryd.lays219 s c w
open Go.RowKit Go.Lib in
/-- internal/stringslite.Index (what strings.Index calls) AT A substr OF WHATEVER LENGTH: IT RETURNS 'Lib.index s substr'; the world is as it was. 'm': what internal/bytealg.MaxLen holds: whatever. (LAID: no walk: one application.) -/
theorem Tryd.stringslite_Index (s sub : ByteArray) (m : Int) (w : World) (hs : s.size < 4294967281) (hm : w.cell? ⟨5, 0, none⟩ = some (.int .i64 m)) :
    Calls Tryd.prog 61 #[.string s, .string sub] w fun e w' => e = .returned (.int .i64 (Lib.index s.data.toList sub.data.toList)) ∧ w' = w := Any.stringslite_Index Tryd.lays219 s sub m w hs hm
def Tryd.lays143_ren : Go.Shelf.Ren := ⟨fun | 143 => 60 | 219 => 61 | 217 => 79 | 225 => 80 | 224 => 81 | 267 => 82 | 266 => 89 | 314 => 90 | n => n, fun | 9 => 9 | 3 => 3 | 4 => 4 | 5 => 5 | 46 => 94 | 146 => 146 | 51 => 113 | n => n, fun | 1 => 5 | n => n⟩
theorem Tryd.lays143 : Go.Proofs.Lays.n143 Tryd.prog Tryd.lays143_ren := {
  mixed := by kernel_rfl
  f143 := Tryd.func60.trans (congrArg some (by kernel_rfl))
  f217 := Tryd.func79.trans (congrArg some (by kernel_rfl))
  f219 := Tryd.func61.trans (congrArg some (by kernel_rfl))
  f224 := Tryd.func81.trans (congrArg some (by kernel_rfl))
  f225 := Tryd.func80.trans (congrArg some (by kernel_rfl))
  f266 := Tryd.func89.trans (congrArg some (by kernel_rfl))
  f267 := Tryd.func82.trans (congrArg some (by kernel_rfl))
  f314 := Tryd.func90.trans (congrArg some (by kernel_rfl))
  t3 := Tryd.underlying3
  a3 := Tryd.isAgg3
  z3 := Tryd.sizeOf3
  v3 := Tryd.zeroValue3
  t4 := Tryd.underlying4
  a4 := Tryd.isAgg4
  z4 := Tryd.sizeOf4
  v4 := Tryd.zeroValue4
  t5 := Tryd.underlying5
  a5 := Tryd.isAgg5
  z5 := Tryd.sizeOf5
  v5 := Tryd.zeroValue5
  t9 := Tryd.underlying9
  a9 := Tryd.isAgg9
  z9 := Tryd.sizeOf9
  v9 := Tryd.zeroValue9
  t46 := Tryd.underlying94
  a46 := Tryd.isAgg94
  z46 := Tryd.sizeOf94
  v46 := Tryd.zeroValue94
  t51 := Tryd.underlying113
  a51 := Tryd.isAgg113
  z51 := Tryd.sizeOf113
  v51 := Tryd.zeroValue113
  t146 := Tryd.underlying146
  a146 := Tryd.isAgg146
  z146 := Tryd.sizeOf146
  v146 := Tryd.zeroValue146
  g1 := by kernel_rfl }
open Go.RowKit Go.Lib in
/-- strings.Index: "Index returns the index of the first instance of substr in s, or -1 if substr is not present in s.": AT A substr OF ONE BYTE c: IT RETURNS 'Lib.indexByte s c'; the world is as it was. (LAID: no walk: one application.) -/
theorem Tryd.strings_Index_one (s : ByteArray) (c : UInt8) (w : World) :
    Calls Tryd.prog 60 #[.string s, .string ⟨#[c]⟩] w fun e w' => e = .returned (.int .i64 (Lib.indexByte s.data.toList c)) ∧ w' = w := Any.strings_Index_one Tryd.lays143 s c w
open Go.RowKit Go.Lib in
/-- strings.Index: "Index returns the index of the first instance of substr in s, or -1 if substr is not present in s.": IT RETURNS 'Lib.index s substr'; the world is as it was. (LAID: no walk: one application.) -/
theorem Tryd.strings_Index (s sub : ByteArray) (m : Int) (w : World) (hs : s.size < 4294967281) (hm : w.cell? ⟨5, 0, none⟩ = some (.int .i64 m)) :
    Calls Tryd.prog 60 #[.string s, .string sub] w fun e w' => e = .returned (.int .i64 (Lib.index s.data.toList sub.data.toList)) ∧ w' = w := Any.strings_Index Tryd.lays143 s sub m w hs hm
def Tryd.lays220_ren : Go.Shelf.Ren := ⟨fun | 220 => 39 | 219 => 61 | 217 => 79 | 225 => 80 | 224 => 81 | 267 => 82 | 266 => 89 | 314 => 90 | n => n, fun | 9 => 9 | 4 => 4 | 3 => 3 | 5 => 5 | 46 => 94 | 146 => 146 | 51 => 113 | n => n, fun | 1 => 5 | n => n⟩
theorem Tryd.lays220 : Go.Proofs.Lays.n220 Tryd.prog Tryd.lays220_ren := {
  mixed := by kernel_rfl
  f217 := Tryd.func79.trans (congrArg some (by kernel_rfl))
  f219 := Tryd.func61.trans (congrArg some (by kernel_rfl))
  f220 := Tryd.func39.trans (congrArg some (by kernel_rfl))
  f224 := Tryd.func81.trans (congrArg some (by kernel_rfl))
  f225 := Tryd.func80.trans (congrArg some (by kernel_rfl))
  f266 := Tryd.func89.trans (congrArg some (by kernel_rfl))
  f267 := Tryd.func82.trans (congrArg some (by kernel_rfl))
  f314 := Tryd.func90.trans (congrArg some (by kernel_rfl))
  t3 := Tryd.underlying3
  a3 := Tryd.isAgg3
  z3 := Tryd.sizeOf3
  v3 := Tryd.zeroValue3
  t4 := Tryd.underlying4
  a4 := Tryd.isAgg4
  z4 := Tryd.sizeOf4
  v4 := Tryd.zeroValue4
  t5 := Tryd.underlying5
  a5 := Tryd.isAgg5
  z5 := Tryd.sizeOf5
  v5 := Tryd.zeroValue5
  t9 := Tryd.underlying9
  a9 := Tryd.isAgg9
  z9 := Tryd.sizeOf9
  v9 := Tryd.zeroValue9
  t46 := Tryd.underlying94
  a46 := Tryd.isAgg94
  z46 := Tryd.sizeOf94
  v46 := Tryd.zeroValue94
  t51 := Tryd.underlying113
  a51 := Tryd.isAgg113
  z51 := Tryd.sizeOf113
  v51 := Tryd.zeroValue113
  t146 := Tryd.underlying146
  a146 := Tryd.isAgg146
  z146 := Tryd.sizeOf146
  v146 := Tryd.zeroValue146
  g1 := by kernel_rfl }
open Go.RowKit Go.Lib in
/-- internal/stringslite.Cut (what strings.Cut calls): IT RETURNS 'Lib.cut s sep'; the world is as it was but for the count of draws. (LAID: no walk: one application.) -/
theorem Tryd.stringslite_Cut (s sep : ByteArray) (m : Int) (w : World) (hs : s.size < 4294967281) (hm : w.cell? ⟨5, 0, none⟩ = some (.int .i64 m)) :
    Calls Tryd.prog 39 #[.string s, .string sep] w fun e w' => e = .returned (.tuple #[.string ⟨(Lib.cut s.data.toList sep.data.toList).1.toArray⟩, .string ⟨(Lib.cut s.data.toList sep.data.toList).2.1.toArray⟩, .bool (Lib.cut s.data.toList sep.data.toList).2.2]) ∧ ∃ n, w' = w.drewN n := Any.stringslite_Cut Tryd.lays220 s sep m w hs hm
def Tryd.lays145_ren : Go.Shelf.Ren := ⟨fun | 145 => 26 | 220 => 39 | 219 => 61 | 217 => 79 | 225 => 80 | 224 => 81 | 267 => 82 | 266 => 89 | 314 => 90 | n => n, fun | 9 => 9 | 4 => 4 | 59 => 72 | 3 => 3 | 5 => 5 | 46 => 94 | 146 => 146 | 51 => 113 | n => n, fun | 1 => 5 | n => n⟩
theorem Tryd.lays145 : Go.Proofs.Lays.n145 Tryd.prog Tryd.lays145_ren := {
  mixed := by kernel_rfl
  f145 := Tryd.func26.trans (congrArg some (by kernel_rfl))
  f217 := Tryd.func79.trans (congrArg some (by kernel_rfl))
  f219 := Tryd.func61.trans (congrArg some (by kernel_rfl))
  f220 := Tryd.func39.trans (congrArg some (by kernel_rfl))
  f224 := Tryd.func81.trans (congrArg some (by kernel_rfl))
  f225 := Tryd.func80.trans (congrArg some (by kernel_rfl))
  f266 := Tryd.func89.trans (congrArg some (by kernel_rfl))
  f267 := Tryd.func82.trans (congrArg some (by kernel_rfl))
  f314 := Tryd.func90.trans (congrArg some (by kernel_rfl))
  t3 := Tryd.underlying3
  a3 := Tryd.isAgg3
  z3 := Tryd.sizeOf3
  v3 := Tryd.zeroValue3
  t4 := Tryd.underlying4
  a4 := Tryd.isAgg4
  z4 := Tryd.sizeOf4
  v4 := Tryd.zeroValue4
  t5 := Tryd.underlying5
  a5 := Tryd.isAgg5
  z5 := Tryd.sizeOf5
  v5 := Tryd.zeroValue5
  t9 := Tryd.underlying9
  a9 := Tryd.isAgg9
  z9 := Tryd.sizeOf9
  v9 := Tryd.zeroValue9
  t46 := Tryd.underlying94
  a46 := Tryd.isAgg94
  z46 := Tryd.sizeOf94
  v46 := Tryd.zeroValue94
  t51 := Tryd.underlying113
  a51 := Tryd.isAgg113
  z51 := Tryd.sizeOf113
  v51 := Tryd.zeroValue113
  t59 := Tryd.underlying72
  a59 := Tryd.isAgg72
  z59 := Tryd.sizeOf72
  v59 := Tryd.zeroValue72
  t146 := Tryd.underlying146
  a146 := Tryd.isAgg146
  z146 := Tryd.sizeOf146
  v146 := Tryd.zeroValue146
  g1 := by kernel_rfl }
open Go.RowKit Go.Lib in
/-- strings.Cut: "Cut slices s around the first instance of sep, returning the text before and after sep. The found result reports whether sep appears in s. If sep does not appear in s, cut returns s, "", false.": IT RETURNS 'Lib.cut s sep'; the world is as it was but for the count of draws. (LAID: no walk: one application.) -/
theorem Tryd.strings_Cut (s sep : ByteArray) (m : Int) (w : World) (hs : s.size < 4294967281) (hm : w.cell? ⟨5, 0, none⟩ = some (.int .i64 m)) :
    Calls Tryd.prog 26 #[.string s, .string sep] w fun e w' => e = .returned (.tuple #[.string ⟨(Lib.cut s.data.toList sep.data.toList).1.toArray⟩, .string ⟨(Lib.cut s.data.toList sep.data.toList).2.1.toArray⟩, .bool (Lib.cut s.data.toList sep.data.toList).2.2]) ∧ ∃ n, w' = w.drewN n := Any.strings_Cut Tryd.lays145 s sep m w hs hm
def Tryd.lays138_ren : Go.Shelf.Ren := ⟨fun | 138 => 59 | 195 => 76 | 218 => 78 | 143 => 60 | 219 => 61 | 217 => 79 | 225 => 80 | 224 => 81 | 267 => 82 | 266 => 89 | 314 => 90 | n => n, fun | 9 => 9 | 3 => 3 | 4 => 4 | 5 => 5 | 0 => 0 | 46 => 94 | 146 => 146 | 51 => 113 | n => n, fun | 1 => 5 | n => n⟩
theorem Tryd.lays138 : Go.Proofs.Lays.n138 Tryd.prog Tryd.lays138_ren := {
  mixed := by kernel_rfl
  f138 := Tryd.func59.trans (congrArg some (by kernel_rfl))
  f143 := Tryd.func60.trans (congrArg some (by kernel_rfl))
  f195 := Tryd.func76.trans (congrArg some (by kernel_rfl))
  f217 := Tryd.func79.trans (congrArg some (by kernel_rfl))
  f218 := Tryd.func78.trans (congrArg some (by kernel_rfl))
  f219 := Tryd.func61.trans (congrArg some (by kernel_rfl))
  f224 := Tryd.func81.trans (congrArg some (by kernel_rfl))
  f225 := Tryd.func80.trans (congrArg some (by kernel_rfl))
  f266 := Tryd.func89.trans (congrArg some (by kernel_rfl))
  f267 := Tryd.func82.trans (congrArg some (by kernel_rfl))
  f314 := Tryd.func90.trans (congrArg some (by kernel_rfl))
  t0 := Tryd.underlying0
  a0 := Tryd.isAgg0
  z0 := Tryd.sizeOf0
  v0 := Tryd.zeroValue0
  t3 := Tryd.underlying3
  a3 := Tryd.isAgg3
  z3 := Tryd.sizeOf3
  v3 := Tryd.zeroValue3
  t4 := Tryd.underlying4
  a4 := Tryd.isAgg4
  z4 := Tryd.sizeOf4
  v4 := Tryd.zeroValue4
  t5 := Tryd.underlying5
  a5 := Tryd.isAgg5
  z5 := Tryd.sizeOf5
  v5 := Tryd.zeroValue5
  t9 := Tryd.underlying9
  a9 := Tryd.isAgg9
  z9 := Tryd.sizeOf9
  v9 := Tryd.zeroValue9
  t46 := Tryd.underlying94
  a46 := Tryd.isAgg94
  z46 := Tryd.sizeOf94
  v46 := Tryd.zeroValue94
  t51 := Tryd.underlying113
  a51 := Tryd.isAgg113
  z51 := Tryd.sizeOf113
  v51 := Tryd.zeroValue113
  t146 := Tryd.underlying146
  a146 := Tryd.isAgg146
  z146 := Tryd.sizeOf146
  v146 := Tryd.zeroValue146
  g1 := by kernel_rfl }
open Go.RowKit Go.Lib in
/-- strings.Count AT A substr OF ONE BYTE ('hp'): "Count counts the number of non-overlapping instances of substr in s.": IT RETURNS 'Lib.countByte s (that byte)'; the world is as it was. ✋ NO CONTRACT HERE YET at an empty substr (utf8.RuneCountInString) or at a longer one (a loop over strings.Index). (LAID: no walk: one application.) -/
theorem Tryd.strings_Count_one (s : ByteArray) (c : UInt8) (w : World) :
    Calls Tryd.prog 59 #[.string s, .string ⟨#[c]⟩] w fun e w' => e = .returned (.int .i64 (Lib.countByte s.data.toList c)) ∧ w' = w := Any.strings_Count_one Tryd.lays138 s c w
open Go.RowKit Go.Lib in
/-- strings.Count AT A substr OF TWO BYTES OR MORE: "Count counts the number of non-overlapping instances of substr in s.": IT RETURNS 'Lib.count s substr'; the world is as it was. (LAID: no walk: one application.) -/
theorem Tryd.strings_Count (s sub : ByteArray) (m : Int) (w : World) (hs : s.size < 4294967281) (hm : w.cell? ⟨5, 0, none⟩ = some (.int .i64 m)) (h2 : 2 ≤ sub.size) :
    Calls Tryd.prog 59 #[.string s, .string sub] w fun e w' => e = .returned (.int .i64 (Lib.countB s sub)) ∧ w' = w := Any.strings_Count Tryd.lays138 s sub m w hs hm h2
def Tryd.laysM219_ren : Go.Shelf.Ren := ⟨fun | 219 => 61 | 217 => 79 | 225 => 80 | 224 => 81 | 267 => 82 | 266 => 89 | 314 => 90 | n => n, fun | 9 => 9 | 3 => 3 | 4 => 4 | 5 => 5 | 46 => 94 | 146 => 146 | 51 => 113 | n => n, fun | 1 => 5 | n => n⟩
theorem Tryd.laysM219 : Go.Proofs.LaysM.n219 Tryd.prog Tryd.laysM219_ren := {
  mixed := by kernel_rfl
  f217 := Tryd.func79.trans (congrArg some (by kernel_rfl))
  f219 := Tryd.func61.trans (congrArg some (by kernel_rfl))
  f224 := Tryd.func81.trans (congrArg some (by kernel_rfl))
  f225 := Tryd.func80.trans (congrArg some (by kernel_rfl))
  f266 := Tryd.func89.trans (congrArg some (by kernel_rfl))
  f267 := Tryd.func82.trans (congrArg some (by kernel_rfl))
  f314 := Tryd.func90.trans (congrArg some (by kernel_rfl))
  t3 := Tryd.underlying3
  a3 := Tryd.isAgg3
  z3 := Tryd.sizeOf3
  v3 := Tryd.zeroValue3
  t4 := Tryd.underlying4
  a4 := Tryd.isAgg4
  z4 := Tryd.sizeOf4
  v4 := Tryd.zeroValue4
  t5 := Tryd.underlying5
  a5 := Tryd.isAgg5
  z5 := Tryd.sizeOf5
  v5 := Tryd.zeroValue5
  t9 := Tryd.underlying9
  a9 := Tryd.isAgg9
  z9 := Tryd.sizeOf9
  v9 := Tryd.zeroValue9
  t46 := Tryd.underlying94
  a46 := Tryd.isAgg94
  z46 := Tryd.sizeOf94
  v46 := Tryd.zeroValue94
  t51 := Tryd.underlying113
  a51 := Tryd.isAgg113
  z51 := Tryd.sizeOf113
  v51 := Tryd.zeroValue113
  t146 := Tryd.underlying146
  a146 := Tryd.isAgg146
  z146 := Tryd.sizeOf146
  v146 := Tryd.zeroValue146
  g1 := by kernel_rfl
  i3 := by kernel_rfl
  i4 := by kernel_rfl
  i5 := by kernel_rfl
  i9 := by kernel_rfl
  i46 := by kernel_rfl
  i51 := by kernel_rfl
  i146 := by kernel_rfl
  m1 := by kernel_rfl
  s1_3 := fun w h => Go.Proofs.cell_of_shapedOpen_int (zero := #[.int .i64 0]) (t := 3) h (of_decide_eq_true (by kernel_rfl)) (by kernel_rfl) rfl (by kernel_rfl) (by kernel_rfl) Tryd.underlying3 }
open Go.RowKit Go.Lib in
theorem Tryd.stringslite_Index_shaped (s sub : ByteArray) (w : World) (h : w.ShapedOpen Tryd.prog) (hs : s.size < 4294967281) :
    Calls Tryd.prog 61 #[.string s, .string sub] w fun e w' => e = .returned (.int .i64 (Lib.index s.data.toList sub.data.toList)) ∧ w' = w := Any.stringslite_Index_shaped Tryd.laysM219 s sub w h hs
def Tryd.laysM143_ren : Go.Shelf.Ren := ⟨fun | 143 => 60 | 219 => 61 | 217 => 79 | 225 => 80 | 224 => 81 | 267 => 82 | 266 => 89 | 314 => 90 | n => n, fun | 9 => 9 | 3 => 3 | 4 => 4 | 5 => 5 | 46 => 94 | 146 => 146 | 51 => 113 | n => n, fun | 1 => 5 | n => n⟩
theorem Tryd.laysM143 : Go.Proofs.LaysM.n143 Tryd.prog Tryd.laysM143_ren := {
  mixed := by kernel_rfl
  f143 := Tryd.func60.trans (congrArg some (by kernel_rfl))
  f217 := Tryd.func79.trans (congrArg some (by kernel_rfl))
  f219 := Tryd.func61.trans (congrArg some (by kernel_rfl))
  f224 := Tryd.func81.trans (congrArg some (by kernel_rfl))
  f225 := Tryd.func80.trans (congrArg some (by kernel_rfl))
  f266 := Tryd.func89.trans (congrArg some (by kernel_rfl))
  f267 := Tryd.func82.trans (congrArg some (by kernel_rfl))
  f314 := Tryd.func90.trans (congrArg some (by kernel_rfl))
  t3 := Tryd.underlying3
  a3 := Tryd.isAgg3
  z3 := Tryd.sizeOf3
  v3 := Tryd.zeroValue3
  t4 := Tryd.underlying4
  a4 := Tryd.isAgg4
  z4 := Tryd.sizeOf4
  v4 := Tryd.zeroValue4
  t5 := Tryd.underlying5
  a5 := Tryd.isAgg5
  z5 := Tryd.sizeOf5
  v5 := Tryd.zeroValue5
  t9 := Tryd.underlying9
  a9 := Tryd.isAgg9
  z9 := Tryd.sizeOf9
  v9 := Tryd.zeroValue9
  t46 := Tryd.underlying94
  a46 := Tryd.isAgg94
  z46 := Tryd.sizeOf94
  v46 := Tryd.zeroValue94
  t51 := Tryd.underlying113
  a51 := Tryd.isAgg113
  z51 := Tryd.sizeOf113
  v51 := Tryd.zeroValue113
  t146 := Tryd.underlying146
  a146 := Tryd.isAgg146
  z146 := Tryd.sizeOf146
  v146 := Tryd.zeroValue146
  g1 := by kernel_rfl
  i3 := by kernel_rfl
  i4 := by kernel_rfl
  i5 := by kernel_rfl
  i9 := by kernel_rfl
  i46 := by kernel_rfl
  i51 := by kernel_rfl
  i146 := by kernel_rfl
  m1 := by kernel_rfl
  s1_3 := fun w h => Go.Proofs.cell_of_shapedOpen_int (zero := #[.int .i64 0]) (t := 3) h (of_decide_eq_true (by kernel_rfl)) (by kernel_rfl) rfl (by kernel_rfl) (by kernel_rfl) Tryd.underlying3 }
open Go.RowKit Go.Lib in
theorem Tryd.strings_Index_shaped (s sub : ByteArray) (w : World) (h : w.ShapedOpen Tryd.prog) (hs : s.size < 4294967281) :
    Calls Tryd.prog 60 #[.string s, .string sub] w fun e w' => e = .returned (.int .i64 (Lib.index s.data.toList sub.data.toList)) ∧ w' = w := Any.strings_Index_shaped Tryd.laysM143 s sub w h hs
def Tryd.laysM220_ren : Go.Shelf.Ren := ⟨fun | 220 => 39 | 219 => 61 | 217 => 79 | 225 => 80 | 224 => 81 | 267 => 82 | 266 => 89 | 314 => 90 | n => n, fun | 9 => 9 | 4 => 4 | 3 => 3 | 5 => 5 | 46 => 94 | 146 => 146 | 51 => 113 | n => n, fun | 1 => 5 | n => n⟩
theorem Tryd.laysM220 : Go.Proofs.LaysM.n220 Tryd.prog Tryd.laysM220_ren := {
  mixed := by kernel_rfl
  f217 := Tryd.func79.trans (congrArg some (by kernel_rfl))
  f219 := Tryd.func61.trans (congrArg some (by kernel_rfl))
  f220 := Tryd.func39.trans (congrArg some (by kernel_rfl))
  f224 := Tryd.func81.trans (congrArg some (by kernel_rfl))
  f225 := Tryd.func80.trans (congrArg some (by kernel_rfl))
  f266 := Tryd.func89.trans (congrArg some (by kernel_rfl))
  f267 := Tryd.func82.trans (congrArg some (by kernel_rfl))
  f314 := Tryd.func90.trans (congrArg some (by kernel_rfl))
  t3 := Tryd.underlying3
  a3 := Tryd.isAgg3
  z3 := Tryd.sizeOf3
  v3 := Tryd.zeroValue3
  t4 := Tryd.underlying4
  a4 := Tryd.isAgg4
  z4 := Tryd.sizeOf4
  v4 := Tryd.zeroValue4
  t5 := Tryd.underlying5
  a5 := Tryd.isAgg5
  z5 := Tryd.sizeOf5
  v5 := Tryd.zeroValue5
  t9 := Tryd.underlying9
  a9 := Tryd.isAgg9
  z9 := Tryd.sizeOf9
  v9 := Tryd.zeroValue9
  t46 := Tryd.underlying94
  a46 := Tryd.isAgg94
  z46 := Tryd.sizeOf94
  v46 := Tryd.zeroValue94
  t51 := Tryd.underlying113
  a51 := Tryd.isAgg113
  z51 := Tryd.sizeOf113
  v51 := Tryd.zeroValue113
  t146 := Tryd.underlying146
  a146 := Tryd.isAgg146
  z146 := Tryd.sizeOf146
  v146 := Tryd.zeroValue146
  g1 := by kernel_rfl
  i3 := by kernel_rfl
  i4 := by kernel_rfl
  i5 := by kernel_rfl
  i9 := by kernel_rfl
  i46 := by kernel_rfl
  i51 := by kernel_rfl
  i146 := by kernel_rfl
  m1 := by kernel_rfl
  s1_3 := fun w h => Go.Proofs.cell_of_shapedOpen_int (zero := #[.int .i64 0]) (t := 3) h (of_decide_eq_true (by kernel_rfl)) (by kernel_rfl) rfl (by kernel_rfl) (by kernel_rfl) Tryd.underlying3 }
open Go.RowKit Go.Lib in
theorem Tryd.stringslite_Cut_shaped (s sep : ByteArray) (w : World) (h : w.ShapedOpen Tryd.prog) (hs : s.size < 4294967281) :
    Calls Tryd.prog 39 #[.string s, .string sep] w fun e w' => e = .returned (.tuple #[.string ⟨(Lib.cut s.data.toList sep.data.toList).1.toArray⟩, .string ⟨(Lib.cut s.data.toList sep.data.toList).2.1.toArray⟩, .bool (Lib.cut s.data.toList sep.data.toList).2.2]) ∧ ∃ n, w' = w.drewN n := Any.stringslite_Cut_shaped Tryd.laysM220 s sep w h hs
def Tryd.laysM145_ren : Go.Shelf.Ren := ⟨fun | 145 => 26 | 220 => 39 | 219 => 61 | 217 => 79 | 225 => 80 | 224 => 81 | 267 => 82 | 266 => 89 | 314 => 90 | n => n, fun | 9 => 9 | 4 => 4 | 59 => 72 | 3 => 3 | 5 => 5 | 46 => 94 | 146 => 146 | 51 => 113 | n => n, fun | 1 => 5 | n => n⟩
theorem Tryd.laysM145 : Go.Proofs.LaysM.n145 Tryd.prog Tryd.laysM145_ren := {
  mixed := by kernel_rfl
  f145 := Tryd.func26.trans (congrArg some (by kernel_rfl))
  f217 := Tryd.func79.trans (congrArg some (by kernel_rfl))
  f219 := Tryd.func61.trans (congrArg some (by kernel_rfl))
  f220 := Tryd.func39.trans (congrArg some (by kernel_rfl))
  f224 := Tryd.func81.trans (congrArg some (by kernel_rfl))
  f225 := Tryd.func80.trans (congrArg some (by kernel_rfl))
  f266 := Tryd.func89.trans (congrArg some (by kernel_rfl))
  f267 := Tryd.func82.trans (congrArg some (by kernel_rfl))
  f314 := Tryd.func90.trans (congrArg some (by kernel_rfl))
  t3 := Tryd.underlying3
  a3 := Tryd.isAgg3
  z3 := Tryd.sizeOf3
  v3 := Tryd.zeroValue3
  t4 := Tryd.underlying4
  a4 := Tryd.isAgg4
  z4 := Tryd.sizeOf4
  v4 := Tryd.zeroValue4
  t5 := Tryd.underlying5
  a5 := Tryd.isAgg5
  z5 := Tryd.sizeOf5
  v5 := Tryd.zeroValue5
  t9 := Tryd.underlying9
  a9 := Tryd.isAgg9
  z9 := Tryd.sizeOf9
  v9 := Tryd.zeroValue9
  t46 := Tryd.underlying94
  a46 := Tryd.isAgg94
  z46 := Tryd.sizeOf94
  v46 := Tryd.zeroValue94
  t51 := Tryd.underlying113
  a51 := Tryd.isAgg113
  z51 := Tryd.sizeOf113
  v51 := Tryd.zeroValue113
  t59 := Tryd.underlying72
  a59 := Tryd.isAgg72
  z59 := Tryd.sizeOf72
  v59 := Tryd.zeroValue72
  t146 := Tryd.underlying146
  a146 := Tryd.isAgg146
  z146 := Tryd.sizeOf146
  v146 := Tryd.zeroValue146
  g1 := by kernel_rfl
  i3 := by kernel_rfl
  i4 := by kernel_rfl
  i5 := by kernel_rfl
  i9 := by kernel_rfl
  i46 := by kernel_rfl
  i51 := by kernel_rfl
  i59 := by kernel_rfl
  i146 := by kernel_rfl
  m1 := by kernel_rfl
  s1_3 := fun w h => Go.Proofs.cell_of_shapedOpen_int (zero := #[.int .i64 0]) (t := 3) h (of_decide_eq_true (by kernel_rfl)) (by kernel_rfl) rfl (by kernel_rfl) (by kernel_rfl) Tryd.underlying3 }
open Go.RowKit Go.Lib in
theorem Tryd.strings_Cut_shaped (s sep : ByteArray) (w : World) (h : w.ShapedOpen Tryd.prog) (hs : s.size < 4294967281) :
    Calls Tryd.prog 26 #[.string s, .string sep] w fun e w' => e = .returned (.tuple #[.string ⟨(Lib.cut s.data.toList sep.data.toList).1.toArray⟩, .string ⟨(Lib.cut s.data.toList sep.data.toList).2.1.toArray⟩, .bool (Lib.cut s.data.toList sep.data.toList).2.2]) ∧ ∃ n, w' = w.drewN n := Any.strings_Cut_shaped Tryd.laysM145 s sep w h hs
def Tryd.laysM138_ren : Go.Shelf.Ren := ⟨fun | 138 => 59 | 195 => 76 | 218 => 78 | 143 => 60 | 219 => 61 | 217 => 79 | 225 => 80 | 224 => 81 | 267 => 82 | 266 => 89 | 314 => 90 | n => n, fun | 9 => 9 | 3 => 3 | 4 => 4 | 5 => 5 | 0 => 0 | 46 => 94 | 146 => 146 | 51 => 113 | n => n, fun | 1 => 5 | n => n⟩
theorem Tryd.laysM138 : Go.Proofs.LaysM.n138 Tryd.prog Tryd.laysM138_ren := {
  mixed := by kernel_rfl
  f138 := Tryd.func59.trans (congrArg some (by kernel_rfl))
  f143 := Tryd.func60.trans (congrArg some (by kernel_rfl))
  f195 := Tryd.func76.trans (congrArg some (by kernel_rfl))
  f217 := Tryd.func79.trans (congrArg some (by kernel_rfl))
  f218 := Tryd.func78.trans (congrArg some (by kernel_rfl))
  f219 := Tryd.func61.trans (congrArg some (by kernel_rfl))
  f224 := Tryd.func81.trans (congrArg some (by kernel_rfl))
  f225 := Tryd.func80.trans (congrArg some (by kernel_rfl))
  f266 := Tryd.func89.trans (congrArg some (by kernel_rfl))
  f267 := Tryd.func82.trans (congrArg some (by kernel_rfl))
  f314 := Tryd.func90.trans (congrArg some (by kernel_rfl))
  t0 := Tryd.underlying0
  a0 := Tryd.isAgg0
  z0 := Tryd.sizeOf0
  v0 := Tryd.zeroValue0
  t3 := Tryd.underlying3
  a3 := Tryd.isAgg3
  z3 := Tryd.sizeOf3
  v3 := Tryd.zeroValue3
  t4 := Tryd.underlying4
  a4 := Tryd.isAgg4
  z4 := Tryd.sizeOf4
  v4 := Tryd.zeroValue4
  t5 := Tryd.underlying5
  a5 := Tryd.isAgg5
  z5 := Tryd.sizeOf5
  v5 := Tryd.zeroValue5
  t9 := Tryd.underlying9
  a9 := Tryd.isAgg9
  z9 := Tryd.sizeOf9
  v9 := Tryd.zeroValue9
  t46 := Tryd.underlying94
  a46 := Tryd.isAgg94
  z46 := Tryd.sizeOf94
  v46 := Tryd.zeroValue94
  t51 := Tryd.underlying113
  a51 := Tryd.isAgg113
  z51 := Tryd.sizeOf113
  v51 := Tryd.zeroValue113
  t146 := Tryd.underlying146
  a146 := Tryd.isAgg146
  z146 := Tryd.sizeOf146
  v146 := Tryd.zeroValue146
  g1 := by kernel_rfl
  i0 := by kernel_rfl
  i3 := by kernel_rfl
  i4 := by kernel_rfl
  i5 := by kernel_rfl
  i9 := by kernel_rfl
  i46 := by kernel_rfl
  i51 := by kernel_rfl
  i146 := by kernel_rfl
  m1 := by kernel_rfl
  s1_3 := fun w h => Go.Proofs.cell_of_shapedOpen_int (zero := #[.int .i64 0]) (t := 3) h (of_decide_eq_true (by kernel_rfl)) (by kernel_rfl) rfl (by kernel_rfl) (by kernel_rfl) Tryd.underlying3 }
open Go.RowKit Go.Lib in
theorem Tryd.strings_Count_shaped (s sub : ByteArray) (w : World) (h : w.ShapedOpen Tryd.prog) (hs : s.size < 4294967281) (h2 : 2 ≤ sub.size) :
    Calls Tryd.prog 59 #[.string s, .string sub] w fun e w' => e = .returned (.int .i64 (Lib.countB s sub)) ∧ w' = w := Any.strings_Count_shaped Tryd.laysM138 s sub w h hs h2
def Tryd.lays190_ren : Go.Shelf.Ren := ⟨fun | 190 => 23 | 125 => 37 | 258 => 36 | 128 => 56 | 129 => 57 | 302 => 47 | 303 => 48 | 304 => 49 | 305 => 50 | 306 => 51 | 307 => 52 | 308 => 53 | 309 => 54 | 310 => 55 | 333 => 70 | 329 => 71 | 330 => 72 | 334 => 73 | 335 => 74 | 336 => 75 | 344 => 87 | n => n, fun | 31 => 41 | 9 => 9 | 3 => 3 | 46 => 94 | 0 => 0 | 51 => 113 | 53 => 115 | 4 => 4 | 183 => 106 | 182 => 105 | 131 => 65 | 5 => 5 | 218 => 132 | 222 => 136 | 228 => 143 | 229 => 144 | n => n, fun | n => n⟩
theorem Tryd.lays190 : Go.Proofs.Lays.n190 Tryd.prog Tryd.lays190_ren := {
  mixed := by kernel_rfl
  f125 := Tryd.func37.trans (congrArg some (by kernel_rfl))
  f128 := Tryd.func56.trans (congrArg some (by kernel_rfl))
  f129 := Tryd.func57.trans (congrArg some (by kernel_rfl))
  f190 := Tryd.func23.trans (congrArg some (by kernel_rfl))
  f258 := Tryd.func36.trans (congrArg some (by kernel_rfl))
  f302 := Tryd.func47.trans (congrArg some (by kernel_rfl))
  f303 := Tryd.func48.trans (congrArg some (by kernel_rfl))
  f304 := Tryd.func49.trans (congrArg some (by kernel_rfl))
  f305 := Tryd.func50.trans (congrArg some (by kernel_rfl))
  f306 := Tryd.func51.trans (congrArg some (by kernel_rfl))
  f307 := Tryd.func52.trans (congrArg some (by kernel_rfl))
  f308 := Tryd.func53.trans (congrArg some (by kernel_rfl))
  f309 := Tryd.func54.trans (congrArg some (by kernel_rfl))
  f310 := Tryd.func55.trans (congrArg some (by kernel_rfl))
  f329 := Tryd.func71.trans (congrArg some (by kernel_rfl))
  f330 := Tryd.func72.trans (congrArg some (by kernel_rfl))
  f333 := Tryd.func70.trans (congrArg some (by kernel_rfl))
  f334 := Tryd.func73.trans (congrArg some (by kernel_rfl))
  f335 := Tryd.func74.trans (congrArg some (by kernel_rfl))
  f336 := Tryd.func75.trans (congrArg some (by kernel_rfl))
  f344 := Tryd.func87.trans (congrArg some (by kernel_rfl))
  t0 := Tryd.underlying0
  a0 := Tryd.isAgg0
  z0 := Tryd.sizeOf0
  v0 := Tryd.zeroValue0
  t3 := Tryd.underlying3
  a3 := Tryd.isAgg3
  z3 := Tryd.sizeOf3
  v3 := Tryd.zeroValue3
  t4 := Tryd.underlying4
  a4 := Tryd.isAgg4
  z4 := Tryd.sizeOf4
  v4 := Tryd.zeroValue4
  t5 := Tryd.underlying5
  a5 := Tryd.isAgg5
  z5 := Tryd.sizeOf5
  v5 := Tryd.zeroValue5
  t9 := Tryd.underlying9
  a9 := Tryd.isAgg9
  z9 := Tryd.sizeOf9
  v9 := Tryd.zeroValue9
  t31 := Tryd.underlying41
  a31 := Tryd.isAgg41
  z31 := Tryd.sizeOf41
  v31 := Tryd.zeroValue41
  t46 := Tryd.underlying94
  a46 := Tryd.isAgg94
  z46 := Tryd.sizeOf94
  v46 := Tryd.zeroValue94
  t51 := Tryd.underlying113
  a51 := Tryd.isAgg113
  z51 := Tryd.sizeOf113
  v51 := Tryd.zeroValue113
  t53 := Tryd.underlying115
  a53 := Tryd.isAgg115
  z53 := Tryd.sizeOf115
  v53 := Tryd.zeroValue115
  t131 := Tryd.underlying65
  a131 := Tryd.isAgg65
  z131 := Tryd.sizeOf65
  v131 := Tryd.zeroValue65
  t182 := Tryd.underlying105
  a182 := Tryd.isAgg105
  z182 := Tryd.sizeOf105
  v182 := Tryd.zeroValue105
  t183 := Tryd.underlying106
  a183 := Tryd.isAgg106
  z183 := Tryd.sizeOf106
  v183 := Tryd.zeroValue106
  t218 := Tryd.underlying132
  a218 := Tryd.isAgg132
  z218 := Tryd.sizeOf132
  v218 := Tryd.zeroValue132
  t222 := Tryd.underlying136
  a222 := Tryd.isAgg136
  z222 := Tryd.sizeOf136
  v222 := Tryd.zeroValue136
  t228 := Tryd.underlying143
  a228 := Tryd.isAgg143
  z228 := Tryd.sizeOf143
  v228 := Tryd.zeroValue143
  t229 := Tryd.underlying144
  a229 := Tryd.isAgg144
  z229 := Tryd.sizeOf144
  v229 := Tryd.zeroValue144 }
open Go.Sort Go.RowKit in
theorem Tryd.slices_Sort_string (blk off cap : Nat) (ss : List (List UInt8)) (w : World) (hH : Holds encStr w blk off ss.toArray) (hblk : blk < w.heap.size) (hsz : ss.length < 4611686018427387904) :
    Calls Tryd.prog 23 #[.slice (some ⟨blk, off, none⟩) ss.length cap] w fun e w' =>
      e = .returned (.tuple #[]) ∧ ∃ n os, w' = grow (putRow encStr (Sort.ahead w n) blk off (ss.mergeSort fun x y => decide (x ≤ y)).toArray) os := Any.slices_Sort_string Tryd.lays190 blk off cap ss w hH hblk hsz
def Tryd.lays206_ren : Go.Shelf.Ren := ⟨fun | 206 => 93 | n => n, fun | 9 => 9 | 4 => 4 | 3 => 3 | n => n, fun | n => n⟩
theorem Tryd.lays206 : Go.Proofs.Lays.n206 Tryd.prog Tryd.lays206_ren := {
  mixed := by kernel_rfl
  f206 := Tryd.func93.trans (congrArg some (by kernel_rfl))
  t3 := Tryd.underlying3
  a3 := Tryd.isAgg3
  z3 := Tryd.sizeOf3
  v3 := Tryd.zeroValue3
  t4 := Tryd.underlying4
  a4 := Tryd.isAgg4
  z4 := Tryd.sizeOf4
  v4 := Tryd.zeroValue4
  t9 := Tryd.underlying9
  a9 := Tryd.isAgg9
  z9 := Tryd.sizeOf9
  v9 := Tryd.zeroValue9 }
open Go.RowKit Go.Lib in
/-- internal/stringslite.HasPrefix (what strings.HasPrefix calls). (LAID: no walk: one application.) -/
theorem Tryd.stringslite_HasPrefix (s p : ByteArray) (w : World) :
    Calls Tryd.prog 93 #[.string s, .string p] w fun e w' => e = .returned (.bool (Lib.hasPrefix s.data.toList p.data.toList)) ∧ w' = w := Any.stringslite_HasPrefix Tryd.lays206 s p w
def Tryd.lays207_ren : Go.Shelf.Ren := ⟨fun | 207 => 62 | n => n, fun | 9 => 9 | 4 => 4 | 3 => 3 | n => n, fun | n => n⟩
theorem Tryd.lays207 : Go.Proofs.Lays.n207 Tryd.prog Tryd.lays207_ren := {
  mixed := by kernel_rfl
  f207 := Tryd.func62.trans (congrArg some (by kernel_rfl))
  t3 := Tryd.underlying3
  a3 := Tryd.isAgg3
  z3 := Tryd.sizeOf3
  v3 := Tryd.zeroValue3
  t4 := Tryd.underlying4
  a4 := Tryd.isAgg4
  z4 := Tryd.sizeOf4
  v4 := Tryd.zeroValue4
  t9 := Tryd.underlying9
  a9 := Tryd.isAgg9
  z9 := Tryd.sizeOf9
  v9 := Tryd.zeroValue9 }
open Go.RowKit Go.Lib in
/-- internal/stringslite.HasSuffix (what strings.HasSuffix calls). (LAID: no walk: one application.) -/
theorem Tryd.stringslite_HasSuffix (s p : ByteArray) (w : World) (hs : s.size ≤ 9223372036854775807) :
    Calls Tryd.prog 62 #[.string s, .string p] w fun e w' => e = .returned (.bool (Lib.hasSuffix s.data.toList p.data.toList)) ∧ w' = w := Any.stringslite_HasSuffix Tryd.lays207 s p w hs
def Tryd.lays209_ren : Go.Shelf.Ren := ⟨fun | 209 => 40 | 207 => 62 | n => n, fun | 9 => 9 | 4 => 4 | 3 => 3 | n => n, fun | n => n⟩
theorem Tryd.lays209 : Go.Proofs.Lays.n209 Tryd.prog Tryd.lays209_ren := {
  mixed := by kernel_rfl
  f207 := Tryd.func62.trans (congrArg some (by kernel_rfl))
  f209 := Tryd.func40.trans (congrArg some (by kernel_rfl))
  t3 := Tryd.underlying3
  a3 := Tryd.isAgg3
  z3 := Tryd.sizeOf3
  v3 := Tryd.zeroValue3
  t4 := Tryd.underlying4
  a4 := Tryd.isAgg4
  z4 := Tryd.sizeOf4
  v4 := Tryd.zeroValue4
  t9 := Tryd.underlying9
  a9 := Tryd.isAgg9
  z9 := Tryd.sizeOf9
  v9 := Tryd.zeroValue9 }
open Go.RowKit Go.Lib in
/-- internal/stringslite.TrimSuffix (what strings.TrimSuffix calls). (LAID: no walk: one application.) -/
theorem Tryd.stringslite_TrimSuffix (s p : ByteArray) (w : World) (hs : s.size ≤ 9223372036854775807) :
    Calls Tryd.prog 40 #[.string s, .string p] w fun e w' => e = .returned (.string ⟨(Lib.trimSuffix s.data.toList p.data.toList).toArray⟩) ∧ w' = w := Any.stringslite_TrimSuffix Tryd.lays209 s p w hs
def Tryd.lays102_ren : Go.Shelf.Ren := ⟨fun | 102 => 27 | 209 => 40 | 207 => 62 | n => n, fun | 9 => 9 | 4 => 4 | 3 => 3 | n => n, fun | n => n⟩
theorem Tryd.lays102 : Go.Proofs.Lays.n102 Tryd.prog Tryd.lays102_ren := {
  mixed := by kernel_rfl
  f102 := Tryd.func27.trans (congrArg some (by kernel_rfl))
  f207 := Tryd.func62.trans (congrArg some (by kernel_rfl))
  f209 := Tryd.func40.trans (congrArg some (by kernel_rfl))
  t3 := Tryd.underlying3
  a3 := Tryd.isAgg3
  z3 := Tryd.sizeOf3
  v3 := Tryd.zeroValue3
  t4 := Tryd.underlying4
  a4 := Tryd.isAgg4
  z4 := Tryd.sizeOf4
  v4 := Tryd.zeroValue4
  t9 := Tryd.underlying9
  a9 := Tryd.isAgg9
  z9 := Tryd.sizeOf9
  v9 := Tryd.zeroValue9 }
open Go.RowKit Go.Lib in
/-- strings.TrimSuffix: "TrimSuffix returns s without the provided trailing suffix string. If s doesn't end with suffix, s is returned unchanged.": IT RETURNS 'Lib.trimSuffix s suffix'; the world is as it was. (LAID: no walk: one application.) -/
theorem Tryd.strings_TrimSuffix (s p : ByteArray) (w : World) (hs : s.size ≤ 9223372036854775807) :
    Calls Tryd.prog 27 #[.string s, .string p] w fun e w' => e = .returned (.string ⟨(Lib.trimSuffix s.data.toList p.data.toList).toArray⟩) ∧ w' = w := Any.strings_TrimSuffix Tryd.lays102 s p w hs
open Go.RowKit Go.Lib in
/-- strings.Count at whatever sep that is not empty: the two roads under one statement. (LAID: no walk: one application.) -/
theorem Tryd.strings_Count_any (s sep : ByteArray) (m : Int) (w : World) (hs : s.size < 4294967281) (hm : w.cell? ⟨5, 0, none⟩ = some (.int .i64 m)) (h1 : 1 ≤ sep.size) :
    Calls Tryd.prog 59 #[.string s, .string sep] w fun e w' => e = .returned (.int .i64 (Lib.countB s sep)) ∧ w' = w := Any.strings_Count_any Tryd.lays138 s sep m w hs hm h1
def Tryd.lays221_ren : Go.Shelf.Ren := ⟨fun | 221 => 38 | 268 => 58 | 138 => 59 | 143 => 60 | 195 => 76 | 197 => 77 | 218 => 78 | 219 => 61 | 260 => 88 | 217 => 79 | 225 => 80 | 224 => 81 | 267 => 82 | 266 => 89 | 314 => 90 | n => n, fun | 9 => 9 | 3 => 3 | 31 => 41 | 4 => 4 | 0 => 0 | 105 => 139 | 21 => 21 | 5 => 5 | 46 => 94 | 119 => 150 | 139 => 153 | 138 => 152 | 146 => 146 | 51 => 113 | n => n, fun | 1 => 5 | 3 => 6 | 4 => 7 | n => n⟩
theorem Tryd.lays221 : Go.Proofs.Lays.n221 Tryd.prog Tryd.lays221_ren := {
  mixed := by kernel_rfl
  f138 := Tryd.func59.trans (congrArg some (by kernel_rfl))
  f143 := Tryd.func60.trans (congrArg some (by kernel_rfl))
  f195 := Tryd.func76.trans (congrArg some (by kernel_rfl))
  f197 := Tryd.func77.trans (congrArg some (by kernel_rfl))
  f217 := Tryd.func79.trans (congrArg some (by kernel_rfl))
  f218 := Tryd.func78.trans (congrArg some (by kernel_rfl))
  f219 := Tryd.func61.trans (congrArg some (by kernel_rfl))
  f221 := Tryd.func38.trans (congrArg some (by kernel_rfl))
  f224 := Tryd.func81.trans (congrArg some (by kernel_rfl))
  f225 := Tryd.func80.trans (congrArg some (by kernel_rfl))
  f260 := Tryd.func88.trans (congrArg some (by kernel_rfl))
  f266 := Tryd.func89.trans (congrArg some (by kernel_rfl))
  f267 := Tryd.func82.trans (congrArg some (by kernel_rfl))
  f268 := Tryd.func58.trans (congrArg some (by kernel_rfl))
  f314 := Tryd.func90.trans (congrArg some (by kernel_rfl))
  t0 := Tryd.underlying0
  a0 := Tryd.isAgg0
  z0 := Tryd.sizeOf0
  v0 := Tryd.zeroValue0
  t3 := Tryd.underlying3
  a3 := Tryd.isAgg3
  z3 := Tryd.sizeOf3
  v3 := Tryd.zeroValue3
  t4 := Tryd.underlying4
  a4 := Tryd.isAgg4
  z4 := Tryd.sizeOf4
  v4 := Tryd.zeroValue4
  t5 := Tryd.underlying5
  a5 := Tryd.isAgg5
  z5 := Tryd.sizeOf5
  v5 := Tryd.zeroValue5
  t9 := Tryd.underlying9
  a9 := Tryd.isAgg9
  z9 := Tryd.sizeOf9
  v9 := Tryd.zeroValue9
  t21 := Tryd.underlying21
  a21 := Tryd.isAgg21
  z21 := Tryd.sizeOf21
  v21 := Tryd.zeroValue21
  t31 := Tryd.underlying41
  a31 := Tryd.isAgg41
  z31 := Tryd.sizeOf41
  v31 := Tryd.zeroValue41
  t46 := Tryd.underlying94
  a46 := Tryd.isAgg94
  z46 := Tryd.sizeOf94
  v46 := Tryd.zeroValue94
  t51 := Tryd.underlying113
  a51 := Tryd.isAgg113
  z51 := Tryd.sizeOf113
  v51 := Tryd.zeroValue113
  t105 := Tryd.underlying139
  a105 := Tryd.isAgg139
  z105 := Tryd.sizeOf139
  v105 := Tryd.zeroValue139
  t119 := Tryd.underlying150
  a119 := Tryd.isAgg150
  z119 := Tryd.sizeOf150
  t138 := Tryd.underlying152
  a138 := Tryd.isAgg152
  z138 := Tryd.sizeOf152
  v138 := Tryd.zeroValue152
  t139 := Tryd.underlying153
  a139 := Tryd.isAgg153
  z139 := Tryd.sizeOf153
  v139 := Tryd.zeroValue153
  t146 := Tryd.underlying146
  a146 := Tryd.isAgg146
  z146 := Tryd.sizeOf146
  v146 := Tryd.zeroValue146
  g1 := by kernel_rfl
  g3 := by kernel_rfl
  g4 := by kernel_rfl }
open Go.RowKit Go.Lib in
theorem Tryd.strings_genSplit (s sep : ByteArray) (sv : Nat) (n : Int) (N : Nat) (m : Int) (w : World) (hs : s.size < 4294967281) (hm : w.cell? ⟨5, 0, none⟩ = some (.int .i64 m)) (h1 : 1 ≤ sep.size) (hsv : sv ≤ sep.size) (hn0 : n ≠ 0) (hn63 : n ≤ 9223372036854775807) (hN : (N : Int) = min (if n < 0 then (Lib.countB s sep : Int) + 1 else n) ((s.size : Int) + 1)) :
    Calls Tryd.prog 38 #[.string s, .string sep, .int .i64 sv, .int .i64 n] w fun e w' =>
      e = .returned (.slice (some ⟨w.heap.size, 0, none⟩) (Lib.splitB sep sv (N - 1) s).length N) ∧ w' = w.alloc (.cells (Lib.cellsOf (Lib.splitB sep sv (N - 1) s) N) 9) := Any.strings_genSplit Tryd.lays221 (by kernel_rfl) s sep sv n N m w hs hm h1 hsv hn0 hn63 hN
def Tryd.lays146_ren : Go.Shelf.Ren := ⟨fun | 146 => 85 | 221 => 38 | 268 => 58 | 138 => 59 | 143 => 60 | 195 => 76 | 197 => 77 | 218 => 78 | 219 => 61 | 260 => 88 | 217 => 79 | 225 => 80 | 224 => 81 | 267 => 82 | 266 => 89 | 314 => 90 | n => n, fun | 9 => 9 | 31 => 41 | 3 => 3 | 4 => 4 | 0 => 0 | 105 => 139 | 21 => 21 | 5 => 5 | 46 => 94 | 119 => 150 | 139 => 153 | 138 => 152 | 146 => 146 | 51 => 113 | n => n, fun | 1 => 5 | 3 => 6 | 4 => 7 | n => n⟩
theorem Tryd.lays146 : Go.Proofs.Lays.n146 Tryd.prog Tryd.lays146_ren := {
  mixed := by kernel_rfl
  f138 := Tryd.func59.trans (congrArg some (by kernel_rfl))
  f143 := Tryd.func60.trans (congrArg some (by kernel_rfl))
  f146 := Tryd.func85.trans (congrArg some (by kernel_rfl))
  f195 := Tryd.func76.trans (congrArg some (by kernel_rfl))
  f197 := Tryd.func77.trans (congrArg some (by kernel_rfl))
  f217 := Tryd.func79.trans (congrArg some (by kernel_rfl))
  f218 := Tryd.func78.trans (congrArg some (by kernel_rfl))
  f219 := Tryd.func61.trans (congrArg some (by kernel_rfl))
  f221 := Tryd.func38.trans (congrArg some (by kernel_rfl))
  f224 := Tryd.func81.trans (congrArg some (by kernel_rfl))
  f225 := Tryd.func80.trans (congrArg some (by kernel_rfl))
  f260 := Tryd.func88.trans (congrArg some (by kernel_rfl))
  f266 := Tryd.func89.trans (congrArg some (by kernel_rfl))
  f267 := Tryd.func82.trans (congrArg some (by kernel_rfl))
  f268 := Tryd.func58.trans (congrArg some (by kernel_rfl))
  f314 := Tryd.func90.trans (congrArg some (by kernel_rfl))
  t0 := Tryd.underlying0
  a0 := Tryd.isAgg0
  z0 := Tryd.sizeOf0
  v0 := Tryd.zeroValue0
  t3 := Tryd.underlying3
  a3 := Tryd.isAgg3
  z3 := Tryd.sizeOf3
  v3 := Tryd.zeroValue3
  t4 := Tryd.underlying4
  a4 := Tryd.isAgg4
  z4 := Tryd.sizeOf4
  v4 := Tryd.zeroValue4
  t5 := Tryd.underlying5
  a5 := Tryd.isAgg5
  z5 := Tryd.sizeOf5
  v5 := Tryd.zeroValue5
  t9 := Tryd.underlying9
  a9 := Tryd.isAgg9
  z9 := Tryd.sizeOf9
  v9 := Tryd.zeroValue9
  t21 := Tryd.underlying21
  a21 := Tryd.isAgg21
  z21 := Tryd.sizeOf21
  v21 := Tryd.zeroValue21
  t31 := Tryd.underlying41
  a31 := Tryd.isAgg41
  z31 := Tryd.sizeOf41
  v31 := Tryd.zeroValue41
  t46 := Tryd.underlying94
  a46 := Tryd.isAgg94
  z46 := Tryd.sizeOf94
  v46 := Tryd.zeroValue94
  t51 := Tryd.underlying113
  a51 := Tryd.isAgg113
  z51 := Tryd.sizeOf113
  v51 := Tryd.zeroValue113
  t105 := Tryd.underlying139
  a105 := Tryd.isAgg139
  z105 := Tryd.sizeOf139
  v105 := Tryd.zeroValue139
  t119 := Tryd.underlying150
  a119 := Tryd.isAgg150
  z119 := Tryd.sizeOf150
  t138 := Tryd.underlying152
  a138 := Tryd.isAgg152
  z138 := Tryd.sizeOf152
  v138 := Tryd.zeroValue152
  t139 := Tryd.underlying153
  a139 := Tryd.isAgg153
  z139 := Tryd.sizeOf153
  v139 := Tryd.zeroValue153
  t146 := Tryd.underlying146
  a146 := Tryd.isAgg146
  z146 := Tryd.sizeOf146
  v146 := Tryd.zeroValue146
  g1 := by kernel_rfl
  g3 := by kernel_rfl
  g4 := by kernel_rfl }
open Go.RowKit Go.Lib in
/-- strings.Split. (LAID: no walk: one application.) -/
theorem Tryd.strings_Split (s sep : ByteArray) (m : Int) (w : World) (hs : s.size < 4294967281) (hm : w.cell? ⟨5, 0, none⟩ = some (.int .i64 m)) (h1 : 1 ≤ sep.size) :
    Calls Tryd.prog 85 #[.string s, .string sep] w fun e w' =>
      e = .returned (.slice (some ⟨w.heap.size, 0, none⟩) (Lib.countB s sep + 1) (Lib.countB s sep + 1)) ∧ w' = w.alloc (.cells ((Lib.splitB sep 0 (Lib.countB s sep) s).map Value.string).toArray 9) := Any.strings_Split Tryd.lays146 (by kernel_rfl) s sep m w hs hm h1
def Tryd.laysM146_ren : Go.Shelf.Ren := ⟨fun | 146 => 85 | 221 => 38 | 268 => 58 | 138 => 59 | 143 => 60 | 195 => 76 | 197 => 77 | 218 => 78 | 219 => 61 | 260 => 88 | 217 => 79 | 225 => 80 | 224 => 81 | 267 => 82 | 266 => 89 | 314 => 90 | n => n, fun | 9 => 9 | 31 => 41 | 3 => 3 | 4 => 4 | 0 => 0 | 105 => 139 | 21 => 21 | 5 => 5 | 46 => 94 | 119 => 150 | 139 => 153 | 138 => 152 | 146 => 146 | 51 => 113 | n => n, fun | 1 => 5 | 3 => 6 | 4 => 7 | n => n⟩
theorem Tryd.laysM146 : Go.Proofs.LaysM.n146 Tryd.prog Tryd.laysM146_ren := {
  mixed := by kernel_rfl
  f138 := Tryd.func59.trans (congrArg some (by kernel_rfl))
  f143 := Tryd.func60.trans (congrArg some (by kernel_rfl))
  f146 := Tryd.func85.trans (congrArg some (by kernel_rfl))
  f195 := Tryd.func76.trans (congrArg some (by kernel_rfl))
  f197 := Tryd.func77.trans (congrArg some (by kernel_rfl))
  f217 := Tryd.func79.trans (congrArg some (by kernel_rfl))
  f218 := Tryd.func78.trans (congrArg some (by kernel_rfl))
  f219 := Tryd.func61.trans (congrArg some (by kernel_rfl))
  f221 := Tryd.func38.trans (congrArg some (by kernel_rfl))
  f224 := Tryd.func81.trans (congrArg some (by kernel_rfl))
  f225 := Tryd.func80.trans (congrArg some (by kernel_rfl))
  f260 := Tryd.func88.trans (congrArg some (by kernel_rfl))
  f266 := Tryd.func89.trans (congrArg some (by kernel_rfl))
  f267 := Tryd.func82.trans (congrArg some (by kernel_rfl))
  f268 := Tryd.func58.trans (congrArg some (by kernel_rfl))
  f314 := Tryd.func90.trans (congrArg some (by kernel_rfl))
  t0 := Tryd.underlying0
  a0 := Tryd.isAgg0
  z0 := Tryd.sizeOf0
  v0 := Tryd.zeroValue0
  t3 := Tryd.underlying3
  a3 := Tryd.isAgg3
  z3 := Tryd.sizeOf3
  v3 := Tryd.zeroValue3
  t4 := Tryd.underlying4
  a4 := Tryd.isAgg4
  z4 := Tryd.sizeOf4
  v4 := Tryd.zeroValue4
  t5 := Tryd.underlying5
  a5 := Tryd.isAgg5
  z5 := Tryd.sizeOf5
  v5 := Tryd.zeroValue5
  t9 := Tryd.underlying9
  a9 := Tryd.isAgg9
  z9 := Tryd.sizeOf9
  v9 := Tryd.zeroValue9
  t21 := Tryd.underlying21
  a21 := Tryd.isAgg21
  z21 := Tryd.sizeOf21
  v21 := Tryd.zeroValue21
  t31 := Tryd.underlying41
  a31 := Tryd.isAgg41
  z31 := Tryd.sizeOf41
  v31 := Tryd.zeroValue41
  t46 := Tryd.underlying94
  a46 := Tryd.isAgg94
  z46 := Tryd.sizeOf94
  v46 := Tryd.zeroValue94
  t51 := Tryd.underlying113
  a51 := Tryd.isAgg113
  z51 := Tryd.sizeOf113
  v51 := Tryd.zeroValue113
  t105 := Tryd.underlying139
  a105 := Tryd.isAgg139
  z105 := Tryd.sizeOf139
  v105 := Tryd.zeroValue139
  t119 := Tryd.underlying150
  a119 := Tryd.isAgg150
  z119 := Tryd.sizeOf150
  t138 := Tryd.underlying152
  a138 := Tryd.isAgg152
  z138 := Tryd.sizeOf152
  v138 := Tryd.zeroValue152
  t139 := Tryd.underlying153
  a139 := Tryd.isAgg153
  z139 := Tryd.sizeOf153
  v139 := Tryd.zeroValue153
  t146 := Tryd.underlying146
  a146 := Tryd.isAgg146
  z146 := Tryd.sizeOf146
  v146 := Tryd.zeroValue146
  g1 := by kernel_rfl
  g3 := by kernel_rfl
  g4 := by kernel_rfl
  i0 := by kernel_rfl
  i3 := by kernel_rfl
  i4 := by kernel_rfl
  i5 := by kernel_rfl
  i9 := by kernel_rfl
  i21 := by kernel_rfl
  i31 := by kernel_rfl
  i46 := by kernel_rfl
  i51 := by kernel_rfl
  i105 := by kernel_rfl
  i138 := by kernel_rfl
  i139 := by kernel_rfl
  i146 := by kernel_rfl
  m1 := by kernel_rfl
  s1_3 := fun w h => Go.Proofs.cell_of_shapedOpen_int (zero := #[.int .i64 0]) (t := 3) h (of_decide_eq_true (by kernel_rfl)) (by kernel_rfl) rfl (by kernel_rfl) (by kernel_rfl) Tryd.underlying3
  m3 := by kernel_rfl
  m4 := by kernel_rfl }
open Go.RowKit Go.Lib in
/-- strings.Split, sep not empty. (LAID: no walk: one application.) -/
theorem Tryd.strings_Split_shaped (s sep : ByteArray) (w : World) (h : w.ShapedOpen Tryd.prog) (hs : s.size < 4294967281) (h1 : 1 ≤ sep.size) :
    Calls Tryd.prog 85 #[.string s, .string sep] w fun e w' =>
      e = .returned (.slice (some ⟨w.heap.size, 0, none⟩) (Lib.countB s sep + 1) (Lib.countB s sep + 1)) ∧ w' = w.alloc (.cells ((Lib.splitB sep 0 (Lib.countB s sep) s).map Value.string).toArray 9) := Any.strings_Split_shaped Tryd.laysM146 s sep w h hs h1
def Tryd.lays197_ren : Go.Shelf.Ren := ⟨fun | 197 => 77 | 260 => 88 | n => n, fun | 9 => 9 | 21 => 21 | 3 => 3 | 4 => 4 | 5 => 5 | 105 => 139 | 119 => 150 | 0 => 0 | 46 => 94 | 139 => 153 | 138 => 152 | n => n, fun | 3 => 6 | 4 => 7 | n => n⟩
theorem Tryd.lays197 : Go.Proofs.Lays.n197 Tryd.prog Tryd.lays197_ren := {
  mixed := by kernel_rfl
  f197 := Tryd.func77.trans (congrArg some (by kernel_rfl))
  f260 := Tryd.func88.trans (congrArg some (by kernel_rfl))
  t0 := Tryd.underlying0
  a0 := Tryd.isAgg0
  z0 := Tryd.sizeOf0
  v0 := Tryd.zeroValue0
  t3 := Tryd.underlying3
  a3 := Tryd.isAgg3
  z3 := Tryd.sizeOf3
  v3 := Tryd.zeroValue3
  t4 := Tryd.underlying4
  a4 := Tryd.isAgg4
  z4 := Tryd.sizeOf4
  v4 := Tryd.zeroValue4
  t5 := Tryd.underlying5
  a5 := Tryd.isAgg5
  z5 := Tryd.sizeOf5
  v5 := Tryd.zeroValue5
  t9 := Tryd.underlying9
  a9 := Tryd.isAgg9
  z9 := Tryd.sizeOf9
  v9 := Tryd.zeroValue9
  t21 := Tryd.underlying21
  a21 := Tryd.isAgg21
  z21 := Tryd.sizeOf21
  v21 := Tryd.zeroValue21
  t46 := Tryd.underlying94
  a46 := Tryd.isAgg94
  z46 := Tryd.sizeOf94
  v46 := Tryd.zeroValue94
  t105 := Tryd.underlying139
  a105 := Tryd.isAgg139
  z105 := Tryd.sizeOf139
  v105 := Tryd.zeroValue139
  t119 := Tryd.underlying150
  a119 := Tryd.isAgg150
  z119 := Tryd.sizeOf150
  t138 := Tryd.underlying152
  a138 := Tryd.isAgg152
  z138 := Tryd.sizeOf152
  v138 := Tryd.zeroValue152
  t139 := Tryd.underlying153
  a139 := Tryd.isAgg153
  z139 := Tryd.sizeOf153
  v139 := Tryd.zeroValue153
  g3 := by kernel_rfl
  g4 := by kernel_rfl }
open Go.RowKit Go.Lib in
/-- unicode/utf8.DecodeRuneInString: "DecodeRuneInString is like DecodeRune but its input is a string.": ("DecodeRune unpacks the first UTF-8 encoding in p and returns the rune and its width in bytes."): WHERE s BEGINS WITH AN ASCII BYTE x: (x, 1). (LAID: no walk: one application.) -/
theorem Tryd.utf8_DecodeRuneInString_ascii (s : ByteArray) (x : UInt8) (w : World) (h0 : s.data.toList[0]? = some x) (hx : x.toNat < 128) :
    Calls Tryd.prog 77 #[.string s] w fun e w' => e = .returned (.tuple #[.int .i32 x.toNat, .int .i64 1]) ∧ w' = w := Any.utf8_DecodeRuneInString_ascii Tryd.lays197 s x w h0 hx
open Go.RowKit Go.Lib in
theorem Tryd.utf8_RuneCountInString_ascii (s : ByteArray) (w : World) (hs : s.size < 4294967281) (hascii : ∀ (j : Nat) b, s.data.toList[j]? = some b → b.toNat < 128) :
    Calls Tryd.prog 76 #[.string s] w fun e w' => e = .returned (.int .i64 s.size) ∧ w' = w.iter s s.size := Any.utf8_RuneCountInString_ascii Tryd.lays195 s w hs hascii
def Tryd.lays268_ren : Go.Shelf.Ren := ⟨fun | 268 => 58 | 195 => 76 | 197 => 77 | 260 => 88 | n => n, fun | 9 => 9 | 3 => 3 | 31 => 41 | 4 => 4 | 105 => 139 | 21 => 21 | 0 => 0 | 5 => 5 | 119 => 150 | 46 => 94 | 139 => 153 | 138 => 152 | n => n, fun | 3 => 6 | 4 => 7 | n => n⟩
theorem Tryd.lays268 : Go.Proofs.Lays.n268 Tryd.prog Tryd.lays268_ren := {
  mixed := by kernel_rfl
  f195 := Tryd.func76.trans (congrArg some (by kernel_rfl))
  f197 := Tryd.func77.trans (congrArg some (by kernel_rfl))
  f260 := Tryd.func88.trans (congrArg some (by kernel_rfl))
  f268 := Tryd.func58.trans (congrArg some (by kernel_rfl))
  t0 := Tryd.underlying0
  a0 := Tryd.isAgg0
  z0 := Tryd.sizeOf0
  v0 := Tryd.zeroValue0
  t3 := Tryd.underlying3
  a3 := Tryd.isAgg3
  z3 := Tryd.sizeOf3
  v3 := Tryd.zeroValue3
  t4 := Tryd.underlying4
  a4 := Tryd.isAgg4
  z4 := Tryd.sizeOf4
  v4 := Tryd.zeroValue4
  t5 := Tryd.underlying5
  a5 := Tryd.isAgg5
  z5 := Tryd.sizeOf5
  v5 := Tryd.zeroValue5
  t9 := Tryd.underlying9
  a9 := Tryd.isAgg9
  z9 := Tryd.sizeOf9
  v9 := Tryd.zeroValue9
  t21 := Tryd.underlying21
  a21 := Tryd.isAgg21
  z21 := Tryd.sizeOf21
  v21 := Tryd.zeroValue21
  t31 := Tryd.underlying41
  a31 := Tryd.isAgg41
  z31 := Tryd.sizeOf41
  v31 := Tryd.zeroValue41
  t46 := Tryd.underlying94
  a46 := Tryd.isAgg94
  z46 := Tryd.sizeOf94
  v46 := Tryd.zeroValue94
  t105 := Tryd.underlying139
  a105 := Tryd.isAgg139
  z105 := Tryd.sizeOf139
  v105 := Tryd.zeroValue139
  t119 := Tryd.underlying150
  a119 := Tryd.isAgg150
  z119 := Tryd.sizeOf150
  t138 := Tryd.underlying152
  a138 := Tryd.isAgg152
  z138 := Tryd.sizeOf152
  v138 := Tryd.zeroValue152
  t139 := Tryd.underlying153
  a139 := Tryd.isAgg153
  z139 := Tryd.sizeOf153
  v139 := Tryd.zeroValue153
  g3 := by kernel_rfl
  g4 := by kernel_rfl }
open Go.RowKit Go.Lib in
theorem Tryd.strings_explode_all (s : ByteArray) (n : Int) (w : World) (hn : n < 0) (hs : s.size < 4294967281) (hascii : ∀ (j : Nat) b, s.data.toList[j]? = some b → b.toNat < 128) :
    Calls Tryd.prog 58 #[.string s, .int .i64 n] w fun e w' =>
      e = .returned (.slice (some ⟨(w.iter s s.size).heap.size, 0, none⟩) s.size s.size) ∧ w' = (w.iter s s.size).alloc (.cells ((Lib.charsB s).map Value.string).toArray 9) := Any.strings_explode_all Tryd.lays268 (by kernel_rfl) s n w hn hs hascii
open Go.RowKit Go.Lib in
/-- strings.genSplit at sep == "", n < 0: 'return explode(s, n)'. (LAID: no walk: one application.) -/
theorem Tryd.strings_genSplit_chars (s sep : ByteArray) (sv n : Int) (w : World) (h0 : sep.size = 0) (hn : n < 0) (hs : s.size < 4294967281) (hascii : ∀ (j : Nat) b, s.data.toList[j]? = some b → b.toNat < 128) :
    Calls Tryd.prog 38 #[.string s, .string sep, .int .i64 sv, .int .i64 n] w fun e w' =>
      e = .returned (.slice (some ⟨(w.iter s s.size).heap.size, 0, none⟩) s.size s.size) ∧ w' = (w.iter s s.size).alloc (.cells ((Lib.charsB s).map Value.string).toArray 9) := Any.strings_genSplit_chars Tryd.lays221 (by kernel_rfl) s sep sv n w h0 hn hs hascii
open Go.RowKit Go.Lib in
/-- strings.Split(s, ""), s ASCII: a piece a byte. (LAID: no walk: one application.) -/
theorem Tryd.strings_Split_chars (s sep : ByteArray) (w : World) (h0 : sep.size = 0) (hs : s.size < 4294967281) (hascii : ∀ (j : Nat) b, s.data.toList[j]? = some b → b.toNat < 128) :
    Calls Tryd.prog 85 #[.string s, .string sep] w fun e w' =>
      e = .returned (.slice (some ⟨(w.iter s s.size).heap.size, 0, none⟩) s.size s.size) ∧ w' = (w.iter s s.size).alloc (.cells ((Lib.charsB s).map Value.string).toArray 9) := Any.strings_Split_chars Tryd.lays146 (by kernel_rfl) s sep w h0 hs hascii
def Tryd.lays260_ren : Go.Shelf.Ren := ⟨fun | 260 => 88 | n => n, fun | 9 => 9 | 21 => 21 | 3 => 3 | 4 => 4 | 5 => 5 | 119 => 150 | 0 => 0 | 46 => 94 | 139 => 153 | 138 => 152 | n => n, fun | 3 => 6 | 4 => 7 | n => n⟩
theorem Tryd.lays260 : Go.Proofs.Lays.n260 Tryd.prog Tryd.lays260_ren := {
  mixed := by kernel_rfl
  f260 := Tryd.func88.trans (congrArg some (by kernel_rfl))
  t0 := Tryd.underlying0
  a0 := Tryd.isAgg0
  z0 := Tryd.sizeOf0
  v0 := Tryd.zeroValue0
  t3 := Tryd.underlying3
  a3 := Tryd.isAgg3
  z3 := Tryd.sizeOf3
  v3 := Tryd.zeroValue3
  t4 := Tryd.underlying4
  a4 := Tryd.isAgg4
  z4 := Tryd.sizeOf4
  v4 := Tryd.zeroValue4
  t5 := Tryd.underlying5
  a5 := Tryd.isAgg5
  z5 := Tryd.sizeOf5
  v5 := Tryd.zeroValue5
  t9 := Tryd.underlying9
  a9 := Tryd.isAgg9
  z9 := Tryd.sizeOf9
  v9 := Tryd.zeroValue9
  t21 := Tryd.underlying21
  a21 := Tryd.isAgg21
  z21 := Tryd.sizeOf21
  v21 := Tryd.zeroValue21
  t46 := Tryd.underlying94
  a46 := Tryd.isAgg94
  z46 := Tryd.sizeOf94
  v46 := Tryd.zeroValue94
  t119 := Tryd.underlying150
  a119 := Tryd.isAgg150
  z119 := Tryd.sizeOf150
  t138 := Tryd.underlying152
  a138 := Tryd.isAgg152
  z138 := Tryd.sizeOf152
  v138 := Tryd.zeroValue152
  t139 := Tryd.underlying153
  a139 := Tryd.isAgg153
  z139 := Tryd.sizeOf153
  v139 := Tryd.zeroValue153
  g3 := by kernel_rfl
  g4 := by kernel_rfl }
open Go.RowKit Go.Lib in
theorem Tryd.utf8_decodeRuneInStringSlow (s : ByteArray) (w : World) (hT : Lib.Utf8Tabs 6 7 w) :
    Calls Tryd.prog 88 #[.string s] w fun e w' => e = .returned (.tuple #[.int .i32 (Lib.decodeGo s).1, .int .i64 (Lib.decodeGo s).2]) ∧ Below w.heap.size w w' := Any.utf8_decodeRuneInStringSlow Tryd.lays260 s w hT
open Go.RowKit Go.Lib in
/-- **unicode/utf8.DecodeRuneInString AT EVERY STRING.** (LAID: no walk: one application.) -/
theorem Tryd.utf8_DecodeRuneInString (s : ByteArray) (w : World) (hT : Lib.Utf8Tabs 6 7 w) :
    Calls Tryd.prog 77 #[.string s] w fun e w' => e = .returned (.tuple #[.int .i32 (Lib.decodeGo s).1, .int .i64 (Lib.decodeGo s).2]) ∧ Below w.heap.size w w' := Any.utf8_DecodeRuneInString Tryd.lays197 s w hT
def Tryd.lays108_ren : Go.Shelf.Ren := ⟨fun | 108 => 32 | n => n, fun | 28 => 25 | 3 => 3 | 0 => 0 | 4 => 4 | n => n, fun | n => n⟩
theorem Tryd.lays108 : Go.Proofs.Lays.n108 Tryd.prog Tryd.lays108_ren := {
  mixed := by kernel_rfl
  f108 := Tryd.func32.trans (congrArg some (by kernel_rfl))
  t0 := Tryd.underlying0
  a0 := Tryd.isAgg0
  z0 := Tryd.sizeOf0
  v0 := Tryd.zeroValue0
  t3 := Tryd.underlying3
  a3 := Tryd.isAgg3
  z3 := Tryd.sizeOf3
  v3 := Tryd.zeroValue3
  t4 := Tryd.underlying4
  a4 := Tryd.isAgg4
  z4 := Tryd.sizeOf4
  v4 := Tryd.zeroValue4
  t28 := Tryd.underlying25
  a28 := Tryd.isAgg25
  z28 := Tryd.sizeOf25
  v28 := Tryd.zeroValue25 }
open Go.Lib in
/-- slices.Index at []int: "Index returns the index of the first occurrence of v in s, or -1 if not present.": IT RETURNS 'Lib.idxOf (the elements) v'; the world is as it was. 'zs': what the cells behind the slice's address hold (its spare capacity too, if you have it); 'zs.take n': its elements. (LAID: no walk: one application.) -/
theorem Tryd.slices_Index_int (b off n c : Nat) (zs : List Int) (x : Int) (w : World) (hz : n ≤ zs.length) (hbig : n ≤ 9223372036854775807) (hc : ∀ j, j < zs.length → w.cell? ⟨b, off + j, none⟩ = some (.int .i64 (zs.getD j 0))) :
    Calls Tryd.prog 32 #[.slice (some ⟨b, off, none⟩) n c, .int .i64 x] w fun e w' => e = .returned (.int .i64 (Lib.idxOf (zs.take n) x)) ∧ w' = w := Any.slices_Index_int Tryd.lays108 b off n c zs x w hz hbig hc
open Go.Lib in
/-- The same at a slice of length 0, a nil one too: no cell is known, none is asked for. (LAID: no walk: one application.) -/
theorem Tryd.slices_Index_int_empty (a : Option Addr) (c : Nat) (x : Int) (w : World) :
    Calls Tryd.prog 32 #[.slice a 0 c, .int .i64 x] w fun e w' => e = .returned (.int .i64 (Lib.idxOf [] x)) ∧ w' = w := Any.slices_Index_int_empty Tryd.lays108 a c x w
def Tryd.lays107_ren : Go.Shelf.Ren := ⟨fun | 107 => 16 | 108 => 32 | n => n, fun | 28 => 25 | 3 => 3 | 4 => 4 | 0 => 0 | n => n, fun | n => n⟩
theorem Tryd.lays107 : Go.Proofs.Lays.n107 Tryd.prog Tryd.lays107_ren := {
  mixed := by kernel_rfl
  f107 := Tryd.func16.trans (congrArg some (by kernel_rfl))
  f108 := Tryd.func32.trans (congrArg some (by kernel_rfl))
  t0 := Tryd.underlying0
  a0 := Tryd.isAgg0
  z0 := Tryd.sizeOf0
  v0 := Tryd.zeroValue0
  t3 := Tryd.underlying3
  a3 := Tryd.isAgg3
  z3 := Tryd.sizeOf3
  v3 := Tryd.zeroValue3
  t4 := Tryd.underlying4
  a4 := Tryd.isAgg4
  z4 := Tryd.sizeOf4
  v4 := Tryd.zeroValue4
  t28 := Tryd.underlying25
  a28 := Tryd.isAgg25
  z28 := Tryd.sizeOf25
  v28 := Tryd.zeroValue25 }
open Go.Lib in
/-- slices.Contains at []int: "Contains reports whether v is present in s.": IT RETURNS 'elements.contains v'; the world is as it was. ITS CALLEE slices.Index IS MET BY ITS OWN CONTRACT OFF THE SHELF (lay that first): no loop is walked here. (LAID: no walk: one application.) -/
theorem Tryd.slices_Contains_int (b off n c : Nat) (zs : List Int) (x : Int) (w : World) (hz : n ≤ zs.length) (hbig : n ≤ 9223372036854775807) (hc : ∀ j, j < zs.length → w.cell? ⟨b, off + j, none⟩ = some (.int .i64 (zs.getD j 0))) :
    Calls Tryd.prog 16 #[.slice (some ⟨b, off, none⟩) n c, .int .i64 x] w fun e w' => e = .returned (.bool ((zs.take n).contains x)) ∧ w' = w := Any.slices_Contains_int Tryd.lays107 b off n c zs x w hz hbig hc
open Go.Lib in
/-- The same at a slice of length 0, a nil one too. (LAID: no walk: one application.) -/
theorem Tryd.slices_Contains_int_empty (a : Option Addr) (c : Nat) (x : Int) (w : World) :
    Calls Tryd.prog 16 #[.slice a 0 c, .int .i64 x] w fun e w' => e = .returned (.bool false) ∧ w' = w := Any.slices_Contains_int_empty Tryd.lays107 a c x w
open Go.RowKit Go.Sort in
/-- .. and plain. (LAID: no walk: one application.) -/
theorem Tryd.slices_Sort_string_none (p : Option Addr) (cap : Nat) (w : World) :
    Calls Tryd.prog 23 #[.slice p 0 cap] w fun e w' => e = .returned (.tuple #[]) ∧ w' = w := Any.slices_Sort_string_none Tryd.lays190 p cap w
def Tryd.keys11_ren : Go.Shelf.Ren := ⟨fun | 7 => 11 | 10 => 24 | n => n, fun | 23 => 46 | 26 => 9 | 3 => 48 | 28 => 44 | 0 => 0 | 27 => 43 | 33 => 70 | 4 => 4 | n => n, fun | n => n⟩
theorem Tryd.keys11 : Go.Proofs.SlLaysZ.n7 Tryd.prog Tryd.keys11_ren := {
  mixed := by kernel_rfl
  f7 := ⟨Tryd.f11.name, by decide, Tryd.func11.trans (congrArg some (by kernel_rfl))⟩
  f10 := ⟨Tryd.f24.name, by decide, Tryd.func24.trans (congrArg some (by kernel_rfl))⟩
  t0 := Tryd.underlying0
  a0 := Tryd.isAgg0
  z0 := Tryd.sizeOf0
  v0 := Tryd.zeroValue0
  t4 := Tryd.underlying4
  a4 := Tryd.isAgg4
  z4 := Tryd.sizeOf4
  v4 := Tryd.zeroValue4
  t23 := Tryd.underlying46
  a23 := Tryd.isAgg46
  z23 := Tryd.sizeOf46
  v23 := Tryd.zeroValue46
  t26 := Tryd.underlying9
  a26 := Tryd.isAgg9
  z26 := Tryd.sizeOf9
  v26 := Tryd.zeroValue9
  t27 := Tryd.underlying43
  a27 := Tryd.isAgg43
  z27 := Tryd.sizeOf43
  v27 := Tryd.zeroValue43
  t28 := Tryd.underlying44
  a28 := Tryd.isAgg44
  z28 := Tryd.sizeOf44
  v28 := Tryd.zeroValue44
  t33 := Tryd.underlying70
  a33 := Tryd.isAgg70
  z33 := Tryd.sizeOf70
  v33 := Tryd.zeroValue70 }
def Tryd.sorted10_ren : Go.Shelf.Ren := ⟨fun | 6 => 10 | 8 => 22 | 9 => 23 | 11 => 35 | 13 => 37 | 12 => 36 | 23 => 56 | 24 => 57 | 14 => 47 | 15 => 48 | 16 => 49 | 17 => 50 | 18 => 51 | 19 => 52 | 20 => 53 | 21 => 54 | 22 => 55 | 25 => 70 | 26 => 71 | 27 => 72 | 28 => 73 | 29 => 74 | 30 => 75 | 31 => 87 | n => n, fun | 26 => 9 | 28 => 44 | 24 => 41 | 0 => 0 | 3 => 3 | 37 => 94 | 48 => 113 | 50 => 115 | 4 => 4 | 40 => 106 | 39 => 105 | 45 => 65 | 5 => 5 | 9 => 9 | 51 => 132 | 55 => 136 | 57 => 143 | 58 => 144 | 33 => 70 | n => n, fun | n => n⟩
theorem Tryd.sorted10 : Go.Proofs.SlLaysZ.n6 Tryd.prog Tryd.sorted10_ren := {
  mixed := by kernel_rfl
  f6 := ⟨Tryd.f10.name, by decide, Tryd.func10.trans (congrArg some (by kernel_rfl))⟩
  f8 := ⟨Tryd.f22.name, by decide, Tryd.func22.trans (congrArg some (by kernel_rfl))⟩
  f11 := ⟨Tryd.f35.name, by decide, Tryd.func35.trans (congrArg some (by kernel_rfl))⟩
  t0 := Tryd.underlying0
  a0 := Tryd.isAgg0
  z0 := Tryd.sizeOf0
  v0 := Tryd.zeroValue0
  t24 := Tryd.underlying41
  a24 := Tryd.isAgg41
  z24 := Tryd.sizeOf41
  v24 := Tryd.zeroValue41
  t26 := Tryd.underlying9
  a26 := Tryd.isAgg9
  z26 := Tryd.sizeOf9
  v26 := Tryd.zeroValue9
  t28 := Tryd.underlying44
  a28 := Tryd.isAgg44
  z28 := Tryd.sizeOf44
  v28 := Tryd.zeroValue44
  i26 := by kernel_rfl }
def Tryd.sort23_ren : Go.Shelf.Ren := ⟨fun | 6 => 23 | 8 => 37 | 9 => 36 | 19 => 56 | 20 => 57 | 21 => 47 | 22 => 48 | 23 => 49 | 24 => 50 | 25 => 51 | 26 => 52 | 27 => 53 | 28 => 54 | 29 => 55 | 36 => 70 | 31 => 71 | 32 => 72 | 37 => 73 | 38 => 74 | 39 => 75 | 41 => 87 | n => n, fun | 27 => 41 | 29 => 9 | 3 => 3 | 32 => 94 | 26 => 41 | 0 => 0 | 44 => 113 | 46 => 115 | 4 => 4 | 36 => 106 | 35 => 105 | 41 => 65 | 5 => 5 | 9 => 9 | 53 => 132 | 57 => 136 | 63 => 143 | 64 => 144 | n => n, fun | n => n⟩
theorem Tryd.sort23 : Go.Proofs.SlLaysM.n6 Tryd.prog Tryd.sort23_ren := {
  mixed := by kernel_rfl
  f6 := ⟨Tryd.f23.name, by decide, Tryd.func23.trans (congrArg some (by kernel_rfl))⟩
  f8 := Tryd.func37.trans (congrArg some (by kernel_rfl))
  f9 := ⟨Tryd.f36.name, by decide, Tryd.func36.trans (congrArg some (by kernel_rfl))⟩
  f19 := Tryd.func56.trans (congrArg some (by kernel_rfl))
  f20 := Tryd.func57.trans (congrArg some (by kernel_rfl))
  f21 := ⟨Tryd.f47.name, by decide, Tryd.func47.trans (congrArg some (by kernel_rfl))⟩
  f22 := ⟨Tryd.f48.name, by decide, Tryd.func48.trans (congrArg some (by kernel_rfl))⟩
  f23 := ⟨Tryd.f49.name, by decide, Tryd.func49.trans (congrArg some (by kernel_rfl))⟩
  f24 := ⟨Tryd.f50.name, by decide, Tryd.func50.trans (congrArg some (by kernel_rfl))⟩
  f25 := ⟨Tryd.f51.name, by decide, Tryd.func51.trans (congrArg some (by kernel_rfl))⟩
  f26 := ⟨Tryd.f52.name, by decide, Tryd.func52.trans (congrArg some (by kernel_rfl))⟩
  f27 := ⟨Tryd.f53.name, by decide, Tryd.func53.trans (congrArg some (by kernel_rfl))⟩
  f28 := ⟨Tryd.f54.name, by decide, Tryd.func54.trans (congrArg some (by kernel_rfl))⟩
  f29 := ⟨Tryd.f55.name, by decide, Tryd.func55.trans (congrArg some (by kernel_rfl))⟩
  f31 := Tryd.func71.trans (congrArg some (by kernel_rfl))
  f32 := Tryd.func72.trans (congrArg some (by kernel_rfl))
  f36 := ⟨Tryd.f70.name, by decide, Tryd.func70.trans (congrArg some (by kernel_rfl))⟩
  f37 := ⟨Tryd.f73.name, by decide, Tryd.func73.trans (congrArg some (by kernel_rfl))⟩
  f38 := ⟨Tryd.f74.name, by decide, Tryd.func74.trans (congrArg some (by kernel_rfl))⟩
  f39 := ⟨Tryd.f75.name, by decide, Tryd.func75.trans (congrArg some (by kernel_rfl))⟩
  f41 := ⟨Tryd.f87.name, by decide, Tryd.func87.trans (congrArg some (by kernel_rfl))⟩
  t0 := Tryd.underlying0
  a0 := Tryd.isAgg0
  z0 := Tryd.sizeOf0
  v0 := Tryd.zeroValue0
  t3 := Tryd.underlying3
  a3 := Tryd.isAgg3
  z3 := Tryd.sizeOf3
  v3 := Tryd.zeroValue3
  t4 := Tryd.underlying4
  a4 := Tryd.isAgg4
  z4 := Tryd.sizeOf4
  v4 := Tryd.zeroValue4
  t5 := Tryd.underlying5
  a5 := Tryd.isAgg5
  z5 := Tryd.sizeOf5
  v5 := Tryd.zeroValue5
  t9 := Tryd.underlying9
  a9 := Tryd.isAgg9
  z9 := Tryd.sizeOf9
  v9 := Tryd.zeroValue9
  t26 := Tryd.underlying41
  a26 := Tryd.isAgg41
  z26 := Tryd.sizeOf41
  v26 := Tryd.zeroValue41
  t27 := Tryd.underlying41
  a27 := Tryd.isAgg41
  z27 := Tryd.sizeOf41
  v27 := Tryd.zeroValue41
  t29 := Tryd.underlying9
  a29 := Tryd.isAgg9
  z29 := Tryd.sizeOf9
  v29 := Tryd.zeroValue9
  t32 := Tryd.underlying94
  a32 := Tryd.isAgg94
  z32 := Tryd.sizeOf94
  v32 := Tryd.zeroValue94
  t35 := Tryd.underlying105
  a35 := Tryd.isAgg105
  z35 := Tryd.sizeOf105
  v35 := Tryd.zeroValue105
  t36 := Tryd.underlying106
  a36 := Tryd.isAgg106
  z36 := Tryd.sizeOf106
  v36 := Tryd.zeroValue106
  t41 := Tryd.underlying65
  a41 := Tryd.isAgg65
  z41 := Tryd.sizeOf65
  v41 := Tryd.zeroValue65
  t44 := Tryd.underlying113
  a44 := Tryd.isAgg113
  z44 := Tryd.sizeOf113
  v44 := Tryd.zeroValue113
  t46 := Tryd.underlying115
  a46 := Tryd.isAgg115
  z46 := Tryd.sizeOf115
  v46 := Tryd.zeroValue115
  t53 := Tryd.underlying132
  a53 := Tryd.isAgg132
  z53 := Tryd.sizeOf132
  v53 := Tryd.zeroValue132
  t57 := Tryd.underlying136
  a57 := Tryd.isAgg136
  z57 := Tryd.sizeOf136
  v57 := Tryd.zeroValue136
  t63 := Tryd.underlying143
  a63 := Tryd.isAgg143
  z63 := Tryd.sizeOf143
  v63 := Tryd.zeroValue143
  t64 := Tryd.underlying144
  a64 := Tryd.isAgg144
  z64 := Tryd.sizeOf144
  v64 := Tryd.zeroValue144 }
end Go.Proofs

namespace Go.Proofs
open Go.RowKit Go.Maps Go.Sort Go.Shelf


/-- slices.Sort's two contracts at this dump, at the fence that asks nothing. -/
theorem Tryd.sorts10 (m : Nat) : AnyZ.SortsIn Tryd.prog Tryd.sorted10_ren Fence.wide m :=
  ⟨fun blk off cap ss W hH hblk hsz => callsIn_wide.2 (AnyM.slices_Sort_string Tryd.sort23 blk off cap ss W hH hblk hsz),
   fun p cap W => callsIn_wide.2 (AnyM.slices_Sort_string_none Tryd.sort23 p cap W)⟩

/-- **maps.Keys[map[string]pintle/pattern.row,string,pintle/pattern.row], at whatever map, the nil one too:** a function value over ONE NEW BLOCK, which holds the map. -/
theorem Tryd.maps_Keys_11 (mb : Option Nat) (W : World) : CallsIn Fence.wide 5 Tryd.prog 11 #[.map mb] W fun e w' => e = .returned (.func (.func 24) #[] #[.pointer (some ⟨W.heap.size, 0, none⟩)]) ∧ w' = W.alloc (.cells #[.map mb] 46) :=
  AnyZ.keys_in Tryd.keys11 Fence.wide 5 trivial rfl mb W

set_option maxHeartbeats 1000000 in
/-- **slices.Sorted[string] AT WHAT maps.Keys[map[string]pintle/pattern.row,string,pintle/pattern.row] HANDED BACK FOR A MAP THAT IS NOT nil** ('w': the world AHEAD of maps.Keys' call): A NEW SLICE THAT HOLDS THE MAP's KEYS, SORTED; nil just where it has none; nothing that lay before has turned. -/
theorem Tryd.slices_Sorted_keys_10_11 {H : Type} (b nn : Nat) (D0 : DataW H) (R : Value → Option (DataW H × List MemPlace)) (w : World) (hown : w.ownsMap Tryd.prog 9 R b nn D0) (hmax : Maps.size D0 ≤ maxLen) (hbytes : Maps.size D0 * 16 ≤ 140737488355328) :
    CallsIn Fence.wide 5 Tryd.prog 10 #[.func (.func 24) #[] #[.pointer (some ⟨w.heap.size, 0, none⟩)]] (w.alloc (.cells #[.map (some b)] 46)) fun e w' => ∃ (v : Value) (ss : List (List UInt8)), e = .returned v ∧ ss.Perm (strKeys D0) ∧
      w'.ownsRow (w.alloc (.cells #[.map (some b)] 46)).heap.size 9 1 v ss.length ((ss.mergeSort (fun x y => decide (x ≤ y))).map encStr) ∧ (v = .slice none 0 0 ↔ ss = []) ∧ Below (w.alloc (.cells #[.map (some b)] 46)).heap.size (w.alloc (.cells #[.map (some b)] 46)) w' := by
  have hbl := hown.lt
  have hseq : SeqGives Fence.wide 2 Tryd.prog 24 #[.pointer (some ⟨w.heap.size, 0, none⟩)] encStr (fun ss => ss.Perm (strKeys D0)) (Maps.size D0) (w.alloc (.cells #[.map (some b)] 46)) :=
    AnyZ.keys_gives (ρ := Tryd.keys11_ren) { Tryd.keys11 with } Fence.wide _ trivial rfl (by omega) w.heap.size b nn D0 _ (by simp) (by simp) (by
      obtain ⟨es, clock, hb, Ft, hs, hD⟩ := hown
      exact ⟨es, clock, (Below.heap_alloc _ _ b hbl).trans hb, Ft, hs, hD⟩)
  exact AnyZ.sorted_in Tryd.sorted10 Fence.wide 5 trivial trivial trivial trivial rfl (by omega) (Tryd.sorts10 _) (enters_of Tryd.func23 (by kernel_rfl) rfl) 24 #[.pointer (some ⟨w.heap.size, 0, none⟩)] trivial (enters_of Tryd.func24 (by kernel_rfl) rfl) _ _ hmax hbytes _ hseq

set_option maxHeartbeats 1000000 in
/-- **.. AND FOR THE nil MAP: nil.** -/
theorem Tryd.slices_Sorted_keys_nil_10_11 (w : World) :
    CallsIn Fence.wide 5 Tryd.prog 10 #[.func (.func 24) #[] #[.pointer (some ⟨w.heap.size, 0, none⟩)]] (w.alloc (.cells #[.map none] 46)) fun e w' => ∃ (v : Value) (ss : List (List UInt8)), e = .returned v ∧ ss = [] ∧
      w'.ownsRow (w.alloc (.cells #[.map none] 46)).heap.size 9 1 v ss.length ((ss.mergeSort (fun x y => decide (x ≤ y))).map encStr) ∧ (v = .slice none 0 0 ↔ ss = []) ∧ Below (w.alloc (.cells #[.map none] 46)).heap.size (w.alloc (.cells #[.map none] 46)) w' := by
  have hseq : SeqGives Fence.wide 2 Tryd.prog 24 #[.pointer (some ⟨w.heap.size, 0, none⟩)] encStr (fun ss : List (List UInt8) => ss = []) 0 (w.alloc (.cells #[.map none] 46)) :=
    AnyZ.keys_gives_nil (ρ := Tryd.keys11_ren) { Tryd.keys11 with } Fence.wide _ trivial rfl w.heap.size _ (by simp) (by simp)
  exact AnyZ.sorted_in Tryd.sorted10 Fence.wide 5 trivial trivial trivial trivial rfl (by omega) (Tryd.sorts10 _) (enters_of Tryd.func23 (by kernel_rfl) rfl) 24 #[.pointer (some ⟨w.heap.size, 0, none⟩)] trivial (enters_of Tryd.func24 (by kernel_rfl) rfl) _ 0 (Nat.zero_le _) (by omega) _ hseq



end Go.Proofs

namespace Go.Proofs.YtbcjeemjpcidhaaDoor
open Go.RowKit

abbrev iv' (z : Int) : Value := .int .i64 z
def wordsV : Array Value := #[.string ⟨#[]⟩, .string ⟨#[101]⟩, .string ⟨#[115]⟩, .string ⟨#[101, 101]⟩, .string ⟨#[101, 115]⟩, .string ⟨#[115, 101]⟩, .string ⟨#[115, 115]⟩, .string ⟨#[112, 115, 107]⟩]
theorem words_any (w : World) : Calls Tryd.prog 92 #[] w fun e w' => e = .returned (.agg wordsV) ∧ Kp w w' := by
  go_enter Tryd.func92, Tryd.ntmps92
  go_wp2_with fail
  refine bodyPost_ret (v := .agg wordsV) (by simp [results, Tryd.results92, go_sem, wordsV]) rfl ⟨rfl, Kp.new _ _⟩

/-- What a reader gives up with. -/
def badE : Ending := .panicked [{ v := .iface 119 (.agg #[]), recovered := false }]
theorem ask_true (w : World) : Calls Tryd.prog 66 #[.bool true] w fun e w' => e = .returned (.tuple #[]) ∧ w = w' := by
  go_enter Tryd.func66, Tryd.ntmps66
  go_wp2_with fail
  go_end0
  exact ⟨rfl, rfl⟩
theorem ask_false (w : World) : Calls Tryd.prog 66 #[.bool false] w fun e w' => e = badE ∧ w = w' := by
  go_enter Tryd.func66, Tryd.ntmps66
  go_wp2_with fail
  exact ⟨rfl, rfl, rfl⟩

/-- What reading a word leaves. -/
def TokPost (w : World) (l : Q.Bt) (e : Ending) (w' : World) : Prop := (match Q.wordT l with | some t => e = .returned (iv' t) | none => e = badE) ∧ Kp w w'
def Nots (l : Q.Bt) (k : Nat) : Prop := ∀ j : Nat, 1 ≤ j → j < k → Q.tokW (j : Int) ≠ l
theorem nots_step {l : Q.Bt} {k : Nat} (h : Nots l k) (hk : Q.tokW (k : Int) ≠ l) : Nots l (k + 1) := fun j h1 h2 => by
  rcases Nat.lt_or_ge j k with q | q
  · exact h j h1 q
  · obtain rfl : j = k := by omega
    exact hk
theorem nots_none {l : Q.Bt} (h : Nots l 8) : Q.wordT l = none := by
  cases hq : Q.wordT l with
  | none => rfl
  | some t =>
    obtain ⟨a, b, c⟩ := Q.wordT_some hq
    exact absurd (by rw [show ((t.toNat : Nat) : Int) = t by omega]; exact a) (h t.toNat (by omega) (by omega))

set_option maxHeartbeats 4000000 in
theorem token_any (s : ByteArray) (w : World) : Calls Tryd.prog 86 #[.string s] w (TokPost w s.data.toList) := by
  go_enter Tryd.func86, Tryd.ntmps86
  go_wp2_with fail
  (with_reducible refine (words_any w).mono ?_)
  rintro e w1 ⟨rfl, hk1⟩
  have Hk := Lib.hid (Kp.trans hk1 (Kp.new w1 (.cells wordsV 148)))
  unfold wordsV at Hk ⊢
  clear hk1
  go_wp2_with fail
  go_loopw [4] (fun i wr => ∃ k : Nat, 1 ≤ k ∧ k ≤ 8 ∧ i = .int .i64 (k : Nat) ∧ w1.alloc (.cells #[.string ⟨#[]⟩, .string ⟨#[101]⟩, .string ⟨#[115]⟩, .string ⟨#[101, 101]⟩, .string ⟨#[101, 115]⟩, .string ⟨#[115, 101]⟩, .string ⟨#[115, 115]⟩, .string ⟨#[112, 115, 107]⟩] 148) = wr ∧ Nots s.data.toList k) (fun i _ => 8 - (intOf i).toNat)
  case atStart => exact ⟨1, by omega, by omega, rfl, rfl, fun j h1 h2 => by omega⟩
  case round =>
    obtain ⟨k, hk1, hk8, rfl, rfl, hn⟩ := hrel
    have Hn := Lib.hid hn
    clear hn
    rcases (show k = 1 ∨ k = 2 ∨ k = 3 ∨ k = 4 ∨ k = 5 ∨ k = 6 ∨ k = 7 ∨ k = 8 by omega) with rfl | rfl | rfl | rfl | rfl | rfl | rfl | rfl
    · cases hq : ([101] == s.toList) with
      | true =>
        have Hy := Lib.hid (show TokPost w s.data.toList (.returned (iv' 1)) _ from ⟨by rw [← Lib.toList_data, ← beq_iff_eq.1 hq]; rfl, Hk.out⟩)
        go_wp2_with fail
        go_ret
        exact Hy.out
      | false =>
        have Hy := Lib.hid (nots_step (k := 1) Hn.out (fun e => by rw [← Lib.toList_data] at e; rw [← e] at hq; revert hq; decide))
        go_wp2_with fail
        go_roundw
        case rel => exact ⟨2, by omega, by omega, by go_num, trivial, Hy.out⟩
        case measure => simp [intOf]
    · cases hq : ([115] == s.toList) with
      | true =>
        have Hy := Lib.hid (show TokPost w s.data.toList (.returned (iv' 2)) _ from ⟨by rw [← Lib.toList_data, ← beq_iff_eq.1 hq]; rfl, Hk.out⟩)
        go_wp2_with fail
        go_ret
        exact Hy.out
      | false =>
        have Hy := Lib.hid (nots_step (k := 2) Hn.out (fun e => by rw [← Lib.toList_data] at e; rw [← e] at hq; revert hq; decide))
        go_wp2_with fail
        go_roundw
        case rel => exact ⟨3, by omega, by omega, by go_num, trivial, Hy.out⟩
        case measure => simp [intOf]
    · cases hq : ([101, 101] == s.toList) with
      | true =>
        have Hy := Lib.hid (show TokPost w s.data.toList (.returned (iv' 3)) _ from ⟨by rw [← Lib.toList_data, ← beq_iff_eq.1 hq]; rfl, Hk.out⟩)
        go_wp2_with fail
        go_ret
        exact Hy.out
      | false =>
        have Hy := Lib.hid (nots_step (k := 3) Hn.out (fun e => by rw [← Lib.toList_data] at e; rw [← e] at hq; revert hq; decide))
        go_wp2_with fail
        go_roundw
        case rel => exact ⟨4, by omega, by omega, by go_num, trivial, Hy.out⟩
        case measure => simp [intOf]
    · cases hq : ([101, 115] == s.toList) with
      | true =>
        have Hy := Lib.hid (show TokPost w s.data.toList (.returned (iv' 4)) _ from ⟨by rw [← Lib.toList_data, ← beq_iff_eq.1 hq]; rfl, Hk.out⟩)
        go_wp2_with fail
        go_ret
        exact Hy.out
      | false =>
        have Hy := Lib.hid (nots_step (k := 4) Hn.out (fun e => by rw [← Lib.toList_data] at e; rw [← e] at hq; revert hq; decide))
        go_wp2_with fail
        go_roundw
        case rel => exact ⟨5, by omega, by omega, by go_num, trivial, Hy.out⟩
        case measure => simp [intOf]
    · cases hq : ([115, 101] == s.toList) with
      | true =>
        have Hy := Lib.hid (show TokPost w s.data.toList (.returned (iv' 5)) _ from ⟨by rw [← Lib.toList_data, ← beq_iff_eq.1 hq]; rfl, Hk.out⟩)
        go_wp2_with fail
        go_ret
        exact Hy.out
      | false =>
        have Hy := Lib.hid (nots_step (k := 5) Hn.out (fun e => by rw [← Lib.toList_data] at e; rw [← e] at hq; revert hq; decide))
        go_wp2_with fail
        go_roundw
        case rel => exact ⟨6, by omega, by omega, by go_num, trivial, Hy.out⟩
        case measure => simp [intOf]
    · cases hq : ([115, 115] == s.toList) with
      | true =>
        have Hy := Lib.hid (show TokPost w s.data.toList (.returned (iv' 6)) _ from ⟨by rw [← Lib.toList_data, ← beq_iff_eq.1 hq]; rfl, Hk.out⟩)
        go_wp2_with fail
        go_ret
        exact Hy.out
      | false =>
        have Hy := Lib.hid (nots_step (k := 6) Hn.out (fun e => by rw [← Lib.toList_data] at e; rw [← e] at hq; revert hq; decide))
        go_wp2_with fail
        go_roundw
        case rel => exact ⟨7, by omega, by omega, by go_num, trivial, Hy.out⟩
        case measure => simp [intOf]
    · cases hq : ([112, 115, 107] == s.toList) with
      | true =>
        have Hy := Lib.hid (show TokPost w s.data.toList (.returned (iv' 7)) _ from ⟨by rw [← Lib.toList_data, ← beq_iff_eq.1 hq]; rfl, Hk.out⟩)
        go_wp2_with fail
        go_ret
        exact Hy.out
      | false =>
        have Hy := Lib.hid (nots_step (k := 7) Hn.out (fun e => by rw [← Lib.toList_data] at e; rw [← e] at hq; revert hq; decide))
        go_wp2_with fail
        go_roundw
        case rel => exact ⟨8, by omega, by omega, by go_num, trivial, Hy.out⟩
        case measure => simp [intOf]
    · have Hy := Lib.hid (show TokPost w s.data.toList badE _ from ⟨by rw [nots_none Hn.out], Hk.out⟩)
      go_wp2_with fail
      exact ⟨rfl, Hy.out⟩

/-- A byte that may stand in a name, as the walk meets it. -/
theorem nameC_eq (c : UInt8) : Q.nameC c = ((decide (65 ≤ (c.toNat : Int)) && decide ((c.toNat : Int) ≤ 90)) || (decide (97 ≤ (c.toNat : Int)) && decide ((c.toNat : Int) ≤ 122)) || (decide (48 ≤ (c.toNat : Int)) && decide ((c.toNat : Int) ≤ 57)) || decide ((c.toNat : Int) = 43)) := by
  unfold Q.nameC
  rw [Bool.eq_iff_iff]
  simp only [Bool.or_eq_true, Bool.and_eq_true, decide_eq_true_eq, beq_iff_eq, UInt8.le_iff_toNat_le, ← UInt8.toNat_inj]
  simp
  omega
theorem all_nameC {s : ByteArray} (h : ∀ j (h : j < s.size), Q.nameC (s[j]) = true) : s.data.toList.all Q.nameC = true := by
  rw [List.all_eq_true]
  intro x hx
  obtain ⟨j, hj, rfl⟩ := List.getElem_of_mem hx
  have := h j (by simpa using hj)
  rw [Array.getElem_toList]; exact this
theorem not_all_nameC {s : ByteArray} {k : Nat} (hk : k < s.size) (h : Q.nameC (s[k]) = false) : s.data.toList.all Q.nameC = false := by
  rw [List.all_eq_false]
  exact ⟨s.data.toList[k]'(by simpa using hk), List.getElem_mem _, by rw [Array.getElem_toList, Bool.not_eq_true]; exact h⟩
set_option maxHeartbeats 4000000 in
theorem named_any (s : ByteArray) (w : World) (hs : s.size ≤ 9223372036854775806) : Calls Tryd.prog 67 #[.string s] w fun e w' => e = .returned (.bool (Q.isName s.data.toList)) ∧ w = w' := by
  go_enter Tryd.func67, Tryd.ntmps67
  go_wp2_with fail
  go_loopw [7] (fun i wr => ∃ k : Nat, k ≤ s.size ∧ i = .int .i64 (k : Nat) ∧ w = wr ∧ ∀ j (h : j < s.size), j < k → Q.nameC (s[j]) = true) (fun i _ => s.size - (intOf i).toNat)
  case atStart => exact ⟨0, by omega, rfl, rfl, fun j h h' => by omega⟩
  case round =>
    obtain ⟨k, hk, rfl, rfl, hall⟩ := hrel
    have Hall := Lib.hid hall
    clear hall
    by_cases hlt : k < s.size
    · have Hc := Lib.hid (nameC_eq (s[k]))
      go_upto_region 5 with fail
      go_cut [39] (fun v wc => v = .bool (!Q.nameC s[k]) ∧ w = wc)
      case first =>
        go_wp2_with fail
        all_goals
          go_meet
          case rel => exact ⟨by rw [Hc.out]; refine congrArg Value.bool ?_; rw [Bool.eq_iff_iff]; simp; omega, rfl⟩
      case rest =>
        obtain ⟨rfl, rfl⟩ := hcut
        cases hq : Q.nameC s[k] with
        | true =>
          have Hq := Lib.hid hq
          clear hq
          go_wp2_with fail
          go_roundw
          case rel => exact ⟨k + 1, by omega, by go_num, trivial, fun j h h' => by
            rcases Nat.lt_or_ge j k with q | q
            · exact Hall.out j h q
            · obtain rfl : j = k := by omega
              exact Hq.out⟩
          case measure => simp [intOf]; omega
        | false =>
          have Hq := Lib.hid (show Q.isName s.data.toList = false by unfold Q.isName; rw [not_all_nameC hlt hq]; rfl)
          clear hq
          go_wp2_with fail
          go_ret
          exact ⟨by rw [Hq.out]; rfl, rfl⟩
    · obtain rfl : k = s.size := by omega
      have Hq := Lib.hid (all_nameC (fun j h => Hall.out j h h))
      go_wp2_with fail
      go_ret
      exact ⟨by unfold Q.isName; rw [Hq.out, Bool.true_and, ← Lib.toList_data]; rfl, rfl⟩
end Go.Proofs.YtbcjeemjpcidhaaDoor

namespace Go.Proofs.YtbcjeemjpcidhaaDoor
open Go.RowKit

/-- A text of these bytes. -/
def bs (l : Q.Bt) : ByteArray := ⟨l.toArray⟩
theorem bs_list (l : Q.Bt) : (bs l).data.toList = l := rfl
theorem bs_data (s : ByteArray) : bs s.data.toList = s := Lib.mk_data s
theorem bs_size (l : Q.Bt) : (bs l).size = l.length := by rw [Lib.size_eq, bs_list]
/-- The variable of the library that says how long a text it looks for at once. -/
def MaxV (w : World) (m : Int) : Prop := w.cell? ⟨5, 0, none⟩ = some (.int .i64 m)
theorem Kp.maxV {w w' : World} (h : Kp w w') {m : Int} (hm : MaxV w m) : MaxV w' m := h.cell hm
/-- What the next row leaves: the reader holds the rest. -/
def RowPost (w : World) (b : Nat) (s : Q.Bt) (e : Ending) (w' : World) : Prop := match Lib.cut s [10] with
  | (x, rest, true) => e = .returned (.string (bs x)) ∧ Fr [b] w w' ∧ w'.cell? ⟨b, 0, none⟩ = some (.string (bs rest)) ∧ w'.frozen? ⟨b, 0, none⟩ = false
  | _ => e = badE ∧ Kp w w'
set_option maxHeartbeats 2000000 in
theorem rowR_any (b : Nat) (s : ByteArray) (m : Int) (w : World) (hs : s.size < 4294967281) (hm : MaxV w m) (hc : w.cell? ⟨b, 0, none⟩ = some (.string s)) (hf : w.frozen? ⟨b, 0, none⟩ = false) :
    Calls Tryd.prog 65 #[.pointer (some ⟨b, 0, none⟩)] w (RowPost w b s.data.toList) := by
  have HC := Lib.hid (Tryd.strings_Cut s ⟨#[10]⟩ m w hs hm)
  have Hl := Lib.hid (show (⟨#[10]⟩ : ByteArray).data.toList = [10] from rfl)
  rw [Hl.out] at HC
  obtain ⟨x, hx⟩ : ∃ x, x = Lib.cut s.data.toList [10] := ⟨_, rfl⟩
  unfold RowPost
  rw [← hx] at HC ⊢
  clear hm hx
  obtain ⟨x, rest, ok⟩ := x
  cases ok with
  | true =>
    go_enter Tryd.func65, Tryd.ntmps65
    go_wp2_with fail
    (with_reducible refine HC.out.mono ?_)
    rintro e w1 ⟨rfl, n, rfl⟩
    have hk := Kp.of_drewN w n
    have hc1 := hk.cell hc
    have hf1 := (Fr.of_kp hk).free hc hf (by simp)
    have hset := Fr.set (w.drewN n) ⟨b, 0, none⟩ (.string (bs rest))
    have hcz : ((w.drewN n).setCell ⟨b, 0, none⟩ (.string (bs rest))).cell? ⟨b, 0, none⟩ = some (.string (bs rest)) := World.cell?_setCell_same _ _ _ hc1
    have hfz : ((w.drewN n).setCell ⟨b, 0, none⟩ (.string (bs rest))).frozen? ⟨b, 0, none⟩ = false := by rw [World.frozen?_setCell]; exact hf1
    have Hy := Lib.hid (And.intro (((Fr.of_kp hk).mono (by simp)).trans hset) (And.intro hcz hfz))
    clear hset hk hfz hcz
    go_wp2_with fail
    (with_reducible refine (ask_true _).mono ?_)
    rintro e w2 ⟨rfl, rfl⟩
    go_wp2_with fail
    go_ret
    exact ⟨rfl, Hy.out⟩
  | false =>
    go_enter Tryd.func65, Tryd.ntmps65
    go_wp2_with fail
    (with_reducible refine HC.out.mono ?_)
    rintro e w1 ⟨rfl, n, rfl⟩
    have Hk := Lib.hid (Kp.of_drewN w n)
    go_wp2_with fail
    (with_reducible refine (ask_false _).mono ?_)
    rintro e w2 ⟨rfl, rfl⟩
    unfold badE
    go_wp2_with fail
    exact ⟨rfl, rfl, Hk.out⟩
end Go.Proofs.YtbcjeemjpcidhaaDoor

namespace Go.Proofs.YtbcjeemjpcidhaaDoor
open Go.RowKit

def wantRows : List Value := [iv 3, iv 1, iv 1, iv 4, iv 1, iv 2, iv 5, iv 2, iv 1, iv 6, iv 2, iv 2]
/-- The keys of a secret: the initiator's, the responder's. -/
def wantI (t : Int) : Int := if t = 3 then 1 else if t = 4 then 1 else if t = 5 then 2 else if t = 6 then 2 else 0
def wantR (t : Int) : Int := if t = 3 then 1 else if t = 4 then 2 else if t = 5 then 1 else if t = 6 then 2 else 0
def isSec (t : Int) : Bool := t == 3 || t == 4 || t == 5 || t == 6

def WantsPost (w : World) (t : Int) (e : Ending) (w' : World) : Prop := Kp w w' ∧ e = .returned (.tuple #[.agg #[iv (if isSec t then t else 0), iv (wantI t), iv (wantR t)], .bool (isSec t)])

set_option maxHeartbeats 1000000 in
theorem wants_any (w : World) (t : Int) (h1 : 1 ≤ t) (h7 : t ≤ 7) : Calls Tryd.prog 43 #[iv t] w (WantsPost w t) := by
  go_enter Tryd.func43, Tryd.ntmps43
  go_wp2_with fail
  obtain ⟨wl, hwl⟩ : ∃ x, x = (w.alloc (.cells #[iv 0, iv 0, iv 0] 98)).alloc (.cells wantRows.toArray 98) := ⟨_, rfl⟩
  have hk0 : Kp w wl := by rw [hwl]; exact Kp.trans (Kp.new _ _) (Kp.new _ _)
  have hsz : wl.heap.size = w.heap.size + 2 := by rw [hwl]; simp
  have hc : ∀ j u, wantRows[j]? = some u → wl.cell? ⟨w.heap.size + 1, j, none⟩ = some u := by
    intro j u hu
    obtain ⟨b, off, e, h⟩ := Cs.new (w.alloc (.cells #[iv 0, iv 0, iv 0] 98)) wantRows 98 (0, 0) j u hu
    simp only [World.size_alloc, Option.some.injEq, Addr.mk.injEq, and_true] at e
    obtain ⟨rfl, rfl⟩ := e
    rw [Nat.zero_add] at h
    rw [hwl]; exact h
  have hz : ∀ j, j < 3 → wl.cell? ⟨w.heap.size, j, none⟩ = some (iv 0) ∧ wl.frozen? ⟨w.heap.size, j, none⟩ = false := by
    intro j hj
    have h1 : (w.alloc (.cells #[iv 0, iv 0, iv 0] 98)).cell? ⟨w.heap.size, j, none⟩ = some (iv 0) := by
      rw [World.cell?_alloc_at _ _ _ _ rfl]
      rcases j with _ | _ | _ | j
      · rfl
      · rfl
      · rfl
      · omega
    have h2 : (w.alloc (.cells #[iv 0, iv 0, iv 0] 98)).frozen? ⟨w.heap.size, j, none⟩ = false := World.frozen?_alloc_at _ _ _ _ rfl
    rw [hwl]
    exact ⟨Kp.cell (Kp.new _ _) h1, (Fr.of_kp (Kp.new _ _)).free h1 h2 (by simp)⟩
  have hg : (w.alloc (.cells #[iv 0, iv 0, iv 0] 98)).alloc (.cells #[Value.int IntKind.i64 3, Value.int IntKind.i64 1, Value.int IntKind.i64 1, Value.int IntKind.i64 4, Value.int IntKind.i64 1, Value.int IntKind.i64 2, Value.int IntKind.i64 5, Value.int IntKind.i64 2, Value.int IntKind.i64 1, Value.int IntKind.i64 6, Value.int IntKind.i64 2, Value.int IntKind.i64 2] 98) = wl := by rw [hwl]; rfl
  rw [hg]
  clear hg hwl
  have Hsz := Lib.hid hsz; clear hsz
  have Hc := Lib.hid hc; clear hc
  have Hz := Lib.hid hz; clear hz
  go_loopw [12] (fun i wr => ∃ k : Nat, k ≤ 4 ∧ i = .int .i64 k ∧ Kp wl wr ∧ (k = 0 ∨ t ≠ 3) ∧ (k ≤ 1 ∨ t ≠ 4) ∧ (k ≤ 2 ∨ t ≠ 5) ∧ (k ≤ 3 ∨ t ≠ 6)) (fun i _ => 4 - (intOf i).toNat)
  case atStart => exact ⟨0, by omega, rfl, Kp.refl _, by omega, by omega, by omega, by omega⟩
  case round =>
    obtain ⟨k, hk, rfl, hkk, n3, n4, n5, n6⟩ := hrel
    have hA : ∀ j, j < 3 → ∀ o, (wr.alloc o).cell? ⟨w.heap.size, j, none⟩ = some (iv 0) ∧ (wr.alloc o).frozen? ⟨w.heap.size, j, none⟩ = false := fun j hj o => by
      obtain ⟨z, f⟩ := Hz.out j hj
      have k := Kp.trans hkk (Kp.new wr o)
      exact ⟨Kp.cell k z, (Fr.of_kp k).free z f (by simp)⟩
    have a0 := fun o => (hA 0 (by omega) o).1
    have a1 := fun o => (hA 1 (by omega) o).1
    have a2 := fun o => (hA 2 (by omega) o).1
    have b0 := fun o => (hA 0 (by omega) o).2
    have b1 := fun o => (hA 1 (by omega) o).2
    have b2 := fun o => (hA 2 (by omega) o).2
    clear hA
    have hlt : w.heap.size + 2 ≤ wr.heap.size := by have := hkk.size; have := Hsz.out; omega
    rcases (show k = 0 ∨ k = 1 ∨ k = 2 ∨ k = 3 ∨ k = 4 by omega) with rfl | rfl | rfl | rfl | rfl
    · have c0 := Kp.cell hkk (Hc.out 0 _ rfl)
      have c1 := Kp.cell hkk (Hc.out 1 _ rfl)
      have c2 := Kp.cell hkk (Hc.out 2 _ rfl)
      by_cases ht : t = 3
      · subst ht
        clear n3 n4 n5 n6
        go_wp2_with fail
        refine bodyPost_ret (v := .tuple #[.agg #[iv 3, iv 1, iv 1], .bool true]) (by simp [results, Tryd.results43, go_sem, a0, a1, a2]) rfl ⟨?_, rfl⟩
        exact (((Kp.trans hk0 (Kp.trans hkk (Kp.new _ _))).setCell (Nat.le_refl _) _).setCell (Nat.le_refl _) _).setCell (Nat.le_refl _) _
      · have hb : ((3 : Int) == t) = false := by simp; omega
        go_wp2_with fail
        go_roundw
        case rel => exact ⟨1, by omega, rfl, Kp.trans hkk (Kp.new _ _), by omega, by omega, by omega, by omega⟩
        case measure => simp [intOf]
    · have c0 := Kp.cell hkk (Hc.out 3 _ rfl)
      have c1 := Kp.cell hkk (Hc.out 4 _ rfl)
      have c2 := Kp.cell hkk (Hc.out 5 _ rfl)
      by_cases ht : t = 4
      · subst ht
        clear n3 n4 n5 n6
        go_wp2_with fail
        refine bodyPost_ret (v := .tuple #[.agg #[iv 4, iv 1, iv 2], .bool true]) (by simp [results, Tryd.results43, go_sem, a0, a1, a2]) rfl ⟨?_, rfl⟩
        exact (((Kp.trans hk0 (Kp.trans hkk (Kp.new _ _))).setCell (Nat.le_refl _) _).setCell (Nat.le_refl _) _).setCell (Nat.le_refl _) _
      · have hb : ((4 : Int) == t) = false := by simp; omega
        go_wp2_with fail
        go_roundw
        case rel => exact ⟨2, by omega, rfl, Kp.trans hkk (Kp.new _ _), by omega, by omega, by omega, by omega⟩
        case measure => simp [intOf]
    · have c0 := Kp.cell hkk (Hc.out 6 _ rfl)
      have c1 := Kp.cell hkk (Hc.out 7 _ rfl)
      have c2 := Kp.cell hkk (Hc.out 8 _ rfl)
      by_cases ht : t = 5
      · subst ht
        clear n3 n4 n5 n6
        go_wp2_with fail
        refine bodyPost_ret (v := .tuple #[.agg #[iv 5, iv 2, iv 1], .bool true]) (by simp [results, Tryd.results43, go_sem, a0, a1, a2]) rfl ⟨?_, rfl⟩
        exact (((Kp.trans hk0 (Kp.trans hkk (Kp.new _ _))).setCell (Nat.le_refl _) _).setCell (Nat.le_refl _) _).setCell (Nat.le_refl _) _
      · have hb : ((5 : Int) == t) = false := by simp; omega
        go_wp2_with fail
        go_roundw
        case rel => exact ⟨3, by omega, rfl, Kp.trans hkk (Kp.new _ _), by omega, by omega, by omega, by omega⟩
        case measure => simp [intOf]
    · have c0 := Kp.cell hkk (Hc.out 9 _ rfl)
      have c1 := Kp.cell hkk (Hc.out 10 _ rfl)
      have c2 := Kp.cell hkk (Hc.out 11 _ rfl)
      by_cases ht : t = 6
      · subst ht
        clear n3 n4 n5 n6
        go_wp2_with fail
        refine bodyPost_ret (v := .tuple #[.agg #[iv 6, iv 2, iv 2], .bool true]) (by simp [results, Tryd.results43, go_sem, a0, a1, a2]) rfl ⟨?_, rfl⟩
        exact (((Kp.trans hk0 (Kp.trans hkk (Kp.new _ _))).setCell (Nat.le_refl _) _).setCell (Nat.le_refl _) _).setCell (Nat.le_refl _) _
      · have hb : ((6 : Int) == t) = false := by simp; omega
        go_wp2_with fail
        go_roundw
        case rel => exact ⟨4, by omega, rfl, Kp.trans hkk (Kp.new _ _), by omega, by omega, by omega, by omega⟩
        case measure => simp [intOf]
    · have ht : t ≠ 3 ∧ t ≠ 4 ∧ t ≠ 5 ∧ t ≠ 6 := by omega
      have e0 : isSec t = false := by simp [isSec]; omega
      have e1 : wantI t = 0 := by unfold wantI; rw [if_neg ht.1, if_neg ht.2.1, if_neg ht.2.2.1, if_neg ht.2.2.2]
      have e2 : wantR t = 0 := by unfold wantR; rw [if_neg ht.1, if_neg ht.2.1, if_neg ht.2.2.1, if_neg ht.2.2.2]
      have hpost : ∀ w', Kp w w' → WantsPost w t (.returned (.tuple #[.agg #[iv 0, iv 0, iv 0], .bool false])) w' := fun w' h => ⟨h, by rw [e0, e1, e2]; rfl⟩
      obtain ⟨z0, f0⟩ := Hz.out 0 (by omega)
      obtain ⟨z1, f1⟩ := Hz.out 1 (by omega)
      obtain ⟨z2, f2⟩ := Hz.out 2 (by omega)
      have g0 := (Fr.of_kp hkk).free z0 f0 (by simp)
      have g1 := (Fr.of_kp hkk).free z1 f1 (by simp)
      have g2 := (Fr.of_kp hkk).free z2 f2 (by simp)
      have y0 := Kp.cell hkk z0
      have y1 := Kp.cell hkk z1
      have y2 := Kp.cell hkk z2
      have Hpost := Lib.hid hpost
      clear hpost e0 e1 e2 n3 n4 n5 n6 ht
      go_wp2_with fail
      refine bodyPost_ret (v := .tuple #[.agg #[iv 0, iv 0, iv 0], .bool false]) (by simp [results, Tryd.results43, go_sem, y0, y1, y2]) rfl (Hpost.out _ ?_)
      exact (((Kp.trans hk0 hkk).setCell (Nat.le_refl _) _).setCell (Nat.le_refl _) _).setCell (Nat.le_refl _) _
end Go.Proofs.YtbcjeemjpcidhaaDoor

namespace Go.Proofs.YtbcjeemjpcidhaaDoor
open Go.RowKit

/-- The state of a check lies in block b: has[side][token] at 3 side + token, stood[token] at 6 + token. -/
def WalkAt (w : World) (b : Nat) (S : Nat → Bool) : Prop := ∀ j, j < 14 → w.cell? ⟨b, j, none⟩ = some (.bool (S j)) ∧ w.frozen? ⟨b, j, none⟩ = false
theorem Kp.walk {w w' : World} (h : Kp w w') {b : Nat} {S : Nat → Bool} (hx : WalkAt w b S) : WalkAt w' b S := fun j hj => ⟨h.cell (hx j hj).1, (Fr.of_kp h).free (hx j hj).1 (hx j hj).2 (by simp)⟩

def safeL (S : Nat → Bool) (side : Int) : Bool :=
  if side = 0 then (!S 11 || S 9) && (!S 12 || S 10) && (!S 13 || S 1) else (!S 10 || S 9) && (!S 12 || S 11) && (!S 13 || S 4)

set_option maxHeartbeats 2000000 in
theorem safe_0 (w : World) (b : Nat) (S : Nat → Bool) (h : WalkAt w b S) : Calls Tryd.prog 31 #[.pointer (some ⟨b, 0, none⟩), iv 0] w fun e w' => e = .returned (.bool (safeL S 0)) ∧ w = w' := by
  have c11 := (h 11 (by omega)).1
  have c9 := (h 9 (by omega)).1
  have c12 := (h 12 (by omega)).1
  have c10 := (h 10 (by omega)).1
  have c13 := (h 13 (by omega)).1
  have c1 := (h 1 (by omega)).1
  have hs : safeL S 0 = ((!S 11 || S 9) && (!S 12 || S 10) && (!S 13 || S 1)) := rfl
  rw [hs]
  clear hs
  have H := Lib.hid h; clear h
  generalize S 11 = x11 at *
  generalize S 9 = x9 at *
  generalize S 12 = x12 at *
  generalize S 10 = x10 at *
  generalize S 13 = x13 at *
  generalize S 1 = x1 at *
  go_enter Tryd.func31, Tryd.ntmps31
  go_wp2_with fail
  all_goals
    go_ret
    refine ⟨?_, rfl⟩
    simp_all
set_option maxHeartbeats 2000000 in
theorem safe_1 (w : World) (b : Nat) (S : Nat → Bool) (h : WalkAt w b S) : Calls Tryd.prog 31 #[.pointer (some ⟨b, 0, none⟩), iv 1] w fun e w' => e = .returned (.bool (safeL S 1)) ∧ w = w' := by
  have c11 := (h 11 (by omega)).1
  have c9 := (h 9 (by omega)).1
  have c12 := (h 12 (by omega)).1
  have c10 := (h 10 (by omega)).1
  have c13 := (h 13 (by omega)).1
  have c4 := (h 4 (by omega)).1
  have hs : safeL S 1 = ((!S 10 || S 9) && (!S 12 || S 11) && (!S 13 || S 4)) := rfl
  rw [hs]
  clear hs
  have H := Lib.hid h; clear h
  generalize S 11 = x11 at *
  generalize S 9 = x9 at *
  generalize S 12 = x12 at *
  generalize S 10 = x10 at *
  generalize S 13 = x13 at *
  generalize S 4 = x4 at *
  go_enter Tryd.func31, Tryd.ntmps31
  go_wp2_with fail
  all_goals
    go_ret
    refine ⟨?_, rfl⟩
    simp_all
theorem safe_any (w : World) (b : Nat) (S : Nat → Bool) (f : Int) (hf : f = 0 ∨ f = 1) (h : WalkAt w b S) : Calls Tryd.prog 31 #[.pointer (some ⟨b, 0, none⟩), iv f] w fun e w' => e = .returned (.bool (safeL S f)) ∧ w = w' := by
  rcases hf with rfl | rfl
  · exact safe_0 w b S h
  · exact safe_1 w b S h
end Go.Proofs.YtbcjeemjpcidhaaDoor
