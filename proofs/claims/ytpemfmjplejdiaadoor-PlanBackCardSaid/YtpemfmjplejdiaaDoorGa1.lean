/- Parts of the walks and plain laws, merged: Base, Eq, Known, Wants, Safe. Each theorem bears its own conditions; no other. -/
import Derived.Test.YtpemfmjplejdiaaDoorChecked
import Derived.WalkKit
import Derived.WalkSpells
import Derived.WalkLawsBesides
import Derived.BigQuiet
import Derived.Lib.Hide
import Derived.Deep.DeepFit
import Derived.Deep.RegionWith
import Derived.Deep.DeepCutAuto
import Derived.Laws.CopyOwn
import Derived.StillTailTactics
import Derived.Lib.SlBytesConst
import Derived.ChangeKeysEq
import Derived.DeepKeys
import Derived.Laws.StructEq
namespace Go.Proofs.YtpemfmjplejdiaaDoor
open Go.RowKit

/-- The cells from an address on read xs. -/
def Cs (w : World) (ao : Option Addr) (xs : List Value) : Prop :=
  ∀ j u, xs[j]? = some u → ∃ b off, ao = some ⟨b, off, none⟩ ∧ w.cell? ⟨b, off + j, none⟩ = some u

theorem Cs.at {w : World} {ao : Option Addr} {xs : List Value} (h : Cs w ao xs) (k : Nat) (hk : k < xs.length) :
    ∃ b off, ao = some ⟨b, off, none⟩ ∧ ∀ j u, xs[j]? = some u → w.cell? ⟨b, off + j, none⟩ = some u := by
  obtain ⟨b, off, rfl, _⟩ := h k _ (List.getElem?_eq_getElem hk)
  refine ⟨b, off, rfl, fun j u hu => ?_⟩
  obtain ⟨b', off', e, hc⟩ := h j u hu
  simp only [Option.some.injEq, Addr.mk.injEq, and_true] at e
  obtain ⟨rfl, rfl⟩ := e
  exact hc

abbrev by8 (x : UInt8) : Value := .int .u8 (x.toNat : Int)

/-- A slice value's parts read a list of bytes. -/
def Bs (w : World) (ao : Option Addr) (n : Nat) (xs : List UInt8) : Prop := xs.length = n ∧ n ≤ maxLen ∧ Cs w ao (xs.map by8)

theorem Bs.at {w : World} {ao : Option Addr} {n : Nat} {xs : List UInt8} (h : Bs w ao n xs) (k : Nat) (hk : k < n) :
    ∃ b off, ao = some ⟨b, off, none⟩ ∧ b < w.heap.size ∧ ∀ j, (hj : j < n) → w.cell? ⟨b, off + j, none⟩ = some (.int .u8 ((xs[j]'(by rw [h.1]; exact hj)).toNat : Int)) := by
  obtain ⟨h1, _, h2⟩ := h
  obtain ⟨b, off, rfl, hc⟩ := h2.at k (by simp; omega)
  have hlt := World.block_lt_of_cell? w _ (hc k _ (List.getElem?_eq_getElem (by simp; omega)))
  exact ⟨b, off, rfl, hlt, fun j hj => hc j _ (by simp [show j < xs.length by omega])⟩

theorem byte_eq (a b : UInt8) : (((a.toNat : Int)) == (b.toNat : Int)) = (a == b) := by
  have h := @UInt8.toNat_inj a b
  rw [Bool.eq_iff_iff]
  simp only [beq_iff_eq]
  constructor
  · intro h1; exact h.1 (by omega)
  · intro h1; rw [h1]


theorem take_step {α : Type} (l : List α) (k : Nat) (h : k < l.length) : l.take (k + 1) = l.take k ++ [l[k]] := List.take_succ_eq_append_getElem h

/-! ### Frames -/
/-- Everything that was there is as it was. -/
abbrev Kp (w w' : World) : Prop := Below w.heap.size w w'

theorem Kp.of_drewN (w : World) (k : Nat) : Kp w (w.drewN k) := ⟨rfl, rfl, rfl, Nat.le_refl _, fun _ _ => rfl⟩
theorem Kp.new (w : World) (o : Obj) : Kp w (w.alloc o) := (Below.refl _ _).alloc (Nat.le_refl _) o
theorem Kp.refl (w : World) : Kp w w := Below.refl _ _
theorem Kp.trans {a b c : World} (h : Kp a b) (k : Kp b c) : Kp a c := Below.trans h (Below.mono k h.size)
theorem Kp.cell {w w' : World} (h : Kp w w') {p : Addr} {v : Value} (hc : w.cell? p = some v) : w'.cell? p = some v :=
  (Below.cell h (World.block_lt_of_cell? w p hc)).trans hc
theorem Kp.cs {w w' : World} (h : Kp w w') {ao : Option Addr} {xs : List Value} (hx : Cs w ao xs) : Cs w' ao xs := fun j u hu => by
  obtain ⟨b, off, e, hc⟩ := hx j u hu
  exact ⟨b, off, e, h.cell hc⟩
theorem Kp.bs {w w' : World} (h : Kp w w') {ao : Option Addr} {n : Nat} {xs : List UInt8} (hx : Bs w ao n xs) : Bs w' ao n xs := ⟨hx.1, hx.2.1, h.cs hx.2.2⟩

/-! ### Rows of the call's own -/
/-- A slice value's parts own a row of cells, in a block from 'base' on. -/
def Own (w : World) (base : Nat) (e : TypeId) (size : Nat) (ao : Option Addr) (n cap : Nat) (xs : List Value) : Prop := w.ownsRow base e size (.slice ao n cap) n xs

def blk (ao : Option Addr) : Option Nat := ao.map (·.block)
theorem ownBlock_slice (ao : Option Addr) (n cap : Nat) : Value.ownBlock (.slice ao n cap) = blk ao := by cases ao <;> rfl

theorem Own.nil (w : World) (base : Nat) (e : TypeId) (size : Nat) : Own w base e size none 0 0 [] := World.ownsRow_nil w base e size
theorem Own.cs {w : World} {base : Nat} {e : TypeId} {size : Nat} {ao : Option Addr} {n cap : Nat} {xs : List Value} (h : Own w base e size ao n cap xs) : Cs w ao xs := by
  intro j u hu
  have h0 := h
  obtain ⟨hl, hc⟩ := h
  rcases hc with ⟨hv, hn⟩ | ⟨g, cap', cur, hv, _, hg, _, _, _, ht⟩
  · subst hn; simp at hl; subst hl; simp at hu
  · simp only [Value.slice.injEq] at hv
    obtain ⟨rfl, _, rfl⟩ := hv
    exact ⟨g, 0, rfl, by have := World.ownsRow.cells h0 (g := g) rfl j u hu; rwa [Addr.add_lit] at this⟩
theorem Own.keep {w w' : World} {base : Nat} {e : TypeId} {size : Nat} {ao : Option Addr} {n cap : Nat} {xs : List Value} (h : Own w base e size ao n cap xs) (k : Kp w w') : Own w' base e size ao n cap xs := by
  obtain ⟨hl, hc⟩ := h
  refine ⟨hl, ?_⟩
  rcases hc with hn | ⟨g, cap', cur, hv, hb, hg, r⟩
  · exact .inl hn
  · refine .inr ⟨g, cap', cur, hv, hb, ?_, r⟩
    rw [k.block g (Array.getElem?_eq_some_iff.1 hg).1]; exact hg
theorem Own.lt {w : World} {base : Nat} {e : TypeId} {size : Nat} {ao : Option Addr} {n cap : Nat} {xs : List Value} (h : Own w base e size ao n cap xs) : ∀ k, blk ao = some k → base ≤ k ∧ k < w.heap.size := by
  intro k hk
  exact World.ownsRow.lt h k (by rw [ownBlock_slice]; exact hk)
theorem Own.mono {w : World} {base base' : Nat} {e : TypeId} {size : Nat} {ao : Option Addr} {n cap : Nat} {xs : List Value} (h : Own w base e size ao n cap xs) (hb : ∀ k, blk ao = some k → base' ≤ k) : Own w base' e size ao n cap xs := by
  obtain ⟨hl, hc⟩ := h
  refine ⟨hl, ?_⟩
  rcases hc with hn | ⟨g, cap', cur, hv, hb', r⟩
  · exact .inl hn
  · refine .inr ⟨g, cap', cur, hv, ?_, r⟩
    simp only [Value.slice.injEq] at hv
    obtain ⟨rfl, _, _⟩ := hv
    exact hb g rfl

section app
variable {P : Program}

theorem run_append_owned_none' (w : World) (base : Nat) (t ty e : TypeId) (i : TypeInfo) (size : Nat) (ht : P.underlying t = some (.slice e)) (hi : P.info? e = some i)
    (v : Value) (n c : Nat) (xs : List Value) (hown : w.ownsRow base e size v n xs) :
    (Builtin.append_ #[t, t] ty #[v, .slice none 0 c]).run P w = .ok v w := by
  rcases hown.2 with ⟨rfl, rfl⟩ | ⟨g, cap, cur, rfl, _, _, hnc, _⟩
  · simp [Builtin.append_, run_underlying ht, sizeOf, typeInfo, hi, Builtin.lenOf, Builtin.firstCells]
  · simp [Builtin.append_, run_underlying ht, sizeOf, typeInfo, hi, Builtin.lenOf, Builtin.firstCells, hnc, storeCells]

/-- An element type's row of the table. -/
structure El (P : Program) (t e : TypeId) (z : Value) (size bytes : Nat) : Prop where
  und : P.underlying t = some (.slice e)
  info : (P.info? e).map (fun i => (i.zero, i.size, i.bytes)) = some (some z, size, bytes)
  zs : z.cells.size = size
  pos : 0 < size
  bpos : 0 < bytes

/-- What an append on a row of the call's own leaves. -/
structure Appd (w w' : World) (base : Nat) (e : TypeId) (size : Nat) (ao : Option Addr) (cap m N : Nat) (zs : List Value) (ao' : Option Addr) (cap' : Nat) : Prop where
  own : Own w' base e size ao' N cap' zs
  grown : w.grownBy w' (blk ao)
  room : N ≤ cap → ao ≠ none → ao' = ao ∧ cap' = cap
  nil : ao' = none ↔ ao = none ∧ m = 0
  fresh : ∀ k, blk ao' = some k → blk ao = some k ∨ k = w.heap.size
  move : ao' = ao ∨ w.grownBy w' none ∧ blk ao' = some w.heap.size

theorem run_app (w : World) (base : Nat) (t ty e : TypeId) (z : Value) (size bytes : Nat) (E : El P t e z size bytes)
    (ao : Option Addr) (n cap : Nat) (xs : List Value) (hown : Own w base e size ao n cap xs)
    (bo : Option Addr) (m c : Nat) (news : List Value) (hl : news.length = m * size) (hnews : Cs w bo news) (h1 : ∀ u ∈ news, u.oneCell' = true)
    (N : Nat) (hN : N = n + m) (zs : List Value) (hzs : zs = xs ++ news) (hbytes : N * bytes ≤ 140737488355328) (hbase : base ≤ w.heap.size) :
    ∃ ao' cap' w', (Builtin.append_ #[t, t] ty #[.slice ao n cap, .slice bo m c]).run P w = .ok (.slice ao' N cap') w' ∧ Appd w w' base e size ao cap m N zs ao' cap' := by
  subst hN; subst hzs
  have ht := E.und
  have hsz := E.pos
  obtain ⟨i, hi, hz, hsize, hby⟩ := info_parts E.info
  have h63 : n + m ≤ maxLen := by
    have h1 := E.bpos
    have h2 : (n + m) * 1 ≤ (n + m) * bytes := Nat.mul_le_mul_left _ h1
    unfold maxLen; omega
  cases bo with
  | none =>
    have hnn : news = [] := by
      cases news with
      | nil => rfl
      | cons u r => obtain ⟨b, off, e, _⟩ := hnews 0 u rfl; cases e
    subst hnn
    have hm : m = 0 := by
      rcases Nat.eq_zero_or_pos m with h | h
      · exact h
      · have := Nat.mul_pos h hsz
        simp only [List.length_nil] at hl
        omega
    subst hm
    refine ⟨ao, cap, w, run_append_owned_none' w base t ty e i size ht hi _ n c xs hown, by simpa using hown, World.grownBy.refl _ _, fun _ _ => ⟨rfl, rfl⟩, by simp, fun k hk => .inl hk, .inl rfl⟩
  | some ad =>
    have hnews' : ∀ j u, news[j]? = some u → w.cell? (ad.add j) = some u := fun j u hu => by
      obtain ⟨b, off, e, hc⟩ := hnews j u hu
      simp only [Option.some.injEq] at e
      subst e
      rw [Addr.add_lit]; exact hc
    by_cases hroom : n + m ≤ cap ∧ ao ≠ none
    · obtain ⟨hroom, hne⟩ := hroom
      have hown0 := hown
      obtain ⟨_, hc⟩ := hown
      rcases hc with ⟨hv, hn⟩ | ⟨g, cap', cur, hv, _⟩
      · simp only [Value.slice.injEq] at hv; exact absurd hv.1 hne
      · simp only [Value.slice.injEq] at hv
        obtain ⟨rfl, _, rfl⟩ := hv
        obtain ⟨w', hr, h2, h3⟩ := run_append_fits (P := P) w base t ty e i size ht hi hsize g n cap xs hown0 ad m c news hl hnews' h1 hroom
        exact ⟨_, _, w', hr, h2, h3, fun _ _ => ⟨rfl, rfl⟩, by simp, fun k hk => .inl hk, .inl rfl⟩
    · have hlen : (xs ++ news).length = (n + m) * size := by rw [List.length_append, hown.1, hl, Nat.add_mul]
      have grown : ∀ (old : Nat), old < n + m → ∀ (row : Option Nat),
          Own (w.drew.alloc (.cells (xs.toArray ++ news.toArray ++ Builtin.zeroCells z.cells (grownCap w (n + m) old e - (n + m))) e)) base e size
            (some ⟨w.heap.size, 0, none⟩) (n + m) (grownCap w (n + m) old e) (xs ++ news) ∧
          w.grownBy (w.drew.alloc (.cells (xs.toArray ++ news.toArray ++ Builtin.zeroCells z.cells (grownCap w (n + m) old e - (n + m))) e)) row := by
        intro old ho row
        have hge := grownCap_ge w (n + m) old e
        have hcm : grownCap w (n + m) old e ≤ maxLen := grownCap_le_maxLen w (n + m) old e h63
        refine ⟨⟨hlen, .inr ⟨w.heap.size, _, _, rfl, hbase, heap_alloc_new w.drew _, hge, hcm, ?_, ?_⟩⟩, ⟨rfl, rfl, rfl, by simp, fun k hk _ => Below.heap_alloc w.drew _ k hk⟩⟩
        · simp only [Array.size_append, List.size_toArray, size_zeroCells, E.zs, hown.1, hl, ← Nat.add_mul]
          congr 1
          omega
        · simp only [Array.toList_append, List.append_assoc]
          rw [← List.append_assoc, ← hlen]
          exact List.take_left
      subst hsize; subst hby
      have hown0 := hown
      rcases hown.2 with ⟨hv, hn0⟩ | ⟨g, cap', cur, hv, hbg, hg, hnc, hcm, hcs, htake⟩
      · simp only [Value.slice.injEq] at hv
        obtain ⟨rfl, _, rfl⟩ := hv
        subst hn0
        have hx : xs = [] := List.eq_nil_of_length_eq_zero (by simpa using hown.1)
        subst hx
        by_cases hm : m = 0
        · subst hm
          have hn : news = [] := List.eq_nil_of_length_eq_zero (by simpa using hl)
          subst hn
          refine ⟨none, 0, w, ?_, Own.nil _ _ _ _, World.grownBy.refl _ _, fun _ h => absurd rfl h, by simp, fun k hk => .inl hk, .inl rfl⟩
          simp [Builtin.append_, run_underlying ht, sizeOf, typeInfo, hi, Builtin.lenOf, Builtin.firstCells, loadCells, loadCellsFrom]
        · have hr := run_append_nil (P := P) w t ty e i z ht hi hz ad m c news hl hnews' (by omega) (by unfold maxLen at h63; omega) (by have hb := hbytes; simp only [Nat.zero_add] at hb; omega)
          have hgr := grown 0 (by omega) (blk none)
          simp only [Nat.zero_add, List.nil_append, Array.empty_append] at hgr ⊢
          exact ⟨_, _, _, hr, hgr.1, hgr.2, fun _ h => absurd rfl h, by simp [hm], fun k hk => .inr (by simpa [blk, eq_comm] using hk), .inr ⟨hgr.2, rfl⟩⟩
      · simp only [Value.slice.injEq] at hv
        obtain ⟨rfl, _, rfl⟩ := hv
        have holds : ∀ j u, xs[j]? = some u → w.cell? ((⟨g, 0, none⟩ : Addr).add j) = some u := World.ownsRow.cells hown0 (g := g) rfl
        have hlt : cap < n + m := by
          rcases Nat.lt_or_ge cap (n + m) with h | h
          · exact h
          · exact absurd ⟨h, by simp⟩ hroom
        have hr := run_append_grow (P := P) w t ty e i z ht hi hz ⟨g, 0, none⟩ n cap xs hown.1 holds ad m c news hl hnews' (by omega) (by unfold maxLen at h63; omega) (growslice_fits (by unfold maxLen at h63; omega) hbytes)
        have hgr := grown cap (by omega) (blk (some ⟨g, 0, none⟩))
        have hgr2 := grown cap (by omega) none
        exact ⟨_, _, _, hr, hgr.1, hgr.2, fun a b => absurd ⟨a, b⟩ hroom, by simp, fun k hk => .inr (by simpa [blk, eq_comm] using hk), .inr ⟨hgr2.2, rfl⟩⟩

theorem Appd.below {w w' : World} {base B : Nat} {e : TypeId} {size : Nat} {ao : Option Addr} {cap m N : Nat} {zs : List Value} {ao' : Option Addr} {cap' : Nat}
    (h : Appd w w' base e size ao cap m N zs ao' cap') {w0 : World} (hb : Below B w0 w) (hB : B ≤ w.heap.size) (hao : ∀ k, blk ao = some k → B ≤ k) : Below B w0 w' := hb.grown h.grown hB hao

theorem wp_app {w : World} {o : Oper} {a : Act} {K : Act → World → Prop} {Q : Exit → Act → World → Prop} (s x : Operand) (t : TypeId)
    (ho : o.op = .call { callee := .builtin .append, args := #[s, x], argTypes := #[t, t] })
    (e : TypeId) (z : Value) (size bytes : Nat) (E : El P t e z size bytes) (base : Nat)
    (ao : Option Addr) (n cap : Nat) (xs : List Value) (hs : a.eval s = .slice ao n cap) (hown : Own w base e size ao n cap xs)
    (bo : Option Addr) (m c : Nat) (news : List Value) (hx : a.eval x = .slice bo m c) (hl : news.length = m * size) (hnews : Cs w bo news) (h1 : ∀ u ∈ news, u.oneCell' = true)
    (N : Nat) (hN : N = n + m) (zs : List Value) (hzs : zs = xs ++ news) (hbytes : N * bytes ≤ 140737488355328) (hbase : base ≤ w.heap.size)
    (h : ∀ ao' cap' w', Appd w w' base e size ao cap m N zs ao' cap' → K (a.put o.dst (.slice ao' N cap')) w') : o.wp P a w K Q := by
  obtain ⟨ao', cap', w', hr, h2⟩ := run_app (P := P) w base t o.type e z size bytes E ao n cap xs hown bo m c news hl hnews h1 N hN zs hzs hbytes hbase
  unfold Oper.wp execOp
  simp only [ho, resolve, invoke, builtin, Sem.run_bind, Sem.run_pure, Result.andThen_ok, List.map_toArray, List.map_cons, List.map_nil, hs, hx, hr]
  exact h ao' cap' w' h2

/-- 'append' on a row of the call's own (or nil), whatever the source: nil, empty, or not. The new length N and the new cells zs are given. -/
theorem wpList_app {w : World} {ops : Array Oper} {rest : List Oper} {o : Oper} {a : Act} {Q : Exit → Act → World → Prop} (hgd : o.guard = none) (s x : Operand) (t : TypeId)
    (ho : o.op = .call { callee := .builtin .append, args := #[s, x], argTypes := #[t, t] })
    {e : TypeId} {z : Value} {size bytes : Nat} (E : El P t e z size bytes) (base : Nat)
    {ao : Option Addr} {n cap : Nat} {xs : List Value} (hs : a.eval s = .slice ao n cap) (hown : Own w base e size ao n cap xs)
    {bo : Option Addr} {m c : Nat} (hx : a.eval x = .slice bo m c) (news : List Value) (hl : news.length = m * size) (hnews : Cs w bo news) (h1 : ∀ u ∈ news, u.oneCell' = true)
    (N : Nat) (hN : N = n + m) (zs : List Value) (hzs : zs = xs ++ news) (hbytes : N * bytes ≤ 140737488355328) (hbase : base ≤ w.heap.size)
    (h : ∀ ao' cap' w', Appd w w' base e size ao cap m N zs ao' cap' → wpList P ops Q rest (a.put o.dst (.slice ao' N cap')) w') : wpList P ops Q (o :: rest) a w :=
  wpList_plain hgd fun _ hK => wp_app s x t ho e z size bytes E base ao n cap xs hs hown bo m c news hx hl hnews h1 N hN zs hzs hbytes hbase fun ao' cap' w' h2 => hK _ _ (h ao' cap' w' h2)

/-- 'make([]T, n)', each element one cell: n zero elements. -/
theorem wpList_mk {w : World} {ops : Array Oper} {rest : List Oper} {o : Oper} {a : Act} {Q : Exit → Act → World → Prop}
    (hg : o.guard = none) (l c : Operand) (t : TypeId) (hop : o.op = Op.makeSlice t l c)
    {e : TypeId} {z : Value} {bytes : Nat} (E : El P t e z 1 bytes) (h6 : z.cells = #[z])
    {kl kc : IntKind} {L C : Int} (n : Nat) (hl : a.eval l = .int kl L) (hc : a.eval c = .int kc C) (hL : L = (n : Int)) (hC : C = (n : Int)) (b2 : bytes * n ≤ 281474976710656)
    (hK : ∀ w', Own w' w.heap.size e 1 (some ⟨w.heap.size, 0, none⟩) n n (List.replicate n z) → Kp w w' → wpList P ops Q rest (a.put o.dst (.slice (some ⟨w.heap.size, 0, none⟩) n n)) w') :
    wpList P ops Q (o :: rest) a w := by
  obtain ⟨i, h2, h3, h4, h5⟩ := info_parts E.info
  subst h5
  have b3 : n ≤ maxLen := by
    have h1 := E.bpos
    have h2 : 1 * n ≤ i.bytes * n := Nat.mul_le_mul_right _ h1
    unfold maxLen; omega
  refine wpList_make_full w hg l c t hop w.heap.size e i z 1 E.und h2 h3 h4 kl kc L C n hl hc hL hC b2 b3 (Nat.le_refl _) (fun w' hown hgrow => hK w' ?_ ?_)
  · rw [h6, Nat.mul_one, toList_madeCells_one] at hown
    exact hown
  · exact (Below.refl _ _).grown hgrow (Nat.le_refl _) (fun k hk => by cases hk)

/-- 'make([]T, 0, n)'. -/
theorem wpList_mk0 {w : World} {ops : Array Oper} {rest : List Oper} {o : Oper} {a : Act} {Q : Exit → Act → World → Prop}
    (hg : o.guard = none) (l c : Operand) (t : TypeId) (hop : o.op = Op.makeSlice t l c)
    {e : TypeId} {z : Value} {size bytes : Nat} (E : El P t e z size bytes)
    {kl kc : IntKind} {C : Int} (n : Nat) (hl : a.eval l = .int kl 0) (hc : a.eval c = .int kc C) (hC : C = (n : Int)) (b2 : bytes * n ≤ 281474976710656)
    (hK : ∀ w', Own w' w.heap.size e size (some ⟨w.heap.size, 0, none⟩) 0 n [] → Kp w w' → wpList P ops Q rest (a.put o.dst (.slice (some ⟨w.heap.size, 0, none⟩) 0 n)) w') :
    wpList P ops Q (o :: rest) a w := by
  obtain ⟨i, h2, h3, h4, h5⟩ := info_parts E.info
  subst h5
  have b3 : n ≤ maxLen := by
    have h1 := E.bpos
    have h2 : 1 * n ≤ i.bytes * n := Nat.mul_le_mul_right _ h1
    unfold maxLen; omega
  refine wpList_make_own w hg l c t hop w.heap.size e i z size E.und h2 h3 h4 kl kc C n hl hc hC b2 b3 (Nat.le_refl _) (fun w' hown hgrow => hK w' hown ?_)
  exact (Below.refl _ _).grown hgrow (Nat.le_refl _) (fun k hk => by cases hk)
end app

theorem cells_map_one {α : Type} (f : α → Value) (hf : ∀ x, (f x).oneCell' = true) (xs : List α) : ∀ u ∈ xs.map f, u.oneCell' = true := by
  intro u hu
  obtain ⟨x, _, rfl⟩ := List.mem_map.1 hu
  exact hf x

/-- A new block of cells is read as its cells. -/
theorem Cs.new (w : World) (cs : List Value) (e : TypeId) (mk : Nat × Nat) : Cs (w.alloc (.cells cs.toArray e mk)) (some ⟨w.heap.size, 0, none⟩) cs := fun j u hu => by
  refine ⟨w.heap.size, 0, rfl, ?_⟩
  rw [cell_of_row _ w.heap.size (0 + j) cs.toArray e mk (heap_alloc_new w _)]
  simpa using hu


/-! ### Frames with a footprint: only the blocks of X may have changed -/
structure Fr (X : List Nat) (w w' : World) : Prop where
  os : w'.os = w.os
  tape : w'.tape = w.tape
  output : w'.output = w.output
  size : w.heap.size ≤ w'.heap.size
  block : ∀ k, k < w.heap.size → k ∉ X → w'.heap[k]? = w.heap[k]?

def blkL (ao : Option Addr) : List Nat := (blk ao).toList
theorem mem_blkL {ao : Option Addr} {k : Nat} : k ∈ blkL ao ↔ blk ao = some k := by unfold blkL; cases blk ao <;> simp [eq_comm]
theorem mem_blkL_some {b o : Nat} {k : Nat} : k ∈ blkL (some ⟨b, o, none⟩) ↔ k = b := by simp [blkL, blk]

theorem Fr.of_kp {w w' : World} (h : Kp w w') : Fr [] w w' := ⟨h.os, h.tape, h.output, h.size, fun k hk _ => h.block k hk⟩
theorem Fr.kp {w w' : World} (h : Fr [] w w') : Kp w w' := ⟨h.os, h.tape, h.output, h.size, fun k hk => h.block k hk (by simp)⟩
theorem Fr.refl (X : List Nat) (w : World) : Fr X w w := ⟨rfl, rfl, rfl, Nat.le_refl _, fun _ _ _ => rfl⟩
theorem Fr.mono {X Y : List Nat} {w w' : World} (h : Fr X w w') (hs : ∀ k ∈ X, k ∈ Y) : Fr Y w w' := ⟨h.os, h.tape, h.output, h.size, fun k hk hn => h.block k hk (fun hx => hn (hs k hx))⟩
theorem Fr.trans {X : List Nat} {a b c : World} (h : Fr X a b) (k : Fr X b c) : Fr X a c :=
  ⟨k.os.trans h.os, k.tape.trans h.tape, k.output.trans h.output, Nat.le_trans h.size k.size, fun i hi hn => (k.block i (Nat.lt_of_lt_of_le hi h.size) hn).trans (h.block i hi hn)⟩
/-- What is changed in the second step is of X, or new. -/
theorem Fr.step {X Y : List Nat} {a b c : World} (h : Fr X a b) (k : Fr Y b c) (hY : ∀ j ∈ Y, j ∈ X ∨ a.heap.size ≤ j) : Fr X a c :=
  ⟨k.os.trans h.os, k.tape.trans h.tape, k.output.trans h.output, Nat.le_trans h.size k.size, fun i hi hn => (k.block i (Nat.lt_of_lt_of_le hi h.size) (fun hy => by rcases hY i hy with h1 | h1; exact hn h1; omega)).trans (h.block i hi hn)⟩
theorem Fr.of_grown {w w' : World} {ao : Option Addr} (h : w.grownBy w' (blk ao)) : Fr (blkL ao) w w' :=
  ⟨h.os, h.tape, h.output, h.size, fun k hk hn => h.block k hk (fun e => hn (mem_blkL.2 e.symm))⟩
theorem Appd.fr {w w' : World} {base : Nat} {e : TypeId} {size : Nat} {ao : Option Addr} {cap m N : Nat} {zs : List Value} {ao' : Option Addr} {cap' : Nat}
    (h : Appd w w' base e size ao cap m N zs ao' cap') : Fr (blkL ao) w w' := Fr.of_grown h.grown
theorem Fr.new (X : List Nat) (w : World) (o : Obj) : Fr X w (w.alloc o) := (Fr.of_kp (Kp.new w o)).mono (by simp)
theorem Fr.set (w : World) (p : Addr) (u : Value) : Fr [p.block] w (w.setCell p u) :=
  ⟨rfl, rfl, rfl, by simp [World.setCell], fun k _ hn => Below.heap_setCell _ _ _ _ (by simpa using hn)⟩
theorem Fr.drewN (X : List Nat) (w : World) (k : Nat) : Fr X w (w.drewN k) := (Fr.of_kp (Kp.of_drewN w k)).mono (by simp)
theorem Fr.drew (X : List Nat) (w : World) : Fr X w w.drew := ⟨rfl, rfl, rfl, Nat.le_refl _, fun _ _ _ => rfl⟩

theorem Fr.cell {X : List Nat} {w w' : World} (h : Fr X w w') {p : Addr} {v : Value} (hc : w.cell? p = some v) (hX : p.block ∉ X) : w'.cell? p = some v :=
  (World.cell?_of_block (h.block p.block (World.block_lt_of_cell? w p hc) hX)).trans hc
theorem Fr.free {X : List Nat} {w w' : World} (h : Fr X w w') {p : Addr} {u : Value} (hc : w.cell? p = some u) {f : Bool} (hf : w.frozen? p = f) (hX : p.block ∉ X) : w'.frozen? p = f :=
  (World.frozen?_of_block (h.block p.block (World.block_lt_of_cell? w p hc) hX)).trans hf
theorem Fr.cs {X : List Nat} {w w' : World} (h : Fr X w w') {ao : Option Addr} {xs : List Value} (hx : Cs w ao xs) (hX : ∀ k ∈ blkL ao, k ∉ X) : Cs w' ao xs := fun j u hu => by
  obtain ⟨b, off, rfl, hc⟩ := hx j u hu
  exact ⟨b, off, rfl, h.cell hc (hX b (by simp [blkL, blk]))⟩
theorem Fr.bs {X : List Nat} {w w' : World} (h : Fr X w w') {ao : Option Addr} {n : Nat} {xs : List UInt8} (hx : Bs w ao n xs) (hX : ∀ k ∈ blkL ao, k ∉ X) : Bs w' ao n xs := ⟨hx.1, hx.2.1, h.cs hx.2.2 hX⟩
theorem Fr.own {X : List Nat} {w w' : World} (k : Fr X w w') {base : Nat} {e : TypeId} {size : Nat} {ao : Option Addr} {n cap : Nat} {xs : List Value} (h : Own w base e size ao n cap xs) (hX : ∀ k ∈ blkL ao, k ∉ X) : Own w' base e size ao n cap xs := by
  obtain ⟨hl, hc⟩ := h
  refine ⟨hl, ?_⟩
  rcases hc with hn | ⟨g, cap', cur, hv, hb, hg, r⟩
  · exact .inl hn
  · refine .inr ⟨g, cap', cur, hv, hb, ?_, r⟩
    simp only [Value.slice.injEq] at hv
    rw [k.block g (Array.getElem?_eq_some_iff.1 hg).1 (hX g (by rw [hv.1]; simp [blkL, blk]))]; exact hg

theorem Own.bs {w : World} {base : Nat} {e : TypeId} {ao : Option Addr} {n cap : Nat} {xs : List UInt8} (h : Own w base e 1 ao n cap (xs.map by8)) : Bs w ao n xs := by
  have hl := h.1
  refine ⟨by simpa using hl, ?_, h.cs⟩
  rcases h.2 with ⟨_, hn⟩ | ⟨g, cap', cur, hv, _, _, h1, h2, _⟩
  · omega
  · exact Nat.le_trans h1 h2
theorem Own.cap {w : World} {base : Nat} {e : TypeId} {size : Nat} {ao : Option Addr} {n cap : Nat} {xs : List Value} (h : Own w base e size ao n cap xs) : n ≤ cap := by
  rcases h.2 with ⟨hv, hn⟩ | ⟨g, cap', cur, hv, _, _, h1, h2, _⟩
  · omega
  · simp only [Value.slice.injEq] at hv; omega

/-- A slice of bytes cut at its head: 's[l:h]'. -/
theorem Bs.cut {w : World} {ao : Option Addr} {n : Nat} {xs : List UInt8} (hx : Bs w ao n xs) (l k : Nat) (h : l + k ≤ n) (c : Prop) [Decidable c] (hc : c → k = 0) :
    Bs w (if c then ao else ao.map (·.add l)) k ((xs.drop l).take k) := by
  refine ⟨by simp [hx.1]; omega, Nat.le_trans (by omega) hx.2.1, ?_⟩
  by_cases hk : c
  · rw [hc hk]; intro j u hu; simp at hu
  · rw [if_neg hk]
    intro j u hu
    have hj : j < k := by
      have := (List.getElem?_eq_some_iff.1 hu).1
      simp at this; omega
    have hu' : (xs.map by8)[l + j]? = some u := by
      simp only [List.map_take, List.map_drop] at hu
      rw [List.getElem?_take, if_pos hj, List.getElem?_drop] at hu
      exact hu
    obtain ⟨b, off, rfl, hcc⟩ := hx.2.2 _ _ hu'
    refine ⟨b, off + l, ?_, by rw [Nat.add_assoc]; exact hcc⟩
    simp [Addr.add_lit]

theorem Bs.zero (w : World) (ao : Option Addr) : Bs w ao 0 [] := ⟨rfl, Nat.zero_le _, fun j u hu => by simp at hu⟩
theorem Bs.sub {w : World} {b off : Nat} {n : Nat} {xs : List UInt8} (hx : Bs w (some ⟨b, off, none⟩) n xs) (l k : Nat) (h : l + k ≤ n) :
    Bs w (some ⟨b, off + l, none⟩) k ((xs.drop l).take k) := by
  have := hx.cut l k h False (fun h => h.elim)
  rwa [if_neg (fun h => h), Option.map_some, Addr.add_lit] at this

theorem Own.block {w : World} {base : Nat} {e : TypeId} {size : Nat} {ao : Option Addr} {n cap : Nat} {xs : List Value} (h : Own w base e size ao n cap xs) (hn : 0 < n) :
    ∃ g cur, ao = some ⟨g, 0, none⟩ ∧ base ≤ g ∧ w.heap[g]? = some (.cells cur e (0, 0)) ∧ cur.size = cap * size ∧ cap ≤ maxLen ∧ cur.toList.take (n * size) = xs := by
  rcases h.2 with ⟨hv, h0⟩ | ⟨g, cap', cur, hv, hb, hg, h1, h2, h3, h4⟩
  · omega
  · simp only [Value.slice.injEq] at hv
    obtain ⟨rfl, _, rfl⟩ := hv
    exact ⟨g, cur, rfl, hb, hg, h3, h2, h4⟩

/-- 'copy' to the head of a row of the call's own, out of whatever place (the row itself too). -/
theorem wpList_cpy {P : Program} {w : World} {ops : Array Oper} {rest : List Oper} {o : Oper} {a : Act} {Q : Exit → Act → World → Prop} (hgd : o.guard = none) (d s : Operand) (dT sT : TypeId)
    (ho : o.op = .call { callee := .builtin .copy, args := #[d, s], argTypes := #[dT, sT] }) {z : Value} {bytes : Nat} {e : TypeId} (E : El P dT e z 1 bytes)
    {base : Nat} {ao so : Option Addr} {n cap dn dcap m c : Nat} {xs : List Value} (hn : 0 < n) (hown : Own w base e 1 ao n cap xs) (hd : a.eval d = .slice ao dn dcap) (hs : a.eval s = .slice so m c)
    (cs : List Value) (hl : cs.length = m) (hm : m ≤ dn) (hdn : dn ≤ n) (hcs : Cs w so cs) (h1 : ∀ v ∈ cs, v.oneCell' = true)
    (h : ∀ w', Own w' base e 1 ao n cap (cs ++ xs.drop m) → Fr (blkL ao) w w' → wpList P ops Q rest (a.put o.dst (goInt m)) w') : wpList P ops Q (o :: rest) a w := by
  have hown0 := hown
  obtain ⟨g, cur, rfl, hb, hg, hsz, hcm, ht⟩ := hown.block hn
  have hcap := hown.cap
  have hlen := hown.1
  simp only [Nat.mul_one] at hsz ht hlen
  have hmin : cs.length = Nat.min m dn := by rw [hl]; exact (Nat.min_eq_left hm).symm
  have hinfo : (P.info? e).map (·.size) = some 1 := by
    obtain ⟨i, hi, _, h4, _⟩ := info_parts E.info
    rw [hi]; simp [h4]
  have done : ∀ w', w'.heap[g]? = some (.cells (cs ++ cur.toList.drop cs.length).toArray e (0, 0)) → Fr [g] w w' → wpList P ops Q rest (a.put o.dst (goInt cs.length)) w' := by
    intro w' hw' hfr
    rw [hl]
    refine h w' ⟨?_, .inr ⟨g, cap, _, rfl, hb, hw', hcap, hcm, ?_, ?_⟩⟩ hfr
    · simp [hl, hlen]; omega
    · simp [hl, hsz]; omega
    · rw [← ht]
      simp only [Nat.mul_one]
      rw [List.take_append, List.take_of_length_le (by omega), hl, List.drop_take]
  by_cases h0 : cs.length = 0
  · obtain rfl : cs = [] := List.eq_nil_of_length_eq_zero h0
    refine wpList_copy_nothing hgd d s dT sT ho e E.und hinfo _ so dn dcap m c hd hs (by simpa using hmin.symm) ?_
    exact done w (by simpa using hg) (Fr.refl _ _)
  · obtain ⟨b, off, rfl, hcc⟩ := hcs.at 0 (by omega)
    have := wpList_copy_own (P := P) (w := w) (ops := ops) (rest := rest) (Q := Q) hgd d s dT sT ho e E.und hinfo g 0 dn dcap ⟨b, off, none⟩ m c hd hs cur e hg cs hmin
      (fun j v hv => by rw [Addr.add_lit]; exact hcc j v hv) (by simp [hl, hsz]; omega) h1
    refine this (done _ ?_ ?_)
    · have := setRow_heap w g cur (cur.toList.take 0 ++ (cs ++ cur.toList.drop (0 + cs.length))).toArray e (0, 0) hg
      simpa using this
    · exact ⟨rfl, rfl, rfl, by simp [World.setRow], fun k _ hk => setRow_other w g k _ (by simpa using hk)⟩

/-- A region that draws: n operations that only read, then a forced tail. -/
theorem region_tail {P : Program} {id : Nat} {Q : Exit → Act → World → Prop} {a : Act} {w : World} {l : List Oper} (n : Nat) (hm : P.follows .mixedOrders = true) (hB : Region.lexTailB .any l.toArray n = true)
    (h : wpStill P l.toArray w.drew (fun a' => wpList P l.toArray Q (l.drop n) a' w.drew) (l.take n) a) : (Code.region id l.toArray true).wp P Q a w := wp_region_still_tail n hm hB h

theorem Own.shrink {w : World} {base : Nat} {e : TypeId} {size : Nat} {ao : Option Addr} {n cap : Nat} {xs : List Value} (h : Own w base e size ao n cap xs) (k : Nat) (hk : k ≤ n) : Own w base e size ao k cap (xs.take (k * size)) := by
  have hl := h.1
  have hkn : k * size ≤ n * size := Nat.mul_le_mul_right _ hk
  refine ⟨by simp; omega, ?_⟩
  rcases h.2 with ⟨hv, h0⟩ | ⟨g, cap', cur, hv, hb, hg, h1, h2, h3, h4⟩
  · obtain rfl : k = 0 := by omega
    simp only [Value.slice.injEq] at hv
    exact .inl ⟨by rw [hv.1, hv.2.2], rfl⟩
  · simp only [Value.slice.injEq] at hv
    obtain ⟨rfl, _, rfl⟩ := hv
    exact .inr ⟨g, cap, cur, rfl, hb, hg, by omega, h2, h3, by rw [← h4, List.take_take, Nat.min_eq_left hkn]⟩

#print axioms Bs.sub
#print axioms wpList_app
end Go.Proofs.YtpemfmjplejdiaaDoor

namespace Go.Proofs.YtpemfmjplejdiaaDoor
open Go.RowKit

theorem eq3 (w : World) (d : Nat) (a b : Int) : (Op.equalIn (d + 1) 3 (.int .i64 a) (.int .i64 b)).run Tryd.prog w = .ok (a == b) w := by
  simp [Op.equalIn, run_underlying Tryd.underlying3]
theorem eq4 (w : World) (d : Nat) (a b : Bool) : (Op.equalIn (d + 1) 4 (.bool a) (.bool b)).run Tryd.prog w = .ok (a == b) w := by
  simp [Op.equalIn, run_underlying Tryd.underlying4]
theorem cellsOf3 : Tryd.prog.cellsOf 3 = 1 := by kernel_rfl
theorem part3 (w : World) (xs : Array Value) (k : Nat) (v : Value) (h : xs[k]? = some v) : (part 3 xs k).run Tryd.prog w = .ok v w := run_part_plain w (by kernel_rfl) h
theorem part4 (w : World) (xs : Array Value) (k : Nat) (v : Value) (h : xs[k]? = some v) : (part 4 xs k).run Tryd.prog w = .ok v w := run_part_plain w (by kernel_rfl) h

theorem eq104 (w : World) (a b c d : Int) : (binOp .eql 104 (.agg #[.int .i64 a, .int .i64 b]) (.agg #[.int .i64 c, .int .i64 d])).run Tryd.prog w = .ok (.bool (a == c && b == d)) w := by
  obtain ⟨i, hi, _⟩ := Option.map_eq_some_iff.1 (show (Tryd.prog.info? 3).map (·.size) = some 1 by kernel_rfl)
  have h := run_equalIn_array w 9999 #[.int .i64 a, .int .i64 b] #[.int .i64 c, .int .i64 d] Tryd.underlying104 hi
  rw [cellsOf3] at h
  have hr : List.range 2 = [0, 1] := by decide
  rw [hr] at h
  simp only [binOp, Op.equal, Op.maxDepth, Sem.run_bind, h]
  have e0 := eq3 w 9998 a c
  have e1 := eq3 w 9998 b d
  have p0 := part3 w #[.int .i64 a, .int .i64 b] 0 (.int .i64 a) rfl
  have p1 := part3 w #[.int .i64 a, .int .i64 b] 1 (.int .i64 b) rfl
  have q0 := part3 w #[.int .i64 c, .int .i64 d] 0 (.int .i64 c) rfl
  have q1 := part3 w #[.int .i64 c, .int .i64 d] 1 (.int .i64 d) rfl
  generalize (a == c) = p at e0 ⊢
  generalize (b == d) = q at e1 ⊢
  simp only [Op.eqItems, Sem.run_bind, Nat.zero_mul, Nat.one_mul, p0, q0, Result.andThen_ok, e0]
  cases p <;> cases q <;> simp [p1, q1, e1]

theorem fields42 : Tryd.prog.fieldsOf 42 = #[{ name := "Op", type := 3, offset := 0, embedded := false, tag := "", pkgPath := "", byteOffset := 0 }, { name := "Key", type := 3, offset := 1, embedded := false, tag := "", pkgPath := "", byteOffset := 8 }, { name := "With", type := 3, offset := 2, embedded := false, tag := "", pkgPath := "", byteOffset := 16 }] := by
  simp [Program.fieldsOf, Tryd.underlying42]
theorem fields61 : Tryd.prog.fieldsOf 61 = #[{ name := "token", type := 3, offset := 0, embedded := false, tag := "", pkgPath := "pintle/plan", byteOffset := 0 }, { name := "sent", type := 4, offset := 1, embedded := false, tag := "", pkgPath := "pintle/plan", byteOffset := 8 }] := by
  simp [Program.fieldsOf, Tryd.underlying61]

theorem eq42_in (w : World) (d : Nat) (a b c a' b' c' : Int) : (Op.equalIn (d + 2) 42 (.agg #[.int .i64 a, .int .i64 b, .int .i64 c]) (.agg #[.int .i64 a', .int .i64 b', .int .i64 c'])).run Tryd.prog w = .ok (a == a' && (b == b' && c == c')) w := by
  have h := run_equalIn_struct w (d + 1) 42 #[.int .i64 a, .int .i64 b, .int .i64 c] #[.int .i64 a', .int .i64 b', .int .i64 c'] (by rw [fields42]; exact Tryd.underlying42) (by kernel_rfl)
  rw [h, fields42]
  have e0 := eq3 w d a a'
  have e1 := eq3 w d b b'
  have e2 := eq3 w d c c'
  have p0 := part3 w #[.int .i64 a, .int .i64 b, .int .i64 c] 0 (.int .i64 a) rfl
  have p1 := part3 w #[.int .i64 a, .int .i64 b, .int .i64 c] 1 (.int .i64 b) rfl
  have p2 := part3 w #[.int .i64 a, .int .i64 b, .int .i64 c] 2 (.int .i64 c) rfl
  have q0 := part3 w #[.int .i64 a', .int .i64 b', .int .i64 c'] 0 (.int .i64 a') rfl
  have q1 := part3 w #[.int .i64 a', .int .i64 b', .int .i64 c'] 1 (.int .i64 b') rfl
  have q2 := part3 w #[.int .i64 a', .int .i64 b', .int .i64 c'] 2 (.int .i64 c') rfl
  generalize (a == a') = x at e0 ⊢
  generalize (b == b') = y at e1 ⊢
  generalize (c == c') = z at e2 ⊢
  cases x <;> cases y <;> cases z <;> simp [Op.eqFields, p0, p1, p2, q0, q1, q2, e0, e1, e2]
theorem eql42 (w : World) (a b c a' b' c' : Int) : (binOp .eql 42 (.agg #[.int .i64 a, .int .i64 b, .int .i64 c]) (.agg #[.int .i64 a', .int .i64 b', .int .i64 c'])).run Tryd.prog w = .ok (.bool (a == a' && (b == b' && c == c'))) w := by
  simp only [binOp]
  simp [Op.equal, Op.maxDepth, eq42_in w 9998 a b c a' b' c']
theorem neq42 (w : World) (a b c a' b' c' : Int) : (binOp .neq 42 (.agg #[.int .i64 a, .int .i64 b, .int .i64 c]) (.agg #[.int .i64 a', .int .i64 b', .int .i64 c'])).run Tryd.prog w = .ok (.bool (!(a == a' && (b == b' && c == c')))) w := by
  simp only [binOp]
  simp [Op.equal, Op.maxDepth, eq42_in w 9998 a b c a' b' c']
theorem eq61 (w : World) (a a' : Int) (s s' : Bool) : (Op.equal 61 (.agg #[.int .i64 a, .bool s]) (.agg #[.int .i64 a', .bool s'])).run Tryd.prog w = .ok (a == a' && s == s') w := by
  have h := run_equalIn_struct w 9999 61 #[.int .i64 a, .bool s] #[.int .i64 a', .bool s'] (by rw [fields61]; exact Tryd.underlying61) (by kernel_rfl)
  have e0 := eq3 w 9998 a a'
  have e1 := eq4 w 9998 s s'
  have p0 := part3 w #[.int .i64 a, .bool s] 0 (.int .i64 a) rfl
  have p1 := part4 w #[.int .i64 a, .bool s] 1 (.bool s) rfl
  have q0 := part3 w #[.int .i64 a', .bool s'] 0 (.int .i64 a') rfl
  have q1 := part4 w #[.int .i64 a', .bool s'] 1 (.bool s') rfl
  simp only [Op.equal, Op.maxDepth, h, fields61]
  generalize (a == a') = x at e0 ⊢
  generalize (s == s') = y at e1 ⊢
  cases x <;> cases y <;> simp [Op.eqFields, p0, p1, q0, q1, e0, e1]
end Go.Proofs.YtpemfmjplejdiaaDoor

namespace Go.Proofs.YtpemfmjplejdiaaDoor
open Go.RowKit

abbrev iv (z : Int) : Value := .int .i64 z
/-- A slice value's parts read a list of numbers. -/
def Is (w : World) (ao : Option Addr) (n : Nat) (xs : List Int) : Prop := xs.length = n ∧ n ≤ maxLen ∧ Cs w ao (xs.map iv)
theorem Is.zero (w : World) (ao : Option Addr) : Is w ao 0 [] := ⟨rfl, Nat.zero_le _, fun j u hu => by simp at hu⟩
theorem Is.at {w : World} {ao : Option Addr} {n : Nat} {xs : List Int} (h : Is w ao n xs) (k : Nat) (hk : k < n) :
    ∃ b off, ao = some ⟨b, off, none⟩ ∧ b < w.heap.size ∧ ∀ j, (hj : j < n) → w.cell? ⟨b, off + j, none⟩ = some (.int .i64 (xs[j]'(by rw [h.1]; exact hj))) := by
  obtain ⟨h1, _, h2⟩ := h
  obtain ⟨b, off, rfl, hc⟩ := h2.at k (by simp; omega)
  have hlt := World.block_lt_of_cell? w _ (hc k _ (List.getElem?_eq_getElem (by simp; omega)))
  exact ⟨b, off, rfl, hlt, fun j hj => hc j _ (by simp [show j < xs.length by omega])⟩
theorem Kp.is {w w' : World} (h : Kp w w') {ao : Option Addr} {n : Nat} {xs : List Int} (hx : Is w ao n xs) : Is w' ao n xs := ⟨hx.1, hx.2.1, h.cs hx.2.2⟩

/-- What may be known ahead of a side. -/
def okB : List Int → Bool
  | [] => true
  | [x] => x == 1 || x == 2
  | [x, y] => x == 1 && y == 2
  | _ => false

theorem el22 : El Tryd.prog 22 3 (.int .i64 0) 1 8 := ⟨Tryd.underlying22, by kernel_rfl, rfl, by decide, by decide⟩

theorem known_copy {w : World} {ao : Option Addr} {n : Nat} {xs : List Int} (hx : Is w ao n xs) (o : Obj) (j : 0 < ((xs.take 2).map iv).length) :
    some (⟨w.heap.size, 0, none⟩ : Addr) = some ⟨w.heap.size, 0, none⟩ ∧ ∃ ad, ao = some ad ∧ ∀ k v, ((xs.take 2).map iv)[k]? = some v → (w.alloc o).cell? (ad.add k) = some v := by
  have h1 := (Kp.cs (Kp.new w o) hx.2.2)
  obtain ⟨b, off, rfl, hc⟩ := h1.at 0 (by simp at j ⊢; omega)
  refine ⟨rfl, _, rfl, fun k v hv => ?_⟩
  rw [Addr.add_lit]
  refine hc k v ?_
  rw [List.map_take, List.getElem?_take] at hv
  split at hv
  · exact hv
  · cases hv

theorem cells2 {w : World} {g : Nat} {a b : Value} {t : TypeId} {mk : Nat × Nat} (h : w.heap[g]? = some (.cells #[a, b] t mk)) : w.cell? ⟨g, 0, none⟩ = some a ∧ w.cell? ⟨g, 1, none⟩ = some b := by
  constructor
  · rw [cell_of_row w g 0 #[a, b] t mk h]; rfl
  · rw [cell_of_row w g 1 #[a, b] t mk h]; rfl

set_option maxHeartbeats 1000000 in
set_option maxRecDepth 100000 in
theorem known_any (w : World) (ao : Option Addr) (n c : Nat) (xs : List Int) (hx : Is w ao n xs) :
    Calls Tryd.prog 48 #[.slice ao n c] w fun e w' => e = .returned (.bool (okB xs)) ∧ Kp w w' := by
  have hinfo : (Tryd.prog.info? 3).map (·.size) = some 1 := by kernel_rfl
  have hl := hx.1
  match xs, hx with
  | [], hx =>
    obtain rfl : n = 0 := hx.1.symm
    have hcp := known_copy hx (.cells #[iv 0, iv 0] 104)
    go_enter Tryd.func48, Tryd.ntmps48
    go_wp2_with (show wpList _ _ _ (Oper.mk (some 6) _ _ _ _ _ :: _) _ _; refine wpList_copy_splice (o := ⟨some 6, _, _, _, _, _⟩) (w := w.alloc (.cells #[iv 0, iv 0] 104)) rfl (.tmp 4) (.tmp 5) 22 22 rfl 3 Tryd.underlying22 hinfo (some ⟨w.heap.size, 0, none⟩) ao 2 2 0 c rfl rfl w.heap.size 0 [iv 0, iv 0] 104 (heap_alloc_new w _) [] rfl (fun h => by cases h) (by simp) (by simp) w.heap.size w (Kp.new w _) (Nat.le_refl _) ?_; intro w1 hh hk1)
    go_ret
    exact ⟨rfl, hk1⟩
  | [x], hx =>
    obtain rfl : n = 1 := hx.1.symm
    have hcp := Lib.hid (known_copy hx (.cells #[iv 0, iv 0] 104))
    have hq := eq104
    clear hx hl
    show Calls Tryd.prog 48 #[.slice ao 1 c] w fun e w' => e = .returned (.bool (x == 1 || x == 2)) ∧ Kp w w'
    by_cases h1 : (x == 1) = true
    · go_enter Tryd.func48, Tryd.ntmps48
      go_wp2_with (show wpList _ _ _ (Oper.mk (some 6) _ _ _ _ _ :: _) _ _; refine wpList_copy_splice (o := ⟨some 6, _, _, _, _, _⟩) (w := w.alloc (.cells #[iv 0, iv 0] 104)) rfl (.tmp 4) (.tmp 5) 22 22 rfl 3 Tryd.underlying22 hinfo (some ⟨w.heap.size, 0, none⟩) ao 2 2 1 c rfl rfl w.heap.size 0 [iv 0, iv 0] 104 (heap_alloc_new w _) [iv x] rfl hcp.out (by simp) (by simp [Value.oneCell']) w.heap.size w (Kp.new w _) (Nat.le_refl _) ?_; intro w1 hh hk1; obtain ⟨hc0, hc1⟩ := cells2 hh.out)
      go_ret
      exact ⟨rfl, hk1⟩
    · have h1 : (x == 1) = false := by simpa using h1
      go_enter Tryd.func48, Tryd.ntmps48
      go_wp2_with (show wpList _ _ _ (Oper.mk (some 6) _ _ _ _ _ :: _) _ _; refine wpList_copy_splice (o := ⟨some 6, _, _, _, _, _⟩) (w := w.alloc (.cells #[iv 0, iv 0] 104)) rfl (.tmp 4) (.tmp 5) 22 22 rfl 3 Tryd.underlying22 hinfo (some ⟨w.heap.size, 0, none⟩) ao 2 2 1 c rfl rfl w.heap.size 0 [iv 0, iv 0] 104 (heap_alloc_new w _) [iv x] rfl hcp.out (by simp) (by simp [Value.oneCell']) w.heap.size w (Kp.new w _) (Nat.le_refl _) ?_; intro w1 hh hk1; obtain ⟨hc0, hc1⟩ := cells2 hh.out)
      go_ret
      exact ⟨rfl, hk1⟩
  | [x, y], hx =>
    obtain rfl : n = 2 := hx.1.symm
    have hcp := Lib.hid (known_copy hx (.cells #[iv 0, iv 0] 104))
    have hq := eq104
    clear hx hl
    show Calls Tryd.prog 48 #[.slice ao 2 c] w fun e w' => e = .returned (.bool (x == 1 && y == 2)) ∧ Kp w w'
    go_enter Tryd.func48, Tryd.ntmps48
    go_wp2_with (show wpList _ _ _ (Oper.mk (some 6) _ _ _ _ _ :: _) _ _; refine wpList_copy_splice (o := ⟨some 6, _, _, _, _, _⟩) (w := w.alloc (.cells #[iv 0, iv 0] 104)) rfl (.tmp 4) (.tmp 5) 22 22 rfl 3 Tryd.underlying22 hinfo (some ⟨w.heap.size, 0, none⟩) ao 2 2 2 c rfl rfl w.heap.size 0 [iv 0, iv 0] 104 (heap_alloc_new w _) [iv x, iv y] rfl hcp.out (by simp) (by simp [Value.oneCell']) w.heap.size w (Kp.new w _) (Nat.le_refl _) ?_; intro w1 hh hk1; obtain ⟨hc0, hc1⟩ := cells2 hh.out)
    go_ret
    exact ⟨rfl, hk1⟩
  | x :: y :: z :: r, hx =>
    obtain ⟨m, rfl⟩ : ∃ m, n = m + 3 := ⟨r.length, by rw [← hx.1]; rfl⟩
    have hcp := Lib.hid (known_copy hx (.cells #[iv 0, iv 0] 104))
    have hm := hx.2.1
    unfold maxLen at hm
    clear hx hl
    have hmin : ([iv x, iv y] : List Value).length = Nat.min (m + 3) 2 := by show 2 = min (m + 3) 2; omega
    show Calls Tryd.prog 48 #[.slice ao (m + 3) c] w fun e w' => e = .returned (.bool false) ∧ Kp w w'
    go_enter Tryd.func48, Tryd.ntmps48
    go_wp2_with (show wpList _ _ _ (Oper.mk (some 6) _ _ _ _ _ :: _) _ _; refine wpList_copy_splice (o := ⟨some 6, _, _, _, _, _⟩) (w := w.alloc (.cells #[iv 0, iv 0] 104)) rfl (.tmp 4) (.tmp 5) 22 22 rfl 3 Tryd.underlying22 hinfo (some ⟨w.heap.size, 0, none⟩) ao 2 2 (m + 3) c rfl rfl w.heap.size 0 [iv 0, iv 0] 104 (heap_alloc_new w _) [iv x, iv y] hmin hcp.out (by simp) (by simp [Value.oneCell']) w.heap.size w (Kp.new w _) (Nat.le_refl _) ?_; intro w1 hh hk1; obtain ⟨hc0, hc1⟩ := cells2 hh.out)
    go_ret
    exact ⟨rfl, hk1⟩
end Go.Proofs.YtpemfmjplejdiaaDoor

namespace Go.Proofs.YtpemfmjplejdiaaDoor
open Go.RowKit

def wantRows : List Value := [iv 3, iv 1, iv 1, iv 4, iv 1, iv 2, iv 5, iv 2, iv 1, iv 6, iv 2, iv 2]
/-- The keys of a secret: the initiator's, the responder's. -/
def wantI (t : Int) : Int := if t = 3 then 1 else if t = 4 then 1 else if t = 5 then 2 else if t = 6 then 2 else 0
def wantR (t : Int) : Int := if t = 3 then 1 else if t = 4 then 2 else if t = 5 then 1 else if t = 6 then 2 else 0
def isSec (t : Int) : Bool := t == 3 || t == 4 || t == 5 || t == 6

def WantsPost (w : World) (t : Int) (e : Ending) (w' : World) : Prop := Kp w w' ∧ e = .returned (.tuple #[.agg #[iv (if isSec t then t else 0), iv (wantI t), iv (wantR t)], .bool (isSec t)])

set_option maxHeartbeats 1000000 in
theorem wants_any (w : World) (t : Int) (h1 : 1 ≤ t) (h7 : t ≤ 7) : Calls Tryd.prog 49 #[iv t] w (WantsPost w t) := by
  go_enter Tryd.func49, Tryd.ntmps49
  go_wp2_with fail
  obtain ⟨wl, hwl⟩ : ∃ x, x = (w.alloc (.cells #[iv 0, iv 0, iv 0] 97)).alloc (.cells wantRows.toArray 97) := ⟨_, rfl⟩
  have hk0 : Kp w wl := by rw [hwl]; exact Kp.trans (Kp.new _ _) (Kp.new _ _)
  have hsz : wl.heap.size = w.heap.size + 2 := by rw [hwl]; simp
  have hc : ∀ j u, wantRows[j]? = some u → wl.cell? ⟨w.heap.size + 1, j, none⟩ = some u := by
    intro j u hu
    obtain ⟨b, off, e, h⟩ := Cs.new (w.alloc (.cells #[iv 0, iv 0, iv 0] 97)) wantRows 97 (0, 0) j u hu
    simp only [World.size_alloc, Option.some.injEq, Addr.mk.injEq, and_true] at e
    obtain ⟨rfl, rfl⟩ := e
    rw [Nat.zero_add] at h
    rw [hwl]; exact h
  have hz : ∀ j, j < 3 → wl.cell? ⟨w.heap.size, j, none⟩ = some (iv 0) ∧ wl.frozen? ⟨w.heap.size, j, none⟩ = false := by
    intro j hj
    have h1 : (w.alloc (.cells #[iv 0, iv 0, iv 0] 97)).cell? ⟨w.heap.size, j, none⟩ = some (iv 0) := by
      rw [World.cell?_alloc_at _ _ _ _ rfl]
      rcases j with _ | _ | _ | j
      · rfl
      · rfl
      · rfl
      · omega
    have h2 : (w.alloc (.cells #[iv 0, iv 0, iv 0] 97)).frozen? ⟨w.heap.size, j, none⟩ = false := World.frozen?_alloc_at _ _ _ _ rfl
    rw [hwl]
    exact ⟨Kp.cell (Kp.new _ _) h1, (Fr.of_kp (Kp.new _ _)).free h1 h2 (by simp)⟩
  have hg : (w.alloc (.cells #[iv 0, iv 0, iv 0] 97)).alloc (.cells #[Value.int IntKind.i64 3, Value.int IntKind.i64 1, Value.int IntKind.i64 1, Value.int IntKind.i64 4, Value.int IntKind.i64 1, Value.int IntKind.i64 2, Value.int IntKind.i64 5, Value.int IntKind.i64 2, Value.int IntKind.i64 1, Value.int IntKind.i64 6, Value.int IntKind.i64 2, Value.int IntKind.i64 2] 97) = wl := by rw [hwl]; rfl
  rw [hg]
  clear hg hwl
  have Hsz := Lib.hid hsz; clear hsz
  have Hc := Lib.hid hc; clear hc
  have Hz := Lib.hid hz; clear hz
  go_loopw [12] (fun i wr => ∃ k : Nat, k ≤ 4 ∧ i = .int .i64 k ∧ Kp wl wr ∧ (k = 0 ∨ t ≠ 3) ∧ (k ≤ 1 ∨ t ≠ 4) ∧ (k ≤ 2 ∨ t ≠ 5) ∧ (k ≤ 3 ∨ t ≠ 6)) (fun i _ => 4 - (intOf i).toNat)
  case atStart => exact ⟨0, by omega, rfl, Kp.refl _, by omega, by omega, by omega, by omega⟩
  case round =>
    obtain ⟨k, hk, rfl, hkk, n3, n4, n5, n6⟩ := hrel
    have hA : ∀ j, j < 3 → ∀ o, (wr.alloc o).cell? ⟨w.heap.size, j, none⟩ = some (iv 0) ∧ (wr.alloc o).frozen? ⟨w.heap.size, j, none⟩ = false := fun j hj o => by
      obtain ⟨z, f⟩ := Hz.out j hj
      have k := Kp.trans hkk (Kp.new wr o)
      exact ⟨Kp.cell k z, (Fr.of_kp k).free z f (by simp)⟩
    have a0 := fun o => (hA 0 (by omega) o).1
    have a1 := fun o => (hA 1 (by omega) o).1
    have a2 := fun o => (hA 2 (by omega) o).1
    have b0 := fun o => (hA 0 (by omega) o).2
    have b1 := fun o => (hA 1 (by omega) o).2
    have b2 := fun o => (hA 2 (by omega) o).2
    clear hA
    have hlt : w.heap.size + 2 ≤ wr.heap.size := by have := hkk.size; have := Hsz.out; omega
    rcases (show k = 0 ∨ k = 1 ∨ k = 2 ∨ k = 3 ∨ k = 4 by omega) with rfl | rfl | rfl | rfl | rfl
    · have c0 := Kp.cell hkk (Hc.out 0 _ rfl)
      have c1 := Kp.cell hkk (Hc.out 1 _ rfl)
      have c2 := Kp.cell hkk (Hc.out 2 _ rfl)
      by_cases ht : t = 3
      · subst ht
        clear n3 n4 n5 n6
        go_wp2_with fail
        refine bodyPost_ret (v := .tuple #[.agg #[iv 3, iv 1, iv 1], .bool true]) (by simp [results, Tryd.results49, go_sem, a0, a1, a2]) rfl ⟨?_, rfl⟩
        exact (((Kp.trans hk0 (Kp.trans hkk (Kp.new _ _))).setCell (Nat.le_refl _) _).setCell (Nat.le_refl _) _).setCell (Nat.le_refl _) _
      · have hb : ((3 : Int) == t) = false := by simp; omega
        go_wp2_with fail
        go_roundw
        case rel => exact ⟨1, by omega, rfl, Kp.trans hkk (Kp.new _ _), by omega, by omega, by omega, by omega⟩
        case measure => simp [intOf]
    · have c0 := Kp.cell hkk (Hc.out 3 _ rfl)
      have c1 := Kp.cell hkk (Hc.out 4 _ rfl)
      have c2 := Kp.cell hkk (Hc.out 5 _ rfl)
      by_cases ht : t = 4
      · subst ht
        clear n3 n4 n5 n6
        go_wp2_with fail
        refine bodyPost_ret (v := .tuple #[.agg #[iv 4, iv 1, iv 2], .bool true]) (by simp [results, Tryd.results49, go_sem, a0, a1, a2]) rfl ⟨?_, rfl⟩
        exact (((Kp.trans hk0 (Kp.trans hkk (Kp.new _ _))).setCell (Nat.le_refl _) _).setCell (Nat.le_refl _) _).setCell (Nat.le_refl _) _
      · have hb : ((4 : Int) == t) = false := by simp; omega
        go_wp2_with fail
        go_roundw
        case rel => exact ⟨2, by omega, rfl, Kp.trans hkk (Kp.new _ _), by omega, by omega, by omega, by omega⟩
        case measure => simp [intOf]
    · have c0 := Kp.cell hkk (Hc.out 6 _ rfl)
      have c1 := Kp.cell hkk (Hc.out 7 _ rfl)
      have c2 := Kp.cell hkk (Hc.out 8 _ rfl)
      by_cases ht : t = 5
      · subst ht
        clear n3 n4 n5 n6
        go_wp2_with fail
        refine bodyPost_ret (v := .tuple #[.agg #[iv 5, iv 2, iv 1], .bool true]) (by simp [results, Tryd.results49, go_sem, a0, a1, a2]) rfl ⟨?_, rfl⟩
        exact (((Kp.trans hk0 (Kp.trans hkk (Kp.new _ _))).setCell (Nat.le_refl _) _).setCell (Nat.le_refl _) _).setCell (Nat.le_refl _) _
      · have hb : ((5 : Int) == t) = false := by simp; omega
        go_wp2_with fail
        go_roundw
        case rel => exact ⟨3, by omega, rfl, Kp.trans hkk (Kp.new _ _), by omega, by omega, by omega, by omega⟩
        case measure => simp [intOf]
    · have c0 := Kp.cell hkk (Hc.out 9 _ rfl)
      have c1 := Kp.cell hkk (Hc.out 10 _ rfl)
      have c2 := Kp.cell hkk (Hc.out 11 _ rfl)
      by_cases ht : t = 6
      · subst ht
        clear n3 n4 n5 n6
        go_wp2_with fail
        refine bodyPost_ret (v := .tuple #[.agg #[iv 6, iv 2, iv 2], .bool true]) (by simp [results, Tryd.results49, go_sem, a0, a1, a2]) rfl ⟨?_, rfl⟩
        exact (((Kp.trans hk0 (Kp.trans hkk (Kp.new _ _))).setCell (Nat.le_refl _) _).setCell (Nat.le_refl _) _).setCell (Nat.le_refl _) _
      · have hb : ((6 : Int) == t) = false := by simp; omega
        go_wp2_with fail
        go_roundw
        case rel => exact ⟨4, by omega, rfl, Kp.trans hkk (Kp.new _ _), by omega, by omega, by omega, by omega⟩
        case measure => simp [intOf]
    · have ht : t ≠ 3 ∧ t ≠ 4 ∧ t ≠ 5 ∧ t ≠ 6 := by omega
      have e0 : isSec t = false := by simp [isSec]; omega
      have e1 : wantI t = 0 := by unfold wantI; rw [if_neg ht.1, if_neg ht.2.1, if_neg ht.2.2.1, if_neg ht.2.2.2]
      have e2 : wantR t = 0 := by unfold wantR; rw [if_neg ht.1, if_neg ht.2.1, if_neg ht.2.2.1, if_neg ht.2.2.2]
      have hpost : ∀ w', Kp w w' → WantsPost w t (.returned (.tuple #[.agg #[iv 0, iv 0, iv 0], .bool false])) w' := fun w' h => ⟨h, by rw [e0, e1, e2]; rfl⟩
      obtain ⟨z0, f0⟩ := Hz.out 0 (by omega)
      obtain ⟨z1, f1⟩ := Hz.out 1 (by omega)
      obtain ⟨z2, f2⟩ := Hz.out 2 (by omega)
      have g0 := (Fr.of_kp hkk).free z0 f0 (by simp)
      have g1 := (Fr.of_kp hkk).free z1 f1 (by simp)
      have g2 := (Fr.of_kp hkk).free z2 f2 (by simp)
      have y0 := Kp.cell hkk z0
      have y1 := Kp.cell hkk z1
      have y2 := Kp.cell hkk z2
      have Hpost := Lib.hid hpost
      clear hpost e0 e1 e2 n3 n4 n5 n6 ht
      go_wp2_with fail
      refine bodyPost_ret (v := .tuple #[.agg #[iv 0, iv 0, iv 0], .bool false]) (by simp [results, Tryd.results49, go_sem, y0, y1, y2]) rfl (Hpost.out _ ?_)
      exact (((Kp.trans hk0 hkk).setCell (Nat.le_refl _) _).setCell (Nat.le_refl _) _).setCell (Nat.le_refl _) _
end Go.Proofs.YtpemfmjplejdiaaDoor

namespace Go.Proofs.YtpemfmjplejdiaaDoor
open Go.RowKit

/-- The state of a check lies in block b: has[side][token] at 3 side + token, stood[token] at 6 + token. -/
def WalkAt (w : World) (b : Nat) (S : Nat → Bool) : Prop := ∀ j, j < 14 → w.cell? ⟨b, j, none⟩ = some (.bool (S j)) ∧ w.frozen? ⟨b, j, none⟩ = false
theorem Kp.walk {w w' : World} (h : Kp w w') {b : Nat} {S : Nat → Bool} (hx : WalkAt w b S) : WalkAt w' b S := fun j hj => ⟨h.cell (hx j hj).1, (Fr.of_kp h).free (hx j hj).1 (hx j hj).2 (by simp)⟩

def safeL (S : Nat → Bool) (side : Int) : Bool :=
  if side = 0 then (!S 11 || S 9) && (!S 12 || S 10) && (!S 13 || S 1) else (!S 10 || S 9) && (!S 12 || S 11) && (!S 13 || S 4)

set_option maxHeartbeats 2000000 in
theorem safe_0 (w : World) (b : Nat) (S : Nat → Bool) (h : WalkAt w b S) : Calls Tryd.prog 38 #[.pointer (some ⟨b, 0, none⟩), iv 0] w fun e w' => e = .returned (.bool (safeL S 0)) ∧ w = w' := by
  have c11 := (h 11 (by omega)).1
  have c9 := (h 9 (by omega)).1
  have c12 := (h 12 (by omega)).1
  have c10 := (h 10 (by omega)).1
  have c13 := (h 13 (by omega)).1
  have c1 := (h 1 (by omega)).1
  have hs : safeL S 0 = ((!S 11 || S 9) && (!S 12 || S 10) && (!S 13 || S 1)) := rfl
  rw [hs]
  clear hs
  have H := Lib.hid h; clear h
  generalize S 11 = x11 at *
  generalize S 9 = x9 at *
  generalize S 12 = x12 at *
  generalize S 10 = x10 at *
  generalize S 13 = x13 at *
  generalize S 1 = x1 at *
  go_enter Tryd.func38, Tryd.ntmps38
  go_wp2_with fail
  all_goals
    go_ret
    refine ⟨?_, rfl⟩
    simp_all
set_option maxHeartbeats 2000000 in
theorem safe_1 (w : World) (b : Nat) (S : Nat → Bool) (h : WalkAt w b S) : Calls Tryd.prog 38 #[.pointer (some ⟨b, 0, none⟩), iv 1] w fun e w' => e = .returned (.bool (safeL S 1)) ∧ w = w' := by
  have c11 := (h 11 (by omega)).1
  have c9 := (h 9 (by omega)).1
  have c12 := (h 12 (by omega)).1
  have c10 := (h 10 (by omega)).1
  have c13 := (h 13 (by omega)).1
  have c4 := (h 4 (by omega)).1
  have hs : safeL S 1 = ((!S 10 || S 9) && (!S 12 || S 11) && (!S 13 || S 4)) := rfl
  rw [hs]
  clear hs
  have H := Lib.hid h; clear h
  generalize S 11 = x11 at *
  generalize S 9 = x9 at *
  generalize S 12 = x12 at *
  generalize S 10 = x10 at *
  generalize S 13 = x13 at *
  generalize S 4 = x4 at *
  go_enter Tryd.func38, Tryd.ntmps38
  go_wp2_with fail
  all_goals
    go_ret
    refine ⟨?_, rfl⟩
    simp_all
theorem safe_any (w : World) (b : Nat) (S : Nat → Bool) (f : Int) (hf : f = 0 ∨ f = 1) (h : WalkAt w b S) : Calls Tryd.prog 38 #[.pointer (some ⟨b, 0, none⟩), iv f] w fun e w' => e = .returned (.bool (safeL S f)) ∧ w = w' := by
  rcases hf with rfl | rfl
  · exact safe_0 w b S h
  · exact safe_1 w b S h
end Go.Proofs.YtpemfmjplejdiaaDoor
