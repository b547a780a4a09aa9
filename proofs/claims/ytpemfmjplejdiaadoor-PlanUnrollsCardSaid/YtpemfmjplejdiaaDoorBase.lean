/- Plain lemmas over the model are proved: slices that read as lists, rows of the call own, frames. No condition of their own. -/
import Derived.Test.YtpemfmjplejdiaaDoorChecked
import Derived.WalkKit
import Derived.WalkSpells
import Derived.WalkLawsBesides
import Derived.BigQuiet
import Derived.Lib.Hide
import Derived.Deep.DeepFit
import Derived.Deep.RegionWith
import Derived.Deep.DeepCutAuto
import Derived.Laws.CopyOwn
import Derived.StillTailTactics
import Derived.Lib.SlBytesConst
namespace Go.Proofs.YtpemfmjplejdiaaDoor
open Go.RowKit

/-- The cells from an address on read xs. -/
def Cs (w : World) (ao : Option Addr) (xs : List Value) : Prop :=
  ∀ j u, xs[j]? = some u → ∃ b off, ao = some ⟨b, off, none⟩ ∧ w.cell? ⟨b, off + j, none⟩ = some u

theorem Cs.at {w : World} {ao : Option Addr} {xs : List Value} (h : Cs w ao xs) (k : Nat) (hk : k < xs.length) :
    ∃ b off, ao = some ⟨b, off, none⟩ ∧ ∀ j u, xs[j]? = some u → w.cell? ⟨b, off + j, none⟩ = some u := by
  obtain ⟨b, off, rfl, _⟩ := h k _ (List.getElem?_eq_getElem hk)
  refine ⟨b, off, rfl, fun j u hu => ?_⟩
  obtain ⟨b', off', e, hc⟩ := h j u hu
  simp only [Option.some.injEq, Addr.mk.injEq, and_true] at e
  obtain ⟨rfl, rfl⟩ := e
  exact hc

abbrev by8 (x : UInt8) : Value := .int .u8 (x.toNat : Int)

/-- A slice value's parts read a list of bytes. -/
def Bs (w : World) (ao : Option Addr) (n : Nat) (xs : List UInt8) : Prop := xs.length = n ∧ n ≤ maxLen ∧ Cs w ao (xs.map by8)

theorem Bs.at {w : World} {ao : Option Addr} {n : Nat} {xs : List UInt8} (h : Bs w ao n xs) (k : Nat) (hk : k < n) :
    ∃ b off, ao = some ⟨b, off, none⟩ ∧ b < w.heap.size ∧ ∀ j, (hj : j < n) → w.cell? ⟨b, off + j, none⟩ = some (.int .u8 ((xs[j]'(by rw [h.1]; exact hj)).toNat : Int)) := by
  obtain ⟨h1, _, h2⟩ := h
  obtain ⟨b, off, rfl, hc⟩ := h2.at k (by simp; omega)
  have hlt := World.block_lt_of_cell? w _ (hc k _ (List.getElem?_eq_getElem (by simp; omega)))
  exact ⟨b, off, rfl, hlt, fun j hj => hc j _ (by simp [show j < xs.length by omega])⟩

theorem byte_eq (a b : UInt8) : (((a.toNat : Int)) == (b.toNat : Int)) = (a == b) := by
  have h := @UInt8.toNat_inj a b
  rw [Bool.eq_iff_iff]
  simp only [beq_iff_eq]
  constructor
  · intro h1; exact h.1 (by omega)
  · intro h1; rw [h1]


theorem take_step {α : Type} (l : List α) (k : Nat) (h : k < l.length) : l.take (k + 1) = l.take k ++ [l[k]] := List.take_succ_eq_append_getElem h

/-! ### Frames -/
/-- Everything that was there is as it was. -/
abbrev Kp (w w' : World) : Prop := Below w.heap.size w w'

theorem Kp.of_drewN (w : World) (k : Nat) : Kp w (w.drewN k) := ⟨rfl, rfl, rfl, Nat.le_refl _, fun _ _ => rfl⟩
theorem Kp.new (w : World) (o : Obj) : Kp w (w.alloc o) := (Below.refl _ _).alloc (Nat.le_refl _) o
theorem Kp.refl (w : World) : Kp w w := Below.refl _ _
theorem Kp.trans {a b c : World} (h : Kp a b) (k : Kp b c) : Kp a c := Below.trans h (Below.mono k h.size)
theorem Kp.cell {w w' : World} (h : Kp w w') {p : Addr} {v : Value} (hc : w.cell? p = some v) : w'.cell? p = some v :=
  (Below.cell h (World.block_lt_of_cell? w p hc)).trans hc
theorem Kp.cs {w w' : World} (h : Kp w w') {ao : Option Addr} {xs : List Value} (hx : Cs w ao xs) : Cs w' ao xs := fun j u hu => by
  obtain ⟨b, off, e, hc⟩ := hx j u hu
  exact ⟨b, off, e, h.cell hc⟩
theorem Kp.bs {w w' : World} (h : Kp w w') {ao : Option Addr} {n : Nat} {xs : List UInt8} (hx : Bs w ao n xs) : Bs w' ao n xs := ⟨hx.1, hx.2.1, h.cs hx.2.2⟩

/-! ### Rows of the call's own -/
/-- A slice value's parts own a row of cells, in a block from 'base' on. -/
def Own (w : World) (base : Nat) (e : TypeId) (size : Nat) (ao : Option Addr) (n cap : Nat) (xs : List Value) : Prop := w.ownsRow base e size (.slice ao n cap) n xs

def blk (ao : Option Addr) : Option Nat := ao.map (·.block)
theorem ownBlock_slice (ao : Option Addr) (n cap : Nat) : Value.ownBlock (.slice ao n cap) = blk ao := by cases ao <;> rfl

theorem Own.nil (w : World) (base : Nat) (e : TypeId) (size : Nat) : Own w base e size none 0 0 [] := World.ownsRow_nil w base e size
theorem Own.cs {w : World} {base : Nat} {e : TypeId} {size : Nat} {ao : Option Addr} {n cap : Nat} {xs : List Value} (h : Own w base e size ao n cap xs) : Cs w ao xs := by
  intro j u hu
  have h0 := h
  obtain ⟨hl, hc⟩ := h
  rcases hc with ⟨hv, hn⟩ | ⟨g, cap', cur, hv, _, hg, _, _, _, ht⟩
  · subst hn; simp at hl; subst hl; simp at hu
  · simp only [Value.slice.injEq] at hv
    obtain ⟨rfl, _, rfl⟩ := hv
    exact ⟨g, 0, rfl, by have := World.ownsRow.cells h0 (g := g) rfl j u hu; rwa [Addr.add_lit] at this⟩
theorem Own.keep {w w' : World} {base : Nat} {e : TypeId} {size : Nat} {ao : Option Addr} {n cap : Nat} {xs : List Value} (h : Own w base e size ao n cap xs) (k : Kp w w') : Own w' base e size ao n cap xs := by
  obtain ⟨hl, hc⟩ := h
  refine ⟨hl, ?_⟩
  rcases hc with hn | ⟨g, cap', cur, hv, hb, hg, r⟩
  · exact .inl hn
  · refine .inr ⟨g, cap', cur, hv, hb, ?_, r⟩
    rw [k.block g (Array.getElem?_eq_some_iff.1 hg).1]; exact hg
theorem Own.lt {w : World} {base : Nat} {e : TypeId} {size : Nat} {ao : Option Addr} {n cap : Nat} {xs : List Value} (h : Own w base e size ao n cap xs) : ∀ k, blk ao = some k → base ≤ k ∧ k < w.heap.size := by
  intro k hk
  exact World.ownsRow.lt h k (by rw [ownBlock_slice]; exact hk)
theorem Own.mono {w : World} {base base' : Nat} {e : TypeId} {size : Nat} {ao : Option Addr} {n cap : Nat} {xs : List Value} (h : Own w base e size ao n cap xs) (hb : ∀ k, blk ao = some k → base' ≤ k) : Own w base' e size ao n cap xs := by
  obtain ⟨hl, hc⟩ := h
  refine ⟨hl, ?_⟩
  rcases hc with hn | ⟨g, cap', cur, hv, hb', r⟩
  · exact .inl hn
  · refine .inr ⟨g, cap', cur, hv, ?_, r⟩
    simp only [Value.slice.injEq] at hv
    obtain ⟨rfl, _, _⟩ := hv
    exact hb g rfl

section app
variable {P : Program}

theorem run_append_owned_none' (w : World) (base : Nat) (t ty e : TypeId) (i : TypeInfo) (size : Nat) (ht : P.underlying t = some (.slice e)) (hi : P.info? e = some i)
    (v : Value) (n c : Nat) (xs : List Value) (hown : w.ownsRow base e size v n xs) :
    (Builtin.append_ #[t, t] ty #[v, .slice none 0 c]).run P w = .ok v w := by
  rcases hown.2 with ⟨rfl, rfl⟩ | ⟨g, cap, cur, rfl, _, _, hnc, _⟩
  · simp [Builtin.append_, run_underlying ht, sizeOf, typeInfo, hi, Builtin.lenOf, Builtin.firstCells]
  · simp [Builtin.append_, run_underlying ht, sizeOf, typeInfo, hi, Builtin.lenOf, Builtin.firstCells, hnc, storeCells]

/-- An element type's row of the table. -/
structure El (P : Program) (t e : TypeId) (z : Value) (size bytes : Nat) : Prop where
  und : P.underlying t = some (.slice e)
  info : (P.info? e).map (fun i => (i.zero, i.size, i.bytes)) = some (some z, size, bytes)
  zs : z.cells.size = size
  pos : 0 < size
  bpos : 0 < bytes

/-- What an append on a row of the call's own leaves. -/
structure Appd (w w' : World) (base : Nat) (e : TypeId) (size : Nat) (ao : Option Addr) (cap m N : Nat) (zs : List Value) (ao' : Option Addr) (cap' : Nat) : Prop where
  own : Own w' base e size ao' N cap' zs
  grown : w.grownBy w' (blk ao)
  room : N ≤ cap → ao ≠ none → ao' = ao ∧ cap' = cap
  nil : ao' = none ↔ ao = none ∧ m = 0
  fresh : ∀ k, blk ao' = some k → blk ao = some k ∨ k = w.heap.size
  move : ao' = ao ∨ w.grownBy w' none ∧ blk ao' = some w.heap.size

theorem run_app (w : World) (base : Nat) (t ty e : TypeId) (z : Value) (size bytes : Nat) (E : El P t e z size bytes)
    (ao : Option Addr) (n cap : Nat) (xs : List Value) (hown : Own w base e size ao n cap xs)
    (bo : Option Addr) (m c : Nat) (news : List Value) (hl : news.length = m * size) (hnews : Cs w bo news) (h1 : ∀ u ∈ news, u.oneCell' = true)
    (N : Nat) (hN : N = n + m) (zs : List Value) (hzs : zs = xs ++ news) (hbytes : N * bytes ≤ 140737488355328) (hbase : base ≤ w.heap.size) :
    ∃ ao' cap' w', (Builtin.append_ #[t, t] ty #[.slice ao n cap, .slice bo m c]).run P w = .ok (.slice ao' N cap') w' ∧ Appd w w' base e size ao cap m N zs ao' cap' := by
  subst hN; subst hzs
  have ht := E.und
  have hsz := E.pos
  obtain ⟨i, hi, hz, hsize, hby⟩ := info_parts E.info
  have h63 : n + m ≤ maxLen := by
    have h1 := E.bpos
    have h2 : (n + m) * 1 ≤ (n + m) * bytes := Nat.mul_le_mul_left _ h1
    unfold maxLen; omega
  cases bo with
  | none =>
    have hnn : news = [] := by
      cases news with
      | nil => rfl
      | cons u r => obtain ⟨b, off, e, _⟩ := hnews 0 u rfl; cases e
    subst hnn
    have hm : m = 0 := by
      rcases Nat.eq_zero_or_pos m with h | h
      · exact h
      · have := Nat.mul_pos h hsz
        simp only [List.length_nil] at hl
        omega
    subst hm
    refine ⟨ao, cap, w, run_append_owned_none' w base t ty e i size ht hi _ n c xs hown, by simpa using hown, World.grownBy.refl _ _, fun _ _ => ⟨rfl, rfl⟩, by simp, fun k hk => .inl hk, .inl rfl⟩
  | some ad =>
    have hnews' : ∀ j u, news[j]? = some u → w.cell? (ad.add j) = some u := fun j u hu => by
      obtain ⟨b, off, e, hc⟩ := hnews j u hu
      simp only [Option.some.injEq] at e
      subst e
      rw [Addr.add_lit]; exact hc
    by_cases hroom : n + m ≤ cap ∧ ao ≠ none
    · obtain ⟨hroom, hne⟩ := hroom
      have hown0 := hown
      obtain ⟨_, hc⟩ := hown
      rcases hc with ⟨hv, hn⟩ | ⟨g, cap', cur, hv, _⟩
      · simp only [Value.slice.injEq] at hv; exact absurd hv.1 hne
      · simp only [Value.slice.injEq] at hv
        obtain ⟨rfl, _, rfl⟩ := hv
        obtain ⟨w', hr, h2, h3⟩ := run_append_fits (P := P) w base t ty e i size ht hi hsize g n cap xs hown0 ad m c news hl hnews' h1 hroom
        exact ⟨_, _, w', hr, h2, h3, fun _ _ => ⟨rfl, rfl⟩, by simp, fun k hk => .inl hk, .inl rfl⟩
    · have hlen : (xs ++ news).length = (n + m) * size := by rw [List.length_append, hown.1, hl, Nat.add_mul]
      have grown : ∀ (old : Nat), old < n + m → ∀ (row : Option Nat),
          Own (w.drew.alloc (.cells (xs.toArray ++ news.toArray ++ Builtin.zeroCells z.cells (grownCap w (n + m) old e - (n + m))) e)) base e size
            (some ⟨w.heap.size, 0, none⟩) (n + m) (grownCap w (n + m) old e) (xs ++ news) ∧
          w.grownBy (w.drew.alloc (.cells (xs.toArray ++ news.toArray ++ Builtin.zeroCells z.cells (grownCap w (n + m) old e - (n + m))) e)) row := by
        intro old ho row
        have hge := grownCap_ge w (n + m) old e
        have hcm : grownCap w (n + m) old e ≤ maxLen := grownCap_le_maxLen w (n + m) old e h63
        refine ⟨⟨hlen, .inr ⟨w.heap.size, _, _, rfl, hbase, heap_alloc_new w.drew _, hge, hcm, ?_, ?_⟩⟩, ⟨rfl, rfl, rfl, by simp, fun k hk _ => Below.heap_alloc w.drew _ k hk⟩⟩
        · simp only [Array.size_append, List.size_toArray, size_zeroCells, E.zs, hown.1, hl, ← Nat.add_mul]
          congr 1
          omega
        · simp only [Array.toList_append, List.append_assoc]
          rw [← List.append_assoc, ← hlen]
          exact List.take_left
      subst hsize; subst hby
      have hown0 := hown
      rcases hown.2 with ⟨hv, hn0⟩ | ⟨g, cap', cur, hv, hbg, hg, hnc, hcm, hcs, htake⟩
      · simp only [Value.slice.injEq] at hv
        obtain ⟨rfl, _, rfl⟩ := hv
        subst hn0
        have hx : xs = [] := List.eq_nil_of_length_eq_zero (by simpa using hown.1)
        subst hx
        by_cases hm : m = 0
        · subst hm
          have hn : news = [] := List.eq_nil_of_length_eq_zero (by simpa using hl)
          subst hn
          refine ⟨none, 0, w, ?_, Own.nil _ _ _ _, World.grownBy.refl _ _, fun _ h => absurd rfl h, by simp, fun k hk => .inl hk, .inl rfl⟩
          simp [Builtin.append_, run_underlying ht, sizeOf, typeInfo, hi, Builtin.lenOf, Builtin.firstCells, loadCells, loadCellsFrom]
        · have hr := run_append_nil (P := P) w t ty e i z ht hi hz ad m c news hl hnews' (by omega) (by unfold maxLen at h63; omega) (by have hb := hbytes; simp only [Nat.zero_add] at hb; omega)
          have hgr := grown 0 (by omega) (blk none)
          simp only [Nat.zero_add, List.nil_append, Array.empty_append] at hgr ⊢
          exact ⟨_, _, _, hr, hgr.1, hgr.2, fun _ h => absurd rfl h, by simp [hm], fun k hk => .inr (by simpa [blk, eq_comm] using hk), .inr ⟨hgr.2, rfl⟩⟩
      · simp only [Value.slice.injEq] at hv
        obtain ⟨rfl, _, rfl⟩ := hv
        have holds : ∀ j u, xs[j]? = some u → w.cell? ((⟨g, 0, none⟩ : Addr).add j) = some u := World.ownsRow.cells hown0 (g := g) rfl
        have hlt : cap < n + m := by
          rcases Nat.lt_or_ge cap (n + m) with h | h
          · exact h
          · exact absurd ⟨h, by simp⟩ hroom
        have hr := run_append_grow (P := P) w t ty e i z ht hi hz ⟨g, 0, none⟩ n cap xs hown.1 holds ad m c news hl hnews' (by omega) (by unfold maxLen at h63; omega) (growslice_fits (by unfold maxLen at h63; omega) hbytes)
        have hgr := grown cap (by omega) (blk (some ⟨g, 0, none⟩))
        have hgr2 := grown cap (by omega) none
        exact ⟨_, _, _, hr, hgr.1, hgr.2, fun a b => absurd ⟨a, b⟩ hroom, by simp, fun k hk => .inr (by simpa [blk, eq_comm] using hk), .inr ⟨hgr2.2, rfl⟩⟩

theorem Appd.below {w w' : World} {base B : Nat} {e : TypeId} {size : Nat} {ao : Option Addr} {cap m N : Nat} {zs : List Value} {ao' : Option Addr} {cap' : Nat}
    (h : Appd w w' base e size ao cap m N zs ao' cap') {w0 : World} (hb : Below B w0 w) (hB : B ≤ w.heap.size) (hao : ∀ k, blk ao = some k → B ≤ k) : Below B w0 w' := hb.grown h.grown hB hao

theorem wp_app {w : World} {o : Oper} {a : Act} {K : Act → World → Prop} {Q : Exit → Act → World → Prop} (s x : Operand) (t : TypeId)
    (ho : o.op = .call { callee := .builtin .append, args := #[s, x], argTypes := #[t, t] })
    (e : TypeId) (z : Value) (size bytes : Nat) (E : El P t e z size bytes) (base : Nat)
    (ao : Option Addr) (n cap : Nat) (xs : List Value) (hs : a.eval s = .slice ao n cap) (hown : Own w base e size ao n cap xs)
    (bo : Option Addr) (m c : Nat) (news : List Value) (hx : a.eval x = .slice bo m c) (hl : news.length = m * size) (hnews : Cs w bo news) (h1 : ∀ u ∈ news, u.oneCell' = true)
    (N : Nat) (hN : N = n + m) (zs : List Value) (hzs : zs = xs ++ news) (hbytes : N * bytes ≤ 140737488355328) (hbase : base ≤ w.heap.size)
    (h : ∀ ao' cap' w', Appd w w' base e size ao cap m N zs ao' cap' → K (a.put o.dst (.slice ao' N cap')) w') : o.wp P a w K Q := by
  obtain ⟨ao', cap', w', hr, h2⟩ := run_app (P := P) w base t o.type e z size bytes E ao n cap xs hown bo m c news hl hnews h1 N hN zs hzs hbytes hbase
  unfold Oper.wp execOp
  simp only [ho, resolve, invoke, builtin, Sem.run_bind, Sem.run_pure, Result.andThen_ok, List.map_toArray, List.map_cons, List.map_nil, hs, hx, hr]
  exact h ao' cap' w' h2

/-- 'append' on a row of the call's own (or nil), whatever the source: nil, empty, or not. The new length N and the new cells zs are given. -/
theorem wpList_app {w : World} {ops : Array Oper} {rest : List Oper} {o : Oper} {a : Act} {Q : Exit → Act → World → Prop} (hgd : o.guard = none) (s x : Operand) (t : TypeId)
    (ho : o.op = .call { callee := .builtin .append, args := #[s, x], argTypes := #[t, t] })
    {e : TypeId} {z : Value} {size bytes : Nat} (E : El P t e z size bytes) (base : Nat)
    {ao : Option Addr} {n cap : Nat} {xs : List Value} (hs : a.eval s = .slice ao n cap) (hown : Own w base e size ao n cap xs)
    {bo : Option Addr} {m c : Nat} (hx : a.eval x = .slice bo m c) (news : List Value) (hl : news.length = m * size) (hnews : Cs w bo news) (h1 : ∀ u ∈ news, u.oneCell' = true)
    (N : Nat) (hN : N = n + m) (zs : List Value) (hzs : zs = xs ++ news) (hbytes : N * bytes ≤ 140737488355328) (hbase : base ≤ w.heap.size)
    (h : ∀ ao' cap' w', Appd w w' base e size ao cap m N zs ao' cap' → wpList P ops Q rest (a.put o.dst (.slice ao' N cap')) w') : wpList P ops Q (o :: rest) a w :=
  wpList_plain hgd fun _ hK => wp_app s x t ho e z size bytes E base ao n cap xs hs hown bo m c news hx hl hnews h1 N hN zs hzs hbytes hbase fun ao' cap' w' h2 => hK _ _ (h ao' cap' w' h2)

/-- 'make([]T, n)', each element one cell: n zero elements. -/
theorem wpList_mk {w : World} {ops : Array Oper} {rest : List Oper} {o : Oper} {a : Act} {Q : Exit → Act → World → Prop}
    (hg : o.guard = none) (l c : Operand) (t : TypeId) (hop : o.op = Op.makeSlice t l c)
    {e : TypeId} {z : Value} {bytes : Nat} (E : El P t e z 1 bytes) (h6 : z.cells = #[z])
    {kl kc : IntKind} {L C : Int} (n : Nat) (hl : a.eval l = .int kl L) (hc : a.eval c = .int kc C) (hL : L = (n : Int)) (hC : C = (n : Int)) (b2 : bytes * n ≤ 281474976710656)
    (hK : ∀ w', Own w' w.heap.size e 1 (some ⟨w.heap.size, 0, none⟩) n n (List.replicate n z) → Kp w w' → wpList P ops Q rest (a.put o.dst (.slice (some ⟨w.heap.size, 0, none⟩) n n)) w') :
    wpList P ops Q (o :: rest) a w := by
  obtain ⟨i, h2, h3, h4, h5⟩ := info_parts E.info
  subst h5
  have b3 : n ≤ maxLen := by
    have h1 := E.bpos
    have h2 : 1 * n ≤ i.bytes * n := Nat.mul_le_mul_right _ h1
    unfold maxLen; omega
  refine wpList_make_full w hg l c t hop w.heap.size e i z 1 E.und h2 h3 h4 kl kc L C n hl hc hL hC b2 b3 (Nat.le_refl _) (fun w' hown hgrow => hK w' ?_ ?_)
  · rw [h6, Nat.mul_one, toList_madeCells_one] at hown
    exact hown
  · exact (Below.refl _ _).grown hgrow (Nat.le_refl _) (fun k hk => by cases hk)

/-- 'make([]T, 0, n)'. -/
theorem wpList_mk0 {w : World} {ops : Array Oper} {rest : List Oper} {o : Oper} {a : Act} {Q : Exit → Act → World → Prop}
    (hg : o.guard = none) (l c : Operand) (t : TypeId) (hop : o.op = Op.makeSlice t l c)
    {e : TypeId} {z : Value} {size bytes : Nat} (E : El P t e z size bytes)
    {kl kc : IntKind} {C : Int} (n : Nat) (hl : a.eval l = .int kl 0) (hc : a.eval c = .int kc C) (hC : C = (n : Int)) (b2 : bytes * n ≤ 281474976710656)
    (hK : ∀ w', Own w' w.heap.size e size (some ⟨w.heap.size, 0, none⟩) 0 n [] → Kp w w' → wpList P ops Q rest (a.put o.dst (.slice (some ⟨w.heap.size, 0, none⟩) 0 n)) w') :
    wpList P ops Q (o :: rest) a w := by
  obtain ⟨i, h2, h3, h4, h5⟩ := info_parts E.info
  subst h5
  have b3 : n ≤ maxLen := by
    have h1 := E.bpos
    have h2 : 1 * n ≤ i.bytes * n := Nat.mul_le_mul_right _ h1
    unfold maxLen; omega
  refine wpList_make_own w hg l c t hop w.heap.size e i z size E.und h2 h3 h4 kl kc C n hl hc hC b2 b3 (Nat.le_refl _) (fun w' hown hgrow => hK w' hown ?_)
  exact (Below.refl _ _).grown hgrow (Nat.le_refl _) (fun k hk => by cases hk)
end app

theorem cells_map_one {α : Type} (f : α → Value) (hf : ∀ x, (f x).oneCell' = true) (xs : List α) : ∀ u ∈ xs.map f, u.oneCell' = true := by
  intro u hu
  obtain ⟨x, _, rfl⟩ := List.mem_map.1 hu
  exact hf x

/-- A new block of cells is read as its cells. -/
theorem Cs.new (w : World) (cs : List Value) (e : TypeId) (mk : Nat × Nat) : Cs (w.alloc (.cells cs.toArray e mk)) (some ⟨w.heap.size, 0, none⟩) cs := fun j u hu => by
  refine ⟨w.heap.size, 0, rfl, ?_⟩
  rw [cell_of_row _ w.heap.size (0 + j) cs.toArray e mk (heap_alloc_new w _)]
  simpa using hu


/-! ### Frames with a footprint: only the blocks of X may have changed -/
structure Fr (X : List Nat) (w w' : World) : Prop where
  os : w'.os = w.os
  tape : w'.tape = w.tape
  output : w'.output = w.output
  size : w.heap.size ≤ w'.heap.size
  block : ∀ k, k < w.heap.size → k ∉ X → w'.heap[k]? = w.heap[k]?

def blkL (ao : Option Addr) : List Nat := (blk ao).toList
theorem mem_blkL {ao : Option Addr} {k : Nat} : k ∈ blkL ao ↔ blk ao = some k := by unfold blkL; cases blk ao <;> simp [eq_comm]
theorem mem_blkL_some {b o : Nat} {k : Nat} : k ∈ blkL (some ⟨b, o, none⟩) ↔ k = b := by simp [blkL, blk]

theorem Fr.of_kp {w w' : World} (h : Kp w w') : Fr [] w w' := ⟨h.os, h.tape, h.output, h.size, fun k hk _ => h.block k hk⟩
theorem Fr.kp {w w' : World} (h : Fr [] w w') : Kp w w' := ⟨h.os, h.tape, h.output, h.size, fun k hk => h.block k hk (by simp)⟩
theorem Fr.refl (X : List Nat) (w : World) : Fr X w w := ⟨rfl, rfl, rfl, Nat.le_refl _, fun _ _ _ => rfl⟩
theorem Fr.mono {X Y : List Nat} {w w' : World} (h : Fr X w w') (hs : ∀ k ∈ X, k ∈ Y) : Fr Y w w' := ⟨h.os, h.tape, h.output, h.size, fun k hk hn => h.block k hk (fun hx => hn (hs k hx))⟩
theorem Fr.trans {X : List Nat} {a b c : World} (h : Fr X a b) (k : Fr X b c) : Fr X a c :=
  ⟨k.os.trans h.os, k.tape.trans h.tape, k.output.trans h.output, Nat.le_trans h.size k.size, fun i hi hn => (k.block i (Nat.lt_of_lt_of_le hi h.size) hn).trans (h.block i hi hn)⟩
/-- What is changed in the second step is of X, or new. -/
theorem Fr.step {X Y : List Nat} {a b c : World} (h : Fr X a b) (k : Fr Y b c) (hY : ∀ j ∈ Y, j ∈ X ∨ a.heap.size ≤ j) : Fr X a c :=
  ⟨k.os.trans h.os, k.tape.trans h.tape, k.output.trans h.output, Nat.le_trans h.size k.size, fun i hi hn => (k.block i (Nat.lt_of_lt_of_le hi h.size) (fun hy => by rcases hY i hy with h1 | h1; exact hn h1; omega)).trans (h.block i hi hn)⟩
theorem Fr.of_grown {w w' : World} {ao : Option Addr} (h : w.grownBy w' (blk ao)) : Fr (blkL ao) w w' :=
  ⟨h.os, h.tape, h.output, h.size, fun k hk hn => h.block k hk (fun e => hn (mem_blkL.2 e.symm))⟩
theorem Appd.fr {w w' : World} {base : Nat} {e : TypeId} {size : Nat} {ao : Option Addr} {cap m N : Nat} {zs : List Value} {ao' : Option Addr} {cap' : Nat}
    (h : Appd w w' base e size ao cap m N zs ao' cap') : Fr (blkL ao) w w' := Fr.of_grown h.grown
theorem Fr.new (X : List Nat) (w : World) (o : Obj) : Fr X w (w.alloc o) := (Fr.of_kp (Kp.new w o)).mono (by simp)
theorem Fr.set (w : World) (p : Addr) (u : Value) : Fr [p.block] w (w.setCell p u) :=
  ⟨rfl, rfl, rfl, by simp [World.setCell], fun k _ hn => Below.heap_setCell _ _ _ _ (by simpa using hn)⟩
theorem Fr.drewN (X : List Nat) (w : World) (k : Nat) : Fr X w (w.drewN k) := (Fr.of_kp (Kp.of_drewN w k)).mono (by simp)
theorem Fr.drew (X : List Nat) (w : World) : Fr X w w.drew := ⟨rfl, rfl, rfl, Nat.le_refl _, fun _ _ _ => rfl⟩

theorem Fr.cell {X : List Nat} {w w' : World} (h : Fr X w w') {p : Addr} {v : Value} (hc : w.cell? p = some v) (hX : p.block ∉ X) : w'.cell? p = some v :=
  (World.cell?_of_block (h.block p.block (World.block_lt_of_cell? w p hc) hX)).trans hc
theorem Fr.free {X : List Nat} {w w' : World} (h : Fr X w w') {p : Addr} {u : Value} (hc : w.cell? p = some u) {f : Bool} (hf : w.frozen? p = f) (hX : p.block ∉ X) : w'.frozen? p = f :=
  (World.frozen?_of_block (h.block p.block (World.block_lt_of_cell? w p hc) hX)).trans hf
theorem Fr.cs {X : List Nat} {w w' : World} (h : Fr X w w') {ao : Option Addr} {xs : List Value} (hx : Cs w ao xs) (hX : ∀ k ∈ blkL ao, k ∉ X) : Cs w' ao xs := fun j u hu => by
  obtain ⟨b, off, rfl, hc⟩ := hx j u hu
  exact ⟨b, off, rfl, h.cell hc (hX b (by simp [blkL, blk]))⟩
theorem Fr.bs {X : List Nat} {w w' : World} (h : Fr X w w') {ao : Option Addr} {n : Nat} {xs : List UInt8} (hx : Bs w ao n xs) (hX : ∀ k ∈ blkL ao, k ∉ X) : Bs w' ao n xs := ⟨hx.1, hx.2.1, h.cs hx.2.2 hX⟩
theorem Fr.own {X : List Nat} {w w' : World} (k : Fr X w w') {base : Nat} {e : TypeId} {size : Nat} {ao : Option Addr} {n cap : Nat} {xs : List Value} (h : Own w base e size ao n cap xs) (hX : ∀ k ∈ blkL ao, k ∉ X) : Own w' base e size ao n cap xs := by
  obtain ⟨hl, hc⟩ := h
  refine ⟨hl, ?_⟩
  rcases hc with hn | ⟨g, cap', cur, hv, hb, hg, r⟩
  · exact .inl hn
  · refine .inr ⟨g, cap', cur, hv, hb, ?_, r⟩
    simp only [Value.slice.injEq] at hv
    rw [k.block g (Array.getElem?_eq_some_iff.1 hg).1 (hX g (by rw [hv.1]; simp [blkL, blk]))]; exact hg

theorem Own.bs {w : World} {base : Nat} {e : TypeId} {ao : Option Addr} {n cap : Nat} {xs : List UInt8} (h : Own w base e 1 ao n cap (xs.map by8)) : Bs w ao n xs := by
  have hl := h.1
  refine ⟨by simpa using hl, ?_, h.cs⟩
  rcases h.2 with ⟨_, hn⟩ | ⟨g, cap', cur, hv, _, _, h1, h2, _⟩
  · omega
  · exact Nat.le_trans h1 h2
theorem Own.cap {w : World} {base : Nat} {e : TypeId} {size : Nat} {ao : Option Addr} {n cap : Nat} {xs : List Value} (h : Own w base e size ao n cap xs) : n ≤ cap := by
  rcases h.2 with ⟨hv, hn⟩ | ⟨g, cap', cur, hv, _, _, h1, h2, _⟩
  · omega
  · simp only [Value.slice.injEq] at hv; omega

/-- A slice of bytes cut at its head: 's[l:h]'. -/
theorem Bs.cut {w : World} {ao : Option Addr} {n : Nat} {xs : List UInt8} (hx : Bs w ao n xs) (l k : Nat) (h : l + k ≤ n) (c : Prop) [Decidable c] (hc : c → k = 0) :
    Bs w (if c then ao else ao.map (·.add l)) k ((xs.drop l).take k) := by
  refine ⟨by simp [hx.1]; omega, Nat.le_trans (by omega) hx.2.1, ?_⟩
  by_cases hk : c
  · rw [hc hk]; intro j u hu; simp at hu
  · rw [if_neg hk]
    intro j u hu
    have hj : j < k := by
      have := (List.getElem?_eq_some_iff.1 hu).1
      simp at this; omega
    have hu' : (xs.map by8)[l + j]? = some u := by
      simp only [List.map_take, List.map_drop] at hu
      rw [List.getElem?_take, if_pos hj, List.getElem?_drop] at hu
      exact hu
    obtain ⟨b, off, rfl, hcc⟩ := hx.2.2 _ _ hu'
    refine ⟨b, off + l, ?_, by rw [Nat.add_assoc]; exact hcc⟩
    simp [Addr.add_lit]

theorem Bs.zero (w : World) (ao : Option Addr) : Bs w ao 0 [] := ⟨rfl, Nat.zero_le _, fun j u hu => by simp at hu⟩
theorem Bs.sub {w : World} {b off : Nat} {n : Nat} {xs : List UInt8} (hx : Bs w (some ⟨b, off, none⟩) n xs) (l k : Nat) (h : l + k ≤ n) :
    Bs w (some ⟨b, off + l, none⟩) k ((xs.drop l).take k) := by
  have := hx.cut l k h False (fun h => h.elim)
  rwa [if_neg (fun h => h), Option.map_some, Addr.add_lit] at this

theorem Own.block {w : World} {base : Nat} {e : TypeId} {size : Nat} {ao : Option Addr} {n cap : Nat} {xs : List Value} (h : Own w base e size ao n cap xs) (hn : 0 < n) :
    ∃ g cur, ao = some ⟨g, 0, none⟩ ∧ base ≤ g ∧ w.heap[g]? = some (.cells cur e (0, 0)) ∧ cur.size = cap * size ∧ cap ≤ maxLen ∧ cur.toList.take (n * size) = xs := by
  rcases h.2 with ⟨hv, h0⟩ | ⟨g, cap', cur, hv, hb, hg, h1, h2, h3, h4⟩
  · omega
  · simp only [Value.slice.injEq] at hv
    obtain ⟨rfl, _, rfl⟩ := hv
    exact ⟨g, cur, rfl, hb, hg, h3, h2, h4⟩

/-- 'copy' to the head of a row of the call's own, out of whatever place (the row itself too). -/
theorem wpList_cpy {P : Program} {w : World} {ops : Array Oper} {rest : List Oper} {o : Oper} {a : Act} {Q : Exit → Act → World → Prop} (hgd : o.guard = none) (d s : Operand) (dT sT : TypeId)
    (ho : o.op = .call { callee := .builtin .copy, args := #[d, s], argTypes := #[dT, sT] }) {z : Value} {bytes : Nat} {e : TypeId} (E : El P dT e z 1 bytes)
    {base : Nat} {ao so : Option Addr} {n cap dn dcap m c : Nat} {xs : List Value} (hn : 0 < n) (hown : Own w base e 1 ao n cap xs) (hd : a.eval d = .slice ao dn dcap) (hs : a.eval s = .slice so m c)
    (cs : List Value) (hl : cs.length = m) (hm : m ≤ dn) (hdn : dn ≤ n) (hcs : Cs w so cs) (h1 : ∀ v ∈ cs, v.oneCell' = true)
    (h : ∀ w', Own w' base e 1 ao n cap (cs ++ xs.drop m) → Fr (blkL ao) w w' → wpList P ops Q rest (a.put o.dst (goInt m)) w') : wpList P ops Q (o :: rest) a w := by
  have hown0 := hown
  obtain ⟨g, cur, rfl, hb, hg, hsz, hcm, ht⟩ := hown.block hn
  have hcap := hown.cap
  have hlen := hown.1
  simp only [Nat.mul_one] at hsz ht hlen
  have hmin : cs.length = Nat.min m dn := by rw [hl]; exact (Nat.min_eq_left hm).symm
  have hinfo : (P.info? e).map (·.size) = some 1 := by
    obtain ⟨i, hi, _, h4, _⟩ := info_parts E.info
    rw [hi]; simp [h4]
  have done : ∀ w', w'.heap[g]? = some (.cells (cs ++ cur.toList.drop cs.length).toArray e (0, 0)) → Fr [g] w w' → wpList P ops Q rest (a.put o.dst (goInt cs.length)) w' := by
    intro w' hw' hfr
    rw [hl]
    refine h w' ⟨?_, .inr ⟨g, cap, _, rfl, hb, hw', hcap, hcm, ?_, ?_⟩⟩ hfr
    · simp [hl, hlen]; omega
    · simp [hl, hsz]; omega
    · rw [← ht]
      simp only [Nat.mul_one]
      rw [List.take_append, List.take_of_length_le (by omega), hl, List.drop_take]
  by_cases h0 : cs.length = 0
  · obtain rfl : cs = [] := List.eq_nil_of_length_eq_zero h0
    refine wpList_copy_nothing hgd d s dT sT ho e E.und hinfo _ so dn dcap m c hd hs (by simpa using hmin.symm) ?_
    exact done w (by simpa using hg) (Fr.refl _ _)
  · obtain ⟨b, off, rfl, hcc⟩ := hcs.at 0 (by omega)
    have := wpList_copy_own (P := P) (w := w) (ops := ops) (rest := rest) (Q := Q) hgd d s dT sT ho e E.und hinfo g 0 dn dcap ⟨b, off, none⟩ m c hd hs cur e hg cs hmin
      (fun j v hv => by rw [Addr.add_lit]; exact hcc j v hv) (by simp [hl, hsz]; omega) h1
    refine this (done _ ?_ ?_)
    · have := setRow_heap w g cur (cur.toList.take 0 ++ (cs ++ cur.toList.drop (0 + cs.length))).toArray e (0, 0) hg
      simpa using this
    · exact ⟨rfl, rfl, rfl, by simp [World.setRow], fun k _ hk => setRow_other w g k _ (by simpa using hk)⟩

/-- A region that draws: n operations that only read, then a forced tail. -/
theorem region_tail {P : Program} {id : Nat} {Q : Exit → Act → World → Prop} {a : Act} {w : World} {l : List Oper} (n : Nat) (hm : P.follows .mixedOrders = true) (hB : Region.lexTailB .any l.toArray n = true)
    (h : wpStill P l.toArray w.drew (fun a' => wpList P l.toArray Q (l.drop n) a' w.drew) (l.take n) a) : (Code.region id l.toArray true).wp P Q a w := wp_region_still_tail n hm hB h

theorem Own.shrink {w : World} {base : Nat} {e : TypeId} {size : Nat} {ao : Option Addr} {n cap : Nat} {xs : List Value} (h : Own w base e size ao n cap xs) (k : Nat) (hk : k ≤ n) : Own w base e size ao k cap (xs.take (k * size)) := by
  have hl := h.1
  have hkn : k * size ≤ n * size := Nat.mul_le_mul_right _ hk
  refine ⟨by simp; omega, ?_⟩
  rcases h.2 with ⟨hv, h0⟩ | ⟨g, cap', cur, hv, hb, hg, h1, h2, h3, h4⟩
  · obtain rfl : k = 0 := by omega
    simp only [Value.slice.injEq] at hv
    exact .inl ⟨by rw [hv.1, hv.2.2], rfl⟩
  · simp only [Value.slice.injEq] at hv
    obtain ⟨rfl, _, rfl⟩ := hv
    exact .inr ⟨g, cap, cur, rfl, hb, hg, by omega, h2, h3, by rw [← h4, List.take_take, Nat.min_eq_left hkn]⟩

#print axioms Bs.sub
#print axioms wpList_app
end Go.Proofs.YtpemfmjplejdiaaDoor
