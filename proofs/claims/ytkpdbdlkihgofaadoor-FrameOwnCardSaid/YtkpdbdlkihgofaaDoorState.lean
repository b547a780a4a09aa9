/- What FrameOwn holds: a Reader, two tables, rows of its own, kept apart by colours. No condition. -/
import Derived.Test.YtkpdbdlkihgofaaDoorPieces
namespace Go.Proofs.YtkpdbdlkihgofaaDoor
open Go.RowKit

/-- A row of bytes of the call's own. -/
structure Row where
  ao : Option Addr
  n : Nat
  cap : Nat
  bs : List UInt8
def Row.val (r : Row) : Value := .slice r.ao r.n r.cap
def Row.ok (r : Row) (w : World) : Prop := Own w 0 5 1 r.ao r.n r.cap (r.bs.map by8)

/-- These blocks bear the colour c, and lie from B on. -/
def Col (col : Nat → Nat) (c B : Nat) (l : List Nat) : Prop := ∀ k ∈ l, col k = c ∧ B ≤ k
/-- What is made from M on is coloured anew. -/
def dye (col : Nat → Nat) (M c : Nat) : Nat → Nat := fun k => if M ≤ k then c else col k
theorem Col.old {col : Nat → Nat} {c B : Nat} {l : List Nat} (h : Col col c B l) (M d : Nat) (hl : ∀ k ∈ l, k < M) : Col (dye col M d) c B l := fun k hk => by
  have h1 := hl k hk
  exact ⟨by unfold dye; rw [if_neg (by omega)]; exact (h k hk).1, (h k hk).2⟩
/-- Some of a coloured list, and what is new. -/
theorem Col.more {col : Nat → Nat} {c B : Nat} {l : List Nat} (h : Col col c B l) (M : Nat) (hB : B ≤ M) (hl : ∀ k ∈ l, k < M) {l' : List Nat} (hs : ∀ k ∈ l', k ∈ l ∨ M ≤ k) : Col (dye col M c) c B l' := fun k hk => by
  rcases hs k hk with h1 | h1
  · exact h.old M c hl k h1
  · exact ⟨by unfold dye; rw [if_pos h1], by omega⟩
theorem Col.apart {col : Nat → Nat} {c d B : Nat} {l X : List Nat} (h : Col col c B l) (hX : ∀ k ∈ X, col k = d) (hcd : c ≠ d) : ∀ k ∈ l, k ∉ X := fun k hk hk2 => hcd ((h k hk).1.symm.trans (hX k hk2))
theorem Col.nil (col : Nat → Nat) (c B : Nat) : Col col c B [] := fun k hk => by simp at hk
theorem Col.none (col : Nat → Nat) (c B : Nat) : Col col c B (blkL none) := fun k hk => by simp [blkL, blk] at hk

/-- One entry: blocks, and what they hold. -/
structure Ent where
  bl : List Nat
  P : World → Prop
  keep : ∀ {X : List Nat} {w w' : World}, Fr X w w' → (∀ j ∈ bl, j ∉ X) → P w → P w'
  lt : ∀ {w : World}, P w → ∀ k ∈ bl, k < w.heap.size
def Row.ent (r : Row) : Ent := ⟨blkL r.ao, r.ok, fun k hX h => k.own h hX, fun h k hk => (Own.lt h k (mem_blkL.1 hk)).2⟩
/-- Two rows that are only read. -/
def ent2 (r g : Row) : Ent := ⟨blkL r.ao ++ blkL g.ao, fun w => Bs w r.ao r.n r.bs ∧ Bs w g.ao g.n g.bs ∧ ∀ k ∈ blkL r.ao ++ blkL g.ao, k < w.heap.size,
  fun k hX h => ⟨k.bs h.1 (fun j hj => hX j (by simp [hj])), k.bs h.2.1 (fun j hj => hX j (by simp [hj])), fun j hj => Nat.lt_of_lt_of_le (h.2.2 j hj) k.size⟩, fun h => h.2.2⟩
/-- A list that is only read. -/
def entB (ao : Option Addr) (n : Nat) (xs : List UInt8) : Ent := ⟨blkL ao, fun w => Bs w ao n xs ∧ ∀ k ∈ blkL ao, k < w.heap.size, fun k hX h => ⟨k.bs h.1 hX, fun j hj => Nat.lt_of_lt_of_le (h.2 j hj) k.size⟩, fun h => h.2⟩
def ent0 : Ent := ⟨[], fun _ => True, fun _ _ _ => trivial, fun _ k hk => by simp at hk⟩

def upd {α : Type} (f : Nat → α) (n : Nat) (x : α) : Nat → α := fun i => if i = n then x else f i
theorem upd_self {α : Type} (f : Nat → α) (n : Nat) (x : α) : upd f n x n = x := by simp [upd]
theorem upd_ne {α : Type} (f : Nat → α) (n : Nat) (x : α) (i : Nat) (h : i ≠ n) : upd f n x i = f i := by simp [upd, h]
theorem upd_upd {α : Type} (f : Nat → α) (n : Nat) (x y : α) : upd (upd f n x) n y = upd f n y := by
  funext i; unfold upd; split <;> rfl
theorem upd_same {α : Type} (f : Nat → α) (n : Nat) : upd f n (f n) = f := by
  funext i; unfold upd; split
  · next h => rw [h]
  · rfl
theorem upd_ent (R : Nat → Row) (n : Nat) (r : Row) : upd (fun i => (R i).ent) n r.ent = fun i => (upd R n r i).ent := by
  funext i; unfold upd; split <;> rfl
def tvals (R : Nat → Row) (n : Nat) : List Value := (List.range n).map fun i => (R i).val
theorem tvals_length (R : Nat → Row) (n : Nat) : (tvals R n).length = n := by simp [tvals]
theorem tvals_get (R : Nat → Row) (n i : Nat) (h : i < n) : (tvals R n)[i]? = some (.slice (R i).ao (R i).n (R i).cap) := by
  simp [tvals, h]; rfl
theorem tvals_congr (R S : Nat → Row) (n : Nat) (h : ∀ i, i < n → (R i).val = (S i).val) : tvals R n = tvals S n := by
  unfold tvals
  exact List.map_congr_left (fun i hi => h i (List.mem_range.1 hi))
theorem tvals_upd (R : Nat → Row) (n : Nat) (r : Row) : tvals (upd R n r) (n + 1) = tvals R n ++ [.slice r.ao r.n r.cap] := by
  unfold tvals
  rw [List.range_succ, List.map_append]
  congr 1
  · exact List.map_congr_left (fun i hi => by rw [upd_ne _ _ _ _ (by have := List.mem_range.1 hi; omega)])
  · simp [upd]; rfl

def RdrC (B : Nat) (w : World) (col : Nat → Nat) (r : Nat) (held : List UInt8) (T : Nat) : Prop := ∃ ao, Rdr w 0 r ao held T ∧ Col col 1 B (r :: blkL ao)
def TabC (B : Nat) (w : World) (col : Nat → Nat) (c : Nat) (e : TypeId) (tp : Option Addr) (tn tc : Nat) (tv : List Value) : Prop := Own w 0 e 1 tp tn tc tv ∧ Col col c B (blkL tp)
def FamC (B : Nat) (w : World) (col : Nat → Nat) (n : Nat) (e : Nat → Ent) : Prop := ∀ i, i < n → (e i).P w ∧ Col col (4 + i) B (e i).bl

section pieces
variable {B : Nat} {w w' : World} {col : Nat → Nat} {r : Nat} {held : List UInt8} {T c d : Nat} {le : TypeId} {tp : Option Addr} {tn tc : Nat} {tv : List Value} {n : Nat} {e : Nat → Ent} {X : List Nat}
theorem RdrC.keep (h : RdrC B w col r held T) (k : Fr X w w') (hX : ∀ j ∈ X, col j ≠ 1) : RdrC B w' col r held T := by
  obtain ⟨ao, h1, h2⟩ := h
  exact ⟨ao, h1.keep k (fun j hj hj2 => hX j hj2 (h2 j hj).1), h2⟩
theorem RdrC.old (h : RdrC B w col r held T) (d : Nat) : RdrC B w (dye col w.heap.size d) r held T := by
  obtain ⟨ao, h1, h2⟩ := h
  exact ⟨ao, h1, h2.old _ _ h1.lt⟩
theorem TabC.keep (h : TabC B w col c le tp tn tc tv) (k : Fr X w w') (hX : ∀ j ∈ X, col j ≠ c) : TabC B w' col c le tp tn tc tv :=
  ⟨k.own h.1 (fun j hj hj2 => hX j hj2 (h.2 j hj).1), h.2⟩
theorem TabC.old (h : TabC B w col c le tp tn tc tv) (d : Nat) : TabC B w (dye col w.heap.size d) c le tp tn tc tv :=
  ⟨h.1, h.2.old _ _ (fun k hk => (h.1.lt k (mem_blkL.1 hk)).2)⟩
theorem FamC.keep (h : FamC B w col n e) (k : Fr X w w') (hX : ∀ j ∈ X, col j < 4) : FamC B w' col n e := fun i hi =>
  ⟨(e i).keep k (fun j hj hj2 => by have h1 := ((h i hi).2 j hj).1; have := hX j hj2; omega) (h i hi).1, (h i hi).2⟩
theorem FamC.old (h : FamC B w col n e) (d : Nat) : FamC B w (dye col w.heap.size d) n e := fun i hi =>
  ⟨(h i hi).1, (h i hi).2.old _ _ ((e i).lt (h i hi).1)⟩
end pieces

/-- All of it, behind the world w0. -/
def St (w0 w : World) (r : Nat) (held : List UInt8) (T : Nat) (tp : Option Addr) (tn tc : Nat) (tv : List Value) (le : TypeId) (lo : Option Addr) (ln lc : Nat) (lv : List Value) (x : Ent) (n : Nat) (e : Nat → Ent) : Prop :=
  Kp w0 w ∧ ∃ col, RdrC w0.heap.size w col r held T ∧ TabC w0.heap.size w col 2 22 tp tn tc tv ∧ TabC w0.heap.size w col 3 le lo ln lc lv ∧ (x.P w ∧ Col col 0 w0.heap.size x.bl) ∧ FamC w0.heap.size w col n e

section state
variable {w0 w w' : World} {r : Nat} {held : List UInt8} {T : Nat} {tp : Option Addr} {tn tc : Nat} {tv : List Value} {le : TypeId} {lo : Option Addr} {ln lc : Nat} {lv : List Value} {x : Ent} {n : Nat} {e : Nat → Ent}

theorem St.keeps (h : St w0 w r held T tp tn tc tv le lo ln lc lv x n e) : Kp w0 w := h.1
theorem St.tab (h : St w0 w r held T tp tn tc tv le lo ln lc lv x n e) : Own w 0 22 1 tp tn tc tv := by
  obtain ⟨_, col, _, h1, _⟩ := h; exact h1.1
theorem St.lin (h : St w0 w r held T tp tn tc tv le lo ln lc lv x n e) : Own w 0 le 1 lo ln lc lv := by
  obtain ⟨_, col, _, _, h1, _⟩ := h; exact h1.1
theorem St.aux (h : St w0 w r held T tp tn tc tv le lo ln lc lv x n e) : x.P w := by
  obtain ⟨_, col, _, _, _, h1, _⟩ := h; exact h1.1
theorem St.fam (h : St w0 w r held T tp tn tc tv le lo ln lc lv x n e) (i : Nat) (hi : i < n) : (e i).P w := by
  obtain ⟨_, col, _, _, _, _, h1⟩ := h; exact (h1 i hi).1
theorem St.kp (h : St w0 w r held T tp tn tc tv le lo ln lc lv x n e) (k : Kp w w') : St w0 w' r held T tp tn tc tv le lo ln lc lv x n e := by
  obtain ⟨hk, col, h1, h2, h3, h4, h5⟩ := h
  have k' := Fr.of_kp k
  exact ⟨Kp.trans hk k, col, h1.keep k' (by simp), h2.keep k' (by simp), h3.keep k' (by simp), ⟨x.keep k' (by simp) h4.1, h4.2⟩, h5.keep k' (by simp)⟩
/-- The second table begun anew. -/
theorem St.anew (h : St w0 w r held T tp tn tc tv le lo ln lc lv x n e) (le' : TypeId) : St w0 w r held T tp tn tc tv le' none 0 0 [] x n e := by
  obtain ⟨hk, col, h1, h2, h3, h4, h5⟩ := h
  exact ⟨hk, col, h1, h2, ⟨Own.nil _ _ _ _, Col.none _ _ _⟩, h4, h5⟩
/-- A new entry. -/
theorem St.add (h : St w0 w r held T tp tn tc tv le lo ln lc lv x n e) (k : Kp w w') (y : Ent) (hy : y.P w') (hn : ∀ j ∈ y.bl, w.heap.size ≤ j) : St w0 w' r held T tp tn tc tv le lo ln lc lv x (n + 1) (upd e n y) := by
  obtain ⟨hk, col, h1, h2, h3, h4, h5⟩ := h
  have k' := Fr.of_kp k
  refine ⟨Kp.trans hk k, dye col w.heap.size (4 + n), (h1.old _).keep k' (by simp), (h2.old _).keep k' (by simp), (h3.old _).keep k' (by simp), ⟨x.keep k' (by simp) h4.1, h4.2.old _ _ (x.lt h4.1)⟩, fun i hi => ?_⟩
  by_cases hin : i = n
  · subst hin
    rw [upd_self]
    exact ⟨hy, (Col.nil col _ _).more _ hk.size (by simp) (fun j hj => .inr (hn j hj))⟩
  · rw [upd_ne _ _ _ _ hin]
    exact ((h5.old (4 + n)).keep k' (by simp)) i (by omega)
/-- The tail, or the like. -/
theorem St.setAux (h : St w0 w r held T tp tn tc tv le lo ln lc lv x n e) (k : Kp w w') (y : Ent) (hy : y.P w') (hn : ∀ j ∈ y.bl, w.heap.size ≤ j) : St w0 w' r held T tp tn tc tv le lo ln lc lv y n e := by
  obtain ⟨hk, col, h1, h2, h3, h4, h5⟩ := h
  have k' := Fr.of_kp k
  exact ⟨Kp.trans hk k, dye col w.heap.size 0, (h1.old _).keep k' (by simp), (h2.old _).keep k' (by simp), (h3.old _).keep k' (by simp), ⟨hy, (Col.nil col _ _).more _ hk.size (by simp) (fun j hj => .inr (hn j hj))⟩, (h5.old _).keep k' (by simp)⟩
theorem Col.ge {col : Nat → Nat} {c B : Nat} {l : List Nat} (h : Col col c B l) : ∀ j ∈ l, B ≤ j := fun j hj => (h j hj).2
theorem kp_step {w0 w w' : World} {X : List Nat} (hk : Kp w0 w) (k : Fr X w w') (h : ∀ j ∈ X, w0.heap.size ≤ j) : Kp w0 w' := ((Fr.of_kp hk).step k (fun j hj => .inr (h j hj))).kp
/-- An entry written, moved, or put in the place of another. -/
theorem St.repl (h : St w0 w r held T tp tn tc tv le lo ln lc lv x n e) (i : Nat) (hi : i < n) {X : List Nat} (k : Fr X w w') (hX : ∀ j ∈ X, j ∈ (e i).bl) (y : Ent) (hy : y.P w') (hn : ∀ j ∈ y.bl, j ∈ (e i).bl ∨ w.heap.size ≤ j) : St w0 w' r held T tp tn tc tv le lo ln lc lv x n (upd e i y) := by
  obtain ⟨hk, col, h1, h2, h3, h4, h5⟩ := h
  have hlt := (e i).lt (h5 i hi).1
  have hc := (h5 i hi).2
  have hXc : ∀ j ∈ X, dye col w.heap.size (4 + i) j = 4 + i := fun j hj => ((hc.old _ (4 + i) hlt) j (hX j hj)).1
  refine ⟨kp_step hk k (fun j hj => (hc j (hX j hj)).2), dye col w.heap.size (4 + i), (h1.old _).keep k (fun j hj => by rw [hXc j hj]; omega), (h2.old _).keep k (fun j hj => by rw [hXc j hj]; omega), (h3.old _).keep k (fun j hj => by rw [hXc j hj]; omega), ⟨x.keep k ((h4.2.old _ (4 + i) (x.lt h4.1)).apart hXc (by omega)) h4.1, h4.2.old _ _ (x.lt h4.1)⟩, fun j hj => ?_⟩
  by_cases hij : j = i
  · subst hij
    rw [upd_self]
    exact ⟨hy, hc.more _ hk.size hlt hn⟩
  · rw [upd_ne _ _ _ _ hij]
    have h6 := (h5.old (4 + i)) j hj
    exact ⟨(e j).keep k (h6.2.apart hXc (by omega)) h6.1, h6.2⟩
/-- An append at the first table. -/
theorem St.tabApp (h : St w0 w r held T tp tn tc tv le lo ln lc lv x n e) {m N : Nat} {zs : List Value} {tp' : Option Addr} {tc' : Nat} (a : Appd w w' 0 22 1 tp tc m N zs tp' tc') : St w0 w' r held T tp' N tc' zs le lo ln lc lv x n e := by
  obtain ⟨hk, col, h1, h2, h3, h4, h5⟩ := h
  have k := a.fr
  have hlt : ∀ j ∈ blkL tp, j < w.heap.size := fun j hj => (h2.1.lt j (mem_blkL.1 hj)).2
  have hXc : ∀ j ∈ blkL tp, dye col w.heap.size 2 j = 2 := fun j hj => ((h2.2.old _ 2 hlt) j hj).1
  exact ⟨kp_step hk k h2.2.ge, dye col w.heap.size 2, (h1.old _).keep k (fun j hj => by rw [hXc j hj]; omega), ⟨a.own, h2.2.more _ hk.size hlt (fun j hj => by rcases a.fresh j (mem_blkL.1 hj) with h | h; exact .inl (mem_blkL.2 h); exact .inr (by omega))⟩, (h3.old _).keep k (fun j hj => by rw [hXc j hj]; omega),
    ⟨x.keep k ((h4.2.old _ 2 (x.lt h4.1)).apart hXc (by omega)) h4.1, h4.2.old _ _ (x.lt h4.1)⟩, (h5.old _).keep k (fun j hj => by rw [hXc j hj]; omega)⟩
/-- An append at the second table. -/
theorem St.linApp (h : St w0 w r held T tp tn tc tv le lo ln lc lv x n e) {m N : Nat} {zs : List Value} {lo' : Option Addr} {lc' : Nat} (a : Appd w w' 0 le 1 lo lc m N zs lo' lc') : St w0 w' r held T tp tn tc tv le lo' N lc' zs x n e := by
  obtain ⟨hk, col, h1, h2, h3, h4, h5⟩ := h
  have k := a.fr
  have hlt : ∀ j ∈ blkL lo, j < w.heap.size := fun j hj => (h3.1.lt j (mem_blkL.1 hj)).2
  have hXc : ∀ j ∈ blkL lo, dye col w.heap.size 3 j = 3 := fun j hj => ((h3.2.old _ 3 hlt) j hj).1
  exact ⟨kp_step hk k h3.2.ge, dye col w.heap.size 3, (h1.old _).keep k (fun j hj => by rw [hXc j hj]; omega), (h2.old _).keep k (fun j hj => by rw [hXc j hj]; omega), ⟨a.own, h3.2.more _ hk.size hlt (fun j hj => by rcases a.fresh j (mem_blkL.1 hj) with h | h; exact .inl (mem_blkL.2 h); exact .inr (by omega))⟩,
    ⟨x.keep k ((h4.2.old _ 3 (x.lt h4.1)).apart hXc (by omega)) h4.1, h4.2.old _ _ (x.lt h4.1)⟩, (h5.old _).keep k (fun j hj => by rw [hXc j hj]; omega)⟩
/-- The Reader, newly made. -/
theorem St.new (w0 : World) {b : Nat} (hb : b = w0.heap.size) (e1 : TypeId) (le : TypeId) (e : Nat → Ent) : St w0 (w0.alloc (.cells #[.slice none 0 0, .int .i64 0] e1)) b [] 0 none 0 0 [] le none 0 0 [] ent0 0 e :=
  ⟨Kp.new _ _, fun _ => 1, ⟨none, Rdr.new w0 0 b e1 hb, fun k hk => ⟨rfl, by simp [blkL, blk] at hk; omega⟩⟩, ⟨Own.nil _ _ _ _, Col.none _ _ _⟩, ⟨Own.nil _ _ _ _, Col.none _ _ _⟩, ⟨trivial, Col.nil _ _ _⟩, fun i hi => by omega⟩
/-- Feed: out of what came in, out of the second table, or out of the tail. -/
theorem St.feed (h : St w0 w r held T tp tn tc tv le lo ln lc lv x n e) {bo : Option Addr} {m c : Nat} {ys : List UInt8} (hy : Bs w bo m ys) (hd : ∀ k ∈ blkL bo, k < w0.heap.size ∨ k ∈ blkL lo ∨ k ∈ x.bl) (hT : T + ys.length ≤ 1000000000) :
    Calls Tryd.prog 19 #[.pointer (some ⟨r, 0, none⟩), .slice bo m c] w fun en w' => en = .returned (.tuple #[]) ∧ St w0 w' r (held ++ ys) (T + ys.length) tp tn tc tv le lo ln lc lv x n e := by
  obtain ⟨hk, col, ⟨ao, h1, h1c⟩, h2, h3, h4, h5⟩ := h
  refine (h1.feed (Nat.zero_le _) hy (fun k hk1 hk2 => ?_) hT).mono ?_
  · have g := h1c k hk2
    rcases hd k hk1 with q | q | q
    · omega
    · have := (h3.2 k q).1; omega
    · have := (h4.2 k q).1; omega
  · rintro en w' ⟨rfl, ao', g1, k, g3⟩
    have hXc : ∀ j ∈ r :: blkL ao, dye col w.heap.size 1 j = 1 := fun j hj => ((h1c.old _ 1 h1.lt) j hj).1
    refine ⟨rfl, kp_step hk k h1c.ge, dye col w.heap.size 1, ⟨ao', g1, h1c.more _ hk.size h1.lt (fun j hj => ?_)⟩, (h2.old _).keep k (fun j hj => by rw [hXc j hj]; omega), (h3.old _).keep k (fun j hj => by rw [hXc j hj]; omega),
      ⟨x.keep k ((h4.2.old _ 1 (x.lt h4.1)).apart hXc (by omega)) h4.1, h4.2.old _ _ (x.lt h4.1)⟩, (h5.old _).keep k (fun j hj => by rw [hXc j hj]; omega)⟩
    rcases List.mem_cons.1 hj with rfl | hj
    · exact .inl (by simp)
    · rcases g3 j hj with q | q
      · exact .inl (by simp [q])
      · exact .inr q
theorem St.heldN (h : St w0 w r held T tp tn tc tv le lo ln lc lv x n e) (hT : T ≤ 1000000000) :
    Calls Tryd.prog 21 #[.pointer (some ⟨r, 0, none⟩)] w fun en w' => en = .returned (.int .i64 (held.length : Int)) ∧ St w0 w' r held T tp tn tc tv le lo ln lc lv x n e := by
  have hh := h
  obtain ⟨hk, col, ⟨ao, h1, h1c⟩, h2, h3, h4, h5⟩ := h
  exact (h1.held hT).mono (by rintro en w' ⟨rfl, k, rfl⟩; exact ⟨rfl, hh.kp (Kp.of_drewN _ _)⟩)
theorem St.next_no (h : St w0 w r held T tp tn tc tv le lo ln lc lv x n e) (hT : T ≤ 1000000000) (hn : nextL held = none) :
    Calls Tryd.prog 20 #[.pointer (some ⟨r, 0, none⟩)] w fun en w' => en = .returned (.tuple #[.slice none 0 0, .bool false]) ∧ St w0 w' r held T tp tn tc tv le lo ln lc lv x n e := by
  have hh := h
  obtain ⟨hk, col, ⟨ao, h1, h1c⟩, h2, h3, h4, h5⟩ := h
  refine (h1.next_no hT hn).mono ?_
  rintro en w' ⟨rfl, g1, g2⟩
  exact ⟨rfl, hh.kp g2.kp⟩
/-- Next: the answer is a new entry. -/
theorem St.next (h : St w0 w r held T tp tn tc tv le lo ln lc lv x n e) (hT : T ≤ 1000000000) {m rest : List UInt8} (hn : nextL held = some (m, rest)) :
    Calls Tryd.prog 20 #[.pointer (some ⟨r, 0, none⟩)] w fun en w' => ∃ bo cap, en = .returned (.tuple #[.slice bo m.length cap, .bool true]) ∧ Bs w' bo m.length m ∧ St w0 w' r rest T tp tn tc tv le lo ln lc lv x (n + 1) (upd e n (Row.ent ⟨bo, m.length, cap, m⟩)) := by
  obtain ⟨hk, col, ⟨ao, h1, h1c⟩, h2, h3, h4, h5⟩ := h
  refine (h1.next_yes hT hn).mono ?_
  rintro en w' ⟨bo, cap, rfl, g0, g1, k⟩
  have hXc : ∀ j ∈ [r], dye col w.heap.size (4 + n) j = 1 := fun j hj => ((h1c.old _ (4 + n) h1.lt) j (by simp only [List.mem_singleton] at hj; simp [hj])).1
  refine ⟨bo, cap, rfl, g0.bs, kp_step hk k (fun j hj => h1c.ge j (by simp only [List.mem_singleton] at hj; simp [hj])), dye col w.heap.size (4 + n), ⟨ao, g1, h1c.old _ _ h1.lt⟩, (h2.old _).keep k (fun j hj => by rw [hXc j hj]; omega), (h3.old _).keep k (fun j hj => by rw [hXc j hj]; omega),
      ⟨x.keep k ((h4.2.old _ (4 + n) (x.lt h4.1)).apart hXc (by omega)) h4.1, h4.2.old _ _ (x.lt h4.1)⟩, fun i hi => ?_⟩
  by_cases hin : i = n
  · subst hin
    rw [upd_self]
    exact ⟨Own.mono g0 (fun _ _ => Nat.zero_le _), (Col.nil col _ _).more _ hk.size (by simp) (fun j hj => .inr (g0.lt j (mem_blkL.1 hj)).1)⟩
  · rw [upd_ne _ _ _ _ hin]
    exact ((h5.old (4 + n)).keep k (fun j hj => by rw [hXc j hj]; omega)) i (by omega)
theorem St.cellT {g : Nat} {R : Nat → Row} (h : St w0 w r held T (some ⟨g, 0, none⟩) tn tc (tvals R tn) le lo ln lc lv x n e) (i : Nat) (hi : i < tn) : w.cell? ⟨g, i, none⟩ = some (.slice (R i).ao (R i).n (R i).cap) := by
  have h2 := h.tab.cell i (by omega)
  rw [tvals_get R tn i hi] at h2
  exact h2
theorem St.cellW {g : Nat} {G : Nat → Row} (h : St w0 w r held T tp tn tc tv le (some ⟨g, 0, none⟩) ln lc (tvals G ln) x n e) (i : Nat) (hi : i < ln) : w.cell? ⟨g, i, none⟩ = some (.slice (G i).ao (G i).n (G i).cap) := by
  have h2 := h.lin.cell i (by omega)
  rw [tvals_get G ln i hi] at h2
  exact h2
/-- The cell of a row, and the row. -/
theorem St.row {g : Nat} {R : Nat → Row} (h : St w0 w r held T (some ⟨g, 0, none⟩) tn tc (tvals R tn) le lo ln lc lv x tn (fun i => (R i).ent)) (i : Nat) (hi : i < tn) {b : List UInt8} {m : Nat} (hb : (R i).bs = b) (hm : b.length = m) :
    ∃ o c, w.cell? ⟨g, i, none⟩ = some (.slice o m c) ∧ Own w 0 5 1 o m c (b.map by8) := by
  have h1 := h.fam i hi
  have h2 := h.tab.cell i (by omega)
  rw [tvals_get R tn i hi] at h2
  have h3 : Own w 0 5 1 (R i).ao (R i).n (R i).cap ((R i).bs.map by8) := h1
  have h4 : (R i).bs.length = (R i).n := h3.bs.1
  rw [hb, hm] at h4
  rw [hb, ← h4] at h3
  rw [← h4] at h2
  exact ⟨_, _, h2, h3⟩
end state
end Go.Proofs.YtkpdbdlkihgofaaDoor
