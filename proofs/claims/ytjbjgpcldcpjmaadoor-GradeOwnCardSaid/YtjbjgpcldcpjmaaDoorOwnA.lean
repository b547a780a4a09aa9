/- Four rows of grades of the call's own, written over and added to: what stays so. Conditions: the rows lie there (Own). -/
import Derived.Test.YtjbjgpcldcpjmaaDoorGa3
namespace Go.Proofs.YtjbjgpcldcpjmaaDoor
open Go.RowKit

def updN {α : Type} (f : Nat → α) (i : Nat) (v : α) : Nat → α := fun j => if j = i then v else f j
theorem updN_same {α : Type} (f : Nat → α) (i : Nat) (v : α) : updN f i v i = v := by simp [updN]
theorem updN_other {α : Type} (f : Nat → α) {i j : Nat} (v : α) (h : j ≠ i) : updN f i v j = f j := by simp [updN, h]
/-- The array's cells. -/
structure Arr4 (w : World) (b q : Nat) (f : Nat → Tv) : Prop where
  cell : ∀ j, j < q → w.cell? ⟨b, j, none⟩ = some (.slice (f j).ao (f j).n (f j).c)
  any : ∀ j, j < 4 → ∃ v, w.cell? ⟨b, j, none⟩ = some v ∧ w.frozen? ⟨b, j, none⟩ = false
theorem lt4 {j : Nat} (h : j < 4) : j = 0 ∨ j = 1 ∨ j = 2 ∨ j = 3 := by omega
theorem Arr4.new (w : World) (f : Nat → Tv) : Arr4 (w.alloc (.cells #[.slice none 0 0, .slice none 0 0, .slice none 0 0, .slice none 0 0] 52)) w.heap.size 0 f := by
  refine ⟨fun j hj => absurd hj (by omega), fun j hj => ⟨.slice none 0 0, ?_, World.frozen?_alloc_at _ _ _ _ rfl⟩⟩
  rw [World.cell?_alloc_at _ _ _ _ rfl]
  rcases lt4 hj with rfl | rfl | rfl | rfl <;> rfl
theorem Arr4.fr {X : List Nat} {w w' : World} {b q : Nat} {f : Nat → Tv} (h : Arr4 w b q f) (k : Fr X w w') (hb : b ∉ X) : Arr4 w' b q f :=
  ⟨fun j hj => k.cell (h.cell j hj) hb, fun j hj => by obtain ⟨v, h1, h2⟩ := h.any j hj; exact ⟨v, k.cell h1 hb, k.free h1 h2 hb⟩⟩
theorem Arr4.kp {w w' : World} {b q : Nat} {f : Nat → Tv} (h : Arr4 w b q f) (k : Kp w w') : Arr4 w' b q f := h.fr (Fr.of_kp k) (by simp)
theorem Arr4.lt {w : World} {b q : Nat} {f : Nat → Tv} (h : Arr4 w b q f) : b < w.heap.size := by
  obtain ⟨v, h1, _⟩ := h.any 0 (by omega)
  exact World.block_lt_of_cell? w _ h1
theorem Arr4.set {w : World} {b q i : Nat} {f : Nat → Tv} (h : Arr4 w b q f) (hi : i < 4) (t : Tv) (q' : Nat) (hq : ∀ j, j < q' → j = i ∨ j < q) : Arr4 (w.setCell ⟨b, i, none⟩ (.slice t.ao t.n t.c)) b q' (updN f i t) := by
  obtain ⟨v, hc, hf⟩ := h.any i hi
  refine ⟨fun j hj => ?_, fun j hj => ?_⟩
  · by_cases hji : j = i
    · subst hji
      rw [World.cell?_setCell_same _ _ _ hc, updN_same]
    · rw [World.cell?_setCell_other _ _ _ _ (by simp <;> omega), updN_other f t hji]
      exact h.cell j (by rcases hq j hj with h | h; exact absurd h hji; exact h)
  · obtain ⟨u, h1, h2⟩ := h.any j hj
    by_cases hji : j = i
    · subst hji
      exact ⟨_, World.cell?_setCell_same _ _ _ h1, by rw [World.frozen?_setCell]; exact h2⟩
    · exact ⟨u, by rw [World.cell?_setCell_other _ _ _ _ (by simp <;> omega)]; exact h1, by rw [World.frozen?_setCell]; exact h2⟩
/-- Rows f, and what they have grown to, h. -/
structure Fam (w : World) (B q : Nat) (f h : Nat → Tv) (cR cW : Nat → List Gr) (Z : List Nat) : Prop where
  own : ∀ j, j < q → GrO w B (h j).ao (h j).n (h j).c (cW j)
  row : ∀ j, j < q → Cs w (f j).ao ((cR j).flatMap grc)
  pre : ∀ j, j < q → ∃ t, cW j = cR j ++ t
  dj : ∀ i j x, i < q → j < q → (x ∈ blkL (f i).ao ∨ x ∈ blkL (h i).ao) → (x ∈ blkL (f j).ao ∨ x ∈ blkL (h j).ao) → i = j
  rel : ∀ j, j < q → (h j).ao = (f j).ao ∨ ∀ x ∈ blkL (f j).ao, x ∉ blkL (h j).ao
  sep : ∀ j x, j < q → (x ∈ blkL (f j).ao ∨ x ∈ blkL (h j).ao) → x ∉ Z ∧ B ≤ x ∧ x < w.heap.size
section
variable {w w' : World} {B q : Nat} {f h : Nat → Tv} {cR cW : Nat → List Gr} {Z : List Nat}
theorem Fam.zero (w : World) (B : Nat) (f : Nat → Tv) (c : Nat → List Gr) (Z : List Nat) : Fam w B 0 f f c c Z :=
  ⟨fun j hj => absurd hj (by omega), fun j hj => absurd hj (by omega), fun j hj => absurd hj (by omega), fun i j x hi => absurd hi (by omega), fun j hj => absurd hj (by omega), fun j x hj => absurd hj (by omega)⟩
/-- Blocks of no row have changed. -/
theorem Fam.fr {X : List Nat} (F : Fam w B q f h cR cW Z) (k : Fr X w w') (hX : ∀ x ∈ X, x ∈ Z) : Fam w' B q f h cR cW Z :=
  ⟨fun j hj => (F.own j hj).fr k (fun x hx hq => (F.sep j x hj (.inr hx)).1 (hX x hq)), fun j hj => k.cs (F.row j hj) (fun x hx hq => (F.sep j x hj (.inl hx)).1 (hX x hq)), F.pre, F.dj, F.rel,
    fun j x hj hx => ⟨(F.sep j x hj hx).1, (F.sep j x hj hx).2.1, Nat.lt_of_lt_of_le (F.sep j x hj hx).2.2 k.size⟩⟩
theorem Fam.kp (F : Fam w B q f h cR cW Z) (k : Kp w w') : Fam w' B q f h cR cW Z := F.fr (Fr.of_kp k) (by simp)
/-- A block that is of no row may be set apart too. -/
theorem Fam.apart (F : Fam w B q f h cR cW Z) (b : Nat) (hb : w.heap.size ≤ b) : Fam w B q f h cR cW (b :: Z) :=
  ⟨F.own, F.row, F.pre, F.dj, F.rel, fun j x hj hx => ⟨fun hm => by
    rcases List.mem_cons.1 hm with e | e
    · have := (F.sep j x hj hx).2.2; omega
    · exact (F.sep j x hj hx).1 e, (F.sep j x hj hx).2⟩⟩
/-- One row more. -/
theorem Fam.add {c : Nat → List Gr} (F : Fam w B q f f c c Z) (k : Kp w w') {t : Tv} {gs : List Gr} (ho : GrO w' w.heap.size t.ao t.n t.c gs) (hB : B ≤ w.heap.size) (hZ : ∀ x ∈ Z, x < w.heap.size) :
    Fam w' B (q + 1) (updN f q t) (updN f q t) (updN c q gs) (updN c q gs) Z := by
  have F' := F.kp k
  have old : ∀ j, j < q + 1 → j ≠ q → updN f q t j = f j ∧ updN c q gs j = c j ∧ j < q := fun j hj hne => ⟨updN_other f t hne, updN_other c gs hne, by omega⟩
  have hnew : ∀ x ∈ blkL t.ao, w.heap.size ≤ x ∧ x < w'.heap.size := fun x hx => ho.lt x hx
  refine ⟨fun j hj => ?_, fun j hj => ?_, fun j _ => ⟨[], by simp⟩, fun i j x hi hj hx hy => ?_, fun j _ => .inl rfl, fun j x hj hx => ?_⟩
  · by_cases e : j = q
    · subst e
      rw [updN_same, updN_same]
      exact ⟨ho.1.mono (fun x hx => Nat.le_trans hB (ho.1.lt x hx).1), ho.2⟩
    · obtain ⟨a, b, d⟩ := old j hj e
      rw [a, b]; exact F'.own j d
  · by_cases e : j = q
    · subst e
      rw [updN_same, updN_same]; exact ho.1.cs
    · obtain ⟨a, b, d⟩ := old j hj e
      rw [a, b]; exact F'.row j d
  · replace hx : x ∈ blkL (updN f q t i).ao := by rcases hx with h | h <;> exact h
    replace hy : x ∈ blkL (updN f q t j).ao := by rcases hy with h | h <;> exact h
    by_cases ei : i = q
    · by_cases ej : j = q
      · omega
      · subst ei
        obtain ⟨a, _, d⟩ := old j hj ej
        rw [updN_same] at hx
        rw [a] at hy
        have := (F.sep j x d (.inl hy)).2.2
        have := (hnew x hx).1
        omega
    · obtain ⟨a, _, d⟩ := old i hi ei
      rw [a] at hx
      by_cases ej : j = q
      · subst ej
        rw [updN_same] at hy
        have := (F.sep i x d (.inl hx)).2.2
        have := (hnew x hy).1
        omega
      · obtain ⟨a', _, d'⟩ := old j hj ej
        rw [a'] at hy
        exact F.dj i j x d d' (.inl hx) (.inl hy)
  · replace hx : x ∈ blkL (updN f q t j).ao := by rcases hx with h | h <;> exact h
    by_cases e : j = q
    · subst e
      rw [updN_same] at hx
      have := hnew x hx
      exact ⟨fun hz => by have := hZ x hz; omega, by omega, this.2⟩
    · obtain ⟨a, _, d⟩ := old j hj e
      rw [a] at hx
      exact F'.sep j x d (.inl hx)
theorem grc_set (gs : List Gr) (k : Nat) (g : Gr) (h : k < gs.length) : (((gs.flatMap grc).set (k * 3) (iv g.frm)).set (k * 3 + 1) (iv g.src)).set (k * 3 + 2) (iv g.dst) = (gs.set k g).flatMap grc := by
  induction gs generalizing k with
  | nil => simp at h
  | cons a r ih =>
    rcases k with _ | k
    · simp [grc]
    · have := ih k (by simpa using h)
      rw [List.set_cons_succ, List.flatMap_cons, List.flatMap_cons, ← this]
      have hg : (grc a).length = 3 := rfl
      rw [show (k + 1) * 3 = (grc a).length + k * 3 by rw [hg]; omega, List.set_append_right _ _ (by omega), show (grc a).length + k * 3 + 1 = (grc a).length + (k * 3 + 1) by omega, List.set_append_right _ _ (by omega),
        show (grc a).length + k * 3 + 2 = (grc a).length + (k * 3 + 2) by omega, List.set_append_right _ _ (by omega)]
      simp only [Nat.add_sub_cancel_left]
/-- A grade of a row is written over. -/
theorem Fam.store {c : Nat → List Gr} (F : Fam w B q f f c c Z) {i k g : Nat} (hi : i < q) (hk : k < (c i).length) (hg : (f i).ao = some ⟨g, 0, none⟩) (u : Gr) :
    Fam (((w.setCell ⟨g, k * 3, none⟩ (iv u.frm)).setCell ⟨g, k * 3 + 1, none⟩ (iv u.src)).setCell ⟨g, k * 3 + 2, none⟩ (iv u.dst)) B q f f (updN c i ((c i).set k u)) (updN c i ((c i).set k u)) Z ∧
      Fr [g] w (((w.setCell ⟨g, k * 3, none⟩ (iv u.frm)).setCell ⟨g, k * 3 + 1, none⟩ (iv u.src)).setCell ⟨g, k * 3 + 2, none⟩ (iv u.dst)) := by
  have hF : Fr [g] w (((w.setCell ⟨g, k * 3, none⟩ (iv u.frm)).setCell ⟨g, k * 3 + 1, none⟩ (iv u.src)).setCell ⟨g, k * 3 + 2, none⟩ (iv u.dst)) := by
    have h1 := Fr.set w ⟨g, k * 3, none⟩ (iv u.frm)
    have h2 := Fr.set (w.setCell ⟨g, k * 3, none⟩ (iv u.frm)) ⟨g, k * 3 + 1, none⟩ (iv u.src)
    have h3 := Fr.set ((w.setCell ⟨g, k * 3, none⟩ (iv u.frm)).setCell ⟨g, k * 3 + 1, none⟩ (iv u.src)) ⟨g, k * 3 + 2, none⟩ (iv u.dst)
    exact (h1.trans h2).trans h3
  have ho := F.own i hi
  have hgi : g ∈ blkL (f i).ao := by rw [hg]; simp [blkL, blk]
  have hown : GrO (((w.setCell ⟨g, k * 3, none⟩ (iv u.frm)).setCell ⟨g, k * 3 + 1, none⟩ (iv u.src)).setCell ⟨g, k * 3 + 2, none⟩ (iv u.dst)) B (f i).ao (f i).n (f i).c ((c i).set k u) := by
    refine ⟨?_, by rw [List.length_set]; exact ho.2⟩
    have := ho.1
    rw [hg] at this ⊢
    rw [← grc_set _ _ _ hk]
    exact ((this.store (k * 3) (iv u.frm)).store (k * 3 + 1) (iv u.src)).store (k * 3 + 2) (iv u.dst)
  refine ⟨⟨fun j hj => ?_, fun j hj => ?_, fun j _ => ⟨[], by simp⟩, F.dj, F.rel, fun j x hj hx => ⟨(F.sep j x hj hx).1, (F.sep j x hj hx).2.1, Nat.lt_of_lt_of_le (F.sep j x hj hx).2.2 hF.size⟩⟩, hF⟩
  · by_cases e : j = i
    · subst e; rw [updN_same]; exact hown
    · rw [updN_other _ _ e]
      exact (F.own j hj).fr hF (fun x hx hq => by
        simp only [List.mem_singleton] at hq
        subst hq
        exact e (F.dj j i x hj hi (.inl hx) (.inl hgi)))
  · by_cases e : j = i
    · subst e; rw [updN_same]; exact hown.1.cs
    · rw [updN_other _ _ e]
      exact hF.cs (F.row j hj) (fun x hx hq => by
        simp only [List.mem_singleton] at hq
        subst hq
        exact e (F.dj j i x hj hi (.inl hx) (.inl hgi)))
theorem Cs.pre {ao : Option Addr} {xs ys : List Value} (h : Cs w ao (xs ++ ys)) : Cs w ao xs := fun j u hu => h j u (by
  rw [List.getElem?_append_left (List.getElem?_eq_some_iff.1 hu).1]; exact hu)
/-- A grade is added to what a row has grown to. -/
theorem Fam.app {i : Nat} (F : Fam w B q f h cR cW Z) (hi : i < q) (hZ : ∀ x ∈ Z, x < w.heap.size) {u : Gr} {ao' : Option Addr} {cap' N : Nat} (hN : N = (h i).n + 1)
    {w1 : World} (k0 : Kp w w1) (ha : Appd w1 w' B 48 3 (h i).ao (h i).c 1 N ((cW i ++ [u]).flatMap grc) ao' cap') :
    Fam w' B q f (updN h i ⟨ao', N, cap'⟩) cR (updN cW i (cW i ++ [u])) Z ∧ Fr (blkL (h i).ao) w w' := by
  have hF : Fr (blkL (h i).ao) w w' := ((Fr.of_kp k0).mono (by simp)).trans ha.fr
  have hs := hF.size
  have hs0 := k0.size
  have hnew : ∀ x ∈ blkL ao', x ∈ blkL (h i).ao ∨ w.heap.size ≤ x := fun x hx => by
    rcases ha.fresh x (mem_blkL.1 hx) with h | h
    · exact .inl (mem_blkL.2 h)
    · exact .inr (by omega)
  have hnlt : ∀ x ∈ blkL ao', x < w'.heap.size := fun x hx => (ha.own.lt x (mem_blkL.1 hx)).2
  have hbase : ∀ x ∈ blkL ao', B ≤ x := fun x hx => (ha.own.lt x (mem_blkL.1 hx)).1
  have hlen := (F.own i hi).2
  refine ⟨⟨fun j hj => ?_, fun j hj => ?_, fun j hj => ?_, fun a b x hja hjb hx hy => ?_, fun j hj => ?_, fun j x hj hx => ?_⟩, hF⟩
  · by_cases e : j = i
    · subst e
      rw [updN_same, updN_same]
      exact ⟨ha.own, by rw [List.length_append, hlen, hN]; rfl⟩
    · rw [updN_other _ _ e, updN_other _ _ e]
      exact (F.own j hj).fr hF (fun x hx hq => e (F.dj j i x hj hi (.inr hx) (.inr hq)))
  · by_cases e : j = i
    · subst e
      rcases F.rel j hj with hr | hr
      · rcases ha.move with hm | ⟨hm, _⟩
        · obtain ⟨t, ht⟩ := F.pre j hj
          have := ha.own.cs
          rw [hm, hr, ht, List.append_assoc, List.flatMap_append] at this
          exact this.pre
        · exact (Kp.trans k0 ((Below.refl _ _).grown hm (Nat.le_refl _) (fun k hk => by cases hk))).cs (F.row j hj)
      · exact hF.cs (F.row j hj) hr
    · exact hF.cs (F.row j hj) (fun x hx hq => e (F.dj j i x hj hi (.inl hx) (.inr hq)))
  · by_cases e : j = i
    · subst e
      obtain ⟨t, ht⟩ := F.pre j hj
      exact ⟨t ++ [u], by rw [updN_same, ht, List.append_assoc]⟩
    · rw [updN_other _ _ e]; exact F.pre j hj
  · have key : ∀ c, c < q → (x ∈ blkL (f c).ao ∨ x ∈ blkL (updN h i ⟨ao', N, cap'⟩ c).ao) → (x ∈ blkL (f c).ao ∨ x ∈ blkL (h c).ao) ∨ (c = i ∧ w.heap.size ≤ x) := fun c hc hq => by
      rcases hq with hq | hq
      · exact .inl (.inl hq)
      · by_cases e : c = i
        · subst e
          rw [updN_same] at hq
          rcases hnew x hq with h | h
          · exact .inl (.inr h)
          · exact .inr ⟨rfl, h⟩
        · rw [updN_other _ _ e] at hq
          exact .inl (.inr hq)
    rcases key a hja hx with h1 | ⟨e1, h1⟩ <;> rcases key b hjb hy with h2 | ⟨e2, h2⟩
    · exact F.dj a b x hja hjb h1 h2
    · have := (F.sep a x hja h1).2.2; omega
    · have := (F.sep b x hjb h2).2.2; omega
    · omega
  · by_cases e : j = i
    · subst e
      rw [updN_same]
      show ao' = (f j).ao ∨ _
      rcases ha.move with hm | ⟨_, hm⟩
      · rw [hm]
        rcases F.rel j hj with hr | hr
        · exact .inl hr
        · exact .inr hr
      · exact .inr (fun x hx hq => by
          have h1 := (F.sep j x hj (.inl hx)).2.2
          have h2 : blk ao' = some x := mem_blkL.1 hq
          rw [hm] at h2
          have := Option.some.inj h2
          omega)
    · rw [updN_other _ _ e]; exact F.rel j hj
  · by_cases e : j = i
    · subst e
      rw [updN_same] at hx
      rcases hx with hx | hx
      · have := F.sep j x hj (.inl hx)
        exact ⟨this.1, this.2.1, by omega⟩
      · refine ⟨fun hz => ?_, hbase x hx, hnlt x hx⟩
        rcases hnew x hx with h | h
        · exact (F.sep j x hj (.inr h)).1 hz
        · have := hZ x hz; omega
    · rw [updN_other _ _ e] at hx
      have := F.sep j x hj hx
      exact ⟨this.1, this.2.1, by omega⟩
end
end Go.Proofs.YtjbjgpcldcpjmaaDoor
