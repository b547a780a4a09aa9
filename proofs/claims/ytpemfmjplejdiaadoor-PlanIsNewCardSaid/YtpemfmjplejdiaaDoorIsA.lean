/- Rows of the call's own that are written over, one behind the other: what stays so. No condition. -/
import Derived.Test.YtpemfmjplejdiaaDoorGa4
namespace Go.Proofs.YtpemfmjplejdiaaDoor
open Go.RowKit

/-- A list of numbers of the call's own, whatever they are. -/
def OwI (w : World) (B : Nat) (t : Tv) : Prop := ∃ xs : List Int, Own w B 3 1 t.ao t.n t.c (xs.map iv)
/-- Rows of the call's own, from number s on; and messages. -/
structure Wo (w : World) (B s : Nat) (rows : List Tv) (tl : Tv) (ts : List Tv) : Prop where
  ol : ∃ ls : List Ln, ts.length = ls.length ∧ Own w B 53 2 tl.ao tl.n tl.c (lnc ls ts)
  row : ∀ j t, s ≤ j → rows[j]? = some t → OwI w B t
  dj : ∀ i j x, x ∈ blkL (rows.getD i nilT).ao → x ∈ blkL (rows.getD j nilT).ao → i = j
  dl : ∀ i x, x ∈ blkL (rows.getD i nilT).ao → x ∉ blkL tl.ao
theorem Wo.of {w : World} {B : Nat} {t0 t1 tl : Tv} {ts : List Tv} {b0 b1 : List Int} {ls : List Ln} (h : PatO w B t0 t1 tl ts b0 b1 ls) : Wo w B 0 (t0 :: t1 :: ts) tl ts := by
  have hd : ∀ i, ∃ k, k ≠ 2 ∧ (t0 :: t1 :: ts).getD i nilT = (t0 :: t1 :: tl :: ts).getD k nilT ∧ k = if i < 2 then i else i + 1 := by
    intro i
    rcases i with _ | _ | i
    · exact ⟨0, by omega, rfl, rfl⟩
    · exact ⟨1, by omega, rfl, rfl⟩
    · exact ⟨i + 3, by omega, rfl, by rw [if_neg (by omega)]⟩
  refine ⟨⟨ls, h.len, h.ol⟩, fun j t _ ht => ?_, fun i j x hi hj => ?_, fun i x hi hl => ?_⟩
  · rcases j with _ | _ | j
    · simp at ht; subst ht; exact ⟨b0, h.o0⟩
    · simp at ht; subst ht; exact ⟨b1, h.o1⟩
    · simp only [List.getElem?_cons_succ] at ht
      have hj : j < ls.length := by rw [← h.len]; exact (List.getElem?_eq_some_iff.1 ht).1
      exact ⟨_, h.ot j t _ ht (List.getElem?_eq_getElem hj)⟩
  · obtain ⟨k, _, e1, e2⟩ := hd i
    obtain ⟨m, _, f1, f2⟩ := hd j
    rw [e1] at hi
    rw [f1] at hj
    have := h.dj k m x hi hj
    subst e2; subst f2
    split at this <;> split at this <;> omega
  · obtain ⟨k, hk, e1, _⟩ := hd i
    rw [e1] at hi
    exact hk (h.dj k 2 x hi hl)
section
variable {w w' : World} {B s : Nat} {rows : List Tv} {tl : Tv} {ts : List Tv}
theorem mem_row {rows : List Tv} {j : Nat} {t : Tv} (ht : rows[j]? = some t) : rows.getD j nilT = t := by
  rw [List.getD_eq_getElem?_getD, ht]; rfl
theorem Wo.mono (h : Wo w B s rows tl ts) {s' : Nat} (hs : s ≤ s') : Wo w B s' rows tl ts := ⟨h.ol, fun j t hj ht => h.row j t (by omega) ht, h.dj, h.dl⟩
/-- Blocks that are of no row still to come, nor the messages', have changed. -/
theorem Wo.fr {X : List Nat} {s' : Nat} (h : Wo w B s rows tl ts) (k : Fr X w w') (hs : s ≤ s') (hX : ∀ x ∈ X, (∀ j, s' ≤ j → x ∉ blkL (rows.getD j nilT).ao) ∧ x ∉ blkL tl.ao) : Wo w' B s' rows tl ts := by
  obtain ⟨ls, hl, ho⟩ := h.ol
  refine ⟨⟨ls, hl, k.own ho (fun x hx hq => (hX x hq).2 hx)⟩, fun j t hj ht => ?_, h.dj, h.dl⟩
  obtain ⟨xs, hx⟩ := h.row j t (by omega) ht
  exact ⟨xs, k.own hx (fun x hx' hq => (hX x hq).1 j hj (by rw [mem_row ht]; exact hx'))⟩
theorem Wo.kp (h : Wo w B s rows tl ts) (k : Kp w w') : Wo w' B s rows tl ts := h.fr (Fr.of_kp k) (Nat.le_refl _) (by simp)
/-- A row's place that may be written. -/
theorem Wo.at {j : Nat} {t : Tv} (h : Wo w B s rows tl ts) (hs : s ≤ j) (ht : rows[j]? = some t) (c : Nat) (hc : c < t.n) :
    ∃ g x, t.ao = some ⟨g, 0, none⟩ ∧ B ≤ g ∧ g < w.heap.size ∧ w.cell? ⟨g, c, none⟩ = some (iv x) ∧ w.frozen? ⟨g, c, none⟩ = false := by
  obtain ⟨xs, ho⟩ := h.row j t hs ht
  have hl := ho.1
  obtain ⟨g, cur, he, hb, hg, _⟩ := ho.block (by omega)
  rw [he] at ho
  have hlt := ho.lt g rfl
  have hx : (xs.map iv)[c]? = some (iv (xs[c]'(by simp at hl; omega))) := by simp [show c < xs.length by simp at hl; omega]
  exact ⟨g, _, he, hb, hlt.2, by rw [ho.cell c (by omega)]; exact hx, ho.free c⟩
theorem Wo.store {j : Nat} {t : Tv} {g : Nat} (h : Wo w B s rows tl ts) (ht : rows[j]? = some t) (hg : t.ao = some ⟨g, 0, none⟩) (c : Nat) (v : Int) : Wo (w.setCell ⟨g, c, none⟩ (iv v)) B s rows tl ts := by
  have hs := Fr.set w ⟨g, c, none⟩ (iv v)
  have hgj : g ∈ blkL (rows.getD j nilT).ao := by rw [mem_row ht, hg]; simp [blkL, blk]
  obtain ⟨ls, hl, ho⟩ := h.ol
  refine ⟨⟨ls, hl, hs.own ho (fun x hx hq => ?_)⟩, fun i t' hi ht' => ?_, h.dj, h.dl⟩
  · simp only [List.mem_singleton] at hq
    subst hq
    exact h.dl j _ hgj hx
  · obtain ⟨xs, hx⟩ := h.row i t' hi ht'
    by_cases hij : i = j
    · subst hij
      rw [ht] at ht'
      obtain rfl := Option.some.inj ht'
      rw [hg] at hx
      refine ⟨xs.set c v, ?_⟩
      rw [hg]
      have := hx.store c (iv v)
      rwa [← List.map_set] at this
    · exact ⟨xs, hs.own hx (fun x hx' hq => by
        simp only [List.mem_singleton] at hq
        subst hq
        exact hij (h.dj i j _ (by rw [mem_row ht']; exact hx') hgj))⟩
theorem lnc_set : ∀ {ls : List Ln} {ts : List Tv} (_ : ts.length = ls.length) (j : Nat) (v : Int), (lnc ls ts).set (j * 2) (iv v) = lnc (ls.modify j (fun l => (v, l.2))) ts
  | [], [], _, j, v => by cases j <;> simp [lnc, List.modify]
  | l :: r, t :: s, _, 0, v => rfl
  | l :: r, t :: s, h, j + 1, v => by
    simp only [List.length_cons] at h
    have := lnc_set (ls := r) (ts := s) (by omega) j v
    rw [show (j + 1) * 2 = j * 2 + 1 + 1 by omega, List.modify_succ_cons]
    simp only [lnc, List.set_cons_succ, this]
/-- A message's places. -/
theorem Wo.line (h : Wo w B s rows tl ts) (i : Nat) (t : Tv) (ht : ts[i]? = some t) :
    ∃ g f, tl.ao = some ⟨g, 0, none⟩ ∧ B ≤ g ∧ g < w.heap.size ∧ w.cell? ⟨g, i * 2, none⟩ = some (iv f) ∧ w.frozen? ⟨g, i * 2, none⟩ = false ∧ w.cell? ⟨g, i * 2 + 1, none⟩ = some (.slice t.ao t.n t.c) := by
  obtain ⟨ls, hl, ho⟩ := h.ol
  have hi := (List.getElem?_eq_some_iff.1 ht).1
  have hlen := ho.1
  rw [lnc_length hl] at hlen
  obtain ⟨g, cur, he, hb, hg, _⟩ := ho.block (by omega)
  rw [he] at ho
  have hlt := ho.lt g rfl
  obtain ⟨q0, q1⟩ := lnc_get hl i (by omega)
  refine ⟨g, _, he, hb, hlt.2, by rw [ho.cell _ (by omega)]; exact q0, ho.free _, ?_⟩
  rw [ho.cell _ (by omega), q1]
  rw [List.getElem?_eq_getElem hi] at ht
  obtain rfl := Option.some.inj ht
  rfl
theorem Wo.from {g : Nat} (h : Wo w B s rows tl ts) (hg : tl.ao = some ⟨g, 0, none⟩) (i : Nat) (v : Int) : Wo (w.setCell ⟨g, i * 2, none⟩ (iv v)) B s rows tl ts := by
  have hs := Fr.set w ⟨g, i * 2, none⟩ (iv v)
  obtain ⟨ls, hl, ho⟩ := h.ol
  refine ⟨⟨ls.modify i (fun l => (v, l.2)), by rw [hl, List.length_modify], ?_⟩, fun j t hj ht => ?_, h.dj, h.dl⟩
  · rw [hg] at ho ⊢
    have := ho.store (i * 2) (iv v)
    rwa [lnc_set hl] at this
  · obtain ⟨xs, hx⟩ := h.row j t hj ht
    refine ⟨xs, hs.own hx (fun x hx' hq => ?_)⟩
    simp only [List.mem_singleton] at hq
    subst hq
    exact h.dl j _ (by rw [mem_row ht]; exact hx') (by rw [hg]; simp [blkL, blk])
theorem Wo.len (h : Wo w B s rows tl ts) : tl.n = ts.length := by
  obtain ⟨ls, hl, ho⟩ := h.ol
  have := ho.1
  rw [lnc_length hl] at this
  omega
/-- All that is a row's. -/
def allL (rows : List Tv) (tl : Tv) : List Nat := blkL tl.ao ++ rows.flatMap (fun t => blkL t.ao)
theorem allL_row {rows : List Tv} {tl : Tv} {j : Nat} {t : Tv} (ht : rows[j]? = some t) : ∀ x ∈ blkL t.ao, x ∈ allL rows tl := fun _ hx => List.mem_append.2 (.inr (List.mem_flatMap.2 ⟨t, List.mem_of_getElem? ht, hx⟩))
theorem Wo.lt (h : Wo w B 0 rows tl ts) : ∀ x ∈ allL rows tl, B ≤ x ∧ x < w.heap.size := by
  intro x hx
  rcases List.mem_append.1 hx with q | q
  · obtain ⟨ls, hl, ho⟩ := h.ol
    exact ho.lt x (mem_blkL.1 q)
  · obtain ⟨t, ht, q⟩ := List.mem_flatMap.1 q
    obtain ⟨j, hj, rfl⟩ := List.getElem_of_mem ht
    obtain ⟨xs, ho⟩ := h.row j _ (by omega) (List.getElem?_eq_getElem hj)
    exact ho.lt x (mem_blkL.1 q)
/-- A row has been gone on from, and what came of it written: the rows behind it are as they were. -/
theorem Wo.next {j : Nat} {t : Tv} (h : Wo w B j rows tl ts) (ht : rows[j]? = some t) {X : List Nat} (k : Fr X w w') (hX : ∀ x ∈ X, x ∈ blkL t.ao ∨ w.heap.size ≤ x) : Wo w' B (j + 1) rows tl ts := by
  refine h.fr k (by omega) (fun x hx => ?_)
  rcases hX x hx with q | q
  · refine ⟨fun i hi hq => ?_, fun hq => ?_⟩
    · have := h.dj i j x hq (by rw [mem_row ht]; exact q)
      omega
    · exact h.dl j x (by rw [mem_row ht]; exact q) hq
  · refine ⟨fun i hi hq => ?_, fun hq => ?_⟩
    · have hil : i < rows.length := by
        rcases Nat.lt_or_ge i rows.length with h1 | h1
        · exact h1
        · rw [getD_ge _ _ h1] at hq; simp [nilT, blkL, blk] at hq
      obtain ⟨xs, ho⟩ := h.row i _ (by omega) (List.getElem?_eq_getElem hil)
      rw [getD_lt _ _ hil] at hq
      have := (ho.lt x (mem_blkL.1 hq)).2
      omega
    · obtain ⟨ls, hl, ho⟩ := h.ol
      have := (ho.lt x (mem_blkL.1 hq)).2
      omega
theorem getD_all {rows : List Tv} {tl : Tv} {j : Nat} : ∀ x ∈ blkL (rows.getD j nilT).ao, x ∈ allL rows tl := by
  intro x hx
  rcases Nat.lt_or_ge j rows.length with h1 | h1
  · rw [getD_lt _ _ h1] at hx
    exact allL_row (List.getElem?_eq_getElem h1) x hx
  · rw [getD_ge _ _ h1] at hx; simp [nilT, blkL, blk] at hx
theorem Wo.far {X : List Nat} (h : Wo w B s rows tl ts) (k : Fr X w w') (hX : ∀ x ∈ X, x ∉ allL rows tl) : Wo w' B s rows tl ts :=
  h.fr k (Nat.le_refl _) (fun x hx => ⟨fun _ _ hq => hX x hx (getD_all x hq), fun hq => hX x hx (List.mem_append.2 (.inl hq))⟩)
end
end Go.Proofs.YtpemfmjplejdiaaDoor
