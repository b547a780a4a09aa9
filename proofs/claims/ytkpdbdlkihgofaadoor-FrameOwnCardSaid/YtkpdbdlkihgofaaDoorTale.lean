/- The plain law of FrameOwn's stream and marks. No condition. -/
import Derived.Test.YtkpdbdlkihgofaaDoorState
namespace Go.Proofs.YtkpdbdlkihgofaaDoor
open Go.RowKit

theorem lineK_app (ms : List (List UInt8)) (l : List UInt8) (k : Nat) (h : k ≤ ms.length) : lineK (ms ++ [l]) k = lineK ms k := by
  unfold lineK; rw [List.take_append_of_le_length h]
theorem lineK_all (ms : List (List UInt8)) (l : List UInt8) : lineK (ms ++ [l]) (ms ++ [l]).length = lineK ms ms.length ++ putL [] l := by
  have h : (ms ++ [l]).length = ms.length + 1 := by simp
  rw [h, lineK_succ (ms ++ [l]) ms.length (by omega), lineK_app ms l _ (Nat.le_refl _)]
  simp [putL]
theorem offK_app (ms : List (List UInt8)) (l : List UInt8) (k : Nat) (h : k ≤ ms.length) : offK (ms ++ [l]) k = offK ms k := by
  unfold offK; rw [lineK_app ms l k h]
theorem offK_last (ms : List (List UInt8)) (l : List UInt8) : offK (ms ++ [l]) (ms.length + 1) = offK ms ms.length + 2 + l.length := by
  rw [offK_succ (ms ++ [l]) ms.length (by simp), offK_app ms l _ (Nat.le_refl _)]
  simp
/-- What is held, when all but the last byte is fed. -/
theorem fed_all (ms : List (List UInt8)) (l : List UInt8) : ([] ++ lineK ms ms.length) ++ (putL [] l).take (l.length + 1) = heldAt (ms ++ [l]) 0 (offK ms ms.length + l.length + 1) := by
  unfold heldAt
  rw [offK_zero, List.drop_zero, Nat.sub_zero, lineK_all, List.nil_append, List.take_append]
  unfold offK
  rw [List.take_of_length_le (l := lineK ms ms.length) (by omega), Nat.add_assoc, Nat.add_sub_cancel_left]
theorem fed_some (ms : List (List UInt8)) (l : List UInt8) (t : Nat) (ht : t < ms.length) (hm : ms[t].length ≤ 65535) :
    nextL (heldAt (ms ++ [l]) t (offK ms ms.length + l.length + 1)) = some (ms[t], heldAt (ms ++ [l]) (t + 1) (offK ms ms.length + l.length + 1)) := by
  have hg : (ms ++ [l]).getD t [] = ms[t] := by simp [List.getD, List.getElem?_append_left ht, ht]
  have h1 := next_some (ms ++ [l]) t (offK ms ms.length + l.length + 1) (by simp; omega) (by rw [hg]; exact hm) (by
    rw [offK_app ms l _ (by omega)]
    have := offK_mono ms (show t + 1 ≤ ms.length by omega) (Nat.le_refl _)
    omega)
  rw [hg] at h1
  exact h1
theorem fed_none (ms : List (List UInt8)) (l : List UInt8) (hl : l.length ≤ 65535) : nextL (heldAt (ms ++ [l]) ms.length (offK ms ms.length + l.length + 1)) = none := by
  have hg : (ms ++ [l]).getD ms.length [] = l := by simp [List.getD]
  exact next_none (ms ++ [l]) ms.length _ (by simp) (by rw [hg]; exact hl) (by rw [offK_last]; omega)
theorem fed_last (ms : List (List UInt8)) (l y : List UInt8) (hl : l.length ≤ 65535) (hy : y = (putL [] l).drop (l.length + 1)) :
    ∃ rest, nextL (heldAt (ms ++ [l]) ms.length (offK ms ms.length + l.length + 1) ++ y) = some (l, rest) ∧ rest.length = 0 := by
  have hg : (ms ++ [l]).getD ms.length [] = l := by simp [List.getD]
  have h1 := heldAt_feed (ms ++ [l]) ms.length (offK ms ms.length + l.length + 1) 1 (by rw [offK_app ms l _ (Nat.le_refl _)]; omega)
  have h2 : ((lineK (ms ++ [l]) (ms ++ [l]).length).drop (offK ms ms.length + l.length + 1)).take 1 = y := by
    rw [lineK_all, hy]
    unfold offK
    rw [List.drop_append, List.drop_of_length_le (by omega), List.nil_append, Nat.add_assoc, Nat.add_sub_cancel_left, List.take_of_length_le (by simp [putL_length, List.length_drop]; omega)]
  rw [h2] at h1
  have h3 := next_some (ms ++ [l]) ms.length (offK ms ms.length + l.length + 1 + 1) (by simp) (by rw [hg]; exact hl) (by rw [offK_last]; omega)
  rw [hg] at h3
  refine ⟨_, by rw [h1]; exact h3, ?_⟩
  rw [heldAt_length _ _ _ (by simp only [List.length_append, List.length_singleton]; rw [offK_last]; omega), offK_last]
  omega
theorem last_byte (l : List UInt8) (h : l.length = 0) : [0] = (putL [] l).drop (l.length + 1) := by
  obtain rfl : l = [] := List.eq_nil_of_length_eq_zero h
  rfl
theorem last_byte' (l : List UInt8) (h : 0 < l.length) : l.drop (l.length - 1) = (putL [] l).drop (l.length + 1) := by
  have e : putL [] l = [UInt8.ofNat (l.length / 256), UInt8.ofNat (l.length % 256)] ++ l := by simp [putL]
  rw [e, List.drop_append, List.drop_of_length_le (l := [UInt8.ofNat (l.length / 256), UInt8.ofNat (l.length % 256)]) (by simp; omega), List.nil_append]
  congr 1

/-- What the row j holds, before it is written. -/
def wantB (ms : List (List UInt8)) (j : Nat) : List UInt8 := if j < 2 * ms.length then putL [] (ms.getD (j / 2) []) else ms.getD (j - 2 * ms.length) []
theorem wantB_lo (ms : List (List UInt8)) (k j : Nat) (hk : k < ms.length) (hj : j / 2 = k) : wantB ms j = putL [] ms[k] := by
  subst hj
  unfold wantB
  rw [if_pos (by omega)]
  simp [List.getD, hk]
theorem wantB_hi (ms : List (List UInt8)) (k j : Nat) (hk : k < ms.length) (hj : j = 2 * ms.length + k) : wantB ms j = ms[k] := by
  subst hj
  unfold wantB
  rw [if_neg (by omega), Nat.add_sub_cancel_left]
  simp [List.getD, hk]
theorem Bs.take {w : World} {ao : Option Addr} {n : Nat} {xs : List UInt8} (hx : Bs w ao n xs) (k : Nat) (h : k ≤ n) : Bs w ao k (xs.take k) :=
  ⟨by simp [hx.1]; omega, Nat.le_trans h hx.2.1, fun j u hu => hx.2.2 j u (by rw [List.map_take, List.getElem?_take] at hu; split at hu; exact hu; cases hu)⟩
theorem putL_drop (m : List UInt8) : (putL [] m).drop 2 = m := by simp [putL]
abbrev mkB (i : Nat) : UInt8 := UInt8.ofNat i
theorem mkB_toNat (i : Nat) (h : i < 256) : (mkB i).toNat = i := by simp only [mkB, UInt8.toNat_ofNat']; omega
/-- What the row i reads at last, and the wide one. -/
def marked (i n : Nat) : List UInt8 := List.replicate n (mkB i)
def wideB (i n k : Nat) : List UInt8 := List.replicate n (mkB i) ++ List.replicate k (mkB (128 + i))
theorem marked_length (i n : Nat) : (marked i n).length = n := by simp [marked]
theorem wideB_length (i n k : Nat) : (wideB i n k).length = n + k := by simp [wideB]
theorem wideB_zero (i n : Nat) : wideB i n 0 = marked i n := by simp [wideB, marked]
theorem wideB_succ (i n k : Nat) : wideB i n (k + 1) = wideB i n k ++ [mkB (128 + i)] := by
  simp [wideB, List.replicate_succ']
theorem wideB_take (i n k : Nat) : (wideB i n k).take n = marked i n := by simp [wideB, marked]
theorem marked_get (i n k : Nat) (h : k < (marked i n).length) : (marked i n)[k] = mkB i := by simp [marked]
theorem wideB_lo (i n m k : Nat) (h : k < (wideB i n m).length) (hk : k < n) : (wideB i n m)[k] = mkB i := by
  simp only [wideB]
  rw [List.getElem_append_left (by simpa using hk)]; simp
theorem wideB_hi (i n m k : Nat) (h : k < (wideB i n m).length) (hk : n ≤ k) : (wideB i n m)[k] = mkB (128 + i) := by
  simp only [wideB]
  rw [List.getElem_append_right (by simpa using hk)]; simp
theorem wantB_le (ms : List (List UInt8)) (h : ∀ j (h : j < ms.length), ms[j].length ≤ 65535) (j : Nat) : (wantB ms j).length ≤ 70000 := by
  have g : ∀ i, (ms.getD i []).length ≤ 65535 := fun i => by
    rcases Nat.lt_or_ge i ms.length with h1 | h1
    · have := h i h1; simpa [List.getD, h1] using this
    · simp [List.getD, h1]
  unfold wantB
  split
  · rw [putL_length]; have := g (j / 2); simp only [List.length_nil]; omega
  · have := g (j - 2 * ms.length); omega

/-- One more byte behind a row: in place, or in a new block. -/
theorem grow_step {wr wv wv1 w2 : World} {o go go2 : Option Addr} {m N gc gc2 : Nat} {xs ys : List UInt8} {z : UInt8} (h1 : Fr (blkL o) wr wv) (h2 : go = o ∨ ∀ j ∈ blkL go, wr.heap.size ≤ j) (h3 : Bs wv o m xs)
    (h4 : ∀ j ∈ blkL o, j < wr.heap.size) (h5 : ys.take m = xs) (h6 : m ≤ ys.length) (k : Kp wv wv1) (a : Appd wv1 w2 0 5 1 go gc 1 N ((ys ++ [z]).map by8) go2 gc2) :
    Fr (blkL o) wr w2 ∧ (go2 = o ∨ ∀ j ∈ blkL go2, wr.heap.size ≤ j) ∧ Bs w2 o m xs := by
  have f1 : Fr (blkL o) wr wv1 := h1.trans ((Fr.of_kp k).mono (by simp))
  have hsz := f1.size
  refine ⟨f1.step a.fr (fun j hj => ?_), ?_, ?_⟩
  · rcases h2 with rfl | h2
    · exact .inl hj
    · exact .inr (h2 j hj)
  · rcases a.move with rfl | ⟨_, hm⟩
    · exact h2
    · refine .inr (fun j hj => ?_)
      have := mem_blkL.1 hj
      rw [hm] at this
      simp only [Option.some.injEq] at this
      omega
  · rcases a.move with rfl | ⟨hm, _⟩
    · rcases h2 with rfl | h2
      · have h7 := a.own.bs
        have h8 : m ≤ N := by have := h7.1; simp at this; omega
        have := h7.take m h8
        rw [List.take_append_of_le_length h6, h5] at this
        exact this
      · exact a.fr.bs (Kp.bs k h3) (fun j hj hj2 => by have := h4 j hj; have := h2 j hj2; omega)
    · exact (Fr.of_grown (ao := none) hm).bs (Kp.bs k h3) (by simp [blkL, blk])

def entW (R G : Nat → Row) (i : Nat) : Nat → Ent := fun j => if j < i then ent2 (R j) (G j) else (R j).ent
theorem entW_zero (R G : Nat → Row) : entW R G 0 = fun j => (R j).ent := by funext j; simp [entW]
theorem entW_at (R G : Nat → Row) (i : Nat) : entW R G i i = (R i).ent := by simp [entW]
theorem entW_lt (R G : Nat → Row) (i j : Nat) (h : j < i) : entW R G i j = ent2 (R j) (G j) := by simp [entW, h]
/-- What an entry of the last phase gives, in plain names. -/
theorem St.wide {w0 w : World} {r : Nat} {held : List UInt8} {T gt gw N tc wc : Nat} {x : Ent} {R G : Nat → Row} (h : St w0 w r held T (some ⟨gt, 0, none⟩) N tc (tvals R N) 22 (some ⟨gw, 0, none⟩) N wc (tvals G N) x N (entW R G N)) (i : Nat) (hi : i < N) {o go : Option Addr} {m c1 gc : Nat}
    (hR : R i = ⟨o, m, c1, marked i m⟩) (hG : G i = ⟨go, m + 70, gc, wideB i m 70⟩) : w.cell? ⟨gt, i, none⟩ = some (.slice o m c1) ∧ w.cell? ⟨gw, i, none⟩ = some (.slice go (m + 70) gc) ∧ Bs w o m (marked i m) ∧ Bs w go (m + 70) (wideB i m 70) := by
  have h1 := h.cellT i hi
  have h2 := h.cellW i hi
  have h3 := h.fam i hi
  rw [entW_lt _ _ _ _ hi] at h3
  have h3 : Bs w (R i).ao (R i).n (R i).bs ∧ Bs w (G i).ao (G i).n (G i).bs ∧ _ := h3
  rw [hR] at h1 h3
  rw [hG] at h2 h3
  exact ⟨h1, h2, h3.1, h3.2.1⟩
theorem entW_upd (R G : Nat → Row) (i : Nat) (g : Row) : upd (entW R G i) i (ent2 (R i) g) = entW R (upd G i g) (i + 1) := by
  funext j
  by_cases h : j = i
  · subst h; rw [upd_self, entW_lt _ _ _ _ (Nat.lt_succ_self _), upd_self]
  · rw [upd_ne _ _ _ _ h]
    unfold entW
    rw [upd_ne _ _ _ _ h]
    by_cases h1 : j < i
    · rw [if_pos h1, if_pos (by omega)]
    · rw [if_neg h1, if_neg (by omega)]
end Go.Proofs.YtkpdbdlkihgofaaDoor
