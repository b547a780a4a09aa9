/- A pattern in lists of its own, with room behind each: what is needed of memory. No condition. -/
import Derived.Test.YtpemfmjplejdiaaDoorLargeB
import Derived.Test.YtpemfmjplejdiaaDoorAll
import Derived.Test.YtpemfmjplejdiaaDoorLoads
namespace Go.Proofs.YtpemfmjplejdiaaDoor
open Go.RowKit

/-- An empty slice that is not nil. -/
theorem Own.empty (w : World) (base : Nat) (e : TypeId) (size : Nat) (hb : base ≤ w.heap.size) : Own (w.alloc (.cells #[] e)) base e size (some ⟨w.heap.size, 0, none⟩) 0 0 [] := by
  refine ⟨by simp, .inr ⟨w.heap.size, 0, #[], rfl, hb, heap_alloc_new w _, Nat.le_refl _, Nat.zero_le _, by simp, by simp⟩⟩

/-- A list of numbers in a block from B on, with room behind it, where 77 stands. -/
def Rm (B : Nat) (w : World) (ao : Option Addr) (n cap : Nat) (xs : List Int) : Prop :=
  Is w ao n xs ∧ n + 1 ≤ cap ∧ ∃ g, ao = some ⟨g, 0, none⟩ ∧ B ≤ g ∧ w.cell? ⟨g, n, none⟩ = some (iv 77)
theorem Rm.fr {B : Nat} {Z : List Nat} {w w' : World} {ao : Option Addr} {n cap : Nat} {xs : List Int} (h : Rm B w ao n cap xs) (k : Fr Z w w') (hZ : ∀ j ∈ blkL ao, j ∉ Z) : Rm B w' ao n cap xs := by
  obtain ⟨h1, h2, g, rfl, h3, h4⟩ := h
  exact ⟨⟨h1.1, h1.2.1, k.cs h1.2.2 hZ⟩, h2, g, rfl, h3, k.cell h4 (hZ g (by simp [blkL, blk]))⟩
theorem Rm.kp {B : Nat} {w w' : World} {ao : Option Addr} {n cap : Nat} {xs : List Int} (h : Rm B w ao n cap xs) (k : Kp w w') : Rm B w' ao n cap xs := h.fr (Fr.of_kp k) (by simp)
theorem Rm.of_own {B : Nat} {w : World} {ao : Option Addr} {n cap : Nat} {xs : List Int} (h : Own w B 3 1 ao (n + 1) cap (xs.map iv ++ [iv 77])) (hl : xs.length = n) (hn : n ≤ 1000) : Rm B w ao n cap xs := by
  obtain ⟨g, cur, rfl, hg, _⟩ := h.block (by omega)
  have hc := h.cs
  have hx : ∀ j u, (xs.map iv ++ [iv 77])[j]? = some u → w.cell? ⟨g, j, none⟩ = some u := fun j u hu => by
    obtain ⟨b, off, e, q⟩ := hc j u hu
    simp only [Option.some.injEq, Addr.mk.injEq, and_true] at e
    obtain ⟨rfl, rfl⟩ := e
    rwa [Nat.zero_add] at q
  refine ⟨⟨hl, by unfold maxLen; omega, fun j u hu => ⟨g, 0, rfl, ?_⟩⟩, h.cap, g, rfl, hg, hx n _ ?_⟩
  · rw [Nat.zero_add]
    have hj : j < (xs.map iv).length := (List.getElem?_eq_some_iff.1 hu).1
    exact hx j u (by rw [List.getElem?_append_left hj]; exact hu)
  · rw [List.getElem?_append_right (by simp [hl])]; simp [hl]
theorem Rm.lt {B : Nat} {w : World} {ao : Option Addr} {n cap : Nat} {xs : List Int} (h : Rm B w ao n cap xs) : ∀ j ∈ blkL ao, B ≤ j ∧ j < w.heap.size := by
  obtain ⟨h1, h2, g, rfl, h3, h4⟩ := h
  intro j hj
  rw [mem_blkL_some] at hj
  subst hj
  exact ⟨h3, World.block_lt_of_cell? w _ h4⟩

/-- Messages of the call's own, each with a list of its own and room behind it; the blocks of X may change. -/
def LnW (w : World) (B : Nat) (X : List Nat) (ao : Option Addr) (n cap : Nat) (ls : List Ln) : Prop :=
  ls.length = n ∧ ∃ ts : List Tv, ts.length = ls.length ∧ Own w B 53 2 ao n cap (lnc ls ts) ∧ ∀ (j : Nat) (h : j < ls.length) (h' : j < ts.length), ts[j].n ≤ 1000 ∧ Sta w (blkL ao ++ X) (fun w => Rm B w ts[j].ao ts[j].n ts[j].c ls[j].2)
theorem LnW.nil (w : World) (B : Nat) (X : List Nat) : LnW w B X none 0 0 [] := ⟨rfl, [], rfl, Own.nil _ _ _ _, fun j h => by simp at h⟩
theorem Sta.rm {B : Nat} {w : World} {ao : Option Addr} {n cap : Nat} {xs : List Int} {X : List Nat} (h : Rm B w ao n cap xs) (hX : ∀ k ∈ blkL ao, k ∉ X) : Sta w X (fun w => Rm B w ao n cap xs) := fun _ k => h.fr k hX
theorem LnW.keep {w w' : World} {B : Nat} {X Y : List Nat} {ao : Option Addr} {n cap : Nat} {ls : List Ln} (h : LnW w B X ao n cap ls) (k : Fr Y w w') (hY : ∀ j ∈ Y, j ∈ X ∨ w.heap.size ≤ j) (hB : ∀ j ∈ Y, j ∉ blkL ao) : LnW w' B X ao n cap ls := by
  obtain ⟨h1, ts, h2, h3, h4⟩ := h
  exact ⟨h1, ts, h2, k.own h3 (fun j hj hj2 => hB j hj2 hj), fun j hj hj' => ⟨(h4 j hj hj').1, (h4 j hj hj').2.step k (fun i hi => (hY i hi).imp (fun q => List.mem_append.2 (.inr q)) id) (fun i hi => .inl hi)⟩⟩
/-- One more message. -/
theorem LnW.app {w w' : World} {B : Nat} {X : List Nat} {ao ao' : Option Addr} {n cap cap' N : Nat} {ls : List Ln} (h1 : ls.length = n) (ts : List Tv) (h2 : ts.length = ls.length) (h4 : ∀ (j : Nat) (h : j < ls.length) (h' : j < ts.length), ts[j].n ≤ 1000 ∧ Sta w (blkL ao ++ X) (fun w => Rm B w ts[j].ao ts[j].n ts[j].c ls[j].2))
    (l : Ln) (t : Tv) (ht : Sta w (blkL ao ++ X) (fun w => Rm B w t.ao t.n t.c l.2)) (htn : t.n ≤ 1000) (hN : N = n + 1)
    (ha : Appd w w' B 53 2 ao cap 1 N (lnc (ls ++ [l]) (ts ++ [t])) ao' cap') : LnW w' B X ao' N cap' (ls ++ [l]) := by
  have hf := ha.fr
  have hb' : ∀ j ∈ blkL ao', j ∈ blkL ao ∨ j = w.heap.size := fun j hj => by
    rcases ha.fresh j (mem_blkL.1 hj) with q | q
    · exact .inl (mem_blkL.2 q)
    · exact .inr q
  have hZ : ∀ i ∈ blkL ao' ++ X, i ∈ blkL ao ++ X ∨ w.heap.size ≤ i := fun i hi => by
    rcases List.mem_append.1 hi with q | q
    · rcases hb' i q with q | q
      · exact .inl (List.mem_append.2 (.inl q))
      · exact .inr (by omega)
    · exact .inl (List.mem_append.2 (.inr q))
  refine ⟨by rw [List.length_append, h1, hN]; rfl, ts ++ [t], by simp [h2], ha.own, fun j hj hj' => ?_⟩
  by_cases hlt : j < ls.length
  · rw [List.getElem_append_left hlt, List.getElem_append_left (by omega)]
    exact ⟨(h4 j hlt (by omega)).1, (h4 j hlt (by omega)).2.step hf (fun i hi => .inl (List.mem_append.2 (.inl hi))) hZ⟩
  · have hje : j = ls.length := by simp at hj; omega
    subst hje
    rw [List.getElem_concat_length rfl]
    have : (ts ++ [t])[ls.length]'hj' = t := by simp [← h2]
    rw [this]
    exact ⟨htn, ht.step hf (fun i hi => .inl (List.mem_append.2 (.inl hi))) hZ⟩

/-- The messages, each with room behind its list, and room behind them all, where 77 stands. -/
def LnR (B : Nat) (w : World) (ao : Option Addr) (n cap : Nat) (ls : List Ln) : Prop :=
  ls.length = n ∧ n ≤ 1000 ∧ n + 1 ≤ cap ∧ ∃ g, ao = some ⟨g, 0, none⟩ ∧ B ≤ g ∧ w.cell? ⟨g, n * 2, none⟩ = some (iv 77) ∧
    ∀ j (h : j < ls.length), ∃ t : Tv, t.n ≤ 1000 ∧ w.cell? ⟨g, j * 2, none⟩ = some (iv ls[j].1) ∧ w.cell? ⟨g, j * 2 + 1, none⟩ = some (tvv t) ∧ Rm B w t.ao t.n t.c ls[j].2
theorem LnR.kp {B : Nat} {w w' : World} {ao : Option Addr} {n cap : Nat} {ls : List Ln} (h : LnR B w ao n cap ls) (k : Kp w w') : LnR B w' ao n cap ls := by
  obtain ⟨h1, h2, h3, g, rfl, h4, h5, h6⟩ := h
  refine ⟨h1, h2, h3, g, rfl, h4, k.cell h5, fun j hj => ?_⟩
  obtain ⟨t, q1, q2, q3, q4⟩ := h6 j hj
  exact ⟨t, q1, k.cell q2, k.cell q3, q4.kp k⟩
theorem LnR.fr {B : Nat} {Z : List Nat} {w w' : World} {ao : Option Addr} {n cap : Nat} {ls : List Ln} (h : LnR B w ao n cap ls) (k : Fr Z w w') (hZ : ∀ j ∈ Z, j < B) : LnR B w' ao n cap ls := by
  obtain ⟨h1, h2, h3, g, rfl, h4, h5, h6⟩ := h
  have hg : g ∉ Z := fun h => by have := hZ g h; omega
  refine ⟨h1, h2, h3, g, rfl, h4, k.cell h5 hg, fun j hj => ?_⟩
  obtain ⟨t, q1, q2, q3, q4⟩ := h6 j hj
  exact ⟨t, q1, k.cell q2 hg, k.cell q3 hg, q4.fr k (fun i hi hz => by have := (q4.lt i hi).1; have := hZ i hz; omega)⟩
theorem LnR.lns {B : Nat} {w : World} {ao : Option Addr} {n cap : Nat} {ls : List Ln} (h : LnR B w ao n cap ls) : Lns w ao n ls := by
  obtain ⟨h1, h2, h3, g, rfl, h4, h5, h6⟩ := h
  refine ⟨h1, by omega, fun j hj => ?_⟩
  obtain ⟨t, q1, q2, q3, q4⟩ := h6 j hj
  exact ⟨g, 0, _, _, _, rfl, by rw [Nat.zero_add]; exact q2, by rw [Nat.zero_add]; exact q3, q4.1, by omega⟩
theorem LnR.of_own {B : Nat} {w : World} {ao : Option Addr} {n cap : Nat} {ls : List Ln} {ts : List Tv} (h1 : ls.length = n) (hn : n ≤ 1000) (h2 : ts.length = ls.length) (t : Tv) (h : Own w B 53 2 ao (n + 1) cap (lnc (ls ++ [(77, [])]) (ts ++ [t])))
    (h4 : ∀ (j : Nat) (h : j < ls.length) (h' : j < ts.length), ts[j].n ≤ 1000 ∧ Rm B w ts[j].ao ts[j].n ts[j].c ls[j].2) : LnR B w ao n cap ls := by
  obtain ⟨g, cur, rfl, hg, _⟩ := h.block (by omega)
  have hc := h.cs
  have hx : ∀ j u, (lnc (ls ++ [(77, [])]) (ts ++ [t]))[j]? = some u → w.cell? ⟨g, j, none⟩ = some u := fun j u hu => by
    obtain ⟨b, off, e, q⟩ := hc j u hu
    simp only [Option.some.injEq, Addr.mk.injEq, and_true] at e
    obtain ⟨rfl, rfl⟩ := e
    rwa [Nat.zero_add] at q
  have hg2 : ∀ j (hj : j < (ls ++ [((77 : Int), ([] : List Int))]).length), _ := fun j hj => lnc_get (ls := ls ++ [(77, [])]) (ts := ts ++ [t]) (by simp [h2]) j hj
  refine ⟨h1, hn, h.cap, g, rfl, hg, hx _ _ ?_, fun j hj => ?_⟩
  · have := (hg2 n (by simp [h1])).1
    rw [this]; simp [← h1]
  · obtain ⟨e0, e1⟩ := hg2 j (by simp; omega)
    rw [List.getElem_append_left hj] at e0
    rw [List.getElem_append_left (by omega)] at e1
    exact ⟨ts[j]'(by omega), (h4 j hj (by omega)).1, hx _ _ e0, hx _ _ e1, (h4 j hj (by omega)).2⟩

/-- What 'lent' answers. -/
def LentPost (w : World) (nm : ByteArray) (b0 b1 : List Int) (ls : List Ln) (n0 n1 nl : Nat) (e : Ending) (w' : World) : Prop := Kp w w' ∧ ∃ a0 c0 a1 c1 al cl,
  e = .returned (.agg #[.string nm, .slice a0 n0 c0, .slice a1 n1 c1, .slice al nl cl]) ∧ Rm w.heap.size w' a0 n0 c0 b0 ∧ Rm w.heap.size w' a1 n1 c1 b1 ∧ LnR w.heap.size w' al nl cl ls
end Go.Proofs.YtpemfmjplejdiaaDoor
