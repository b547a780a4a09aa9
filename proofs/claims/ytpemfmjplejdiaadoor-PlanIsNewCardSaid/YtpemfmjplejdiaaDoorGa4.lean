/- Parts of the walks and plain laws, merged: MirLaw, NnLaw, AllA, RollLaw, RollTLaw, MvTok, Run2, All, Find, PatO, Frame19, Run3, Run4. Each theorem bears its own conditions; no other. -/
import Derived.Test.YtpemfmjplejdiaaDoorMirror
import Derived.Test.YtpemfmjplejdiaaDoorGa3
import Derived.Test.YtpemfmjplejdiaaDoorGa2
import Derived.OrdersHeld
namespace Go.Proofs.YtpemfmjplejdiaaDoor
open Go.RowKit

def pubL (ini : Bool) (b0 b1 : List Int) (ls : List Ln) : List Mv := (if hasL ls (sideOf ini) 2 || inL (if ini then b0 else b1) 2 then [⟨1, 2, 0⟩] else []) ++ (if inL (if ini then b0 else b1) 1 then [⟨1, 1, 0⟩] else [])
def restL (ini : Bool) (b0 b1 : List Int) (ls : List Ln) : List Mv := ⟨2, 0, 0⟩ :: (b0.flatMap (befM (!ini) (pskL ls)) ++ (b1.flatMap (befM ini (pskL ls)) ++ (ls.flatMap (lineM ini (pskL ls)) ++ [⟨14, 0, 0⟩])))
theorem unrollL_split (ini : Bool) (b0 b1 : List Int) (ls : List Ln) : unrollL ini b0 b1 ls = pubL ini b0 b1 ls ++ restL ini b0 b1 ls := by
  unfold unrollL headM pubL restL
  simp [List.append_assoc]
theorem pubL_op (ini : Bool) (b0 b1 : List Int) (ls : List Ln) : ∀ m ∈ pubL ini b0 b1 ls, m.op = 1 := by
  intro m hm
  unfold pubL at hm
  generalize (hasL ls (sideOf ini) 2 || inL (if ini then b0 else b1) 2) = p at hm
  generalize inL (if ini then b0 else b1) 1 = q at hm
  cases p <;> cases q <;> simp at hm
  · rw [hm]
  · rw [hm]
  · rcases hm with h | h <;> rw [h]

theorem befM_mir (o psk : Bool) (t : Int) (h : t = 1 ∨ t = 2) : (befM o psk t).map mirL = befM (!o) psk t := by
  rcases h with rfl | rfl <;> cases o <;> cases psk <;> rfl
theorem movesL_mir (t : Int) (s : Bool) (h1 : 1 ≤ t) (h7 : t ≤ 7) : (movesL true t s).map mirL = movesL false t (!s) := by
  rcases (show t = 1 ∨ t = 2 ∨ t = 3 ∨ t = 4 ∨ t = 5 ∨ t = 6 ∨ t = 7 by omega) with rfl | rfl | rfl | rfl | rfl | rfl | rfl <;> cases s <;> rfl
theorem mixM_mir (s psk : Bool) (t : Int) : (mixM s psk t).map mirL = mixM (!s) psk t := by
  unfold mixM
  cases (t == 1 && psk) <;> cases s <;> rfl
theorem tokM_mir (s psk : Bool) (t : Int) (h1 : 1 ≤ t) (h7 : t ≤ 7) : (tokM true s psk t).map mirL = tokM false (!s) psk t := by
  unfold tokM
  rw [List.map_append, movesL_mir t s h1 h7, mixM_mir]
theorem flatMap_mir {α : Type} (f g : α → List Mv) (l : List α) (h : ∀ x ∈ l, (f x).map mirL = g x) : (l.flatMap f).map mirL = l.flatMap g := by
  induction l with
  | nil => rfl
  | cons x r ih =>
    rw [List.flatMap_cons, List.flatMap_cons, List.map_append, h x (by simp), ih (fun y hy => h y (by simp [hy]))]
theorem lineM_mir (psk : Bool) (l : Ln) (h : l.1 = 0 ∨ l.1 = 1) (ht : ∀ t ∈ l.2, 1 ≤ t ∧ t ≤ 7) : (lineM true psk l).map mirL = lineM false psk l := by
  have hs : (l.1 == sideOf false) = !(l.1 == sideOf true) := by
    rcases h with h | h <;> rw [h] <;> rfl
  unfold lineM
  rw [hs, List.map_cons, List.map_append, flatMap_mir _ _ _ (fun t h' => tokM_mir _ psk t (ht t h').1 (ht t h').2)]
  cases (l.1 == sideOf true) <;> rfl
theorem restL_mir {b0 b1 : List Int} {ls : List Ln} (h : shapedL b0 b1 ls = true) : (restL true b0 b1 ls).map mirL = restL false b0 b1 ls := by
  obtain ⟨h0, h1, _, hl⟩ := shapedL_mem h
  have g0 : ∀ t ∈ b0, t = 1 ∨ t = 2 := fun t ht => by obtain ⟨j, hj, rfl⟩ := List.getElem_of_mem ht; exact okB_mem h0 j hj
  have g1 : ∀ t ∈ b1, t = 1 ∨ t = 2 := fun t ht => by obtain ⟨j, hj, rfl⟩ := List.getElem_of_mem ht; exact okB_mem h1 j hj
  have gl : ∀ l ∈ ls, (lineM true (pskL ls) l).map mirL = lineM false (pskL ls) l := fun l hm => by
    obtain ⟨j, hj, rfl⟩ := List.getElem_of_mem hm
    obtain ⟨q1, _, q2⟩ := hl j hj
    exact lineM_mir _ _ q1 (fun t ht => by obtain ⟨i, hi, rfl⟩ := List.getElem_of_mem ht; exact q2 i hi)
  unfold restL
  rw [List.map_cons, List.map_append, List.map_append, List.map_append, flatMap_mir _ _ _ (fun t ht => befM_mir _ _ t (g0 t ht)), flatMap_mir _ _ _ (fun t ht => befM_mir _ _ t (g1 t ht)), flatMap_mir _ _ _ gl]
  rfl
/-- Each move's parts are small. -/
def smallM (m : Mv) : Prop := (1 ≤ m.op ∧ m.op ≤ 14) ∧ (0 ≤ m.key ∧ m.key ≤ 100) ∧ (0 ≤ m.wth ∧ m.wth ≤ 100)
theorem restL_small {b0 b1 : List Int} {ls : List Ln} (h : shapedL b0 b1 ls = true) (ini : Bool) : ∀ m ∈ restL ini b0 b1 ls, smallM m := by
  obtain ⟨h0, h1, _, hl⟩ := shapedL_mem h
  have g0 : ∀ t ∈ b0, t = 1 ∨ t = 2 := fun t ht => by obtain ⟨j, hj, rfl⟩ := List.getElem_of_mem ht; exact okB_mem h0 j hj
  have g1 : ∀ t ∈ b1, t = 1 ∨ t = 2 := fun t ht => by obtain ⟨j, hj, rfl⟩ := List.getElem_of_mem ht; exact okB_mem h1 j hj
  have hb : ∀ (o psk : Bool) t, t = 1 ∨ t = 2 → ∀ m ∈ befM o psk t, smallM m := by
    intro o psk t ht m hm
    rcases ht with rfl | rfl <;> cases o <;> cases psk <;> simp [befM] at hm <;> (first | subst hm | rcases hm with rfl | rfl) <;> (unfold smallM; simp)
  have ht : ∀ (s psk : Bool) t, 1 ≤ t → t ≤ 7 → ∀ m ∈ tokM ini s psk t, smallM m := by
    intro s psk t h1 h7 m hm
    unfold tokM at hm
    rcases List.mem_append.1 hm with hm | hm
    · rcases (show t = 1 ∨ t = 2 ∨ t = 3 ∨ t = 4 ∨ t = 5 ∨ t = 6 ∨ t = 7 by omega) with rfl | rfl | rfl | rfl | rfl | rfl | rfl <;> cases s <;> cases ini <;> simp [movesL, wantI, wantR] at hm <;> (first | subst hm | rcases hm with rfl | rfl) <;> (unfold smallM; simp)
    · unfold mixM at hm
      cases hq : (t == 1 && psk) <;> rw [hq] at hm <;> cases s <;> simp at hm <;> subst hm <;> (unfold smallM; simp)
  intro m hm
  unfold restL at hm
  rcases List.mem_cons.1 hm with rfl | hm
  · unfold smallM; simp
  · rcases List.mem_append.1 hm with hm | hm
    · obtain ⟨t, ht1, hm⟩ := List.mem_flatMap.1 hm
      exact hb _ _ t (g0 t ht1) m hm
    · rcases List.mem_append.1 hm with hm | hm
      · obtain ⟨t, ht1, hm⟩ := List.mem_flatMap.1 hm
        exact hb _ _ t (g1 t ht1) m hm
      · rcases List.mem_append.1 hm with hm | hm
        · obtain ⟨l, hl1, hm⟩ := List.mem_flatMap.1 hm
          obtain ⟨j, hj, rfl⟩ := List.getElem_of_mem hl1
          obtain ⟨_, _, q2⟩ := hl j hj
          unfold lineM at hm
          rcases List.mem_cons.1 hm with rfl | hm
          · unfold smallM; split <;> simp
          · rcases List.mem_append.1 hm with hm | hm
            · obtain ⟨t, ht1, hm⟩ := List.mem_flatMap.1 hm
              obtain ⟨i, hi, rfl⟩ := List.getElem_of_mem ht1
              exact ht _ _ _ (q2 i hi).1 (q2 i hi).2 m hm
            · simp at hm; subst hm; unfold smallM; simp
        · simp at hm; subst hm; unfold smallM; simp
end Go.Proofs.YtpemfmjplejdiaaDoor

namespace Go.Proofs.YtpemfmjplejdiaaDoor
def nnLs : List Ln := [(0, [1]), (1, [1, 3])]
theorem nn_check : checkL [] [] nnLs = 0 := by kernel_rfl
theorem nn_moves (ini : Bool) : (unrollL ini [] [] nnLs).length = 11 ∧ ((unrollL ini [] [] nnLs)[0]?).map (·.op) = some 2 ∧ ((unrollL ini [] [] nnLs)[10]?).map (·.op) = some 14 := by
  cases ini <;> exact ⟨by kernel_rfl, by kernel_rfl, by kernel_rfl⟩
end Go.Proofs.YtpemfmjplejdiaaDoor

namespace Go.Proofs.YtpemfmjplejdiaaDoor
open Go.RowKit

/-- It holds, and goes on to hold when only the blocks of X change. -/
def Sta (w : World) (X : List Nat) (P : World → Prop) : Prop := ∀ w', Fr X w w' → P w'
theorem Sta.now {w : World} {X : List Nat} {P : World → Prop} (h : Sta w X P) : P w := h w (Fr.refl _ _)
theorem Sta.step {a b : World} {X Y Z : List Nat} {P : World → Prop} (h : Sta a X P) (k : Fr Y a b) (hY : ∀ j ∈ Y, j ∈ X ∨ a.heap.size ≤ j) (hZ : ∀ j ∈ Z, j ∈ X ∨ a.heap.size ≤ j) : Sta b Z P := fun w' k' =>
  h w' (((Fr.refl X a).step k hY).step k' hZ)
theorem Sta.kp {a b : World} {X : List Nat} {P : World → Prop} (h : Sta a X P) (k : Kp a b) : Sta b X P := h.step (Fr.of_kp k) (by simp) (fun _ hj => .inl hj)
theorem Sta.new {w : World} {ao : Option Addr} {n : Nat} {xs : List Int} {X : List Nat} (h : Is w ao n xs) (hX : ∀ k ∈ blkL ao, k ∉ X) : Sta w X (fun w => Is w ao n xs) := fun _ k => ⟨h.1, h.2.1, k.cs h.2.2 hX⟩
theorem Sta.mp {w : World} {X : List Nat} {P Q : World → Prop} (h : Sta w X P) (hPQ : ∀ w', P w' → Q w') : Sta w X Q := fun w' k => hPQ w' (h w' k)
theorem Sta.sub {w : World} {X Y : List Nat} {P : World → Prop} (h : Sta w X P) (hs : ∀ j ∈ Y, j ∈ X) : Sta w Y P := fun w' k => h w' (k.mono hs)

/-- A slice's parts. -/
structure Tv where
  ao : Option Addr
  n : Nat
  c : Nat
def tvv (t : Tv) : Value := .slice t.ao t.n t.c
/-- The cells of a list of messages. -/
def lnc : List Ln → List Tv → List Value
  | l :: r, t :: s => iv l.1 :: tvv t :: lnc r s
  | _, _ => []
theorem lnc_length : ∀ {ls : List Ln} {ts : List Tv}, ts.length = ls.length → (lnc ls ts).length = ls.length * 2
  | [], [], _ => rfl
  | l :: r, t :: s, h => by
    simp only [lnc, List.length_cons] at h ⊢
    rw [lnc_length (by omega)]; omega
theorem lnc_append : ∀ {ls : List Ln} {ts : List Tv} (l : Ln) (t : Tv), ts.length = ls.length → lnc (ls ++ [l]) (ts ++ [t]) = lnc ls ts ++ [iv l.1, tvv t]
  | [], [], _, _, _ => rfl
  | l :: r, t :: s, l', t', h => by
    simp only [List.length_cons] at h
    simp only [lnc, List.cons_append]
    rw [lnc_append l' t' (by omega)]
theorem lnc_get : ∀ {ls : List Ln} {ts : List Tv} (h : ts.length = ls.length) (j : Nat) (hj : j < ls.length), (lnc ls ts)[j * 2]? = some (iv ls[j].1) ∧ (lnc ls ts)[j * 2 + 1]? = some (tvv (ts[j]'(by omega)))
  | l :: r, t :: s, h, 0, _ => ⟨rfl, rfl⟩
  | l :: r, t :: s, h, j + 1, hj => by
    simp only [List.length_cons] at h hj
    have := lnc_get (ls := r) (ts := s) (by omega) j (by omega)
    simp only [lnc, List.getElem_cons_succ]
    rw [show (j + 1) * 2 = j * 2 + 1 + 1 by omega]
    exact this

/-- Messages of the call's own, each with a list of its own; the blocks of X may change. -/
def LnO (w : World) (B : Nat) (X : List Nat) (ao : Option Addr) (n cap : Nat) (ls : List Ln) : Prop :=
  ls.length = n ∧ ∃ ts : List Tv, ts.length = ls.length ∧ Own w B 53 2 ao n cap (lnc ls ts) ∧ ∀ (j : Nat) (h : j < ls.length) (h' : j < ts.length), ts[j].n ≤ 7007 ∧ Sta w (blkL ao ++ X) (fun w => Is w ts[j].ao ts[j].n ls[j].2)
theorem LnO.nil (w : World) (B : Nat) (X : List Nat) : LnO w B X none 0 0 [] := ⟨rfl, [], rfl, Own.nil _ _ _ _, fun j h => by simp at h⟩
theorem LnO.lns {w : World} {B : Nat} {X : List Nat} {ao : Option Addr} {n cap : Nat} {ls : List Ln} (h : LnO w B X ao n cap ls) (hn : n ≤ 140737488351232) : Lns w ao n ls := by
  obtain ⟨h1, ts, h2, h3, h4⟩ := h
  refine ⟨h1, hn, fun j hj => ?_⟩
  obtain ⟨b, off, rfl, hc⟩ := h3.cs.at (j * 2) (by rw [lnc_length h2]; omega)
  obtain ⟨g0, g1⟩ := lnc_get h2 j hj
  obtain ⟨q1, q2⟩ := h4 j hj (by omega)
  exact ⟨b, off, _, _, _, rfl, hc _ _ g0, by have := hc _ _ g1; rwa [← Nat.add_assoc] at this, q2.now, by omega⟩
/-- The messages hold on while the blocks of X change. -/
theorem LnO.sta {w : World} {B : Nat} {X Y : List Nat} {ao : Option Addr} {n cap : Nat} {ls : List Ln} (h : LnO w B X ao n cap ls) (hn : n ≤ 140737488351232) (hY : ∀ j ∈ Y, j ∈ X) (hB : ∀ j ∈ Y, j ∉ blkL ao) : Sta w Y (fun w => Lns w ao n ls) := by
  intro w' k
  obtain ⟨h1, ts, h2, h3, h4⟩ := h
  refine LnO.lns (X := []) (B := B) (cap := cap) ⟨h1, ts, h2, k.own h3 (fun j hj hj2 => hB j hj2 hj), fun j hj hj' => ⟨(h4 j hj hj').1, ?_⟩⟩ hn
  exact (h4 j hj hj').2.step k (fun i hi => .inl (List.mem_append.2 (.inr (hY i hi)))) (fun i hi => .inl (List.mem_append.2 (.inl (by simpa using hi))))
theorem LnO.keep {w w' : World} {B : Nat} {X Y : List Nat} {ao : Option Addr} {n cap : Nat} {ls : List Ln} (h : LnO w B X ao n cap ls) (k : Fr Y w w') (hY : ∀ j ∈ Y, j ∈ X ∨ w.heap.size ≤ j) (hB : ∀ j ∈ Y, j ∉ blkL ao) : LnO w' B X ao n cap ls := by
  obtain ⟨h1, ts, h2, h3, h4⟩ := h
  exact ⟨h1, ts, h2, k.own h3 (fun j hj hj2 => hB j hj2 hj), fun j hj hj' => ⟨(h4 j hj hj').1, (h4 j hj hj').2.step k (fun i hi => (hY i hi).imp (fun q => List.mem_append.2 (.inr q)) id) (fun i hi => .inl hi)⟩⟩
/-- One more message. -/
theorem LnO.app {a w w' : World} {B : Nat} {X : List Nat} {ao ao' : Option Addr} {n cap cap' N : Nat} {ls : List Ln} (h : LnO a B X ao n cap ls) (ts : List Tv) (h2 : ts.length = ls.length) (h4 : ∀ (j : Nat) (h : j < ls.length) (h' : j < ts.length), ts[j].n ≤ 7007 ∧ Sta a (blkL ao ++ X) (fun w => Is w ts[j].ao ts[j].n ls[j].2))
    (k : Kp a w) (l : Ln) (t : Tv) (ht : Is w t.ao t.n l.2) (htn : t.n ≤ 7007) (hX : ∀ j ∈ blkL t.ao, j < w.heap.size ∧ j ∉ blkL ao ++ X) (hN : N = n + 1)
    (ha : Appd w w' B 53 2 ao cap 1 N (lnc (ls ++ [l]) (ts ++ [t])) ao' cap') : LnO w' B X ao' N cap' (ls ++ [l]) := by
  have hf := ha.fr
  have hb' : ∀ j ∈ blkL ao', j ∈ blkL ao ∨ j = w.heap.size := fun j hj => by
    rcases ha.fresh j (mem_blkL.1 hj) with q | q
    · exact .inl (mem_blkL.2 q)
    · exact .inr q
  have hsz := k.size
  refine ⟨by rw [List.length_append, h.1, hN]; rfl, ts ++ [t], by simp [h2], ha.own, fun j hj hj' => ?_⟩
  by_cases hlt : j < ls.length
  · rw [List.getElem_append_left hlt, List.getElem_append_left (by omega)]
    refine ⟨(h4 j hlt (by omega)).1, ((h4 j hlt (by omega)).2.kp k).step hf (fun i hi => .inl (List.mem_append.2 (.inl hi))) (fun i hi => ?_)⟩
    rcases List.mem_append.1 hi with q | q
    · rcases hb' i q with q | q
      · exact .inl (List.mem_append.2 (.inl q))
      · exact .inr (by omega)
    · exact .inl (List.mem_append.2 (.inr q))
  · have hje : j = ls.length := by simp at hj; omega
    subst hje
    rw [List.getElem_concat_length rfl]
    have : (ts ++ [t])[ls.length]'hj' = t := by simp [← h2]
    rw [this]
    refine ⟨htn, Sta.step (Sta.new ht (fun i hi => (hX i hi).2)) hf (fun i hi => .inl (List.mem_append.2 (.inl hi))) (fun i hi => ?_)⟩
    rcases List.mem_append.1 hi with q | q
    · rcases hb' i q with q | q
      · exact .inl (List.mem_append.2 (.inl q))
      · exact .inr (by omega)
    · exact .inl (List.mem_append.2 (.inr q))

/-- A pattern among the cells of a list. -/
structure Pv where
  nm : ByteArray
  b0 : Tv
  b1 : Tv
  ls : Tv
def pvc (p : Pv) : List Value := [.string p.nm, tvv p.b0, tvv p.b1, tvv p.ls]
theorem pvc_len (ps : List Pv) : (ps.flatMap pvc).length = ps.length * 4 := by
  induction ps with
  | nil => rfl
  | cons p r ih => simp only [List.flatMap_cons, List.length_append, ih, List.length_cons, pvc, List.length_nil]; omega
theorem pvc_get (ps : List Pv) (j : Nat) (h : j < ps.length) : (ps.flatMap pvc)[j * 4]? = some (.string ps[j].nm) ∧ (ps.flatMap pvc)[j * 4 + 1]? = some (tvv ps[j].b0) ∧ (ps.flatMap pvc)[j * 4 + 2]? = some (tvv ps[j].b1) ∧ (ps.flatMap pvc)[j * 4 + 3]? = some (tvv ps[j].ls) := by
  induction ps generalizing j with
  | nil => simp at h
  | cons p r ih =>
    rw [List.flatMap_cons]
    rcases j with _ | j
    · exact ⟨rfl, rfl, rfl, rfl⟩
    · have := ih j (by simpa using h)
      simp only [List.getElem_cons_succ]
      rw [show (j + 1) * 4 = j * 4 + 4 by omega]
      have e : ∀ i, (pvc p ++ r.flatMap pvc)[i + 4]? = (r.flatMap pvc)[i]? := fun i => by
        rw [List.getElem?_append_right (by simp [pvc])]
        rfl
      rw [show j * 4 + 4 + 1 = j * 4 + 1 + 4 by omega, show j * 4 + 4 + 2 = j * 4 + 2 + 4 by omega, show j * 4 + 4 + 3 = j * 4 + 3 + 4 by omega, e, e, e, e]
      exact this
/-- A pattern's lists read what its row says. -/
def PvR (r : ByteArray) (p : Pv) (w : World) : Prop := p.b0.n ≤ 7007 ∧ p.b1.n ≤ 7007 ∧ p.ls.n ≤ 7007 ∧ Is w p.b0.ao p.b0.n (tokL (partL r 1)) ∧ Is w p.b1.ao p.b1.n (tokL (partL r 2)) ∧ Lns w p.ls.ao p.ls.n (rowLs r)
/-- The first k patterns of the table, in a list of the call's own. -/
def PvO (w : World) (B : Nat) (X : List Nat) (ao : Option Addr) (n cap : Nat) (k : Nat) : Prop :=
  n = k ∧ ∃ ps : List Pv, ps.length = k ∧ Own w B 26 4 ao n cap (ps.flatMap pvc) ∧ ∀ (j : Nat) (h : j < ps.length) (r : ByteArray), rowsL[j]? = some r → ps[j].nm = partL r 0 ∧ Sta w (blkL ao ++ X) (PvR r ps[j])
theorem PvO.nil (w : World) (B : Nat) (X : List Nat) : PvO w B X none 0 0 0 := ⟨rfl, [], rfl, Own.nil _ _ _ _, fun j h => by simp at h⟩
theorem PvO.app {a w w' : World} {B : Nat} {X : List Nat} {ao ao' : Option Addr} {n cap cap' N k : Nat} (ps : List Pv) (h1 : n = k) (h2 : ps.length = k) (h4 : ∀ (j : Nat) (h : j < ps.length) (r : ByteArray), rowsL[j]? = some r → ps[j].nm = partL r 0 ∧ Sta a (blkL ao ++ X) (PvR r ps[j]))
    (hk : Kp a w) (p : Pv) (r : ByteArray) (hr : rowsL[k]? = some r) (hnm : p.nm = partL r 0) (hp : Sta w (blkL ao ++ X) (PvR r p)) (hN : N = n + 1)
    (ha : Appd w w' B 26 4 ao cap 1 N ((ps ++ [p]).flatMap pvc) ao' cap') : PvO w' B X ao' N cap' (k + 1) := by
  have hf := ha.fr
  have hb' : ∀ j ∈ blkL ao' ++ X, j ∈ blkL ao ++ X ∨ w.heap.size ≤ j := fun j hj => by
    rcases List.mem_append.1 hj with hj | hj
    · rcases ha.fresh j (mem_blkL.1 hj) with q | q
      · exact .inl (List.mem_append.2 (.inl (mem_blkL.2 q)))
      · exact .inr (by omega)
    · exact .inl (List.mem_append.2 (.inr hj))
  refine ⟨by omega, ps ++ [p], by simp [h2], ha.own, fun j hj r' hr' => ?_⟩
  by_cases hlt : j < ps.length
  · rw [List.getElem_append_left hlt]
    obtain ⟨q1, q2⟩ := h4 j hlt r' hr'
    exact ⟨q1, (q2.kp hk).step hf (fun i hi => .inl (List.mem_append.2 (.inl hi))) hb'⟩
  · have hje : j = ps.length := by simp at hj; omega
    subst hje
    rw [h2] at hr'
    rw [hr] at hr'
    cases hr'
    rw [List.getElem_concat_length rfl]
    exact ⟨hnm, hp.step hf (fun i hi => .inl (List.mem_append.2 (.inl hi))) hb'⟩
theorem el24 : El Tryd.prog 24 53 (.agg #[.int .i64 0, .slice none 0 0]) 2 32 := ⟨Tryd.underlying24, by kernel_rfl, rfl, by decide, by decide⟩
theorem el80 : El Tryd.prog 80 26 (.agg #[.string ⟨#[]⟩, .slice none 0 0, .slice none 0 0, .slice none 0 0]) 4 88 := ⟨Tryd.underlying80, by kernel_rfl, rfl, by decide, by decide⟩
end Go.Proofs.YtpemfmjplejdiaaDoor

namespace Go.Proofs.YtpemfmjplejdiaaDoor
open Go.RowKit

/-- The token that a move stands for. -/
def backL (ini : Bool) (m : Mv) : Option Int :=
  if m = ⟨7, 1, 0⟩ ∨ m = ⟨8, 3, 0⟩ then some 1 else if m = ⟨9, 2, 0⟩ ∨ m = ⟨10, 4, 0⟩ then some 2 else if m = ⟨12, 0, 0⟩ then some 7
  else if m = ⟨11, 1, 3⟩ then some 3 else if m = ⟨11, 2, 4⟩ then some 6
  else if m = ⟨11, 1, 4⟩ then some (if ini then 4 else 5) else if m = ⟨11, 2, 3⟩ then some (if ini then 5 else 4) else none
/-- A token more in the last message. -/
def addT (ls : List Ln) (t : Int) : List Ln := ls.dropLast ++ (ls.getLast?.map fun l => (l.1, l.2 ++ [t])).toList
/-- What is known ahead of a side: one more. -/
def addB (s : List Int × List Int) (first : Bool) (t : Int) : List Int × List Int := if first then (s.1 ++ [t], s.2) else (s.1, s.2 ++ [t])
/-- One move. -/
def rollS (ini : Bool) (s : (List Int × List Int) × List Ln) (m : Mv) : (List Int × List Int) × List Ln :=
  if m.op = 5 then (s.1, s.2 ++ [(sideOf ini, [])])
  else if m.op = 6 then (s.1, s.2 ++ [(1 - sideOf ini, [])])
  else if s.2.isEmpty then
    (if m.op = 3 ∧ 3 ≤ m.key ∧ m.key ≤ 4 then (addB s.1 (!ini) (m.key - 2), s.2) else if m.op = 3 ∧ 1 ≤ m.key then (addB s.1 ini m.key, s.2) else s)
  else match backL ini m with
    | some t => (s.1, addT s.2 t)
    | none => s
def rollL (ini : Bool) (l : List Mv) : (List Int × List Int) × List Ln := l.foldl (rollS ini) (([], []), [])

theorem rollS_pub (ini : Bool) (p : List Int × List Int) (m : Mv) (h : m.op = 1 ∨ m.op = 2 ∨ m.op = 4) : rollS ini (p, []) m = (p, []) := by
  unfold rollS
  rw [if_neg (by omega), if_neg (by omega), if_pos (show ((p, ([] : List Ln)).2.isEmpty = true) from rfl), if_neg (by omega), if_neg (by omega)]
theorem roll_pub (ini : Bool) (p : List Int × List Int) : ∀ l : List Mv, (∀ m ∈ l, m.op = 1) → l.foldl (rollS ini) (p, []) = (p, [])
  | [], _ => rfl
  | m :: r, h => by rw [List.foldl_cons, rollS_pub ini p m (.inl (h m (by simp)))]; exact roll_pub ini p r (fun x hx => h x (by simp [hx]))
/-- What is known ahead: the initiator's, the responder's. -/
theorem roll_bef (ini o psk first : Bool) (hf : first = (ini != o)) : ∀ (l : List Int) (p : List Int × List Int), (∀ t ∈ l, t = 1 ∨ t = 2) → (l.flatMap (befM o psk)).foldl (rollS ini) (p, []) = ((if first then (p.1 ++ l, p.2) else (p.1, p.2 ++ l)), [])
  | [], p, _ => by cases first <;> simp
  | t :: r, p, h => by
    have h3 : rollS ini (p, []) ⟨3, if o then t + 2 else t, 0⟩ = (addB p first t, []) := by
      subst hf
      rcases h t (by simp) with rfl | rfl <;> cases ini <;> cases o <;> simp [rollS, addB]
    have h1 : (befM o psk t).foldl (rollS ini) (p, []) = (addB p first t, []) := by
      unfold befM
      rw [List.foldl_cons, h3]
      split
      · rw [List.foldl_cons, rollS_pub ini _ _ (.inr (.inr rfl))]; rfl
      · rfl
    rw [List.flatMap_cons, List.foldl_append, h1, roll_bef ini o psk first hf r _ (fun x hx => h x (by simp [hx]))]
    cases first <;> simp [addB]
theorem addT_concat (ls : List Ln) (f t : Int) (ts : List Int) : addT (ls ++ [(f, ts)]) t = ls ++ [(f, ts ++ [t])] := by
  unfold addT
  simp
theorem rollS_tok (ini : Bool) (p : List Int × List Int) (ls : List Ln) (f : Int) (ts : List Int) (m : Mv) (h : m.op ≠ 5 ∧ m.op ≠ 6) : rollS ini (p, ls ++ [(f, ts)]) m = (p, ls ++ [(f, ts ++ (backL ini m).toList)]) := by
  unfold rollS
  rw [if_neg h.1, if_neg h.2, if_neg (by simp)]
  cases hb : backL ini m with
  | none => simp
  | some t => simp only [addT_concat, Option.toList]
theorem roll_toks (ini : Bool) (p : List Int × List Int) (ls : List Ln) (f : Int) : ∀ (l : List Mv) (ts : List Int), (∀ m ∈ l, m.op ≠ 5 ∧ m.op ≠ 6) → l.foldl (rollS ini) (p, ls ++ [(f, ts)]) = (p, ls ++ [(f, ts ++ l.flatMap fun m => (backL ini m).toList)])
  | [], ts, _ => by simp
  | m :: r, ts, h => by
    rw [List.foldl_cons, rollS_tok ini p ls f ts m (h m (by simp)), roll_toks ini p ls f r _ (fun x hx => h x (by simp [hx])), List.flatMap_cons, List.append_assoc]
theorem tokM_back (ini s psk : Bool) (t : Int) (h1 : 1 ≤ t) (h7 : t ≤ 7) : (tokM ini s psk t).flatMap (fun m => (backL ini m).toList) = [t] ∧ ∀ m ∈ tokM ini s psk t, m.op ≠ 5 ∧ m.op ≠ 6 := by
  rcases (show t = 1 ∨ t = 2 ∨ t = 3 ∨ t = 4 ∨ t = 5 ∨ t = 6 ∨ t = 7 by omega) with rfl | rfl | rfl | rfl | rfl | rfl | rfl <;> cases s <;> cases ini <;> cases psk <;> exact ⟨rfl, by decide⟩
theorem toks_back (ini s psk : Bool) : ∀ (l : List Int), (∀ t ∈ l, 1 ≤ t ∧ t ≤ 7) → (l.flatMap (tokM ini s psk)).flatMap (fun m => (backL ini m).toList) = l ∧ ∀ m ∈ l.flatMap (tokM ini s psk), m.op ≠ 5 ∧ m.op ≠ 6
  | [], _ => ⟨rfl, by simp⟩
  | t :: r, h => by
    obtain ⟨g1, g2⟩ := toks_back ini s psk r (fun x hx => h x (by simp [hx]))
    obtain ⟨q1, q2⟩ := tokM_back ini s psk t (h t (by simp)).1 (h t (by simp)).2
    rw [List.flatMap_cons, List.flatMap_append, q1, g1]
    refine ⟨rfl, fun m hm => ?_⟩
    rcases List.mem_append.1 hm with hm | hm
    · exact q2 m hm
    · exact g2 m hm
theorem roll_line (ini psk : Bool) (p : List Int × List Int) (ls : List Ln) (l : Ln) (h : l.1 = 0 ∨ l.1 = 1) (ht : ∀ t ∈ l.2, 1 ≤ t ∧ t ≤ 7) : (lineM ini psk l).foldl (rollS ini) (p, ls) = (p, ls ++ [l]) := by
  obtain ⟨f, ts⟩ := l
  have h1 : rollS ini (p, ls) ⟨if f == sideOf ini then 5 else 6, 0, 0⟩ = (p, ls ++ [(f, [])]) := by
    have h : f = 0 ∨ f = 1 := h
    rcases h with rfl | rfl <;> cases ini <;> simp [rollS, sideOf]
  obtain ⟨g1, g2⟩ := toks_back ini (f == sideOf ini) psk ts ht
  unfold lineM
  rw [List.foldl_cons, h1, List.foldl_append, roll_toks ini p ls f _ _ g2, g1, List.foldl_cons, rollS_tok ini p ls f _ _ (by simp)]
  simp [backL]
theorem roll_lines (ini psk : Bool) (p : List Int × List Int) : ∀ (ms ls : List Ln), (∀ l ∈ ms, (l.1 = 0 ∨ l.1 = 1) ∧ ∀ t ∈ l.2, 1 ≤ t ∧ t ≤ 7) → (ms.flatMap (lineM ini psk)).foldl (rollS ini) (p, ls) = (p, ls ++ ms)
  | [], ls, _ => by simp
  | l :: r, ls, h => by
    rw [List.flatMap_cons, List.foldl_append, roll_line ini psk p ls l (h l (by simp)).1 (h l (by simp)).2, roll_lines ini psk p r _ (fun x hx => h x (by simp [hx])), List.append_assoc]
    rfl
/-- The moves of a pattern roll up to it. -/
theorem roll_unroll (ini : Bool) {b0 b1 : List Int} {ls : List Ln} (h : shapedL b0 b1 ls = true) : rollL ini (unrollL ini b0 b1 ls) = ((b0, b1), ls) := by
  obtain ⟨h0, h1, hpos, hl⟩ := shapedL_mem h
  have g0 : ∀ t ∈ b0, t = 1 ∨ t = 2 := fun t ht => by obtain ⟨j, hj, rfl⟩ := List.getElem_of_mem ht; exact okB_mem h0 j hj
  have g1 : ∀ t ∈ b1, t = 1 ∨ t = 2 := fun t ht => by obtain ⟨j, hj, rfl⟩ := List.getElem_of_mem ht; exact okB_mem h1 j hj
  have gl : ∀ l ∈ ls, (l.1 = 0 ∨ l.1 = 1) ∧ ∀ t ∈ l.2, 1 ≤ t ∧ t ≤ 7 := fun l hm => by
    obtain ⟨j, hj, rfl⟩ := List.getElem_of_mem hm
    obtain ⟨q1, _, q2⟩ := hl j hj
    exact ⟨q1, fun t ht => by obtain ⟨i, hi, rfl⟩ := List.getElem_of_mem ht; exact q2 i hi⟩
  unfold rollL
  rw [unrollL_split, List.foldl_append, roll_pub ini _ _ (pubL_op ini b0 b1 ls)]
  unfold restL
  rw [List.foldl_cons, rollS_pub ini _ _ (.inr (.inl rfl)), List.foldl_append, roll_bef ini (!ini) (pskL ls) true (by cases ini <;> rfl) b0 _ g0, List.foldl_append, roll_bef ini ini (pskL ls) false (by cases ini <;> rfl) b1 _ g1, List.foldl_append, roll_lines ini (pskL ls) _ ls _ gl]
  simp only [if_true, Bool.false_eq_true, if_false, List.nil_append, List.foldl_cons, List.foldl_nil]
  obtain ⟨l0, r, rfl⟩ : ∃ l0 r, ls = r ++ [l0] := by
    rcases List.eq_nil_or_concat ls with h | ⟨r, l0, h⟩
    · rw [h] at hpos; simp at hpos
    · exact ⟨l0, r, by rw [h]; simp⟩
  obtain ⟨f, ts⟩ := l0
  rw [rollS_tok ini _ r f ts _ (by simp)]
  simp [backL]
theorem unroll_inj (ini : Bool) {b0 b1 d0 d1 : List Int} {ls ms : List Ln} (h : shapedL b0 b1 ls = true) (h' : shapedL d0 d1 ms = true) : (unrollL ini b0 b1 ls == unrollL ini d0 d1 ms) = sameL b0 b1 ls d0 d1 ms := by
  rw [Bool.eq_iff_iff]
  unfold sameL
  simp only [Bool.and_eq_true, beq_iff_eq]
  constructor
  · intro he
    have := congrArg (rollL ini) he
    rw [roll_unroll ini h, roll_unroll ini h'] at this
    simp only [Prod.mk.injEq] at this
    exact ⟨this.1.1, this.1.2, this.2⟩
  · rintro ⟨rfl, rfl, rfl⟩; rfl
end Go.Proofs.YtpemfmjplejdiaaDoor

namespace Go.Proofs.YtpemfmjplejdiaaDoor
open Go.RowKit

/-- The document's token of a move; 0: none. -/
def mvTok (ini : Bool) (m : Mv) : Int :=
  if m.op = 7 ∨ m.op = 8 then 1 else if m.op = 9 ∨ m.op = 10 then 2 else if m.op = 12 then 7
  else if m.op = 11 then (if m.key = 1 ∧ m.wth = 3 then 3 else if (if ini then m.key = 1 else m.wth = 3) then 4 else if (if ini then m.wth = 3 else m.key = 1) then 5 else 6) else 0
/-- One move, as the document has it. -/
def rollT (ini : Bool) (s : (List Int × List Int) × List Ln) (m : Mv) : (List Int × List Int) × List Ln :=
  if m.op = 5 then (s.1, s.2 ++ [(sideOf ini, [])])
  else if m.op = 6 then (s.1, s.2 ++ [(1 - sideOf ini, [])])
  else if s.2.isEmpty then
    (if m.op = 3 ∧ 1 ≤ m.key ∧ m.key ≤ 4 then (if 2 < m.key then (addB s.1 (!ini) (m.key - 2), s.2) else (addB s.1 ini m.key, s.2)) else s)
  else if mvTok ini m ≠ 0 then (s.1, addT s.2 (mvTok ini m)) else s
def rollTL (ini : Bool) (l : List Mv) : (List Int × List Int) × List Ln := l.foldl (rollT ini) (([], []), [])

def allM : List Mv := [⟨1, 2, 0⟩, ⟨1, 1, 0⟩, ⟨2, 0, 0⟩, ⟨3, 1, 0⟩, ⟨3, 2, 0⟩, ⟨3, 3, 0⟩, ⟨3, 4, 0⟩, ⟨4, 1, 0⟩, ⟨4, 3, 0⟩, ⟨5, 0, 0⟩, ⟨6, 0, 0⟩, ⟨7, 1, 0⟩, ⟨8, 3, 0⟩, ⟨9, 2, 0⟩, ⟨10, 4, 0⟩, ⟨11, 1, 3⟩, ⟨11, 1, 4⟩, ⟨11, 2, 3⟩, ⟨11, 2, 4⟩, ⟨12, 0, 0⟩, ⟨13, 0, 0⟩, ⟨14, 0, 0⟩]
theorem mem_ite1 {p : Prop} [Decidable p] {x m : Mv} (h : m ∈ (if p then [x] else [])) : m = x := by
  by_cases hp : p
  · rw [if_pos hp] at h; exact List.mem_singleton.1 h
  · rw [if_neg hp] at h; cases h
theorem allM_bef (o psk : Bool) (t : Int) (h : t = 1 ∨ t = 2) : ∀ m ∈ befM o psk t, m ∈ allM := by
  rcases h with rfl | rfl <;> cases o <;> cases psk <;> decide
theorem allM_tok (ini s psk : Bool) (t : Int) (h1 : 1 ≤ t) (h7 : t ≤ 7) : ∀ m ∈ tokM ini s psk t, m ∈ allM := by
  rcases (show t = 1 ∨ t = 2 ∨ t = 3 ∨ t = 4 ∨ t = 5 ∨ t = 6 ∨ t = 7 by omega) with rfl | rfl | rfl | rfl | rfl | rfl | rfl <;> cases ini <;> cases s <;> cases psk <;> decide
theorem allM_unroll (ini : Bool) {b0 b1 : List Int} {ls : List Ln} (h : shapedL b0 b1 ls = true) : ∀ m ∈ unrollL ini b0 b1 ls, m ∈ allM := by
  obtain ⟨h0, h1, hpos, hl⟩ := shapedL_mem h
  have g0 : ∀ t ∈ b0, t = 1 ∨ t = 2 := fun t ht => by obtain ⟨j, hj, rfl⟩ := List.getElem_of_mem ht; exact okB_mem h0 j hj
  have g1 : ∀ t ∈ b1, t = 1 ∨ t = 2 := fun t ht => by obtain ⟨j, hj, rfl⟩ := List.getElem_of_mem ht; exact okB_mem h1 j hj
  have gl : ∀ l ∈ ls, ∀ t ∈ l.2, 1 ≤ t ∧ t ≤ 7 := fun l hm => by
    obtain ⟨j, hj, rfl⟩ := List.getElem_of_mem hm
    obtain ⟨_, _, q2⟩ := hl j hj
    exact fun t ht => by obtain ⟨i, hi, rfl⟩ := List.getElem_of_mem ht; exact q2 i hi
  intro m hm
  unfold unrollL at hm
  simp only [List.mem_append, List.mem_flatMap, List.mem_singleton] at hm
  rcases hm with (((hm | ⟨t, ht, hm⟩) | ⟨t, ht, hm⟩) | ⟨l, hl, hm⟩) | rfl
  · unfold headM at hm
    simp only [List.mem_append, List.mem_singleton] at hm
    rcases hm with hm | hm | rfl
    · rw [mem_ite1 hm]; decide
    · rw [mem_ite1 hm]; decide
    · decide
  · exact allM_bef _ _ t (g0 t ht) m hm
  · exact allM_bef _ _ t (g1 t ht) m hm
  · unfold lineM at hm
    simp only [List.mem_cons, List.mem_append, List.mem_flatMap, List.not_mem_nil, or_false] at hm
    rcases hm with rfl | ⟨t, ht, hm⟩ | rfl
    · split <;> decide
    · exact allM_tok _ _ _ t (gl l hl t ht).1 (gl l hl t ht).2 m hm
    · decide
  · decide
theorem rollT_eq (ini : Bool) (s : (List Int × List Int) × List Ln) : ∀ m ∈ allM, rollT ini s m = rollS ini s m := by
  intro m hm
  simp only [allM, List.mem_cons, List.not_mem_nil, or_false] at hm
  rcases hm with rfl | rfl | rfl | rfl | rfl | rfl | rfl | rfl | rfl | rfl | rfl | rfl | rfl | rfl | rfl | rfl | rfl | rfl | rfl | rfl | rfl | rfl <;> cases ini <;> simp [rollT, rollS, mvTok, backL]
theorem foldT_eq (ini : Bool) : ∀ (l : List Mv) (s : (List Int × List Int) × List Ln), (∀ m ∈ l, m ∈ allM) → l.foldl (rollT ini) s = l.foldl (rollS ini) s
  | [], _, _ => rfl
  | m :: r, s, h => by
    rw [List.foldl_cons, List.foldl_cons, rollT_eq ini s m (h m (by simp)), foldT_eq ini r _ (fun x hx => h x (by simp [hx]))]
theorem rollT_unroll (ini : Bool) {b0 b1 : List Int} {ls : List Ln} (h : shapedL b0 b1 ls = true) : rollTL ini (unrollL ini b0 b1 ls) = ((b0, b1), ls) := by
  unfold rollTL
  rw [foldT_eq ini _ _ (allM_unroll ini h)]
  exact roll_unroll ini h

abbrev Pt := (List Int × List Int) × List Ln
/-- The pattern that rolls up, if its moves are these again. -/
def keepL (ini : Bool) (l : List Mv) (c : Pt) : Option Pt := if checkL c.1.1 c.1.2 c.2 = 0 ∧ unrollL ini c.1.1 c.1.2 c.2 = l then some c else none
def rolledL (ini : Bool) (l : List Mv) : Option Pt := keepL ini l (rollL ini l)
theorem rolled_eq (ini : Bool) (l : List Mv) : keepL ini l (rollTL ini l) = rolledL ini l := by
  unfold rolledL keepL
  by_cases h : checkL (rollL ini l).1.1 (rollL ini l).1.2 (rollL ini l).2 = 0 ∧ unrollL ini (rollL ini l).1.1 (rollL ini l).1.2 (rollL ini l).2 = l
  · have e : rollTL ini l = rollL ini l := by
      have := rollT_unroll ini (checkL_ok h.1)
      rwa [h.2] at this
    rw [e]
  · rw [if_neg h]
    refine if_neg (fun h' => h ?_)
    have e : rollL ini l = rollTL ini l := by
      have := roll_unroll ini (checkL_ok h'.1)
      rwa [h'.2] at this
    rw [e]; exact h'
/-- What rolls up is a pattern that unrolls to these moves. -/
theorem rolledL_some {ini : Bool} {l : List Mv} {c : Pt} (h : rolledL ini l = some c) : checkL c.1.1 c.1.2 c.2 = 0 ∧ unrollL ini c.1.1 c.1.2 c.2 = l := by
  unfold rolledL keepL at h
  split at h
  · rename_i hc
    simp only [Option.some.injEq] at h
    subst h; exact hc
  · cases h
theorem rolledL_unroll (ini : Bool) {b0 b1 : List Int} {ls : List Ln} (h : checkL b0 b1 ls = 0) : rolledL ini (unrollL ini b0 b1 ls) = some ((b0, b1), ls) := by
  unfold rolledL keepL
  rw [roll_unroll ini (checkL_ok h), if_pos ⟨h, rfl⟩]
end Go.Proofs.YtpemfmjplejdiaaDoor

namespace Go.Proofs.YtpemfmjplejdiaaDoor
open Go.RowKit

set_option maxHeartbeats 4000000 in
theorem mvtok_any (w : World) (ini : Bool) (m : Mv) (hw : -9223372036854775808 ≤ m.wth ∧ m.wth ≤ 9223372036854775807) :
    Calls Tryd.prog 35 #[.agg #[iv m.op, iv m.key, iv m.wth], iv (sideOf ini)] w fun e w' => e = .returned (iv (mvTok ini m)) ∧ Kp w w' := by
  obtain ⟨o, k, x⟩ := m
  simp only at hw ⊢
  obtain ⟨hw1, hw2⟩ := hw
  have hk := Kp.new w (.cells #[iv o, iv k, iv x] 42)
  by_cases h7 : o = 7
  · subst h7
    have Ht := Lib.hid (show mvTok ini ⟨7, k, x⟩ = 1 from rfl)
    go_enter Tryd.func35, Tryd.ntmps35
    go_wp2_with fail
    go_ret
    exact ⟨by first | (rw [Ht.out]; done) | (rw [Ht.out]; rfl), hk⟩
  · have g7 : (o == 7) = false := by simpa using h7
    by_cases h8 : o = 8
    · subst h8
      have Ht := Lib.hid (show mvTok ini ⟨8, k, x⟩ = 1 from rfl)
      go_enter Tryd.func35, Tryd.ntmps35
      go_wp2_with fail
      go_ret
      exact ⟨by first | (rw [Ht.out]; done) | (rw [Ht.out]; rfl), hk⟩
    · have g8 : (o == 8) = false := by simpa using h8
      by_cases h9 : o = 9
      · subst h9
        have Ht := Lib.hid (show mvTok ini ⟨9, k, x⟩ = 2 from rfl)
        go_enter Tryd.func35, Tryd.ntmps35
        go_wp2_with fail
        go_ret
        exact ⟨by first | (rw [Ht.out]; done) | (rw [Ht.out]; rfl), hk⟩
      · have g9 : (o == 9) = false := by simpa using h9
        by_cases h10 : o = 10
        · subst h10
          have Ht := Lib.hid (show mvTok ini ⟨10, k, x⟩ = 2 from rfl)
          go_enter Tryd.func35, Tryd.ntmps35
          go_wp2_with fail
          go_ret
          exact ⟨by first | (rw [Ht.out]; done) | (rw [Ht.out]; rfl), hk⟩
        · have g10 : (o == 10) = false := by simpa using h10
          by_cases h12 : o = 12
          · subst h12
            have Ht := Lib.hid (show mvTok ini ⟨12, k, x⟩ = 7 from rfl)
            go_enter Tryd.func35, Tryd.ntmps35
            go_wp2_with fail
            go_ret
            exact ⟨by first | (rw [Ht.out]; done) | (rw [Ht.out]; rfl), hk⟩
          · have g12 : (o == 12) = false := by simpa using h12
            by_cases h11 : o = 11
            · subst h11
              clear h7 h8 h9 h10 h12
              by_cases hk1 : k = 1
              · subst hk1
                by_cases hx3 : x = 3
                · subst hx3
                  cases ini
                  · have Ht := Lib.hid (show mvTok false ⟨11, 1, 3⟩ = 3 by simp [mvTok])
                    rw [show iv (sideOf false) = iv 1 from rfl]
                    go_enter Tryd.func35, Tryd.ntmps35
                    go_wp2_with fail
                    go_ret
                    exact ⟨by first | (rw [Ht.out]; done) | (rw [Ht.out]; rfl), hk⟩
                  · have Ht := Lib.hid (show mvTok true ⟨11, 1, 3⟩ = 3 by simp [mvTok])
                    rw [show iv (sideOf true) = iv 0 from rfl]
                    go_enter Tryd.func35, Tryd.ntmps35
                    go_wp2_with fail
                    go_ret
                    exact ⟨by first | (rw [Ht.out]; done) | (rw [Ht.out]; rfl), hk⟩
                · have gw : (wrap64 (x - 2) == 1) = false := by unfold wrap64; simp; omega
                  cases ini
                  · have Ht := Lib.hid (show mvTok false ⟨11, 1, x⟩ = 5 by simp [mvTok, hx3])
                    clear hx3
                    rw [show iv (sideOf false) = iv 1 from rfl]
                    go_enter Tryd.func35, Tryd.ntmps35
                    go_wp2_with fail
                    go_ret
                    exact ⟨by first | (rw [Ht.out]; done) | (rw [Ht.out]; rfl), hk⟩
                  · have Ht := Lib.hid (show mvTok true ⟨11, 1, x⟩ = 4 by simp [mvTok, hx3])
                    clear hx3
                    rw [show iv (sideOf true) = iv 0 from rfl]
                    go_enter Tryd.func35, Tryd.ntmps35
                    go_wp2_with fail
                    go_ret
                    exact ⟨by first | (rw [Ht.out]; done) | (rw [Ht.out]; rfl), hk⟩
              · have gk : (k == 1) = false := by simpa using hk1
                by_cases hx3 : x = 3
                · subst hx3
                  cases ini
                  · have Ht := Lib.hid (show mvTok false ⟨11, k, 3⟩ = 4 by simp [mvTok, hk1])
                    clear hk1
                    rw [show iv (sideOf false) = iv 1 from rfl]
                    go_enter Tryd.func35, Tryd.ntmps35
                    go_wp2_with fail
                    go_ret
                    exact ⟨by first | (rw [Ht.out]; done) | (rw [Ht.out]; rfl), hk⟩
                  · have Ht := Lib.hid (show mvTok true ⟨11, k, 3⟩ = 5 by simp [mvTok, hk1])
                    clear hk1
                    rw [show iv (sideOf true) = iv 0 from rfl]
                    go_enter Tryd.func35, Tryd.ntmps35
                    go_wp2_with fail
                    go_ret
                    exact ⟨by first | (rw [Ht.out]; done) | (rw [Ht.out]; rfl), hk⟩
                · have gw : (wrap64 (x - 2) == 1) = false := by unfold wrap64; simp; omega
                  cases ini
                  · have Ht := Lib.hid (show mvTok false ⟨11, k, x⟩ = 6 by simp [mvTok, hk1, hx3])
                    clear hk1 hx3
                    rw [show iv (sideOf false) = iv 1 from rfl]
                    go_enter Tryd.func35, Tryd.ntmps35
                    go_wp2_with fail
                    go_ret
                    exact ⟨by first | (rw [Ht.out]; done) | (rw [Ht.out]; rfl), hk⟩
                  · have Ht := Lib.hid (show mvTok true ⟨11, k, x⟩ = 6 by simp [mvTok, hk1, hx3])
                    clear hk1 hx3
                    rw [show iv (sideOf true) = iv 0 from rfl]
                    go_enter Tryd.func35, Tryd.ntmps35
                    go_wp2_with fail
                    go_ret
                    exact ⟨by first | (rw [Ht.out]; done) | (rw [Ht.out]; rfl), hk⟩
            · have g11 : (o == 11) = false := by simpa using h11
              have Ht := Lib.hid (show mvTok ini ⟨o, k, x⟩ = 0 by simp [mvTok, h7, h8, h9, h10, h12, h11])
              clear h7 h8 h9 h10 h12 h11
              go_enter Tryd.func35, Tryd.ntmps35
              go_wp2_with fail
              go_ret
              exact ⟨by first | (rw [Ht.out]; done) | (rw [Ht.out]; rfl), hk⟩
end Go.Proofs.YtpemfmjplejdiaaDoor

namespace Go.Proofs.YtpemfmjplejdiaaDoor
open Go.RowKit
section
variable {P : Program} {ops : Array Oper} {md : Region.Mode} {w : World}
/-! ### Two operations that may come up -/
theorem op_of_list {Q : Exit → Act → World → Prop} {a : Act} {i : Nat} {K : Act → World → Prop} (hi : i < ops.size)
    (h : wpList P ops (fun e a2 w2 => match e with | .normal => K a2 w2 | _ => False) (opsAt ops [i]) a w) : wpOp P ops (Qn Q) i K a w := by
  have ho : ops[i]? = some ops[i] := Array.getElem?_eq_getElem hi
  generalize ops[i] = o at ho
  simp only [opsAt, ho] at h
  unfold wpOp
  simp only [ho]
  unfold wpList at h
  split
  · rename_i hw
    rw [if_pos hw] at h
    rcases h with h1 | ⟨_, h2⟩
    · left
      unfold Oper.wp at h1 ⊢
      generalize (execOp a.eval o).run P w = r at h1 ⊢
      cases r with
      | ok nx w' =>
        cases nx <;> simp only [Oper.upon] at h1 ⊢ <;> first
          | exact h1
          | exact Calls.mono h1 (fun e w'' he => by cases e <;> first | exact he | exact he.elim | (obtain ⟨_, _, hf⟩ := he; exact hf.elim))
          | exact Rows.mono h1 (fun _ _ he => he)
      | halt x w' => cases x <;> simp only [Oper.upon] at h1
    · exact absurd h2 (by simp [LetsOut])
  · rename_i hw
    rw [if_neg hw] at h
    exact h
theorem any_two {Q : Exit → Act → World → Prop} {a : Act} {listed : Array Bool} {n : Nat} (i j : Nat) (hr : (decide (Region.ready md ops listed = [i, j]) && decide (i < ops.size) && decide (j < ops.size) && decide (0 < n)) = true)
    (h1 : wpList P ops (fun e a2 w2 => match e with | .normal => wpAny P md ops (Qn Q) (n - 1) (listed.setIfInBounds i true) a2 w2 | _ => False) (opsAt ops [i]) a w)
    (h2 : wpList P ops (fun e a2 w2 => match e with | .normal => wpAny P md ops (Qn Q) (n - 1) (listed.setIfInBounds j true) a2 w2 | _ => False) (opsAt ops [j]) a w) : wpAny P md ops (Qn Q) n listed a w := by
  simp only [Bool.and_eq_true, decide_eq_true_eq] at hr
  obtain ⟨⟨⟨hr, hi⟩, hj⟩, hn⟩ := hr
  obtain ⟨fuel, rfl⟩ : ∃ fuel, n = fuel + 1 := ⟨n - 1, by omega⟩
  rw [Nat.add_sub_cancel] at h1 h2
  refine ⟨fun h0 => (by rw [h0] at hr; cases hr), fun m hm => ?_⟩
  rw [hr] at hm
  rcases List.mem_cons.1 hm with rfl | hm
  · exact op_of_list hi h1
  · obtain rfl : m = j := by simpa using hm
    exact op_of_list hj h2

end
end Go.Proofs.YtpemfmjplejdiaaDoor

namespace Go.Proofs.YtpemfmjplejdiaaDoor
open Go.RowKit

theorem row_ok {k : Nat} {r : ByteArray} (h : rowsL[k]? = some r) : r.size ≤ 1000 ∧ (splitL r 124).length = 4 ∧ (partL r 1).size ≤ 1000 ∧ (partL r 2).size ≤ 1000 ∧ (partL r 3).size ≤ 1000 ∧ (∀ x ∈ splitL (partL r 3) 59, x.size ≤ 1000) ∧ (splitL (partL r 3) 59).length ≤ 1000 := by
  have hm := List.all_eq_true.1 rows_ok r (List.mem_of_getElem? h)
  simp only [rowOk, Bool.and_eq_true, decide_eq_true_eq, beq_iff_eq, List.all_eq_true] at hm
  obtain ⟨⟨⟨⟨⟨⟨h1, h2⟩, h3⟩, h4⟩, h5⟩, h6⟩, h7⟩ := hm
  exact ⟨h2, h1, h3, h4, h5, h6, h7⟩

/-- The variable that a row's pattern is made in. -/
def At4 (w : World) (b : Nat) (nm : ByteArray) (t0 t1 tl : Tv) : Prop :=
  (w.cell? ⟨b, 0, none⟩ = some (.string nm) ∧ w.cell? ⟨b, 1, none⟩ = some (tvv t0) ∧ w.cell? ⟨b, 2, none⟩ = some (tvv t1) ∧ w.cell? ⟨b, 3, none⟩ = some (tvv tl)) ∧ w.frozen? ⟨b, 1, none⟩ = false ∧ w.frozen? ⟨b, 2, none⟩ = false ∧ w.frozen? ⟨b, 3, none⟩ = false
theorem At4.new (w : World) (nm : ByteArray) : At4 (w.alloc (.cells #[.string nm, .slice none 0 0, .slice none 0 0, .slice none 0 0] 26)) w.heap.size nm ⟨none, 0, 0⟩ ⟨none, 0, 0⟩ ⟨none, 0, 0⟩ := by
  refine ⟨⟨?_, ?_, ?_, ?_⟩, ?_, ?_, ?_⟩
  · rw [World.cell?_alloc_at _ _ _ _ rfl]; rfl
  · rw [World.cell?_alloc_at _ _ _ _ rfl]; rfl
  · rw [World.cell?_alloc_at _ _ _ _ rfl]; rfl
  · rw [World.cell?_alloc_at _ _ _ _ rfl]; rfl
  · exact World.frozen?_alloc_at _ _ _ _ rfl
  · exact World.frozen?_alloc_at _ _ _ _ rfl
  · exact World.frozen?_alloc_at _ _ _ _ rfl
theorem At4.fr {X : List Nat} {w w' : World} {b : Nat} {nm : ByteArray} {t0 t1 tl : Tv} (h : At4 w b nm t0 t1 tl) (k : Fr X w w') (hb : b ∉ X) : At4 w' b nm t0 t1 tl := by
  obtain ⟨⟨h0, h1, h2, h3⟩, f1, f2, f3⟩ := h
  exact ⟨⟨k.cell h0 hb, k.cell h1 hb, k.cell h2 hb, k.cell h3 hb⟩, k.free h1 f1 hb, k.free h2 f2 hb, k.free h3 f3 hb⟩
theorem At4.kp {w w' : World} {b : Nat} {nm : ByteArray} {t0 t1 tl : Tv} (h : At4 w b nm t0 t1 tl) (k : Kp w w') : At4 w' b nm t0 t1 tl := h.fr (Fr.of_kp k) (by simp)
theorem At4.set1 {w : World} {b : Nat} {nm : ByteArray} {t0 t1 tl : Tv} (h : At4 w b nm t0 t1 tl) (t : Tv) : At4 (w.setCell ⟨b, 1, none⟩ (tvv t)) b nm t t1 tl := by
  obtain ⟨⟨h0, h1, h2, h3⟩, f1, f2, f3⟩ := h
  refine ⟨⟨?_, World.cell?_setCell_same _ _ _ h1, ?_, ?_⟩, ?_, ?_, ?_⟩
  · rw [World.cell?_setCell_other _ _ _ _ (by simp)]; exact h0
  · rw [World.cell?_setCell_other _ _ _ _ (by simp)]; exact h2
  · rw [World.cell?_setCell_other _ _ _ _ (by simp)]; exact h3
  · rw [World.frozen?_setCell]; exact f1
  · rw [World.frozen?_setCell]; exact f2
  · rw [World.frozen?_setCell]; exact f3
theorem At4.set2 {w : World} {b : Nat} {nm : ByteArray} {t0 t1 tl : Tv} (h : At4 w b nm t0 t1 tl) (t : Tv) : At4 (w.setCell ⟨b, 2, none⟩ (tvv t)) b nm t0 t tl := by
  obtain ⟨⟨h0, h1, h2, h3⟩, f1, f2, f3⟩ := h
  refine ⟨⟨?_, ?_, World.cell?_setCell_same _ _ _ h2, ?_⟩, ?_, ?_, ?_⟩
  · rw [World.cell?_setCell_other _ _ _ _ (by simp)]; exact h0
  · rw [World.cell?_setCell_other _ _ _ _ (by simp)]; exact h1
  · rw [World.cell?_setCell_other _ _ _ _ (by simp)]; exact h3
  · rw [World.frozen?_setCell]; exact f1
  · rw [World.frozen?_setCell]; exact f2
  · rw [World.frozen?_setCell]; exact f3
theorem At4.set3 {w : World} {b : Nat} {nm : ByteArray} {t0 t1 tl : Tv} (h : At4 w b nm t0 t1 tl) (t : Tv) : At4 (w.setCell ⟨b, 3, none⟩ (tvv t)) b nm t0 t1 t := by
  obtain ⟨⟨h0, h1, h2, h3⟩, f1, f2, f3⟩ := h
  refine ⟨⟨?_, ?_, ?_, World.cell?_setCell_same _ _ _ h3⟩, ?_, ?_, ?_⟩
  · rw [World.cell?_setCell_other _ _ _ _ (by simp)]; exact h0
  · rw [World.cell?_setCell_other _ _ _ _ (by simp)]; exact h1
  · rw [World.cell?_setCell_other _ _ _ _ (by simp)]; exact h2
  · rw [World.frozen?_setCell]; exact f1
  · rw [World.frozen?_setCell]; exact f2
  · rw [World.frozen?_setCell]; exact f3
theorem row_step {r : ByteArray} {pcs : List ByteArray} (h : rowLs r = lineL pcs 0) (j : Nat) (hj : j < pcs.length) : (rowLs r).take (j + 1) = (rowLs r).take j ++ [(((j % 2 : Nat) : Int), tokL pcs[j])] := by
  have hl : j < (rowLs r).length := by rw [h]; unfold lineL; rw [List.length_mapIdx]; exact hj
  rw [take_step _ _ hl]
  congr 2
  have : ∀ (l : List Ln) (e : rowLs r = l) (h' : j < l.length), (rowLs r)[j] = l[j] := fun l e h' => by subst e; rfl
  rw [this _ h (by rw [← h]; exact hl)]
  unfold lineL
  rw [List.getElem_mapIdx, Nat.zero_add]
theorem Kp.frz {w w' : World} (h : Kp w w') {p : Addr} {u : Value} (hc : w.cell? p = some u) {f : Bool} (hf : w.frozen? p = f) : w'.frozen? p = f := (Fr.of_kp h).free hc hf (by simp)
/-- What one more message leaves. -/
theorem all_fin {w8 wr wq wc wz w9 : World} {bp : Nat} {nm : ByteArray} {T0 T1 : Tv} {al ao2 tt : Option Addr} {FF : List Nat} {nl cl cap2 mt dt : Nat} {ls : List Ln} {l : Ln} (hl1 : ls.length = nl) (ts : List Tv) (hl2 : ts.length = ls.length) (hl3 : Own wr w8.heap.size 53 2 al nl cl (lnc ls ts))
    (hl4 : ∀ (j : Nat) (h : j < ls.length) (h' : j < ts.length), ts[j].n ≤ 7007 ∧ Sta wr (blkL al ++ (bp :: FF)) (fun w => Is w ts[j].ao ts[j].n ls[j].2)) (hk : Kp wr wz) (hP : At4 wr bp nm T0 T1 ⟨al, nl, cl⟩) (hF : Fr [bp] w8 wr) (hbp : bp < w8.heap.size)
    (hbt : ∀ i ∈ blkL tt, wq.heap.size ≤ i ∧ i < wc.heap.size) (hq : wr.heap.size ≤ wq.heap.size) (_hq2 : wq.heap.size ≤ wz.heap.size) (hq3 : wc.heap.size ≤ wz.heap.size) (hT : Is wz tt mt l.2) (hmt : mt ≤ 7007) (hFb : ∀ j ∈ FF, j < bp)
    (ha : Appd wz w9 w8.heap.size 53 2 al cl 1 (nl + 1) (lnc (ls ++ [l]) (ts ++ [⟨tt, mt, dt⟩])) ao2 cap2) :
    At4 (w9.setCell ⟨bp, 3, none⟩ (.slice ao2 (nl + 1) cap2)) bp nm T0 T1 ⟨ao2, nl + 1, cap2⟩ ∧ LnO (w9.setCell ⟨bp, 3, none⟩ (.slice ao2 (nl + 1) cap2)) w8.heap.size (bp :: FF) ao2 (nl + 1) cap2 (ls ++ [l]) ∧ Fr [bp] w8 (w9.setCell ⟨bp, 3, none⟩ (.slice ao2 (nl + 1) cap2)) := by
  have hal : ∀ i ∈ blkL al, w8.heap.size ≤ i ∧ i < wr.heap.size := fun i hi => hl3.lt i (mem_blkL.1 hi)
  have hbal : bp ∉ blkL al := fun h => by have := (hal bp h).1; omega
  have hs8 := hF.size
  have hL9 : LnO w9 w8.heap.size (bp :: FF) ao2 (nl + 1) cap2 (ls ++ [l]) := LnO.app (a := wr) (w := wz) ⟨hl1, ts, hl2, hl3, hl4⟩ ts hl2 hl4 hk l ⟨tt, mt, dt⟩ hT hmt (fun i hi => by
    obtain ⟨q1, q2⟩ := hbt i hi
    refine ⟨by omega, fun hm => ?_⟩
    rcases List.mem_append.1 hm with q | q
    · have := (hal i q).2; omega
    · rcases List.mem_cons.1 q with q | q
      · omega
      · have := hFb i q; omega) rfl ha
  have hset := Fr.set w9 ⟨bp, 3, none⟩ (.slice ao2 (nl + 1) cap2)
  refine ⟨((hP.kp hk).fr ha.fr hbal).set3 ⟨ao2, nl + 1, cap2⟩, hL9.keep hset (fun i hi => .inl (by simp at hi; simp [hi])) (fun i hi hm => ?_), ?_⟩
  · have := (ha.own.lt i (mem_blkL.1 hm)).1
    simp at hi; omega
  · exact ((hF.trans ((Fr.of_kp hk).mono (by simp))).step ha.fr (fun i hi => .inr (hal i hi).1)).trans hset
theorem PvO.mono {w : World} {B B' : Nat} {X : List Nat} {ao : Option Addr} {n cap k : Nat} (h : PvO w B X ao n cap k) (hb : B' ≤ B) : PvO w B' X ao n cap k := by
  obtain ⟨h1, ps, h2, h3, h4⟩ := h
  exact ⟨h1, ps, h2, h3.mono (fun i hi => Nat.le_trans hb (h3.lt i hi).1), h4⟩
def AllPost (w : World) (X : List Nat) (e : Ending) (w' : World) : Prop := Kp w w' ∧ ∃ ao n cap, e = .returned (.slice ao n cap) ∧ PvO w' w.heap.size X ao n cap 38

set_option maxRecDepth 100000 in
set_option maxHeartbeats 4000000 in
theorem all_any (w : World) (X : List Nat) (hX : ∀ j ∈ X, j < w.heap.size) : Calls Tryd.prog 39 #[] w (AllPost w X) := by
  have Hr := Lib.hid (rows_any w)
  go_enter Tryd.func39, Tryd.ntmps39
  go_wp2_with fail
  (with_reducible refine Hr.out.mono ?_)
  rintro e w1 ⟨hk1, rb, rfl, hS⟩
  have hw1 := hk1.size
  go_wp2_with fail
  go_loopw [1, 3] (fun l i wr => ∃ k n cap ao, k ≤ 38 ∧ i = .int .i64 (k : Nat) ∧ l = .slice ao n cap ∧ PvO wr w1.heap.size X ao n cap k ∧ Kp w1 wr) (fun _ i _ => 38 - (intOf i).toNat)
  case atStart => exact ⟨0, 0, 0, none, by omega, rfl, rfl, PvO.nil _ _ _, Kp.refl _⟩
  case round =>
    obtain ⟨k, n, cap, ao, hk, rfl, rfl, hO, hkk⟩ := hrel
    by_cases hlt : k < 38
    · rename World => wo
      obtain ⟨hnk, ps, hpl, hown, hps⟩ := hO
      replace hnk := hnk.symm
      subst hnk
      obtain ⟨b, off, hbo, hcc⟩ := hS.at k hlt
      have hck := hkk.cell (hcc k hlt)
      have hrk : rowsL[k]? = some (rowsL[k]'(by rw [rowsL_length]; exact hlt)) := List.getElem?_eq_getElem _
      cases hbo
      rw [Nat.zero_add] at hck
      generalize rowsL[k]'(by rw [rowsL_length]; exact hlt) = r at hck hrk
      obtain ⟨r1, r2, r3, r4, r5, r6, r7⟩ := row_ok hrk
      have Hsp := Lib.hid (show Calls Tryd.prog 51 #[.string r, .int .u8 124] wo (SplitPost wo (splitL r 124)) from split_any wo r 124 r1)
      clear hcc
      have Hps := Lib.hid hps; clear hps
      have Hrk := Lib.hid hrk; clear hrk
      have Hr6 := Lib.hid r6; clear r6
      go_wp2_with fail
      (with_reducible refine Hsp.out.mono ?_)
      rintro e w2 ⟨hk2, xo, xm, xc, rfl, hX, _⟩
      have hxm : xm = 4 := by rw [← hX.1, r2]
      subst hxm
      obtain ⟨xb, xoff, rfl, hxc⟩ := hX.at 0 (by omega)
      have hpart : ∀ j (h : j < 4), (splitL r 124)[j]'(by omega) = partL r j := fun j h => by unfold partL; rw [List.getD, List.getElem?_eq_getElem (by omega)]; rfl
      have x0 := hxc 0 (by omega)
      have x1 := hxc 1 (by omega)
      have x2 := hxc 2 (by omega)
      have x3 := hxc 3 (by omega)
      rw [hpart 0 (by omega), Nat.add_zero] at x0
      rw [hpart 1 (by omega)] at x1
      rw [hpart 2 (by omega)] at x2
      rw [hpart 3 (by omega)] at x3
      have hxb : xb < w2.heap.size := World.block_lt_of_cell? w2 _ x0
      clear hxc hX hpart hck r1 r2
      go_upto_region 8 with fail
      generalize hw3 : w2.alloc (.cells #[.string (partL r 0), .slice none 0 0, .slice none 0 0, .slice none 0 0] 26) = w3
      have hk3 : Kp w2 w3 := hw3 ▸ Kp.new _ _
      obtain ⟨bp, hbp⟩ : ∃ bp, bp = w2.heap.size := ⟨_, rfl⟩
      have hP : At4 w3 bp (partL r 0) ⟨none, 0, 0⟩ ⟨none, 0, 0⟩ ⟨none, 0, 0⟩ := by rw [hbp]; exact hw3 ▸ At4.new w2 _
      rw [← hbp]
      have hFb : ∀ j ∈ blkL ao ++ X, j < bp := fun j hj => by
        have := hk2.size
        rcases List.mem_append.1 hj with hj | hj
        · have := (hown.lt j (mem_blkL.1 hj)).2; omega
        · have := hX j hj; have := hkk.size; omega
      have hbo : wo.heap.size ≤ bp := by have := hk2.size; omega
      have hbp3 : bp < w3.heap.size := World.block_lt_of_cell? w3 _ hP.1.1
      have hxn : xb ≠ bp := by omega
      clear hbp hw3
      replace x1 := hk3.cell x1
      replace x2 := hk3.cell x2
      replace x3 := hk3.cell x3
      have Ht1 := Lib.hid (tokens_any w3 (partL r 1) r3)
      clear x0
      go_wp2_with fail
      (with_reducible refine Ht1.out.mono ?_)
      rintro e w4 ⟨hk4, t0, m0, d0, rfl, hT0, hm0, hd0, hb0⟩
      replace hP := hP.kp hk4
      obtain ⟨⟨e0, e1, e2, e3⟩, f1, f2, f3⟩ := hP
      go_upto_region 9 with fail
      generalize hw5 : w4.setCell ⟨bp, 1, none⟩ (.slice t0 m0 d0) = w5
      have hF5 : Fr [bp] w4 w5 := hw5 ▸ Fr.set w4 ⟨bp, 1, none⟩ _
      have hP : At4 w5 bp (partL r 0) ⟨t0, m0, d0⟩ ⟨none, 0, 0⟩ ⟨none, 0, 0⟩ := hw5 ▸ At4.set1 ⟨⟨e0, e1, e2, e3⟩, f1, f2, f3⟩ ⟨t0, m0, d0⟩
      clear hw5 e0 e1 e2 e3 f1 f2 f3
      have S0 : Sta w5 (bp :: (blkL ao ++ X)) (fun w => Is w t0 m0 (tokL (partL r 1))) := (Sta.new (X := bp :: (blkL ao ++ X)) hT0 (fun j hj hj2 => by
        have := hb0 j hj
        rcases List.mem_cons.1 hj2 with q | q
        · omega
        · have := hFb j q; omega)).step hF5 (fun j hj => .inl (by simp at hj; simp [hj])) (fun j hj => .inl hj)
      replace x2 := hF5.cell (hk4.cell x2) (by simpa using hxn)
      replace x3 := hF5.cell (hk4.cell x3) (by simpa using hxn)
      have hs35 : w3.heap.size ≤ w5.heap.size := Nat.le_trans hk4.size hF5.size
      have hF35 : Fr [bp] w3 w5 := ((Fr.of_kp hk4).mono (by simp)).trans hF5
      have Ht2 := Lib.hid (tokens_any w5 (partL r 2) r4)
      clear Ht1 hT0 hb0 x1
      go_wp2_with fail
      (with_reducible refine Ht2.out.mono ?_)
      rintro e w6 ⟨hk6, t1, m1, d1, rfl, hT1, hm1, hd1, hb1⟩
      replace hP := hP.kp hk6
      obtain ⟨⟨e0, e1, e2, e3⟩, f1, f2, f3⟩ := hP
      go_upto_region 10 with fail
      generalize hw7 : w6.setCell ⟨bp, 2, none⟩ (.slice t1 m1 d1) = w7
      have hF7 : Fr [bp] w6 w7 := hw7 ▸ Fr.set w6 ⟨bp, 2, none⟩ _
      have hP : At4 w7 bp (partL r 0) ⟨t0, m0, d0⟩ ⟨t1, m1, d1⟩ ⟨none, 0, 0⟩ := hw7 ▸ At4.set2 ⟨⟨e0, e1, e2, e3⟩, f1, f2, f3⟩ ⟨t1, m1, d1⟩
      clear hw7 e0 e1 e2 e3 f1 f2 f3
      have S1 : Sta w7 (bp :: (blkL ao ++ X)) (fun w => Is w t1 m1 (tokL (partL r 2))) := (Sta.new (X := bp :: (blkL ao ++ X)) hT1 (fun j hj hj2 => by
        have := hb1 j hj
        rcases List.mem_cons.1 hj2 with q | q
        · omega
        · have := hFb j q; omega)).step hF7 (fun j hj => .inl (by simp at hj; simp [hj])) (fun j hj => .inl hj)
      replace S0 := (S0.kp hk6).step hF7 (Z := bp :: (blkL ao ++ X)) (fun j hj => .inl (by simp at hj; simp [hj])) (fun j hj => .inl hj)
      replace x3 := hF7.cell (hk6.cell x3) (by simpa using hxn)
      have hF37 : Fr [bp] w3 w7 := hF35.trans (((Fr.of_kp hk6).mono (by simp)).trans hF7)
      have hs37 : w3.heap.size ≤ w7.heap.size := Nat.le_trans hs35 (Nat.le_trans hk6.size hF7.size)
      have Ht3 := Lib.hid (show Calls Tryd.prog 51 #[.string (partL r 3), .int .u8 59] w7 (SplitPost w7 (splitL (partL r 3) 59)) from split_any w7 (partL r 3) 59 r5)
      clear Ht2 hT1 hb1 x2
      go_wp2_with fail
      (with_reducible refine Ht3.out.mono ?_)
      rintro e w8 ⟨hk8, yo, M, yc, rfl, hY, hyb⟩
      replace hP := hP.kp hk8
      replace S0 := S0.kp hk8
      replace S1 := S1.kp hk8
      have hM : M ≤ 1000 := by rw [← hY.1]; exact r7
      have hF38 : Fr [bp] w3 w8 := hF37.trans ((Fr.of_kp hk8).mono (by simp))
      have hs38 : w3.heap.size ≤ w8.heap.size := Nat.le_trans hs37 hk8.size
      have hyn : ∀ j ∈ blkL yo, j ≠ bp := fun j hj => by have := hyb j hj; omega
      obtain ⟨pcs, hpcs⟩ : ∃ pcs, pcs = splitL (partL r 3) 59 := ⟨_, rfl⟩
      rw [← hpcs] at hY Hr6
      have Hls := Lib.hid (show rowLs r = lineL pcs 0 by rw [hpcs]; rfl)
      clear hpcs Ht3 x3 hyb r3 r4 r5 r7
      go_wp2_with fail
      have Hd := Lib.hid (And.intro hk2 (And.intro hk3 hF38))
      have HS := Lib.hid (And.intro S0 S1)
      clear hF5 hk4 hF35 hk6 hF7 hF37 hk8 hs35 hs37 S0 S1 Hsp hF38
      go_loopw [7] (fun i wi => ∃ (j nl cl : Nat) (al : Option Addr), j ≤ M ∧ i = .int .i64 (j : Nat) ∧ At4 wi bp (partL r 0) ⟨t0, m0, d0⟩ ⟨t1, m1, d1⟩ ⟨al, nl, cl⟩ ∧ LnO wi w8.heap.size (bp :: (blkL ao ++ X)) al nl cl ((rowLs r).take j) ∧ Fr [bp] w8 wi) (fun i _ => M - (intOf i).toNat)
      case atStart => exact ⟨0, 0, 0, none, by omega, rfl, hP, LnO.nil _ _ _, Fr.refl _ _⟩
      case round =>
        obtain ⟨j, nl, cl, al, hj, rfl, hP, hL, hF⟩ := hrel
        by_cases hjM : j < M
        · obtain ⟨yb, yoff, rfl, hyc⟩ := hY.at j hjM
          have hlj : j < pcs.length := by rw [hY.1]; exact hjM
          have hyj := hF.cell (hyc j hjM) (by have := hyn yb (by simp [blkL, blk]); simpa using this)
          have hxs := Hr6.out (pcs[j]'hlj) (List.getElem_mem _)
          have hst := row_step Hls.out j hlj
          clear hyc
          generalize pcs[j]'hlj = x at hyj hxs hst
          have Hst := Lib.hid hst; clear hst
          obtain ⟨⟨e0, e1, e2, e3⟩, f1, f2, f3⟩ := hP
          obtain ⟨hl1, ts, hl2, hl3, hl4⟩ := hL
          have hnl : nl ≤ 1000 := by rw [← hl1, List.length_take]; omega
          have hbal : bp ∉ blkL al := fun h => by have := (hl3.lt bp (mem_blkL.1 h)).1; omega
          have HP := Lib.hid (show At4 wr bp (partL r 0) ⟨t0, m0, d0⟩ ⟨t1, m1, d1⟩ ⟨al, nl, cl⟩ from ⟨⟨e0, e1, e2, e3⟩, f1, f2, f3⟩)
          clear e0 e1 e2 f1 f2
          go_upto_region 14 with fail
          refine any_start (by kernel_rfl) ?_
          refine any_take [0, 2, 3, 4, 5, 6] (by kernel_rfl) ?_
          simp only [opsAt, List.getElem?_toArray, List.getElem?_cons_zero, List.getElem?_cons_succ]
          repeat (go_big_quiet_step (fail))
          refine wpQuiet_nil ?_
          generalize hwq : wr.drew = wq
          have hkq : Kp wr wq := hwq ▸ Kp.of_drewN wr 1
          replace e3 : wq.cell? ⟨bp, 3, none⟩ = some (.slice al nl cl) := hkq.cell e3
          have e3q := e3
          replace f3 := (HP.out.kp hkq).2.2.2
          have hyq := hkq.cell hyj
          have Htk := Lib.hid (tokens_any wq x hxs)
          clear hwq hyj
          refine any_two 1 7 (by kernel_rfl) ?_ ?_
          · simp only [opsAt, List.getElem?_toArray, List.getElem?_cons_zero, List.getElem?_cons_succ]
            go_wp2_with fail
            refine any_one 7 (by kernel_rfl) ?_
            simp only [opsAt, List.getElem?_toArray, List.getElem?_cons_zero, List.getElem?_cons_succ]
            go_wp2_with fail
            refine any_one 8 (by kernel_rfl) ?_
            simp only [opsAt, List.getElem?_toArray, List.getElem?_cons_zero, List.getElem?_cons_succ]
            go_wp2_with (go_at_call 52; go_loud (refine Htk.out.mono ?_); rintro e wc ⟨hkc, tt, mt, dt, rfl, hT, hmt, hdt, hbt⟩; have e3 := Kp.cell hkc e3; have f3 := Kp.frz hkc e3q f3; have e3c := e3)
            refine any_take [9] (by kernel_rfl) ?_
            simp only [opsAt, List.getElem?_toArray, List.getElem?_cons_zero, List.getElem?_cons_succ]
            repeat (go_big_quiet_step (fail))
            refine wpQuiet_nil ?_
            refine any_one 10 (by kernel_rfl) ?_
            simp only [opsAt, List.getElem?_toArray, List.getElem?_cons_zero, List.getElem?_cons_succ]
            go_wp2_with fail
            have hcs : Cs (wc.alloc (.cells #[iv ((j : Int) % 2), .slice tt mt dt] 53)) (some ⟨wc.heap.size, 0, none⟩) [iv ((j : Int) % 2), .slice tt mt dt] := Cs.new wc [iv ((j : Int) % 2), .slice tt mt dt] 53 (0, 0)
            have hkz : Kp wc (wc.alloc (.cells #[iv ((j : Int) % 2), .slice tt mt dt] 53)) := Kp.new wc _
            generalize wc.alloc (.cells #[iv ((j : Int) % 2), .slice tt mt dt] 53) = wz at hcs hkz ⊢
            have f3 := Kp.frz hkz e3c f3
            have e3 := Kp.cell hkz e3c
            have e3z := e3
            have hkwz : Kp wr wz := Kp.trans hkq (Kp.trans hkc hkz)
            refine any_one 11 (by kernel_rfl) ?_
            simp only [opsAt, List.getElem?_toArray, List.getElem?_cons_zero, List.getElem?_cons_succ]
            go_wp2_with (at_builtin; refine wpList_app rfl (.tmp 47) (.tmp 56) 24 rfl el24 w8.heap.size rfl (hl3.keep hkwz) rfl [iv ((j : Int) % 2), .slice tt mt dt] rfl hcs (by simp [Value.oneCell']) (nl + 1) rfl (lnc ((rowLs r).take j ++ [(((j % 2 : Nat) : Int), tokL x)]) (ts ++ [⟨tt, mt, dt⟩])) (lnc_append _ _ hl2) (by omega) (Nat.le_trans hF.size hkwz.size) ?_; intro ao2 cap2 w9 ha; have e3 := Fr.cell ha.fr e3 hbal; have f3 := Fr.free ha.fr e3z f3 hbal)
            refine any_take [12] (by kernel_rfl) ?_
            simp only [opsAt, List.getElem?_toArray, List.getElem?_cons_zero, List.getElem?_cons_succ]
            repeat (go_big_quiet_step (fail))
            refine wpQuiet_nil ?_
            refine any_one 13 (by kernel_rfl) ?_
            simp only [opsAt, List.getElem?_toArray, List.getElem?_cons_zero, List.getElem?_cons_succ]
            go_wp2_with fail
            refine any_end (by kernel_rfl) ?_
            have Hfin := Lib.hid (all_fin hl1 ts hl2 hl3 hl4 hkwz HP.out hF (by omega) (fun i hi => (hbt i hi)) hkq.size (hkc.trans hkz).size hkz.size (hkz.is hT) hmt hFb ha)
            go_wp2_with fail
            go_roundw
            case rel => exact ⟨j + 1, nl + 1, cap2, ao2, by omega, by go_num, Hfin.out.1, by rw [Hst.out]; exact Hfin.out.2.1, Hfin.out.2.2⟩
            case measure => simp [intOf]; omega
          · simp only [opsAt, List.getElem?_toArray, List.getElem?_cons_zero, List.getElem?_cons_succ]
            go_wp2_with fail
            refine any_two 1 8 (by kernel_rfl) ?_ ?_
            · simp only [opsAt, List.getElem?_toArray, List.getElem?_cons_zero, List.getElem?_cons_succ]
              go_wp2_with fail
              refine any_one 8 (by kernel_rfl) ?_
              simp only [opsAt, List.getElem?_toArray, List.getElem?_cons_zero, List.getElem?_cons_succ]
              go_wp2_with (go_at_call 52; go_loud (refine Htk.out.mono ?_); rintro e wc ⟨hkc, tt, mt, dt, rfl, hT, hmt, hdt, hbt⟩; have e3 := Kp.cell hkc e3; have f3 := Kp.frz hkc e3q f3; have e3c := e3)
              refine any_take [9] (by kernel_rfl) ?_
              simp only [opsAt, List.getElem?_toArray, List.getElem?_cons_zero, List.getElem?_cons_succ]
              repeat (go_big_quiet_step (fail))
              refine wpQuiet_nil ?_
              refine any_one 10 (by kernel_rfl) ?_
              simp only [opsAt, List.getElem?_toArray, List.getElem?_cons_zero, List.getElem?_cons_succ]
              go_wp2_with fail
              have hcs : Cs (wc.alloc (.cells #[iv ((j : Int) % 2), .slice tt mt dt] 53)) (some ⟨wc.heap.size, 0, none⟩) [iv ((j : Int) % 2), .slice tt mt dt] := Cs.new wc [iv ((j : Int) % 2), .slice tt mt dt] 53 (0, 0)
              have hkz : Kp wc (wc.alloc (.cells #[iv ((j : Int) % 2), .slice tt mt dt] 53)) := Kp.new wc _
              generalize wc.alloc (.cells #[iv ((j : Int) % 2), .slice tt mt dt] 53) = wz at hcs hkz ⊢
              have f3 := Kp.frz hkz e3c f3
              have e3 := Kp.cell hkz e3c
              have e3z := e3
              have hkwz : Kp wr wz := Kp.trans hkq (Kp.trans hkc hkz)
              refine any_one 11 (by kernel_rfl) ?_
              simp only [opsAt, List.getElem?_toArray, List.getElem?_cons_zero, List.getElem?_cons_succ]
              go_wp2_with (at_builtin; refine wpList_app rfl (.tmp 47) (.tmp 56) 24 rfl el24 w8.heap.size rfl (hl3.keep hkwz) rfl [iv ((j : Int) % 2), .slice tt mt dt] rfl hcs (by simp [Value.oneCell']) (nl + 1) rfl (lnc ((rowLs r).take j ++ [(((j % 2 : Nat) : Int), tokL x)]) (ts ++ [⟨tt, mt, dt⟩])) (lnc_append _ _ hl2) (by omega) (Nat.le_trans hF.size hkwz.size) ?_; intro ao2 cap2 w9 ha; have e3 := Fr.cell ha.fr e3 hbal; have f3 := Fr.free ha.fr e3z f3 hbal)
              refine any_take [12] (by kernel_rfl) ?_
              simp only [opsAt, List.getElem?_toArray, List.getElem?_cons_zero, List.getElem?_cons_succ]
              repeat (go_big_quiet_step (fail))
              refine wpQuiet_nil ?_
              refine any_one 13 (by kernel_rfl) ?_
              simp only [opsAt, List.getElem?_toArray, List.getElem?_cons_zero, List.getElem?_cons_succ]
              go_wp2_with fail
              refine any_end (by kernel_rfl) ?_
              have Hfin := Lib.hid (all_fin hl1 ts hl2 hl3 hl4 hkwz HP.out hF (by omega) (fun i hi => (hbt i hi)) hkq.size (hkc.trans hkz).size hkz.size (hkz.is hT) hmt hFb ha)
              go_wp2_with fail
              go_roundw
              case rel => exact ⟨j + 1, nl + 1, cap2, ao2, by omega, by go_num, Hfin.out.1, by rw [Hst.out]; exact Hfin.out.2.1, Hfin.out.2.2⟩
              case measure => simp [intOf]; omega
            · simp only [opsAt, List.getElem?_toArray, List.getElem?_cons_zero, List.getElem?_cons_succ]
              go_wp2_with (go_at_call 52; go_loud (refine Htk.out.mono ?_); rintro e wc ⟨hkc, tt, mt, dt, rfl, hT, hmt, hdt, hbt⟩; have e3 := Kp.cell hkc e3; have f3 := Kp.frz hkc e3q f3; have e3c := e3)
              refine any_take [9] (by kernel_rfl) ?_
              simp only [opsAt, List.getElem?_toArray, List.getElem?_cons_zero, List.getElem?_cons_succ]
              repeat (go_big_quiet_step (fail))
              refine wpQuiet_nil ?_
              refine any_two 1 10 (by kernel_rfl) ?_ ?_
              · simp only [opsAt, List.getElem?_toArray, List.getElem?_cons_zero, List.getElem?_cons_succ]
                go_wp2_with fail
                refine any_one 10 (by kernel_rfl) ?_
                simp only [opsAt, List.getElem?_toArray, List.getElem?_cons_zero, List.getElem?_cons_succ]
                go_wp2_with fail
                have hcs : Cs (wc.alloc (.cells #[iv ((j : Int) % 2), .slice tt mt dt] 53)) (some ⟨wc.heap.size, 0, none⟩) [iv ((j : Int) % 2), .slice tt mt dt] := Cs.new wc [iv ((j : Int) % 2), .slice tt mt dt] 53 (0, 0)
                have hkz : Kp wc (wc.alloc (.cells #[iv ((j : Int) % 2), .slice tt mt dt] 53)) := Kp.new wc _
                generalize wc.alloc (.cells #[iv ((j : Int) % 2), .slice tt mt dt] 53) = wz at hcs hkz ⊢
                have f3 := Kp.frz hkz e3c f3
                have e3 := Kp.cell hkz e3c
                have e3z := e3
                have hkwz : Kp wr wz := Kp.trans hkq (Kp.trans hkc hkz)
                refine any_one 11 (by kernel_rfl) ?_
                simp only [opsAt, List.getElem?_toArray, List.getElem?_cons_zero, List.getElem?_cons_succ]
                go_wp2_with (at_builtin; refine wpList_app rfl (.tmp 47) (.tmp 56) 24 rfl el24 w8.heap.size rfl (hl3.keep hkwz) rfl [iv ((j : Int) % 2), .slice tt mt dt] rfl hcs (by simp [Value.oneCell']) (nl + 1) rfl (lnc ((rowLs r).take j ++ [(((j % 2 : Nat) : Int), tokL x)]) (ts ++ [⟨tt, mt, dt⟩])) (lnc_append _ _ hl2) (by omega) (Nat.le_trans hF.size hkwz.size) ?_; intro ao2 cap2 w9 ha; have e3 := Fr.cell ha.fr e3 hbal; have f3 := Fr.free ha.fr e3z f3 hbal)
                refine any_take [12] (by kernel_rfl) ?_
                simp only [opsAt, List.getElem?_toArray, List.getElem?_cons_zero, List.getElem?_cons_succ]
                repeat (go_big_quiet_step (fail))
                refine wpQuiet_nil ?_
                refine any_one 13 (by kernel_rfl) ?_
                simp only [opsAt, List.getElem?_toArray, List.getElem?_cons_zero, List.getElem?_cons_succ]
                go_wp2_with fail
                refine any_end (by kernel_rfl) ?_
                have Hfin := Lib.hid (all_fin hl1 ts hl2 hl3 hl4 hkwz HP.out hF (by omega) (fun i hi => (hbt i hi)) hkq.size (hkc.trans hkz).size hkz.size (hkz.is hT) hmt hFb ha)
                go_wp2_with fail
                go_roundw
                case rel => exact ⟨j + 1, nl + 1, cap2, ao2, by omega, by go_num, Hfin.out.1, by rw [Hst.out]; exact Hfin.out.2.1, Hfin.out.2.2⟩
                case measure => simp [intOf]; omega
              · simp only [opsAt, List.getElem?_toArray, List.getElem?_cons_zero, List.getElem?_cons_succ]
                go_wp2_with fail
                have hcs : Cs (wc.alloc (.cells #[iv ((j : Int) % 2), .slice tt mt dt] 53)) (some ⟨wc.heap.size, 0, none⟩) [iv ((j : Int) % 2), .slice tt mt dt] := Cs.new wc [iv ((j : Int) % 2), .slice tt mt dt] 53 (0, 0)
                have hkz : Kp wc (wc.alloc (.cells #[iv ((j : Int) % 2), .slice tt mt dt] 53)) := Kp.new wc _
                generalize wc.alloc (.cells #[iv ((j : Int) % 2), .slice tt mt dt] 53) = wz at hcs hkz ⊢
                have f3 := Kp.frz hkz e3c f3
                have e3 := Kp.cell hkz e3c
                have e3z := e3
                refine any_one 1 (by kernel_rfl) ?_
                simp only [opsAt, List.getElem?_toArray, List.getElem?_cons_zero, List.getElem?_cons_succ]
                go_wp2_with fail
                have hkwz : Kp wr wz := Kp.trans hkq (Kp.trans hkc hkz)
                refine any_one 11 (by kernel_rfl) ?_
                simp only [opsAt, List.getElem?_toArray, List.getElem?_cons_zero, List.getElem?_cons_succ]
                go_wp2_with (at_builtin; refine wpList_app rfl (.tmp 47) (.tmp 56) 24 rfl el24 w8.heap.size rfl (hl3.keep hkwz) rfl [iv ((j : Int) % 2), .slice tt mt dt] rfl hcs (by simp [Value.oneCell']) (nl + 1) rfl (lnc ((rowLs r).take j ++ [(((j % 2 : Nat) : Int), tokL x)]) (ts ++ [⟨tt, mt, dt⟩])) (lnc_append _ _ hl2) (by omega) (Nat.le_trans hF.size hkwz.size) ?_; intro ao2 cap2 w9 ha; have e3 := Fr.cell ha.fr e3 hbal; have f3 := Fr.free ha.fr e3z f3 hbal)
                refine any_take [12] (by kernel_rfl) ?_
                simp only [opsAt, List.getElem?_toArray, List.getElem?_cons_zero, List.getElem?_cons_succ]
                repeat (go_big_quiet_step (fail))
                refine wpQuiet_nil ?_
                refine any_one 13 (by kernel_rfl) ?_
                simp only [opsAt, List.getElem?_toArray, List.getElem?_cons_zero, List.getElem?_cons_succ]
                go_wp2_with fail
                refine any_end (by kernel_rfl) ?_
                have Hfin := Lib.hid (all_fin hl1 ts hl2 hl3 hl4 hkwz HP.out hF (by omega) (fun i hi => (hbt i hi)) hkq.size (hkc.trans hkz).size hkz.size (hkz.is hT) hmt hFb ha)
                go_wp2_with fail
                go_roundw
                case rel => exact ⟨j + 1, nl + 1, cap2, ao2, by omega, by go_num, Hfin.out.1, by rw [Hst.out]; exact Hfin.out.2.1, Hfin.out.2.2⟩
                case measure => simp [intOf]; omega
        · obtain rfl : j = M := by omega
          rw [List.take_of_length_le (by rw [Hls.out]; unfold lineL; rw [List.length_mapIdx, hY.1]; exact Nat.le_refl _)] at hL
          have hnl : nl ≤ 1000 := by rw [← hL.1, Hls.out]; unfold lineL; rw [List.length_mapIdx, hY.1]; exact hM
          have hkwr : Kp wo wr := (((Fr.of_kp Hd.out.1).trans (Fr.of_kp Hd.out.2.1)).step (Hd.out.2.2.trans hF) (fun i hi => .inr (by simp at hi; omega))).kp
          have hSL : Sta wr (blkL ao ++ X) (fun w => Lns w al nl (rowLs r)) := hL.sta (by omega) (fun i hi => List.mem_cons_of_mem _ hi) (fun i hi hm => by
            obtain ⟨_, ts, _, hl3, _⟩ := hL
            have := (hl3.lt i (mem_blkL.1 hm)).1
            have := hFb i hi; omega)
          have hS0 := (HS.out.1.step hF (Z := blkL ao ++ X) (fun i hi => .inl (by simp at hi; simp [hi])) (fun i hi => .inl (List.mem_cons_of_mem _ hi)))
          have hS1 := (HS.out.2.step hF (Z := blkL ao ++ X) (fun i hi => .inl (by simp at hi; simp [hi])) (fun i hi => .inl (List.mem_cons_of_mem _ hi)))
          have hpv : Sta wr (blkL ao ++ X) (PvR r ⟨partL r 0, ⟨t0, m0, d0⟩, ⟨t1, m1, d1⟩, ⟨al, nl, cl⟩⟩) := fun w' k => ⟨hm0, hm1, by show nl ≤ 7007; omega, hS0 w' k, hS1 w' k, hSL w' k⟩
          obtain ⟨⟨e0, e1, e2, e3⟩, f1, f2, f3⟩ := hP
          unfold tvv at e1 e2 e3
          simp only at e1 e2 e3
          clear hSL hS0 hS1 HS hL hF Hd
          have hcs : Cs (wr.alloc (.cells #[.string (partL r 0), .slice t0 m0 d0, .slice t1 m1 d1, .slice al nl cl] 26)) (some ⟨wr.heap.size, 0, none⟩) [.string (partL r 0), .slice t0 m0 d0, .slice t1 m1 d1, .slice al nl cl] := Cs.new wr [.string (partL r 0), .slice t0 m0 d0, .slice t1 m1 d1, .slice al nl cl] 26 (0, 0)
          have hown2 : Own (wr.alloc (.cells #[.string (partL r 0), .slice t0 m0 d0, .slice t1 m1 d1, .slice al nl cl] 26)) w1.heap.size 26 4 ao k cap (ps.flatMap pvc) := hown.keep (Kp.trans hkwr (Kp.new _ _))
          have hbase : w1.heap.size ≤ (wr.alloc (.cells #[.string (partL r 0), .slice t0 m0 d0, .slice t1 m1 d1, .slice al nl cl] 26)).heap.size := Nat.le_trans hkk.size (Nat.le_trans hkwr.size (by simp))
          have hzs : (ps ++ [(⟨partL r 0, ⟨t0, m0, d0⟩, ⟨t1, m1, d1⟩, ⟨al, nl, cl⟩⟩ : Pv)]).flatMap pvc = ps.flatMap pvc ++ [.string (partL r 0), .slice t0 m0 d0, .slice t1 m1 d1, .slice al nl cl] := by simp [pvc, tvv]
          have hby : (k + 1) * 88 ≤ 140737488355328 := by omega
          have hone : ∀ u ∈ ([.string (partL r 0), .slice t0 m0 d0, .slice t1 m1 d1, .slice al nl cl] : List Value), u.oneCell' = true := by simp [Value.oneCell']
          go_wp2_with (at_builtin; refine wpList_app rfl (.tmp 59) (.tmp 61) 80 rfl el80 w1.heap.size rfl hown2 rfl [.string (partL r 0), .slice t0 m0 d0, .slice t1 m1 d1, .slice al nl cl] rfl hcs hone (k + 1) rfl ((ps ++ [(⟨partL r 0, ⟨t0, m0, d0⟩, ⟨t1, m1, d1⟩, ⟨al, nl, cl⟩⟩ : Pv)]).flatMap pvc) hzs hby hbase ?_; intro ao2 cap2 w9 ha)
          have Hfin := Lib.hid (show PvO w9 w1.heap.size X ao2 (k + 1) cap2 (k + 1) ∧ Kp w1 w9 from ⟨PvO.app (k := k) ps rfl hpl Hps.out (Kp.trans hkwr (Kp.new _ _)) ⟨partL r 0, ⟨t0, m0, d0⟩, ⟨t1, m1, d1⟩, ⟨al, nl, cl⟩⟩ r Hrk.out rfl (hpv.kp (Kp.new _ _)) rfl ha, ((Fr.of_kp (Kp.trans hkk (Kp.trans hkwr (Kp.new _ _)))).step ha.fr (fun i hi => .inr (hown2.lt i (mem_blkL.1 hi)).1)).kp⟩)
          clear ha
          go_wp2_with fail
          go_roundw
          case rel => exact ⟨k + 1, k + 1, cap2, ao2, by omega, by go_num, rfl, Hfin.out.1, Hfin.out.2⟩
          case measure => simp [intOf]; omega
    · obtain rfl : k = 38 := by omega
      have hpost : AllPost w X (.returned (.slice ao n cap)) wr := ⟨Kp.trans hk1 hkk, ao, n, cap, rfl, hO.mono hw1⟩
      have Hpost := Lib.hid hpost; clear hpost hO
      go_wp2_with fail
      go_ret
      exact Hpost.out
end Go.Proofs.YtpemfmjplejdiaaDoor

namespace Go.Proofs.YtpemfmjplejdiaaDoor
open Go.RowKit

theorem nn_all : ((List.range 24).all fun k => !decide ((partL (rowsL.getD k ⟨#[]⟩) 0).data.toList = nameNN.data.toList)) = true := by kernel_rfl
theorem nn_24 : decide ((partL (rowsL.getD 24 ⟨#[]⟩) 0).data.toList = nameNN.data.toList) = true := by kernel_rfl
theorem nn_not {k : Nat} {r : ByteArray} (h : rowsL[k]? = some r) (hk : k < 24) : ((partL r 0).toList == [78, 78]) = false := by
  have hg : rowsL.getD k ⟨#[]⟩ = r := by rw [List.getD, h]; rfl
  have := List.all_eq_true.1 nn_all k (by simpa using hk)
  rw [hg] at this
  rw [ByteArray.toList_eq]
  have h2 : (partL r 0).data.toList ≠ nameNN.data.toList := by simpa only [Bool.not_eq_true', decide_eq_false_iff_not] using this
  rw [beq_eq_false_iff_ne]
  exact h2
theorem nn_yes {r : ByteArray} (h : rowsL[24]? = some r) : ((partL r 0).toList == [78, 78]) = true := by
  have hg : rowsL.getD 24 ⟨#[]⟩ = r := by rw [List.getD, h]; rfl
  have := nn_24
  rw [hg] at this
  rw [ByteArray.toList_eq]
  have h2 : (partL r 0).data.toList = nameNN.data.toList := by simpa only [decide_eq_true_eq] using this
  rw [beq_iff_eq]
  exact h2
/-- What Find answers for NN. -/
def FindPost (w : World) (e : Ending) (w' : World) : Prop := Kp w w' ∧ ∃ nm t0 c0 t1 c1 tl nl cl, e = .returned (.tuple #[.agg #[.string nm, .slice t0 0 c0, .slice t1 0 c1, .slice tl nl cl], .bool true]) ∧ Is w' t0 0 [] ∧ Is w' t1 0 [] ∧ Lns w' tl nl nnLs
theorem find_fin {w1 : World} {X : List Nat} {ao : Option Addr} {ps : List Pv} (hps : ∀ (j : Nat) (h : j < ps.length) (r : ByteArray), rowsL[j]? = some r → ps[j].nm = partL r 0 ∧ Sta w1 (blkL ao ++ X) (PvR r ps[j])) (h : 24 < ps.length) {w' : World} (hk : Fr X w1 w') :
    ps[24].b0.n = 0 ∧ ps[24].b1.n = 0 ∧ Is w' ps[24].b0.ao 0 [] ∧ Is w' ps[24].b1.ao 0 [] ∧ Lns w' ps[24].ls.ao ps[24].ls.n nnLs := by
  have hr : rowsL[24]? = some (rowsL.getD 24 ⟨#[]⟩) := rfl
  obtain ⟨_, hs⟩ := hps 24 h _ hr
  obtain ⟨_, _, _, q1, q2, q3⟩ := hs w' (hk.mono (fun j hj => List.mem_append.2 (.inr hj)))
  have z0 : tokL (partL (rowsL.getD 24 ⟨#[]⟩) 1) = [] := by unfold tokL; rw [if_pos nn_b0]
  have z1 : tokL (partL (rowsL.getD 24 ⟨#[]⟩) 2) = [] := by unfold tokL; rw [if_pos nn_b1]
  rw [z0] at q1
  rw [z1] at q2
  rw [nn_ls] at q3
  have e0 : ps[24].b0.n = 0 := q1.1.symm
  have e1 : ps[24].b1.n = 0 := q2.1.symm
  rw [e0] at q1
  rw [e1] at q2
  exact ⟨e0, e1, q1, q2, q3⟩

set_option maxRecDepth 100000 in
set_option maxHeartbeats 4000000 in
theorem find_any (w : World) : Calls Tryd.prog 22 #[.string nameNN] w (FindPost w) := by
  obtain ⟨z, hz⟩ : ∃ z : Obj, z = .cells #[.string ⟨#[]⟩, .slice none 0 0, .slice none 0 0, .slice none 0 0] 26 := ⟨_, rfl⟩
  have Ha := Lib.hid (all_any (w.alloc (.cells #[.string ⟨#[]⟩, .slice none 0 0, .slice none 0 0, .slice none 0 0] 26)) [w.heap.size] (by simp))
  unfold nameNN
  go_enter Tryd.func22, Tryd.ntmps22
  go_wp2_with fail
  (with_reducible refine Ha.out.mono ?_)
  rintro e w1 ⟨hk1, ao, n, cap, rfl, hn, ps, hpl, hown, hps⟩
  subst hn
  have hr0 := At4.new w ⟨#[]⟩
  have hr1 := hr0.kp hk1
  have hw1 := hk1.size
  have hk01 := Kp.trans (Kp.new w (.cells #[.string ⟨#[]⟩, .slice none 0 0, .slice none 0 0, .slice none 0 0] 26)) hk1
  have hcs := hown.cs
  obtain ⟨b, off, rfl, hc⟩ := hcs.at 0 (by rw [pvc_len]; omega)
  have hcell : ∀ j (h : j < ps.length), w1.cell? ⟨b, off + j * 4, none⟩ = some (.string ps[j].nm) ∧ w1.cell? ⟨b, off + j * 4 + 1, none⟩ = some (tvv ps[j].b0) ∧ w1.cell? ⟨b, off + j * 4 + 2, none⟩ = some (tvv ps[j].b1) ∧ w1.cell? ⟨b, off + j * 4 + 3, none⟩ = some (tvv ps[j].ls) := fun j h => by
    obtain ⟨g0, g1, g2, g3⟩ := pvc_get ps j h
    refine ⟨hc _ _ g0, ?_, ?_, ?_⟩
    · have := hc _ _ g1; rwa [← Nat.add_assoc] at this
    · have := hc _ _ g2; rwa [← Nat.add_assoc] at this
    · have := hc _ _ g3; rwa [← Nat.add_assoc] at this
  have Hps := Lib.hid hps
  have Hcell := Lib.hid hcell
  have hf0 : w1.frozen? ⟨w.heap.size, 0, none⟩ = false := Kp.frz hk1 hr0.1.1 (World.frozen?_alloc_at _ _ _ _ rfl)
  have HK := Lib.hid (And.intro hk01 (And.intro hr1 hf0))
  clear hps hcell hc hcs hown hr0 Ha hr1 hk01 hk1
  go_wp2_with fail
  go_loopw [5] (fun i wr => ∃ k : Nat, k ≤ 24 ∧ i = .int .i64 (k : Nat) ∧ wr = w1) (fun i _ => 24 - (intOf i).toNat)
  case atStart => exact ⟨0, by omega, rfl, rfl⟩
  case round =>
    obtain ⟨k, hk, rfl, rfl⟩ := hrel
    have hkl : k < ps.length := by omega
    obtain ⟨g0, g1, g2, g3⟩ := Hcell.out k hkl
    obtain ⟨r, hr⟩ : ∃ r, rowsL[k]? = some r := ⟨_, List.getElem?_eq_getElem (by rw [rowsL_length]; omega)⟩
    have hnm := (Hps.out k hkl r hr).1
    by_cases h24 : k < 24
    · have hb := nn_not hr h24
      rw [← hnm] at hb
      generalize ps[k]'hkl = p at g0 g1 g2 g3 hb
      clear hr hnm g1 g2 g3
      go_wp2_with fail
      go_roundw
      case rel => exact ⟨k + 1, by omega, by go_num, trivial⟩
      case measure => simp [intOf]; omega
    · have hk24 : k = 24 := by omega
      have hb := nn_yes (by rw [← hk24]; exact hr)
      rw [← hnm] at hb
      have hfin : ∀ w', Fr [w.heap.size] wr w' → (ps[k]'hkl).b0.n = 0 ∧ (ps[k]'hkl).b1.n = 0 ∧ Is w' (ps[k]'hkl).b0.ao 0 [] ∧ Is w' (ps[k]'hkl).b1.ao 0 [] ∧ Lns w' (ps[k]'hkl).ls.ao (ps[k]'hkl).ls.n nnLs := by
        subst hk24
        exact fun w' hk => find_fin Hps.out hkl (w' := w') hk
      generalize ps[k]'hkl = p at g0 g1 g2 g3 hb hfin
      obtain ⟨nm, ⟨t0, m0, c0⟩, ⟨t1, m1, c1⟩, ⟨tl, nl, cl⟩⟩ := p
      unfold tvv at g1 g2 g3
      simp only at g0 g1 g2 g3 hb hfin
      obtain ⟨hm0, hm1, _⟩ := hfin wr (Fr.refl _ _)
      subst hm0
      subst hm1
      have hfin := fun w' hk => (hfin w' hk).2.2
      have hkk : k < 38 := by omega
      obtain ⟨⟨s0, s1, s2, s3⟩, f1, f2, f3⟩ := HK.out.2.1
      have f0 := HK.out.2.2
      unfold tvv at s1 s2 s3
      simp only at s1 s2 s3
      have Hfin := Lib.hid hfin
      have HK1 := Lib.hid HK.out.1
      clear hr hnm hfin hk24 h24 HK Hps Hcell
      go_wp2_with fail
      have hF : Fr [w.heap.size] wr ((((wr.setCell ⟨w.heap.size, 0, none⟩ (.string nm)).setCell ⟨w.heap.size, 1, none⟩ (.slice t0 0 c0)).setCell ⟨w.heap.size, 2, none⟩ (.slice t1 0 c1)).setCell ⟨w.heap.size, 3, none⟩ (.slice tl nl cl)) := (((Fr.set wr ⟨w.heap.size, 0, none⟩ _).trans (Fr.set _ ⟨w.heap.size, 1, none⟩ _)).trans (Fr.set _ ⟨w.heap.size, 2, none⟩ _)).trans (Fr.set _ ⟨w.heap.size, 3, none⟩ _)
      have hpost : FindPost w (.returned (.tuple #[.agg #[.string nm, .slice t0 0 c0, .slice t1 0 c1, .slice tl nl cl], .bool true])) _ := ⟨((Fr.of_kp HK1.out).step hF (fun i hi => .inr (by simp at hi; omega))).kp, nm, t0, c0, t1, c1, tl, nl, cl, rfl, Hfin.out _ hF⟩
      have Hpost := Lib.hid hpost
      clear hpost hF
      refine bodyPost_ret (v := .tuple #[.agg #[.string nm, .slice t0 0 c0, .slice t1 0 c1, .slice tl nl cl], .bool true]) (by simp [results, Tryd.results22, go_sem, s0, s1, s2, s3]) rfl Hpost.out
end Go.Proofs.YtpemfmjplejdiaaDoor

namespace Go.Proofs.YtpemfmjplejdiaaDoor
open Go.RowKit

theorem Own.store {w : World} {base : Nat} {e : TypeId} {size : Nat} {g : Nat} {n cap : Nat} {xs : List Value} (h : Own w base e size (some ⟨g, 0, none⟩) n cap xs) (j : Nat) (u : Value) :
    Own (w.setCell ⟨g, j, none⟩ u) base e size (some ⟨g, 0, none⟩) n cap (xs.set j u) := (World.ownsRow.stored h j u).1
theorem Own.cell {w : World} {base : Nat} {e : TypeId} {size : Nat} {g : Nat} {n cap : Nat} {xs : List Value} (h : Own w base e size (some ⟨g, 0, none⟩) n cap xs) (j : Nat) (hj : j < n * size) : w.cell? ⟨g, j, none⟩ = xs[j]? := World.ownsRow.cellAt h j hj
theorem Own.free {w : World} {base : Nat} {e : TypeId} {size : Nat} {g : Nat} {n cap : Nat} {xs : List Value} (h : Own w base e size (some ⟨g, 0, none⟩) n cap xs) (j : Nat) : w.frozen? ⟨g, j, none⟩ = false := World.ownsRow.frozenAt h j

theorem getD_lt {α : Type} (l : List α) (d : α) {i : Nat} (h : i < l.length) : l.getD i d = l[i] := by simp [List.getD_eq_getElem?_getD, List.getElem?_eq_getElem h]
theorem getD_ge {α : Type} (l : List α) (d : α) {i : Nat} (h : l.length ≤ i) : l.getD i d = d := by simp [List.getD_eq_getElem?_getD, List.getElem?_eq_none h]
def nilT : Tv := ⟨none, 0, 0⟩
/-- No two rows lie in one block. -/
def Disj (rows : List Tv) : Prop := ∀ i j x, x ∈ blkL (rows.getD i nilT).ao → x ∈ blkL (rows.getD j nilT).ao → i = j
theorem Disj.upd {rows rows' : List Tv} {s k : Nat} (h : Disj rows) (hlt : ∀ i, i ≠ k → ∀ x ∈ blkL (rows.getD i nilT).ao, x < s) (heq : ∀ i, i ≠ k → rows'.getD i nilT = rows.getD i nilT)
    (hk : ∀ x ∈ blkL (rows'.getD k nilT).ao, x ∈ blkL (rows.getD k nilT).ao ∨ s ≤ x) : Disj rows' := by
  intro i j x hi hj
  by_cases h1 : i = k
  · by_cases h2 : j = k
    · rw [h1, h2]
    · subst h1
      rw [heq j h2] at hj
      rcases hk x hi with q | q
      · exact h i j x q hj
      · have := hlt j h2 x hj; omega
  · by_cases h2 : j = k
    · subst h2
      rw [heq i h1] at hi
      rcases hk x hj with q | q
      · exact h i j x hi q
      · have := hlt i h1 x hi; omega
    · rw [heq i h1] at hi
      rw [heq j h2] at hj
      exact h i j x hi hj

/-- A pattern of the call's own. -/
structure PatO (w : World) (B : Nat) (t0 t1 tl : Tv) (ts : List Tv) (b0 b1 : List Int) (ls : List Ln) : Prop where
  len : ts.length = ls.length
  o0 : Own w B 3 1 t0.ao t0.n t0.c (b0.map iv)
  o1 : Own w B 3 1 t1.ao t1.n t1.c (b1.map iv)
  ol : Own w B 53 2 tl.ao tl.n tl.c (lnc ls ts)
  ot : ∀ (j : Nat) (t : Tv) (l : Ln), ts[j]? = some t → ls[j]? = some l → Own w B 3 1 t.ao t.n t.c (l.2.map iv)
  dj : Disj (t0 :: t1 :: tl :: ts)
theorem PatO.nil (w : World) (B : Nat) : PatO w B nilT nilT nilT [] [] [] [] :=
  ⟨rfl, Own.nil _ _ _ _, Own.nil _ _ _ _, Own.nil _ _ _ _, fun j t l h => by simp at h, fun i j x hi => by
    rcases i with _ | _ | _ | i <;> simp [nilT, blkL, blk] at hi⟩
section
variable {w w' : World} {B : Nat} {t0 t1 tl : Tv} {ts : List Tv} {b0 b1 : List Int} {ls : List Ln}
theorem PatO.n0 (h : PatO w B t0 t1 tl ts b0 b1 ls) : t0.n = b0.length := by have := h.o0.1; simp at this; omega
theorem PatO.n1 (h : PatO w B t0 t1 tl ts b0 b1 ls) : t1.n = b1.length := by have := h.o1.1; simp at this; omega
theorem PatO.nl (h : PatO w B t0 t1 tl ts b0 b1 ls) : tl.n = ls.length := by have := h.ol.1; rw [lnc_length h.len] at this; omega
theorem PatO.row {i : Nat} {x : Nat} (h : PatO w B t0 t1 tl ts b0 b1 ls) (hx : x ∈ blkL ((t0 :: t1 :: tl :: ts).getD i nilT).ao) : B ≤ x ∧ x < w.heap.size := by
  rcases i with _ | _ | _ | i
  · exact h.o0.lt x (mem_blkL.1 hx)
  · exact h.o1.lt x (mem_blkL.1 hx)
  · exact h.ol.lt x (mem_blkL.1 hx)
  · simp only [List.getD_cons_succ] at hx
    by_cases hi : i < ts.length
    · have hl : i < ls.length := by rw [← h.len]; exact hi
      rw [getD_lt _ _ hi] at hx
      exact (h.ot i _ _ (List.getElem?_eq_getElem hi) (List.getElem?_eq_getElem hl)).lt x (mem_blkL.1 hx)
    · rw [getD_ge _ _ (by omega)] at hx
      simp [nilT, blkL, blk] at hx
theorem PatO.fr {X : List Nat} (h : PatO w B t0 t1 tl ts b0 b1 ls) (k : Fr X w w') (hX : ∀ x ∈ X, x < B ∨ w.heap.size ≤ x) : PatO w' B t0 t1 tl ts b0 b1 ls := by
  have hd : ∀ i, ∀ x ∈ blkL ((t0 :: t1 :: tl :: ts).getD i nilT).ao, x ∉ X := fun i x hx hq => by have := h.row hx; have := hX x hq; omega
  refine ⟨h.len, k.own h.o0 (hd 0), k.own h.o1 (hd 1), k.own h.ol (hd 2), fun j t l ht hl => k.own (h.ot j t l ht hl) (fun x hx => hd (j + 3) x ?_), h.dj⟩
  have hj := (List.getElem?_eq_some_iff.1 ht)
  obtain ⟨hj, rfl⟩ := hj
  simp only [List.getD_cons_succ]
  rw [getD_lt _ _ hj]; exact hx
theorem PatO.kp (h : PatO w B t0 t1 tl ts b0 b1 ls) (k : Kp w w') : PatO w' B t0 t1 tl ts b0 b1 ls := h.fr (Fr.of_kp k) (by simp)
theorem PatO.is0 (h : PatO w B t0 t1 tl ts b0 b1 ls) : Is w t0.ao t0.n b0 := h.o0.is
theorem PatO.is1 (h : PatO w B t0 t1 tl ts b0 b1 ls) : Is w t1.ao t1.n b1 := h.o1.is
theorem PatO.lns (h : PatO w B t0 t1 tl ts b0 b1 ls) (hn : ls.length ≤ 1000) (ht : ∀ l ∈ ls, l.2.length ≤ 1000) : Lns w tl.ao tl.n ls := by
  refine ⟨h.nl.symm, by have := h.nl; omega, fun j hj => ?_⟩
  obtain ⟨b, off, e, hc⟩ := h.ol.cs.at (j * 2) (by rw [lnc_length h.len]; omega)
  obtain ⟨g0, g1⟩ := lnc_get h.len j hj
  have hj' : j < ts.length := by rw [h.len]; exact hj
  have ho := h.ot j _ _ (List.getElem?_eq_getElem hj') (List.getElem?_eq_getElem hj)
  have h1 := ho.1
  have h2 := ht _ (List.getElem_mem hj)
  simp at h1
  exact ⟨b, off, _, _, _, e, hc _ _ g0, by have := hc _ _ g1; rwa [← Nat.add_assoc] at this, ho.is, by omega⟩

/-- One row has grown; the others are as they were. -/
theorem PatO.others {k : Nat} (h : PatO w B t0 t1 tl ts b0 b1 ls) (_f : Fr (blkL ((t0 :: t1 :: tl :: ts).getD k nilT).ao) w w') (i : Nat) (hi : i ≠ k) : ∀ x ∈ blkL ((t0 :: t1 :: tl :: ts).getD i nilT).ao, x ∉ blkL ((t0 :: t1 :: tl :: ts).getD k nilT).ao :=
  fun x hx hq => hi (h.dj i k x hx hq)
theorem PatO.app0 {ao' : Option Addr} {cap' N : Nat} (h : PatO w B t0 t1 tl ts b0 b1 ls) (t : Int) (ha : Appd w w' B 3 1 t0.ao t0.c 1 N ((b0 ++ [t]).map iv) ao' cap') : PatO w' B ⟨ao', N, cap'⟩ t1 tl ts (b0 ++ [t]) b1 ls := by
  have f := ha.fr
  have ho := fun i hi => PatO.others (k := 0) h f i hi
  refine ⟨h.len, ha.own, f.own h.o1 (ho 1 (by simp)), f.own h.ol (ho 2 (by simp)), fun j t l ht hl => f.own (h.ot j t l ht hl) (fun x hx => ho (j + 3) (by simp) x ?_), ?_⟩
  · obtain ⟨hj, rfl⟩ := (List.getElem?_eq_some_iff.1 ht)
    simp only [List.getD_cons_succ]
    rw [getD_lt _ _ hj]; exact hx
  · refine h.dj.upd (s := w.heap.size) (k := 0) (fun i _ x hx => (h.row hx).2) (fun i hi => ?_) (fun x hx => ?_)
    · rcases i with _ | i
      · exact absurd rfl hi
      · rfl
    · rcases ha.fresh x (mem_blkL.1 hx) with q | q
      · exact .inl (mem_blkL.2 q)
      · exact .inr (by omega)
theorem PatO.app1 {ao' : Option Addr} {cap' N : Nat} (h : PatO w B t0 t1 tl ts b0 b1 ls) (t : Int) (ha : Appd w w' B 3 1 t1.ao t1.c 1 N ((b1 ++ [t]).map iv) ao' cap') : PatO w' B t0 ⟨ao', N, cap'⟩ tl ts b0 (b1 ++ [t]) ls := by
  have f := ha.fr
  have ho := fun i hi => PatO.others (k := 1) h f i hi
  refine ⟨h.len, f.own h.o0 (ho 0 (by simp)), ha.own, f.own h.ol (ho 2 (by simp)), fun j t l ht hl => f.own (h.ot j t l ht hl) (fun x hx => ho (j + 3) (by simp) x ?_), ?_⟩
  · obtain ⟨hj, rfl⟩ := (List.getElem?_eq_some_iff.1 ht)
    simp only [List.getD_cons_succ]
    rw [getD_lt _ _ hj]; exact hx
  · refine h.dj.upd (s := w.heap.size) (k := 1) (fun i _ x hx => (h.row hx).2) (fun i hi => ?_) (fun x hx => ?_)
    · rcases i with _ | _ | i
      · rfl
      · exact absurd rfl hi
      · rfl
    · rcases ha.fresh x (mem_blkL.1 hx) with q | q
      · exact .inl (mem_blkL.2 q)
      · exact .inr (by omega)
/-- One message more, with no token yet. -/
theorem PatO.appl {ao' : Option Addr} {cap' N : Nat} (h : PatO w B t0 t1 tl ts b0 b1 ls) (f : Int) (ha : Appd w w' B 53 2 tl.ao tl.c 1 N (lnc (ls ++ [(f, [])]) (ts ++ [nilT])) ao' cap') : PatO w' B t0 t1 ⟨ao', N, cap'⟩ (ts ++ [nilT]) b0 b1 (ls ++ [(f, [])]) := by
  have fr := ha.fr
  have ho := fun i hi => PatO.others (k := 2) h fr i hi
  refine ⟨by simp [h.len], fr.own h.o0 (ho 0 (by simp)), fr.own h.o1 (ho 1 (by simp)), ha.own, fun j t l ht hl => ?_, ?_⟩
  · rcases Nat.lt_or_ge j ts.length with hj | hj
    · rw [List.getElem?_append_left hj] at ht
      rw [List.getElem?_append_left (by rw [← h.len]; exact hj)] at hl
      refine fr.own (h.ot j t l ht hl) (fun x hx => ho (j + 3) (by simp) x ?_)
      obtain ⟨hj, rfl⟩ := (List.getElem?_eq_some_iff.1 ht)
      simp only [List.getD_cons_succ]
      rw [getD_lt _ _ hj]; exact hx
    · rw [List.getElem?_append_right hj] at ht
      rw [List.getElem?_append_right (by rw [← h.len]; exact hj)] at hl
      have e1 := List.mem_of_getElem? ht
      have e2 := List.mem_of_getElem? hl
      simp at e1 e2
      subst e1; subst e2
      exact Own.nil _ _ _ _
  · refine h.dj.upd (s := w.heap.size) (k := 2) (fun i _ x hx => (h.row hx).2) (fun i hi => ?_) (fun x hx => ?_)
    · rcases i with _ | _ | _ | i
      · rfl
      · rfl
      · exact absurd rfl hi
      · simp only [List.getD_cons_succ]
        rw [List.getD_eq_getElem?_getD, List.getD_eq_getElem?_getD]
        rcases Nat.lt_or_ge i ts.length with hj | hj
        · rw [List.getElem?_append_left hj]
        · rw [List.getElem?_append_right hj, List.getElem?_eq_none hj]
          rcases Nat.eq_zero_or_pos (i - ts.length) with h0 | h0
          · rw [h0]; rfl
          · rw [List.getElem?_eq_none (by simp; omega)]
    · rcases ha.fresh x (mem_blkL.1 hx) with q | q
      · exact .inl (mem_blkL.2 q)
      · exact .inr (by omega)
end

theorem lnc_last (ls : List Ln) (ts : List Tv) (f : Int) (xs ys : List Int) (t t' : Tv) (h : ts.length = ls.length) : (lnc (ls ++ [(f, xs)]) (ts ++ [t])).set (ls.length * 2 + 1) (tvv t') = lnc (ls ++ [(f, ys)]) (ts ++ [t']) := by
  rw [lnc_append _ _ h, lnc_append _ _ h, List.set_append_right _ _ (by rw [lnc_length h]; omega), lnc_length h, show ls.length * 2 + 1 - ls.length * 2 = 1 by omega]
  rfl
/-- A token more in the last message: its list has grown, and then its place among the messages. -/
theorem PatO.appt {w w' : World} {B : Nat} {t0 t1 : Tv} {ts : List Tv} {b0 b1 : List Int} {ls : List Ln} {g nl cl : Nat} {t : Tv} {f : Int} {xs : List Int} {ao' : Option Addr} {cap' N : Nat}
    (h : PatO w B t0 t1 ⟨some ⟨g, 0, none⟩, nl, cl⟩ (ts ++ [t]) b0 b1 (ls ++ [(f, xs)])) (x : Int) (ha : Appd w w' B 3 1 t.ao t.c 1 N ((xs ++ [x]).map iv) ao' cap') :
    PatO (w'.setCell ⟨g, ls.length * 2 + 1, none⟩ (tvv ⟨ao', N, cap'⟩)) B t0 t1 ⟨some ⟨g, 0, none⟩, nl, cl⟩ (ts ++ [⟨ao', N, cap'⟩]) b0 b1 (ls ++ [(f, xs ++ [x])]) := by
  have hlen : ts.length = ls.length := by have := h.len; simp at this; exact this
  have fr := ha.fr
  have hkey : ((t0 :: t1 :: ⟨some ⟨g, 0, none⟩, nl, cl⟩ :: (ts ++ [t])).getD (ts.length + 3) nilT) = t := by
    simp
  have ho := fun i hi => PatO.others (k := ts.length + 3) (w' := w') h (by rw [hkey]; exact fr) i hi
  rw [hkey] at ho
  have hs := Fr.set w' ⟨g, ls.length * 2 + 1, none⟩ (tvv ⟨ao', N, cap'⟩)
  have hgB := (h.row (i := 2) (x := g) (by simp [blkL, blk]))
  have hg0 : ∀ i, i ≠ 2 → ∀ y ∈ blkL ((t0 :: t1 :: ⟨some ⟨g, 0, none⟩, nl, cl⟩ :: (ts ++ [t])).getD i nilT).ao, y ∉ [g] := fun i hi y hy hq => by
    simp only [List.mem_singleton] at hq
    exact hi (h.dj i 2 y hy (by subst hq; simp [blkL, blk]))
  have hgn : ∀ y ∈ blkL ao', y ∉ [g] := fun y hy hq => by
    simp only [List.mem_singleton] at hq
    subst hq
    rcases ha.fresh y (mem_blkL.1 hy) with q | q
    · exact hg0 (ts.length + 3) (by omega) y (by rw [hkey]; exact mem_blkL.2 q) (by simp)
    · omega
  refine ⟨by simp [hlen], hs.own (fr.own h.o0 (ho 0 (by simp))) (hg0 0 (by simp)), hs.own (fr.own h.o1 (ho 1 (by simp))) (hg0 1 (by simp)), ?_, fun j t' l' ht hl => ?_, ?_⟩
  · have := (fr.own h.ol (ho 2 (by simp))).store (ls.length * 2 + 1) (tvv ⟨ao', N, cap'⟩)
    rwa [lnc_last ls ts f xs (xs ++ [x]) t ⟨ao', N, cap'⟩ hlen] at this
  · rcases Nat.lt_or_ge j ts.length with hj | hj
    · rw [List.getElem?_append_left hj] at ht
      rw [List.getElem?_append_left (by rw [← hlen]; exact hj)] at hl
      have hb : ∀ y ∈ blkL t'.ao, y ∈ blkL ((t0 :: t1 :: ⟨some ⟨g, 0, none⟩, nl, cl⟩ :: (ts ++ [t])).getD (j + 3) nilT).ao := fun y hy => by
        obtain ⟨hj', rfl⟩ := (List.getElem?_eq_some_iff.1 ht)
        simp only [List.getD_cons_succ]
        rw [getD_lt _ _ (by simp; omega), List.getElem_append_left hj']; exact hy
      refine hs.own (fr.own (h.ot j t' l' (by rw [List.getElem?_append_left hj]; exact ht) (by rw [List.getElem?_append_left (by rw [← hlen]; exact hj)]; exact hl)) (fun y hy => ho (j + 3) (by omega) y (hb y hy))) (fun y hy => hg0 (j + 3) (by omega) y (hb y hy))
    · rw [List.getElem?_append_right hj] at ht
      rw [List.getElem?_append_right (by rw [← hlen]; exact hj)] at hl
      have e1 := List.mem_of_getElem? ht
      have e2 := List.mem_of_getElem? hl
      simp only [List.mem_singleton] at e1 e2
      subst e1; subst e2
      exact hs.own ha.own hgn
  · refine h.dj.upd (s := w.heap.size) (k := ts.length + 3) (fun i _ y hy => (h.row hy).2) (fun i hi => ?_) (fun y hy => ?_)
    · rcases i with _ | _ | _ | i
      · rfl
      · rfl
      · rfl
      · simp only [List.getD_cons_succ]
        rw [List.getD_eq_getElem?_getD, List.getD_eq_getElem?_getD]
        rcases Nat.lt_or_ge i ts.length with hj | hj
        · rw [List.getElem?_append_left hj, List.getElem?_append_left hj]
        · rw [List.getElem?_eq_none (by simp; omega), List.getElem?_eq_none (by simp; omega)]
    · rw [hkey]
      simp at hy
      rcases ha.fresh y (mem_blkL.1 hy) with q | q
      · exact .inl (mem_blkL.2 q)
      · exact .inr (by omega)
end Go.Proofs.YtpemfmjplejdiaaDoor

namespace Go.Proofs.YtpemfmjplejdiaaDoor
open Go.RowKit

set_option maxRecDepth 100000 in
/-- A frame of 189 slots, of which the first 13 are said. -/
def F19 (a0 a1 a2 a3 a4 a5 a6 a7 a8 a9 a10 a11 a12 : Value) (a : Act) : Prop := ∃ u : Nat → Value, a = ⟨List.toArray (a0 :: a1 :: a2 :: a3 :: a4 :: a5 :: a6 :: a7 :: a8 :: a9 :: a10 :: a11 :: a12 :: u 13 :: u 14 :: u 15 :: u 16 :: u 17 :: u 18 :: u 19 :: u 20 :: u 21 :: u 22 :: u 23 :: u 24 :: u 25 :: u 26 :: u 27 :: u 28 :: u 29 :: u 30 :: u 31 :: u 32 :: u 33 :: u 34 :: u 35 :: u 36 :: u 37 :: u 38 :: u 39 :: u 40 :: u 41 :: u 42 :: u 43 :: u 44 :: u 45 :: u 46 :: u 47 :: u 48 :: u 49 :: u 50 :: u 51 :: u 52 :: u 53 :: u 54 :: u 55 :: u 56 :: u 57 :: u 58 :: u 59 :: u 60 :: u 61 :: u 62 :: u 63 :: u 64 :: u 65 :: u 66 :: u 67 :: u 68 :: u 69 :: u 70 :: u 71 :: u 72 :: u 73 :: u 74 :: u 75 :: u 76 :: u 77 :: u 78 :: u 79 :: u 80 :: u 81 :: u 82 :: u 83 :: u 84 :: u 85 :: u 86 :: u 87 :: u 88 :: u 89 :: u 90 :: u 91 :: u 92 :: u 93 :: u 94 :: u 95 :: u 96 :: u 97 :: u 98 :: u 99 :: u 100 :: u 101 :: u 102 :: u 103 :: u 104 :: u 105 :: u 106 :: u 107 :: u 108 :: u 109 :: u 110 :: u 111 :: u 112 :: u 113 :: u 114 :: u 115 :: u 116 :: u 117 :: u 118 :: u 119 :: u 120 :: u 121 :: u 122 :: u 123 :: u 124 :: u 125 :: u 126 :: u 127 :: u 128 :: u 129 :: u 130 :: u 131 :: u 132 :: u 133 :: u 134 :: u 135 :: u 136 :: u 137 :: u 138 :: u 139 :: u 140 :: u 141 :: u 142 :: u 143 :: u 144 :: u 145 :: u 146 :: u 147 :: u 148 :: u 149 :: u 150 :: u 151 :: u 152 :: u 153 :: u 154 :: u 155 :: u 156 :: u 157 :: u 158 :: u 159 :: u 160 :: u 161 :: u 162 :: u 163 :: u 164 :: u 165 :: u 166 :: u 167 :: u 168 :: u 169 :: u 170 :: u 171 :: u 172 :: u 173 :: u 174 :: u 175 :: u 176 :: u 177 :: u 178 :: u 179 :: u 180 :: u 181 :: u 182 :: u 183 :: u 184 :: u 185 :: u 186 :: u 187 :: u 188 :: []), []⟩
set_option maxRecDepth 100000 in
theorem F19.of (a0 a1 a2 a3 a4 a5 a6 a7 a8 a9 a10 a11 a12 x13 x14 x15 x16 x17 x18 x19 x20 x21 x22 x23 x24 x25 x26 x27 x28 x29 x30 x31 x32 x33 x34 x35 x36 x37 x38 x39 x40 x41 x42 x43 x44 x45 x46 x47 x48 x49 x50 x51 x52 x53 x54 x55 x56 x57 x58 x59 x60 x61 x62 x63 x64 x65 x66 x67 x68 x69 x70 x71 x72 x73 x74 x75 x76 x77 x78 x79 x80 x81 x82 x83 x84 x85 x86 x87 x88 x89 x90 x91 x92 x93 x94 x95 x96 x97 x98 x99 x100 x101 x102 x103 x104 x105 x106 x107 x108 x109 x110 x111 x112 x113 x114 x115 x116 x117 x118 x119 x120 x121 x122 x123 x124 x125 x126 x127 x128 x129 x130 x131 x132 x133 x134 x135 x136 x137 x138 x139 x140 x141 x142 x143 x144 x145 x146 x147 x148 x149 x150 x151 x152 x153 x154 x155 x156 x157 x158 x159 x160 x161 x162 x163 x164 x165 x166 x167 x168 x169 x170 x171 x172 x173 x174 x175 x176 x177 x178 x179 x180 x181 x182 x183 x184 x185 x186 x187 x188 : Value) : F19 a0 a1 a2 a3 a4 a5 a6 a7 a8 a9 a10 a11 a12 ⟨List.toArray (a0 :: a1 :: a2 :: a3 :: a4 :: a5 :: a6 :: a7 :: a8 :: a9 :: a10 :: a11 :: a12 :: x13 :: x14 :: x15 :: x16 :: x17 :: x18 :: x19 :: x20 :: x21 :: x22 :: x23 :: x24 :: x25 :: x26 :: x27 :: x28 :: x29 :: x30 :: x31 :: x32 :: x33 :: x34 :: x35 :: x36 :: x37 :: x38 :: x39 :: x40 :: x41 :: x42 :: x43 :: x44 :: x45 :: x46 :: x47 :: x48 :: x49 :: x50 :: x51 :: x52 :: x53 :: x54 :: x55 :: x56 :: x57 :: x58 :: x59 :: x60 :: x61 :: x62 :: x63 :: x64 :: x65 :: x66 :: x67 :: x68 :: x69 :: x70 :: x71 :: x72 :: x73 :: x74 :: x75 :: x76 :: x77 :: x78 :: x79 :: x80 :: x81 :: x82 :: x83 :: x84 :: x85 :: x86 :: x87 :: x88 :: x89 :: x90 :: x91 :: x92 :: x93 :: x94 :: x95 :: x96 :: x97 :: x98 :: x99 :: x100 :: x101 :: x102 :: x103 :: x104 :: x105 :: x106 :: x107 :: x108 :: x109 :: x110 :: x111 :: x112 :: x113 :: x114 :: x115 :: x116 :: x117 :: x118 :: x119 :: x120 :: x121 :: x122 :: x123 :: x124 :: x125 :: x126 :: x127 :: x128 :: x129 :: x130 :: x131 :: x132 :: x133 :: x134 :: x135 :: x136 :: x137 :: x138 :: x139 :: x140 :: x141 :: x142 :: x143 :: x144 :: x145 :: x146 :: x147 :: x148 :: x149 :: x150 :: x151 :: x152 :: x153 :: x154 :: x155 :: x156 :: x157 :: x158 :: x159 :: x160 :: x161 :: x162 :: x163 :: x164 :: x165 :: x166 :: x167 :: x168 :: x169 :: x170 :: x171 :: x172 :: x173 :: x174 :: x175 :: x176 :: x177 :: x178 :: x179 :: x180 :: x181 :: x182 :: x183 :: x184 :: x185 :: x186 :: x187 :: x188 :: []), []⟩ :=
  ⟨fun i => (x13 :: x14 :: x15 :: x16 :: x17 :: x18 :: x19 :: x20 :: x21 :: x22 :: x23 :: x24 :: x25 :: x26 :: x27 :: x28 :: x29 :: x30 :: x31 :: x32 :: x33 :: x34 :: x35 :: x36 :: x37 :: x38 :: x39 :: x40 :: x41 :: x42 :: x43 :: x44 :: x45 :: x46 :: x47 :: x48 :: x49 :: x50 :: x51 :: x52 :: x53 :: x54 :: x55 :: x56 :: x57 :: x58 :: x59 :: x60 :: x61 :: x62 :: x63 :: x64 :: x65 :: x66 :: x67 :: x68 :: x69 :: x70 :: x71 :: x72 :: x73 :: x74 :: x75 :: x76 :: x77 :: x78 :: x79 :: x80 :: x81 :: x82 :: x83 :: x84 :: x85 :: x86 :: x87 :: x88 :: x89 :: x90 :: x91 :: x92 :: x93 :: x94 :: x95 :: x96 :: x97 :: x98 :: x99 :: x100 :: x101 :: x102 :: x103 :: x104 :: x105 :: x106 :: x107 :: x108 :: x109 :: x110 :: x111 :: x112 :: x113 :: x114 :: x115 :: x116 :: x117 :: x118 :: x119 :: x120 :: x121 :: x122 :: x123 :: x124 :: x125 :: x126 :: x127 :: x128 :: x129 :: x130 :: x131 :: x132 :: x133 :: x134 :: x135 :: x136 :: x137 :: x138 :: x139 :: x140 :: x141 :: x142 :: x143 :: x144 :: x145 :: x146 :: x147 :: x148 :: x149 :: x150 :: x151 :: x152 :: x153 :: x154 :: x155 :: x156 :: x157 :: x158 :: x159 :: x160 :: x161 :: x162 :: x163 :: x164 :: x165 :: x166 :: x167 :: x168 :: x169 :: x170 :: x171 :: x172 :: x173 :: x174 :: x175 :: x176 :: x177 :: x178 :: x179 :: x180 :: x181 :: x182 :: x183 :: x184 :: x185 :: x186 :: x187 :: x188 :: [] : List Value).getD (i - 13) undef, rfl⟩
end Go.Proofs.YtpemfmjplejdiaaDoor

namespace Go.Proofs.YtpemfmjplejdiaaDoor
open Go.RowKit

section
variable {P : Program} {ops : Array Oper} {md : Region.Mode} {w : World} {S : World → Prop}

theorem anyH_start {id : Nat} {Q : Exit → Act → World → Prop} {a : Act} {l : List Oper} (S : World → Prop) (hm : P.follows .mixedOrders = true)
    (h : wpAnyH P .any l.toArray (Qn Q) S l.length (Array.replicate l.length false) a w.drew) : (Code.region id l.toArray true).wp P Q a w :=
  Code.wp_mono (fun e a w h => by cases e <;> first | exact h | exact h.elim) (wp_region_held (Q := Qn Q) hm (by simpa using h))
theorem anyH_end {Q : Exit → Act → World → Prop} {a : Act} {listed : Array Bool} {fuel : Nat} (hr : (Region.ready md ops listed).isEmpty = true) (h : Q .normal a w) : wpAnyH P md ops (Qn Q) S fuel listed a w :=
  wpAnyH_done (Q := Qn Q) (by simpa using hr) h fuel

theorem takeH_all {Q : Exit → Act → World → Prop} (hs : Region.noSelect ops = true) (hS : S w) (fuel : Nat) : ∀ (is : List Nat) (listed : Array Bool) (a : Act), takeB md ops listed is = true →
    wpQuiet P ops (fun _ => True) (fun a' => wpAnyH P md ops (Qn Q) S fuel (listAll listed is) a' w) (opsAt ops is) a → wpAnyH P md ops (Qn Q) S (fuel + is.length) listed a w
  | [], _, _, _, h => h
  | i :: r, listed, a, hB, h => by
    simp only [takeB, Bool.and_eq_true] at hB
    obtain ⟨⟨⟨hv, hr⟩, hf⟩, hB'⟩ := hB
    cases ho : ops[i]? with
    | none => rw [ho] at hv; cases hv
    | some o =>
      rw [ho] at hv
      simp only [opsAt, ho] at h
      unfold wpQuiet at h
      rw [List.length_cons, ← Nat.add_assoc]
      split at h
      · rename_i hw
        obtain ⟨v, h1, h2⟩ := h
        exact wpAnyH_take (Q := Qn Q) ho hs hf hr (fun _ _ _ h => h.elim) (yields_of_quiet hv hw h1).yieldsIf hS (takeH_all hs hS fuel r _ _ hB' h2)
      · rename_i hw
        exact wpAnyH_take (Q := Qn Q) ho hs hf hr (fun _ _ _ h => h.elim) (.inr ⟨by simpa using hw, rfl⟩) hS (takeH_all hs hS fuel r _ _ hB' h)
/-- Operations that look at no world, taken first. -/
theorem anyH_take {Q : Exit → Act → World → Prop} {n : Nat} {listed : Array Bool} {a : Act} (is : List Nat) (hB : (Region.noSelect ops && takeB md ops listed is && decide (is.length ≤ n)) = true) (hS : S w)
    (h : wpQuiet P ops (fun _ => True) (fun a' => wpAnyH P md ops (Qn Q) S (n - is.length) (listAll listed is) a' w) (opsAt ops is) a) : wpAnyH P md ops (Qn Q) S n listed a w := by
  simp only [Bool.and_eq_true, decide_eq_true_eq] at hB
  have := takeH_all hB.1.1 hS (n - is.length) is listed a hB.1.2 h
  rwa [Nat.sub_add_cancel hB.2] at this
/-- A load, taken first. -/
theorem anyH_load {Q : Exit → Act → World → Prop} {n : Nat} {listed : Array Bool} {a : Act} (i k : Nat) (v : Value) {o : Oper} (ho : ops[i]? = some o) (hd : o.dst = some k)
    (hB : (Region.noSelect ops && Region.free md ops listed i && (Region.ready md ops listed).contains i && decide (0 < n) && o.guard.isNone) = true) (hS : S w)
    (hv : ∀ w, S w → (execOp a.eval o).run P w = .ok (.value v) w)
    (h : wpAnyH P md ops (Qn Q) S (n - 1) (listed.setIfInBounds i true) (a.put (some k) v) w) : wpAnyH P md ops (Qn Q) S n listed a w := by
  rw [← hd] at h
  simp only [Bool.and_eq_true, decide_eq_true_eq] at hB
  obtain ⟨⟨⟨⟨h1, h2⟩, h3⟩, h4⟩, h5⟩ := hB
  obtain ⟨m, rfl⟩ : ∃ m, n = m + 1 := ⟨n - 1, by omega⟩
  rw [Nat.add_sub_cancel] at h
  refine wpAnyH_take (Q := Qn Q) ho h1 h2 h3 (fun _ _ _ h => h.elim) (.inl ⟨?_, hv⟩) hS h
  obtain ⟨dst, op, type, pos, after, guard⟩ := o
  cases guard with
  | none => rfl
  | some g => simp at h5
theorem anyH_one {Q : Exit → Act → World → Prop} {a : Act} {listed : Array Bool} {n : Nat} (i : Nat) (hr : (decide (Region.ready md ops listed = [i]) && decide (i < ops.size) && decide (0 < n)) = true)
    (h : wpList P ops (fun e a2 w2 => match e with | .normal => S w2 ∧ wpAnyH P md ops (Qn Q) S (n - 1) (listed.setIfInBounds i true) a2 w2 | _ => False) (opsAt ops [i]) a w) : wpAnyH P md ops (Qn Q) S n listed a w := by
  simp only [Bool.and_eq_true, decide_eq_true_eq] at hr
  obtain ⟨⟨hr, hi⟩, hn⟩ := hr
  obtain ⟨fuel, rfl⟩ : ∃ fuel, n = fuel + 1 := ⟨n - 1, by omega⟩
  rw [Nat.add_sub_cancel] at h
  refine ⟨fun h0 => (by rw [h0] at hr; cases hr), fun m hm => ?_⟩
  rw [hr] at hm
  obtain rfl : m = i := by simpa using hm
  exact op_of_list hi h
theorem anyH_two {Q : Exit → Act → World → Prop} {a : Act} {listed : Array Bool} {n : Nat} (i j : Nat) (hr : (decide (Region.ready md ops listed = [i, j]) && decide (i < ops.size) && decide (j < ops.size) && decide (0 < n)) = true)
    (h1 : wpList P ops (fun e a2 w2 => match e with | .normal => S w2 ∧ wpAnyH P md ops (Qn Q) S (n - 1) (listed.setIfInBounds i true) a2 w2 | _ => False) (opsAt ops [i]) a w)
    (h2 : wpList P ops (fun e a2 w2 => match e with | .normal => S w2 ∧ wpAnyH P md ops (Qn Q) S (n - 1) (listed.setIfInBounds j true) a2 w2 | _ => False) (opsAt ops [j]) a w) : wpAnyH P md ops (Qn Q) S n listed a w := by
  simp only [Bool.and_eq_true, decide_eq_true_eq] at hr
  obtain ⟨⟨⟨hr, hi⟩, hj⟩, hn⟩ := hr
  obtain ⟨fuel, rfl⟩ : ∃ fuel, n = fuel + 1 := ⟨n - 1, by omega⟩
  rw [Nat.add_sub_cancel] at h1 h2
  refine ⟨fun h0 => (by rw [h0] at hr; cases hr), fun m hm => ?_⟩
  rw [hr] at hm
  rcases List.mem_cons.1 hm with rfl | hm
  · exact op_of_list hi h1
  · obtain rfl : m = j := by simpa using hm
    exact op_of_list hj h2
end
end Go.Proofs.YtpemfmjplejdiaaDoor

namespace Go.Proofs.YtpemfmjplejdiaaDoor
open Go.RowKit

section
variable {P : Program} {ops : Array Oper} {md : Region.Mode} {w : World} {S : World → Prop} {N : Nat}

/-- Whatever order is picked, and S holds behind each operation but the last one. -/
def wpAnyN (P : Program) (md : Region.Mode) (ops : Array Oper) (Q : Exit → Act → World → Prop) (S : World → Prop) (N : Nat) : Nat → Array Bool → Act → World → Prop
  | 0, listed, a, w => Region.ready md ops listed = [] ∧ Q .normal a w
  | fuel + 1, listed, a, w => (Region.ready md ops listed = [] → Q .normal a w) ∧
    ∀ i ∈ Region.ready md ops listed, wpOp P ops Q i (fun a' w' => (i ≠ N → S w') ∧ wpAnyN P md ops Q S N fuel (listed.setIfInBounds i true) a' w') a w
theorem wpAny_of_N {Q : Exit → Act → World → Prop} : ∀ (fuel : Nat) (listed : Array Bool) (a : Act) (w : World), wpAnyN P md ops Q S N fuel listed a w → wpAny P md ops Q fuel listed a w
  | 0, _, _, _, h => h
  | fuel + 1, _, _, _, h => ⟨h.1, fun i hi => wpOp_mono (fun a' w' h' => wpAny_of_N fuel _ a' w' h'.2) (h.2 i hi)⟩
/-- The last operation waits for number i. -/
def lastB (md : Region.Mode) (ops : Array Oper) (N i : Nat) : Bool := match ops[N]? with
  | some o => o.after.any fun e => Region.binds md e && e.on == i
  | none => false
theorem lastB_spec {i : Nat} {o : Oper} (h : lastB md ops N i = true) (ho : ops[N]? = some o) : ∃ e ∈ o.after, Region.binds md e = true ∧ e.on = i := by
  unfold lastB at h
  rw [ho] at h
  obtain ⟨e, he, hb⟩ := Array.any_eq_true'.1 h
  simp only [Bool.and_eq_true, beq_iff_eq] at hb
  exact ⟨e, he, hb.1, hb.2⟩
theorem wpAnyN_first {Q : Exit → Act → World → Prop} {i : Nat} {oi : Oper} {v : Value} (hi : ops[i]? = some oi) (hsel : ∀ (j : Nat) (o : Oper) cs b, ops[j]? = some o → o.op ≠ .select cs b)
    (hQ : ∀ c a w, Q (.panic c) (a.put oi.dst v) w → Q (.panic c) a w) (hN : lastB md ops N i = true) :
    ∀ (fuel : Nat) (listed : Array Bool) (a : Act) (w : World),
      (∀ j oj, ops[j]? = some oj → j ≠ i → listed.getD j true = false → (∀ e ∈ oj.after, Region.binds md e = true → e.on ≠ i) → oi.apart ops oj = true) →
      i ∈ Region.ready md ops listed → YieldsIf P ops S oi v a → S w →
      wpAnyN P md ops Q S N fuel (listed.setIfInBounds i true) (a.put oi.dst v) w → wpAnyN P md ops Q S N (fuel + 1) listed a w := by
  intro fuel
  induction fuel with
  | zero =>
    intro listed a w _ hr hy hS H
    refine ⟨fun h => (by rw [h] at hr; cases hr), fun j hj => ?_⟩
    by_cases hji : j = i
    · subst hji; exact hy.wpOp hi hS ⟨fun _ => hS, H⟩
    · have := ready_mono hj hji
      rw [H.1] at this
      cases this
  | succ fuel ih =>
    intro listed a w hfree hr hy hS H
    refine ⟨fun h => (by rw [h] at hr; cases hr), fun j hj => ?_⟩
    by_cases hji : j = i
    · subst hji; exact hy.wpOp hi hS ⟨fun _ => hS, H⟩
    · have h1 := H.2 j (ready_mono hj hji)
      obtain ⟨hjun, oj, hoj, hall⟩ := mem_ready.1 hj
      have hnot : ∀ e ∈ oj.after, Region.binds md e = true → e.on ≠ i := fun e he hb heq => by
        have h1 := hall e he hb
        have h0 := (mem_ready.1 hr).1
        rw [heq] at h1
        rcases Nat.lt_or_ge i listed.size with h' | h'
        · simp [h'] at h0 h1; rw [h0] at h1; cases h1
        · simp [Array.getElem?_eq_none h'] at h1
      have hjN : j ≠ N := by
        rintro rfl
        obtain ⟨e, he, hb, h2⟩ := lastB_spec hN hoj
        exact hnot e he hb h2
      have h2 := wpOp_putIf hoj (hfree j oj hoj hji hjun hnot) (fun cs b => hsel i oi cs b hi) (fun cs b => hsel j oj cs b hoj) hQ hy h1
      have hfree' : ∀ k ok, ops[k]? = some ok → k ≠ i → (listed.setIfInBounds j true).getD k true = false →
          (∀ e ∈ ok.after, Region.binds md e = true → e.on ≠ i) → oi.apart ops ok = true := fun k ok hk hki hun hno => by
        refine hfree k ok hk hki ?_ hno
        by_cases hjk : j = k
        · subst hjk; exact hjun
        · rw [getD_set_ne true hjk] at hun; exact hun
      refine wpOp_mono (fun a' w' h3 => ⟨fun _ => h3.2.1 hjN, ih (listed.setIfInBounds j true) a' w' hfree' (ready_mono hr (Ne.symm hji)) h3.1 (h3.2.1 hjN) ?_⟩) h2
      rw [Array.setIfInBounds_comm _ _ hji]
      exact h3.2.2
theorem wpAnyN_take {Q : Exit → Act → World → Prop} {i : Nat} {oi : Oper} {v : Value} {fuel : Nat} {listed : Array Bool} {a : Act} {w : World} (hi : ops[i]? = some oi)
    (hs : Region.noSelect ops = true) (hf : Region.free md ops listed i = true) (hr : (Region.ready md ops listed).contains i = true) (hN : lastB md ops N i = true)
    (hQ : ∀ c a w, Q (.panic c) (a.put oi.dst v) w → Q (.panic c) a w) (hy : YieldsIf P ops S oi v a) (hS : S w)
    (h : wpAnyN P md ops Q S N fuel (listed.setIfInBounds i true) (a.put oi.dst v) w) : wpAnyN P md ops Q S N (fuel + 1) listed a w :=
  wpAnyN_first hi (Region.noSelect_spec hs) hQ hN fuel listed a w (Region.free_spec hi hf) (by simpa using hr) hy hS h

theorem anyS_start {id : Nat} {Q : Exit → Act → World → Prop} {a : Act} {l : List Oper} (S : World → Prop) (N : Nat) (hm : P.follows .mixedOrders = true)
    (h : wpAnyN P .any l.toArray (Qn Q) S N l.length (Array.replicate l.length false) a w.drew) : (Code.region id l.toArray true).wp P Q a w := by
  refine Code.wp_mono (fun e a w h => by cases e <;> first | exact h | exact h.elim) (wp_region_any (Q := Qn Q) hm (wpAny_of_N (S := S) (N := N) _ _ _ _ ?_))
  simpa using h
theorem anyS_end {Q : Exit → Act → World → Prop} {a : Act} {listed : Array Bool} {fuel : Nat} (hr : (Region.ready md ops listed).isEmpty = true) (h : Q .normal a w) : wpAnyN P md ops (Qn Q) S N fuel listed a w := by
  have hr : Region.ready md ops listed = [] := by simpa using hr
  cases fuel with
  | zero => exact ⟨hr, h⟩
  | succ f => exact ⟨fun _ => h, by rw [hr]; simp⟩
theorem takeS_all {Q : Exit → Act → World → Prop} (hs : Region.noSelect ops = true) (hS : S w) (fuel : Nat) : ∀ (is : List Nat) (listed : Array Bool) (a : Act), takeB md ops listed is = true → is.all (lastB md ops N) = true →
    wpQuiet P ops (fun _ => True) (fun a' => wpAnyN P md ops (Qn Q) S N fuel (listAll listed is) a' w) (opsAt ops is) a → wpAnyN P md ops (Qn Q) S N (fuel + is.length) listed a w
  | [], _, _, _, _, h => h
  | i :: r, listed, a, hB, hL, h => by
    simp only [takeB, Bool.and_eq_true] at hB
    obtain ⟨⟨⟨hv, hr⟩, hf⟩, hB'⟩ := hB
    simp only [List.all_cons, Bool.and_eq_true] at hL
    cases ho : ops[i]? with
    | none => rw [ho] at hv; cases hv
    | some o =>
      rw [ho] at hv
      simp only [opsAt, ho] at h
      unfold wpQuiet at h
      rw [List.length_cons, ← Nat.add_assoc]
      split at h
      · rename_i hw
        obtain ⟨v, h1, h2⟩ := h
        exact wpAnyN_take (Q := Qn Q) ho hs hf hr hL.1 (fun _ _ _ h => h.elim) (yields_of_quiet hv hw h1).yieldsIf hS (takeS_all hs hS fuel r _ _ hB' hL.2 h2)
      · rename_i hw
        exact wpAnyN_take (Q := Qn Q) ho hs hf hr hL.1 (fun _ _ _ h => h.elim) (.inr ⟨by simpa using hw, rfl⟩) hS (takeS_all hs hS fuel r _ _ hB' hL.2 h)
/-- Operations that look at no world, taken first. -/
theorem anyS_take {Q : Exit → Act → World → Prop} {n : Nat} {listed : Array Bool} {a : Act} (is : List Nat) (hB : (Region.noSelect ops && takeB md ops listed is && is.all (lastB md ops N) && decide (is.length ≤ n)) = true) (hS : S w)
    (h : wpQuiet P ops (fun _ => True) (fun a' => wpAnyN P md ops (Qn Q) S N (n - is.length) (listAll listed is) a' w) (opsAt ops is) a) : wpAnyN P md ops (Qn Q) S N n listed a w := by
  simp only [Bool.and_eq_true, decide_eq_true_eq] at hB
  have := takeS_all hB.1.1.1 hS (n - is.length) is listed a hB.1.1.2 hB.1.2 h
  rwa [Nat.sub_add_cancel hB.2] at this
/-- A load, taken first. -/
theorem anyS_load {Q : Exit → Act → World → Prop} {n : Nat} {listed : Array Bool} {a : Act} (i k : Nat) (v : Value) {o : Oper} (ho : ops[i]? = some o) (hd : o.dst = some k)
    (hB : (Region.noSelect ops && Region.free md ops listed i && (Region.ready md ops listed).contains i && lastB md ops N i && decide (0 < n) && o.guard.isNone) = true) (hS : S w)
    (hv : ∀ w, S w → (execOp a.eval o).run P w = .ok (.value v) w)
    (h : wpAnyN P md ops (Qn Q) S N (n - 1) (listed.setIfInBounds i true) (a.put (some k) v) w) : wpAnyN P md ops (Qn Q) S N n listed a w := by
  rw [← hd] at h
  simp only [Bool.and_eq_true, decide_eq_true_eq] at hB
  obtain ⟨⟨⟨⟨⟨h1, h2⟩, h3⟩, hl⟩, h4⟩, h5⟩ := hB
  obtain ⟨m, rfl⟩ : ∃ m, n = m + 1 := ⟨n - 1, by omega⟩
  rw [Nat.add_sub_cancel] at h
  refine wpAnyN_take (Q := Qn Q) ho h1 h2 h3 hl (fun _ _ _ h => h.elim) (.inl ⟨?_, hv⟩) hS h
  obtain ⟨dst, op, type, pos, after, guard⟩ := o
  cases guard with
  | none => rfl
  | some g => simp at h5
/-- What is to be shown behind an operation. -/
def NextS (P : Program) (md : Region.Mode) (ops : Array Oper) (Q : Exit → Act → World → Prop) (S : World → Prop) (N i n : Nat) (L : Array Bool) (a : Act) (w : World) : Prop := (i ≠ N → S w) ∧ wpAnyN P md ops (Qn Q) S N n L a w
theorem anyS_one {Q : Exit → Act → World → Prop} {a : Act} {listed : Array Bool} {n : Nat} (i : Nat) (hr : (decide (Region.ready md ops listed = [i]) && decide (i < ops.size) && decide (0 < n)) = true)
    (h : wpList P ops (fun e a2 w2 => match e with | .normal => NextS P md ops Q S N i (n - 1) (listed.setIfInBounds i true) a2 w2 | _ => False) (opsAt ops [i]) a w) : wpAnyN P md ops (Qn Q) S N n listed a w := by
  simp only [Bool.and_eq_true, decide_eq_true_eq] at hr
  obtain ⟨⟨hr, hi⟩, hn⟩ := hr
  obtain ⟨fuel, rfl⟩ : ∃ fuel, n = fuel + 1 := ⟨n - 1, by omega⟩
  rw [Nat.add_sub_cancel] at h
  refine ⟨fun h0 => (by rw [h0] at hr; cases hr), fun m hm => ?_⟩
  rw [hr] at hm
  obtain rfl : m = i := by simpa using hm
  exact op_of_list hi h
end
end Go.Proofs.YtpemfmjplejdiaaDoor
