/- Lists with room behind them, each in a block of its own: what is added to them, what stays. Conditions: the lists lie there (Own). -/
import Derived.Test.YtjbjgpcldcpjmaaDoorTwinA
import Derived.Test.YtjbjgpcldcpjmaaDoorGa6
namespace Go.Proofs.YtjbjgpcldcpjmaaDoor
open Go.RowKit

def cutT (t : Tv) : Tv := ⟨t.ao, t.n - 9, t.c⟩
theorem el35 : El Tryd.prog 35 22 (.slice none 0 0) 1 24 := ⟨Tryd.underlying35, by kernel_rfl, rfl, by decide, by decide⟩
/-- Two rows, a list of messages, a list of rows, and the rows. -/
structure TwO (w : World) (B : Nat) (r0 r1 tl tt : Tv) (ts : List Tv) (b0 b1 : List Int) (ls : List Ln) (xl xk : List Value) : Prop where
  len : ts.length = ls.length
  o0 : Own w B 3 1 r0.ao r0.n r0.c ((roomL b0).map iv)
  o1 : Own w B 3 1 r1.ao r1.n r1.c ((roomL b1).map iv)
  ol : Own w B 43 2 tl.ao tl.n tl.c xl
  ok : Own w B 22 1 tt.ao tt.n tt.c xk
  ot : ∀ (j : Nat) (t : Tv) (l : Ln), ts[j]? = some t → ls[j]? = some l → Own w B 3 1 t.ao t.n t.c ((roomL l.2).map iv)
  dj : Disj (r0 :: r1 :: tl :: tt :: ts)
section
variable {w w' : World} {B : Nat} {r0 r1 tl tt : Tv} {ts : List Tv} {b0 b1 : List Int} {ls : List Ln} {xl xk : List Value}
theorem TwO.start (h0 : Own w B 3 1 r0.ao r0.n r0.c ((roomL b0).map iv)) (h1 : Own w B 3 1 r1.ao r1.n r1.c ((roomL b1).map iv)) (hd : ∀ x ∈ blkL r0.ao, x ∉ blkL r1.ao) : TwO w B r0 r1 nilT nilT [] b0 b1 [] [] [] :=
  ⟨rfl, h0, h1, Own.nil _ _ _ _, Own.nil _ _ _ _, fun j t l h => by simp at h, fun p q x hp hq => by
    rcases p with _ | _ | _ | _ | p <;> rcases q with _ | _ | _ | _ | q <;> first
      | rfl
      | (simp [nilT, blkL, blk] at hp; done)
      | (simp [nilT, blkL, blk] at hq; done)
      | exact (hd x hp hq).elim
      | exact (hd x hq hp).elim⟩
theorem getD_mem {i : Nat} {x : Nat} (hx : x ∈ blkL (ts.getD i nilT).ao) : ∃ t, ts[i]? = some t ∧ x ∈ blkL t.ao := by
  rcases Nat.lt_or_ge i ts.length with hj | hj
  · exact ⟨_, List.getElem?_eq_getElem hj, by rw [getD_lt _ _ hj] at hx; exact hx⟩
  · rw [getD_ge _ _ hj] at hx
    simp [nilT, blkL, blk] at hx
theorem getD_of {i : Nat} {x : Nat} {t : Tv} (h : ts[i]? = some t) (hx : x ∈ blkL t.ao) : x ∈ blkL (ts.getD i nilT).ao := by
  rw [List.getD_eq_getElem?_getD, h]; exact hx
theorem TwO.row {i : Nat} {x : Nat} (h : TwO w B r0 r1 tl tt ts b0 b1 ls xl xk) (hx : x ∈ blkL ((r0 :: r1 :: tl :: tt :: ts).getD i nilT).ao) : B ≤ x ∧ x < w.heap.size := by
  rcases i with _ | _ | _ | _ | i
  · exact h.o0.lt x (mem_blkL.1 hx)
  · exact h.o1.lt x (mem_blkL.1 hx)
  · exact h.ol.lt x (mem_blkL.1 hx)
  · exact h.ok.lt x (mem_blkL.1 hx)
  · simp only [List.getD_cons_succ] at hx
    obtain ⟨t, ht, hx⟩ := getD_mem hx
    have hi := (List.getElem?_eq_some_iff.1 ht).1
    exact (h.ot i _ _ ht (List.getElem?_eq_getElem (by rw [← h.len]; exact hi))).lt x (mem_blkL.1 hx)
theorem TwO.fr {X : List Nat} (h : TwO w B r0 r1 tl tt ts b0 b1 ls xl xk) (k : Fr X w w') (hX : ∀ x ∈ X, x < B ∨ w.heap.size ≤ x) : TwO w' B r0 r1 tl tt ts b0 b1 ls xl xk := by
  have hd : ∀ i, ∀ x ∈ blkL ((r0 :: r1 :: tl :: tt :: ts).getD i nilT).ao, x ∉ X := fun i x hx hq => by have := h.row hx; have := hX x hq; omega
  exact ⟨h.len, k.own h.o0 (hd 0), k.own h.o1 (hd 1), k.own h.ol (hd 2), k.own h.ok (hd 3), fun j t l ht hl => k.own (h.ot j t l ht hl) (fun x hx => hd (j + 4) x (getD_of ht hx)), h.dj⟩
theorem TwO.kp (h : TwO w B r0 r1 tl tt ts b0 b1 ls xl xk) (k : Kp w w') : TwO w' B r0 r1 tl tt ts b0 b1 ls xl xk := h.fr (Fr.of_kp k) (by simp)
theorem TwO.others {k : Nat} (h : TwO w B r0 r1 tl tt ts b0 b1 ls xl xk) (i : Nat) (hi : i ≠ k) : ∀ x ∈ blkL ((r0 :: r1 :: tl :: tt :: ts).getD i nilT).ao, x ∉ blkL ((r0 :: r1 :: tl :: tt :: ts).getD k nilT).ao :=
  fun x hx hq => hi (h.dj i k x hx hq)
/-- A row more, in younger memory. -/
theorem TwO.more {s : Nat} {l : Ln} {t : Tv} (h : TwO w B r0 r1 tl tt ts b0 b1 ls xl xk) (k : Kp w w') (ho : Own w' B 3 1 t.ao t.n t.c ((roomL l.2).map iv)) (hs : s = w.heap.size)
    (ht : ∀ y ∈ blkL t.ao, s ≤ y) : TwO w' B r0 r1 tl tt (ts ++ [t]) b0 b1 (ls ++ [l]) xl xk := by
  have h' := h.kp k
  refine ⟨by simp [h.len], h'.o0, h'.o1, h'.ol, h'.ok, fun j t' l' ht' hl' => ?_, ?_⟩
  · rcases Nat.lt_or_ge j ts.length with hj | hj
    · rw [List.getElem?_append_left hj] at ht'
      rw [List.getElem?_append_left (by rw [← h.len]; exact hj)] at hl'
      exact h'.ot j t' l' ht' hl'
    · rw [List.getElem?_append_right hj] at ht'
      rw [List.getElem?_append_right (by rw [← h.len]; exact hj)] at hl'
      have e1 := List.mem_of_getElem? ht'
      have e2 := List.mem_of_getElem? hl'
      simp only [List.mem_singleton] at e1 e2
      subst e1; subst e2
      exact ho
  · refine h.dj.upd (s := s) (k := ts.length + 4) (fun i _ x hx => by rw [hs]; exact (h.row hx).2) (fun i hi => ?_) (fun x hx' => ?_)
    · rcases i with _ | _ | _ | _ | i
      · rfl
      · rfl
      · rfl
      · rfl
      · simp only [List.getD_cons_succ]
        rw [List.getD_eq_getElem?_getD, List.getD_eq_getElem?_getD]
        rcases Nat.lt_or_ge i ts.length with hj | hj
        · rw [List.getElem?_append_left hj]
        · rw [List.getElem?_eq_none (by simp; omega), List.getElem?_eq_none (by omega)]
    · have hkey : ((r0 :: r1 :: tl :: tt :: (ts ++ [t])).getD (ts.length + 4) nilT) = t := by simp
      rw [hkey] at hx'
      exact .inr (ht x hx')
/-- The list of rows has grown. -/
theorem TwO.appk {m N : Nat} {zs : List Value} {ao' : Option Addr} {cap' : Nat} (h : TwO w B r0 r1 tl tt ts b0 b1 ls xl xk) (ha : Appd w w' B 22 1 tt.ao tt.c m N zs ao' cap') : TwO w' B r0 r1 tl ⟨ao', N, cap'⟩ ts b0 b1 ls xl zs := by
  have f := ha.fr
  have ho := fun i hi => TwO.others (k := 3) h i hi
  refine ⟨h.len, f.own h.o0 (ho 0 (by simp)), f.own h.o1 (ho 1 (by simp)), f.own h.ol (ho 2 (by simp)), ha.own, fun j t l ht hl => f.own (h.ot j t l ht hl) (fun x hx => ho (j + 4) (by simp) x (getD_of ht hx)), ?_⟩
  refine h.dj.upd (s := w.heap.size) (k := 3) (fun i _ x hx => (h.row hx).2) (fun i hi => ?_) (fun x hx => ?_)
  · rcases i with _ | _ | _ | _ | i
    · rfl
    · rfl
    · rfl
    · exact absurd rfl hi
    · rfl
  · rcases ha.fresh x (mem_blkL.1 hx) with q | q
    · exact .inl (mem_blkL.2 q)
    · exact .inr (by omega)
/-- The list of messages has grown. -/
theorem TwO.appl {m N : Nat} {zs : List Value} {ao' : Option Addr} {cap' : Nat} (h : TwO w B r0 r1 tl tt ts b0 b1 ls xl xk) (ha : Appd w w' B 43 2 tl.ao tl.c m N zs ao' cap') : TwO w' B r0 r1 ⟨ao', N, cap'⟩ tt ts b0 b1 ls zs xk := by
  have f := ha.fr
  have ho := fun i hi => TwO.others (k := 2) h i hi
  refine ⟨h.len, f.own h.o0 (ho 0 (by simp)), f.own h.o1 (ho 1 (by simp)), ha.own, f.own h.ok (ho 3 (by simp)), fun j t l ht hl => f.own (h.ot j t l ht hl) (fun x hx => ho (j + 4) (by simp) x (getD_of ht hx)), ?_⟩
  refine h.dj.upd (s := w.heap.size) (k := 2) (fun i _ x hx => (h.row hx).2) (fun i hi => ?_) (fun x hx => ?_)
  · rcases i with _ | _ | _ | _ | i
    · rfl
    · rfl
    · exact absurd rfl hi
    · rfl
    · rfl
  · rcases ha.fresh x (mem_blkL.1 hx) with q | q
    · exact .inl (mem_blkL.2 q)
    · exact .inr (by omega)
theorem roomL_set (l : List Int) (k : Nat) (v : Int) (h : k < l.length) : (roomL l).set k v = roomL (l.set k v) := by
  unfold roomL
  rw [List.set_append_left _ _ h, List.length_set]
/-- A token of one row is written over. -/
theorem TwO.poke {i k g n c : Nat} {l : Ln} (v : Int) (h : TwO w B r0 r1 tl tt ts b0 b1 ls xl xk) (ht : ts[i]? = some ⟨some ⟨g, 0, none⟩, n, c⟩) (hl : ls[i]? = some l) (hk : k < l.2.length) :
    TwO (w.setCell ⟨g, k, none⟩ (iv v)) B r0 r1 tl tt ts b0 b1 (ls.set i (l.1, l.2.set k v)) xl xk := by
  have f := Fr.set w ⟨g, k, none⟩ (iv v)
  have hg : ∀ j x, j ≠ i + 4 → x ∈ blkL ((r0 :: r1 :: tl :: tt :: ts).getD j nilT).ao → x ∉ [g] := fun j x hj hx hq => by
    simp only [List.mem_singleton] at hq
    exact hj (h.dj j (i + 4) x hx (getD_of ht (by rw [hq]; simp [blkL, blk])))
  refine ⟨by rw [List.length_set]; exact h.len, f.own h.o0 (fun x hx => hg 0 x (by omega) hx), f.own h.o1 (fun x hx => hg 1 x (by omega) hx), f.own h.ol (fun x hx => hg 2 x (by omega) hx), f.own h.ok (fun x hx => hg 3 x (by omega) hx), fun j t l' ht' hl' => ?_, h.dj⟩
  by_cases e : j = i
  · subst e
    rw [ht] at ht'
    obtain rfl := Option.some.inj ht'
    rw [List.getElem?_set_self (List.getElem?_eq_some_iff.1 hl).1] at hl'
    obtain rfl := Option.some.inj hl'
    have := (h.ot j _ l ht hl).store k (iv v)
    rw [← List.map_set, roomL_set _ _ _ hk] at this
    exact this
  · rw [List.getElem?_set_ne (fun q => e q.symm)] at hl'
    exact f.own (h.ot j t l' ht' hl') (fun x hx => hg (j + 4) x (by omega) (getD_of ht' hx))
theorem own_is {ao : Option Addr} {n c : Nat} {l : List Int} (h : Own w B 3 1 ao n c ((roomL l).map iv)) : Is w ao l.length l ∧ n = l.length + 9 ∧ Is w ao n (roomL l) := by
  have h1 := h.is
  have h2 := h1.1
  rw [roomL_length] at h2
  refine ⟨⟨rfl, by have := h1.2.1; omega, fun j u hu => h.cs j u ?_⟩, h2.symm, h1⟩
  unfold roomL
  rw [List.map_append, List.getElem?_append_left (List.getElem?_eq_some_iff.1 hu).1]
  exact hu
/-- A list of messages whose rows these are. -/
theorem TwO.lns {al : Option Addr} {xs : List Value} (h : TwO w B r0 r1 tl tt ts b0 b1 ls xl xk) (hc : Cs w al (lnc ls (ts.map cutT) ++ xs)) (hn : ls.length ≤ 1000) (ht : ∀ l ∈ ls, l.2.length ≤ 1000) : Lns w al ls.length ls := by
  refine ⟨rfl, by omega, fun j hj => ?_⟩
  have hlen : (ts.map cutT).length = ls.length := by rw [List.length_map]; exact h.len
  obtain ⟨b, off, e, hc⟩ := hc.at (j * 2) (by rw [List.length_append, lnc_length hlen]; omega)
  obtain ⟨g0, g1⟩ := lnc_get hlen j hj
  have hj' : j < ts.length := by rw [h.len]; exact hj
  have ho := own_is (h.ot j _ _ (List.getElem?_eq_getElem hj') (List.getElem?_eq_getElem hj))
  have h2 := ht _ (List.getElem_mem hj)
  have hin := lnc_length hlen
  refine ⟨b, off, _, _, _, e, hc _ _ ((List.getElem?_append_left (by omega)).trans g0), by have := hc _ _ ((List.getElem?_append_left (by omega)).trans g1); rwa [← Nat.add_assoc] at this, ?_, ?_⟩
  · rw [List.getElem_map]
    show Is w (ts[j]).ao ((ts[j]).n - 9) _
    rw [ho.2.1, Nat.add_sub_cancel]
    exact ho.1
  · rw [List.getElem_map]
    show (ts[j]).n - 9 ≤ _
    rw [ho.2.1, Nat.add_sub_cancel]
    omega
theorem lnc_set {i : Nat} {l : Ln} (us : List Tv) (t' : List Int) (hl : ls[i]? = some l) : lnc (ls.set i (l.1, t')) us = lnc ls us := by
  induction ls generalizing i us with
  | nil => simp at hl
  | cons a r ih =>
    rcases i with _ | i
    · simp only [List.getElem?_cons_zero, Option.some.injEq] at hl
      subst hl
      cases us <;> rfl
    · simp only [List.getElem?_cons_succ] at hl
      cases us with
      | nil => rfl
      | cons u us => simp only [List.set_cons_succ, lnc]; rw [ih us hl]
end
/-- The cells of the variable. -/
structure Tc (w : World) (T : Nat) (vs : List Value) : Prop where
  cell : ∀ j v, vs[j]? = some v → w.cell? ⟨T, j, none⟩ = some v
  free : ∀ j v, vs[j]? = some v → w.frozen? ⟨T, j, none⟩ = false
theorem Tc.fr {X : List Nat} {w w' : World} {T : Nat} {vs : List Value} (h : Tc w T vs) (k : Fr X w w') (hb : T ∉ X) : Tc w' T vs :=
  ⟨fun j v hv => k.cell (h.cell j v hv) hb, fun j v hv => k.free (h.cell j v hv) (h.free j v hv) hb⟩
theorem Tc.kp {w w' : World} {T : Nat} {vs : List Value} (h : Tc w T vs) (k : Kp w w') : Tc w' T vs := h.fr (Fr.of_kp k) (by simp)
theorem Tc.set {w : World} {T : Nat} {vs : List Value} (h : Tc w T vs) (i : Nat) (hi : i < vs.length) (u : Value) : Tc (w.setCell ⟨T, i, none⟩ u) T (vs.set i u) := by
  have hc := h.cell i _ (List.getElem?_eq_getElem hi)
  refine ⟨fun j v hv => ?_, fun j v hv => ?_⟩
  · by_cases e : j = i
    · subst e
      rw [List.getElem?_set_self hi] at hv
      rw [World.cell?_setCell_same _ _ _ hc]; exact hv
    · rw [List.getElem?_set_ne (fun q => e q.symm)] at hv
      rw [World.cell?_setCell_other _ _ _ _ (by simp <;> omega)]
      exact h.cell j v hv
  · rw [World.frozen?_setCell]
    have hj : j < vs.length := by
      have := (List.getElem?_eq_some_iff.1 hv).1
      rwa [List.length_set] at this
    exact h.free j _ (List.getElem?_eq_getElem hj)
theorem Tc.lt {w : World} {T : Nat} {v : Value} {vs : List Value} (h : Tc w T (v :: vs)) : T < w.heap.size := World.block_lt_of_cell? w _ (h.cell 0 v rfl)
theorem Tc.new (w : World) (vs : List Value) (e : TypeId) : Tc (w.alloc (.cells vs.toArray e)) w.heap.size vs :=
  ⟨fun j v hv => by rw [World.cell?_alloc_at _ _ _ _ rfl]; simpa using hv, fun j v _ => World.frozen?_alloc_at _ _ _ _ rfl⟩
/-- What a twin's variable holds. -/
def tws (nm : ByteArray) (r0 r1 tc tl tt : Tv) : List Value := [.string nm, tvv (cutT r0), tvv (cutT r1), tvv tc, tvv r0, tvv r1, tvv tl, tvv tt]
/-- The variable, and its lists. -/
structure TwS (wb w : World) (T : Nat) (vs : List Value) (r0 r1 tl tt : Tv) (ts : List Tv) (b0 b1 : List Int) (ls : List Ln) (xl xk : List Value) : Prop where
  kp : Kp wb w
  tc : Tc w T vs
  two : TwO w (T + 1) r0 r1 tl tt ts b0 b1 ls xl xk
  le : wb.heap.size ≤ T
section
variable {wb w w' : World} {T : Nat} {vs : List Value} {r0 r1 tl tt : Tv} {ts : List Tv} {b0 b1 : List Int} {ls : List Ln} {xl xk : List Value}
theorem TwS.keep (h : TwS wb w T vs r0 r1 tl tt ts b0 b1 ls xl xk) (k : Kp w w') : TwS wb w' T vs r0 r1 tl tt ts b0 b1 ls xl xk := ⟨Kp.trans h.kp k, h.tc.kp k, h.two.kp k, h.le⟩
theorem TwS.set (h : TwS wb w T vs r0 r1 tl tt ts b0 b1 ls xl xk) (i : Nat) (hi : i < vs.length) (u : Value) : TwS wb (w.setCell ⟨T, i, none⟩ u) T (vs.set i u) r0 r1 tl tt ts b0 b1 ls xl xk := by
  have f := Fr.set w ⟨T, i, none⟩ u
  have hle := h.le
  exact ⟨((Fr.of_kp h.kp).step f (fun x hx => .inr (by simp only [List.mem_singleton] at hx; omega))).kp, h.tc.set i hi u, h.two.fr f (fun x hx => .inl (by simp only [List.mem_singleton] at hx; omega)), hle⟩
theorem TwS.more {l : Ln} {t : Tv} (h : TwS wb w T vs r0 r1 tl tt ts b0 b1 ls xl xk) (k : Kp w w') (ho : Own w' (T + 1) 3 1 t.ao t.n t.c ((roomL l.2).map iv)) (ht : ∀ y ∈ blkL t.ao, w.heap.size ≤ y) :
    TwS wb w' T vs r0 r1 tl tt (ts ++ [t]) b0 b1 (ls ++ [l]) xl xk := ⟨Kp.trans h.kp k, h.tc.kp k, h.two.more k ho rfl ht, h.le⟩
theorem TwS.appk {o : Obj} {m N : Nat} {zs : List Value} {ao' : Option Addr} {cap' : Nat} (h : TwS wb w T vs r0 r1 tl tt ts b0 b1 ls xl xk) (ha : Appd (w.alloc o) w' (T + 1) 22 1 tt.ao tt.c m N zs ao' cap') :
    TwS wb w' T vs r0 r1 tl ⟨ao', N, cap'⟩ ts b0 b1 ls xl zs := by
  have h' := h.keep (Kp.new w o)
  have hle := h.le
  have hb : ∀ x ∈ blkL tt.ao, T + 1 ≤ x := fun x hx => (h.two.row (i := 3) hx).1
  exact ⟨((Fr.of_kp h'.kp).step ha.fr (fun x hx => .inr (by have := hb x hx; omega))).kp, h'.tc.fr ha.fr (fun hx => by have := hb T hx; omega), h'.two.appk ha, hle⟩
theorem TwS.appl {o : Obj} {m N : Nat} {zs : List Value} {ao' : Option Addr} {cap' : Nat} (h : TwS wb w T vs r0 r1 tl tt ts b0 b1 ls xl xk) (ha : Appd (w.alloc o) w' (T + 1) 43 2 tl.ao tl.c m N zs ao' cap') :
    TwS wb w' T vs r0 r1 ⟨ao', N, cap'⟩ tt ts b0 b1 ls zs xk := by
  have h' := h.keep (Kp.new w o)
  have hle := h.le
  have hb : ∀ x ∈ blkL tl.ao, T + 1 ≤ x := fun x hx => (h.two.row (i := 2) hx).1
  exact ⟨((Fr.of_kp h'.kp).step ha.fr (fun x hx => .inr (by have := hb x hx; omega))).kp, h'.tc.fr ha.fr (fun hx => by have := hb T hx; omega), h'.two.appl ha, hle⟩
end
end Go.Proofs.YtjbjgpcldcpjmaaDoor
