/- A list copied to a new slice, with one thing more behind it ('append(append([]T{}, l...), x)'), in a region that draws its order: whatever the order, one way goes on. Conditions: the list lies there (Cs). -/
import Derived.Test.YtpemfmjplejdiaaDoorLentA
namespace Go.Proofs.YtpemfmjplejdiaaDoor
open Go.RowKit

theorem eval_put_same {a : Act} {d : Nat} {v : Value} (h : d < a.tmps.size) : (a.put (some d) v).eval (.tmp d) = v := by
  simp [Act.put, Act.eval, h]
theorem eval_put_tmp {a : Act} {d k : Nat} {v : Value} (h : k ≠ d) : (a.put (some d) v).eval (.tmp k) = a.eval (.tmp k) := Act.eval_put (fun d' e => by cases e; simpa using h)
theorem eval_put_x {a : Act} {d : Nat} {v : Value} {x : Operand} (h : x ≠ .tmp d) : (a.put (some d) v).eval x = a.eval x := Act.eval_put (fun d' e => by cases e; exact h)
theorem put_comm {a : Act} {d k : Nat} {u v : Value} (h : d ≠ k) : (a.put (some d) u).put (some k) v = (a.put (some k) v).put (some d) u := by
  simp only [Act.put]
  rw [Array.setIfInBounds_comm _ _ h]
theorem size_put {a : Act} {d : Nat} {v : Value} : (a.put (some d) v).tmps.size = a.tmps.size := by simp [Act.put]

section
variable {P : Program}
theorem wp_bs {w : World} {o : Oper} {a : Act} {Kc : Act → World → Prop} {Q : Exit → Act → World → Prop} {t : TypeId} {n : Nat} {ps : Array (Nat × Operand)} (hop : o.op = .buildSlice t n ps) {vs : Array (Nat × Value)} (hvs : ps.map (fun p => (p.1, a.eval p.2)) = vs) {w' : World} {v : Value}
    (hr : (Instr.buildSlice t n vs).run P w = .ok v w') (hK : Kc (a.put o.dst v) w') : o.wp P a w Kc Q := by
  subst hvs
  unfold Oper.wp
  simp [execOp, hop, Result.andThen] at hr ⊢
  rw [hr]
  exact hK

/-- The four operations: a makes the empty slice, p appends the list, b makes the slice of the one thing, s appends it. -/
structure Room4 (ops : Array Oper) (t : TypeId) (a p b s da db dp ds : Nat) (src x : Operand) : Prop where
  a : ∃ o, ops[a]? = some o ∧ o.op = .buildSlice t 0 #[] ∧ o.dst = some da ∧ o.guard = none
  p : ∃ o, ops[p]? = some o ∧ o.op = .call { callee := .builtin .append, args := #[.tmp da, src], argTypes := #[t, t] } ∧ o.dst = some dp ∧ o.guard = none
  b : ∃ o, ops[b]? = some o ∧ o.op = .buildSlice t 1 #[(0, x)] ∧ o.dst = some db ∧ o.guard = none
  s : ∃ o, ops[s]? = some o ∧ o.op = .call { callee := .builtin .append, args := #[.tmp dp, .tmp db], argTypes := #[t, t] } ∧ o.dst = some ds ∧ o.guard = none
def rdyIn (md : Region.Mode) (ops : Array Oper) (listed : Array Bool) (l : List Nat) : Bool := !(Region.ready md ops listed).isEmpty && (Region.ready md ops listed).all (fun j => l.contains j)
def roomB (md : Region.Mode) (ops : Array Oper) (L : Array Bool) (a p b s : Nat) : Bool :=
  rdyIn md ops L [a, b] && rdyIn md ops (L.setIfInBounds a true) [p, b] && rdyIn md ops (L.setIfInBounds b true) [a] && rdyIn md ops ((L.setIfInBounds a true).setIfInBounds b true) [p] &&
  rdyIn md ops ((L.setIfInBounds a true).setIfInBounds p true) [b] && rdyIn md ops (((L.setIfInBounds a true).setIfInBounds b true).setIfInBounds p true) [s] && (a != b && a != p && b != p)
theorem rdy_step {ops : Array Oper} {md : Region.Mode} {S : World → Prop} {Q : Exit → Act → World → Prop} {n : Nat} {L : Array Bool} {a : Act} {w : World} {l : List Nat} (hr : rdyIn md ops L l = true)
    (h : ∀ i ∈ l, wpOp P ops (Qn Q) i (fun a' w' => S w' ∧ wpAnyH P md ops (Qn Q) S n (L.setIfInBounds i true) a' w') a w) : wpAnyH P md ops (Qn Q) S (n + 1) L a w := by
  simp only [rdyIn, Bool.and_eq_true, Bool.not_eq_true', List.all_eq_true, List.contains_iff_mem] at hr
  refine ⟨fun h0 => by rw [h0] at hr; simp at hr, fun i hi => h i (hr.2 i hi)⟩

def dstB (sz da db dp ds : Nat) : Bool := decide (da < sz) && decide (db < sz) && decide (dp < sz) && decide (ds < sz) && (da != db && da != dp && da != ds && db != dp && db != ds && dp != ds)

/-- What is left behind. -/
def RoomOut (w w' : World) (B : Nat) (e : TypeId) (size : Nat) (m : Nat) (xs : List Value) (ao : Option Addr) (cap : Nat) : Prop := Kp w w' ∧ Own w' B e size ao (m + 1) cap xs

theorem anyH_room {ops : Array Oper} {md : Region.Mode} {S : World → Prop} {Q : Exit → Act → World → Prop} {n : Nat} {L : Array Bool} {A : Act} {wd : World} (t : TypeId) {e : TypeId} {z : Value} {size bytes : Nat} (E : El P t e z size bytes)
    (a p b s da db dp ds : Nat) (src x : Operand) (h4 : Room4 ops t a p b s da db dp ds src x) (hrd : roomB md ops L a p b s = true) (hdst : dstB A.tmps.size da db dp ds = true)
    (hsrcO : ∀ k, k = da ∨ k = db → src ≠ .tmp k) (hxO : ∀ k, k = da ∨ k = dp → x ≠ .tmp k)
    {so : Option Addr} {m c : Nat} (hsrc : A.eval src = .slice so m c) {vx : Value} (hx : A.eval x = vx)
    (hr0 : ∀ w, (Instr.buildSlice t 0 #[]).run P w = .ok (.slice (some ⟨w.heap.size, 0, none⟩) 0 0) (w.alloc (.cells #[] e)))
    (ys : List Value) (hr1 : ∀ w, (Instr.buildSlice t 1 #[(0, vx)]).run P w = .ok (.slice (some ⟨w.heap.size, 0, none⟩) 1 1) (w.alloc (.cells ys.toArray e))) (hys : ys.length = size) (hys1 : ∀ u ∈ ys, u.oneCell' = true)
    (xs : List Value) (hxl : xs.length = m * size) (hxc : Cs wd so xs) (hx1 : ∀ u ∈ xs, u.oneCell' = true) (hbytes : (m + 1) * bytes ≤ 140737488355328)
    (hS : ∀ w', Kp wd w' → S w') (hn : 4 ≤ n)
    (h : ∀ va vb vp ao cap w', RoomOut wd w' wd.heap.size e size m (xs ++ ys) ao cap → wpAnyH P md ops (Qn Q) S (n - 4) ((((L.setIfInBounds a true).setIfInBounds b true).setIfInBounds p true).setIfInBounds s true) ((((A.put (some da) va).put (some db) vb).put (some dp) vp).put (some ds) (.slice ao (m + 1) cap)) w') :
    wpAnyH P md ops (Qn Q) S n L A wd := by
  obtain ⟨k, rfl⟩ : ∃ k, n = k + 4 := ⟨n - 4, by omega⟩
  rw [Nat.add_sub_cancel] at h
  simp only [roomB, Bool.and_eq_true, bne_iff_ne] at hrd
  obtain ⟨⟨⟨⟨⟨⟨r0, ra⟩, rb⟩, rab⟩, rap⟩, rabp⟩, ⟨nab, nap⟩, nbp⟩ := hrd
  simp only [dstB, Bool.and_eq_true, decide_eq_true_eq, bne_iff_ne] at hdst
  obtain ⟨⟨⟨⟨za, zb⟩, zp⟩, zs⟩, ⟨⟨⟨⟨q1, q2⟩, q3⟩, q4⟩, q5⟩, q6⟩ := hdst
  obtain ⟨⟨oa, ia, pa, fa, ga⟩, ⟨op, ip, pp, fp, gp⟩, ⟨ob, ib, pb, fb, gb⟩, ⟨os, is, ps, fs, gs⟩⟩ := h4
  have hm : m * bytes ≤ 140737488355328 := Nat.le_trans (Nat.mul_le_mul_right _ (Nat.le_succ m)) hbytes
  -- the last one
  have H4 : ∀ va vb vp (bb : Nat) (cp : Nat) (ap : Option Addr) w3, vb = .slice (some ⟨bb, 0, none⟩) 1 1 → vp = .slice ap m cp → Kp wd w3 → Own w3 wd.heap.size e size ap m cp xs → Cs w3 (some ⟨bb, 0, none⟩) ys →
      wpAnyH P md ops (Qn Q) S (k + 1) (((L.setIfInBounds a true).setIfInBounds b true).setIfInBounds p true) (((A.put (some da) va).put (some db) vb).put (some dp) vp) w3 := by
    rintro va vb vp bb cp ap w3 rfl rfl hk hO hB
    refine rdy_step rabp (fun i hi => ?_)
    obtain rfl : i = s := by simpa using hi
    refine wpOp_plain is gs ?_
    refine wp_app (.tmp dp) (.tmp db) t ps e z size bytes E wd.heap.size ap m cp xs (eval_put_same (by simpa [size_put] using zp)) hO (some ⟨bb, 0, none⟩) 1 1 ys ((eval_put_tmp q4).trans (eval_put_same (by simpa [size_put] using zb))) (by rw [hys, Nat.one_mul]) hB hys1 (m + 1) rfl (xs ++ ys) rfl hbytes hk.size ?_
    intro ao cap w4 ha
    have hk4 : Kp wd w4 := ((Fr.of_kp hk).step ha.fr (fun i hi => .inr (hO.lt i (mem_blkL.1 hi)).1)).kp
    rw [fs]
    exact ⟨hS _ hk4, h _ _ _ _ _ _ ⟨hk4, ha.own⟩⟩
  -- the list appended
  have HP : ∀ va (A' : Act) w (K : Act → World → Prop), A'.eval (.tmp da) = va → A'.eval src = .slice so m c → (∃ ba : Nat, va = .slice (some ⟨ba, 0, none⟩) 0 0 ∧ wd.heap.size ≤ ba ∧ Own w wd.heap.size e size (some ⟨ba, 0, none⟩) 0 0 []) → Kp wd w →
      (∀ ap cp w', Own w' wd.heap.size e size ap m cp xs → Kp wd w' → (∀ bb, wd.heap.size ≤ bb → va ≠ .slice (some ⟨bb, 0, none⟩) 0 0 → Cs w (some ⟨bb, 0, none⟩) ys → Cs w' (some ⟨bb, 0, none⟩) ys) → K (A'.put (some dp) (.slice ap m cp)) w') → wpOp P ops (Qn Q) p K A' w := by
    rintro va A' w K e1 e2 ⟨ba, rfl, hba, hO⟩ hk hK
    refine wpOp_plain ip gp ?_
    refine wp_app (.tmp da) src t pp e z size bytes E wd.heap.size (some ⟨ba, 0, none⟩) 0 0 [] e1 hO so m c xs e2 hxl (hk.cs hxc) hx1 m (by omega) xs rfl hm hk.size ?_
    intro ap cp w' ha
    rw [fp]
    refine hK _ _ _ ha.own ((Fr.of_kp hk).step ha.fr (fun i hi => .inr (by rw [mem_blkL_some] at hi; omega))).kp (fun bb _ hne hB => ha.fr.cs hB (fun i hi hj => hne ?_))
    rw [mem_blkL_some] at hi hj
    rw [← hi, hj]
  have wa : ∀ (A' : Act) w (K : Act → World → Prop), Kp wd w → (∀ w' ba, w'.heap.size = ba + 1 → w.heap.size = ba → Kp w w' → Own w' wd.heap.size e size (some ⟨ba, 0, none⟩) 0 0 [] → K (A'.put (some da) (.slice (some ⟨ba, 0, none⟩) 0 0)) w') → wpOp P ops (Qn Q) a K A' w := by
    intro A' w K hk hK
    refine wpOp_plain ia ga (wp_bs pa (vs := #[]) (by simp) (hr0 w) ?_)
    rw [fa]
    exact hK _ _ (by simp) rfl (Kp.new _ _) (Own.empty w _ e size hk.size)
  have wb : ∀ (A' : Act) w (K : Act → World → Prop), A'.eval x = vx → (∀ w' bb, w'.heap.size = bb + 1 → w.heap.size = bb → Kp w w' → Cs w' (some ⟨bb, 0, none⟩) ys → K (A'.put (some db) (.slice (some ⟨bb, 0, none⟩) 1 1)) w') → wpOp P ops (Qn Q) b K A' w := by
    intro A' w K hx' hK
    refine wpOp_plain ib gb (wp_bs pb (vs := #[(0, vx)]) (by simp [hx']) (hr1 w) ?_)
    rw [fb]
    exact hK _ _ (by simp) rfl (Kp.new _ _) (Cs.new w ys e (0, 0))
  refine rdy_step r0 (fun i hi => ?_)
  simp only [List.mem_cons, List.not_mem_nil, or_false] at hi
  rcases hi with rfl | rfl
  · -- a first
    refine wa _ _ _ (Kp.refl _) (fun w1 ba s1 s0 k1 hO => ⟨hS _ k1, ?_⟩)
    refine rdy_step ra (fun j hj => ?_)
    simp only [List.mem_cons, List.not_mem_nil, or_false] at hj
    rcases hj with rfl | rfl
    · -- then p
      refine HP _ _ _ _ (eval_put_same za) ((eval_put_x (hsrcO da (.inl rfl))).trans hsrc) ⟨ba, rfl, by omega, hO⟩ k1 (fun ap cp w2 hO2 k2 _ => ⟨hS _ k2, ?_⟩)
      refine rdy_step rap (fun l hl => ?_)
      obtain rfl : l = b := by simpa using hl
      refine wb _ _ _ ((eval_put_x (hxO dp (.inr rfl))).trans ((eval_put_x (hxO da (.inl rfl))).trans hx)) (fun w3 bb s3 s2 k3 hB => ⟨hS _ (Kp.trans k2 k3), ?_⟩)
      rw [put_comm (Ne.symm q4), Array.setIfInBounds_comm _ _ (Ne.symm nbp)]
      exact H4 _ _ _ _ _ _ _ rfl rfl (Kp.trans k2 k3) (hO2.keep k3) hB
    · -- then b
      refine wb _ _ _ ((eval_put_x (hxO da (.inl rfl))).trans hx) (fun w2 bb s2 s1' k2 hB => ⟨hS _ (Kp.trans k1 k2), ?_⟩)
      refine rdy_step rab (fun l hl => ?_)
      obtain rfl : l = p := by simpa using hl
      refine HP _ _ _ _ ((eval_put_tmp q1).trans (eval_put_same za)) ((eval_put_x (hsrcO db (.inr rfl))).trans ((eval_put_x (hsrcO da (.inl rfl))).trans hsrc)) ⟨ba, rfl, by omega, hO.keep k2⟩ (Kp.trans k1 k2) (fun ap cp w3 hO3 k3 hB3 => ⟨hS _ k3, ?_⟩)
      exact H4 _ _ _ _ _ _ _ rfl rfl k3 hO3 (hB3 bb (by have := k1.size; omega) (fun hh => by simp only [Value.slice.injEq, Option.some.injEq, Addr.mk.injEq, and_true] at hh; omega) hB)
  · -- b first
    refine wb _ _ _ hx (fun w1 bb s1 s0 k1 hB => ⟨hS _ k1, ?_⟩)
    refine rdy_step rb (fun j hj => ?_)
    obtain rfl : j = a := by simpa using hj
    refine wa _ _ _ k1 (fun w2 ba s2 s1' k2 hO => ⟨hS _ (Kp.trans k1 k2), ?_⟩)
    rw [Array.setIfInBounds_comm _ _ (Ne.symm nab), put_comm (Ne.symm q1)]
    refine rdy_step rab (fun l hl => ?_)
    obtain rfl : l = p := by simpa using hl
    refine HP _ _ _ _ ((eval_put_tmp q1).trans (eval_put_same za)) ((eval_put_x (hsrcO db (.inr rfl))).trans ((eval_put_x (hsrcO da (.inl rfl))).trans hsrc)) ⟨ba, rfl, by have := k1.size; omega, hO⟩ (Kp.trans k1 k2) (fun ap cp w3 hO3 k3 hB3 => ⟨hS _ k3, ?_⟩)
    exact H4 _ _ _ _ _ _ _ rfl rfl k3 hO3 (hB3 bb (by omega) (fun hh => by simp only [Value.slice.injEq, Option.some.injEq, Addr.mk.injEq, and_true] at hh; omega) (k2.cs hB))
end

/-- What is to be shown behind an operation: the condition, and that the rest goes on. -/
def NextH (P : Program) (md : Region.Mode) (ops : Array Oper) (Q : Exit → Act → World → Prop) (S : World → Prop) (n : Nat) (L : Array Bool) (a : Act) (w : World) : Prop := S w ∧ wpAnyH P md ops (Qn Q) S n L a w
theorem anyN_one {P : Program} {ops : Array Oper} {md : Region.Mode} {S : World → Prop} {w : World} {Q : Exit → Act → World → Prop} {a : Act} {listed : Array Bool} {n : Nat} (i : Nat) (hr : (decide (Region.ready md ops listed = [i]) && decide (i < ops.size) && decide (0 < n)) = true)
    (h : wpList P ops (fun e a2 w2 => match e with | .normal => NextH P md ops Q S (n - 1) (listed.setIfInBounds i true) a2 w2 | _ => False) (opsAt ops [i]) a w) : wpAnyH P md ops (Qn Q) S n listed a w := anyH_one i hr h
theorem anyN_two {P : Program} {ops : Array Oper} {md : Region.Mode} {S : World → Prop} {w : World} {Q : Exit → Act → World → Prop} {a : Act} {listed : Array Bool} {n : Nat} (i j : Nat) (hr : (decide (Region.ready md ops listed = [i, j]) && decide (i < ops.size) && decide (j < ops.size) && decide (0 < n)) = true)
    (h1 : wpList P ops (fun e a2 w2 => match e with | .normal => NextH P md ops Q S (n - 1) (listed.setIfInBounds i true) a2 w2 | _ => False) (opsAt ops [i]) a w)
    (h2 : wpList P ops (fun e a2 w2 => match e with | .normal => NextH P md ops Q S (n - 1) (listed.setIfInBounds j true) a2 w2 | _ => False) (opsAt ops [j]) a w) : wpAnyH P md ops (Qn Q) S n listed a w := anyH_two i j hr h1 h2

/-- A load beside the making of a slice: whichever comes first. -/
theorem anyH_load_bs {P : Program} {ops : Array Oper} {md : Region.Mode} {S : World → Prop} {Q : Exit → Act → World → Prop} {n : Nat} {L : Array Bool} {A : Act} {w w2 : World} (i j di dj : Nat) (v u : Value) {oi oj : Oper} {x : Operand} {tj : TypeId} {m : Nat} {ps : Array (Nat × Operand)} {vs : Array (Nat × Value)}
    (hrd : (rdyIn md ops L [i, j] && rdyIn md ops (L.setIfInBounds i true) [j] && rdyIn md ops (L.setIfInBounds j true) [i] && (i != j)) = true)
    (hi : ops[i]? = some oi) (fi : oi.dst = some di) (gi : oi.guard = none) (hj : ops[j]? = some oj) (pj : oj.op = .buildSlice tj m ps) (fj : oj.dst = some dj) (gj : oj.guard = none)
    (hd : di ≠ dj) (hx : x ≠ .tmp dj) (hps : ∀ p ∈ ps, p.2 ≠ .tmp di) (hvs : ps.map (fun p => (p.1, A.eval p.2)) = vs) (hr : (Instr.buildSlice tj m vs).run P w = .ok u w2)
    (hv : ∀ (w' : World), Kp w w' → ∀ ρ : Operand → Value, ρ x = A.eval x → (execOp ρ oi).run P w' = .ok (.value v) w') (hk : Kp w w2) (hS : S w) (hS2 : S w2) (hn : 2 ≤ n)
    (h : wpAnyH P md ops (Qn Q) S (n - 2) ((L.setIfInBounds i true).setIfInBounds j true) ((A.put (some di) v).put (some dj) u) w2) : wpAnyH P md ops (Qn Q) S n L A w := by
  obtain ⟨k, rfl⟩ : ∃ k, n = k + 2 := ⟨n - 2, by omega⟩
  rw [Nat.add_sub_cancel] at h
  simp only [Bool.and_eq_true, bne_iff_ne] at hrd
  obtain ⟨⟨⟨r0, r1⟩, r2⟩, nij⟩ := hrd
  refine rdy_step r0 (fun l hl => ?_)
  simp only [List.mem_cons, List.not_mem_nil, or_false] at hl
  have wpi : ∀ (K : Act → World → Prop) (A' : Act) (w' : World), Kp w w' → A'.eval x = A.eval x → K (A'.put (some di) v) w' → wpOp P ops (Qn Q) i K A' w' := fun K A' w' hk' e hK => by
    refine wpOp_plain hi gi ?_
    unfold Oper.wp
    rw [hv w' hk' A'.eval e]
    rw [← fi] at hK
    exact hK
  have wpj : ∀ (K : Act → World → Prop) (A' : Act), ps.map (fun p => (p.1, A'.eval p.2)) = vs → K (A'.put (some dj) u) w2 → wpOp P ops (Qn Q) j K A' w := fun K A' e hK => by
    refine wpOp_plain hj gj (wp_bs pj e hr ?_)
    rw [fj]; exact hK
  rcases hl with rfl | rfl
  · refine wpi _ _ _ (Kp.refl _) rfl ⟨hS, ?_⟩
    refine rdy_step r1 (fun l2 hl2 => ?_)
    obtain rfl : l2 = j := by simpa using hl2
    refine wpj _ _ ?_ ⟨hS2, h⟩
    rw [← hvs]
    refine Array.map_congr_left (fun p hp => ?_)
    rw [eval_put_x (hps p hp)]
  · refine wpj _ _ hvs ⟨hS2, ?_⟩
    refine rdy_step r2 (fun l2 hl2 => ?_)
    obtain rfl : l2 = i := by simpa using hl2
    refine wpi _ _ _ hk (eval_put_x hx) ⟨hS2, ?_⟩
    rw [put_comm (Ne.symm hd), Array.setIfInBounds_comm _ _ (Ne.symm nij)]
    exact h

theorem run_line24 (f : Int) (a : Option Addr) (n c : Nat) (w : World) : (Instr.buildSlice 24 1 #[(0, .agg #[iv f, .slice a n c])]).run Tryd.prog w = .ok (.slice (some ⟨w.heap.size, 0, none⟩) 1 1) (w.alloc (.cells #[iv f, .slice a n c] 53)) := by
  obtain ⟨i, hi, h⟩ := Option.map_eq_some_iff.1 (show (Tryd.prog.info? 53).map (fun i => (i.zero, i.size)) = some (some (.agg #[iv 0, .slice none 0 0]), 2) by kernel_rfl)
  simp only [Prod.mk.injEq] at h
  obtain ⟨h1, h2⟩ := h
  exact run_buildSlice w 24 53 1 _ _ i _ Tryd.underlying24 hi h1 (by rw [h2]; decide) (by rw [h2]; decide) (by rw [h2, show Array.range (1 * 2) = #[0, 1] by decide]; simp [Instr.fill, Value.cells])
theorem run_empty22 (w : World) : (Instr.buildSlice 22 0 #[]).run Tryd.prog w = .ok (.slice (some ⟨w.heap.size, 0, none⟩) 0 0) (w.alloc (.cells #[] 3)) := by
  obtain ⟨i, hi, h⟩ := Option.map_eq_some_iff.1 (show (Tryd.prog.info? 3).map (fun i => (i.zero, i.size)) = some (some (.int .i64 0), 1) by kernel_rfl)
  simp only [Prod.mk.injEq] at h
  obtain ⟨h1, h2⟩ := h
  simp [Instr.buildSlice, run_underlying Tryd.underlying22, sizeOf, typeInfo, hi, newRow, Instr.fill]
  rw [show Array.range 0 = (#[] : Array Nat) by decide, Array.map_empty]
theorem run_one22 (v : Int) (w : World) : (Instr.buildSlice 22 1 #[(0, iv v)]).run Tryd.prog w = .ok (.slice (some ⟨w.heap.size, 0, none⟩) 1 1) (w.alloc (.cells #[iv v] 3)) := by
  obtain ⟨i, hi, h⟩ := Option.map_eq_some_iff.1 (show (Tryd.prog.info? 3).map (fun i => (i.zero, i.size)) = some (some (iv 0), 1) by kernel_rfl)
  simp only [Prod.mk.injEq] at h
  obtain ⟨h1, h2⟩ := h
  exact run_buildSlice w 22 3 1 _ _ i _ Tryd.underlying22 hi h1 (by rw [h2]; decide) (by rw [h2]; decide) (by rw [h2, show Array.range (1 * 1) = #[0] by decide]; simp [Instr.fill, Value.cells])
end Go.Proofs.YtpemfmjplejdiaaDoor
