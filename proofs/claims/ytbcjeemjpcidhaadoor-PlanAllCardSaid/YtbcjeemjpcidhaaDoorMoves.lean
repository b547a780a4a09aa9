/- The map of moves that 'moves' makes. No condition. -/
import Derived.Test.YtbcjeemjpcidhaaDoorPa1
import Derived.Test.YtbcjeemjpcidhaaDoorPa3
import Derived.Test.YtbcjeemjpcidhaaDoorPa2
import Derived.Great.BuildSlice
import Derived.Carry
namespace Go.Proofs.YtbcjeemjpcidhaaDoor
open Go.RowKit

set_option maxHeartbeats 1000000 in
theorem share_any (w : World) (cb : Nat) (ini : Bool) (hc : w.cell? ⟨cb, 0, none⟩ = some (.bool ini)) (t a b : Int) (ha : 0 ≤ a ∧ a ≤ 10) (hb : 0 ≤ b ∧ b ≤ 10) :
    Calls Tryd.prog 33 #[iv t, iv a, iv b, .pointer (some ⟨cb, 0, none⟩)] w fun e w' => e = .returned (.agg #[iv 11, iv (if ini then a else b), iv ((if ini then b else a) + 2)]) ∧ Kp w w' := by
  have hc' : ∀ o, (w.alloc o).cell? ⟨cb, 0, none⟩ = some (.bool ini) := fun o => Kp.cell (Kp.new w o) hc
  clear hc
  obtain ⟨ha1, ha2⟩ := ha
  obtain ⟨hb1, hb2⟩ := hb
  cases ini with
  | true =>
    go_enter Tryd.func33, Tryd.ntmps33
    go_wp2_with fail
    refine bodyPost_ret (v := .agg #[iv 11, iv a, iv (b + 2)]) (by simp [results, Tryd.results33, go_sem]) rfl ⟨rfl, ?_⟩
    first | exact Kp.new _ _ | exact (((Kp.new _ _).setCell (Nat.le_refl _) _).setCell (Nat.le_refl _) _).setCell (Nat.le_refl _) _
  | false =>
    go_enter Tryd.func33, Tryd.ntmps33
    go_wp2_with fail
    refine bodyPost_ret (v := .agg #[iv 11, iv b, iv (a + 2)]) (by simp [results, Tryd.results33, go_sem]) rfl ⟨rfl, ?_⟩
    first | exact Kp.new _ _ | exact (((Kp.new _ _).setCell (Nat.le_refl _) _).setCell (Nat.le_refl _) _).setCell (Nat.le_refl _) _

theorem MapIn.congr {w : World} {r B : Nat} {ini : Bool} {K K' : List TK} (h : MapIn w r B ini K) (hK : ∀ k, k ∈ K ↔ k ∈ K') : MapIn w r B ini K' := by
  obtain ⟨arr, clock, h1, h2, h3⟩ := h
  refine ⟨arr, clock, h1, fun e he => ?_, fun k hk => h3.1 k ((hK k).2 hk), h3.2⟩
  obtain ⟨k, hk, r⟩ := h2 e he
  exact ⟨k, (hK k).1 hk, r⟩
theorem MapIn.heap {w : World} {r B : Nat} {ini : Bool} {K : List TK} (h : MapIn w r B ini K) : ∃ arr clock, w.heap[r]? = some (.map arr clock) := by
  obtain ⟨arr, clock, h1, _⟩ := h; exact ⟨arr, clock, h1⟩

theorem wp_put {w : World} {o : Oper} {a : Act} {Kc : Act → World → Prop} {Q : Exit → Act → World → Prop} (m x v : Operand) (hop : o.op = .mapUpdate 57 m x v ∨ o.op = .insert 57 m x v) {r B : Nat} {ini : Bool} {K : List TK} (hm : a.eval m = .map (some r)) (h : MapIn w r B ini K) (k : TK) (hk : k ∉ K)
    (hx : a.eval x = keyV k) {ao : Option Addr} {n cap : Nat} (hv : a.eval v = .slice ao n cap) (hms : MvsB B w ao n (movesL ini k.1 k.2)) (hK : ∀ w', MapIn w' r B ini (k :: K) → Fr [r] w w' → Kc (a.put o.dst undef) w') : o.wp Tryd.prog a w Kc Q := by
  obtain ⟨w', hrun, r1, r2⟩ := h.put (cap := cap) k hk hms
  unfold Oper.wp
  rcases hop with hop | hop
  · simp only [execOp, hop, hm, hx, hv, Sem.run_bind, hrun, Result.andThen_ok, Sem.run_pure]
    exact hK w' r1 r2
  · simp only [execOp, hop, hm, hx, hv, Sem.run_bind, hrun, Result.andThen_ok, Sem.run_pure]
    exact hK w' r1 r2
theorem wpList_put {w : World} {ops : Array Oper} {rest : List Oper} {o : Oper} {a : Act} {Q : Exit → Act → World → Prop} (hg : o.guard = none) (m x v : Operand) (hop : o.op = .mapUpdate 57 m x v) {r B : Nat} {ini : Bool} {K : List TK} (hm : a.eval m = .map (some r)) (h : MapIn w r B ini K) (k : TK) (hk : k ∉ K)
    (hx : a.eval x = keyV k) {ao : Option Addr} {n cap : Nat} (hv : a.eval v = .slice ao n cap) (hms : MvsB B w ao n (movesL ini k.1 k.2)) (hK : ∀ w', MapIn w' r B ini (k :: K) → Fr [r] w w' → wpList Tryd.prog ops Q rest (a.put o.dst undef) w') : wpList Tryd.prog ops Q (o :: rest) a w :=
  wpList_plain hg fun _ hK' => wp_put m x v (.inl hop) hm h k hk hx hv hms fun w' h1 h2 => hK' _ _ (hK w' h1 h2)

theorem run_build1 (w : World) (a b c : Int) : (Instr.buildSlice 30 1 #[(0, .agg #[iv a, iv b, iv c])]).run Tryd.prog w = .ok (.slice (some ⟨w.heap.size, 0, none⟩) 1 1) (w.alloc (.cells #[iv a, iv b, iv c] 56)) := by
  obtain ⟨i, hi, h⟩ := Option.map_eq_some_iff.1 (show (Tryd.prog.info? 56).map (fun i => (i.zero, i.size)) = some (some (.agg #[iv 0, iv 0, iv 0]), 3) by kernel_rfl)
  simp only [Prod.mk.injEq] at h
  obtain ⟨h1, h2⟩ := h
  exact run_buildSlice w 30 56 1 _ _ i _ Tryd.underlying30 hi h1 (by rw [h2]; decide) (by rw [h2]; decide) (by rw [h2, show Array.range (1 * 3) = #[0, 1, 2] by decide]; simp [Instr.fill, Value.cells])
theorem run_build2 (w : World) (a b c a' b' c' : Int) : (Instr.buildSlice 30 2 #[(0, .agg #[iv a, iv b, iv c]), (1, .agg #[iv a', iv b', iv c'])]).run Tryd.prog w = .ok (.slice (some ⟨w.heap.size, 0, none⟩) 2 2) (w.alloc (.cells #[iv a, iv b, iv c, iv a', iv b', iv c'] 56)) := by
  obtain ⟨i, hi, h⟩ := Option.map_eq_some_iff.1 (show (Tryd.prog.info? 56).map (fun i => (i.zero, i.size)) = some (some (.agg #[iv 0, iv 0, iv 0]), 3) by kernel_rfl)
  simp only [Prod.mk.injEq] at h
  obtain ⟨h1, h2⟩ := h
  exact run_buildSlice w 30 56 2 _ _ i _ Tryd.underlying30 hi h1 (by rw [h2]; decide) (by rw [h2]; decide) (by rw [h2, show Array.range (2 * 3) = #[0, 1, 2, 3, 4, 5] by decide]; simp [Instr.fill, Value.cells])
theorem wp_build1 {w : World} {o : Oper} {a : Act} {Kc : Act → World → Prop} {Q : Exit → Act → World → Prop} (x : Operand) (hop : o.op = .buildSlice 30 1 #[(0, x)]) (m : Mv) (hx : a.eval x = .agg #[iv m.op, iv m.key, iv m.wth])
    (hK : Mvs (w.alloc (.cells #[iv m.op, iv m.key, iv m.wth] 56)) (some ⟨w.heap.size, 0, none⟩) 1 [m] → Kc (a.put o.dst (.slice (some ⟨w.heap.size, 0, none⟩) 1 1)) (w.alloc (.cells #[iv m.op, iv m.key, iv m.wth] 56))) : o.wp Tryd.prog a w Kc Q := by
  unfold Oper.wp
  have hr := run_build1 w m.op m.key m.wth
  simp [execOp, hop, hx, hr, Result.andThen]
  exact hK ⟨rfl, by unfold maxLen; omega, Cs.new w [iv m.op, iv m.key, iv m.wth] 56 (0, 0)⟩
theorem wp_build2 {w : World} {o : Oper} {a : Act} {Kc : Act → World → Prop} {Q : Exit → Act → World → Prop} (x y : Operand) (hop : o.op = .buildSlice 30 2 #[(0, x), (1, y)]) (m m' : Mv) (hx : a.eval x = .agg #[iv m.op, iv m.key, iv m.wth]) (hy : a.eval y = .agg #[iv m'.op, iv m'.key, iv m'.wth])
    (hK : Mvs (w.alloc (.cells #[iv m.op, iv m.key, iv m.wth, iv m'.op, iv m'.key, iv m'.wth] 56)) (some ⟨w.heap.size, 0, none⟩) 2 [m, m'] → Kc (a.put o.dst (.slice (some ⟨w.heap.size, 0, none⟩) 2 2)) (w.alloc (.cells #[iv m.op, iv m.key, iv m.wth, iv m'.op, iv m'.key, iv m'.wth] 56))) : o.wp Tryd.prog a w Kc Q := by
  unfold Oper.wp
  have hr := run_build2 w m.op m.key m.wth m'.op m'.key m'.wth
  simp [execOp, hop, hx, hy, hr, Result.andThen]
  exact hK ⟨rfl, by unfold maxLen; omega, Cs.new w [iv m.op, iv m.key, iv m.wth, iv m'.op, iv m'.key, iv m'.wth] 56 (0, 0)⟩
theorem wp_makeMap {w : World} {o : Oper} {a : Act} {Kc : Act → World → Prop} {Q : Exit → Act → World → Prop} (hop : o.op = .makeMap 57 none) (hK : Kc (a.put o.dst (.map (some w.heap.size))) (w.alloc (.map #[] 0))) : o.wp Tryd.prog a w Kc Q := by
  unfold Oper.wp
  simp [execOp, hop, Result.andThen]
  exact hK
theorem wp_moveOp {w : World} {o : Oper} {a : Act} {Kc : Act → World → Prop} {Q : Exit → Act → World → Prop} (x : Operand) (hop : o.op = .move x ∨ o.op = .assign x) (v : Value) (hv : a.eval x = v) (hK : Kc (a.put o.dst v) w) : o.wp Tryd.prog a w Kc Q := by
  unfold Oper.wp
  rcases hop with hop | hop
  · simp [execOp, hop, hv]; exact hK
  · simp [execOp, hop, hv]; exact hK
theorem wpOp_plain {P : Program} {ops : Array Oper} {Q : Exit → Act → World → Prop} {i : Nat} {Kc : Act → World → Prop} {a : Act} {w : World} {o : Oper} (ho : ops[i]? = some o) (hg : o.guard = none) (h : o.wp P a w Kc Q) : wpOp P ops Q i Kc a w := by
  unfold wpOp
  rw [ho]
  have : Region.wanted o (yielded ops a.tmps) = true := by simp [Region.wanted, hg]
  simp only [this, if_true]
  exact .inl h

/-- The frame while the first entries are laid. -/
def fr2 (ini : Bool) (b0 : Nat) (v8 v12 v16 v19 v22 v23 v4 : Value) : Array Value := #[.bool ini, .pointer (some ⟨b0, 0, none⟩), .map none, .func (.func 33) #[] #[.pointer (some ⟨b0, 0, none⟩)], v4, undef, undef, .func (.func 33) #[] #[.pointer (some ⟨b0, 0, none⟩)], v8, .agg #[iv 1, .bool true], .agg #[iv 7, iv 1, iv 0], .agg #[iv 3, iv 1, iv 0], v12, .agg #[iv 1, .bool false], .agg #[iv 8, iv 3, iv 0], .agg #[iv 3, iv 3, iv 0], v16, .agg #[iv 2, .bool true], .agg #[iv 9, iv 2, iv 0], v19, .agg #[iv 2, .bool false], .agg #[iv 10, iv 4, iv 0], v22, v23, undef, undef, undef, undef, undef, undef, undef, undef, undef, undef, undef, undef, undef, undef, undef, undef, undef, undef, undef, undef, undef, undef, undef, undef, undef, undef, undef, undef, undef, undef, undef, undef, undef, undef, undef, undef, undef]
def sl (l : Array Bool) (i : Nat) (v : Value) : Value := if l.getD i true then v else undef
def KL (l : Array Bool) : List TK := (if l.getD 5 true then [(1, true)] else []) ++ ((if l.getD 10 true then [(1, false)] else []) ++ ((if l.getD 14 true then [(2, true)] else []) ++ (if l.getD 18 true then [(2, false)] else [])))

def Inv2 (w0 : World) (ini : Bool) (b0 : Nat) (l : Array Bool) (a : Act) (w : World) : Prop := ∃ m b4 b9 b13 b17 : Nat, l.size = 21 ∧
  a = ⟨fr2 ini b0 (sl l 0 (.map (some m))) (sl l 4 (.slice (some ⟨b4, 0, none⟩) 2 2)) (sl l 9 (.slice (some ⟨b9, 0, none⟩) 2 2)) (sl l 13 (.slice (some ⟨b13, 0, none⟩) 1 1)) (sl l 17 (.slice (some ⟨b17, 0, none⟩) 1 1)) (sl l 19 (.map (some m))) (sl l 20 (.map (some m))), []⟩ ∧
  Kp w0 w ∧ (l.getD 0 true = true → w0.heap.size ≤ m ∧ MapIn w m w0.heap.size ini (KL l)) ∧
  (l.getD 4 true = true → MvsB w0.heap.size w (some ⟨b4, 0, none⟩) 2 (movesL ini 1 true)) ∧ (l.getD 9 true = true → MvsB w0.heap.size w (some ⟨b9, 0, none⟩) 2 (movesL ini 1 false)) ∧
  (l.getD 13 true = true → MvsB w0.heap.size w (some ⟨b13, 0, none⟩) 1 (movesL ini 2 true)) ∧ (l.getD 17 true = true → MvsB w0.heap.size w (some ⟨b17, 0, none⟩) 1 (movesL ini 2 false)) ∧
  (l.getD 0 true = false → KL l = [] ∧ l.getD 19 true = false ∧ l.getD 20 true = false) ∧ (∀ i, i ∈ [1, 2, 3, 6, 7, 8, 11, 12, 15, 16] → l.getD i true = true)

theorem set_getD (l : Array Bool) (i j : Nat) (hi : i < l.size) : (l.setIfInBounds i true).getD j true = if j = i then true else l.getD j true := by
  by_cases h : j = i
  · subst h; simp [Array.getD, hi]
  · rw [if_neg h]
    simp [Ne.symm h]
theorem sl_set (l : Array Bool) (i j : Nat) (hi : i < l.size) (v : Value) : sl (l.setIfInBounds i true) j v = if j = i then v else sl l j v := by
  unfold sl
  rw [set_getD l i j hi]
  by_cases h : j = i
  · rw [if_pos h, if_pos h]; rfl
  · rw [if_neg h, if_neg h]
theorem sl_yes {l : Array Bool} {i : Nat} (h : l.getD i true = true) (v : Value) : sl l i v = v := by unfold sl; rw [h]; rfl
theorem sl_no {l : Array Bool} {i : Nat} (h : l.getD i true = false) (v : Value) : sl l i v = undef := by unfold sl; rw [h]; rfl
theorem getD_ft {l : Array Bool} {i : Nat} (h : l.getD i false = true) : l.getD i true = true := by
  simp only [Array.getD] at h ⊢
  split at h
  · rename_i hi; rw [dif_pos hi]; exact h
  · cases h
theorem KL_set (l : Array Bool) (i : Nat) (hs : i < l.size) (hi : (i == 5 || i == 10 || i == 14 || i == 18) = false) : KL (l.setIfInBounds i true) = KL l := by
  unfold KL
  simp only [Bool.or_eq_false_iff, beq_eq_false_iff_ne] at hi
  rw [set_getD l i 5 hs, set_getD l i 10 hs, set_getD l i 14 hs, set_getD l i 18 hs, if_neg (show ¬ 5 = i by omega), if_neg (show ¬ 10 = i by omega), if_neg (show ¬ 14 = i by omega), if_neg (show ¬ 18 = i by omega)]
theorem KL_not5 (l : Array Bool) (h : l.getD 5 true = false) : (1, true) ∉ KL l := by
  unfold KL
  rw [h]
  generalize l.getD 10 true = a
  generalize l.getD 14 true = b
  generalize l.getD 18 true = c
  cases a <;> cases b <;> cases c <;> decide
theorem KL_put5 (l : Array Bool) (h : l.getD 5 true = false) (hs : 5 < l.size) (k : TK) : k ∈ (1, true) :: KL l ↔ k ∈ KL (l.setIfInBounds 5 true) := by
  unfold KL
  rw [set_getD l 5 5 hs, set_getD l 5 10 hs, set_getD l 5 14 hs, set_getD l 5 18 hs, h]
  generalize l.getD 10 true = a
  generalize l.getD 14 true = b
  generalize l.getD 18 true = c
  cases a <;> cases b <;> cases c <;> simp <;> (first | done | (constructor <;> rintro (h | h | h | h) <;> simp_all) | (constructor <;> rintro (h | h | h) <;> simp_all) | (constructor <;> rintro (h | h) <;> simp_all))

theorem KL_not10 (l : Array Bool) (h : l.getD 10 true = false) : (1, false) ∉ KL l := by
  unfold KL
  rw [h]
  generalize l.getD 5 true = a
  generalize l.getD 14 true = b
  generalize l.getD 18 true = c
  cases a <;> cases b <;> cases c <;> decide
theorem KL_put10 (l : Array Bool) (h : l.getD 10 true = false) (hs : 10 < l.size) (k : TK) : k ∈ (1, false) :: KL l ↔ k ∈ KL (l.setIfInBounds 10 true) := by
  unfold KL
  rw [set_getD l 10 5 hs, set_getD l 10 10 hs, set_getD l 10 14 hs, set_getD l 10 18 hs, h]
  generalize l.getD 5 true = a
  generalize l.getD 14 true = b
  generalize l.getD 18 true = c
  cases a <;> cases b <;> cases c <;> simp <;> (first | done | (constructor <;> rintro (h | h | h | h) <;> simp_all) | (constructor <;> rintro (h | h | h) <;> simp_all) | (constructor <;> rintro (h | h) <;> simp_all))

theorem KL_not14 (l : Array Bool) (h : l.getD 14 true = false) : (2, true) ∉ KL l := by
  unfold KL
  rw [h]
  generalize l.getD 5 true = a
  generalize l.getD 10 true = b
  generalize l.getD 18 true = c
  cases a <;> cases b <;> cases c <;> decide
theorem KL_put14 (l : Array Bool) (h : l.getD 14 true = false) (hs : 14 < l.size) (k : TK) : k ∈ (2, true) :: KL l ↔ k ∈ KL (l.setIfInBounds 14 true) := by
  unfold KL
  rw [set_getD l 14 5 hs, set_getD l 14 10 hs, set_getD l 14 14 hs, set_getD l 14 18 hs, h]
  generalize l.getD 5 true = a
  generalize l.getD 10 true = b
  generalize l.getD 18 true = c
  cases a <;> cases b <;> cases c <;> simp <;> (first | done | (constructor <;> rintro (h | h | h | h) <;> simp_all) | (constructor <;> rintro (h | h | h) <;> simp_all) | (constructor <;> rintro (h | h) <;> simp_all))

theorem KL_not18 (l : Array Bool) (h : l.getD 18 true = false) : (2, false) ∉ KL l := by
  unfold KL
  rw [h]
  generalize l.getD 5 true = a
  generalize l.getD 10 true = b
  generalize l.getD 14 true = c
  cases a <;> cases b <;> cases c <;> decide
theorem KL_put18 (l : Array Bool) (h : l.getD 18 true = false) (hs : 18 < l.size) (k : TK) : k ∈ (2, false) :: KL l ↔ k ∈ KL (l.setIfInBounds 18 true) := by
  unfold KL
  rw [set_getD l 18 5 hs, set_getD l 18 10 hs, set_getD l 18 14 hs, set_getD l 18 18 hs, h]
  generalize l.getD 5 true = a
  generalize l.getD 10 true = b
  generalize l.getD 14 true = c
  cases a <;> cases b <;> cases c <;> simp <;> (first | done | (constructor <;> rintro (h | h | h | h) <;> simp_all) | (constructor <;> rintro (h | h | h) <;> simp_all) | (constructor <;> rintro (h | h) <;> simp_all))
theorem all_listed {md : Region.Mode} {ops : Array Oper} {l : Array Bool} (hB : ((List.range ops.size).all fun i => ((ops[i]?).map (·.after.all fun e => decide (e.on < i))).getD true) = true) (hs : l.size = ops.size) (hr : Region.ready md ops l = []) : ∀ i, i < ops.size → l.getD i true = true := by
  intro i
  induction i using Nat.strongRecOn with
  | ind i ih =>
    intro hi
    cases hv : l.getD i true with
    | true => rfl
    | false =>
      exfalso
      have h1 := List.all_eq_true.1 hB i (List.mem_range.2 hi)
      have ho : ops[i]? = some ops[i] := Array.getElem?_eq_getElem hi
      rw [ho] at h1
      simp only [Option.map_some, Option.getD_some] at h1
      have : i ∈ Region.ready md ops l := by
        unfold Region.ready
        rw [List.mem_filter]
        refine ⟨List.mem_range.2 hi, ?_⟩
        rw [ho, hv]
        simp only [Bool.not_false, Option.map_some, Option.getD_some, Bool.true_and]
        refine Array.all_eq_true_iff_forall_mem.2 (fun e he => ?_)
        have h2 : e.on < i := by simpa using Array.all_eq_true_iff_forall_mem.1 h1 e he
        have h3 := ih e.on h2 (by omega)
        have h4 : l.getD e.on false = true := by
          have : e.on < l.size := by omega
          simpa [Array.getD, this] using h3
        rw [h4]; simp
      rw [hr] at this
      cases this

theorem movesL_share (ini : Bool) (t : Int) (s : Bool) (h : t ≠ 1 ∧ t ≠ 2 ∧ t ≠ 7) : movesL ini t s = [⟨11, if ini then wantI t else wantR t, (if ini then wantR t else wantI t) + 2⟩] := by
  unfold movesL
  rw [if_neg h.1, if_neg h.2.1, if_neg h.2.2]
  cases ini <;> rfl
theorem share_t (w : World) (cb : Nat) (ini : Bool) (hc : w.cell? ⟨cb, 0, none⟩ = some (.bool ini)) (t : Int) (s : Bool) (a b : Int) (ht : t ≠ 1 ∧ t ≠ 2 ∧ t ≠ 7) (ha : wantI t = a) (hb : wantR t = b) (ha2 : 0 ≤ a ∧ a ≤ 10) (hb2 : 0 ≤ b ∧ b ≤ 10) :
    Calls Tryd.prog 33 #[iv t, iv a, iv b, .pointer (some ⟨cb, 0, none⟩)] w fun e w' => ∃ p q : Int, Hid (movesL ini t s = [⟨11, p, q⟩]) ∧ e = .returned (.agg #[iv 11, iv p, iv q]) ∧ Kp w w' :=
  (share_any w cb ini hc t a b ha2 hb2).mono fun e w' ⟨h1, h2⟩ => ⟨_, _, Lib.hid (by rw [movesL_share ini t s ht, ha, hb]), h1, h2⟩
def base4 : List TK := [(1, true), (1, false), (2, true), (2, false)]
def fiveK (s : Bool) (K : List TK) : List TK := (7, s) :: (6, s) :: (5, s) :: (4, s) :: (3, s) :: K
def KK (k : Nat) : List TK := if k = 0 then base4 else if k = 1 then fiveK false base4 else fiveK true (fiveK false base4)
theorem KK_all (t : Int) (s : Bool) (h1 : 1 ≤ t) (h7 : t ≤ 7) : (t, s) ∈ KK 2 := by
  rcases (show t = 1 ∨ t = 2 ∨ t = 3 ∨ t = 4 ∨ t = 5 ∨ t = 6 ∨ t = 7 by omega) with rfl | rfl | rfl | rfl | rfl | rfl | rfl <;> cases s <;> decide

set_option maxRecDepth 100000 in
set_option maxHeartbeats 4000000 in
theorem moves_any (w : World) (ini : Bool) :
    Calls Tryd.prog 17 #[.bool ini] w fun e w' => ∃ r, e = .returned (.map (some r)) ∧ MapIn w' r w.heap.size ini (KK 2) ∧ Kp w w' := by
  go_enter Tryd.func17, Tryd.ntmps17
  go_wp2_with fail
  refine any_start (by kernel_rfl) ?_
  refine any_take [1, 2, 3, 6, 7, 8, 11, 12, 15, 16] (by kernel_rfl) ?_
  simp only [opsAt, List.getElem?_toArray, List.getElem?_cons_zero, List.getElem?_cons_succ]
  repeat (go_big_quiet_step (fail))
  refine wpQuiet_nil ?_
  have hk1 : Kp w (w.alloc (.cells #[.bool ini] 4)).drew := Kp.trans (Kp.new _ _) (Kp.of_drewN _ 1)
  have hcell : (w.alloc (.cells #[.bool ini] 4)).drew.cell? ⟨w.heap.size, 0, none⟩ = some (.bool ini) := Kp.cell (Kp.of_drewN _ 1) (by rw [World.cell?_alloc_at _ _ _ _ rfl]; rfl)
  have hlt0 : w.heap.size < (w.alloc (.cells #[.bool ini] 4)).drew.heap.size := by simp
  generalize (w.alloc (.cells #[.bool ini] 4)).drew = wq at *
  obtain ⟨b0, hb0⟩ : ∃ b0, b0 = w.heap.size := ⟨_, rfl⟩
  rw [← hb0] at hcell hlt0 ⊢
  clear hb0
  refine any_inv (I := Inv2 wq ini b0) ?_ ?_ _ _ _ _ (of_decide_eq_true (by kernel_rfl)) ?_
  · intro l a w2 hI hr
    obtain ⟨m, b4, b9, b13, b17, hsz, rfl, hk, h0, h4, h9, h13, h17, hno, htk⟩ := hI
    have hall := all_listed (by kernel_rfl) (hsz.trans (by kernel_rfl)) hr
    have hy : ∀ i, i < 21 → ∀ v, sl l i v = v := fun i hi v => sl_yes (hall i hi) v
    obtain ⟨hm, hM⟩ := h0 (hall 0 (by decide))
    have hK : KL l = [(1, true), (1, false), (2, true), (2, false)] := by
      unfold KL
      rw [hall 5 (by decide), hall 10 (by decide), hall 14 (by decide), hall 18 (by decide)]; rfl
    rw [hK] at hM
    rw [hy 0 (by decide), hy 4 (by decide), hy 9 (by decide), hy 13 (by decide), hy 17 (by decide), hy 19 (by decide), hy 20 (by decide)]
    clear hr hall hy hK hno htk hsz h0 h4 h9 h13 h17
    unfold fr2
    go_wp2_with fail
    have hm2 : m < w2.heap.size := by
      obtain ⟨arr, clock, hh⟩ := hM.heap
      exact (Array.getElem?_eq_some_iff.1 hh).1
    have hkl := Kp.trans hk (Kp.new w2 (.cells #[.bool false, .bool true] 4))
    have hs0 : (w2.alloc (.cells #[.bool false, .bool true] 4)).cell? ⟨w2.heap.size, 0, none⟩ = some (.bool false) := by rw [World.cell?_alloc_at _ _ _ _ rfl]; rfl
    have hs1 : (w2.alloc (.cells #[.bool false, .bool true] 4)).cell? ⟨w2.heap.size, 1, none⟩ = some (.bool true) := by rw [World.cell?_alloc_at _ _ _ _ rfl]; rfl
    have hM := Kp.mapIn (Kp.new w2 (.cells #[.bool false, .bool true] 4)) hM
    have hcb := Kp.cell hkl hcell
    obtain ⟨bs, hbs⟩ : ∃ x, x = w2.heap.size := ⟨_, rfl⟩
    rw [← hbs] at hs0 hs1 hm2 ⊢
    clear hbs
    generalize w2.alloc (.cells #[.bool false, .bool true] 4) = wl at *
    clear hk
    go_loopw [26] (fun i wr => ∃ k : Nat, k ≤ 2 ∧ i = .int .i64 k ∧ Fr [m] wl wr ∧ MapIn wr m wq.heap.size ini (KK k)) (fun i _ => 2 - (intOf i).toNat)
    case atStart => exact ⟨0, by omega, rfl, Fr.refl _ _, hM⟩
    case round =>
      clear hM
      obtain ⟨k, hk, rfl, hF, hM⟩ := hrel
      rcases (show k = 0 ∨ k = 1 ∨ k = 2 by omega) with rfl | rfl | rfl
      · have hM : MapIn wr m wq.heap.size ini (KK 0) := hM
        have cs := hF.cell hs0 (by simp; omega)
        have hcb := hF.cell hcb (by simp; omega)
        go_wp2_with fail
        (with_reducible refine (share_t _ b0 ini hcb 3 false 1 1 (by decide) rfl rfl (by omega) (by omega)).mono ?_)
        rintro e wB ⟨p, q, hpq, rfl, hkB⟩
        have hM := hkB.mapIn hM
        have hF := hF.trans ((Fr.of_kp hkB).mono (Y := [m]) (by simp))
        have hcb := Kp.cell hkB hcb
        clear hkB
        go_wp2_with (at_mapUpdate; refine wpList_put rfl (.tmp 30) (.tmp 32) (.tmp 35) rfl rfl (Kp.mapIn (Kp.new _ _) hM) (3, false) (by decide) rfl rfl ⟨by rw [hpq.out]; exact ⟨rfl, by unfold maxLen; omega, Cs.new wB [iv 11, iv p, iv q] 56 (0, 0)⟩, fun j hj => by rw [mem_blkL_some] at hj; subst hj; exact Nat.le_trans hkl.size hF.size⟩ ?_; intro wC hMC hFC)
        have hcb := hFC.cell (Kp.cell (Kp.new _ (.cells #[iv 11, iv p, iv q] 56)) hcb) (by simp; omega)
        have hF := (hF.trans ((Fr.of_kp (Kp.new _ (.cells #[iv 11, iv p, iv q] 56))).mono (Y := [m]) (by simp))).trans hFC
        have hM := hMC
        clear hMC hFC hpq
        go_wp2_with fail
        (with_reducible refine (share_t _ b0 ini hcb 4 false 1 2 (by decide) rfl rfl (by omega) (by omega)).mono ?_)
        rintro e wB ⟨p, q, hpq, rfl, hkB⟩
        have hM := hkB.mapIn hM
        have hF := hF.trans ((Fr.of_kp hkB).mono (Y := [m]) (by simp))
        have hcb := Kp.cell hkB hcb
        clear hkB
        go_wp2_with (at_mapUpdate; refine wpList_put rfl (.tmp 36) (.tmp 38) (.tmp 41) rfl rfl (Kp.mapIn (Kp.new _ _) hM) (4, false) (by decide) rfl rfl ⟨by rw [hpq.out]; exact ⟨rfl, by unfold maxLen; omega, Cs.new wB [iv 11, iv p, iv q] 56 (0, 0)⟩, fun j hj => by rw [mem_blkL_some] at hj; subst hj; exact Nat.le_trans hkl.size hF.size⟩ ?_; intro wC hMC hFC)
        have hcb := hFC.cell (Kp.cell (Kp.new _ (.cells #[iv 11, iv p, iv q] 56)) hcb) (by simp; omega)
        have hF := (hF.trans ((Fr.of_kp (Kp.new _ (.cells #[iv 11, iv p, iv q] 56))).mono (Y := [m]) (by simp))).trans hFC
        have hM := hMC
        clear hMC hFC hpq
        go_wp2_with fail
        (with_reducible refine (share_t _ b0 ini hcb 5 false 2 1 (by decide) rfl rfl (by omega) (by omega)).mono ?_)
        rintro e wB ⟨p, q, hpq, rfl, hkB⟩
        have hM := hkB.mapIn hM
        have hF := hF.trans ((Fr.of_kp hkB).mono (Y := [m]) (by simp))
        have hcb := Kp.cell hkB hcb
        clear hkB
        go_wp2_with (at_mapUpdate; refine wpList_put rfl (.tmp 42) (.tmp 44) (.tmp 47) rfl rfl (Kp.mapIn (Kp.new _ _) hM) (5, false) (by decide) rfl rfl ⟨by rw [hpq.out]; exact ⟨rfl, by unfold maxLen; omega, Cs.new wB [iv 11, iv p, iv q] 56 (0, 0)⟩, fun j hj => by rw [mem_blkL_some] at hj; subst hj; exact Nat.le_trans hkl.size hF.size⟩ ?_; intro wC hMC hFC)
        have hcb := hFC.cell (Kp.cell (Kp.new _ (.cells #[iv 11, iv p, iv q] 56)) hcb) (by simp; omega)
        have hF := (hF.trans ((Fr.of_kp (Kp.new _ (.cells #[iv 11, iv p, iv q] 56))).mono (Y := [m]) (by simp))).trans hFC
        have hM := hMC
        clear hMC hFC hpq
        go_wp2_with fail
        (with_reducible refine (share_t _ b0 ini hcb 6 false 2 2 (by decide) rfl rfl (by omega) (by omega)).mono ?_)
        rintro e wB ⟨p, q, hpq, rfl, hkB⟩
        have hM := hkB.mapIn hM
        have hF := hF.trans ((Fr.of_kp hkB).mono (Y := [m]) (by simp))
        have hcb := Kp.cell hkB hcb
        clear hkB
        go_wp2_with (first | (at_mapUpdate; refine wpList_put rfl (.tmp 48) (.tmp 50) (.tmp 53) rfl rfl (Kp.mapIn (Kp.new _ _) hM) (6, false) (by decide) rfl rfl ⟨by rw [hpq.out]; exact ⟨rfl, by unfold maxLen; omega, Cs.new wB [iv 11, iv p, iv q] 56 (0, 0)⟩, fun j hj => by rw [mem_blkL_some] at hj; subst hj; exact Nat.le_trans hkl.size hF.size⟩ ?_; intro wC hMC hFC) | (at_mapUpdate; refine wpList_put rfl (.tmp 54) (.tmp 56) (.tmp 58) rfl rfl (Kp.mapIn (Kp.new _ _) hMC) (7, false) (by decide) rfl rfl ⟨⟨rfl, by unfold maxLen; omega, Cs.new wC [iv 12, iv 0, iv 0] 56 (0, 0)⟩, fun j hj => by rw [mem_blkL_some] at hj; subst hj; exact Nat.le_trans hkl.size (Nat.le_trans hF.size (Nat.le_trans (by simp) hFC.size))⟩ ?_; intro wD hMD hFD))
        have hF := (hF.trans ((Fr.of_kp (Kp.new _ (.cells #[iv 11, iv p, iv q] 56))).mono (Y := [m]) (by simp))).trans hFC
        have hF := (hF.trans ((Fr.of_kp (Kp.new _ (.cells #[iv 12, iv 0, iv 0] 56))).mono (Y := [m]) (by simp))).trans hFD
        go_roundw
        case rel => exact ⟨1, by omega, rfl, hF, hMD⟩
        case measure => simp [intOf]
      · have hM : MapIn wr m wq.heap.size ini (KK 1) := hM
        have cs := hF.cell hs1 (by simp; omega)
        have hcb := hF.cell hcb (by simp; omega)
        go_wp2_with fail
        (with_reducible refine (share_t _ b0 ini hcb 3 true 1 1 (by decide) rfl rfl (by omega) (by omega)).mono ?_)
        rintro e wB ⟨p, q, hpq, rfl, hkB⟩
        have hM := hkB.mapIn hM
        have hF := hF.trans ((Fr.of_kp hkB).mono (Y := [m]) (by simp))
        have hcb := Kp.cell hkB hcb
        clear hkB
        go_wp2_with (at_mapUpdate; refine wpList_put rfl (.tmp 30) (.tmp 32) (.tmp 35) rfl rfl (Kp.mapIn (Kp.new _ _) hM) (3, true) (by decide) rfl rfl ⟨by rw [hpq.out]; exact ⟨rfl, by unfold maxLen; omega, Cs.new wB [iv 11, iv p, iv q] 56 (0, 0)⟩, fun j hj => by rw [mem_blkL_some] at hj; subst hj; exact Nat.le_trans hkl.size hF.size⟩ ?_; intro wC hMC hFC)
        have hcb := hFC.cell (Kp.cell (Kp.new _ (.cells #[iv 11, iv p, iv q] 56)) hcb) (by simp; omega)
        have hF := (hF.trans ((Fr.of_kp (Kp.new _ (.cells #[iv 11, iv p, iv q] 56))).mono (Y := [m]) (by simp))).trans hFC
        have hM := hMC
        clear hMC hFC hpq
        go_wp2_with fail
        (with_reducible refine (share_t _ b0 ini hcb 4 true 1 2 (by decide) rfl rfl (by omega) (by omega)).mono ?_)
        rintro e wB ⟨p, q, hpq, rfl, hkB⟩
        have hM := hkB.mapIn hM
        have hF := hF.trans ((Fr.of_kp hkB).mono (Y := [m]) (by simp))
        have hcb := Kp.cell hkB hcb
        clear hkB
        go_wp2_with (at_mapUpdate; refine wpList_put rfl (.tmp 36) (.tmp 38) (.tmp 41) rfl rfl (Kp.mapIn (Kp.new _ _) hM) (4, true) (by decide) rfl rfl ⟨by rw [hpq.out]; exact ⟨rfl, by unfold maxLen; omega, Cs.new wB [iv 11, iv p, iv q] 56 (0, 0)⟩, fun j hj => by rw [mem_blkL_some] at hj; subst hj; exact Nat.le_trans hkl.size hF.size⟩ ?_; intro wC hMC hFC)
        have hcb := hFC.cell (Kp.cell (Kp.new _ (.cells #[iv 11, iv p, iv q] 56)) hcb) (by simp; omega)
        have hF := (hF.trans ((Fr.of_kp (Kp.new _ (.cells #[iv 11, iv p, iv q] 56))).mono (Y := [m]) (by simp))).trans hFC
        have hM := hMC
        clear hMC hFC hpq
        go_wp2_with fail
        (with_reducible refine (share_t _ b0 ini hcb 5 true 2 1 (by decide) rfl rfl (by omega) (by omega)).mono ?_)
        rintro e wB ⟨p, q, hpq, rfl, hkB⟩
        have hM := hkB.mapIn hM
        have hF := hF.trans ((Fr.of_kp hkB).mono (Y := [m]) (by simp))
        have hcb := Kp.cell hkB hcb
        clear hkB
        go_wp2_with (at_mapUpdate; refine wpList_put rfl (.tmp 42) (.tmp 44) (.tmp 47) rfl rfl (Kp.mapIn (Kp.new _ _) hM) (5, true) (by decide) rfl rfl ⟨by rw [hpq.out]; exact ⟨rfl, by unfold maxLen; omega, Cs.new wB [iv 11, iv p, iv q] 56 (0, 0)⟩, fun j hj => by rw [mem_blkL_some] at hj; subst hj; exact Nat.le_trans hkl.size hF.size⟩ ?_; intro wC hMC hFC)
        have hcb := hFC.cell (Kp.cell (Kp.new _ (.cells #[iv 11, iv p, iv q] 56)) hcb) (by simp; omega)
        have hF := (hF.trans ((Fr.of_kp (Kp.new _ (.cells #[iv 11, iv p, iv q] 56))).mono (Y := [m]) (by simp))).trans hFC
        have hM := hMC
        clear hMC hFC hpq
        go_wp2_with fail
        (with_reducible refine (share_t _ b0 ini hcb 6 true 2 2 (by decide) rfl rfl (by omega) (by omega)).mono ?_)
        rintro e wB ⟨p, q, hpq, rfl, hkB⟩
        have hM := hkB.mapIn hM
        have hF := hF.trans ((Fr.of_kp hkB).mono (Y := [m]) (by simp))
        have hcb := Kp.cell hkB hcb
        clear hkB
        go_wp2_with (first | (at_mapUpdate; refine wpList_put rfl (.tmp 48) (.tmp 50) (.tmp 53) rfl rfl (Kp.mapIn (Kp.new _ _) hM) (6, true) (by decide) rfl rfl ⟨by rw [hpq.out]; exact ⟨rfl, by unfold maxLen; omega, Cs.new wB [iv 11, iv p, iv q] 56 (0, 0)⟩, fun j hj => by rw [mem_blkL_some] at hj; subst hj; exact Nat.le_trans hkl.size hF.size⟩ ?_; intro wC hMC hFC) | (at_mapUpdate; refine wpList_put rfl (.tmp 54) (.tmp 56) (.tmp 58) rfl rfl (Kp.mapIn (Kp.new _ _) hMC) (7, true) (by decide) rfl rfl ⟨⟨rfl, by unfold maxLen; omega, Cs.new wC [iv 12, iv 0, iv 0] 56 (0, 0)⟩, fun j hj => by rw [mem_blkL_some] at hj; subst hj; exact Nat.le_trans hkl.size (Nat.le_trans hF.size (Nat.le_trans (by simp) hFC.size))⟩ ?_; intro wD hMD hFD))
        have hF := (hF.trans ((Fr.of_kp (Kp.new _ (.cells #[iv 11, iv p, iv q] 56))).mono (Y := [m]) (by simp))).trans hFC
        have hF := (hF.trans ((Fr.of_kp (Kp.new _ (.cells #[iv 12, iv 0, iv 0] 56))).mono (Y := [m]) (by simp))).trans hFD
        go_roundw
        case rel => exact ⟨2, by omega, rfl, hF, hMD⟩
        case measure => simp [intOf]
      · have hkw : Kp w wr := Kp.trans hk1 ((Fr.of_kp hkl).step hF (fun j hj => .inr (by simp only [List.mem_singleton] at hj; omega))).kp
        go_wp2_with fail
        go_ret
        exact ⟨m, rfl, hM.low hk1.size, hkw⟩
  · intro l a w2 i hI hi hf hd
    have hi : i < 21 := hi
    obtain ⟨m, b4, b9, b13, b17, hsz, rfl, hk, h0, h4, h9, h13, h17, hno, htk⟩ := hI
    have S : ∀ j, j < 21 → ∀ k v, sl (l.setIfInBounds j true) k v = if k = j then v else sl l k v := fun j hj k v => sl_set l j k (by omega) v
    have G : ∀ j, j < 21 → ∀ k, (l.setIfInBounds j true).getD k true = if k = j then true else l.getD k true := fun j hj k => set_getD l j k (by omega)
    have hsz' : ∀ j, (l.setIfInBounds j true).size = 21 := fun j => by simp [hsz]
    rcases (show i = 0 ∨ i = 4 ∨ i = 5 ∨ i = 9 ∨ i = 10 ∨ i = 13 ∨ i = 14 ∨ i = 17 ∨ i = 18 ∨ i = 19 ∨ i = 20 ∨ i ∈ [1, 2, 3, 6, 7, 8, 11, 12, 15, 16] by simp; omega) with rfl | rfl | rfl | rfl | rfl | rfl | rfl | rfl | rfl | rfl | rfl | h
    · obtain ⟨n1, n2, n3⟩ := hno hf
      have e19 : ∀ v, sl l 19 v = undef := fun v => sl_no n2 v
      have e20 : ∀ v, sl l 20 v = undef := fun v => sl_no n3 v
      refine wpOp_plain rfl rfl (wp_makeMap rfl ?_)
      have kn := Kp.new w2 (.map #[] 0)
      refine ⟨w2.heap.size, b4, b9, b13, b17, hsz' 0, ?_, Kp.trans hk kn, fun _ => ⟨hk.size, ?_⟩, ?_, ?_, ?_, ?_, ?_, ?_⟩
      · simp [S 0 (by omega), e19, e20, fr2, Act.put]
      · refine (MapIn.new w2 wq.heap.size ini 0).congr (fun k => ?_)
        rw [KL_set l 0 (by omega) (by decide), n1]
      · intro h; rw [G 0 (by omega), if_neg (by decide)] at h; exact kn.mvsB (h4 h)
      · intro h; rw [G 0 (by omega), if_neg (by decide)] at h; exact kn.mvsB (h9 h)
      · intro h; rw [G 0 (by omega), if_neg (by decide)] at h; exact kn.mvsB (h13 h)
      · intro h; rw [G 0 (by omega), if_neg (by decide)] at h; exact kn.mvsB (h17 h)
      · intro h; rw [G 0 (by omega), if_pos rfl] at h; cases h
      · intro j hj; rw [G 0 (by omega)]; split; rfl; exact htk j hj
    · refine wpOp_plain rfl rfl (wp_build2 (.tmp 10) (.tmp 11) rfl ⟨7, 1, 0⟩ ⟨3, 1, 0⟩ rfl rfl fun hM => ?_)
      have kn := Kp.new w2 (.cells #[iv 7, iv 1, iv 0, iv 3, iv 1, iv 0] 56)
      refine ⟨m, w2.heap.size, b9, b13, b17, hsz' 4, ?_, Kp.trans hk kn, fun h => ?_, ?_, ?_, ?_, ?_, fun h => ?_, ?_⟩
      · simp [S 4 (by omega), fr2, Act.put]
      · rw [G 4 (by omega), if_neg (by decide)] at h
        exact ⟨(h0 h).1, (kn.mapIn (h0 h).2).congr (fun k => by rw [KL_set l 4 (by omega) (by decide)])⟩
      · intro _; exact ⟨hM, fun j hj => by rw [mem_blkL_some] at hj; subst hj; exact hk.size⟩
      · intro h; rw [G 4 (by omega), if_neg (by decide)] at h; exact kn.mvsB (h9 h)
      · intro h; rw [G 4 (by omega), if_neg (by decide)] at h; exact kn.mvsB (h13 h)
      · intro h; rw [G 4 (by omega), if_neg (by decide)] at h; exact kn.mvsB (h17 h)
      · rw [G 4 (by omega), if_neg (by decide)] at h
        rw [KL_set l 4 (by omega) (by decide), G 4 (by omega), G 4 (by omega), if_neg (by decide), if_neg (by decide)]
        exact hno h
      · intro j hj; rw [G 4 (by omega)]; split; rfl; exact htk j hj
    · have d0 := getD_ft (hd _ rfl ⟨0, .data⟩ (by simp) rfl)
      have d4 := getD_ft (hd _ rfl ⟨4, .data⟩ (by simp) rfl)
      obtain ⟨hm, hM⟩ := h0 d0
      obtain ⟨arr, clock, hheap⟩ := hM.heap
      refine wpOp_plain rfl rfl (wp_put (.tmp 8) (.tmp 9) (.tmp 12) (.inr rfl) (r := m) (ini := ini) (K := KL l) (sl_yes d0 _) hM (1, true) (KL_not5 l hf) rfl (ao := some ⟨b4, 0, none⟩) (n := 2) (cap := 2) (sl_yes d4 _) (h4 d4) fun w' h1 h2 => ?_)
      refine ⟨m, b4, b9, b13, b17, hsz' 5, ?_, ((Fr.of_kp hk).step h2 (fun j hj => .inr (by simp only [List.mem_singleton] at hj; omega))).kp, fun _ => ⟨hm, h1.congr (fun k => KL_put5 l hf (by omega) k)⟩, ?_, ?_, ?_, ?_, fun h => ?_, ?_⟩
      · simp [S 5 (by omega), fr2, Act.put]
      · intro h; rw [G 5 (by omega), if_neg (by decide)] at h; exact Fr.mvsB_map hheap h2 (h4 h)
      · intro h; rw [G 5 (by omega), if_neg (by decide)] at h; exact Fr.mvsB_map hheap h2 (h9 h)
      · intro h; rw [G 5 (by omega), if_neg (by decide)] at h; exact Fr.mvsB_map hheap h2 (h13 h)
      · intro h; rw [G 5 (by omega), if_neg (by decide)] at h; exact Fr.mvsB_map hheap h2 (h17 h)
      · rw [G 5 (by omega), if_neg (by decide), d0] at h; cases h
      · intro j hj; rw [G 5 (by omega)]; split; rfl; exact htk j hj
    · refine wpOp_plain rfl rfl (wp_build2 (.tmp 14) (.tmp 15) rfl ⟨8, 3, 0⟩ ⟨3, 3, 0⟩ rfl rfl fun hM => ?_)
      have kn := Kp.new w2 (.cells #[iv 8, iv 3, iv 0, iv 3, iv 3, iv 0] 56)
      refine ⟨m, b4, w2.heap.size, b13, b17, hsz' 9, ?_, Kp.trans hk kn, fun h => ?_, ?_, ?_, ?_, ?_, fun h => ?_, ?_⟩
      · simp [S 9 (by omega), fr2, Act.put]
      · rw [G 9 (by omega), if_neg (by decide)] at h
        exact ⟨(h0 h).1, (kn.mapIn (h0 h).2).congr (fun k => by rw [KL_set l 9 (by omega) (by decide)])⟩
      · intro h; rw [G 9 (by omega), if_neg (by decide)] at h; exact kn.mvsB (h4 h)
      · intro _; exact ⟨hM, fun j hj => by rw [mem_blkL_some] at hj; subst hj; exact hk.size⟩
      · intro h; rw [G 9 (by omega), if_neg (by decide)] at h; exact kn.mvsB (h13 h)
      · intro h; rw [G 9 (by omega), if_neg (by decide)] at h; exact kn.mvsB (h17 h)
      · rw [G 9 (by omega), if_neg (by decide)] at h
        rw [KL_set l 9 (by omega) (by decide), G 9 (by omega), G 9 (by omega), if_neg (by decide), if_neg (by decide)]
        exact hno h
      · intro j hj; rw [G 9 (by omega)]; split; rfl; exact htk j hj
    · have d0 := getD_ft (hd _ rfl ⟨0, .data⟩ (by simp) rfl)
      have d4 := getD_ft (hd _ rfl ⟨9, .data⟩ (by simp) rfl)
      obtain ⟨hm, hM⟩ := h0 d0
      obtain ⟨arr, clock, hheap⟩ := hM.heap
      refine wpOp_plain rfl rfl (wp_put (.tmp 8) (.tmp 13) (.tmp 16) (.inr rfl) (r := m) (ini := ini) (K := KL l) (sl_yes d0 _) hM (1, false) (KL_not10 l hf) rfl (ao := some ⟨b9, 0, none⟩) (n := 2) (cap := 2) (sl_yes d4 _) (h9 d4) fun w' h1 h2 => ?_)
      refine ⟨m, b4, b9, b13, b17, hsz' 10, ?_, ((Fr.of_kp hk).step h2 (fun j hj => .inr (by simp only [List.mem_singleton] at hj; omega))).kp, fun _ => ⟨hm, h1.congr (fun k => KL_put10 l hf (by omega) k)⟩, ?_, ?_, ?_, ?_, fun h => ?_, ?_⟩
      · simp [S 10 (by omega), fr2, Act.put]
      · intro h; rw [G 10 (by omega), if_neg (by decide)] at h; exact Fr.mvsB_map hheap h2 (h4 h)
      · intro h; rw [G 10 (by omega), if_neg (by decide)] at h; exact Fr.mvsB_map hheap h2 (h9 h)
      · intro h; rw [G 10 (by omega), if_neg (by decide)] at h; exact Fr.mvsB_map hheap h2 (h13 h)
      · intro h; rw [G 10 (by omega), if_neg (by decide)] at h; exact Fr.mvsB_map hheap h2 (h17 h)
      · rw [G 10 (by omega), if_neg (by decide), d0] at h; cases h
      · intro j hj; rw [G 10 (by omega)]; split; rfl; exact htk j hj
    · refine wpOp_plain rfl rfl (wp_build1 (.tmp 18) rfl ⟨9, 2, 0⟩ rfl fun hM => ?_)
      have kn := Kp.new w2 (.cells #[iv 9, iv 2, iv 0] 56)
      refine ⟨m, b4, b9, w2.heap.size, b17, hsz' 13, ?_, Kp.trans hk kn, fun h => ?_, ?_, ?_, ?_, ?_, fun h => ?_, ?_⟩
      · simp [S 13 (by omega), fr2, Act.put]
      · rw [G 13 (by omega), if_neg (by decide)] at h
        exact ⟨(h0 h).1, (kn.mapIn (h0 h).2).congr (fun k => by rw [KL_set l 13 (by omega) (by decide)])⟩
      · intro h; rw [G 13 (by omega), if_neg (by decide)] at h; exact kn.mvsB (h4 h)
      · intro h; rw [G 13 (by omega), if_neg (by decide)] at h; exact kn.mvsB (h9 h)
      · intro _; exact ⟨hM, fun j hj => by rw [mem_blkL_some] at hj; subst hj; exact hk.size⟩
      · intro h; rw [G 13 (by omega), if_neg (by decide)] at h; exact kn.mvsB (h17 h)
      · rw [G 13 (by omega), if_neg (by decide)] at h
        rw [KL_set l 13 (by omega) (by decide), G 13 (by omega), G 13 (by omega), if_neg (by decide), if_neg (by decide)]
        exact hno h
      · intro j hj; rw [G 13 (by omega)]; split; rfl; exact htk j hj
    · have d0 := getD_ft (hd _ rfl ⟨0, .data⟩ (by simp) rfl)
      have d4 := getD_ft (hd _ rfl ⟨13, .data⟩ (by simp) rfl)
      obtain ⟨hm, hM⟩ := h0 d0
      obtain ⟨arr, clock, hheap⟩ := hM.heap
      refine wpOp_plain rfl rfl (wp_put (.tmp 8) (.tmp 17) (.tmp 19) (.inr rfl) (r := m) (ini := ini) (K := KL l) (sl_yes d0 _) hM (2, true) (KL_not14 l hf) rfl (ao := some ⟨b13, 0, none⟩) (n := 1) (cap := 1) (sl_yes d4 _) (h13 d4) fun w' h1 h2 => ?_)
      refine ⟨m, b4, b9, b13, b17, hsz' 14, ?_, ((Fr.of_kp hk).step h2 (fun j hj => .inr (by simp only [List.mem_singleton] at hj; omega))).kp, fun _ => ⟨hm, h1.congr (fun k => KL_put14 l hf (by omega) k)⟩, ?_, ?_, ?_, ?_, fun h => ?_, ?_⟩
      · simp [S 14 (by omega), fr2, Act.put]
      · intro h; rw [G 14 (by omega), if_neg (by decide)] at h; exact Fr.mvsB_map hheap h2 (h4 h)
      · intro h; rw [G 14 (by omega), if_neg (by decide)] at h; exact Fr.mvsB_map hheap h2 (h9 h)
      · intro h; rw [G 14 (by omega), if_neg (by decide)] at h; exact Fr.mvsB_map hheap h2 (h13 h)
      · intro h; rw [G 14 (by omega), if_neg (by decide)] at h; exact Fr.mvsB_map hheap h2 (h17 h)
      · rw [G 14 (by omega), if_neg (by decide), d0] at h; cases h
      · intro j hj; rw [G 14 (by omega)]; split; rfl; exact htk j hj
    · refine wpOp_plain rfl rfl (wp_build1 (.tmp 21) rfl ⟨10, 4, 0⟩ rfl fun hM => ?_)
      have kn := Kp.new w2 (.cells #[iv 10, iv 4, iv 0] 56)
      refine ⟨m, b4, b9, b13, w2.heap.size, hsz' 17, ?_, Kp.trans hk kn, fun h => ?_, ?_, ?_, ?_, ?_, fun h => ?_, ?_⟩
      · simp [S 17 (by omega), fr2, Act.put]
      · rw [G 17 (by omega), if_neg (by decide)] at h
        exact ⟨(h0 h).1, (kn.mapIn (h0 h).2).congr (fun k => by rw [KL_set l 17 (by omega) (by decide)])⟩
      · intro h; rw [G 17 (by omega), if_neg (by decide)] at h; exact kn.mvsB (h4 h)
      · intro h; rw [G 17 (by omega), if_neg (by decide)] at h; exact kn.mvsB (h9 h)
      · intro h; rw [G 17 (by omega), if_neg (by decide)] at h; exact kn.mvsB (h13 h)
      · intro _; exact ⟨hM, fun j hj => by rw [mem_blkL_some] at hj; subst hj; exact hk.size⟩
      · rw [G 17 (by omega), if_neg (by decide)] at h
        rw [KL_set l 17 (by omega) (by decide), G 17 (by omega), G 17 (by omega), if_neg (by decide), if_neg (by decide)]
        exact hno h
      · intro j hj; rw [G 17 (by omega)]; split; rfl; exact htk j hj
    · have d0 := getD_ft (hd _ rfl ⟨0, .data⟩ (by simp) rfl)
      have d4 := getD_ft (hd _ rfl ⟨17, .data⟩ (by simp) rfl)
      obtain ⟨hm, hM⟩ := h0 d0
      obtain ⟨arr, clock, hheap⟩ := hM.heap
      refine wpOp_plain rfl rfl (wp_put (.tmp 8) (.tmp 20) (.tmp 22) (.inr rfl) (r := m) (ini := ini) (K := KL l) (sl_yes d0 _) hM (2, false) (KL_not18 l hf) rfl (ao := some ⟨b17, 0, none⟩) (n := 1) (cap := 1) (sl_yes d4 _) (h17 d4) fun w' h1 h2 => ?_)
      refine ⟨m, b4, b9, b13, b17, hsz' 18, ?_, ((Fr.of_kp hk).step h2 (fun j hj => .inr (by simp only [List.mem_singleton] at hj; omega))).kp, fun _ => ⟨hm, h1.congr (fun k => KL_put18 l hf (by omega) k)⟩, ?_, ?_, ?_, ?_, fun h => ?_, ?_⟩
      · simp [S 18 (by omega), fr2, Act.put]
      · intro h; rw [G 18 (by omega), if_neg (by decide)] at h; exact Fr.mvsB_map hheap h2 (h4 h)
      · intro h; rw [G 18 (by omega), if_neg (by decide)] at h; exact Fr.mvsB_map hheap h2 (h9 h)
      · intro h; rw [G 18 (by omega), if_neg (by decide)] at h; exact Fr.mvsB_map hheap h2 (h13 h)
      · intro h; rw [G 18 (by omega), if_neg (by decide)] at h; exact Fr.mvsB_map hheap h2 (h17 h)
      · rw [G 18 (by omega), if_neg (by decide), d0] at h; cases h
      · intro j hj; rw [G 18 (by omega)]; split; rfl; exact htk j hj
    · have d0 := getD_ft (hd _ rfl ⟨0, .data⟩ (by simp) rfl)
      have dd := getD_ft (hd _ rfl ⟨0, .data⟩ (by simp) rfl)
      refine wpOp_plain rfl rfl (wp_moveOp (.tmp 8) (.inl rfl) (.map (some m)) (sl_yes dd _) ?_)
      refine ⟨m, b4, b9, b13, b17, hsz' 19, ?_, hk, fun h => ?_, ?_, ?_, ?_, ?_, fun h => ?_, ?_⟩
      · simp [S 19 (by omega), fr2, Act.put]
      · exact ⟨(h0 d0).1, (h0 d0).2.congr (fun k => by rw [KL_set l 19 (by omega) (by decide)])⟩
      · intro h; rw [G 19 (by omega), if_neg (by decide)] at h; exact h4 h
      · intro h; rw [G 19 (by omega), if_neg (by decide)] at h; exact h9 h
      · intro h; rw [G 19 (by omega), if_neg (by decide)] at h; exact h13 h
      · intro h; rw [G 19 (by omega), if_neg (by decide)] at h; exact h17 h
      · rw [G 19 (by omega), if_neg (by decide), d0] at h; cases h
      · intro j hj; rw [G 19 (by omega)]; split; rfl; exact htk j hj
    · have d0 := getD_ft (hd _ rfl ⟨0, .phase⟩ (by simp) rfl)
      have dd := getD_ft (hd _ rfl ⟨19, .data⟩ (by simp) rfl)
      refine wpOp_plain rfl rfl (wp_moveOp (.tmp 23) (.inr rfl) (.map (some m)) (sl_yes dd _) ?_)
      refine ⟨m, b4, b9, b13, b17, hsz' 20, ?_, hk, fun h => ?_, ?_, ?_, ?_, ?_, fun h => ?_, ?_⟩
      · simp [S 20 (by omega), fr2, Act.put]
      · exact ⟨(h0 d0).1, (h0 d0).2.congr (fun k => by rw [KL_set l 20 (by omega) (by decide)])⟩
      · intro h; rw [G 20 (by omega), if_neg (by decide)] at h; exact h4 h
      · intro h; rw [G 20 (by omega), if_neg (by decide)] at h; exact h9 h
      · intro h; rw [G 20 (by omega), if_neg (by decide)] at h; exact h13 h
      · intro h; rw [G 20 (by omega), if_neg (by decide)] at h; exact h17 h
      · rw [G 20 (by omega), if_neg (by decide), d0] at h; cases h
      · intro j hj; rw [G 20 (by omega)]; split; rfl; exact htk j hj
    · rw [htk i h] at hf; cases hf
  · rw [show listAll _ _ = #[false, true, true, true, false, false, true, true, true, false, false, true, true, false, false, true, true, false, false, false, false] by kernel_rfl]
    exact ⟨0, 0, 0, 0, 0, rfl, rfl, Kp.refl _, fun h => (by cases h), fun h => (by cases h), fun h => (by cases h), fun h => (by cases h), fun h => (by cases h), fun _ => ⟨rfl, rfl, rfl⟩, by decide⟩
end Go.Proofs.YtbcjeemjpcidhaaDoor
