/- A region that draws its order, walked block by block: operations that look at no world; an operation that is the only one that may come up; any operations, by what holds behind each. No condition. -/
import Derived.Test.YtpemfmjplejdiaaDoorMaps
namespace Go.Proofs.YtpemfmjplejdiaaDoor
open Go.RowKit

section
variable {P : Program} {ops : Array Oper} {md : Region.Mode} {w : World}

/-- A region is shown to end at its end. -/
def Qn (Q : Exit → Act → World → Prop) : Exit → Act → World → Prop
  | .normal, a, w => Q .normal a w
  | _, _, _ => False

theorem any_start {id : Nat} {Q : Exit → Act → World → Prop} {a : Act} {l : List Oper} (hm : P.follows .mixedOrders = true)
    (h : wpAny P .any l.toArray (Qn Q) l.length (Array.replicate l.length false) a w.drew) : (Code.region id l.toArray true).wp P Q a w :=
  Code.wp_mono (fun e a w h => by cases e <;> first | exact h | exact h.elim) (wp_region_any (Q := Qn Q) hm (by simpa using h))

theorem any_end {Q : Exit → Act → World → Prop} {a : Act} {listed : Array Bool} {fuel : Nat} (hr : (Region.ready md ops listed).isEmpty = true) (h : Q .normal a w) : wpAny P md ops (Qn Q) fuel listed a w :=
  wpAny_done (Q := Qn Q) (by simpa using hr) h fuel

/-- The operations of these numbers. -/
def opsAt (ops : Array Oper) : List Nat → List Oper
  | [] => []
  | i :: r => match ops[i]? with | some o => o :: opsAt ops r | none => opsAt ops r

def listAll (listed : Array Bool) : List Nat → Array Bool
  | [] => listed
  | i :: r => listAll (listed.setIfInBounds i true) r

/-! ### One operation that is the only one that may come up -/
theorem any_one {Q : Exit → Act → World → Prop} {a : Act} {listed : Array Bool} {n : Nat} (i : Nat) (hr : (decide (Region.ready md ops listed = [i]) && decide (i < ops.size) && decide (0 < n)) = true)
    (h : wpList P ops (fun e a2 w2 => match e with | .normal => wpAny P md ops (Qn Q) (n - 1) (listed.setIfInBounds i true) a2 w2 | _ => False) (opsAt ops [i]) a w) : wpAny P md ops (Qn Q) n listed a w := by
  simp only [Bool.and_eq_true, decide_eq_true_eq] at hr
  obtain ⟨⟨hr, hi⟩, hn⟩ := hr
  obtain ⟨fuel, rfl⟩ : ∃ fuel, n = fuel + 1 := ⟨n - 1, by omega⟩
  rw [Nat.add_sub_cancel] at h
  have ho : ops[i]? = some ops[i] := Array.getElem?_eq_getElem hi
  generalize ops[i] = o at ho
  simp only [opsAt, ho] at h
  refine ⟨fun h0 => (by rw [h0] at hr; cases hr), fun j hj => ?_⟩
  rw [hr] at hj
  obtain rfl : j = i := by simpa using hj
  unfold wpOp
  simp only [ho]
  unfold wpList at h
  split
  · rename_i hw
    rw [if_pos hw] at h
    rcases h with h1 | ⟨_, h2⟩
    · left
      unfold Oper.wp at h1 ⊢
      generalize (execOp a.eval o).run P w = r at h1 ⊢
      cases r with
      | ok nx w' =>
        cases nx <;> simp only [Oper.upon] at h1 ⊢ <;> first
          | exact h1
          | exact Calls.mono h1 (fun e w'' he => by cases e <;> first | exact he | exact he.elim | (obtain ⟨_, _, hf⟩ := he; exact hf.elim))
          | exact Rows.mono h1 (fun _ _ he => he)
      | halt x w' => cases x <;> simp only [Oper.upon] at h1
    · exact absurd h2 (by simp [LetsOut])
  · rename_i hw
    rw [if_neg hw] at h
    exact h

/-! ### Operations that look at no world -/
/-- These hand on a value or end the call: nothing else. -/
def valued (o : Oper) : Bool :=
  match o.op with
  | .move _ | .assign _ | .pick .. | .binOp .. | .unOp .. | .convert .. | .slice .. | .build .. | .fieldAddr .. | .field .. | .indexAddr .. | .index .. | .extract .. => true
  | .nilCheck _ => true
  | .call c => (match c.callee with | .builtin .len => true | .builtin .cap => true | _ => false)
  | _ => false

theorem ok_bind_value {s : Sem Value} {x : Next} {w' : World} (h : (do pure (Next.value (← s)) : Sem Next).run P w = .ok x w') : ∃ v, x = .value v := by
  simp only [Sem.run_bind] at h
  cases hs : s.run P w with
  | ok v w1 => rw [hs] at h; simp only [Result.andThen, Sem.run_pure, Result.ok.injEq] at h; exact ⟨v, h.1.symm⟩
  | halt x w1 => rw [hs] at h; simp [Result.andThen] at h

theorem vd_bind {α : Type} {s : Sem α} {f : α → Sem Next} (hf : ∀ (a : α) (w : World) x w', (f a).run P w = .ok x w' → ∃ v, x = .value v) {x : Next} {w' : World} (h : (s >>= f).run P w = .ok x w') : ∃ v, x = .value v := by
  simp only [Sem.run_bind] at h
  cases hs : s.run P w with
  | ok v w1 => rw [hs] at h; exact hf _ _ _ _ h
  | halt x w1 => rw [hs] at h; simp [Result.andThen] at h
theorem vd_pure (v : Value) (x : Next) (w' : World) (h : (pure (Next.value v) : Sem Next).run P w = .ok x w') : ∃ v, x = .value v := by
  simp only [Sem.run_pure, Result.ok.injEq] at h; exact ⟨_, h.1.symm⟩

theorem valued_ok {o : Oper} {ρ : Operand → Value} {x : Next} {w' : World} (hv : valued o = true) (h : (execOp ρ o).run P w = .ok x w') : ∃ v, x = .value v := by
  obtain ⟨dst, op, type, pos, after, guard⟩ := o
  unfold execOp at h
  cases op <;> simp only [valued, Bool.false_eq_true] at hv <;> simp only at h
  case move y => simp only [Sem.run_pure, Result.ok.injEq] at h; exact ⟨_, h.1.symm⟩
  case assign y => simp only [Sem.run_pure, Result.ok.injEq] at h; exact ⟨_, h.1.symm⟩
  case pick c p q =>
    simp only [Sem.run_bind] at h
    cases hs : (asBool (ρ c)).run P w with
    | ok v w1 => rw [hs] at h; simp only [Result.andThen, Sem.run_pure, Result.ok.injEq] at h; exact ⟨_, h.1.symm⟩
    | halt x w1 => rw [hs] at h; simp [Result.andThen] at h
  case nilCheck y =>
    have hp : (runtimePanic .nilDeref : Sem Next).run P w = .ok x w' → ∃ v, x = .value v := by
      intro he
      exfalso
      simp [runtimePanic, goPanic] at he
    (repeat' split at h) <;> first
      | exact hp h
      | (simp only [Sem.run_pure, Result.ok.injEq] at h; exact ⟨_, h.1.symm⟩)
      | (refine vd_bind (fun p w1 x1 w2 h1 => vd_bind (fun q w3 x3 w4 h3 => ?_) h1) h
         split at h3
         · exact vd_bind (fun _ _ _ _ h5 => vd_pure _ _ _ h5) h3
         · exact vd_pure _ _ _ h3)
  case call c =>
    obtain ⟨callee, args, ats⟩ := c
    cases callee with
    | value f => cases hv
    | invoke r m => cases hv
    | builtin b =>
      cases b <;> first
        | (cases hv; done)
        | (rw [Sem.run_bind] at h; exact ok_bind_value h)
  all_goals exact ok_bind_value h

def takeB (md : Region.Mode) (ops : Array Oper) : Array Bool → List Nat → Bool
  | _, [] => true
  | listed, i :: r => (match ops[i]? with | some o => valued o | none => false) && (Region.ready md ops listed).contains i && Region.free md ops listed i && takeB md ops (listed.setIfInBounds i true) r

theorem yields_of_quiet {o : Oper} {a : Act} {v : Value} (hv : valued o = true) (hw : Region.wanted o (yielded ops a.tmps) = true) (h : ∀ w : World, True → o.quietAt P a (fun _ => True) w v) : Yields P ops o v a := by
  left
  refine ⟨hw, fun w => ?_⟩
  have h1 := h w trivial
  unfold Oper.quietAt at h1
  cases hr : (execOp a.eval o).run P w with
  | ok x w' =>
    obtain ⟨u, rfl⟩ := valued_ok hv hr
    rw [hr] at h1
    simp only [Oper.quietUpon] at h1
    obtain ⟨rfl, rfl⟩ := h1
    rfl
  | halt x w' =>
    rw [hr] at h1
    simp only [Oper.quietUpon] at h1

theorem take_all {Q : Exit → Act → World → Prop} (hs : Region.noSelect ops = true) (fuel : Nat) : ∀ (is : List Nat) (listed : Array Bool) (a : Act), takeB md ops listed is = true →
    wpQuiet P ops (fun _ => True) (fun a' => wpAny P md ops (Qn Q) fuel (listAll listed is) a' w) (opsAt ops is) a → wpAny P md ops (Qn Q) (fuel + is.length) listed a w
  | [], _, _, _, h => h
  | i :: r, listed, a, hB, h => by
    simp only [takeB, Bool.and_eq_true] at hB
    obtain ⟨⟨⟨hv, hr⟩, hf⟩, hB'⟩ := hB
    cases ho : ops[i]? with
    | none => rw [ho] at hv; cases hv
    | some o =>
      rw [ho] at hv
      simp only [opsAt, ho] at h
      unfold wpQuiet at h
      rw [List.length_cons, ← Nat.add_assoc]
      split at h
      · rename_i hw
        obtain ⟨v, h1, h2⟩ := h
        exact wpAny_take (Q := Qn Q) ho hs hf hr (fun _ _ _ h => h.elim) (yields_of_quiet hv hw h1) (take_all hs fuel r _ _ hB' h2)
      · rename_i hw
        exact wpAny_take (Q := Qn Q) ho hs hf hr (fun _ _ _ h => h.elim) (.inr ⟨by simpa using hw, rfl⟩) (take_all hs fuel r _ _ hB' h)

/-- Operations that look at no world, taken first. -/
theorem any_take {Q : Exit → Act → World → Prop} {n : Nat} {listed : Array Bool} {a : Act} (is : List Nat) (hB : (Region.noSelect ops && takeB md ops listed is && decide (is.length ≤ n)) = true)
    (h : wpQuiet P ops (fun _ => True) (fun a' => wpAny P md ops (Qn Q) (n - is.length) (listAll listed is) a' w) (opsAt ops is) a) : wpAny P md ops (Qn Q) n listed a w := by
  simp only [Bool.and_eq_true, decide_eq_true_eq] at hB
  have := take_all hB.1.1 (n - is.length) is listed a hB.1.2 h
  rwa [Nat.sub_add_cancel hB.2] at this


/-! ### Any operations, by what holds whichever have run -/
def unl (listed : Array Bool) : Nat := listed.toList.count false
theorem ready_spec {listed : Array Bool} {i : Nat} (h : i ∈ Region.ready md ops listed) : i < ops.size ∧ listed.getD i true = false ∧ ∀ o, ops[i]? = some o → ∀ e ∈ o.after, Region.binds md e = true → listed.getD e.on false = true := by
  unfold Region.ready at h
  rw [List.mem_filter] at h
  obtain ⟨h1, h2⟩ := h
  simp only [Bool.and_eq_true, Bool.not_eq_true'] at h2
  refine ⟨List.mem_range.1 h1, h2.1, fun o ho e he hb => ?_⟩
  have h3 := h2.2
  rw [ho] at h3
  simp only [Option.map_some, Option.getD_some] at h3
  have h4 := Array.all_eq_true_iff_forall_mem.1 h3 e he
  simpa [hb] using h4
theorem unl_set {listed : Array Bool} {i : Nat} (h : listed.getD i true = false) : unl (listed.setIfInBounds i true) + 1 = unl listed := by
  have hi : i < listed.size := by
    rcases Nat.lt_or_ge i listed.size with h1 | h1
    · exact h1
    · simp [Array.getD, Nat.not_lt.2 h1] at h
  have hv : listed[i] = false := by simpa [Array.getD, hi] using h
  unfold unl
  rw [Array.toList_setIfInBounds]
  have h1 : i < listed.toList.length := by simpa using hi
  have h2 : listed.toList[i] = false := by simpa using hv
  generalize listed.toList = l at *
  have e : l = l.take i ++ false :: l.drop (i + 1) := by
    rw [← h2, ← List.drop_eq_getElem_cons h1, List.take_append_drop]
  have hc : l.count false = (l.take i).count false + (1 + (l.drop (i + 1)).count false) := by
    have := congrArg (List.count false) e
    rw [List.count_append, List.count_cons] at this
    simp at this
    omega
  rw [List.set_eq_take_append_cons_drop, if_pos h1, hc, List.count_append, List.count_cons]
  simp
  omega
theorem any_inv {Q : Exit → Act → World → Prop} {I : Array Bool → Act → World → Prop} (hend : ∀ listed a w, I listed a w → Region.ready md ops listed = [] → Q .normal a w)
    (hstep : ∀ listed a w i, I listed a w → i < ops.size → listed.getD i true = false → (∀ o, ops[i]? = some o → ∀ e ∈ o.after, Region.binds md e = true → listed.getD e.on false = true) → wpOp P ops (Qn Q) i (fun a' w' => I (listed.setIfInBounds i true) a' w') a w) :
    ∀ (n : Nat) (listed : Array Bool) (a : Act) (w : World), unl listed ≤ n → I listed a w → wpAny P md ops (Qn Q) n listed a w
  | 0, listed, a, w, hn, h => by
    have hr : Region.ready md ops listed = [] := by
      cases hq : Region.ready md ops listed with
      | nil => rfl
      | cons i r =>
        have h1 := (ready_spec (i := i) (by rw [hq]; simp)).2.1
        have := unl_set h1
        omega
    exact ⟨hr, hend _ _ _ h hr⟩
  | n + 1, listed, a, w, hn, h => by
    refine ⟨fun hr => hend _ _ _ h hr, fun i hi => ?_⟩
    obtain ⟨h1, h2, h3⟩ := ready_spec hi
    have hs := hstep listed a w i h h1 h2 h3
    have hm := unl_set h2
    have hK : ∀ a' w', I (listed.setIfInBounds i true) a' w' → wpAny P md ops (Qn Q) n (listed.setIfInBounds i true) a' w' := fun a' w' h' => any_inv hend hstep n _ a' w' (by omega) h'
    unfold wpOp at hs ⊢
    cases ho : ops[i]? with
    | none => rw [ho] at hs; exact hK _ _ hs
    | some o =>
      rw [ho] at hs
      simp only at hs ⊢
      split
      · rename_i hw
        rw [if_pos hw] at hs
        rcases hs with hs | hs
        · exact .inl (Oper.wp_mono hK hs)
        · exact .inr hs
      · rename_i hw
        rw [if_neg hw] at hs
        exact hK _ _ hs
end
end Go.Proofs.YtpemfmjplejdiaaDoor
