/- A region that draws its order, walked block by block: operations that look at no world; operations that only read; an operation that is the only one that may come up. No condition. -/
import Derived.Test.YtkpdbdlkihgofaaDoorReg
namespace Go.Proofs.YtkpdbdlkihgofaaDoor
open Go.RowKit

section
variable {P : Program} {ops : Array Oper} {md : Region.Mode} {w : World}

/-- A region is shown to end at its end. -/
def Qn (Q : Exit → Act → World → Prop) : Exit → Act → World → Prop
  | .normal, a, w => Q .normal a w
  | _, _, _ => False

theorem any_start {id : Nat} {Q : Exit → Act → World → Prop} {a : Act} {l : List Oper} (hm : P.follows .mixedOrders = true)
    (h : wpAny P .any l.toArray (Qn Q) l.length (Array.replicate l.length false) a w.drew) : (Code.region id l.toArray true).wp P Q a w :=
  Code.wp_mono (fun e a w h => by cases e <;> first | exact h | exact h.elim) (wp_region_any (Q := Qn Q) hm (by simpa using h))

theorem any_end {Q : Exit → Act → World → Prop} {a : Act} {listed : Array Bool} {fuel : Nat} (hr : (Region.ready md ops listed).isEmpty = true) (h : Q .normal a w) : wpAny P md ops (Qn Q) fuel listed a w :=
  wpAny_done (Q := Qn Q) (by simpa using hr) h fuel

/-- The operations of these numbers. -/
def opsAt (ops : Array Oper) : List Nat → List Oper
  | [] => []
  | i :: r => match ops[i]? with | some o => o :: opsAt ops r | none => opsAt ops r

def listAll (listed : Array Bool) : List Nat → Array Bool
  | [] => listed
  | i :: r => listAll (listed.setIfInBounds i true) r

/-! ### One operation that is the only one that may come up -/
theorem any_one {Q : Exit → Act → World → Prop} {a : Act} {listed : Array Bool} {n : Nat} (i : Nat) (hr : (decide (Region.ready md ops listed = [i]) && decide (i < ops.size) && decide (0 < n)) = true)
    (h : wpList P ops (fun e a2 w2 => match e with | .normal => wpAny P md ops (Qn Q) (n - 1) (listed.setIfInBounds i true) a2 w2 | _ => False) (opsAt ops [i]) a w) : wpAny P md ops (Qn Q) n listed a w := by
  simp only [Bool.and_eq_true, decide_eq_true_eq] at hr
  obtain ⟨⟨hr, hi⟩, hn⟩ := hr
  obtain ⟨fuel, rfl⟩ : ∃ fuel, n = fuel + 1 := ⟨n - 1, by omega⟩
  rw [Nat.add_sub_cancel] at h
  have ho : ops[i]? = some ops[i] := Array.getElem?_eq_getElem hi
  generalize ops[i] = o at ho
  simp only [opsAt, ho] at h
  refine ⟨fun h0 => (by rw [h0] at hr; cases hr), fun j hj => ?_⟩
  rw [hr] at hj
  obtain rfl : j = i := by simpa using hj
  unfold wpOp
  simp only [ho]
  unfold wpList at h
  split
  · rename_i hw
    rw [if_pos hw] at h
    rcases h with h1 | ⟨_, h2⟩
    · left
      unfold Oper.wp at h1 ⊢
      generalize (execOp a.eval o).run P w = r at h1 ⊢
      cases r with
      | ok nx w' =>
        cases nx <;> simp only [Oper.upon] at h1 ⊢ <;> first
          | exact h1
          | exact Calls.mono h1 (fun e w'' he => by cases e <;> first | exact he | exact he.elim | (obtain ⟨_, _, hf⟩ := he; exact hf.elim))
          | exact Rows.mono h1 (fun _ _ he => he)
      | halt x w' => cases x <;> simp only [Oper.upon] at h1
    · exact absurd h2 (by simp [LetsOut])
  · rename_i hw
    rw [if_neg hw] at h
    exact h

/-! ### Operations that look at no world -/
/-- These hand on a value or end the call: nothing else. -/
def valued (o : Oper) : Bool :=
  match o.op with
  | .move _ | .assign _ | .pick .. | .binOp .. | .unOp .. | .convert .. | .slice .. | .fieldAddr .. | .field .. | .indexAddr .. | .index .. | .extract .. => true
  | .nilCheck _ => true
  | .call c => (match c.callee with | .builtin .len => true | .builtin .cap => true | _ => false)
  | _ => false

theorem ok_bind_value {s : Sem Value} {x : Next} {w' : World} (h : (do pure (Next.value (← s)) : Sem Next).run P w = .ok x w') : ∃ v, x = .value v := by
  simp only [Sem.run_bind] at h
  cases hs : s.run P w with
  | ok v w1 => rw [hs] at h; simp only [Result.andThen, Sem.run_pure, Result.ok.injEq] at h; exact ⟨v, h.1.symm⟩
  | halt x w1 => rw [hs] at h; simp [Result.andThen] at h

theorem vd_bind {α : Type} {s : Sem α} {f : α → Sem Next} (hf : ∀ (a : α) (w : World) x w', (f a).run P w = .ok x w' → ∃ v, x = .value v) {x : Next} {w' : World} (h : (s >>= f).run P w = .ok x w') : ∃ v, x = .value v := by
  simp only [Sem.run_bind] at h
  cases hs : s.run P w with
  | ok v w1 => rw [hs] at h; exact hf _ _ _ _ h
  | halt x w1 => rw [hs] at h; simp [Result.andThen] at h
theorem vd_pure (v : Value) (x : Next) (w' : World) (h : (pure (Next.value v) : Sem Next).run P w = .ok x w') : ∃ v, x = .value v := by
  simp only [Sem.run_pure, Result.ok.injEq] at h; exact ⟨_, h.1.symm⟩

theorem valued_ok {o : Oper} {ρ : Operand → Value} {x : Next} {w' : World} (hv : valued o = true) (h : (execOp ρ o).run P w = .ok x w') : ∃ v, x = .value v := by
  obtain ⟨dst, op, type, pos, after, guard⟩ := o
  unfold execOp at h
  cases op <;> simp only [valued, Bool.false_eq_true] at hv <;> simp only at h
  case move y => simp only [Sem.run_pure, Result.ok.injEq] at h; exact ⟨_, h.1.symm⟩
  case assign y => simp only [Sem.run_pure, Result.ok.injEq] at h; exact ⟨_, h.1.symm⟩
  case pick c p q =>
    simp only [Sem.run_bind] at h
    cases hs : (asBool (ρ c)).run P w with
    | ok v w1 => rw [hs] at h; simp only [Result.andThen, Sem.run_pure, Result.ok.injEq] at h; exact ⟨_, h.1.symm⟩
    | halt x w1 => rw [hs] at h; simp [Result.andThen] at h
  case nilCheck y =>
    have hp : (runtimePanic .nilDeref : Sem Next).run P w = .ok x w' → ∃ v, x = .value v := by
      intro he
      exfalso
      simp [runtimePanic, goPanic] at he
    (repeat' split at h) <;> first
      | exact hp h
      | (simp only [Sem.run_pure, Result.ok.injEq] at h; exact ⟨_, h.1.symm⟩)
      | (refine vd_bind (fun p w1 x1 w2 h1 => vd_bind (fun q w3 x3 w4 h3 => ?_) h1) h
         split at h3
         · exact vd_bind (fun _ _ _ _ h5 => vd_pure _ _ _ h5) h3
         · exact vd_pure _ _ _ h3)
  case call c =>
    obtain ⟨callee, args, ats⟩ := c
    cases callee with
    | value f => cases hv
    | invoke r m => cases hv
    | builtin b =>
      cases b <;> first
        | (cases hv; done)
        | (rw [Sem.run_bind] at h; exact ok_bind_value h)
  all_goals exact ok_bind_value h

def takeB (md : Region.Mode) (ops : Array Oper) : Array Bool → List Nat → Bool
  | _, [] => true
  | listed, i :: r => (match ops[i]? with | some o => valued o | none => false) && (Region.ready md ops listed).contains i && Region.free md ops listed i && takeB md ops (listed.setIfInBounds i true) r

theorem yields_of_quiet {o : Oper} {a : Act} {v : Value} (hv : valued o = true) (hw : Region.wanted o (yielded ops a.tmps) = true) (h : ∀ w : World, True → o.quietAt P a (fun _ => True) w v) : Yields P ops o v a := by
  left
  refine ⟨hw, fun w => ?_⟩
  have h1 := h w trivial
  unfold Oper.quietAt at h1
  cases hr : (execOp a.eval o).run P w with
  | ok x w' =>
    obtain ⟨u, rfl⟩ := valued_ok hv hr
    rw [hr] at h1
    simp only [Oper.quietUpon] at h1
    obtain ⟨rfl, rfl⟩ := h1
    rfl
  | halt x w' =>
    rw [hr] at h1
    simp only [Oper.quietUpon] at h1

theorem take_all {Q : Exit → Act → World → Prop} (hs : Region.noSelect ops = true) (fuel : Nat) : ∀ (is : List Nat) (listed : Array Bool) (a : Act), takeB md ops listed is = true →
    wpQuiet P ops (fun _ => True) (fun a' => wpAny P md ops (Qn Q) fuel (listAll listed is) a' w) (opsAt ops is) a → wpAny P md ops (Qn Q) (fuel + is.length) listed a w
  | [], _, _, _, h => h
  | i :: r, listed, a, hB, h => by
    simp only [takeB, Bool.and_eq_true] at hB
    obtain ⟨⟨⟨hv, hr⟩, hf⟩, hB'⟩ := hB
    cases ho : ops[i]? with
    | none => rw [ho] at hv; cases hv
    | some o =>
      rw [ho] at hv
      simp only [opsAt, ho] at h
      unfold wpQuiet at h
      rw [List.length_cons, ← Nat.add_assoc]
      split at h
      · rename_i hw
        obtain ⟨v, h1, h2⟩ := h
        exact wpAny_take (Q := Qn Q) ho hs hf hr (fun _ _ _ h => h.elim) (yields_of_quiet hv hw h1) (take_all hs fuel r _ _ hB' h2)
      · rename_i hw
        exact wpAny_take (Q := Qn Q) ho hs hf hr (fun _ _ _ h => h.elim) (.inr ⟨by simpa using hw, rfl⟩) (take_all hs fuel r _ _ hB' h)

/-- Operations that look at no world, taken first. -/
theorem any_take {Q : Exit → Act → World → Prop} {n : Nat} {listed : Array Bool} {a : Act} (is : List Nat) (hB : (Region.noSelect ops && takeB md ops listed is && decide (is.length ≤ n)) = true)
    (h : wpQuiet P ops (fun _ => True) (fun a' => wpAny P md ops (Qn Q) (n - is.length) (listAll listed is) a' w) (opsAt ops is) a) : wpAny P md ops (Qn Q) n listed a w := by
  simp only [Bool.and_eq_true, decide_eq_true_eq] at hB
  have := take_all hB.1.1 (n - is.length) is listed a hB.1.2 h
  rwa [Nat.sub_add_cancel hB.2] at this

/-! ### Operations that only read, all of which stand ahead of what is left -/
def ancB (md : Region.Mode) (ops : Array Oper) : Nat → Nat → Nat → Bool
  | 0, _, _ => false
  | f + 1, r, i => match ops[r]? with
    | none => false
    | some o => (o.after.any fun e => Region.binds md e && e.on == i) || (o.after.any fun e => Region.binds md e && ancB md ops f e.on i)

def closedB (md : Region.Mode) (ops : Array Oper) (listed : Array Bool) : Bool :=
  decide (listed.size = ops.size) && (List.range ops.size).all fun j => !listed.getD j false || (match ops[j]? with | some o => o.after.all fun e => !Region.binds md e || listed.getD e.on false | none => true)

def Cl (md : Region.Mode) (ops : Array Oper) (listed : Array Bool) : Prop :=
  listed.size = ops.size ∧ ∀ j oj, ops[j]? = some oj → listed.getD j false = true → ∀ e ∈ oj.after, Region.binds md e = true → listed.getD e.on false = true

theorem closedB_spec {listed : Array Bool} (h : closedB md ops listed = true) : Cl md ops listed := by
  simp only [closedB, Bool.and_eq_true, decide_eq_true_eq] at h
  refine ⟨h.1, fun j oj hj hl e he hb => ?_⟩
  have h1 := List.all_eq_true.1 h.2 j (List.mem_range.2 (Array.getElem?_eq_some_iff.1 hj).1)
  simp only [hj, hl, Bool.not_true, Bool.false_or] at h1
  have := Array.all_eq_true_iff_forall_mem.1 h1 e he
  simpa [hb] using this

theorem Cl.set {listed : Array Bool} (h : Cl md ops listed) {i : Nat} (hi : i ∈ Region.ready md ops listed) : Cl md ops (listed.setIfInBounds i true) := by
  obtain ⟨_, oi, hoi, hall⟩ := mem_ready.1 hi
  refine ⟨by simp [h.1], fun j oj hj hl e he hb => ?_⟩
  by_cases hij : i = j
  · subst hij
    obtain rfl : oj = oi := Option.some.inj (hj.symm.trans hoi)
    exact getD_set_true (hall e he hb)
  · rw [getD_set_ne false hij] at hl
    exact getD_set_true (h.2 j oj hj hl e he hb)

theorem anc_listed {listed : Array Bool} (h : Cl md ops listed) {i : Nat} : ∀ (f r : Nat) (o : Oper), ops[r]? = some o → (∀ e ∈ o.after, Region.binds md e = true → listed.getD e.on false = true) → ancB md ops f r i = true → listed.getD i false = true
  | 0, _, _, _, _, hA => by cases hA
  | f + 1, r, o, ho, hall, hA => by
    simp only [ancB, ho, Bool.or_eq_true] at hA
    rcases hA with hA | hA
    · obtain ⟨e, he, hb⟩ := Array.any_eq_true'.1 hA
      simp only [Bool.and_eq_true, beq_iff_eq] at hb
      rw [← hb.2]; exact hall e he hb.1
    · obtain ⟨e, he, hb⟩ := Array.any_eq_true'.1 hA
      simp only [Bool.and_eq_true] at hb
      have hl := hall e he hb.1
      cases hoe : ops[e.on]? with
      | none => have h2 := hb.2; cases f <;> simp [ancB, hoe] at h2
      | some oe => exact anc_listed h f e.on oe hoe (fun e' he' hb' => h.2 e.on oe hoe hl e' he' hb') hb.2

/-- Whatever is not of D and not listed waits for all of D. -/
def waitB (md : Region.Mode) (ops : Array Oper) (listed : Array Bool) (D : List Nat) : Bool :=
  (List.range ops.size).all fun r => listed.getD r true || D.contains r || D.all fun i => ancB md ops ops.size r i

def anyS (P : Program) (md : Region.Mode) (ops : Array Oper) (w : World) (D : List Nat) (L : Array Bool → Act → Prop) : Nat → Array Bool → Act → Prop
  | 0, listed, a => L listed a
  | f + 1, listed, a => Region.ready md ops listed ≠ [] ∧ ∀ i ∈ Region.ready md ops listed, i ∈ D ∧ stOp P ops w i (anyS P md ops w D L f (listed.setIfInBounds i true)) a

theorem any_of_S {D : List Nat} {g : Nat} {L : Array Bool → Act → Prop} {Q : Exit → Act → World → Prop} (hL : ∀ listed a, L listed a → wpAny P md ops Q g listed a w) :
    ∀ (f : Nat) (listed : Array Bool) (a : Act), anyS P md ops w D L f listed a → wpAny P md ops Q (f + g) listed a w
  | 0, listed, a, h => by rw [Nat.zero_add]; exact hL _ _ h
  | f + 1, listed, a, h => by
    rw [show f + 1 + g = (f + g) + 1 by omega]
    exact ⟨fun h0 => absurd h0 h.1, fun i hi => wpOp_of_stOp (fun a' h' => any_of_S hL f _ a' h') (h.2 i hi).2⟩
def stillB (md : Region.Mode) (ops : Array Oper) : Array Bool → List Nat → Bool
  | _, [] => true
  | listed, i :: r => (Region.ready md ops listed).contains i && Region.free md ops listed i && stillB md ops (listed.setIfInBounds i true) r

theorem in_D {listed0 listed : Array Bool} {D : List Nat} (hW : waitB md ops listed0 D = true) (hC : Cl md ops listed) (hM : ∀ j, listed.getD j true = false → listed0.getD j true = false)
    {i r : Nat} (hi : i ∈ D) (hun : listed.getD i true = false) (hr : r ∈ Region.ready md ops listed) : r ∈ D := by
  obtain ⟨hru, o, ho, hall⟩ := mem_ready.1 hr
  have h1 := List.all_eq_true.1 hW r (List.mem_range.2 (Array.getElem?_eq_some_iff.1 ho).1)
  simp only [Bool.or_eq_true, hM r hru, Bool.false_eq_true, false_or] at h1
  rcases h1 with h1 | h1
  · simpa using h1
  · have h2 := List.all_eq_true.1 h1 i hi
    have h3 := anc_listed hC _ _ _ ho hall h2
    rw [getD_both hun] at h3
    cases h3

theorem st_first {i : Nat} {oi : Oper} {v : Value} {listed0 : Array Bool} {D : List Nat} {L : Array Bool → Act → Prop} (hi : ops[i]? = some oi) (hsel : ∀ (j : Nat) (o : Oper) cs b, ops[j]? = some o → o.op ≠ .select cs b)
    (hW : waitB md ops listed0 D = true) (hin : i ∈ D) (hdone : ∀ listed a, L listed a → ∀ d ∈ D, listed.getD d true = true) :
    ∀ (f : Nat) (listed : Array Bool) (a : Act), Cl md ops listed → (∀ j, listed.getD j true = false → listed0.getD j true = false) →
      (∀ j oj, ops[j]? = some oj → j ≠ i → listed.getD j true = false → (∀ e ∈ oj.after, Region.binds md e = true → e.on ≠ i) → oi.apart ops oj = true) →
      i ∈ Region.ready md ops listed → YieldsAt P ops w oi v a →
      anyS P md ops w D L f (listed.setIfInBounds i true) (a.put oi.dst v) → anyS P md ops w D L (f + 1) listed a := by
  intro f
  induction f with
  | zero =>
    intro listed a hC hM _ hr hy H
    have hun := (mem_ready.1 hr).1
    refine ⟨fun h => (by rw [h] at hr; cases hr), fun j hj => ?_⟩
    by_cases hji : j = i
    · subst hji; exact ⟨hin, hy.stOp hi H⟩
    · exfalso
      have hd := hdone _ _ H j (in_D hW hC hM hin hun hj)
      rw [getD_set_ne true (Ne.symm hji), (mem_ready.1 hj).1] at hd
      cases hd
  | succ f ih =>
    intro listed a hC hM hfree hr hy H
    have hun := (mem_ready.1 hr).1
    refine ⟨fun h => (by rw [h] at hr; cases hr), fun j hj => ?_⟩
    by_cases hji : j = i
    · subst hji; exact ⟨hin, hy.stOp hi H⟩
    · refine ⟨in_D hW hC hM hin hun hj, ?_⟩
      have h1 := (H.2 j (ready_mono hj hji)).2
      obtain ⟨hjun, oj, hoj, hall⟩ := mem_ready.1 hj
      have hnot : ∀ e ∈ oj.after, Region.binds md e = true → e.on ≠ i := fun e he hb heq => by
        have h1 := hall e he hb
        rw [heq, getD_both hun] at h1
        cases h1
      have h2 := stOp_put hoj (hfree j oj hoj hji hjun hnot) (fun cs b => hsel i oi cs b hi) (fun cs b => hsel j oj cs b hoj) hy h1
      refine stOp_mono (fun a' h3 => ih (listed.setIfInBounds j true) a' (hC.set hj) ?_ ?_ (ready_mono hr (Ne.symm hji)) h3.1 ?_) h2
      · intro k hk
        by_cases hjk : j = k
        · subst hjk; exact hM _ hjun
        · rw [getD_set_ne true hjk] at hk; exact hM _ hk
      · intro k ok hk hki hunk hno
        refine hfree k ok hk hki ?_ hno
        by_cases hjk : j = k
        · subst hjk; exact hjun
        · rw [getD_set_ne true hjk] at hunk; exact hunk
      · rw [Array.setIfInBounds_comm _ _ hji]
        exact h3.2

theorem st_lex {listed0 X : Array Bool} {D : List Nat} {Lq : Act → Prop} (hsel : Region.noSelect ops = true) (hW : waitB md ops listed0 D = true) :
    ∀ (E : List Nat) (listed : Array Bool) (a : Act), (∀ i ∈ E, i ∈ D) → (∀ d ∈ D, d ∈ E ∨ listed.getD d true = true) → Cl md ops listed → (∀ j, listed.getD j true = false → listed0.getD j true = false) →
    stillB md ops listed E = true → listAll listed E = X → wpStill P ops w Lq (opsAt ops E) a →
    anyS P md ops w D (fun l' a' => (∀ d ∈ D, l'.getD d true = true) ∧ l' = X ∧ Lq a') E.length listed a
  | [], listed, a, _, hd, _, _, _, hX, h => ⟨fun d hd' => (hd d hd').resolve_left (by simp), hX, h⟩
  | i :: E, listed, a, hE, hd, hC, hM, hB, hX, h => by
    simp only [stillB, Bool.and_eq_true] at hB
    obtain ⟨⟨hr, hf⟩, hB'⟩ := hB
    have hr' : i ∈ Region.ready md ops listed := by simpa using hr
    obtain ⟨hun, oi, hoi, hall⟩ := mem_ready.1 hr'
    have hst : stOp P ops w i (wpStill P ops w Lq (opsAt ops E)) a := by unfold stOp; simp only [hoi]; simp only [opsAt, hoi] at h; unfold wpStill at h; exact h
    obtain ⟨v, hy, hK⟩ := yieldsAt_of_stOp hoi hst
    have hset : (listed.setIfInBounds i true).getD i true = true := by
      by_cases hlt : i < listed.size <;> simp [Array.getD, hlt]
    refine st_first hoi (Region.noSelect_spec hsel) hW (hE i (by simp)) (fun l' a' hL => hL.1) E.length listed a hC hM (Region.free_spec hoi hf) hr' hy
      (st_lex hsel hW E _ _ (fun j hj => hE j (by simp [hj])) ?_ (hC.set hr') ?_ hB' hX hK)
    · intro d hdd
      by_cases hid : i = d
      · subst hid; exact .inr hset
      · rcases hd d hdd with h1 | h1
        · rcases List.mem_cons.1 h1 with h2 | h2
          · exact absurd h2.symm hid
          · exact .inl h2
        · exact .inr (by rw [getD_set_ne true hid]; exact h1)
    · intro k hk
      by_cases hik : i = k
      · subst hik; rw [hset] at hk; cases hk
      · rw [getD_set_ne true hik] at hk; exact hM _ hk

/-- Operations that only read: each of them stands ahead of whatever else is left. -/
theorem any_still {Q : Exit → Act → World → Prop} {n : Nat} {listed : Array Bool} {a : Act} (D : List Nat)
    (hB : (Region.noSelect ops && closedB md ops listed && waitB md ops listed D && stillB md ops listed D && decide (D.length ≤ n)) = true)
    (h : wpQuiet P ops (fun w' => w' = w) (fun a' => wpAny P md ops (Qn Q) (n - D.length) (listAll listed D) a' w) (opsAt ops D) a) : wpAny P md ops (Qn Q) n listed a w := by
  simp only [Bool.and_eq_true, decide_eq_true_eq] at hB
  obtain ⟨⟨⟨⟨hsel, hC⟩, hW⟩, hS⟩, hn⟩ := hB
  have H := st_lex (X := listAll listed D) hsel hW D listed a (fun _ h => h) (fun d h => .inl h) (closedB_spec hC) (fun _ h => h) hS rfl (still_of_quiet _ _ h)
  have H2 := any_of_S (Q := Qn Q) (g := n - D.length) (fun l' a' hL => by rw [hL.2.1]; exact hL.2.2) _ _ _ H
  rwa [Nat.add_sub_cancel' hn] at H2
end
end Go.Proofs.YtkpdbdlkihgofaaDoor
