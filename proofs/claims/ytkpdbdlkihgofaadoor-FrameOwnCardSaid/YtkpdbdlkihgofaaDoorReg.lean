/- A region that draws its order and holds one call, walked once. No condition. -/
import Derived.Test.YtkpdbdlkihgofaaDoorBase
namespace Go.Proofs.YtkpdbdlkihgofaaDoor
open Go.RowKit

section
variable {P : Program} {ops : Array Oper} {md : Region.Mode} {w : World}

/-- Each operation behind number n waits for one from n on. -/
def downB (md : Region.Mode) (ops : Array Oper) (n : Nat) : Bool :=
  (List.range ops.size).all fun t => decide (t ≤ n) || (List.range t).any fun j => decide (n ≤ j) && Region.waitsFor md ops t j

def finB (md : Region.Mode) (ops : Array Oper) (n : Nat) (listed : Array Bool) : Bool :=
  decide (Region.ready md ops listed = [n]) && Region.lexFrom md ops (ops.size - n - 1) (n + 1) (listed.setIfInBounds n true)

def headB (md : Region.Mode) (ops : Array Oper) (n : Nat) : Nat → Nat → Array Bool → Bool
  | 0, _, listed => finB md ops n listed
  | f + 1, k, listed => (Region.ready md ops listed).contains k && Region.free md ops listed k && headB md ops n f (k + 1) (listed.setIfInBounds k true)

def callB (md : Region.Mode) (ops : Array Oper) (n : Nat) : Bool :=
  Region.noSelect ops && decide (n < ops.size) && Region.sinkB md ops n && downB md ops n && headB md ops n n 0 (Array.replicate ops.size false)

theorem hd_wait {n : Nat} {listed : Array Bool} (hs : Region.sinkB md ops n = true) (hc : downB md ops n = true) (hn : n < ops.size) (inv : HeadInv md ops n listed)
    {i : Nat} (hi : i < n) (hun : listed.getD i true = false) : n ∉ Region.ready md ops listed := by
  suffices H : ∀ d i, n - i = d → i < n → listed.getD i true = false → n ∉ Region.ready md ops listed from H _ i rfl hi hun
  intro d
  induction d using Nat.strongRecOn with
  | _ d ih =>
    intro i hd hi hun hr
    obtain ⟨_, on, hon, hall⟩ := mem_ready.1 hr
    obtain ⟨j, hj, hj2⟩ := List.any_eq_true.1 (List.all_eq_true.1 hs i (List.mem_range.2 hi))
    simp only [Bool.and_eq_true, decide_eq_true_eq] at hj2
    obtain ⟨oj, hoj, e, he, hb, heq⟩ := Region.waitsFor_spec hj2.2
    have hjn : j ≤ n := by have := List.mem_range.1 hj; omega
    rcases Nat.lt_or_ge j n with hlt | hge
    · cases hl : listed.getD j false with
      | true =>
        have h2 := inv.closed j oj hoj hl e he hb
        rw [heq, getD_both hun] at h2
        cases h2
      | false => exact ih (n - j) (by omega) j rfl hlt (getD_in (by rw [inv.size]; omega) hl) hr
    · obtain rfl : j = n := by omega
      obtain rfl : oj = on := Option.some.inj (hoj.symm.trans hon)
      have h2 := hall e he hb
      rw [heq, getD_both hun] at h2
      cases h2

theorem tl_wait {n : Nat} {listed : Array Bool} (hc : downB md ops n = true) (inv : HeadInv md ops n listed) {t : Nat} (ht : n < t) : t ∉ Region.ready md ops listed := by
  intro hr
  obtain ⟨_, ot, hot, hall⟩ := mem_ready.1 hr
  have hts : t < ops.size := (Array.getElem?_eq_some_iff.1 hot).1
  have h1 := List.all_eq_true.1 hc t (List.mem_range.2 hts)
  simp only [Bool.or_eq_true, decide_eq_true_eq] at h1
  rcases h1 with h1 | h1
  · omega
  · obtain ⟨j, hj, hj2⟩ := List.any_eq_true.1 h1
    simp only [Bool.and_eq_true, decide_eq_true_eq] at hj2
    obtain ⟨o', ho', e, he, hb, heq⟩ := Region.waitsFor_spec hj2.2
    obtain rfl : o' = ot := Option.some.inj (ho'.symm.trans hot)
    have h2 := hall e he hb
    have hjt := List.mem_range.1 hj
    rw [heq, getD_both (inv.tail j hj2.1 (by omega))] at h2
    cases h2

theorem hd_first {n i : Nat} {oi : Oper} {v : Value} {L : Array Bool → Act → Prop} (hi : ops[i]? = some oi) (hsel : ∀ (j : Nat) (o : Oper) cs b, ops[j]? = some o → o.op ≠ .select cs b)
    (hs : Region.sinkB md ops n = true) (hc : downB md ops n = true) (hn : n < ops.size) (hin : i < n)
    (hdone : ∀ listed a, L listed a → ∀ j ∈ Region.ready md ops listed, n ≤ j) :
    ∀ (f : Nat) (listed : Array Bool) (a : Act), HeadInv md ops n listed →
      (∀ j oj, ops[j]? = some oj → j ≠ i → listed.getD j true = false → (∀ e ∈ oj.after, Region.binds md e = true → e.on ≠ i) → oi.apart ops oj = true) →
      i ∈ Region.ready md ops listed → YieldsAt P ops w oi v a →
      wpAnyL P md ops w n L f (listed.setIfInBounds i true) (a.put oi.dst v) → wpAnyL P md ops w n L (f + 1) listed a := by
  intro f
  induction f with
  | zero =>
    intro listed a inv _ hr hy H
    have hun := (mem_ready.1 hr).1
    refine ⟨fun h => (by rw [h] at hr; cases hr), fun j hj => ?_⟩
    by_cases hji : j = i
    · subst hji; exact ⟨hin, hy.stOp hi H⟩
    · exfalso
      have hge := hdone _ _ H j (ready_mono hj hji)
      rcases Nat.lt_or_ge n j with h | h
      · exact tl_wait hc inv h hj
      · obtain rfl : j = n := by omega
        exact hd_wait hs hc hn inv hin hun hj
  | succ f ih =>
    intro listed a inv hfree hr hy H
    have hun := (mem_ready.1 hr).1
    refine ⟨fun h => (by rw [h] at hr; cases hr), fun j hj => ?_⟩
    by_cases hji : j = i
    · subst hji; exact ⟨hin, hy.stOp hi H⟩
    · have hjn : j < n := by
        rcases Nat.lt_trichotomy j n with h | h | h
        · exact h
        · subst h; exact absurd hj (hd_wait hs hc hn inv hin hun)
        · exact absurd hj (tl_wait hc inv h)
      refine ⟨hjn, ?_⟩
      have h1 := (H.2 j (ready_mono hj hji)).2
      obtain ⟨hjun, oj, hoj, hall⟩ := mem_ready.1 hj
      have hnot : ∀ e ∈ oj.after, Region.binds md e = true → e.on ≠ i := fun e he hb heq => by
        have h1 := hall e he hb
        rw [heq, getD_both hun] at h1
        cases h1
      have h2 := stOp_put hoj (hfree j oj hoj hji hjun hnot) (fun cs b => hsel i oi cs b hi) (fun cs b => hsel j oj cs b hoj) hy h1
      refine stOp_mono (fun a' h3 => ih (listed.setIfInBounds j true) a' (inv.set hj hjn) ?_ (ready_mono hr (Ne.symm hji)) h3.1 ?_) h2
      · intro k ok hk hki hunk hno
        refine hfree k ok hk hki ?_ hno
        by_cases hjk : j = k
        · subst hjk; exact hjun
        · rw [getD_set_ne true hjk] at hunk; exact hunk
      · rw [Array.setIfInBounds_comm _ _ hji]
        exact h3.2

theorem hd_lex {n : Nat} {Lq : Act → Prop} (hsel : Region.noSelect ops = true) (hs : Region.sinkB md ops n = true) (hc : downB md ops n = true) (hn : n < ops.size) :
    ∀ (l : List Oper) (k : Nat) (listed : Array Bool) (a : Act), (∀ j, j < l.length → l[j]? = ops[k + j]?) → k + l.length = n → HeadInv md ops n listed →
    headB md ops n l.length k listed = true → wpStill P ops w Lq l a →
    wpAnyL P md ops w n (fun listed' a' => finB md ops n listed' = true ∧ Lq a') l.length listed a
  | [], _, _, _, _, _, _, hB, h => ⟨hB, h⟩
  | o :: l, k, listed, a, hl, hk, inv, hB, h => by
    have h0 : ops[k]? = some o := by simpa using (hl 0 (by simp)).symm
    simp only [List.length_cons, headB, Bool.and_eq_true] at hB
    obtain ⟨⟨hr, hf⟩, hB'⟩ := hB
    have hkn : k < n := by simp only [List.length_cons] at hk; omega
    have hr' : k ∈ Region.ready md ops listed := by simpa using hr
    have hst : stOp P ops w k (wpStill P ops w Lq l) a := by unfold stOp; simp only [h0]; exact h
    obtain ⟨v, hy, hK⟩ := yieldsAt_of_stOp h0 hst
    refine hd_first h0 (Region.noSelect_spec hsel) hs hc hn hkn ?_ l.length listed a inv (Region.free_spec h0 hf) hr' hy
      (hd_lex hsel hs hc hn l (k + 1) _ _ (fun j hj => by have := hl (j + 1) (by simp; omega); simpa [Nat.add_assoc, Nat.add_comm 1 j] using this) (by simp only [List.length_cons] at hk; omega) (inv.set hr' hkn) hB' hK)
    intro listed' a' hL j hj
    have := hL.1
    simp only [finB, Bool.and_eq_true, decide_eq_true_eq] at this
    rw [this.1] at hj
    have : j = n := by simpa using hj
    omega

theorem still_of_quiet {Lq : Act → Prop} : ∀ (l : List Oper) (a : Act), wpQuiet P ops (fun w' => w' = w) Lq l a → wpStill P ops w Lq l a
  | [], _, h => h
  | o :: l, a, h => by
    unfold wpQuiet at h
    unfold wpStill
    split
    · rename_i hw
      rw [if_pos hw] at h
      obtain ⟨v, h1, h2⟩ := h
      have h3 := still_of_quiet l _ h2
      have h1 := h1 w rfl
      unfold Oper.quietAt at h1
      unfold Oper.still
      generalize (execOp a.eval o).run P w = r at h1 ⊢
      cases r with
      | ok nx w' =>
        cases nx <;> simp only [Oper.quietUpon] at h1 <;> simp only [Oper.stillUpon]
        case value u => obtain ⟨rfl, rfl⟩ := h1; exact ⟨rfl, h3⟩
        case skip => obtain ⟨rfl, rfl⟩ := h1; exact ⟨rfl, h3⟩
        case enter f args => exact ⟨h1.1, v, h1.2, h3⟩
      | halt x w' => simp only [Oper.quietUpon] at h1
    · rename_i hw
      rw [if_neg hw] at h
      exact still_of_quiet l _ h

/-- n operations that only read; one that may do anything; operations that only read. -/
theorem region_call {id : Nat} {Q : Exit → Act → World → Prop} {a : Act} {l : List Oper} (n : Nat) (hm : P.follows .mixedOrders = true) (hB : callB .any l.toArray n = true)
    (h0 : wpQuiet P l.toArray (fun w' => w' = w.drew) (fun a' => wpList P l.toArray (fun e a2 w2 => match e with | .normal => wpQuiet P l.toArray (fun w' => w' = w2) (fun a3 => Q .normal a3 w2) (l.drop (n + 1)) a2 | _ => False) ((l.drop n).take 1) a' w.drew) (l.take n) a) :
    (Code.region id l.toArray true).wp P Q a w := by
  have h := still_of_quiet _ _ h0
  clear h0
  simp only [callB, Bool.and_eq_true, decide_eq_true_eq] at hB
  obtain ⟨⟨⟨⟨hsel, hn⟩, hs⟩, hc⟩, hlex⟩ := hB
  have hn' : n < l.length := by simpa using hn
  have htl : (l.take n).length = n := by simp; omega
  have inv0 : HeadInv .any l.toArray n (Array.replicate l.toArray.size false) :=
    ⟨by simp, fun j oj _ hl => (by rw [getD_replicate_false] at hl; cases hl), fun t _ ht => getD_in (by simpa using ht) (getD_replicate_false _ _)⟩
  have H := hd_lex (md := .any) hsel hs hc hn (l.take n) 0 _ a (fun j hj => by
    have hj' : j < n := by rw [htl] at hj; exact hj
    simp [hj']) (by simpa using htl) inv0 (by rw [htl]; exact hlex) h
  refine wp_region_any hm ?_
  have := wpAny_of_head (Q' := Q) (g := (l.drop (n + 1)).length + 1) (fun listed a' hL => ?_) _ _ _ H
  · rw [htl, show n + ((l.drop (n + 1)).length + 1) = l.toArray.size by simp; omega] at this
    exact this
  · obtain ⟨hfin, hcall⟩ := hL
    simp only [finB, Bool.and_eq_true, decide_eq_true_eq] at hfin
    refine ⟨fun h1 => (by rw [hfin.1] at h1; cases h1), fun i hi => ?_⟩
    rw [hfin.1] at hi
    obtain rfl : i = n := by simpa using hi
    have h0 : (l.drop i).take 1 = [l[i]] := by
      rw [List.drop_eq_getElem_cons hn']; rfl
    rw [h0] at hcall
    have hstep : wpOp P l.toArray (fun e a2 w2 => match e with | .normal => wpQuiet P l.toArray (fun w' => w' = w2) (fun a3 => Q .normal a3 w2) (l.drop (i + 1)) a2 | _ => False) i
        (fun a2 w2 => wpQuiet P l.toArray (fun w' => w' = w2) (fun a3 => Q .normal a3 w2) (l.drop (i + 1)) a2) a' w.drew := by
      unfold wpOp
      simp only [List.getElem?_toArray, List.getElem?_eq_getElem hn']
      exact hcall
    have hstep2 := wpOp_mono (K' := fun a2 w2 => wpAny P .any l.toArray Q (l.drop (i + 1)).length (listed.setIfInBounds i true) a2 w2) (fun a2 w2 hst => by
      have hlx := wpAnyS_lex (md := .any) (ops := l.toArray) hsel (l.drop (i + 1)) (i + 1) (listed.setIfInBounds i true) a2 (fun j => by simp [List.getElem?_drop]) (by
        have := hfin.2
        rw [show (l.drop (i + 1)).length = l.toArray.size - i - 1 by simp; omega]
        exact this) (still_of_quiet _ _ hst)
      exact wpAny_of_still (Q' := Q) (fun _ h => h) _ _ _ hlx) hstep
    unfold wpOp at hstep2 ⊢
    simp only [List.getElem?_toArray, List.getElem?_eq_getElem hn'] at hstep2 ⊢
    split
    · rename_i hw
      rw [if_pos hw] at hstep2
      rcases hstep2 with h1 | ⟨_, h2⟩
      · left
        unfold Oper.wp at h1 ⊢
        generalize (execOp a'.eval l[i]).run P w.drew = r at h1 ⊢
        cases r with
        | ok nx w' =>
          cases nx <;> simp only [Oper.upon] at h1 ⊢ <;> first
            | exact h1
            | exact Calls.mono h1 (fun e w'' he => by cases e <;> first | exact he | exact he.elim | (obtain ⟨_, _, hf⟩ := he; exact hf.elim))
        | halt x w' => cases x <;> simp only [Oper.upon] at h1
      · exact absurd h2 (by simp [LetsOut])
    · rename_i hw
      rw [if_neg hw] at hstep2
      exact hstep2
end
#print axioms region_call
end Go.Proofs.YtkpdbdlkihgofaaDoor
