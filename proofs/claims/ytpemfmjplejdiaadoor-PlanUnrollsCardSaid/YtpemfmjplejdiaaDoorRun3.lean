/- A region that draws its order, with a condition on the world that holds behind each operation: loads may be taken first. No condition of its own. -/
import Derived.Test.YtpemfmjplejdiaaDoorRun2
import Derived.OrdersHeld
namespace Go.Proofs.YtpemfmjplejdiaaDoor
open Go.RowKit

section
variable {P : Program} {ops : Array Oper} {md : Region.Mode} {w : World} {S : World → Prop}

theorem anyH_start {id : Nat} {Q : Exit → Act → World → Prop} {a : Act} {l : List Oper} (S : World → Prop) (hm : P.follows .mixedOrders = true)
    (h : wpAnyH P .any l.toArray (Qn Q) S l.length (Array.replicate l.length false) a w.drew) : (Code.region id l.toArray true).wp P Q a w :=
  Code.wp_mono (fun e a w h => by cases e <;> first | exact h | exact h.elim) (wp_region_held (Q := Qn Q) hm (by simpa using h))
theorem anyH_end {Q : Exit → Act → World → Prop} {a : Act} {listed : Array Bool} {fuel : Nat} (hr : (Region.ready md ops listed).isEmpty = true) (h : Q .normal a w) : wpAnyH P md ops (Qn Q) S fuel listed a w :=
  wpAnyH_done (Q := Qn Q) (by simpa using hr) h fuel

theorem takeH_all {Q : Exit → Act → World → Prop} (hs : Region.noSelect ops = true) (hS : S w) (fuel : Nat) : ∀ (is : List Nat) (listed : Array Bool) (a : Act), takeB md ops listed is = true →
    wpQuiet P ops (fun _ => True) (fun a' => wpAnyH P md ops (Qn Q) S fuel (listAll listed is) a' w) (opsAt ops is) a → wpAnyH P md ops (Qn Q) S (fuel + is.length) listed a w
  | [], _, _, _, h => h
  | i :: r, listed, a, hB, h => by
    simp only [takeB, Bool.and_eq_true] at hB
    obtain ⟨⟨⟨hv, hr⟩, hf⟩, hB'⟩ := hB
    cases ho : ops[i]? with
    | none => rw [ho] at hv; cases hv
    | some o =>
      rw [ho] at hv
      simp only [opsAt, ho] at h
      unfold wpQuiet at h
      rw [List.length_cons, ← Nat.add_assoc]
      split at h
      · rename_i hw
        obtain ⟨v, h1, h2⟩ := h
        exact wpAnyH_take (Q := Qn Q) ho hs hf hr (fun _ _ _ h => h.elim) (yields_of_quiet hv hw h1).yieldsIf hS (takeH_all hs hS fuel r _ _ hB' h2)
      · rename_i hw
        exact wpAnyH_take (Q := Qn Q) ho hs hf hr (fun _ _ _ h => h.elim) (.inr ⟨by simpa using hw, rfl⟩) hS (takeH_all hs hS fuel r _ _ hB' h)
/-- Operations that look at no world, taken first. -/
theorem anyH_take {Q : Exit → Act → World → Prop} {n : Nat} {listed : Array Bool} {a : Act} (is : List Nat) (hB : (Region.noSelect ops && takeB md ops listed is && decide (is.length ≤ n)) = true) (hS : S w)
    (h : wpQuiet P ops (fun _ => True) (fun a' => wpAnyH P md ops (Qn Q) S (n - is.length) (listAll listed is) a' w) (opsAt ops is) a) : wpAnyH P md ops (Qn Q) S n listed a w := by
  simp only [Bool.and_eq_true, decide_eq_true_eq] at hB
  have := takeH_all hB.1.1 hS (n - is.length) is listed a hB.1.2 h
  rwa [Nat.sub_add_cancel hB.2] at this
/-- A load, taken first. -/
theorem anyH_load {Q : Exit → Act → World → Prop} {n : Nat} {listed : Array Bool} {a : Act} (i k : Nat) (v : Value) {o : Oper} (ho : ops[i]? = some o) (hd : o.dst = some k)
    (hB : (Region.noSelect ops && Region.free md ops listed i && (Region.ready md ops listed).contains i && decide (0 < n) && o.guard.isNone) = true) (hS : S w)
    (hv : ∀ w, S w → (execOp a.eval o).run P w = .ok (.value v) w)
    (h : wpAnyH P md ops (Qn Q) S (n - 1) (listed.setIfInBounds i true) (a.put (some k) v) w) : wpAnyH P md ops (Qn Q) S n listed a w := by
  rw [← hd] at h
  simp only [Bool.and_eq_true, decide_eq_true_eq] at hB
  obtain ⟨⟨⟨⟨h1, h2⟩, h3⟩, h4⟩, h5⟩ := hB
  obtain ⟨m, rfl⟩ : ∃ m, n = m + 1 := ⟨n - 1, by omega⟩
  rw [Nat.add_sub_cancel] at h
  refine wpAnyH_take (Q := Qn Q) ho h1 h2 h3 (fun _ _ _ h => h.elim) (.inl ⟨?_, hv⟩) hS h
  obtain ⟨dst, op, type, pos, after, guard⟩ := o
  cases guard with
  | none => rfl
  | some g => simp at h5
theorem anyH_one {Q : Exit → Act → World → Prop} {a : Act} {listed : Array Bool} {n : Nat} (i : Nat) (hr : (decide (Region.ready md ops listed = [i]) && decide (i < ops.size) && decide (0 < n)) = true)
    (h : wpList P ops (fun e a2 w2 => match e with | .normal => S w2 ∧ wpAnyH P md ops (Qn Q) S (n - 1) (listed.setIfInBounds i true) a2 w2 | _ => False) (opsAt ops [i]) a w) : wpAnyH P md ops (Qn Q) S n listed a w := by
  simp only [Bool.and_eq_true, decide_eq_true_eq] at hr
  obtain ⟨⟨hr, hi⟩, hn⟩ := hr
  obtain ⟨fuel, rfl⟩ : ∃ fuel, n = fuel + 1 := ⟨n - 1, by omega⟩
  rw [Nat.add_sub_cancel] at h
  refine ⟨fun h0 => (by rw [h0] at hr; cases hr), fun m hm => ?_⟩
  rw [hr] at hm
  obtain rfl : m = i := by simpa using hm
  exact op_of_list hi h
theorem anyH_two {Q : Exit → Act → World → Prop} {a : Act} {listed : Array Bool} {n : Nat} (i j : Nat) (hr : (decide (Region.ready md ops listed = [i, j]) && decide (i < ops.size) && decide (j < ops.size) && decide (0 < n)) = true)
    (h1 : wpList P ops (fun e a2 w2 => match e with | .normal => S w2 ∧ wpAnyH P md ops (Qn Q) S (n - 1) (listed.setIfInBounds i true) a2 w2 | _ => False) (opsAt ops [i]) a w)
    (h2 : wpList P ops (fun e a2 w2 => match e with | .normal => S w2 ∧ wpAnyH P md ops (Qn Q) S (n - 1) (listed.setIfInBounds j true) a2 w2 | _ => False) (opsAt ops [j]) a w) : wpAnyH P md ops (Qn Q) S n listed a w := by
  simp only [Bool.and_eq_true, decide_eq_true_eq] at hr
  obtain ⟨⟨⟨hr, hi⟩, hj⟩, hn⟩ := hr
  obtain ⟨fuel, rfl⟩ : ∃ fuel, n = fuel + 1 := ⟨n - 1, by omega⟩
  rw [Nat.add_sub_cancel] at h1 h2
  refine ⟨fun h0 => (by rw [h0] at hr; cases hr), fun m hm => ?_⟩
  rw [hr] at hm
  rcases List.mem_cons.1 hm with rfl | hm
  · exact op_of_list hi h1
  · obtain rfl : m = j := by simpa using hm
    exact op_of_list hj h2
end
end Go.Proofs.YtpemfmjplejdiaaDoor
