/- A region that draws its order, where two operations may come up. No condition. -/
import Derived.Test.YtpemfmjplejdiaaDoorAllA
namespace Go.Proofs.YtpemfmjplejdiaaDoor
open Go.RowKit
section
variable {P : Program} {ops : Array Oper} {md : Region.Mode} {w : World}
/-! ### Two operations that may come up -/
theorem op_of_list {Q : Exit → Act → World → Prop} {a : Act} {i : Nat} {K : Act → World → Prop} (hi : i < ops.size)
    (h : wpList P ops (fun e a2 w2 => match e with | .normal => K a2 w2 | _ => False) (opsAt ops [i]) a w) : wpOp P ops (Qn Q) i K a w := by
  have ho : ops[i]? = some ops[i] := Array.getElem?_eq_getElem hi
  generalize ops[i] = o at ho
  simp only [opsAt, ho] at h
  unfold wpOp
  simp only [ho]
  unfold wpList at h
  split
  · rename_i hw
    rw [if_pos hw] at h
    rcases h with h1 | ⟨_, h2⟩
    · left
      unfold Oper.wp at h1 ⊢
      generalize (execOp a.eval o).run P w = r at h1 ⊢
      cases r with
      | ok nx w' =>
        cases nx <;> simp only [Oper.upon] at h1 ⊢ <;> first
          | exact h1
          | exact Calls.mono h1 (fun e w'' he => by cases e <;> first | exact he | exact he.elim | (obtain ⟨_, _, hf⟩ := he; exact hf.elim))
          | exact Rows.mono h1 (fun _ _ he => he)
      | halt x w' => cases x <;> simp only [Oper.upon] at h1
    · exact absurd h2 (by simp [LetsOut])
  · rename_i hw
    rw [if_neg hw] at h
    exact h
theorem any_two {Q : Exit → Act → World → Prop} {a : Act} {listed : Array Bool} {n : Nat} (i j : Nat) (hr : (decide (Region.ready md ops listed = [i, j]) && decide (i < ops.size) && decide (j < ops.size) && decide (0 < n)) = true)
    (h1 : wpList P ops (fun e a2 w2 => match e with | .normal => wpAny P md ops (Qn Q) (n - 1) (listed.setIfInBounds i true) a2 w2 | _ => False) (opsAt ops [i]) a w)
    (h2 : wpList P ops (fun e a2 w2 => match e with | .normal => wpAny P md ops (Qn Q) (n - 1) (listed.setIfInBounds j true) a2 w2 | _ => False) (opsAt ops [j]) a w) : wpAny P md ops (Qn Q) n listed a w := by
  simp only [Bool.and_eq_true, decide_eq_true_eq] at hr
  obtain ⟨⟨⟨hr, hi⟩, hj⟩, hn⟩ := hr
  obtain ⟨fuel, rfl⟩ : ∃ fuel, n = fuel + 1 := ⟨n - 1, by omega⟩
  rw [Nat.add_sub_cancel] at h1 h2
  refine ⟨fun h0 => (by rw [h0] at hr; cases hr), fun m hm => ?_⟩
  rw [hr] at hm
  rcases List.mem_cons.1 hm with rfl | hm
  · exact op_of_list hi h1
  · obtain rfl : m = j := by simpa using hm
    exact op_of_list hj h2

end
end Go.Proofs.YtpemfmjplejdiaaDoor
