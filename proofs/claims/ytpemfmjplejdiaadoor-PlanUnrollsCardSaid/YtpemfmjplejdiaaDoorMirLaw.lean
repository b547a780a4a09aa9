/- The plain law of PlanMirrors: behind the public keys, the two sides' moves mirror each other. Condition: the pattern's shape is one's (shapedL). -/
import Derived.Test.YtpemfmjplejdiaaDoorMirror
namespace Go.Proofs.YtpemfmjplejdiaaDoor
open Go.RowKit

def pubL (ini : Bool) (b0 b1 : List Int) (ls : List Ln) : List Mv := (if hasL ls (sideOf ini) 2 || inL (if ini then b0 else b1) 2 then [⟨1, 2, 0⟩] else []) ++ (if inL (if ini then b0 else b1) 1 then [⟨1, 1, 0⟩] else [])
def restL (ini : Bool) (b0 b1 : List Int) (ls : List Ln) : List Mv := ⟨2, 0, 0⟩ :: (b0.flatMap (befM (!ini) (pskL ls)) ++ (b1.flatMap (befM ini (pskL ls)) ++ (ls.flatMap (lineM ini (pskL ls)) ++ [⟨14, 0, 0⟩])))
theorem unrollL_split (ini : Bool) (b0 b1 : List Int) (ls : List Ln) : unrollL ini b0 b1 ls = pubL ini b0 b1 ls ++ restL ini b0 b1 ls := by
  unfold unrollL headM pubL restL
  simp [List.append_assoc]
theorem pubL_op (ini : Bool) (b0 b1 : List Int) (ls : List Ln) : ∀ m ∈ pubL ini b0 b1 ls, m.op = 1 := by
  intro m hm
  unfold pubL at hm
  generalize (hasL ls (sideOf ini) 2 || inL (if ini then b0 else b1) 2) = p at hm
  generalize inL (if ini then b0 else b1) 1 = q at hm
  cases p <;> cases q <;> simp at hm
  · rw [hm]
  · rw [hm]
  · rcases hm with h | h <;> rw [h]

theorem befM_mir (o psk : Bool) (t : Int) (h : t = 1 ∨ t = 2) : (befM o psk t).map mirL = befM (!o) psk t := by
  rcases h with rfl | rfl <;> cases o <;> cases psk <;> rfl
theorem movesL_mir (t : Int) (s : Bool) (h1 : 1 ≤ t) (h7 : t ≤ 7) : (movesL true t s).map mirL = movesL false t (!s) := by
  rcases (show t = 1 ∨ t = 2 ∨ t = 3 ∨ t = 4 ∨ t = 5 ∨ t = 6 ∨ t = 7 by omega) with rfl | rfl | rfl | rfl | rfl | rfl | rfl <;> cases s <;> rfl
theorem mixM_mir (s psk : Bool) (t : Int) : (mixM s psk t).map mirL = mixM (!s) psk t := by
  unfold mixM
  cases (t == 1 && psk) <;> cases s <;> rfl
theorem tokM_mir (s psk : Bool) (t : Int) (h1 : 1 ≤ t) (h7 : t ≤ 7) : (tokM true s psk t).map mirL = tokM false (!s) psk t := by
  unfold tokM
  rw [List.map_append, movesL_mir t s h1 h7, mixM_mir]
theorem flatMap_mir {α : Type} (f g : α → List Mv) (l : List α) (h : ∀ x ∈ l, (f x).map mirL = g x) : (l.flatMap f).map mirL = l.flatMap g := by
  induction l with
  | nil => rfl
  | cons x r ih =>
    rw [List.flatMap_cons, List.flatMap_cons, List.map_append, h x (by simp), ih (fun y hy => h y (by simp [hy]))]
theorem lineM_mir (psk : Bool) (l : Ln) (h : l.1 = 0 ∨ l.1 = 1) (ht : ∀ t ∈ l.2, 1 ≤ t ∧ t ≤ 7) : (lineM true psk l).map mirL = lineM false psk l := by
  have hs : (l.1 == sideOf false) = !(l.1 == sideOf true) := by
    rcases h with h | h <;> rw [h] <;> rfl
  unfold lineM
  rw [hs, List.map_cons, List.map_append, flatMap_mir _ _ _ (fun t h' => tokM_mir _ psk t (ht t h').1 (ht t h').2)]
  cases (l.1 == sideOf true) <;> rfl
theorem restL_mir {b0 b1 : List Int} {ls : List Ln} (h : shapedL b0 b1 ls = true) : (restL true b0 b1 ls).map mirL = restL false b0 b1 ls := by
  obtain ⟨h0, h1, _, hl⟩ := shapedL_mem h
  have g0 : ∀ t ∈ b0, t = 1 ∨ t = 2 := fun t ht => by obtain ⟨j, hj, rfl⟩ := List.getElem_of_mem ht; exact okB_mem h0 j hj
  have g1 : ∀ t ∈ b1, t = 1 ∨ t = 2 := fun t ht => by obtain ⟨j, hj, rfl⟩ := List.getElem_of_mem ht; exact okB_mem h1 j hj
  have gl : ∀ l ∈ ls, (lineM true (pskL ls) l).map mirL = lineM false (pskL ls) l := fun l hm => by
    obtain ⟨j, hj, rfl⟩ := List.getElem_of_mem hm
    obtain ⟨q1, _, q2⟩ := hl j hj
    exact lineM_mir _ _ q1 (fun t ht => by obtain ⟨i, hi, rfl⟩ := List.getElem_of_mem ht; exact q2 i hi)
  unfold restL
  rw [List.map_cons, List.map_append, List.map_append, List.map_append, flatMap_mir _ _ _ (fun t ht => befM_mir _ _ t (g0 t ht)), flatMap_mir _ _ _ (fun t ht => befM_mir _ _ t (g1 t ht)), flatMap_mir _ _ _ gl]
  rfl
/-- Each move's parts are small. -/
def smallM (m : Mv) : Prop := (1 ≤ m.op ∧ m.op ≤ 14) ∧ (0 ≤ m.key ∧ m.key ≤ 100) ∧ (0 ≤ m.wth ∧ m.wth ≤ 100)
theorem restL_small {b0 b1 : List Int} {ls : List Ln} (h : shapedL b0 b1 ls = true) (ini : Bool) : ∀ m ∈ restL ini b0 b1 ls, smallM m := by
  obtain ⟨h0, h1, _, hl⟩ := shapedL_mem h
  have g0 : ∀ t ∈ b0, t = 1 ∨ t = 2 := fun t ht => by obtain ⟨j, hj, rfl⟩ := List.getElem_of_mem ht; exact okB_mem h0 j hj
  have g1 : ∀ t ∈ b1, t = 1 ∨ t = 2 := fun t ht => by obtain ⟨j, hj, rfl⟩ := List.getElem_of_mem ht; exact okB_mem h1 j hj
  have hb : ∀ (o psk : Bool) t, t = 1 ∨ t = 2 → ∀ m ∈ befM o psk t, smallM m := by
    intro o psk t ht m hm
    rcases ht with rfl | rfl <;> cases o <;> cases psk <;> simp [befM] at hm <;> (first | subst hm | rcases hm with rfl | rfl) <;> (unfold smallM; simp)
  have ht : ∀ (s psk : Bool) t, 1 ≤ t → t ≤ 7 → ∀ m ∈ tokM ini s psk t, smallM m := by
    intro s psk t h1 h7 m hm
    unfold tokM at hm
    rcases List.mem_append.1 hm with hm | hm
    · rcases (show t = 1 ∨ t = 2 ∨ t = 3 ∨ t = 4 ∨ t = 5 ∨ t = 6 ∨ t = 7 by omega) with rfl | rfl | rfl | rfl | rfl | rfl | rfl <;> cases s <;> cases ini <;> simp [movesL, wantI, wantR] at hm <;> (first | subst hm | rcases hm with rfl | rfl) <;> (unfold smallM; simp)
    · unfold mixM at hm
      cases hq : (t == 1 && psk) <;> rw [hq] at hm <;> cases s <;> simp at hm <;> subst hm <;> (unfold smallM; simp)
  intro m hm
  unfold restL at hm
  rcases List.mem_cons.1 hm with rfl | hm
  · unfold smallM; simp
  · rcases List.mem_append.1 hm with hm | hm
    · obtain ⟨t, ht1, hm⟩ := List.mem_flatMap.1 hm
      exact hb _ _ t (g0 t ht1) m hm
    · rcases List.mem_append.1 hm with hm | hm
      · obtain ⟨t, ht1, hm⟩ := List.mem_flatMap.1 hm
        exact hb _ _ t (g1 t ht1) m hm
      · rcases List.mem_append.1 hm with hm | hm
        · obtain ⟨l, hl1, hm⟩ := List.mem_flatMap.1 hm
          obtain ⟨j, hj, rfl⟩ := List.getElem_of_mem hl1
          obtain ⟨_, _, q2⟩ := hl j hj
          unfold lineM at hm
          rcases List.mem_cons.1 hm with rfl | hm
          · unfold smallM; split <;> simp
          · rcases List.mem_append.1 hm with hm | hm
            · obtain ⟨t, ht1, hm⟩ := List.mem_flatMap.1 hm
              obtain ⟨i, hi, rfl⟩ := List.getElem_of_mem ht1
              exact ht _ _ _ (q2 i hi).1 (q2 i hi).2 m hm
            · simp at hm; subst hm; unfold smallM; simp
        · simp at hm; subst hm; unfold smallM; simp
end Go.Proofs.YtpemfmjplejdiaaDoor
