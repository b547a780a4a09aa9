/- The outer round over the table. Conditions: said in the theorem. -/
import Derived.Test.YtkmejehhdjdlbaaGreatDoorOut
namespace Go.Proofs.YtkmejehhdjdlbaaGreatDoor
open Go.RowKit

attribute [local irreducible] tblK tblP tblQ Q.piecesB Q.tableB Q.tableL rowOf rowsL namesS
theorem outer_all (wB w : World) (E : Nat → Addr) (m : Int) (hE : Env wB E m) (hk : Kp wB w) (bo bn bw br bt bi bm g cap : Nat) (r inner most : Int) (hne : bo ≠ bn) (hbo : wB.heap.size ≤ bo) (hbn : wB.heap.size ≤ bn)
    (ho : One1 w bo (.bool true)) (hn : One1 w bn (iv 0)) (hr : One1 w br (iv r)) (hbr : br ≠ bo ∧ br ≠ bn) (hw : One1 wB bw (.slice (some ⟨g, 0, none⟩) 38 cap)) (ht : One1 wB bt (.func (.func 78) #[] #[])) (hi : One1 wB bi (iv inner)) (hm : One1 wB bm (iv most)) (hW : Wnt wB g) :
    Calls Tryz.prog 78 #[.func (.func 36) #[] #[.pointer (some ⟨bo, 0, none⟩), .pointer (some ⟨bn, 0, none⟩), .pointer (some ⟨bw, 0, none⟩), .pointer (some ⟨br, 0, none⟩), .pointer (some ⟨bt, 0, none⟩), .pointer (some ⟨bi, 0, none⟩), .pointer (some ⟨bm, 0, none⟩)]] w
      fun e w' => e = .returned (.tuple #[]) ∧ Fr [bo, bn] w w' ∧ One1 w' bo (.bool true) ∧ ∃ c : Nat, One1 w' bn (iv (c : Nat)) ∧ (c = 38 ∨ (r ≠ 2 ∧ (c : Int) = most)) := by
  have hX : ∀ x ∈ [bo, bn], wB.heap.size ≤ x := fun x hx => by simp at hx; omega
  refine (all_iter 36 #[.pointer (some ⟨bo, 0, none⟩), .pointer (some ⟨bn, 0, none⟩), .pointer (some ⟨bw, 0, none⟩), .pointer (some ⟨br, 0, none⟩), .pointer (some ⟨bt, 0, none⟩), .pointer (some ⟨bi, 0, none⟩), .pointer (some ⟨bm, 0, none⟩)] (enters_of Tryz.func36 (by kernel_rfl) rfl) w m E (E 8) [bo, bn]
    (fun k v => One1 v bo (.bool true) ∧ One1 v bn (iv (k : Nat)) ∧ Fr [bo, bn] w v) (fun v => Fr [bo, bn] w v ∧ One1 v bo (.bool true) ∧ ∃ c : Nat, One1 v bn (iv (c : Nat)) ∧ (c = 38 ∨ (r ≠ 2 ∧ (c : Int) = most))) ?_ ?_ ?_ ?_ ?_ ?_)
  · intro x hx
    have h1 := World.block_lt_of_cell? _ _ ho.c
    have h2 := World.block_lt_of_cell? _ _ hn.c
    simp only at h1 h2
    simp at hx
    rcases hx with rfl | rfl <;> assumption
  · rintro k v v' ⟨h1, h2, h3⟩ hv
    exact ⟨h1.kp hv, h2.kp hv, h3.trans ((Fr.of_kp hv).mono (by simp))⟩
  · rintro k v ⟨_, _, h3⟩
    have hv := hE.keep (kp_step' hk h3 hX)
    exact ⟨hv.mx, hv.errs, hv.c5⟩
  · exact ⟨ho, hn, Fr.refl _ _⟩
  · rintro k v y t0 t1 tl ts hkl hq hy ⟨h1, h2, h3⟩ hP
    have hv := kp_step' hk h3 hX
    have hs := row_small hq
    obtain ⟨u0, u1, ul, c0, c1, c2, c3, hQ⟩ := (hW.kp hv) k y hkl (by rw [← hy] at hq ⊢; exact hq)
    refine (outer_any wB v E m hE hv (bs y.1) t0.ao t1.ao tl.ao u0.ao u1.ao ul.ao t0.n t0.c t1.n t1.c tl.n tl.c u0.n u0.c u1.n u1.c ul.n ul.c y.2.1.1 y.2.1.2 y.2.2.1 (hP.patI hs.1 hs.2) hQ bo bn bw br bt bi bm g cap k r inner most (by rw [names38] at hkl; exact hkl) hne hbo hbn h1 h2 (hr.fr h3 (by simp; omega)) hbr hw ht hi hm hW c0 c1 c2 c3).mono ?_
    rintro e v' ⟨rfl, hf, g1, g2⟩
    refine ⟨_, rfl, hf, fun _ => ⟨g1, g2, h3.trans hf⟩, fun hb => ⟨h3.trans hf, g1, k + 1, g2, .inr ?_⟩⟩
    simp at hb
    exact ⟨hb.1, by have := hb.2; omega⟩
  · rintro v ⟨h1, h2, h3⟩
    exact ⟨h3, h1, namesS.length, h2, .inl names38⟩
end Go.Proofs.YtkmejehhdjdlbaaGreatDoor
