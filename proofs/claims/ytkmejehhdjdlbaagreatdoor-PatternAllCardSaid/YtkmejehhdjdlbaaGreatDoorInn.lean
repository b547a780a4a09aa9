/- The inner round over the table. Conditions: said in the theorem. -/
import Derived.Test.YtkmejehhdjdlbaaGreatDoorWnt
import Derived.Test.YtkmejehhdjdlbaaGreatDoorGd5
import Derived.Test.YtkmejehhdjdlbaaGreatDoorGd6
namespace Go.Proofs.YtkmejehhdjdlbaaGreatDoor
open Go.RowKit

attribute [local irreducible] tblK tblP tblQ Q.piecesB Q.tableB Q.tableL rowOf rowsL namesS
theorem names38 : namesS.length = 38 := by rw [namesS_length, tableL_len]
theorem inner_all (wB w : World) (E : Nat → Addr) (m : Int) (hE : Env wB E m) (hk : Kp wB w) (bo bk bw bi g cap : Nat) (inner : Int) (hne : bo ≠ bk) (hbo : wB.heap.size ≤ bo) (hbk : wB.heap.size ≤ bk)
    (ho : One1 w bo (.bool true)) (hkk : One1 w bk (iv 0)) (hw : One1 wB bw (.slice (some ⟨g, 0, none⟩) 38 cap)) (hi : One1 wB bi (iv inner)) (hW : Wnt wB g) :
    Calls Tryz.prog 78 #[.func (.func 37) #[] #[.pointer (some ⟨bo, 0, none⟩), .pointer (some ⟨bk, 0, none⟩), .pointer (some ⟨bw, 0, none⟩), .pointer (some ⟨bi, 0, none⟩)]] w
      fun e w' => e = .returned (.tuple #[]) ∧ Fr [bo, bk] w w' ∧ One1 w' bo (.bool true) ∧ ∃ c : Nat, One1 w' bk (iv (c : Nat)) ∧ ((c : Int) = inner ∨ c = 38) := by
  have hX : ∀ x ∈ [bo, bk], wB.heap.size ≤ x := fun x hx => by simp at hx; omega
  have lbw : bw < wB.heap.size := by have := World.block_lt_of_cell? _ _ hw.c; exact this
  have lbi : bi < wB.heap.size := by have := World.block_lt_of_cell? _ _ hi.c; exact this
  refine (all_iter 37 #[.pointer (some ⟨bo, 0, none⟩), .pointer (some ⟨bk, 0, none⟩), .pointer (some ⟨bw, 0, none⟩), .pointer (some ⟨bi, 0, none⟩)] (enters_of Tryz.func37 (by kernel_rfl) rfl) w m E (E 8) [bo, bk]
    (fun k v => One1 v bo (.bool true) ∧ One1 v bk (iv (k : Nat)) ∧ Fr [bo, bk] w v) (fun v => Fr [bo, bk] w v ∧ One1 v bo (.bool true) ∧ ∃ c : Nat, One1 v bk (iv (c : Nat)) ∧ ((c : Int) = inner ∨ c = 38)) ?_ ?_ ?_ ?_ ?_ ?_)
  · intro x hx
    have h1 := World.block_lt_of_cell? _ _ ho.c
    have h2 := World.block_lt_of_cell? _ _ hkk.c
    simp only at h1 h2
    simp at hx
    rcases hx with rfl | rfl <;> assumption
  · rintro k v v' ⟨h1, h2, h3⟩ hv
    exact ⟨h1.kp hv, h2.kp hv, h3.trans ((Fr.of_kp hv).mono (by simp))⟩
  · rintro k v ⟨_, _, h3⟩
    have hv := hE.keep (kp_step' hk h3 hX)
    exact ⟨hv.mx, hv.errs, hv.c5⟩
  · exact ⟨ho, hkk, Fr.refl _ _⟩
  · rintro k v y t0 t1 tl ts hkl hr hy ⟨h1, h2, h3⟩ hP
    have hv := kp_step' hk h3 hX
    have hs := row_small hr
    obtain ⟨u0, u1, ul, c0, c1, c2, c3, hQ⟩ := (hW.kp hv) k y hkl (by rw [← hy] at hr ⊢; exact hr)
    refine (inner_any v (bs y.1) t0.ao t1.ao tl.ao u0.ao u1.ao ul.ao t0.n t0.c t1.n t1.c tl.n tl.c u0.n u0.c u1.n u1.c ul.n ul.c y.2.1.1 y.2.1.2 y.2.2.1 (hP.patI hs.1 hs.2) hQ bo bk bw bi g cap k inner (by rw [names38] at hkl; exact hkl) hne h1 h2 (hw.kp hv) (hi.kp hv) (by omega) (by omega) c0 c1 c2 c3).mono ?_
    rintro e v' ⟨rfl, hf, g1, g2⟩
    refine ⟨_, rfl, hf, fun _ => ⟨g1, g2, h3.trans hf⟩, fun hb => ⟨h3.trans hf, g1, k + 1, g2, .inl ?_⟩⟩
    simp at hb
    omega
  · rintro v ⟨h1, h2, h3⟩
    exact ⟨h3, h1, namesS.length, h2, .inr names38⟩
end Go.Proofs.YtkmejehhdjdlbaaGreatDoor
