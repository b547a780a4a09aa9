/- The document's pattern NN. No condition. -/
import Derived.Test.YtpemfmjplejdiaaDoorAll
namespace Go.Proofs.YtpemfmjplejdiaaDoor
open Go.RowKit

theorem nn_all : ((List.range 24).all fun k => !decide ((partL (rowsL.getD k ⟨#[]⟩) 0).data.toList = nameNN.data.toList)) = true := by kernel_rfl
theorem nn_24 : decide ((partL (rowsL.getD 24 ⟨#[]⟩) 0).data.toList = nameNN.data.toList) = true := by kernel_rfl
theorem nn_not {k : Nat} {r : ByteArray} (h : rowsL[k]? = some r) (hk : k < 24) : ((partL r 0).toList == [78, 78]) = false := by
  have hg : rowsL.getD k ⟨#[]⟩ = r := by rw [List.getD, h]; rfl
  have := List.all_eq_true.1 nn_all k (by simpa using hk)
  rw [hg] at this
  rw [ByteArray.toList_eq]
  have h2 : (partL r 0).data.toList ≠ nameNN.data.toList := by simpa only [Bool.not_eq_true', decide_eq_false_iff_not] using this
  rw [beq_eq_false_iff_ne]
  exact h2
theorem nn_yes {r : ByteArray} (h : rowsL[24]? = some r) : ((partL r 0).toList == [78, 78]) = true := by
  have hg : rowsL.getD 24 ⟨#[]⟩ = r := by rw [List.getD, h]; rfl
  have := nn_24
  rw [hg] at this
  rw [ByteArray.toList_eq]
  have h2 : (partL r 0).data.toList = nameNN.data.toList := by simpa only [decide_eq_true_eq] using this
  rw [beq_iff_eq]
  exact h2
/-- What Find answers for NN. -/
def FindPost (w : World) (e : Ending) (w' : World) : Prop := Kp w w' ∧ ∃ nm t0 c0 t1 c1 tl nl cl, e = .returned (.tuple #[.agg #[.string nm, .slice t0 0 c0, .slice t1 0 c1, .slice tl nl cl], .bool true]) ∧ Is w' t0 0 [] ∧ Is w' t1 0 [] ∧ Lns w' tl nl nnLs
theorem find_fin {w1 : World} {X : List Nat} {ao : Option Addr} {ps : List Pv} (hps : ∀ (j : Nat) (h : j < ps.length) (r : ByteArray), rowsL[j]? = some r → ps[j].nm = partL r 0 ∧ Sta w1 (blkL ao ++ X) (PvR r ps[j])) (h : 24 < ps.length) {w' : World} (hk : Fr X w1 w') :
    ps[24].b0.n = 0 ∧ ps[24].b1.n = 0 ∧ Is w' ps[24].b0.ao 0 [] ∧ Is w' ps[24].b1.ao 0 [] ∧ Lns w' ps[24].ls.ao ps[24].ls.n nnLs := by
  have hr : rowsL[24]? = some (rowsL.getD 24 ⟨#[]⟩) := rfl
  obtain ⟨_, hs⟩ := hps 24 h _ hr
  obtain ⟨_, _, _, q1, q2, q3⟩ := hs w' (hk.mono (fun j hj => List.mem_append.2 (.inr hj)))
  have z0 : tokL (partL (rowsL.getD 24 ⟨#[]⟩) 1) = [] := by unfold tokL; rw [if_pos nn_b0]
  have z1 : tokL (partL (rowsL.getD 24 ⟨#[]⟩) 2) = [] := by unfold tokL; rw [if_pos nn_b1]
  rw [z0] at q1
  rw [z1] at q2
  rw [nn_ls] at q3
  have e0 : ps[24].b0.n = 0 := q1.1.symm
  have e1 : ps[24].b1.n = 0 := q2.1.symm
  rw [e0] at q1
  rw [e1] at q2
  exact ⟨e0, e1, q1, q2, q3⟩

set_option maxRecDepth 100000 in
set_option maxHeartbeats 4000000 in
theorem find_any (w : World) : Calls Tryd.prog 22 #[.string nameNN] w (FindPost w) := by
  obtain ⟨z, hz⟩ : ∃ z : Obj, z = .cells #[.string ⟨#[]⟩, .slice none 0 0, .slice none 0 0, .slice none 0 0] 26 := ⟨_, rfl⟩
  have Ha := Lib.hid (all_any (w.alloc (.cells #[.string ⟨#[]⟩, .slice none 0 0, .slice none 0 0, .slice none 0 0] 26)) [w.heap.size] (by simp))
  unfold nameNN
  go_enter Tryd.func22, Tryd.ntmps22
  go_wp2_with fail
  (with_reducible refine Ha.out.mono ?_)
  rintro e w1 ⟨hk1, ao, n, cap, rfl, hn, ps, hpl, hown, hps⟩
  subst hn
  have hr0 := At4.new w ⟨#[]⟩
  have hr1 := hr0.kp hk1
  have hw1 := hk1.size
  have hk01 := Kp.trans (Kp.new w (.cells #[.string ⟨#[]⟩, .slice none 0 0, .slice none 0 0, .slice none 0 0] 26)) hk1
  have hcs := hown.cs
  obtain ⟨b, off, rfl, hc⟩ := hcs.at 0 (by rw [pvc_len]; omega)
  have hcell : ∀ j (h : j < ps.length), w1.cell? ⟨b, off + j * 4, none⟩ = some (.string ps[j].nm) ∧ w1.cell? ⟨b, off + j * 4 + 1, none⟩ = some (tvv ps[j].b0) ∧ w1.cell? ⟨b, off + j * 4 + 2, none⟩ = some (tvv ps[j].b1) ∧ w1.cell? ⟨b, off + j * 4 + 3, none⟩ = some (tvv ps[j].ls) := fun j h => by
    obtain ⟨g0, g1, g2, g3⟩ := pvc_get ps j h
    refine ⟨hc _ _ g0, ?_, ?_, ?_⟩
    · have := hc _ _ g1; rwa [← Nat.add_assoc] at this
    · have := hc _ _ g2; rwa [← Nat.add_assoc] at this
    · have := hc _ _ g3; rwa [← Nat.add_assoc] at this
  have Hps := Lib.hid hps
  have Hcell := Lib.hid hcell
  have hf0 : w1.frozen? ⟨w.heap.size, 0, none⟩ = false := Kp.frz hk1 hr0.1.1 (World.frozen?_alloc_at _ _ _ _ rfl)
  have HK := Lib.hid (And.intro hk01 (And.intro hr1 hf0))
  clear hps hcell hc hcs hown hr0 Ha hr1 hk01 hk1
  go_wp2_with fail
  go_loopw [5] (fun i wr => ∃ k : Nat, k ≤ 24 ∧ i = .int .i64 (k : Nat) ∧ wr = w1) (fun i _ => 24 - (intOf i).toNat)
  case atStart => exact ⟨0, by omega, rfl, rfl⟩
  case round =>
    obtain ⟨k, hk, rfl, rfl⟩ := hrel
    have hkl : k < ps.length := by omega
    obtain ⟨g0, g1, g2, g3⟩ := Hcell.out k hkl
    obtain ⟨r, hr⟩ : ∃ r, rowsL[k]? = some r := ⟨_, List.getElem?_eq_getElem (by rw [rowsL_length]; omega)⟩
    have hnm := (Hps.out k hkl r hr).1
    by_cases h24 : k < 24
    · have hb := nn_not hr h24
      rw [← hnm] at hb
      generalize ps[k]'hkl = p at g0 g1 g2 g3 hb
      clear hr hnm g1 g2 g3
      go_wp2_with fail
      go_roundw
      case rel => exact ⟨k + 1, by omega, by go_num, trivial⟩
      case measure => simp [intOf]; omega
    · have hk24 : k = 24 := by omega
      have hb := nn_yes (by rw [← hk24]; exact hr)
      rw [← hnm] at hb
      have hfin : ∀ w', Fr [w.heap.size] wr w' → (ps[k]'hkl).b0.n = 0 ∧ (ps[k]'hkl).b1.n = 0 ∧ Is w' (ps[k]'hkl).b0.ao 0 [] ∧ Is w' (ps[k]'hkl).b1.ao 0 [] ∧ Lns w' (ps[k]'hkl).ls.ao (ps[k]'hkl).ls.n nnLs := by
        subst hk24
        exact fun w' hk => find_fin Hps.out hkl (w' := w') hk
      generalize ps[k]'hkl = p at g0 g1 g2 g3 hb hfin
      obtain ⟨nm, ⟨t0, m0, c0⟩, ⟨t1, m1, c1⟩, ⟨tl, nl, cl⟩⟩ := p
      unfold tvv at g1 g2 g3
      simp only at g0 g1 g2 g3 hb hfin
      obtain ⟨hm0, hm1, _⟩ := hfin wr (Fr.refl _ _)
      subst hm0
      subst hm1
      have hfin := fun w' hk => (hfin w' hk).2.2
      have hkk : k < 38 := by omega
      obtain ⟨⟨s0, s1, s2, s3⟩, f1, f2, f3⟩ := HK.out.2.1
      have f0 := HK.out.2.2
      unfold tvv at s1 s2 s3
      simp only at s1 s2 s3
      have Hfin := Lib.hid hfin
      have HK1 := Lib.hid HK.out.1
      clear hr hnm hfin hk24 h24 HK Hps Hcell
      go_wp2_with fail
      have hF : Fr [w.heap.size] wr ((((wr.setCell ⟨w.heap.size, 0, none⟩ (.string nm)).setCell ⟨w.heap.size, 1, none⟩ (.slice t0 0 c0)).setCell ⟨w.heap.size, 2, none⟩ (.slice t1 0 c1)).setCell ⟨w.heap.size, 3, none⟩ (.slice tl nl cl)) := (((Fr.set wr ⟨w.heap.size, 0, none⟩ _).trans (Fr.set _ ⟨w.heap.size, 1, none⟩ _)).trans (Fr.set _ ⟨w.heap.size, 2, none⟩ _)).trans (Fr.set _ ⟨w.heap.size, 3, none⟩ _)
      have hpost : FindPost w (.returned (.tuple #[.agg #[.string nm, .slice t0 0 c0, .slice t1 0 c1, .slice tl nl cl], .bool true])) _ := ⟨((Fr.of_kp HK1.out).step hF (fun i hi => .inr (by simp at hi; omega))).kp, nm, t0, c0, t1, c1, tl, nl, cl, rfl, Hfin.out _ hF⟩
      have Hpost := Lib.hid hpost
      clear hpost hF
      refine bodyPost_ret (v := .tuple #[.agg #[.string nm, .slice t0 0 c0, .slice t1 0 c1, .slice tl nl cl], .bool true]) (by simp [results, Tryd.results22, go_sem, s0, s1, s2, s3]) rfl Hpost.out
end Go.Proofs.YtpemfmjplejdiaaDoor
