/- The document's pattern of a name. No condition. -/
import Derived.Test.YtbcjeemjpcidhaaDoorAll
import Derived.Test.YtbcjeemjpcidhaaDoorPa2
namespace Go.Proofs.YtbcjeemjpcidhaaDoor
open Go.RowKit

/-- The document's table, read. -/
def refL : List (Q.Bt × (List Int × List Int) × List Ln) := rowsL.map fun r => ((partL r 0).data.toList, (tokLQ (partL r 1), tokLQ (partL r 2)), rowLsQ r)
theorem ref_rows : (refL.map fun x => (rowOf x.1).map (fun y => (y.1, y.2.1, y.2.2.1))) = refL.map some := by kernel_rfl
theorem ref_names : (Q.tableL.all fun y => refL.any (fun x => x.1 == y.1)) = true := by kernel_rfl
theorem ref_mem {k : Nat} {r : ByteArray} (h : rowsL[k]? = some r) : ((partL r 0).data.toList, (tokL (partL r 1), tokL (partL r 2)), rowLs r) ∈ refL := by
  rw [tokL_q, tokL_q, rowLs_q]
  exact List.mem_map.2 ⟨r, List.mem_of_getElem? h, rfl⟩
theorem ref_at {k : Nat} {r : ByteArray} (h : rowsL[k]? = some r) : ∃ y : Row, rowOf (partL r 0).data.toList = some y ∧ y.1 = (partL r 0).data.toList ∧ y.2.1.1 = tokL (partL r 1) ∧ y.2.1.2 = tokL (partL r 2) ∧ y.2.2.1 = rowLs r := by
  have hm := ref_mem h
  obtain ⟨j, hj⟩ := List.getElem?_of_mem hm
  have h1 : (refL.map fun x => (rowOf x.1).map (fun y => (y.1, y.2.1, y.2.2.1)))[j]? = (refL.map some)[j]? := by rw [ref_rows]
  rw [List.getElem?_map, List.getElem?_map, hj] at h1
  simp only [Option.map_some, Option.some.injEq] at h1
  obtain ⟨y, hy, he⟩ := Option.map_eq_some_iff.1 h1
  simp only [Prod.mk.injEq] at he
  exact ⟨y, hy, he.1, by rw [he.2.1], by rw [he.2.1], he.2.2⟩
theorem ref_none {nm : Q.Bt} (h : ∀ (k : Nat) (r : ByteArray), rowsL[k]? = some r → (partL r 0).data.toList ≠ nm) : rowOf nm = none := by
  unfold rowOf
  rw [List.find?_eq_none]
  intro y hy hc
  have h1 := List.all_eq_true.1 ref_names y hy
  obtain ⟨x, hx, hxe⟩ := List.any_eq_true.1 h1
  obtain ⟨r, hr, rfl⟩ := List.mem_map.1 hx
  obtain ⟨k, hk⟩ := List.getElem?_of_mem hr
  exact h k r hk ((beq_iff_eq.1 hxe).trans (beq_iff_eq.1 hc))
/-- What the document's Find answers. -/
def RFindPost (w : World) (nm : Q.Bt) (e : Ending) (w' : World) : Prop := Kp w w' ∧ match rowOf nm with
  | none => e = .returned (.tuple #[zeroP, .bool false])
  | some y => ∃ t0 t1 tl : Tv, e = .returned (.tuple #[.agg #[.string (bs y.1), tvv t0, tvv t1, tvv tl], .bool true]) ∧ PatI w' t0.ao t1.ao tl.ao t0.n t1.n tl.n y.2.1.1 y.2.1.2 y.2.2.1
theorem RFindPost.no {w w' : World} {nm : Q.Bt} (hk : Kp w w') (h : rowOf nm = none) : RFindPost w nm (.returned (.tuple #[zeroP, .bool false])) w' := ⟨hk, by rw [h]⟩
theorem RFindPost.yes {w w' : World} {nm : Q.Bt} {y : Row} {t0 t1 tl : Tv} (hk : Kp w w') (h : rowOf nm = some y) (hp : PatI w' t0.ao t1.ao tl.ao t0.n t1.n tl.n y.2.1.1 y.2.1.2 y.2.2.1) :
    RFindPost w nm (.returned (.tuple #[.agg #[.string (bs y.1), tvv t0, tvv t1, tvv tl], .bool true])) w' := ⟨hk, by rw [h]; exact ⟨t0, t1, tl, rfl, hp⟩⟩
attribute [local irreducible] tblK tblP tblQ Q.piecesB Q.tableB Q.tableL rowOf rowsL
set_option maxRecDepth 100000 in
set_option maxHeartbeats 4000000 in
theorem rfind_any (w : World) (s : ByteArray) : Calls Tryd.prog 21 #[.string s] w (RFindPost w s.data.toList) := by
  have Ha := Lib.hid (all_any (w.alloc (.cells #[.string ⟨#[]⟩, .slice none 0 0, .slice none 0 0, .slice none 0 0] 29)) [w.heap.size] (by simp))
  have hF4 := Four.new w (.string ⟨#[]⟩) (.slice none 0 0) (.slice none 0 0) (.slice none 0 0) 29
  have HF4 := Lib.hid hF4
  have hk0 := Kp.new w (.cells #[.string ⟨#[]⟩, .slice none 0 0, .slice none 0 0, .slice none 0 0] 29)
  have Hk0 := Lib.hid hk0
  clear hF4 hk0
  go_enter Tryd.func21, Tryd.ntmps21
  go_wp2_with fail
  (with_reducible refine Ha.out.mono ?_)
  rintro e w1 ⟨hk1, ao, n, cap, rfl, hn, ps, hpl, hown, hps⟩
  subst hn
  have HF := Lib.hid (HF4.out.kp hk1)
  have HK := Lib.hid (Kp.trans Hk0.out hk1)
  have hcs := hown.cs
  obtain ⟨b, off, rfl, hc⟩ := hcs.at 0 (by rw [pvc_len]; omega)
  have hcell : ∀ j (h : j < ps.length), w1.cell? ⟨b, off + j * 4, none⟩ = some (.string ps[j].nm) ∧ w1.cell? ⟨b, off + j * 4 + 1, none⟩ = some (tvv ps[j].b0) ∧ w1.cell? ⟨b, off + j * 4 + 2, none⟩ = some (tvv ps[j].b1) ∧ w1.cell? ⟨b, off + j * 4 + 3, none⟩ = some (tvv ps[j].ls) := fun j h => by
    obtain ⟨g0, g1, g2, g3⟩ := pvc_get ps j h
    refine ⟨hc _ _ g0, ?_, ?_, ?_⟩
    · have := hc _ _ g1; rwa [← Nat.add_assoc] at this
    · have := hc _ _ g2; rwa [← Nat.add_assoc] at this
    · have := hc _ _ g3; rwa [← Nat.add_assoc] at this
  have Hps := Lib.hid hps
  have Hcell := Lib.hid hcell
  clear hps hcell hc hcs hown Ha hk1 HF4 Hk0
  go_wp2_with fail
  go_loopw [5] (fun i wr => ∃ k : Nat, k ≤ 38 ∧ i = .int .i64 (k : Nat) ∧ w1 = wr ∧ ∀ (j : Nat) (r : ByteArray), j < k → rowsL[j]? = some r → (partL r 0).data.toList ≠ s.data.toList) (fun i _ => 38 - (intOf i).toNat)
  case atStart => exact ⟨0, by omega, rfl, rfl, fun j r hj => by omega⟩
  case round =>
    obtain ⟨k, hk, rfl, rfl, hno⟩ := hrel
    have Hno := Lib.hid hno
    clear hno
    by_cases hlt : k < 38
    · have hkl : k < ps.length := by omega
      obtain ⟨g0, g1, g2, g3⟩ := Hcell.out k hkl
      obtain ⟨r, hr⟩ : ∃ r, rowsL[k]? = some r := ⟨_, List.getElem?_eq_getElem (by rw [rowsL_length]; omega)⟩
      have hnm := (Hps.out k hkl r hr).1
      by_cases heq : (partL r 0).data.toList = s.data.toList
      · obtain ⟨y, hy1, hy2, hy3, hy4, hy5⟩ := ref_at hr
        have hfin : ∀ w', Fr [w.heap.size] w1 w' → PatI w' (ps[k]'hkl).b0.ao (ps[k]'hkl).b1.ao (ps[k]'hkl).ls.ao (ps[k]'hkl).b0.n (ps[k]'hkl).b1.n (ps[k]'hkl).ls.n y.2.1.1 y.2.1.2 y.2.2.1 := fun w' hk => by
          obtain ⟨_, _, _, q1, q2, q3⟩ := (Hps.out k hkl r hr).2 w' (hk.mono (fun j hj => List.mem_append.2 (.inr hj)))
          rw [hy3, hy4, hy5]
          exact ⟨q1, q2, q3⟩
        have Hfin := Lib.hid hfin
        have hnmy : (ps[k]'hkl).nm = bs y.1 := by rw [hnm, hy2]; exact (bs_data _).symm
        have Hrow := Lib.hid (show rowOf s.data.toList = some y by rw [← heq]; exact hy1)
        have Hb := Lib.hid (show ((bs y.1).toList == s.toList) = true by rw [Lib.toList_data, Lib.toList_data, bs_list, hy2, heq, beq_self_eq_true])
        rw [hnmy] at g0
        generalize ps[k]'hkl = p at g1 g2 g3 Hfin
        obtain ⟨nm, ⟨t0, m0, c0⟩, ⟨t1, m1, c1⟩, ⟨tl, nl, cl⟩⟩ := p
        unfold tvv at g1 g2 g3
        simp only at g1 g2 g3 Hfin
        obtain ⟨wf, hwf, hF, hPf⟩ := HF.out.set (.string (bs y.1)) (.slice t0 m0 c0) (.slice t1 m1 c1) (.slice tl nl cl)
        have hpost : RFindPost w s.data.toList (.returned (.tuple #[.agg #[.string (bs y.1), .slice t0 m0 c0, .slice t1 m1 c1, .slice tl nl cl], .bool true])) wf :=
          RFindPost.yes (t0 := ⟨t0, m0, c0⟩) (t1 := ⟨t1, m1, c1⟩) (tl := ⟨tl, nl, cl⟩) (((Fr.of_kp HK.out).step hF (fun i hi => .inr (by simp at hi; omega))).kp) Hrow.out (Hfin.out _ hF)
        have Hpost := Lib.hid hpost
        have Hwf := Lib.hid hwf
        obtain ⟨s0, s1, s2, s3, f0, f1, f2, f3⟩ := HF.out
        obtain ⟨c0', c1', c2', c3', _, _, _, _⟩ := hPf
        have hb := Hb.out
        clear hfin hpost hwf hF hr hnm heq hnmy hy1 hy2 hy3 hy4 hy5
        go_wp2_with fail
        rw [← Hwf.out]
        refine bodyPost_ret (v := .tuple #[.agg #[.string (bs y.1), .slice t0 m0 c0, .slice t1 m1 c1, .slice tl nl cl], .bool true]) (by simp [results, Tryd.results21, go_sem, c0', c1', c2', c3']) rfl Hpost.out
      · have hb : ((partL r 0).toList == s.toList) = false := by rw [Lib.toList_data, Lib.toList_data, beq_eq_false_iff_ne]; exact heq
        rw [← hnm] at hb
        have Hnext := Lib.hid (show ∀ (j : Nat) (r : ByteArray), j < k + 1 → rowsL[j]? = some r → (partL r 0).data.toList ≠ s.data.toList from fun j r' hj hr' => by
          rcases Nat.lt_or_ge j k with q | q
          · exact Hno.out j r' q hr'
          · obtain rfl : j = k := by omega
            rw [hr] at hr'
            cases hr'
            exact heq)
        generalize ps[k]'hkl = p at g0 g1 g2 g3 hb
        clear hr hnm g1 g2 g3 heq
        go_wp2_with fail
        go_roundw
        case rel => exact ⟨k + 1, by omega, by go_num, trivial, Hnext.out⟩
        case measure => simp [intOf]; omega
    · obtain rfl : k = 38 := by omega
      have hno : rowOf s.data.toList = none := ref_none (fun k r hr => Hno.out k r (by
        have := (List.getElem?_eq_some_iff.1 hr).1
        rw [rowsL_length] at this
        exact this) hr)
      obtain ⟨wf, hwf, hF, hPf⟩ := HF.out.set (.string ⟨#[]⟩) (.slice none 0 0) (.slice none 0 0) (.slice none 0 0)
      have Hpost := Lib.hid (RFindPost.no (((Fr.of_kp HK.out).step hF (fun i hi => .inr (by simp at hi; omega))).kp) hno)
      have Hwf := Lib.hid hwf
      obtain ⟨s0, s1, s2, s3, f0, f1, f2, f3⟩ := HF.out
      obtain ⟨c0', c1', c2', c3', _, _, _, _⟩ := hPf
      clear hno hwf hF
      go_wp2_with fail
      rw [← Hwf.out]
      refine bodyPost_ret (v := .tuple #[zeroP, .bool false]) (by simp [results, Tryd.results21, go_sem, c0', c1', c2', c3']) rfl Hpost.out
end Go.Proofs.YtbcjeemjpcidhaaDoor
