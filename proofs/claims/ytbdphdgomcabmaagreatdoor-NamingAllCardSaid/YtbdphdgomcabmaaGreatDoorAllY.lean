/- The table gone through, name by name, by a range over the iterator. Conditions: what is asked of a round is said in the theorem. -/
import Derived.Test.YtbdphdgomcabmaaGreatDoorNa5
import Derived.RangeFuncNested
import Derived.RangeFuncCalls
import Derived.RangeFuncLeaves
import Derived.TacticsInMore
namespace Go.Proofs.YtbdphdgomcabmaaGreatDoor
open Go.RowKit

attribute [local irreducible] tblK tblP tblQ Q.piecesB Q.tableB Q.tableL rowOf namesS
set_option maxRecDepth 100000 in
set_option maxHeartbeats 8000000 in
/-- A range over the table's iterator. N0: where the heap ends as the rounds begin; X: the blocks that a round may turn, besides those from N0 on. -/
theorem all_yield (l : Nat) (w : World) (m : Int) (E : Nat → Addr) (ET : Addr) (X : List Nat) (Inv : Nat → Nat → World → Prop) (Fin : World → Prop) (hX : ∀ x ∈ X, x < w.heap.size) (hm0 : MaxV w m)
    (hkp : ∀ N0 k v v', Inv N0 k v → Kp v v' → Inv N0 k v') (henv : ∀ N0 k v, Inv N0 k v → MaxV v m ∧ Errs v E ∧ v.cell? ⟨4, 0, none⟩ = some (.iface 197 (.pointer (some ET)))) (h0 : ∀ v, Kp w v → Inv v.heap.size 0 v)
    (hy : ∀ N0 k v (y : Row) t0 t1 tl ts, (hk : k < namesS.length) → rowOf namesS[k] = some y → y.1 = namesS[k] → Inv N0 k v → PatO v w.heap.size t0 t1 tl ts y.2.1.1 y.2.1.2 y.2.2.1 →
      YieldAt Fence.wide 2 Tryz.prog l #[.agg #[.string (bs y.1), tvv t0, tvv t1, tvv tl]] v fun e v' => ∃ b Y, e = .returned (.bool b) ∧ Fr Y v v' ∧ (∀ j ∈ Y, j ∈ X ∨ N0 ≤ j) ∧ (b = true → Inv N0 (k + 1) v') ∧ (b = false → Fin v'))
    (hend : ∀ N0 v, Inv N0 namesS.length v → Fin v) :
    Calls Tryz.prog 40 #[.func (.yield l) #[] #[]] w fun e w' => e = .returned (.tuple #[]) ∧ Fin w' := by
  have HTb := Lib.hid (table_any m w hm0)
  have HX := Lib.hid hX
  have HKp := Lib.hid hkp
  have HEnv := Lib.hid henv
  have HY := Lib.hid hy
  have HEnd := Lib.hid hend
  have H0 := Lib.hid h0
  clear hX hkp henv hy hend h0 hm0
  go_enter Tryz.func40, Tryz.ntmps40
  go_wp2_with fail
  (with_reducible refine HTb.out.mono ?_)
  rintro e w2 ⟨r, rfl, hk2, hT⟩
  obtain ⟨D, hD, hDp, hDs⟩ := hT.owns (fun x hx => tblK_key (k := 39) x (by rw [tblK_all]; exact hx)) tblQ_keys (by rw [List.length_map, ← List.length_map (f := (·.1)), tbl_names, List.length_map, tableL_len]; decide)
  have hKl : (tblQ.map bs2).length = 38 := by rw [List.length_map, ← List.length_map (f := (·.1)), tbl_names, List.length_map, tableL_len]
  rw [hKl] at hDs
  have HK := Lib.hid (callsIn_wide.1 (Tryz.maps_Keys_42 (some r) w2))
  have HS := Lib.hid (callsIn_wide.1 (Tryz.slices_Sorted_keys_41_42 r _ D _ w2 hD (by rw [hDs]; decide) (by rw [hDs]; decide)))
  have Hk2 := Lib.hid hk2
  have HDp := Lib.hid hDp
  clear hD hDs hT hk2 hKl hDp HTb
  go_wp2_with fail
  (with_reducible refine HK.out.mono ?_)
  rintro e w3 ⟨rfl, rfl⟩
  go_wp2_with fail
  (with_reducible refine HS.out.mono ?_)
  rintro e w4 ⟨v, ss, rfl, hperm, hO, hnil, hbel⟩
  obtain ⟨ao, c, rfl, hOw⟩ := Own.value hO
  clear hO hnil
  have hos : ss.mergeSort (fun x y => decide (x ≤ y)) = namesS := (mergeSort_of_perm (hperm.trans (HDp.out.trans (List.Perm.of_eq tblQ_names)))).trans (by unfold namesS; rfl)
  have hsl : ss.length = 38 := by rw [← List.length_mergeSort (le := fun x y => decide (x ≤ y)), hos, namesS_length, tableL_len]
  rw [hos, hsl] at hOw
  have HO := Lib.hid hOw
  have hk3 : Kp w w4 := Kp.trans (Kp.trans Hk2.out (Kp.new w2 _)) hbel
  have HI := Lib.hid (H0.out w4 hk3)
  obtain ⟨N0, hN0⟩ : ∃ N0, N0 = w4.heap.size := ⟨_, rfl⟩
  rw [← hN0] at HI
  have hB : w.heap.size ≤ (w2.alloc (.cells #[.map (some r)] 69)).heap.size := (Kp.trans Hk2.out (Kp.new w2 _)).size
  generalize (w2.alloc (.cells #[.map (some r)] 69)).heap.size = B at *
  obtain ⟨g, rfl⟩ := hOw.blockOf (by decide)
  have hBg : B ≤ g := (hOw.lt g rfl).1
  have hgN : g < N0 := by rw [hN0]; exact (hOw.lt g rfl).2
  clear hN0
  have hsz : w.heap.size ≤ w4.heap.size := hk3.size
  clear hperm hbel hos hOw hk3
  rw [hsl]
  clear hsl
  go_wp2_with fail
  go_loopw [10] (fun i wr => ∃ k : Nat, k ≤ 38 ∧ i = .int .i64 (k : Nat) ∧ Inv N0 k wr ∧ Own wr B 9 1 (some ⟨g, 0, none⟩) 38 c (namesS.map encStr) ∧ w.heap.size ≤ wr.heap.size) (fun i _ => 38 - (intOf i).toNat)
  case atStart => exact ⟨0, by omega, rfl, HI.out, HO.out, hsz⟩
  case round =>
    clear hsz
    obtain ⟨k, hk, rfl, hi, hO, hsz⟩ := hrel
    rename World => wr
    have Hi := Lib.hid hi
    have HO2 := Lib.hid hO
    by_cases hlt : k < 38
    · have hkl : k < namesS.length := by rw [namesS_length, tableL_len]; exact hlt
      have hcx := hO.cell k (by omega)
      have hget : (namesS.map encStr)[k]? = some (.string (bs namesS[k])) := by rw [List.getElem?_map, List.getElem?_eq_getElem hkl]; rfl
      rw [hget] at hcx
      obtain ⟨y, hy, hy1⟩ := namesS_mem (List.getElem_mem hkl)
      have hsh := namesS_short (List.getElem_mem hkl)
      obtain ⟨hm, hE, hT⟩ := HEnv.out N0 k wr hi
      have HF := Lib.hid (find_any (bs namesS[k]) m E ET wr (by rw [bs_size]; unfold maxLen; omega) hm hE hT)
      rw [bs_list] at HF
      have HYk := Lib.hid (fun v t0 t1 tl ts => HY.out N0 k v y t0 t1 tl ts hkl hy hy1)
      unfold FindPost at HF
      rw [hy] at HF
      have Hy := Lib.hid hy
      clear hi hO hget hy hy1 hm hE hT
      generalize namesS[k] = x at *
      go_wp2_with fail
      (with_reducible refine HF.out.mono ?_)
      rintro e w5 ⟨hk5, t0, t1, tl, ts, rfl, hP⟩
      have HYk2 := Lib.hid (HYk.out (w5.alloc (.cells #[.string (bs y.1), .slice t0.ao t0.n t0.c, .slice t1.ao t1.n t1.c, .slice tl.ao tl.n tl.c] 26)) t0 t1 tl ts (HKp.out N0 k wr _ Hi.out (Kp.trans hk5 (Kp.new w5 _))) ((hP.kp (Kp.new w5 _)).base hsz))
      have hk6 := Kp.trans hk5 (Kp.new w5 (.cells #[.string (bs y.1), .slice t0.ao t0.n t0.c, .slice t1.ao t1.n t1.c, .slice tl.ao tl.n tl.c] 26))
      have HO6 := Lib.hid (HO2.out.keep hk6)
      have hs6 := Nat.le_trans hsz hk6.size
      unfold tvv at HYk2 ⊢
      have hF6 := Four.new w5 (.string (bs y.1)) (.slice t0.ao t0.n t0.c) (.slice t1.ao t1.n t1.c) (.slice tl.ao tl.n tl.c) 26
      clear hP hk5 hk6 hsz
      go_upto_region 4 with fail
      generalize w5.alloc (.cells #[.string (bs y.1), .slice t0.ao t0.n t0.c, .slice t1.ao t1.n t1.c, .slice tl.ao tl.n tl.c] 26) = w6 at *
      generalize w5.heap.size = bp at *
      obtain ⟨x0, x1, x2, x3, _, _, _, _⟩ := hF6
      obtain ⟨fn, tmps, asg, bdy, hyy, hR⟩ := HYk2.out
      have HR := Lib.hid hR
      clear hR HYk2
      refine (wpIn_wide (n := 3)).1 ?_
      gi_wp2_with fail
      refine HR.out.mono ?_
      rintro e w7 ⟨b, Y, rfl, hf, hYX, hb1, hb0⟩
      have HX2 := HX.out
      have hO7 := hf.own HO6.out (fun x hx hq => by have h1 := mem_blkL_some.1 hx; rcases hYX _ hq with h2 | h2; (have := HX2 _ h2; omega); omega)
      have hs7 := Nat.le_trans hs6 hf.size
      clear HX2 hf hYX
      cases b with
      | true =>
        have HI7 := Lib.hid (hb1 rfl)
        clear hb0 hb1
        gi_wp2_with fail
        go_wp2_with fail
        go_roundw
        case rel => exact ⟨k + 1, by omega, by go_num, HI7.out, hO7, hs7⟩
        case measure => simp [intOf]; omega
      | false =>
        have HI7 := Lib.hid (hb0 rfl)
        clear hb0 hb1 hO7 hs7
        gi_wp2_with fail
        go_wp2_with fail
        refine bodyPost_ret (v := .tuple #[]) (by simp [results, Tryz.results40, go_sem]) rfl ?_
        exact ⟨rfl, HI7.out⟩
    · obtain rfl : k = 38 := by omega
      have hnl : namesS.length = 38 := by rw [namesS_length, tableL_len]
      rw [← hnl] at hi
      have HFi := Lib.hid (HEnd.out N0 wr hi)
      clear hi hO hsz
      go_wp2_with fail
      go_end0
      exact ⟨rfl, HFi.out⟩
end Go.Proofs.YtbdphdgomcabmaaGreatDoor
