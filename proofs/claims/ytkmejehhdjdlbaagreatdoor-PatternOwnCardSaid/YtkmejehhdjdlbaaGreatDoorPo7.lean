/- Parts of the walks and plain laws, merged: FilO, BeaO, GroO, OwF, OwG, OwH, Ow35, Ow30, Ow25, Ow19, Ow15. Each theorem bears its own conditions; no other. -/
import Derived.Test.YtkmejehhdjdlbaaGreatDoorPo6
import Derived.Test.YtkmejehhdjdlbaaGreatDoorPo1
import Derived.Test.YtkmejehhdjdlbaaGreatDoorPo4
namespace Go.Proofs.YtkmejehhdjdlbaaGreatDoor
open Go.RowKit

/-- The blocks of a list of rows. -/
def bkT (T : List Tv) : List Nat := T.flatMap (fun t => blkL t.ao)
theorem bkT_mem {T : List Tv} {j : Nat} {t : Tv} (ht : T[j]? = some t) {x : Nat} (hx : x ∈ blkL t.ao) : x ∈ bkT T := List.mem_flatMap.2 ⟨t, List.mem_of_getElem? ht, hx⟩
theorem bkT_of {T : List Tv} {x : Nat} (h : x ∈ bkT T) : ∃ (j : Nat) (t : Tv), T[j]? = some t ∧ x ∈ blkL t.ao := by
  obtain ⟨t, ht, hx⟩ := List.mem_flatMap.1 h
  obtain ⟨j, hj, rfl⟩ := List.getElem_of_mem ht
  exact ⟨j, _, List.getElem?_eq_getElem hj, hx⟩
/-- A place of the row of lists. -/
theorem lo_at {v : World} {B N lc : Nat} {lo : Option Addr} {T : List Tv} (h : Own v B 22 1 lo N lc (T.map tvv)) {j : Nat} {t : Tv} (ht : T[j]? = some t) : ∃ g, lo = some ⟨g, 0, none⟩ ∧ v.cell? ⟨g, j, none⟩ = some (.slice t.ao t.n t.c) := by
  have hj := (List.getElem?_eq_some_iff.1 ht).1
  have hl := h.1
  rw [List.length_map] at hl
  obtain ⟨g, _, hg, _⟩ := h.block (by omega)
  rw [hg] at h
  refine ⟨g, hg, ?_⟩
  rw [h.cell j (by omega), List.getElem?_map, ht]
  rfl
theorem Pq.T_len {q : Pq} (hl : q.ts.length = q.ls.length) (hn : q.tl.n = q.ls.length) : q.T.length = q.tl.n + 2 := by
  unfold Pq.T
  simp only [List.length_cons]
  omega
set_option maxRecDepth 100000 in
set_option maxHeartbeats 8000000 in
theorem fill_any (w : World) (B : Nat) (q : Pq) (mark : Int) (h : SepV w B q.rows) (hq : q.Ok 24) (hm : 0 ≤ mark ∧ mark ≤ 100000) :
    Calls Tryz.prog 44 #[q.val, iv mark] w fun e w' => e = .returned (.tuple #[]) ∧ SepV w' B (q.fill mark).rows ∧ ∃ X, Fr X w w' ∧ ∀ x ∈ X, x ∈ q.bl ∨ w.heap.size ≤ x := by
  have hk1 := Kp.new w (.cells #[.string q.nm, .slice q.t0.ao q.t0.n q.t0.c, .slice q.t1.ao q.t1.n q.t1.c, .slice q.tl.ao q.tl.n q.tl.c] 26)
  have hF1 := Four.new w (.string q.nm) (.slice q.t0.ao q.t0.n q.t0.c) (.slice q.t1.ao q.t1.n q.t1.c) (.slice q.tl.ao q.tl.n q.tl.c) 26
  have hnl := Pq.n_L h hq.hl
  have HTn := Lib.hid (Pq.T_len hq.hl hnl)
  have hqbl : ∀ x ∈ q.bl, x < w.heap.size := fun x hx => by
    obtain ⟨r, hr, hy⟩ := Pq.mem_bl.1 hx
    exact (h.lt hr hy).2
  have HQ := Lib.hid hq
  have HB := Lib.hid hqbl
  have H0 := Lib.hid h
  have hn24 : q.tl.n ≤ 24 := by have := hq.ll; omega
  have HNl := Lib.hid hnl
  clear hnl
  unfold Pq.val
  go_enter Tryz.func44, Tryz.ntmps44
  go_upto_region 1 with fail
  obtain ⟨bx, hbx⟩ : ∃ bx, bx = w.heap.size := ⟨_, rfl⟩
  rw [← hbx] at hF1 ⊢
  generalize w.alloc (.cells #[.string q.nm, .slice q.t0.ao q.t0.n q.t0.c, .slice q.t1.ao q.t1.n q.t1.c, .slice q.tl.ao q.tl.n q.tl.c] 26) = w1 at *
  have Hbx := Lib.hid hbx
  have h1 := h.kp hk1
  have HLs := Lib.hid (lists_any w1 q hq.hl hq.ll HNl.out (Pq.line h1).cs)
  unfold Pq.val at HLs
  have HK1 := Lib.hid hk1
  have HF1 := Lib.hid hF1
  clear hbx h1 h hq hqbl hk1
  obtain ⟨x0, x1, x2, x3, _, _, _, _⟩ := hF1
  go_wp2_with fail
  (with_reducible refine HLs.out.mono ?_)
  rintro e w2 ⟨hk2, lo, lc, rfl, hO⟩
  have hk12 := Kp.trans HK1.out hk2
  have h2 := H0.out.kp hk12
  have HF2 := Lib.hid (HF1.out.kp hk2)
  obtain ⟨hFi, hLi⟩ := Pq.fil_in h2 HQ.out mark
  have hdT : ∀ (j : Nat) (t : Tv), q.T[j]? = some t → ∀ x ∈ blkL t.ao, x < bx := fun j t ht x hx => by rw [Hbx.out]; exact HB.out x (Pq.bl_T HQ.out.hl ht hx)
  have hdL : ∀ x ∈ blkL q.tl.ao, x < bx := fun x hx => by rw [Hbx.out]; exact HB.out x (Pq.bl_L hx)
  have hloB : ∀ x ∈ blkL lo, bx ≤ x := fun x hx => by have := (hO.lt x (mem_blkL.1 hx)).1; have := HK1.out.size; have := Hbx.out; omega
  have HO := Lib.hid (fun (v : World) (f : Fr (bkT q.T) w2 v) => f.own hO (fun x hx hy => by
    obtain ⟨j, t, ht, hz⟩ := bkT_of hy
    have := hdT j t ht x hz
    have := hloB x hx
    omega))
  have Hdj := Lib.hid (Pq.dj_L h2 HQ.out)
  have HFi := Lib.hid hFi
  have HLi := Lib.hid hLi
  have H2 := Lib.hid h2
  have HK12 := Lib.hid hk12
  have HdT := Lib.hid hdT
  have HdL := Lib.hid hdL
  obtain ⟨N, hN⟩ : ∃ N, N = q.tl.n + 2 := ⟨_, rfl⟩
  rw [← hN] at HO HTn ⊢
  have hN26 : N ≤ 26 := by omega
  have HN := Lib.hid hN
  clear hk2 hO h2 hFi hLi hk12 hdT hdL hloB hN x0 x1 x2 x3 HLs
  go_upto_block 0 with fail
  go_cut [5] (fun _ wc => Fil wc B 3 1 q.T (cM mark) N 0 ∧ Fr (bkT q.T) w2 wc)
  case first =>
    go_wp2_with fail
    go_loopw [5] (fun i wr => ∃ (j : Nat), j ≤ N ∧ i = .int .i64 (j : Nat) ∧ Fil wr B 3 1 q.T (cM mark) j 0 ∧ Fr (bkT q.T) w2 wr) (fun i _ => N - (intOf i).toNat)
    case atStart => exact ⟨0, by omega, rfl, HFi.out, Fr.refl _ _⟩
    case round =>
      obtain ⟨j, hj, rfl, hF, hfr⟩ := hrel
      rename World => wr
      have HFj := Lib.hid hF
      have Hfr := Lib.hid hfr
      clear hF
      by_cases hlt : j < N
      · have hji : ((j : Nat) : Int) < (N : Nat) := by omega
        obtain ⟨t, ht⟩ : ∃ t, q.T[j]? = some t := ⟨_, List.getElem?_eq_getElem (by rw [HTn.out]; exact hlt)⟩
        obtain ⟨g, eg, hc⟩ := lo_at (HO.out wr hfr) ht
        have hcall : ∀ v, Fr (bkT q.T) w2 v → v.cell? ⟨g, j, none⟩ = some (.slice t.ao t.n t.c) := fun v hv => by
          obtain ⟨g2, eg2, hc2⟩ := lo_at (HO.out v hv) ht
          rw [eg] at eg2
          cases eg2
          exact hc2
        have htn : t.n ≤ 24 := by
          obtain ⟨r, _, _, _, _, ho, hx, _⟩ := Pq.at_T H2.out HQ.out ht
          have := ho.len
          omega
        have Ht := Lib.hid ht
        obtain ⟨ta, tn, tc⟩ := t
        simp only at hc hcall htn
        have Hcall := Lib.hid hcall
        subst eg
        clear hcall ht hfr
        go_wp2_with fail
        go_loopw [6] (fun k wk => ∃ (n : Nat), n ≤ tn ∧ k = .int .i64 (n : Nat) ∧ Fil wk B 3 1 q.T (cM mark) j n ∧ Fr (bkT q.T) w2 wk) (fun k _ => tn - (intOf k).toNat)
        case atStart => exact ⟨0, by omega, rfl, HFj.out, Hfr.out⟩
        case round =>
          clear hc
          obtain ⟨n, hn, rfl, hFk, hG⟩ := hrel
          rename World => wk
          have hc := Hcall.out _ hG
          by_cases hnt : n < tn
          · have hni : ((n : Nat) : Int) < (tn : Nat) := by omega
            obtain ⟨g1, off, e1, _, _, ⟨u0, c0⟩, f0, hFn⟩ := hFk.store1 Ht.out hnt rfl
            simp only at e1
            subst e1
            have Hfin := Lib.hid (And.intro hFn (hG.trans ((Fr.set wk ⟨g1, off + n, none⟩ (iv (mark + ((j : Nat) : Int)))).mono (fun x hx => by simp only [List.mem_singleton] at hx; subst hx; exact bkT_mem Ht.out (by simp [blkL, blk])))))
            clear hFk hG hFn
            go_wp2_with fail
            go_roundw
            case rel => exact ⟨n + 1, by omega, by go_num, Hfin.out⟩
            case measure => simp [intOf]; omega
          · obtain rfl : n = tn := by omega
            have hni : ¬ ((n : Nat) : Int) < (n : Nat) := by omega
            have Hfin := Lib.hid (And.intro (hFk.row Ht.out (Nat.le_refl _) (Nat.le_refl _)) hG)
            clear hFk hG
            go_wp2_with fail
            go_roundw
            case rel => exact ⟨j + 1, by omega, by go_num, Hfin.out⟩
            case measure => simp [intOf]; omega
      · obtain rfl : j = N := by omega
        have hji : ¬ ((j : Nat) : Int) < (j : Nat) := by omega
        go_wp2_with fail
        go_meet
        case rel => exact ⟨HFj.out, Hfr.out⟩
  case rest =>
    obtain ⟨hF, hfr⟩ := hcut
    have hLw := HLi.out.fr hfr (fun x hx hy => by
      obtain ⟨j, t, ht, hz⟩ := bkT_of hy
      exact Hdj.out j x t ht hz hx)
    have HFw := Lib.hid hF
    have Hfr := Lib.hid hfr
    have HLw := Lib.hid hLw
    have hF4 : ∀ v, Fr (bkT q.T ++ blkL q.tl.ao) w2 v → v.cell? ⟨bx, 3, none⟩ = some (.slice q.tl.ao q.tl.n q.tl.c) := fun v hv => hv.cell HF2.out.c3 (fun hx => by
      rcases List.mem_append.1 hx with y | y
      · obtain ⟨j, t, ht, hz⟩ := bkT_of y
        have := HdT.out j t ht bx hz
        omega
      · have := HdL.out bx y; omega)
    have HF4 := Lib.hid hF4
    have hts : q.ts.length = q.tl.n := hLw.n.symm
    have Hts := Lib.hid hts
    clear hF hfr hLw hF4 hts
    go_wp2_with fail
    go_loopw [7] (fun i wr => ∃ (j : Nat), j ≤ q.tl.n ∧ i = .int .i64 (j : Nat) ∧ Lif wr B q.tl q.ts mark j ∧ Fr (blkL q.tl.ao) wc wr) (fun i _ => q.tl.n - (intOf i).toNat)
    case atStart => exact ⟨0, by omega, rfl, HLw.out, Fr.refl _ _⟩
    case round =>
      obtain ⟨j, hj, rfl, hL, hG⟩ := hrel
      rename World => wr
      have hall : Fr (bkT q.T ++ blkL q.tl.ao) w2 wr := (Hfr.out.mono (fun x hx => List.mem_append_left _ hx)).trans (hG.mono (fun x hx => List.mem_append_right _ hx))
      have x3 := HF4.out wr hall
      by_cases hlt : j < q.tl.n
      · have hji : ((j : Nat) : Int) < (q.tl.n : Nat) := by omega
        obtain ⟨g1, off, u0, e1, _, _, c0, f0, hLn⟩ := hL.step (by rw [Hts.out]; exact hlt)
        have Hfin := Lib.hid (And.intro hLn (hG.trans ((Fr.set wr ⟨g1, off + j * 2, none⟩ (iv mark)).mono (fun x hx => by simp only [List.mem_singleton] at hx; subst hx; rw [e1]; simp [blkL, blk]))))
        rw [e1] at x3
        clear hL hG hall hLn
        go_wp2_with fail
        go_roundw
        case rel => exact ⟨j + 1, by omega, by go_num, Hfin.out⟩
        case measure => simp [intOf]; omega
      · have hje : j = q.tl.n := by omega
        have hji : ¬ ((j : Nat) : Int) < (q.tl.n : Nat) := by omega
        have hFe := HFw.out.fr hG (fun i t ht x hx hy => Hdj.out i x t ht hx hy)
        have Hfin := Lib.hid (show SepV wr B (q.fill mark).rows ∧ ∃ X, Fr X w wr ∧ ∀ x ∈ X, x ∈ q.bl ∨ bx ≤ x from
          ⟨Pq.fil_out H2.out HQ.out (by rw [HTn.out]; exact hFe) (by rw [Hts.out, ← hje]; exact hL), bkT q.T ++ blkL q.tl.ao, ((Fr.of_kp HK12.out).mono (by simp)).trans hall, fun x hx => by
            rcases List.mem_append.1 hx with y | y
            · obtain ⟨i, t, ht, hz⟩ := bkT_of y
              exact .inl (Pq.bl_T HQ.out.hl ht hz)
            · exact .inl (Pq.bl_L y)⟩)
        clear hL hG hall hFe hje
        go_wp2_with fail
        go_end0
        exact ⟨rfl, Hfin.out.1, by rw [← Hbx.out]; exact Hfin.out.2⟩
end Go.Proofs.YtkmejehhdjdlbaaGreatDoor

namespace Go.Proofs.YtkmejehhdjdlbaaGreatDoor
open Go.RowKit

theorem repM {w : World} {ao : Option Addr} {n j k : Nat} {mark : Int} (h : Cs w ao (rep n (cM mark j))) (hk : k < n) : ∃ b off, ao = some ⟨b, off, none⟩ ∧ w.cell? ⟨b, off + k, none⟩ = some (iv (mark + ((j : Nat) : Int))) := by
  have := rep_get (cM mark j) (q := 0) hk (by simp [cM])
  rw [show (cM mark j).length = 1 from rfl, Nat.mul_one, Nat.add_zero] at this
  exact h k _ (by rw [this]; rfl)
section
variable {w : World} {N M : Nat} {q : Pq} {mark : Int} {lg u : Tv} {G : List Tv}
theorem Gon.u_at (h : Gon w N M q mark lg u G) {i : Nat} (hi : i < u.n) : ∃ b off, u.ao = some ⟨b, off, none⟩ ∧ w.cell? ⟨b, off + i * 2, none⟩ = some (iv mark) ∧ (q.tl.n ≤ i → w.cell? ⟨b, off + i * 2 + 1, none⟩ = some (.slice none 0 0)) := by
  have hu := h.un
  have hn := h.tn
  have hll := lnc_length (ls := q.ls) (ts := q.ts) h.hl
  rcases Nat.lt_or_ge i q.ls.length with hlt | hge
  · obtain ⟨g0, _⟩ := lnc_get h.hl i hlt
    have e : (lnc q.ls q.ts ++ rep 40 (cN mark))[i * 2]? = some (iv mark) := by
      rw [List.getElem?_append_left (by omega), g0, h.mrk _ (List.getElem_mem hlt)]
    obtain ⟨b, off, eb, hc⟩ := h.ul (i * 2) _ e
    exact ⟨b, off, eb, hc, fun hx => by omega⟩
  · have e0 : (lnc q.ls q.ts ++ rep 40 (cN mark))[i * 2]? = some (iv mark) := by
      rw [List.getElem?_append_right (by omega), hll, show i * 2 - q.ls.length * 2 = (i - q.ls.length) * (cN mark).length + 0 by simp [cN]; omega, rep_get (cN mark) (by omega) (by simp [cN])]
      rfl
    have e1 : (lnc q.ls q.ts ++ rep 40 (cN mark))[i * 2 + 1]? = some (.slice none 0 0) := by
      rw [List.getElem?_append_right (by omega), hll, show i * 2 + 1 - q.ls.length * 2 = (i - q.ls.length) * (cN mark).length + 1 by simp [cN]; omega, rep_get (cN mark) (by omega) (by simp [cN])]
      rfl
    obtain ⟨b, off, eb, hc⟩ := h.ul (i * 2) _ e0
    obtain ⟨b', off', eb', hc'⟩ := h.ul (i * 2 + 1) _ e1
    rw [eb] at eb'
    simp only [Option.some.injEq, Addr.mk.injEq, and_true] at eb'
    obtain ⟨rfl, rfl⟩ := eb'
    exact ⟨b, off, eb, hc, fun _ => by rw [Nat.add_assoc]; exact hc'⟩
theorem Gon.tl_at (h : Gon w N M q mark lg u G) {i : Nat} (hi : i < q.tl.n) : ∃ b off, q.tl.ao = some ⟨b, off, none⟩ ∧ w.cell? ⟨b, off + i * 2, none⟩ = some (iv mark) := by
  have hn := h.tn
  have hlt : i < q.ls.length := by omega
  obtain ⟨g0, _⟩ := lnc_get h.hl i hlt
  obtain ⟨b, off, eb, hc⟩ := h.tl (i * 2) _ g0
  rw [h.mrk _ (List.getElem_mem hlt)] at hc
  exact ⟨b, off, eb, hc⟩
theorem Gon.g_at (h : Gon w N M q mark lg u G) {j : Nat} {t : Tv} (ht : q.T[j]? = some t) : ∃ (b off : Nat) (g : Tv), lg.ao = some ⟨b, off, none⟩ ∧ w.cell? ⟨b, off + j, none⟩ = some (.slice g.ao g.n g.c) ∧ g.n = t.n + 40 ∧ Cs w g.ao (rep g.n (cM mark j)) := by
  have hj := (List.getElem?_eq_some_iff.1 ht).1
  have hG : G[j]? = some (G[j]'(by rw [h.gl]; exact hj)) := List.getElem?_eq_getElem _
  obtain ⟨b, off, eb, hc⟩ := h.tok j _ (by rw [List.getElem?_map, hG]; rfl)
  exact ⟨b, off, _, eb, hc, h.gro j _ t hG ht⟩
end
set_option maxRecDepth 100000 in
set_option maxHeartbeats 8000000 in
theorem bears_any (w : World) (N M : Nat) (q : Pq) (mark : Int) (lg u : Tv) (G : List Tv) (h : Gon w N M q mark lg u G) (hq : q.Ok 24) (hm : 0 ≤ mark ∧ mark ≤ 100000) :
    Calls Tryz.prog 46 #[q.val, .agg #[.slice lg.ao lg.n lg.c, .slice u.ao u.n u.c], iv mark] w fun e w' => e = .returned (.bool true) ∧ Kp w w' := by
  have hk1 := Kp.new w (.cells #[.string q.nm, .slice q.t0.ao q.t0.n q.t0.c, .slice q.t1.ao q.t1.n q.t1.c, .slice q.tl.ao q.tl.n q.tl.c] 26)
  have hF1 := Four.new w (.string q.nm) (.slice q.t0.ao q.t0.n q.t0.c) (.slice q.t1.ao q.t1.n q.t1.c) (.slice q.tl.ao q.tl.n q.tl.c) 26
  generalize hw1 : w.alloc (.cells #[.string q.nm, .slice q.t0.ao q.t0.n q.t0.c, .slice q.t1.ao q.t1.n q.t1.c, .slice q.tl.ao q.tl.n q.tl.c] 26) = w1 at *
  have hk2 := Kp.new w1 (.cells #[.slice lg.ao lg.n lg.c, .slice u.ao u.n u.c] 68)
  have hc0 : (w1.alloc (.cells #[.slice lg.ao lg.n lg.c, .slice u.ao u.n u.c] 68)).cell? ⟨w1.heap.size, 0, none⟩ = some (.slice lg.ao lg.n lg.c) := by rw [World.cell?_alloc_at _ _ _ _ rfl]; rfl
  have hc1 : (w1.alloc (.cells #[.slice lg.ao lg.n lg.c, .slice u.ao u.n u.c] 68)).cell? ⟨w1.heap.size, 1, none⟩ = some (.slice u.ao u.n u.c) := by rw [World.cell?_alloc_at _ _ _ _ rfl]; rfl
  have hs1 : w1.heap.size = w.heap.size + 1 := by rw [← hw1, World.size_alloc]
  have hF2 := hF1.kp hk2
  have hk12 := Kp.trans hk1 hk2
  have HNl := Lib.hid h.tn
  have hn24 : q.tl.n ≤ 24 := by have := hq.ll; have := h.tn; omega
  have HTn := Lib.hid (Pq.T_len hq.hl h.tn)
  have HG := Lib.hid h
  have HQ := Lib.hid hq
  subst hw1
  clear h hq hF1 hk1 hk2
  unfold Pq.val
  go_enter Tryz.func46, Tryz.ntmps46
  go_upto_region 1 with fail
  rw [World.size_alloc] at hc0 hc1
  obtain ⟨b3, hb3⟩ : ∃ b3, b3 = w.heap.size := ⟨_, rfl⟩
  rw [← hb3] at hF2 hc0 hc1 ⊢
  generalize (w.alloc (.cells #[.string q.nm, .slice q.t0.ao q.t0.n q.t0.c, .slice q.t1.ao q.t1.n q.t1.c, .slice q.tl.ao q.tl.n q.tl.c] 26)).alloc (.cells #[.slice lg.ao lg.n lg.c, .slice u.ao u.n u.c] 68) = w2 at *
  have HLs := Lib.hid (lists_any w2 q HQ.out.hl HQ.out.ll HNl.out (hk12.cs HG.out.tl))
  unfold Pq.val at HLs
  have HF2 := Lib.hid hF2
  have HK2 := Lib.hid hk12
  clear hs1 hb3 hk12
  obtain ⟨x0, x1, x2, x3, _, _, _, _⟩ := hF2
  go_wp2_with fail
  (with_reducible refine HLs.out.mono ?_)
  rintro e w3 ⟨hk3, lo, lc, rfl, hO⟩
  have HG3 := Lib.hid (HG.out.fr (Fr.of_kp (Kp.trans HK2.out hk3)) (by simp))
  have HK3 := Lib.hid (Kp.trans HK2.out hk3)
  have HF3 := Lib.hid (HF2.out.kp hk3)
  have HO := Lib.hid hO
  replace hc0 := hk3.cell hc0
  replace hc1 := hk3.cell hc1
  obtain ⟨Nn, hN⟩ : ∃ Nn, Nn = q.tl.n + 2 := ⟨_, rfl⟩
  rw [← hN] at HO HTn ⊢
  have hN26 : Nn ≤ 26 := by omega
  have Hc0 := Lib.hid hc0
  have Hc1 := Lib.hid hc1
  have Hun := Lib.hid HG3.out.un
  clear hk3 hO hN x0 x1 x2 x3 HLs HF2 HK2 HG hc0 hc1
  obtain ⟨la, lgn, lgc⟩ := lg
  obtain ⟨ua, un, uc⟩ := u
  simp only at Hc0 Hc1 Hun
  have hun : un ≤ 64 := by have := Hun.out; omega
  have hgn : Nn ≤ lgn := by have h1 := HG3.out.gn; have h2 := HG3.out.gl; simp only at h1; rw [h2, HTn.out] at h1; omega
  go_upto_block 0 with fail
  go_cut [8] (fun _ wc => w3 = wc)
  case first =>
    go_wp2_with fail
    go_loopw [8] (fun i wr => ∃ (j : Nat), j ≤ Nn ∧ i = .int .i64 (j : Nat) ∧ w3 = wr) (fun i _ => Nn - (intOf i).toNat)
    case atStart => exact ⟨0, by omega, rfl, rfl⟩
    case round =>
      obtain ⟨j, hj, rfl, rfl⟩ := hrel
      by_cases hlt : j < Nn
      · have hji : ((j : Nat) : Int) < (Nn : Nat) := by omega
        obtain ⟨t, ht⟩ : ∃ t, q.T[j]? = some t := ⟨_, List.getElem?_eq_getElem (by rw [HTn.out]; exact hlt)⟩
        have hjg : j < lgn := by omega
        obtain ⟨gl, el, hcl⟩ := lo_at HO.out ht
        obtain ⟨bg, og, g, eg, hcg, hgg, hgc⟩ := HG3.out.g_at ht
        obtain ⟨htn, htc⟩ := HG3.out.row j t ht
        obtain ⟨ta, tn, tc⟩ := t
        obtain ⟨ga, gn, gc⟩ := g
        simp only at hcl eg hcg hgg hgc htn htc
        have Hgc := Lib.hid hgc
        have Htc := Lib.hid htc
        have hgn64 : gn ≤ 64 := by omega
        have htg : tn ≤ gn := by omega
        subst el
        subst eg
        clear hgg hgc htc ht
        have Hcl := Lib.hid hcl
        have Hcg := Lib.hid hcg
        have hc0 := Hc0.out
        go_wp2_with fail
        go_loopw [9] (fun i wr => ∃ k : Nat, k ≤ gn ∧ i = .int .i64 (k : Nat) ∧ w3 = wr) (fun i _ => gn - (intOf i).toNat)
        case atStart => exact ⟨0, by omega, rfl, rfl⟩
        case round =>
          obtain ⟨k, hk, rfl, rfl⟩ := hrel
          by_cases hkg : k < gn
          · have hki : ((k : Nat) : Int) < (gn : Nat) := by omega
            obtain ⟨gb, go, rfl, hgv⟩ := repM Hgc.out hkg
            have hcg := Hcg.out
            by_cases hkt : k < tn
            · have hkj : ((k : Nat) : Int) < (tn : Nat) := by omega
              obtain ⟨tb, to_, rfl, htv⟩ := repM Htc.out hkt
              have hcl := Hcl.out
              go_wp2_with fail
              go_roundw
              case rel => exact ⟨k + 1, by omega, by go_num, trivial⟩
              case measure => simp [intOf]; omega
            · have hkj : ¬ ((k : Nat) : Int) < (tn : Nat) := by omega
              go_wp2_with fail
              go_roundw
              case rel => exact ⟨k + 1, by omega, by go_num, trivial⟩
              case measure => simp [intOf]; omega
          · obtain rfl : k = gn := by omega
            have hki : ¬ ((k : Nat) : Int) < (k : Nat) := by omega
            go_wp2_with fail
            go_roundw
            case rel => exact ⟨j + 1, by omega, by go_num, trivial⟩
            case measure => simp [intOf]; omega
      · obtain rfl : j = Nn := by omega
        have hji : ¬ ((j : Nat) : Int) < (j : Nat) := by omega
        go_wp2_with fail
        go_meet
        case rel => first | trivial | rfl
  case rest =>
    have hcw := hcut
    subst hcw
    have hc1 := Hc1.out
    obtain ⟨x0, x1, x2, x3, _, _, _, _⟩ := HF3.out
    have Hx3 := Lib.hid x3
    go_wp2_with fail
    go_loopw [10] (fun i wr => ∃ (j : Nat), j ≤ un ∧ i = .int .i64 (j : Nat) ∧ w3 = wr) (fun i _ => un - (intOf i).toNat)
    case atStart => exact ⟨0, by omega, rfl, rfl⟩
    case round =>
      obtain ⟨j, hj, rfl, rfl⟩ := hrel
      by_cases hlt : j < un
      · have hji : ((j : Nat) : Int) < (un : Nat) := by omega
        obtain ⟨ub, uo, eu, hu0, hu1⟩ := HG3.out.u_at (i := j) hlt
        simp only at eu
        subst eu
        by_cases hjt : j < q.tl.n
        · have hkj : ((j : Nat) : Int) < (q.tl.n : Nat) := by omega
          have hge : ¬ (q.tl.n : Int) ≤ (j : Nat) := by omega
          obtain ⟨tb, to_, et, htv⟩ := HG3.out.tl_at hjt
          clear hu1 x0 x1 x2
          have x3 := Hx3.out
          rw [et] at x3
          go_wp2_with fail
          go_roundw
          case rel => exact ⟨j + 1, by omega, by go_num, trivial⟩
          case measure => simp [intOf]; omega
        · have hkj : ¬ ((j : Nat) : Int) < (q.tl.n : Nat) := by omega
          have hge : (q.tl.n : Int) ≤ (j : Nat) := by omega
          replace hu1 := hu1 (by omega)
          go_wp2_with fail
          go_roundw
          case rel => exact ⟨j + 1, by omega, by go_num, trivial⟩
          case measure => simp [intOf]; omega
      · obtain rfl : j = un := by omega
        have hji : ¬ ((j : Nat) : Int) < (j : Nat) := by omega
        go_wp2_with fail
        go_ret
        exact ⟨rfl, HK3.out⟩
end Go.Proofs.YtkmejehhdjdlbaaGreatDoor

namespace Go.Proofs.YtkmejehhdjdlbaaGreatDoor
open Go.RowKit

/-- A variable of two cells. -/
structure Bx2 (w : World) (b : Nat) (v0 v1 : Value) : Prop where
  c0 : w.cell? ⟨b, 0, none⟩ = some v0
  c1 : w.cell? ⟨b, 1, none⟩ = some v1
  f0 : w.frozen? ⟨b, 0, none⟩ = false
  f1 : w.frozen? ⟨b, 1, none⟩ = false
section
variable {w w' : World} {b : Nat} {v0 v1 : Value}
theorem Bx2.new (w : World) (v0 v1 : Value) (e : TypeId) : Bx2 (w.alloc (.cells #[v0, v1] e)) w.heap.size v0 v1 :=
  ⟨by rw [World.cell?_alloc_at _ _ _ _ rfl]; rfl, by rw [World.cell?_alloc_at _ _ _ _ rfl]; rfl, World.frozen?_alloc_at _ _ _ _ rfl, World.frozen?_alloc_at _ _ _ _ rfl⟩
theorem Bx2.fr {X : List Nat} (h : Bx2 w b v0 v1) (f : Fr X w w') (hb : b ∉ X) : Bx2 w' b v0 v1 := ⟨f.cell h.c0 hb, f.cell h.c1 hb, f.free h.c0 h.f0 hb, f.free h.c1 h.f1 hb⟩
theorem Bx2.kp (h : Bx2 w b v0 v1) (k : Kp w w') : Bx2 w' b v0 v1 := h.fr (Fr.of_kp k) (by simp)
theorem Bx2.lt (h : Bx2 w b v0 v1) : b < w.heap.size := World.block_lt_of_cell? w _ h.c0
theorem Bx2.set0 (h : Bx2 w b v0 v1) (v : Value) : Bx2 (w.setCell ⟨b, 0, none⟩ v) b v v1 :=
  ⟨World.cell?_setCell_same _ _ _ h.c0, by rw [World.cell?_setCell_other _ _ _ _ (by simp)]; exact h.c1, by rw [World.frozen?_setCell]; exact h.f0, by rw [World.frozen?_setCell]; exact h.f1⟩
theorem Bx2.set1 (h : Bx2 w b v0 v1) (v : Value) : Bx2 (w.setCell ⟨b, 1, none⟩ v) b v0 v :=
  ⟨by rw [World.cell?_setCell_other _ _ _ _ (by simp)]; exact h.c0, World.cell?_setCell_same _ _ _ h.c1, by rw [World.frozen?_setCell]; exact h.f0, by rw [World.frozen?_setCell]; exact h.f1⟩
end
set_option maxRecDepth 100000 in
set_option maxHeartbeats 8000000 in
theorem grow_any (w : World) (B : Nat) (q : Pq) (mark : Int) (h : SepV w B q.rows) (hq : q.Ok 24) (hf : q.Fd mark) (hm : 0 ≤ mark ∧ mark ≤ 100000) (hBw : B ≤ w.heap.size) :
    Calls Tryz.prog 45 #[q.val, iv mark] w fun e w' => ∃ (lg u : Tv) (G : List Tv) (N1 M1 : Nat), e = .returned (.agg #[.slice lg.ao lg.n lg.c, .slice u.ao u.n u.c]) ∧ Gon w' N1 M1 q mark lg u G ∧ w.heap.size ≤ N1 ∧ M1 ≤ w'.heap.size ∧ ∃ X, Fr X w w' ∧ ∀ x ∈ X, x ∈ q.bl ∨ w.heap.size ≤ x := by
  have hqbl : ∀ x ∈ q.bl, x < w.heap.size := fun x hx => by
    obtain ⟨r, hr, hy⟩ := Pq.mem_bl.1 hx
    exact (h.lt hr hy).2
  have HNl := Lib.hid (Pq.n_L h hq.hl)
  have HTn := Lib.hid (Pq.T_len hq.hl HNl.out)
  have hn24 : q.tl.n ≤ 24 := by have := hq.ll; have := HNl.out; omega
  have HQ := Lib.hid hq
  have HB := Lib.hid hqbl
  have H0 := Lib.hid h
  have HFd := Lib.hid hf
  -- the three variables
  obtain ⟨bx, hbx⟩ : ∃ bx, bx = w.heap.size := ⟨_, rfl⟩
  have ka := Kp.new w (.cells #[.string q.nm, .slice q.t0.ao q.t0.n q.t0.c, .slice q.t1.ao q.t1.n q.t1.c, .slice q.tl.ao q.tl.n q.tl.c] 26)
  have fa := Four.new w (.string q.nm) (.slice q.t0.ao q.t0.n q.t0.c) (.slice q.t1.ao q.t1.n q.t1.c) (.slice q.tl.ao q.tl.n q.tl.c) 26
  have kb := Kp.new (w.alloc (.cells #[.string q.nm, .slice q.t0.ao q.t0.n q.t0.c, .slice q.t1.ao q.t1.n q.t1.c, .slice q.tl.ao q.tl.n q.tl.c] 26)) (.cells #[.slice none 0 0, .slice none 0 0] 68)
  have fb := Bx2.new (w.alloc (.cells #[.string q.nm, .slice q.t0.ao q.t0.n q.t0.c, .slice q.t1.ao q.t1.n q.t1.c, .slice q.tl.ao q.tl.n q.tl.c] 26)) (.slice none 0 0) (.slice none 0 0) 68
  have kc := Kp.new ((w.alloc (.cells #[.string q.nm, .slice q.t0.ao q.t0.n q.t0.c, .slice q.t1.ao q.t1.n q.t1.c, .slice q.tl.ao q.tl.n q.tl.c] 26)).alloc (.cells #[.slice none 0 0, .slice none 0 0] 68)) (.cells #[.slice none 0 0, .slice none 0 0] 68)
  have fc := Bx2.new ((w.alloc (.cells #[.string q.nm, .slice q.t0.ao q.t0.n q.t0.c, .slice q.t1.ao q.t1.n q.t1.c, .slice q.tl.ao q.tl.n q.tl.c] 26)).alloc (.cells #[.slice none 0 0, .slice none 0 0] 68)) (.slice none 0 0) (.slice none 0 0) 68
  have hF1 := (fa.kp kb).kp kc
  have hR4 := fb.kp kc
  have hk1 := Kp.trans ka (Kp.trans kb kc)
  have hs : (((w.alloc (.cells #[.string q.nm, .slice q.t0.ao q.t0.n q.t0.c, .slice q.t1.ao q.t1.n q.t1.c, .slice q.tl.ao q.tl.n q.tl.c] 26)).alloc (.cells #[.slice none 0 0, .slice none 0 0] 68)).alloc (.cells #[.slice none 0 0, .slice none 0 0] 68)).heap.size = w.heap.size + 3 := by rw [World.size_alloc, World.size_alloc, World.size_alloc]
  rw [World.size_alloc] at hR4
  rw [World.size_alloc, World.size_alloc] at fc
  clear ka kb kc fa fb hqbl hq hf h
  unfold Pq.val
  go_enter Tryz.func45, Tryz.ntmps45
  go_upto_region 2 with fail
  rw [← hbx] at hF1 hR4 fc hs ⊢
  generalize ((w.alloc (.cells #[.string q.nm, .slice q.t0.ao q.t0.n q.t0.c, .slice q.t1.ao q.t1.n q.t1.c, .slice q.tl.ao q.tl.n q.tl.c] 26)).alloc (.cells #[.slice none 0 0, .slice none 0 0] 68)).alloc (.cells #[.slice none 0 0, .slice none 0 0] 68) = w1 at *
  have Hbx := Lib.hid hbx
  have h1 := H0.out.kp hk1
  have HLs := Lib.hid (lists_any w1 q HQ.out.hl HQ.out.ll HNl.out (Pq.line h1).cs)
  unfold Pq.val at HLs
  have HK1 := Lib.hid hk1
  have HF1 := Lib.hid hF1
  have HR4 := Lib.hid hR4
  have HR5 := Lib.hid fc
  have Hs1 := Lib.hid hs
  clear hbx h1 hk1 hR4 fc hs
  obtain ⟨x0, x1, x2, x3, _, _, _, _⟩ := hF1
  go_wp2_with fail
  (with_reducible refine HLs.out.mono ?_)
  rintro e w2 ⟨hk2, lo, lc, rfl, hO⟩
  have hk12 := Kp.trans HK1.out hk2
  have h2 := H0.out.kp hk12
  have hs2 : bx + 3 ≤ w2.heap.size := by have := hk2.size; have := Hs1.out; omega
  have hdT : ∀ (j : Nat) (t : Tv), q.T[j]? = some t → ∀ x ∈ blkL t.ao, x < bx := fun j t ht x hx => by rw [Hbx.out]; exact HB.out x (Pq.bl_T HQ.out.hl ht hx)
  have hdL : ∀ x ∈ blkL q.tl.ao, x < bx := fun x hx => by rw [Hbx.out]; exact HB.out x (Pq.bl_L hx)
  have hloB : ∀ x ∈ blkL lo, bx + 3 ≤ x := fun x hx => by have := (hO.lt x (mem_blkL.1 hx)).1; have := Hs1.out; omega
  have HO := Lib.hid (fun (v : World) (f : Fr (bkT q.T ++ [bx + 1 + 1]) w2 v) => f.own hO (fun x hx hy => by
    have h3 := hloB x hx
    rcases List.mem_append.1 hy with y | y
    · obtain ⟨j, t, ht, hz⟩ := bkT_of y
      have := hdT j t ht x hz
      omega
    · simp at y; omega))
  obtain ⟨X, hX⟩ : ∃ X : Nat → List Value, X = fun j => rep (q.T.getD j nilT).n (cM mark j) := ⟨_, rfl⟩
  have hXt : ∀ (j : Nat) (t : Tv), q.T[j]? = some t → X j = rep t.n (cM mark j) := fun j t ht => by rw [hX]; simp only; rw [List.getD_eq_getElem?_getD, ht]; rfl
  have HL0 := Lib.hid (Lng.start (W := w2) (B := B) (et := 22) (K := 40) (c := cM mark) (X := X) (fun j t ht => by rw [hXt j t ht]; exact (Pq.at_F h2 HQ.out HFd.out ht).1) (Pq.dj_T h2 HQ.out))
  have HR42 := Lib.hid (HR4.out.kp hk2)
  have HR52 := Lib.hid (HR5.out.kp hk2)
  have HF2 := Lib.hid (HF1.out.kp hk2)
  have H2 := Lib.hid h2
  have HK12 := Lib.hid hk12
  have HdT := Lib.hid hdT
  have HdL := Lib.hid hdL
  have HX := Lib.hid hX
  have hBw2 : B ≤ w2.heap.size := Nat.le_trans hBw hk12.size
  obtain ⟨Nn, hN⟩ : ∃ Nn, Nn = q.tl.n + 2 := ⟨_, rfl⟩
  rw [← hN] at HO HTn ⊢
  have hN26 : Nn ≤ 26 := by omega
  clear hk2 hO h2 hk12 hdT hdL hloB hN x0 x1 x2 x3 HLs hXt hX HR4 HR5 HF1
  go_upto_block 0 with fail
  go_cut [7] (fun _ wc => ∃ (ma : Option Addr) (mc : Nat) (G : List Tv), Lng wc B w2.heap.size 3 1 22 40 q.T X (cM mark) Nn ⟨ma, Nn, mc⟩ G ∧ Bx2 wc (bx + 1 + 1) (.slice ma Nn mc) (.slice none 0 0) ∧ Fr (bkT q.T ++ [bx + 1 + 1]) w2 wc)
  case first =>
    go_wp2_with fail
    go_loopw [7] (fun i wr => ∃ (j : Nat) (ma : Option Addr) (mc : Nat) (G : List Tv), j ≤ Nn ∧ i = .int .i64 (j : Nat) ∧ Lng wr B w2.heap.size 3 1 22 40 q.T X (cM mark) j ⟨ma, j, mc⟩ G ∧ Bx2 wr (bx + 1 + 1) (.slice ma j mc) (.slice none 0 0) ∧ Fr (bkT q.T ++ [bx + 1 + 1]) w2 wr) (fun i _ => Nn - (intOf i).toNat)
    case atStart => exact ⟨0, none, 0, [], by omega, rfl, HL0.out, HR52.out, Fr.refl _ _⟩
    case round =>
      obtain ⟨j, ma, mc, G, hj, rfl, hL, hR, hfr⟩ := hrel
      rename World => wr
      have HL := Lib.hid hL
      have HR := Lib.hid hR
      have HF := Lib.hid hfr
      have hs3 := hfr.size
      clear hL hR
      by_cases hlt : j < Nn
      · have hji : ((j : Nat) : Int) < (Nn : Nat) := by omega
        obtain ⟨t, ht⟩ : ∃ t, q.T[j]? = some t := ⟨_, List.getElem?_eq_getElem (by rw [HTn.out]; exact hlt)⟩
        obtain ⟨g, eg, hc⟩ := lo_at (HO.out wr hfr) ht
        have htn := (Pq.at_F H2.out HQ.out HFd.out ht).2
        have Hch0 := Lib.hid (Chn.start (cs := cM mark j) (HL.out.own j _ (Nat.le_refl _) ht))
        have Ht := Lib.hid ht
        have HdTj := Lib.hid (HdT.out j t ht)
        obtain ⟨ta, tn, tc⟩ := t
        simp only at hc htn
        subst eg
        clear ht hfr
        go_wp2_with fail
        go_loopw [8, 9] (fun l k wk => ∃ (n : Nat) (ua : Option Addr) (uc : Nat), n ≤ 40 ∧ k = .int .i64 (n : Nat) ∧ l = .slice ua (tn + n) uc ∧ Chn wr wk B 3 1 ⟨ta, tn, tc⟩ (X j) (cM mark j) n ⟨ua, tn + n, uc⟩) (fun _ k _ => 40 - (intOf k).toNat)
        case atStart => exact ⟨0, ta, tc, by omega, rfl, rfl, Hch0.out⟩
        case round =>
          obtain ⟨n, ua, uc, hn, rfl, rfl, hC⟩ := hrel
          rename World => wk
          have HC := Lib.hid hC
          have hs4 := hC.fr.size
          clear hC
          by_cases hn9 : n < 40
          · have hni : ((n : Nat) : Int) < 40 := by omega
            have hkn := Kp.new wk (.cells #[iv (mark + ((j : Nat) : Int))] 3)
            have hcs : Cs (wk.alloc (.cells #[iv (mark + ((j : Nat) : Int))] 3)) (some ⟨wk.heap.size, 0, none⟩) (cM mark j) := Cs.new wk (cM mark j) 3 (0, 0)
            have hC1 := HC.out.kp hkn
            have hbs : B ≤ (wk.alloc (.cells #[iv (mark + ((j : Nat) : Int))] 3)).heap.size := by have := hkn.size; omega
            go_upto_region 9 with (at_builtin; go_loud (refine wpList_apv rfl (.tmp 27) (.tmp 31) 22 rfl el22 B rfl hC1.new rfl (cM mark j) rfl hcs (by simp [cM, Value.oneCell']) (tn + (n + 1)) (by omega) (X j ++ rep (n + 1) (cM mark j)) (by rw [rep_succ, List.append_assoc]) (by omega) hbs ?_); intro ao2 cap2 w3 ha)
            have Hfin := Lib.hid (hC1.app rfl rfl ha)
            clear hkn hcs hC1 hbs ha
            go_wp2_with fail
            go_roundw
            case rel => exact ⟨n + 1, _, _, by omega, by go_num, rfl, Hfin.out⟩
            case measure => simp [intOf]; omega
          · obtain rfl : n = 40 := by omega
            have hni : ¬ ((40 : Nat) : Int) < 40 := by omega
            have hkn := Kp.new wk (.cells #[.slice ua (tn + 40) uc] 22)
            have hcs : Cs (wk.alloc (.cells #[.slice ua (tn + 40) uc] 22)) (some ⟨wk.heap.size, 0, none⟩) [.slice ua (tn + 40) uc] := Cs.new wk [.slice ua (tn + 40) uc] 22 (0, 0)
            have hlg := (HC.out.fr.own HL.out.lgo (fun x hx hq => by have h1 := HL.out.lo j _ Ht.out x hq; have h2 := (HL.out.lgo.lt x (mem_blkL.1 hx)).1; omega)).keep hkn
            have hbs : w2.heap.size ≤ (wk.alloc (.cells #[.slice ua (tn + 40) uc] 22)).heap.size := by have := hkn.size; omega
            have HRk := Lib.hid ((HR.out.fr HC.out.fr (fun hx => by have := HdTj.out _ hx; omega)).kp hkn)
            obtain ⟨y0, y1, z0, z1⟩ := HRk.out
            rw [show ((40 : Nat) : Int) = 40 from rfl]
            have hbm : bx + 1 + 1 ∉ blkL ma := fun hx => by have := (HL.out.lgo.lt _ (mem_blkL.1 hx)).1; omega
            have Hbm := Lib.hid hbm
            clear hbm
            have y0k : wk.cell? ⟨bx + 1 + 1, 0, none⟩ = some (.slice ma j mc) := (HR.out.fr HC.out.fr (fun hx => by have := HdTj.out _ hx; omega)).c0
            go_upto_region 5 with (at_builtin; go_loud (refine wpList_app rfl (.tmp 34) (.tmp 36) 66 rfl el66 w2.heap.size rfl hlg rfl [.slice ua (tn + 40) uc] rfl hcs (by simp [Value.oneCell']) (j + 1) rfl ((G ++ [(⟨ua, tn + 40, uc⟩ : Tv)]).map tvv) (by rw [List.map_append]; rfl) (by omega) hbs ?_); intro ao3 cap3 w4 ha3; have HA3 := Lib.hid ha3; clear ha3 y0 y1 z0 z1; obtain ⟨y0, y1, z0, z1⟩ := HRk.out.fr HA3.out.fr Hbm.out)
            have hnx := HL.out.next Ht.out HC.out hkn rfl rfl HA3.out
            have hst := Fr.set w4 ⟨bx + 1 + 1, 0, none⟩ (.slice ao3 (j + 1) cap3)
            have hR4' := HRk.out.fr HA3.out.fr Hbm.out
            have Hfin := Lib.hid (show Lng (w4.setCell ⟨bx + 1 + 1, 0, none⟩ (.slice ao3 (j + 1) cap3)) B w2.heap.size 3 1 22 40 q.T X (cM mark) (j + 1) ⟨ao3, j + 1, cap3⟩ (G ++ [⟨ua, tn + 40, uc⟩]) ∧ Bx2 (w4.setCell ⟨bx + 1 + 1, 0, none⟩ (.slice ao3 (j + 1) cap3)) (bx + 1 + 1) (.slice ao3 (j + 1) cap3) (.slice none 0 0) ∧ Fr (bkT q.T ++ [bx + 1 + 1]) w2 (w4.setCell ⟨bx + 1 + 1, 0, none⟩ (.slice ao3 (j + 1) cap3)) from
              ⟨hnx.1.far hst (fun x hx => by simp only [List.mem_singleton] at hx; subst hx; exact ⟨by omega, fun i t ht hy => by have := HdT.out i t ht _ hy; omega⟩), hR4'.set0 _, (HF.out.step hnx.2 (fun x hx => by
                rcases List.mem_append.1 hx with y | y
                · exact .inl (List.mem_append_left _ (bkT_mem Ht.out y))
                · exact .inr (HL.out.lgo.lt x (mem_blkL.1 y)).1)).trans (hst.mono (fun x hx => List.mem_append_right _ hx))⟩)
            clear hkn hcs hlg hbs hnx hst hR4' y0 y1 z0 z1 y0k
            go_wp2_with fail
            go_roundw
            case rel => exact ⟨j + 1, _, _, _, by omega, by go_num, Hfin.out⟩
            case measure => simp [intOf]; omega
      · obtain rfl : j = Nn := by omega
        have hji : ¬ ((j : Nat) : Int) < (j : Nat) := by omega
        clear hfr
        go_wp2_with fail
        go_meet
        case rel => exact ⟨ma, mc, G, HL.out, HR.out, HF.out⟩
  case rest =>
    obtain ⟨ma, mc, G, hL, hR, hfr⟩ := hcut
    have HL := Lib.hid hL
    have HF := Lib.hid hfr
    have hsc := hfr.size
    have hFx : ∀ x ∈ bkT q.T ++ [bx + 1 + 1], x < bx ∨ x = bx + 1 + 1 := fun x hx => by
      rcases List.mem_append.1 hx with y | y
      · obtain ⟨j, t, ht, hz⟩ := bkT_of y
        exact .inl (HdT.out j t ht x hz)
      · simp at y; exact .inr y
    have hF3 := HF2.out.fr hfr (fun hx => by rcases hFx _ hx with y | y <;> omega)
    have HR4c := Lib.hid (HR42.out.fr hfr (fun hx => by rcases hFx _ hx with y | y <;> omega))
    have hlw : OwV wc B 73 2 q.tl (lnc q.ls q.ts) := (Pq.line H2.out).fr hfr (fun x hx hy => by
      rcases List.mem_append.1 hy with y | y
      · obtain ⟨j, t, ht, hz⟩ := bkT_of y
        exact Pq.dj_L H2.out HQ.out j x t ht hz hx
      · simp at y; have := HdL.out x hx; omega)
    have hch := Chm.start (Y := [bx + 1 + 1]) (cs := cN mark) hlw (fun y hy => by simp only [List.mem_singleton] at hy; subst hy; exact ⟨by omega, fun hz => by have := HdL.out _ hz; omega⟩)
    have hst := Fr.set wc ⟨bx + 1 + 1, 1, none⟩ (.slice q.tl.ao q.tl.n q.tl.c)
    have HC0 := Lib.hid (hch.sto hst (fun x hx => hx))
    have HR0 := Lib.hid (hR.set1 (.slice q.tl.ao q.tl.n q.tl.c))
    obtain ⟨y0, y1, z0, z1⟩ := hR
    have x3 := hF3.c3
    clear hL hfr hF3 hlw hch hst hFx
    go_wp2_with fail
    clear x3 y0 y1 z0 z1
    go_loopw [10] (fun k wk => ∃ (n : Nat) (ua : Option Addr) (uc : Nat), n ≤ 40 ∧ k = .int .i64 (n : Nat) ∧ Chm wc wk B 73 2 q.tl (lnc q.ls q.ts) (cN mark) n ⟨ua, q.tl.n + n, uc⟩ [bx + 1 + 1] ∧ Bx2 wk (bx + 1 + 1) (.slice ma Nn mc) (.slice ua (q.tl.n + n) uc)) (fun k _ => 40 - (intOf k).toNat)
    case atStart => exact ⟨0, q.tl.ao, q.tl.c, by omega, rfl, HC0.out, HR0.out⟩
    case round =>
      obtain ⟨n, ua, uc, hn, rfl, hC, hR⟩ := hrel
      rename World => wk
      have HC := Lib.hid hC
      have HR := Lib.hid hR
      have hs4 := hC.fr.size
      have hbu : bx + 1 + 1 ∉ blkL ua := fun hx => by
        rcases hC.pl with p | p
        · simp only at p
          rw [p] at hx
          have := HdL.out _ hx; omega
        · have := p _ hx; omega
      have Hbu := Lib.hid hbu
      clear hC hbu
      by_cases hn9 : n < 40
      · have hni : ((n : Nat) : Int) < 40 := by omega
        have hkn := Kp.new wk (.cells #[iv mark, .slice none 0 0] 73)
        have hcs : Cs (wk.alloc (.cells #[iv mark, .slice none 0 0] 73)) (some ⟨wk.heap.size, 0, none⟩) (cN mark) := Cs.new wk (cN mark) 73 (0, 0)
        have hC1 := HC.out.kp hkn
        have hbs : B ≤ (wk.alloc (.cells #[iv mark, .slice none 0 0] 73)).heap.size := by have := hkn.size; omega
        have HRk := Lib.hid (hR.kp hkn)
        obtain ⟨y0, y1, z0, z1⟩ := hR
        obtain ⟨y0', y1', z0', z1'⟩ := HRk.out
        go_upto_region 15 with (at_builtin; go_loud (refine wpList_apv rfl (.tmp 47) (.tmp 50) 24 rfl el24 B rfl hC1.new rfl (cN mark) rfl hcs (by simp [cN, Value.oneCell']) (q.tl.n + (n + 1)) (by omega) (lnc q.ls q.ts ++ rep (n + 1) (cN mark)) (by rw [rep_succ, List.append_assoc]) (by omega) hbs ?_); intro ao2 cap2 w3 ha; have HA := Lib.hid ha; clear ha y0 y1 z0 z1 y0' y1' z0' z1'; obtain ⟨y0, y1, z0, z1⟩ := HRk.out.fr HA.out.fr Hbu.out)
        have hst := Fr.set w3 ⟨bx + 1 + 1, 1, none⟩ (.slice ao2 (q.tl.n + (n + 1)) cap2)
        have Hfin := Lib.hid (And.intro ((hC1.app rfl rfl HA.out).sto hst (fun x hx => hx)) ((HRk.out.fr HA.out.fr Hbu.out).set1 (.slice ao2 (q.tl.n + (n + 1)) cap2)))
        clear hkn hcs hC1 hbs y0 y1 z0 z1 hst
        go_wp2_with fail
        go_roundw
        case rel => exact ⟨n + 1, _, _, by omega, by go_num, Hfin.out⟩
        case measure => simp [intOf]; omega
      · obtain rfl : n = 40 := by omega
        have hni : ¬ ((40 : Nat) : Int) < 40 := by omega
        have hL' := HL.out
        rw [HX.out, ← HTn.out] at hL'
        have hs12 := HK12.out.size
        have hG := Gon.of (w := w2) H2.out HQ.out HFd.out hL' (Nat.le_refl _) HC.out (fun y hy => by simp only [List.mem_singleton] at hy; subst hy; exact ⟨by omega, fun hz => by have := HB.out _ hz; have := Hbx.out; omega⟩)
        rw [HTn.out] at hG
        have hst := (Fr.set wk ⟨bx + 1, 0, none⟩ (.slice ma Nn mc)).trans (Fr.set (wk.setCell ⟨bx + 1, 0, none⟩ (.slice ma Nn mc)) ⟨bx + 1, 1, none⟩ (.slice ua (q.tl.n + 40) uc))
        have hR4k := HR4c.out.fr HC.out.fr (fun hx => by
          rcases List.mem_append.1 hx with y | y
          · have := HdL.out _ y; omega
          · simp at y)
        have hG2 := hG.fr hst (fun x hx => by simp only [List.mem_singleton] at hx; subst hx; exact ⟨fun hz => by have := HB.out _ hz; have := Hbx.out; omega, .inl (by omega)⟩)
        have hRf := (hR4k.set0 (.slice ma Nn mc)).set1 (.slice ua (q.tl.n + 40) uc)
        have hfin : Fr ((bkT q.T ++ [bx + 1 + 1]) ++ (blkL q.tl.ao ++ [bx + 1 + 1]) ++ [bx + 1]) w ((wk.setCell ⟨bx + 1, 0, none⟩ (.slice ma Nn mc)).setCell ⟨bx + 1, 1, none⟩ (.slice ua (q.tl.n + 40) uc)) :=
          ((((Fr.of_kp HK12.out).mono (by simp)).trans (HF.out.mono (fun x hx => List.mem_append_left _ (List.mem_append_left _ hx)))).trans (HC.out.fr.mono (fun x hx => List.mem_append_left _ (List.mem_append_right _ hx)))).trans (hst.mono (fun x hx => List.mem_append_right _ hx))
        have Hfin := Lib.hid (show ∃ (N1 M1 : Nat), Gon ((wk.setCell ⟨bx + 1, 0, none⟩ (.slice ma Nn mc)).setCell ⟨bx + 1, 1, none⟩ (.slice ua (q.tl.n + 40) uc)) N1 M1 q mark ⟨ma, Nn, mc⟩ ⟨ua, q.tl.n + 40, uc⟩ G ∧ w.heap.size ≤ N1 ∧ M1 ≤ ((wk.setCell ⟨bx + 1, 0, none⟩ (.slice ma Nn mc)).setCell ⟨bx + 1, 1, none⟩ (.slice ua (q.tl.n + 40) uc)).heap.size ∧ ∃ X, Fr X w ((wk.setCell ⟨bx + 1, 0, none⟩ (.slice ma Nn mc)).setCell ⟨bx + 1, 1, none⟩ (.slice ua (q.tl.n + 40) uc)) ∧ ∀ x ∈ X, x ∈ q.bl ∨ w.heap.size ≤ x from
          ⟨_, _, hG2, hs12, hst.size, _, hfin, fun x hx => by
            have e := Hbx.out
            rcases List.mem_append.1 hx with y | y
            · rcases List.mem_append.1 y with y | y
              · rcases List.mem_append.1 y with y | y
                · obtain ⟨j, t, ht, hz⟩ := bkT_of y
                  exact .inl (Pq.bl_T HQ.out.hl ht hz)
                · simp at y; exact .inr (by omega)
              · rcases List.mem_append.1 y with y | y
                · exact .inl (Pq.bl_L y)
                · simp at y; exact .inr (by omega)
            · simp at y; exact .inr (by omega)⟩)
        have HRf := Lib.hid hRf
        obtain ⟨y0, y1, z0, z1⟩ := hR
        obtain ⟨v0, v1, u0, u1⟩ := hR4k
        clear hL' hG hst hG2 hRf hfin
        go_wp2_with fail
        obtain ⟨r0, r1, _, _⟩ := HRf.out
        refine bodyPost_ret (v := .agg #[.slice ma Nn mc, .slice ua (q.tl.n + 40) uc]) (by simp [results, Tryz.results45, go_sem, r0, r1]) rfl ?_
        obtain ⟨N1, M1, e1, e2, e3, e4⟩ := Hfin.out
        first | exact ⟨⟨ma, Nn, mc⟩, ⟨ua, q.tl.n + 40, uc⟩, rfl, G, N1, M1, e1, e2, e3, e4⟩ | exact ⟨⟨ma, Nn, mc⟩, ⟨ua, q.tl.n + 40, uc⟩, G, N1, M1, rfl, e1, e2, e3, e4⟩
end Go.Proofs.YtkmejehhdjdlbaaGreatDoor

namespace Go.Proofs.YtkmejehhdjdlbaaGreatDoor
open Go.RowKit

def pqc (q : Pq) : List Value := [.string q.nm, tvv q.t0, tvv q.t1, tvv q.tl]
theorem pqc_get (ps : List Pq) (j : Nat) {q : Pq} (h : ps[j]? = some q) : (ps.flatMap pqc)[j * 4]? = some (.string q.nm) ∧ (ps.flatMap pqc)[j * 4 + 1]? = some (tvv q.t0) ∧ (ps.flatMap pqc)[j * 4 + 2]? = some (tvv q.t1) ∧ (ps.flatMap pqc)[j * 4 + 3]? = some (tvv q.tl) := by
  induction ps generalizing j with
  | nil => simp at h
  | cons p r ih =>
    rw [List.flatMap_cons]
    rcases j with _ | j
    · simp only [List.getElem?_cons_zero, Option.some.injEq] at h
      subst h
      exact ⟨rfl, rfl, rfl, rfl⟩
    · simp only [List.getElem?_cons_succ] at h
      have := ih j h
      have hp : (pqc p).length = 4 := rfl
      refine ⟨?_, ?_, ?_, ?_⟩
      · rw [List.getElem?_append_right (by omega), hp, show (j + 1) * 4 - 4 = j * 4 by omega]; exact this.1
      · rw [List.getElem?_append_right (by omega), hp, show (j + 1) * 4 + 1 - 4 = j * 4 + 1 by omega]; exact this.2.1
      · rw [List.getElem?_append_right (by omega), hp, show (j + 1) * 4 + 2 - 4 = j * 4 + 2 by omega]; exact this.2.2.1
      · rw [List.getElem?_append_right (by omega), hp, show (j + 1) * 4 + 3 - 4 = j * 4 + 3 by omega]; exact this.2.2.2
/-- Where a row's pattern lies. -/
theorem arr_at {w : World} {B : Nat} {a : Tv} {ps : List Pq} {q : Pq} {j : Nat} (h : OwV w B 26 4 a (ps.flatMap pqc)) (hj : ps[j]? = some q) : ∃ g off, a.ao = some ⟨g, off, none⟩ ∧ w.cell? ⟨g, off + j * 4, none⟩ = some (.string q.nm) ∧ w.cell? ⟨g, off + j * 4 + 1, none⟩ = some (.slice q.t0.ao q.t0.n q.t0.c) ∧ w.cell? ⟨g, off + j * 4 + 2, none⟩ = some (.slice q.t1.ao q.t1.n q.t1.c) ∧ w.cell? ⟨g, off + j * 4 + 3, none⟩ = some (.slice q.tl.ao q.tl.n q.tl.c) := by
  obtain ⟨e0, e1, e2, e3⟩ := pqc_get ps j hj
  have hl := h.cs
  obtain ⟨g, off, eg, hc⟩ := hl.at (j * 4) (by have := (List.getElem?_eq_some_iff.1 e0).1; exact this)
  refine ⟨g, off, eg, hc _ _ e0, ?_, ?_, ?_⟩
  · have := hc _ _ e1; rwa [← Nat.add_assoc] at this
  · have := hc _ _ e2; rwa [← Nat.add_assoc] at this
  · have := hc _ _ e3; rwa [← Nat.add_assoc] at this
theorem fill_pqc (q : Pq) (m : Int) : pqc (q.fill m) = pqc q := rfl
def arrR (a : Tv) (ps : List Pq) : Rw := ⟨26, 4, a, ps.flatMap pqc⟩
/-- A pattern in a variable. -/
def boxR (b : Nat) (q : Pq) : Rw := arrR ⟨some ⟨b, 0, none⟩, 1, 1⟩ [q]
/-- The three rows of patterns, and all that they hold; the first kO (kT) of the first (second) written over. -/
structure Fm (w wq : World) (C : List Ct) (b6 b9 : Nat) (p z : Pq) (a1 a2 a3 : Tv) (O T W : List Pq) (mO mT : Nat → Int) (kO kT : Nat) : Prop where
  kp : Kp w wq
  sep : SepV wq w.heap.size ([arrR a1 O, arrR a2 T, arrR a3 W, boxR b6 p, boxR b9 z] ++ (flT mO kO O ++ (flT mT kT T ++ (W ++ [z]))).flatMap Pq.rows)
  okO : ∀ q ∈ O, q.Ok 24
  okT : ∀ q ∈ T, q.Ok 24
  okW : ∀ q ∈ W, q.Ok 24
  okz : z.Ok 2000
  cO : O.map Pq.ct = C
  cT : T.map Pq.ct = C
  cW : W.map Pq.ct = C
section
variable {w wq wr : World} {C : List Ct} {b6 b9 : Nat} {p z : Pq} {a1 a2 a3 : Tv} {O T W : List Pq} {mO mT : Nat → Int} {kO kT : Nat}
theorem Fm.lO (h : Fm w wq C b6 b9 p z a1 a2 a3 O T W mO mT kO kT) : O.length = C.length := by rw [← h.cO, List.length_map]
theorem Fm.lT (h : Fm w wq C b6 b9 p z a1 a2 a3 O T W mO mT kO kT) : T.length = C.length := by rw [← h.cT, List.length_map]
theorem Fm.lW (h : Fm w wq C b6 b9 p z a1 a2 a3 O T W mO mT kO kT) : W.length = C.length := by rw [← h.cW, List.length_map]
theorem Fm.o1 (h : Fm w wq C b6 b9 p z a1 a2 a3 O T W mO mT kO kT) : OwV wq w.heap.size 26 4 a1 (O.flatMap pqc) := h.sep.own (arrR a1 O) (by simp)
theorem Fm.o2 (h : Fm w wq C b6 b9 p z a1 a2 a3 O T W mO mT kO kT) : OwV wq w.heap.size 26 4 a2 (T.flatMap pqc) := h.sep.own (arrR a2 T) (by simp)
theorem Fm.o3 (h : Fm w wq C b6 b9 p z a1 a2 a3 O T W mO mT kO kT) : OwV wq w.heap.size 26 4 a3 (W.flatMap pqc) := h.sep.own (arrR a3 W) (by simp)
theorem Fm.o6 (h : Fm w wq C b6 b9 p z a1 a2 a3 O T W mO mT kO kT) : OwV wq w.heap.size 26 4 ⟨some ⟨b6, 0, none⟩, 1, 1⟩ ([p].flatMap pqc) := h.sep.own (boxR b6 p) (by simp)
theorem Fm.o9 (h : Fm w wq C b6 b9 p z a1 a2 a3 O T W mO mT kO kT) : OwV wq w.heap.size 26 4 ⟨some ⟨b9, 0, none⟩, 1, 1⟩ ([z].flatMap pqc) := h.sep.own (boxR b9 z) (by simp)
theorem Fm.keep (h : Fm w wq C b6 b9 p z a1 a2 a3 O T W mO mT kO kT) (k : Kp wq wr) : Fm w wr C b6 b9 p z a1 a2 a3 O T W mO mT kO kT := ⟨Kp.trans h.kp k, h.sep.kp k, h.okO, h.okT, h.okW, h.okz, h.cO, h.cT, h.cW⟩
theorem Fm.pO (h : Fm w wq C b6 b9 p z a1 a2 a3 O T W mO mT kO kT) {i : Nat} {q : Pq} (hi : O[i]? = some q) (hk : kO ≤ i) : SepV wq w.heap.size q.rows :=
  h.sep.one' (i := i) (by rw [List.getElem?_append_left (by rw [flT_length]; exact (List.getElem?_eq_some_iff.1 hi).1), flT_get, hi]; simp; intro h2; omega)
theorem Fm.pT (h : Fm w wq C b6 b9 p z a1 a2 a3 O T W mO mT kO kT) {i : Nat} {q : Pq} (hi : T[i]? = some q) (hk : kT ≤ i) : SepV wq w.heap.size q.rows :=
  h.sep.one' (i := O.length + i) (by
    rw [List.getElem?_append_right (by rw [flT_length]; omega), flT_length, Nat.add_sub_cancel_left, List.getElem?_append_left (by rw [flT_length]; exact (List.getElem?_eq_some_iff.1 hi).1), flT_get, hi]; simp; intro h2; omega)
theorem Fm.pW (h : Fm w wq C b6 b9 p z a1 a2 a3 O T W mO mT kO kT) {i : Nat} {q : Pq} (hi : W[i]? = some q) : SepV wq w.heap.size q.rows :=
  h.sep.one' (i := O.length + (T.length + i)) (by
    rw [List.getElem?_append_right (by rw [flT_length]; omega), flT_length, Nat.add_sub_cancel_left, List.getElem?_append_right (by rw [flT_length]; omega), flT_length, Nat.add_sub_cancel_left, List.getElem?_append_left (List.getElem?_eq_some_iff.1 hi).1, hi])
theorem Fm.pz (h : Fm w wq C b6 b9 p z a1 a2 a3 O T W mO mT kO kT) : SepV wq w.heap.size z.rows :=
  h.sep.one' (i := O.length + (T.length + W.length)) (by
    rw [List.getElem?_append_right (by rw [flT_length]; omega), flT_length, Nat.add_sub_cancel_left, List.getElem?_append_right (by rw [flT_length]; omega), flT_length, Nat.add_sub_cancel_left, List.getElem?_append_right (Nat.le_refl _), Nat.sub_self]; rfl)
theorem bl_ge {B : Nat} {v : World} {q : Pq} (h : SepV v B q.rows) {x : Nat} (hx : x ∈ q.bl) : B ≤ x := by
  obtain ⟨r, hr, hy⟩ := Pq.mem_bl.1 hx
  exact (h.lt hr hy).1
/-- One more of the first row's is written over. -/
theorem Fm.fillO {X : List Nat} {i : Nat} {q : Pq} (h : Fm w wq C b6 b9 p z a1 a2 a3 O T W mO mT i kT) (hi : O[i]? = some q) (f : Fr X wq wr) (hX : ∀ x ∈ X, x ∈ q.bl ∨ wq.heap.size ≤ x) (h' : SepV wr w.heap.size (q.fill (mO i)).rows) : Fm w wr C b6 b9 p z a1 a2 a3 O T W mO mT (i + 1) kT := by
  have hlt := (List.getElem?_eq_some_iff.1 hi).1
  have hp := h.pO hi (Nat.le_refl _)
  have hq := h.okO q (List.mem_of_getElem? hi)
  refine ⟨((Fr.of_kp h.kp).step f (fun x hx => .inr ?_)).kp, ?_, h.okO, h.okT, h.okW, h.okz, h.cO, h.cT, h.cW⟩
  · rcases hX x hx with y | y
    · exact bl_ge hp y
    · have := h.kp.size; omega
  · have hg : (flT mO i O ++ (flT mT kT T ++ (W ++ [z])))[i]? = some q := by
      rw [List.getElem?_append_left (by rw [flT_length]; exact hlt), flT_get, hi]; simp
    have := h.sep.set' hg f hX h' (Pq.fill_t hq.hl (mO i))
    rwa [List.set_append_left _ _ (by rw [flT_length]; exact hlt), flT_set _ _ _ hi] at this
theorem Fm.fillT {X : List Nat} {i : Nat} {q : Pq} (h : Fm w wq C b6 b9 p z a1 a2 a3 O T W mO mT kO i) (hi : T[i]? = some q) (f : Fr X wq wr) (hX : ∀ x ∈ X, x ∈ q.bl ∨ wq.heap.size ≤ x) (h' : SepV wr w.heap.size (q.fill (mT i)).rows) : Fm w wr C b6 b9 p z a1 a2 a3 O T W mO mT kO (i + 1) := by
  have hlt := (List.getElem?_eq_some_iff.1 hi).1
  have hp := h.pT hi (Nat.le_refl _)
  have hq := h.okT q (List.mem_of_getElem? hi)
  refine ⟨((Fr.of_kp h.kp).step f (fun x hx => .inr ?_)).kp, ?_, h.okO, h.okT, h.okW, h.okz, h.cO, h.cT, h.cW⟩
  · rcases hX x hx with y | y
    · exact bl_ge hp y
    · have := h.kp.size; omega
  · have hg : (flT mO kO O ++ (flT mT i T ++ (W ++ [z])))[O.length + i]? = some q := by
      rw [List.getElem?_append_right (by rw [flT_length]; omega), flT_length, Nat.add_sub_cancel_left, List.getElem?_append_left (by rw [flT_length]; exact hlt), flT_get, hi]; simp
    have := h.sep.set' hg f hX h' (Pq.fill_t hq.hl (mT i))
    rwa [List.set_append_right _ _ (by rw [flT_length]; omega), flT_length, Nat.add_sub_cancel_left, List.set_append_left _ _ (by rw [flT_length]; exact hlt), flT_set _ _ _ hi] at this
end
end Go.Proofs.YtkmejehhdjdlbaaGreatDoor

namespace Go.Proofs.YtkmejehhdjdlbaaGreatDoor
open Go.RowKit

/-- Two lists of patterns, one by turns. -/
def weave : List Pq → List Pq → List Pq
  | a :: r, b :: s => a :: b :: weave r s
  | _, _ => []
theorem weave_length : ∀ {r s : List Pq}, r.length = s.length → (weave r s).length = 2 * r.length
  | [], [], _ => rfl
  | a :: r, b :: s, h => by
    simp only [List.length_cons] at h
    simp only [weave, List.length_cons]
    rw [weave_length (by omega : r.length = s.length)]
    omega
theorem weave_0 : ∀ {r s : List Pq}, r.length = s.length → ∀ j : Nat, (weave r s)[2 * j]? = r[j]?
  | [], [], _, j => by simp [weave]
  | a :: r, b :: s, h, 0 => rfl
  | a :: r, b :: s, h, j + 1 => by
    simp only [List.length_cons] at h
    rw [show 2 * (j + 1) = 2 * j + 1 + 1 by omega]
    simp only [weave, List.getElem?_cons_succ]
    exact weave_0 (by omega : r.length = s.length) j
theorem weave_1 : ∀ {r s : List Pq}, r.length = s.length → ∀ j : Nat, (weave r s)[2 * j + 1]? = s[j]?
  | [], [], _, j => by simp [weave]
  | a :: r, b :: s, h, 0 => rfl
  | a :: r, b :: s, h, j + 1 => by
    simp only [List.length_cons] at h
    rw [show 2 * (j + 1) + 1 = 2 * j + 1 + 1 + 1 by omega]
    simp only [weave, List.getElem?_cons_succ]
    exact weave_1 (by omega : r.length = s.length) j
theorem weave_perm : ∀ {r s : List Pq}, r.length = s.length → (weave r s).Perm (r ++ s)
  | [], [], _ => List.Perm.refl _
  | a :: r, b :: s, h => by
    simp only [List.length_cons] at h
    have ih := weave_perm (by omega : r.length = s.length)
    simp only [weave, List.cons_append]
    exact ((ih.cons b).trans List.perm_middle.symm).cons a
def mkW (mO mT : Nat → Int) (k : Nat) : Int := if k % 2 = 0 then mO (k / 2) else mT (k / 2)
/-- The first k have been gone on from. -/
structure Gs (w wq : World) (N k : Nat) (E : List Rw) (IL Z : List Pq) (mk : Nat → Int) (gr : Tv) (gt : TypeId) (LU : List (Tv × Tv)) : Prop where
  kp : Kp w wq
  sep : SepV wq w.heap.size (E ++ (IL.drop k ++ Z).flatMap Pq.rows)
  lu : LU.length = k
  own : Own wq N gt 2 gr.ao gr.n gr.c (LU.flatMap (fun p => [tvv p.1, tvv p.2]))
  gon : ∀ (j : Nat) (q : Pq) (p : Tv × Tv), IL[j]? = some q → LU[j]? = some p → ∃ (N1 M1 : Nat) (G : List Tv), Gon wq N1 M1 q (mk j) p.1 p.2 G ∧ N ≤ N1 ∧ M1 ≤ wq.heap.size ∧ ∀ x ∈ blkL gr.ao, x < N1 ∨ M1 ≤ x
  ap : ∀ (i j x : Nat) (p q : Pq), IL[i]? = some p → IL[j]? = some q → x ∈ p.bl → x ∈ q.bl → i = j
  bn : ∀ (j : Nat) (q : Pq), IL[j]? = some q → ∀ x ∈ q.bl, x < N
  nn : N ≤ wq.heap.size
  wn : w.heap.size ≤ N
  ok : ∀ (j : Nat) (q : Pq), IL[j]? = some q → q.Ok 24 ∧ q.Fd (mk j)
  ez : ∀ r ∈ E ++ Z.flatMap Pq.rows, ∀ x ∈ r.bl, x < N
section
variable {w wq wr w2 w3 : World} {N k : Nat} {E : List Rw} {IL Z : List Pq} {mk : Nat → Int} {gr : Tv} {gt : TypeId} {LU : List (Tv × Tv)}
theorem Gs.keep (h : Gs w wq N k E IL Z mk gr gt LU) (q : Kp wq wr) : Gs w wr N k E IL Z mk gr gt LU :=
  ⟨Kp.trans h.kp q, h.sep.kp q, h.lu, h.own.keep q, fun j p u hp hu => by
    obtain ⟨N1, M1, G, h1, h2, h3, h4⟩ := h.gon j p u hp hu
    exact ⟨N1, M1, G, h1.fr (Fr.of_kp q) (by simp), h2, Nat.le_trans h3 q.size, h4⟩, h.ap, h.bn, Nat.le_trans h.nn q.size, h.wn, h.ok, h.ez⟩
theorem Gs.cur (h : Gs w wq N k E IL Z mk gr gt LU) {q : Pq} (hq : IL[k]? = some q) : SepV wq w.heap.size q.rows := by
  refine h.sep.one' (i := 0) ?_
  rw [List.getElem?_append_left (by have := (List.getElem?_eq_some_iff.1 hq).1; simp; omega), List.getElem?_drop, Nat.add_zero, hq]
/-- One more has been gone on from, but what has come of it is not in the row yet. -/
structure Gm (w wq : World) (N k : Nat) (E : List Rw) (IL Z : List Pq) (mk : Nat → Int) (gr : Tv) (gt : TypeId) (LU : List (Tv × Tv)) (MO : List (Tv × Tv)) : Prop where
  kp : Kp w wq
  sep : SepV wq w.heap.size (E ++ (IL.drop (k + MO.length) ++ Z).flatMap Pq.rows)
  lu : LU.length = k
  own : Own wq N gt 2 gr.ao gr.n gr.c (LU.flatMap (fun p => [tvv p.1, tvv p.2]))
  gon : ∀ (j : Nat) (q : Pq) (p : Tv × Tv), IL[j]? = some q → (LU ++ MO)[j]? = some p → ∃ (N1 M1 : Nat) (G : List Tv), Gon wq N1 M1 q (mk j) p.1 p.2 G ∧ N ≤ N1 ∧ M1 ≤ wq.heap.size ∧ ∀ x ∈ blkL gr.ao, x < N1 ∨ M1 ≤ x
  ap : ∀ (i j x : Nat) (p q : Pq), IL[i]? = some p → IL[j]? = some q → x ∈ p.bl → x ∈ q.bl → i = j
  bn : ∀ (j : Nat) (q : Pq), IL[j]? = some q → ∀ x ∈ q.bl, x < N
  nn : N ≤ wq.heap.size
  wn : w.heap.size ≤ N
  ok : ∀ (j : Nat) (q : Pq), IL[j]? = some q → q.Ok 24 ∧ q.Fd (mk j)
  ez : ∀ r ∈ E ++ Z.flatMap Pq.rows, ∀ x ∈ r.bl, x < N
theorem Gs.gm (h : Gs w wq N k E IL Z mk gr gt LU) : Gm w wq N k E IL Z mk gr gt LU [] :=
  ⟨h.kp, h.sep, h.lu, h.own, by rw [List.append_nil]; exact h.gon, h.ap, h.bn, h.nn, h.wn, h.ok, h.ez⟩
theorem Gm.cur {MO : List (Tv × Tv)} (h : Gm w wq N k E IL Z mk gr gt LU MO) {q : Pq} (hq : IL[k + MO.length]? = some q) : SepV wq w.heap.size q.rows := by
  refine h.sep.one' (i := 0) ?_
  rw [List.getElem?_append_left (by have := (List.getElem?_eq_some_iff.1 hq).1; simp; omega), List.getElem?_drop, Nat.add_zero, hq]
theorem Gm.step {X : List Nat} {MO : List (Tv × Tv)} {q : Pq} {lg u : Tv} {G : List Tv} (h : Gm w wq N k E IL Z mk gr gt LU MO) (hq : IL[k + MO.length]? = some q) (f : Fr X wq wr) (hX : ∀ x ∈ X, x ∈ q.bl ∨ wq.heap.size ≤ x)
    {N1 M1 : Nat} (hN1 : wq.heap.size ≤ N1) (hM1 : M1 ≤ wr.heap.size) (hg : Gon wr N1 M1 q (mk (k + MO.length)) lg u G) : Gm w wr N k E IL Z mk gr gt LU (MO ++ [(lg, u)]) := by
  have hs := f.size
  have hqb := h.bn _ _ hq
  have hnn := h.nn
  have hcur := h.cur hq
  have hge : ∀ x ∈ q.bl, w.heap.size ≤ x := fun x hx => bl_ge hcur hx
  have hgr : ∀ x ∈ blkL gr.ao, N ≤ x ∧ x < wq.heap.size := fun x hx => h.own.lt x (mem_blkL.1 hx)
  have hgX : ∀ x ∈ blkL gr.ao, x ∉ X := fun x hx hy => by
    have h1 := hgr x hx
    rcases hX x hy with p | p
    · have := hqb x p; omega
    · omega
  refine ⟨((Fr.of_kp h.kp).step f (fun x hx => .inr ?_)).kp, ?_, h.lu, f.own h.own hgX, fun j p v hp hv => ?_, h.ap, h.bn, by omega, h.wn, h.ok, h.ez⟩
  · rcases hX x hx with p | p
    · exact hge x p
    · have := h.kp.size; omega
  · have hlt := (List.getElem?_eq_some_iff.1 hq).1
    have e : IL.drop (k + MO.length) = q :: IL.drop (k + (MO ++ [(lg, u)]).length) := by
      rw [List.drop_eq_getElem_cons hlt]
      rw [List.getElem?_eq_getElem hlt] at hq
      rw [Option.some.inj hq, List.length_append]
      rfl
    have h1 := h.sep
    rw [e, List.cons_append] at h1
    exact h1.rest f hX
  · have hlm : (LU ++ MO).length = k + MO.length := by rw [List.length_append, h.lu]
    rcases Nat.lt_or_ge j (k + MO.length) with hj | hj
    · rw [← List.append_assoc, List.getElem?_append_left (by omega)] at hv
      obtain ⟨N1, M1, G1, g1, g2, g3, g4⟩ := h.gon j p v hp hv
      refine ⟨N1, M1, G1, g1.fr f (fun x hx => ?_), g2, by omega, g4⟩
      rcases hX x hx with y | y
      · refine ⟨fun z => ?_, .inl (by have := hqb x y; omega)⟩
        have := h.ap _ _ x p q hp hq z y
        omega
      · exact ⟨fun z => by have := h.bn j p hp x z; omega, .inr (by omega)⟩
    · have hj2 : j = k + MO.length := by
        have := (List.getElem?_eq_some_iff.1 hv).1
        rw [← List.append_assoc, List.length_append, hlm] at this
        simp at this
        omega
      subst hj2
      rw [hq] at hp
      cases hp
      rw [← List.append_assoc, List.getElem?_append_right (by omega), hlm, Nat.sub_self] at hv
      simp only [List.getElem?_cons_zero, Option.some.injEq] at hv
      subst hv
      exact ⟨_, _, G, hg, by omega, hM1, fun x hx => .inl (by have := (hgr x hx).2; omega)⟩
/-- What has come of them is put into the row. -/
theorem Gm.put {MO : List (Tv × Tv)} {ao' : Option Addr} {cap' m K : Nat} {zs : List Value} (h : Gm w wq N k E IL Z mk gr gt LU MO) (q : Kp wq w2) (ha : Appd w2 w3 N gt 2 gr.ao gr.c m K zs ao' cap') (hz : zs = (LU ++ MO).flatMap (fun p => [tvv p.1, tvv p.2])) (hK : K = k + MO.length) :
    Gs w w3 N K E IL Z mk ⟨ao', K, cap'⟩ gt (LU ++ MO) := by
  subst hz; subst hK
  have f := ha.fr
  have hs := q.size
  have hs2 := f.size
  have hnn := h.nn
  have hgr : ∀ x ∈ blkL gr.ao, N ≤ x ∧ x < wq.heap.size := fun x hx => h.own.lt x (mem_blkL.1 hx)
  have hrows : ∀ r ∈ E ++ (IL.drop (k + MO.length) ++ Z).flatMap Pq.rows, ∀ x ∈ r.bl, x < N := fun r hr x hx => by
    rcases List.mem_append.1 hr with p | p
    · exact h.ez r (List.mem_append_left _ p) x hx
    · rw [List.flatMap_append] at p
      rcases List.mem_append.1 p with p | p
      · obtain ⟨y, hy, hz⟩ := List.mem_flatMap.1 p
        obtain ⟨j, hj, rfl⟩ := List.getElem_of_mem (List.mem_of_mem_drop hy)
        exact h.bn j _ (List.getElem?_eq_getElem hj) x (Pq.mem_bl.2 ⟨r, hz, hx⟩)
      · exact h.ez r (List.mem_append_right _ p) x hx
  refine ⟨((Fr.of_kp (Kp.trans h.kp q)).step f (fun x hx => .inr (by have := (hgr x hx).1; have := h.wn; omega))).kp, ?_, by rw [List.length_append, h.lu], ha.own, fun j p v hp hv => ?_, h.ap, h.bn, by omega, h.wn, h.ok, h.ez⟩
  · exact (h.sep.kp q).fr f (fun x hx r hr hy => by have := (hgr x hx).1; have := hrows r hr x hy; omega)
  · obtain ⟨N1, M1, G1, g1, g2, g3, g4⟩ := h.gon j p v hp hv
    refine ⟨N1, M1, G1, (g1.fr (Fr.of_kp q) (by simp)).fr f (fun x hx => ⟨fun z => by have := h.bn j p hp x z; have := (hgr x hx).1; omega, g4 x hx⟩), g2, by omega, fun x hx => ?_⟩
    rcases ha.fresh x (mem_blkL.1 hx) with y | y
    · exact g4 x (mem_blkL.2 y)
    · exact .inr (by omega)
theorem Gs.start {O T : List Pq} (hk : Kp w wq) (hS : SepV wq w.heap.size (E ++ (O ++ (T ++ Z)).flatMap Pq.rows)) (hl : O.length = T.length) {mO mT : Nat → Int} (hO : ∀ (j : Nat) (q : Pq), O[j]? = some q → q.Ok 24 ∧ q.Fd (mO j)) (hT : ∀ (j : Nat) (q : Pq), T[j]? = some q → q.Ok 24 ∧ q.Fd (mT j)) :
    Gs w wq wq.heap.size 0 E (weave O T) Z (mkW mO mT) ⟨none, 0, 0⟩ gt [] := by
  have p : (E ++ (O ++ (T ++ Z)).flatMap Pq.rows).Perm (E ++ (weave O T ++ Z).flatMap Pq.rows) := by
    rw [← List.append_assoc O]
    exact List.Perm.append_left E (((weave_perm hl).symm.append_right Z).flatMap_right _)
  have hS' := hS.perm p
  have hrow : ∀ (j : Nat) (q : Pq), (weave O T)[j]? = some q → ∀ r ∈ q.rows, r ∈ E ++ (weave O T ++ Z).flatMap Pq.rows := fun j q hq r hr =>
    List.mem_append_right _ (List.mem_flatMap.2 ⟨q, List.mem_append_left _ (List.mem_of_getElem? hq), hr⟩)
  refine ⟨hk, hS', rfl, Own.nil _ _ _ _, fun j q p hq hp => by simp at hp, fun i j x a b ha hb hx hy => ?_, fun j q hq x hx => ?_, Nat.le_refl _, hk.size, fun j q hq => ?_, fun r hr x hx => ?_⟩
  · obtain ⟨r, hr, hrx⟩ := Pq.mem_bl.1 hx
    obtain ⟨s, hs, hsx⟩ := Pq.mem_bl.1 hy
    have hap := (List.pairwise_append.1 hS'.ap).2.1
    rw [List.flatMap_append] at hap
    have hap2 := (List.pairwise_append.1 hap).1
    rw [List.flatMap_def, List.pairwise_flatten] at hap2
    have h2 := hap2.2
    rw [List.pairwise_map, List.pairwise_iff_getElem] at h2
    obtain ⟨hi, rfl⟩ := List.getElem?_eq_some_iff.1 ha
    obtain ⟨hj, rfl⟩ := List.getElem?_eq_some_iff.1 hb
    rcases Nat.lt_trichotomy i j with q | q | q
    · exact (h2 i j hi hj q r hr s hs x hrx hsx).elim
    · exact q
    · exact (h2 j i hj hi q s hs r hr x hsx hrx).elim
  · obtain ⟨r, hr, hrx⟩ := Pq.mem_bl.1 hx
    exact (hS'.lt (hrow j q hq r hr) hrx).2
  · rcases Nat.mod_two_eq_zero_or_one j with e | e
    · obtain ⟨i, rfl⟩ : ∃ i, j = 2 * i := ⟨j / 2, by omega⟩
      rw [weave_0 hl] at hq
      have := hO i q hq
      unfold mkW
      rw [if_pos e, show 2 * i / 2 = i by omega]
      exact this
    · obtain ⟨i, rfl⟩ : ∃ i, j = 2 * i + 1 := ⟨j / 2, by omega⟩
      rw [weave_1 hl] at hq
      have := hT i q hq
      unfold mkW
      rw [if_neg (by omega), show (2 * i + 1) / 2 = i by omega]
      exact this
  · refine (hS'.lt ?_ hx).2
    rcases List.mem_append.1 hr with q | q
    · exact List.mem_append_left _ q
    · exact List.mem_append_right _ (by rw [List.flatMap_append]; exact List.mem_append_right _ q)
end
end Go.Proofs.YtkmejehhdjdlbaaGreatDoor

namespace Go.Proofs.YtkmejehhdjdlbaaGreatDoor
open Go.RowKit

/-- The statements from this region's loop on. -/
def seqIs (n : Nat) : Code → Option Code
  | .seq (.seq (.region m o f) a) b => if m = n then some (.seq (.seq (.region m o f) a) b) else seqIs n b
  | .seq (.region m o f) b => if m = n then some (.seq (.region m o f) b) else seqIs n b
  | .seq _ b => seqIs n b
  | _ => none
noncomputable def tailO (n : Nat) : Code := match Tryz.f13.body with | some c => (seqIs n c).getD .skip | none => .skip
theorem same_pq (w : World) (B B' K : Nat) (q r : Pq) (h1 : SepV w B q.rows) (h2 : SepV w B' r.rows) (o1 : q.Ok K) (o2 : r.Ok K) (hK : K ≤ 100000) (hc : q.ct = r.ct) : Calls Tryz.prog 31 #[q.val, r.val] w fun e w' => e = .returned (.bool true) ∧ Kp w w' := by
  have p1 := h1.pat o1 hK
  have p2 := h2.pat o2 hK
  unfold Pq.ct at hc
  simp only [Prod.mk.injEq] at hc
  obtain ⟨e1, e2, e3, e4⟩ := hc
  rw [← e2, ← e3, ← e4] at p2
  unfold Pq.val
  rw [← e1]
  exact same_yes w q.nm q.t0.ao q.t1.ao q.tl.ao r.t0.ao r.t1.ao r.tl.ao q.t0.n q.t0.c q.t1.n q.t1.c q.tl.n q.tl.c r.t0.n r.t0.c r.t1.n r.t1.c r.tl.n r.tl.c q.b0 q.b1 q.ls p1 p2
/-- What is left when all has been gone on from: the copies. -/
structure Fw (w wq : World) (C : List Ct) (b6 b9 : Nat) (p z : Pq) (a1 a2 a3 : Tv) (O T W : List Pq) : Prop where
  kp : Kp w wq
  sep : SepV wq w.heap.size ([arrR a1 O, arrR a2 T, arrR a3 W, boxR b6 p, boxR b9 z] ++ (W ++ [z]).flatMap Pq.rows)
  okW : ∀ q ∈ W, q.Ok 24
  okz : z.Ok 2000
  cW : W.map Pq.ct = C
  lO : O.length = C.length
  lT : T.length = C.length
section
variable {w wq wr : World} {C : List Ct} {b6 b9 : Nat} {p z : Pq} {a1 a2 a3 : Tv} {O T W : List Pq}
theorem Fw.keep (h : Fw w wq C b6 b9 p z a1 a2 a3 O T W) (k : Kp wq wr) : Fw w wr C b6 b9 p z a1 a2 a3 O T W := ⟨Kp.trans h.kp k, h.sep.kp k, h.okW, h.okz, h.cW, h.lO, h.lT⟩
theorem Fw.lW (h : Fw w wq C b6 b9 p z a1 a2 a3 O T W) : W.length = C.length := by rw [← h.cW, List.length_map]
theorem Fw.o1 (h : Fw w wq C b6 b9 p z a1 a2 a3 O T W) : OwV wq w.heap.size 26 4 a1 (O.flatMap pqc) := h.sep.own (arrR a1 O) (by simp)
theorem Fw.o2 (h : Fw w wq C b6 b9 p z a1 a2 a3 O T W) : OwV wq w.heap.size 26 4 a2 (T.flatMap pqc) := h.sep.own (arrR a2 T) (by simp)
theorem Fw.o3 (h : Fw w wq C b6 b9 p z a1 a2 a3 O T W) : OwV wq w.heap.size 26 4 a3 (W.flatMap pqc) := h.sep.own (arrR a3 W) (by simp)
theorem Fw.o6 (h : Fw w wq C b6 b9 p z a1 a2 a3 O T W) : OwV wq w.heap.size 26 4 ⟨some ⟨b6, 0, none⟩, 1, 1⟩ ([p].flatMap pqc) := h.sep.own (boxR b6 p) (by simp)
theorem Fw.o9 (h : Fw w wq C b6 b9 p z a1 a2 a3 O T W) : OwV wq w.heap.size 26 4 ⟨some ⟨b9, 0, none⟩, 1, 1⟩ ([z].flatMap pqc) := h.sep.own (boxR b9 z) (by simp)
theorem Fw.pW (h : Fw w wq C b6 b9 p z a1 a2 a3 O T W) {i : Nat} {q : Pq} (hi : W[i]? = some q) : SepV wq w.heap.size q.rows :=
  h.sep.one' (i := i) (by rw [List.getElem?_append_left (List.getElem?_eq_some_iff.1 hi).1, hi])
theorem Fw.pz (h : Fw w wq C b6 b9 p z a1 a2 a3 O T W) : SepV wq w.heap.size z.rows :=
  h.sep.one' (i := W.length) (by rw [List.getElem?_append_right (Nat.le_refl _), Nat.sub_self]; rfl)
end
/-- A pattern in a variable, cell by cell. -/
theorem box_at {w : World} {B b : Nat} {q : Pq} (h : OwV w B 26 4 ⟨some ⟨b, 0, none⟩, 1, 1⟩ ([q].flatMap pqc)) : w.cell? ⟨b, 0, none⟩ = some (.string q.nm) ∧ w.cell? ⟨b, 1, none⟩ = some (.slice q.t0.ao q.t0.n q.t0.c) ∧ w.cell? ⟨b, 2, none⟩ = some (.slice q.t1.ao q.t1.n q.t1.c) ∧ w.cell? ⟨b, 3, none⟩ = some (.slice q.tl.ao q.tl.n q.tl.c) := by
  obtain ⟨g, off, e, c0, c1, c2, c3⟩ := arr_at (j := 0) h rfl
  simp only [Option.some.injEq, Addr.mk.injEq, and_true] at e
  obtain ⟨rfl, rfl⟩ := e
  exact ⟨by simpa using c0, by simpa using c1, by simpa using c2, by simpa using c3⟩
theorem ct_at {A B : List Pq} {C : List Ct} (ha : A.map Pq.ct = C) (hb : B.map Pq.ct = C) {i : Nat} {q r : Pq} (hq : A[i]? = some q) (hr : B[i]? = some r) : q.ct = r.ct := by
  have h1 : C[i]? = some q.ct := by rw [← ha, List.getElem?_map, hq]; rfl
  have h2 : C[i]? = some r.ct := by rw [← hb, List.getElem?_map, hr]; rfl
  rw [h1] at h2
  exact Option.some.inj h2
end Go.Proofs.YtkmejehhdjdlbaaGreatDoor

namespace Go.Proofs.YtkmejehhdjdlbaaGreatDoor
open Go.RowKit

set_option maxRecDepth 100000 in
set_option maxHeartbeats 16000000 in
theorem ow35 (w wq : World) (C : List Ct) (hC : C.length = 12) (b6 b9 : Nat) (p z : Pq) (xt xn : ByteArray) (wo : Option Addr) (nw cw : Nat)
    (HK : ∀ v, Kp w v → Calls Tryz.prog 21 #[] v fun e w' => e = .returned (.bool true) ∧ Kp v w')
    (HAs : ∀ v, Kp w v → Calls Tryz.prog 43 #[.string xt, .string xn, p.val, .slice wo nw cw] v fun e w' => Kp v w' ∧ ∃ (ao : Option Addr) (c : Nat) (qs : List Pq), e = .returned (.slice ao 12 c) ∧ SepV w' v.heap.size (arrR ⟨ao, 12, c⟩ qs :: qs.flatMap Pq.rows) ∧ qs.map Pq.ct = C ∧ ∀ q ∈ qs, q.Ok 24)
    (HSz : ∀ (v : World) (B' : Nat), Kp w v → SepV v B' z.rows → Calls Tryz.prog 31 #[p.val, z.val] v fun e w' => e = .returned (.bool true) ∧ Kp v w')
    (aa ba ca : Option Addr) (ac bc cc : Nat) (O T W : List Pq)
    (hF : Fw w wq C b6 b9 p z ⟨aa, 12, ac⟩ ⟨ba, 12, bc⟩ ⟨ca, 12, cc⟩ O T W)
    (x2 x4 x5 x7 x8 x13 x14 x15 x16 x17 x18 x19 x20 x21 x22 x23 x24 x25 x26 x27 x28 x29 x30 x31 x32 x33 x34 x35 x36 x37 x38 x39 x40 x41 x42 x43 x44 x45 x46 x47 x48 x49 x50 x51 x52 x53 x54 x55 x56 x57 x58 x59 x60 x61 x62 x63 x64 x65 x66 x67 x68 x69 x70 x71 x72 x73 x74 x75 x76 x77 x78 x79 x80 x81 x82 x83 x84 x85 x86 x87 x88 x89 x90 x91 x92 x93 x94 x95 x96 x97 x98 x99 x100 x101 x102 x103 x104 x105 x106 x107 x108 x109 x110 x111 x112 x113 x114 x115 x116 x117 x118 x119 x120 x121 x122 x123 x124 x125 x126 x127 x128 x129 x130 x131 x132 x133 x134 x135 x136 x137 x138 x139 x140 x141 x142 x143 x144 x145 x146 x147 x148 x149 x150 x151 x152 x153 x154 x155 x156 x157 x158 x159 x160 x161 x162 x163 x164 x165 x166 x167 x168 x169 x170 x171 x172 x173 x174 x175 x176 x177 x178 x179 x180 x181 x182 x183 x184 x185 x186 x187 x188 x189 x190 x191 x192 x193 x194 x195 x196 x197 x198 x199 x200 x201 x202 x203 x204 x205 x206 x207 x208 x209 x210 x211 x212 : Value) :
    (tailO 35).wp Tryz.prog (bodyPost Tryz.prog Tryz.f13 fun e w' => e = .returned (.bool true) ∧ Kp w w') { tmps := List.toArray (.string xt :: .string xn :: x2 :: .slice wo nw cw :: x4 :: x5 :: .pointer (some ⟨b6, 0, none⟩) :: x7 :: x8 :: .pointer (some ⟨b9, 0, none⟩) :: .slice aa 12 ac :: .slice ba 12 bc :: .slice ca 12 cc :: x13 :: x14 :: x15 :: x16 :: x17 :: x18 :: x19 :: x20 :: x21 :: x22 :: x23 :: x24 :: x25 :: x26 :: x27 :: x28 :: x29 :: x30 :: x31 :: x32 :: x33 :: x34 :: x35 :: x36 :: x37 :: x38 :: x39 :: x40 :: x41 :: x42 :: x43 :: x44 :: x45 :: x46 :: x47 :: x48 :: x49 :: x50 :: x51 :: x52 :: x53 :: x54 :: x55 :: x56 :: x57 :: x58 :: x59 :: x60 :: x61 :: x62 :: x63 :: x64 :: x65 :: x66 :: x67 :: x68 :: x69 :: x70 :: x71 :: x72 :: x73 :: x74 :: x75 :: x76 :: x77 :: x78 :: x79 :: x80 :: x81 :: x82 :: x83 :: x84 :: x85 :: x86 :: x87 :: x88 :: x89 :: x90 :: x91 :: x92 :: x93 :: x94 :: x95 :: x96 :: x97 :: x98 :: x99 :: x100 :: x101 :: x102 :: x103 :: x104 :: x105 :: x106 :: x107 :: x108 :: x109 :: x110 :: x111 :: x112 :: x113 :: x114 :: x115 :: x116 :: x117 :: x118 :: x119 :: x120 :: x121 :: x122 :: x123 :: x124 :: x125 :: x126 :: x127 :: x128 :: x129 :: x130 :: x131 :: x132 :: x133 :: x134 :: x135 :: x136 :: x137 :: x138 :: x139 :: x140 :: x141 :: x142 :: x143 :: x144 :: x145 :: x146 :: x147 :: x148 :: x149 :: x150 :: x151 :: x152 :: x153 :: x154 :: x155 :: x156 :: x157 :: x158 :: x159 :: x160 :: x161 :: x162 :: x163 :: x164 :: x165 :: x166 :: x167 :: x168 :: x169 :: x170 :: x171 :: x172 :: x173 :: x174 :: x175 :: x176 :: x177 :: x178 :: x179 :: x180 :: x181 :: x182 :: x183 :: x184 :: x185 :: x186 :: x187 :: x188 :: x189 :: x190 :: x191 :: x192 :: x193 :: x194 :: x195 :: x196 :: x197 :: x198 :: x199 :: x200 :: x201 :: x202 :: x203 :: x204 :: x205 :: x206 :: x207 :: x208 :: x209 :: x210 :: x211 :: x212 :: []), defers := [] } wq := by
  have HF := Lib.hid hF
  clear hF
  unfold tailO
  conv => arg 2; whnf
  obtain ⟨y0, y1, y2, y3⟩ := box_at HF.out.o6
  have HA := Lib.hid (HAs wq HF.out.kp)
  unfold Pq.val at HA
  go_wp2_with fail
  (with_reducible refine HA.out.mono ?_)
  rintro e w2 ⟨hk2, ao, c, qs, rfl, hS, hct, hok⟩
  have HF2 := Lib.hid (HF.out.keep hk2)
  have HS := Lib.hid hS
  have Hct := Lib.hid hct
  have Hok := Lib.hid hok
  have HKw := Lib.hid (Kp.trans HF.out.kp hk2)
  clear hk2 hS hct hok HA y0 y1 y2 y3
  go_wp2_with fail
  go_loopw [20] (fun i wr => ∃ j : Nat, j ≤ 12 ∧ i = .int .i64 (j : Nat) ∧ Kp w2 wr) (fun i _ => 12 - (intOf i).toNat)
  case atStart => exact ⟨0, by omega, rfl, Kp.refl _⟩
  case round =>
    obtain ⟨j, hj, rfl, hkr⟩ := hrel
    rename World => wr
    have HKr := Lib.hid hkr
    by_cases hlt : j < 12
    · have hji : ((j : Nat) : Int) < 12 := by omega
      obtain ⟨q, hq⟩ : ∃ q, qs[j]? = some q := ⟨_, List.getElem?_eq_getElem (by rw [← List.length_map (f := Pq.ct), Hct.out, hC]; exact hlt)⟩
      obtain ⟨r, hr⟩ : ∃ r, W[j]? = some r := ⟨_, List.getElem?_eq_getElem (by rw [HF2.out.lW, hC]; exact hlt)⟩
      obtain ⟨g, off, eg, c0, c1, c2, c3⟩ := arr_at (HS.out.kp hkr).head hq
      obtain ⟨g2, off2, eg2, d0, d1, d2, d3⟩ := arr_at (HF2.out.keep hkr).o3 hr
      have hce := ct_at Hct.out HF2.out.cW hq hr
      have HSm := Lib.hid (fun (v : World) (hv : Kp wr v) => same_pq v _ _ 24 q r (((HS.out.kp hkr).kp hv).tail.one hq) ((HF2.out.keep (Kp.trans hkr hv)).pW hr) (Hok.out q (List.mem_of_getElem? hq)) (HF2.out.okW r (List.mem_of_getElem? hr)) (by decide) hce)
      unfold Pq.val at HSm
      simp only at eg eg2
      subst eg
      subst eg2
      clear hq hr hce hkr
      go_upto_region 39 with fail
      refine any_start (by kernel_rfl) ?_
      refine any_take [0, 1, 2, 4, 5, 6] (by kernel_rfl) ?_
      simp only [opsAt, List.getElem?_toArray, List.getElem?_cons_zero, List.getElem?_cons_succ]
      repeat (go_big_quiet_step (fail))
      refine wpQuiet_nil ?_
      obtain ⟨wd, hwd⟩ : ∃ wd, wd = wr.drew := ⟨_, rfl⟩
      have hkd : Kp wr wd := hwd ▸ (⟨rfl, rfl, rfl, Nat.le_refl _, fun _ _ => rfl⟩ : Kp wr wr.drew)
      rw [← hwd]
      clear hwd
      replace c0 := hkd.cell c0
      replace c1 := hkd.cell c1
      replace c2 := hkd.cell c2
      replace c3 := hkd.cell c3
      replace d0 := hkd.cell d0
      replace d1 := hkd.cell d1
      replace d2 := hkd.cell d2
      replace d3 := hkd.cell d3
      have HSm2 := Lib.hid (HSm.out wd hkd)
      have HKd := Lib.hid (Kp.trans HKr.out hkd)
      clear hkd HSm
      refine any_still [3, 7] (by kernel_rfl) ?_
      simp only [opsAt, List.getElem?_toArray, List.getElem?_cons_zero, List.getElem?_cons_succ]
      repeat (go_big_quiet_step (fail))
      refine wpQuiet_nil ?_
      refine any_one 8 (by kernel_rfl) ?_
      simp only [opsAt, List.getElem?_toArray, List.getElem?_cons_zero, List.getElem?_cons_succ]
      go_wp2_with (go_at_call 31; go_loud (refine HSm2.out.mono ?_); rintro e w5 ⟨rfl, hk5⟩; have HK5 := Lib.hid (Kp.trans HKd.out hk5); clear hk5)
      refine any_one 9 (by kernel_rfl) ?_
      simp only [opsAt, List.getElem?_toArray, List.getElem?_cons_zero, List.getElem?_cons_succ]
      go_wp2_with fail
      refine any_end (by kernel_rfl) ?_
      clear c0 c1 c2 c3 d0 d1 d2 d3
      go_wp2_with fail
      go_roundw
      case rel => exact ⟨j + 1, by omega, by go_num, HK5.out⟩
      case measure => simp [intOf]; omega
    · obtain rfl : j = 12 := by omega
      have HF3 := Lib.hid (HF2.out.keep hkr)
      obtain ⟨y0, y1, y2, y3⟩ := box_at HF3.out.o6
      obtain ⟨z0, z1, z2, z3⟩ := box_at HF3.out.o9
      have HSm := Lib.hid (HSz wr _ HF3.out.kp HF3.out.pz)
      unfold Pq.val at HSm
      clear hkr
      rw [show ((12 : Nat) : Int) = 12 from rfl]
      go_wp2_with fail
      (with_reducible refine HSm.out.mono ?_)
      rintro e w5 ⟨rfl, hk5⟩
      have HK5 := Lib.hid (Kp.trans HF3.out.kp hk5)
      have HKn := Lib.hid (HK w5 HK5.out)
      clear hk5 y0 y1 y2 y3 z0 z1 z2 z3
      go_wp2_with fail
      (with_reducible refine HKn.out.mono ?_)
      rintro e w6 ⟨rfl, hk6⟩
      have HK6 := Lib.hid (Kp.trans HK5.out hk6)
      clear hk6
      go_wp2_with fail
      go_ret
      exact ⟨rfl, HK6.out⟩
end Go.Proofs.YtkmejehhdjdlbaaGreatDoor

namespace Go.Proofs.YtkmejehhdjdlbaaGreatDoor
open Go.RowKit

/-- The marks. -/
def mOo (j : Nat) : Int := 1000 * (((j : Nat) : Int) + 1)
def mTo (j : Nat) : Int := 1000 * (((j : Nat) : Int) + 1) + 500
theorem mkW_0 (j : Nat) : mkW mOo mTo (2 * j) = 1000 * (((j : Nat) : Int) + 1) := by unfold mkW mOo; rw [if_pos (by omega), show 2 * j / 2 = j by omega]
theorem mkW_1 (j : Nat) : mkW mOo mTo (2 * j + 1) = 1000 * (((j : Nat) : Int) + 1) + 500 := by unfold mkW mTo; rw [if_neg (by omega), show (2 * j + 1) / 2 = j by omega]
theorem gr_get (LU : List (Tv × Tv)) (k : Nat) {p : Tv × Tv} (h : LU[k]? = some p) : (LU.flatMap (fun p => [tvv p.1, tvv p.2]))[k * 2]? = some (tvv p.1) ∧ (LU.flatMap (fun p => [tvv p.1, tvv p.2]))[k * 2 + 1]? = some (tvv p.2) := by
  induction LU generalizing k with
  | nil => simp at h
  | cons a r ih =>
    rw [List.flatMap_cons]
    rcases k with _ | k
    · simp only [List.getElem?_cons_zero, Option.some.injEq] at h
      subst h
      exact ⟨rfl, rfl⟩
    · simp only [List.getElem?_cons_succ] at h
      have := ih k h
      refine ⟨?_, ?_⟩
      · rw [List.getElem?_append_right (by simp; omega), show (k + 1) * 2 - [tvv a.1, tvv a.2].length = k * 2 by simp; omega]; exact this.1
      · rw [List.getElem?_append_right (by simp; omega), show (k + 1) * 2 + 1 - [tvv a.1, tvv a.2].length = k * 2 + 1 by simp; omega]; exact this.2
theorem gr_at {w : World} {B k c : Nat} {ga : Option Addr} {LU : List (Tv × Tv)} {n : Nat} {p : Tv × Tv} (h : Own w B 68 2 ga n c (LU.flatMap (fun p => [tvv p.1, tvv p.2]))) (hp : LU[k]? = some p) : ∃ g, ga = some ⟨g, 0, none⟩ ∧ w.cell? ⟨g, k * 2, none⟩ = some (.slice p.1.ao p.1.n p.1.c) ∧ w.cell? ⟨g, k * 2 + 1, none⟩ = some (.slice p.2.ao p.2.n p.2.c) := by
  obtain ⟨e0, e1⟩ := gr_get LU k hp
  have hl := h.1
  have h0 := (List.getElem?_eq_some_iff.1 e0).1
  have h1 := (List.getElem?_eq_some_iff.1 e1).1
  obtain ⟨g, hg⟩ := h.blockOf (by omega)
  rw [hg] at h
  exact ⟨g, hg, by rw [h.cell _ (by omega)]; exact e0, by rw [h.cell _ (by omega)]; exact e1⟩
set_option maxRecDepth 100000 in
set_option maxHeartbeats 16000000 in
theorem ow30 (w wq : World) (C : List Ct) (hC : C.length = 12) (b6 b9 : Nat) (p z : Pq) (xt xn : ByteArray) (wo : Option Addr) (nw cw : Nat)
    (HK : ∀ v, Kp w v → Calls Tryz.prog 21 #[] v fun e w' => e = .returned (.bool true) ∧ Kp v w')
    (HAs : ∀ v, Kp w v → Calls Tryz.prog 43 #[.string xt, .string xn, p.val, .slice wo nw cw] v fun e w' => Kp v w' ∧ ∃ (ao : Option Addr) (c : Nat) (qs : List Pq), e = .returned (.slice ao 12 c) ∧ SepV w' v.heap.size (arrR ⟨ao, 12, c⟩ qs :: qs.flatMap Pq.rows) ∧ qs.map Pq.ct = C ∧ ∀ q ∈ qs, q.Ok 24)
    (HSz : ∀ (v : World) (B' : Nat), Kp w v → SepV v B' z.rows → Calls Tryz.prog 31 #[p.val, z.val] v fun e w' => e = .returned (.bool true) ∧ Kp v w')
    (aa ba ca : Option Addr) (ac bc cc : Nat) (O T W : List Pq)
    (N : Nat) (O2 T2 : List Pq) (hl2 : O2.length = 12) (hl3 : T2.length = 12) (hO2 : O2.flatMap pqc = O.flatMap pqc) (hT2 : T2.flatMap pqc = T.flatMap pqc) (hW : ∀ q ∈ W, q.Ok 24) (hz : z.Ok 2000) (cW : W.map Pq.ct = C) (lO : O.length = C.length) (lT : T.length = C.length) (ga : Option Addr) (gc : Nat) (LU : List (Tv × Tv)) (hG : Gs w wq N 24 [arrR ⟨aa, 12, ac⟩ O, arrR ⟨ba, 12, bc⟩ T, arrR ⟨ca, 12, cc⟩ W, boxR b6 p, boxR b9 z] (weave O2 T2) (W ++ [z]) (mkW mOo mTo) ⟨ga, 24, gc⟩ 68 LU)
    (x2 x4 x5 x7 x8 x13 x14 x15 x17 x18 x19 x20 x21 x22 x23 x24 x25 x26 x27 x28 x29 x30 x31 x32 x33 x34 x35 x36 x37 x38 x39 x40 x41 x42 x43 x44 x45 x46 x47 x48 x49 x50 x51 x52 x53 x54 x55 x56 x57 x58 x59 x60 x61 x62 x63 x64 x65 x66 x67 x68 x69 x70 x71 x72 x73 x74 x75 x76 x77 x78 x79 x80 x81 x82 x83 x84 x85 x86 x87 x88 x89 x90 x91 x92 x93 x94 x95 x96 x97 x98 x99 x100 x101 x102 x103 x104 x105 x106 x107 x108 x109 x110 x111 x112 x113 x114 x115 x116 x117 x118 x119 x120 x121 x122 x123 x124 x125 x126 x127 x128 x129 x130 x131 x132 x133 x134 x135 x136 x137 x138 x139 x140 x141 x142 x143 x144 x145 x146 x147 x148 x149 x150 x151 x152 x153 x154 x155 x156 x157 x158 x159 x160 x161 x162 x163 x164 x165 x166 x167 x168 x169 x170 x171 x172 x173 x174 x175 x176 x177 x178 x179 x180 x181 x182 x183 x184 x185 x186 x187 x188 x189 x190 x191 x192 x193 x194 x195 x196 x197 x198 x199 x200 x201 x202 x203 x204 x205 x206 x207 x208 x209 x210 x211 x212 : Value) :
    (tailO 30).wp Tryz.prog (bodyPost Tryz.prog Tryz.f13 fun e w' => e = .returned (.bool true) ∧ Kp w w') { tmps := List.toArray (.string xt :: .string xn :: x2 :: .slice wo nw cw :: x4 :: x5 :: .pointer (some ⟨b6, 0, none⟩) :: x7 :: x8 :: .pointer (some ⟨b9, 0, none⟩) :: .slice aa 12 ac :: .slice ba 12 bc :: .slice ca 12 cc :: x13 :: x14 :: x15 :: .slice ga 24 gc :: x17 :: x18 :: x19 :: x20 :: x21 :: x22 :: x23 :: x24 :: x25 :: x26 :: x27 :: x28 :: x29 :: x30 :: x31 :: x32 :: x33 :: x34 :: x35 :: x36 :: x37 :: x38 :: x39 :: x40 :: x41 :: x42 :: x43 :: x44 :: x45 :: x46 :: x47 :: x48 :: x49 :: x50 :: x51 :: x52 :: x53 :: x54 :: x55 :: x56 :: x57 :: x58 :: x59 :: x60 :: x61 :: x62 :: x63 :: x64 :: x65 :: x66 :: x67 :: x68 :: x69 :: x70 :: x71 :: x72 :: x73 :: x74 :: x75 :: x76 :: x77 :: x78 :: x79 :: x80 :: x81 :: x82 :: x83 :: x84 :: x85 :: x86 :: x87 :: x88 :: x89 :: x90 :: x91 :: x92 :: x93 :: x94 :: x95 :: x96 :: x97 :: x98 :: x99 :: x100 :: x101 :: x102 :: x103 :: x104 :: x105 :: x106 :: x107 :: x108 :: x109 :: x110 :: x111 :: x112 :: x113 :: x114 :: x115 :: x116 :: x117 :: x118 :: x119 :: x120 :: x121 :: x122 :: x123 :: x124 :: x125 :: x126 :: x127 :: x128 :: x129 :: x130 :: x131 :: x132 :: x133 :: x134 :: x135 :: x136 :: x137 :: x138 :: x139 :: x140 :: x141 :: x142 :: x143 :: x144 :: x145 :: x146 :: x147 :: x148 :: x149 :: x150 :: x151 :: x152 :: x153 :: x154 :: x155 :: x156 :: x157 :: x158 :: x159 :: x160 :: x161 :: x162 :: x163 :: x164 :: x165 :: x166 :: x167 :: x168 :: x169 :: x170 :: x171 :: x172 :: x173 :: x174 :: x175 :: x176 :: x177 :: x178 :: x179 :: x180 :: x181 :: x182 :: x183 :: x184 :: x185 :: x186 :: x187 :: x188 :: x189 :: x190 :: x191 :: x192 :: x193 :: x194 :: x195 :: x196 :: x197 :: x198 :: x199 :: x200 :: x201 :: x202 :: x203 :: x204 :: x205 :: x206 :: x207 :: x208 :: x209 :: x210 :: x211 :: x212 :: []), defers := [] } wq := by
  have HGs := Lib.hid hG
  have HcW := Lib.hid cW
  have HlO := Lib.hid lO
  have HlT := Lib.hid lT
  have HhO := Lib.hid hO2
  have HhT := Lib.hid hT2
  have Hl2 := Lib.hid hl2
  have Hl3 := Lib.hid hl3
  have hFw : ∀ v, Kp wq v → Fw w v C b6 b9 p z ⟨aa, 12, ac⟩ ⟨ba, 12, bc⟩ ⟨ca, 12, cc⟩ O T W := fun v hv => by
    have h1 := HGs.out.keep hv
    have h2 := h1.sep
    rw [List.drop_eq_nil_of_le (by rw [weave_length (by rw [Hl2.out, Hl3.out]), Hl2.out]; decide), List.nil_append] at h2
    exact ⟨h1.kp, h2, hW, hz, HcW.out, HlO.out, HlT.out⟩
  have HFw := Lib.hid hFw
  clear hG cW lO lT hO2 hT2 hFw hl2 hl3
  unfold tailO
  conv => arg 2; whnf
  go_upto_block 8 with fail
  go_cut [18] (fun _ wc => Kp wq wc)
  case rest =>
    have hcw := hcut
    go_step
    exact ow35 w wc C hC b6 b9 p z xt xn wo nw cw HK HAs HSz aa ba ca ac bc cc O T W (HFw.out _ hcw) _ _ _ _ _ _ _ _ _ _ _ _ _ _ _ _ _ _ _ _ _ _ _ _ _ _ _ _ _ _ _ _ _ _ _ _ _ _ _ _ _ _ _ _ _ _ _ _ _ _ _ _ _ _ _ _ _ _ _ _ _ _ _ _ _ _ _ _ _ _ _ _ _ _ _ _ _ _ _ _ _ _ _ _ _ _ _ _ _ _ _ _ _ _ _ _ _ _ _ _ _ _ _ _ _ _ _ _ _ _ _ _ _ _ _ _ _ _ _ _ _ _ _ _ _ _ _ _ _ _ _ _ _ _ _ _ _ _ _ _ _ _ _ _ _ _ _ _ _ _ _ _ _ _ _ _ _ _ _ _ _ _ _ _ _ _ _ _ _ _ _ _ _ _ _ _ _ _ _ _ _ _ _ _ _ _ _ _ _ _ _ _ _ _ _ _ _ _ _ _ _ _ _ _ _
  case first =>
    go_wp2_with fail
    go_loopw [18] (fun i wr => ∃ j : Nat, j ≤ 12 ∧ i = .int .i64 (j : Nat) ∧ Kp wq wr) (fun i _ => 12 - (intOf i).toNat)
    case atStart => exact ⟨0, by omega, rfl, Kp.refl _⟩
    case round =>
    obtain ⟨j, hj, rfl, hkr⟩ := hrel
    rename World => wr
    have HKr := Lib.hid hkr
    by_cases hlt : j < 12
    · have hji : ((j : Nat) : Int) < 12 := by omega
      obtain ⟨q, hq⟩ : ∃ q, O2[j]? = some q := ⟨_, List.getElem?_eq_getElem (by rw [Hl2.out]; exact hlt)⟩
      obtain ⟨r, hr⟩ : ∃ r, T2[j]? = some r := ⟨_, List.getElem?_eq_getElem (by rw [Hl3.out]; exact hlt)⟩
      have hiq : (weave O2 T2)[2 * j]? = some q := by rw [weave_0 (by rw [Hl2.out, Hl3.out])]; exact hq
      have hir : (weave O2 T2)[2 * j + 1]? = some r := by rw [weave_1 (by rw [Hl2.out, Hl3.out])]; exact hr
      obtain ⟨lu, hlu⟩ : ∃ lu, LU[2 * j]? = some lu := ⟨_, List.getElem?_eq_getElem (by rw [HGs.out.lu]; omega)⟩
      obtain ⟨lv, hlv⟩ : ∃ lv, LU[2 * j + 1]? = some lv := ⟨_, List.getElem?_eq_getElem (by rw [HGs.out.lu]; omega)⟩
      have hGr := HGs.out.keep hkr
      obtain ⟨N1, M1, G1, hG1, _⟩ := hGr.gon (2 * j) q lu hiq hlu
      obtain ⟨N2, M2, G2, hG2, _⟩ := hGr.gon (2 * j + 1) r lv hir hlv
      rw [mkW_0] at hG1
      rw [mkW_1] at hG2
      have hoq := (HGs.out.ok (2 * j) q hiq).1
      have hor := (HGs.out.ok (2 * j + 1) r hir).1
      obtain ⟨g, off, eg, c0, c1, c2, c3⟩ := arr_at (ps := O2) (by rw [HhO.out]; exact (HFw.out wr hkr).o1) hq
      obtain ⟨g2, off2, eg2, d0, d1, d2, d3⟩ := arr_at (ps := T2) (by rw [HhT.out]; exact (HFw.out wr hkr).o2) hr
      obtain ⟨gg, egg, e0, e1⟩ := gr_at hGr.own hlu
      obtain ⟨gg2, egg2, f0, f1⟩ := gr_at hGr.own hlv
      rw [egg] at egg2
      simp only [Option.some.injEq, Addr.mk.injEq, and_true] at egg2
      subst egg2
      have HB1 := Lib.hid (fun (v : World) (hv : Kp wr v) => bears_any v N1 M1 q _ lu.1 lu.2 G1 (hG1.fr (Fr.of_kp hv) (by simp)) hoq (by omega))
      have HB2 := Lib.hid (fun (v : World) (hv : Kp wr v) => bears_any v N2 M2 r _ lv.1 lv.2 G2 (hG2.fr (Fr.of_kp hv) (by simp)) hor (by omega))
      unfold Pq.val at HB1 HB2
      simp only at eg eg2 egg
      subst eg
      subst eg2
      subst egg
      clear hq hr hiq hir hlu hlv hGr hG1 hG2 hoq hor hkr
      go_upto_region 33 with fail
      refine any_start (by kernel_rfl) ?_
      refine any_take [0, 1, 2, 4, 5, 6, 9, 10, 11] (by kernel_rfl) ?_
      simp only [opsAt, List.getElem?_toArray, List.getElem?_cons_zero, List.getElem?_cons_succ]
      repeat (go_big_quiet_step (fail))
      refine wpQuiet_nil ?_
      rw [show (2 : Int) * ((j : Nat) : Int) = ((2 * j : Nat) : Int) by omega]
      obtain ⟨wd, hwd⟩ : ∃ wd, wd = wr.drew := ⟨_, rfl⟩
      have hkd : Kp wr wd := hwd ▸ (⟨rfl, rfl, rfl, Nat.le_refl _, fun _ _ => rfl⟩ : Kp wr wr.drew)
      rw [← hwd]
      clear hwd
      replace c0 := hkd.cell c0
      replace c1 := hkd.cell c1
      replace c2 := hkd.cell c2
      replace c3 := hkd.cell c3
      replace d0 := hkd.cell d0
      replace d1 := hkd.cell d1
      replace d2 := hkd.cell d2
      replace d3 := hkd.cell d3
      replace e0 := hkd.cell e0
      replace e1 := hkd.cell e1
      replace f0 := hkd.cell f0
      replace f1 := hkd.cell f1
      have HB1d := Lib.hid (HB1.out wd hkd)
      have HKd := Lib.hid (Kp.trans HKr.out hkd)
      have HKrd := Lib.hid hkd
      clear HB1 hkd
      have C0 := Lib.hid c0
      have D0 := Lib.hid (And.intro d0 (And.intro d1 (And.intro d2 d3)))
      have F0 := Lib.hid (And.intro f0 f1)
      clear d0 d1 d2 d3 f0 f1
      refine any_take [7] (by kernel_rfl) ?_
      simp only [opsAt, List.getElem?_toArray, List.getElem?_cons_zero, List.getElem?_cons_succ]
      repeat (go_big_quiet_step (fail))
      refine wpQuiet_nil ?_
      refine any_still [3, 8] (by kernel_rfl) ?_
      simp only [opsAt, List.getElem?_toArray, List.getElem?_cons_zero, List.getElem?_cons_succ]
      repeat (go_big_quiet_step (fail))
      refine wpQuiet_nil ?_
      refine any_one 12 (by kernel_rfl) ?_
      simp only [opsAt, List.getElem?_toArray, List.getElem?_cons_zero, List.getElem?_cons_succ]
      go_wp2_with (go_at_call 46; go_loud (refine HB1d.out.mono ?_); rintro e w5 ⟨rfl, hk5⟩; have HK5 := Lib.hid hk5; clear hk5)
      clear c0 c1 c2 c3 e0 e1
      refine any_one 13 (by kernel_rfl) ?_
      simp only [opsAt, List.getElem?_toArray, List.getElem?_cons_zero, List.getElem?_cons_succ]
      go_wp2_with fail
      refine any_one 14 (by kernel_rfl) ?_
      simp only [opsAt, List.getElem?_toArray, List.getElem?_cons_zero, List.getElem?_cons_succ]
      go_wp2_with fail
      obtain ⟨d0, d1, d2, d3⟩ := D0.out
      obtain ⟨f0, f1⟩ := F0.out
      replace d0 := HK5.out.cell d0
      replace d1 := HK5.out.cell d1
      replace d2 := HK5.out.cell d2
      replace d3 := HK5.out.cell d3
      replace f0 := HK5.out.cell f0
      replace f1 := HK5.out.cell f1
      have HB2d := Lib.hid (HB2.out w5 (Kp.trans HKrd.out HK5.out))
      clear HB2
      refine any_take [15, 16, 17, 19, 20, 21, 22, 25, 26, 27, 28] (by kernel_rfl) ?_
      simp only [opsAt, List.getElem?_toArray, List.getElem?_cons_zero, List.getElem?_cons_succ]
      repeat (go_big_quiet_step (fail))
      refine wpQuiet_nil ?_
      rw [show (2 : Int) * ((j : Nat) : Int) + 1 = ((2 * j + 1 : Nat) : Int) by omega]
      refine any_take [23] (by kernel_rfl) ?_
      simp only [opsAt, List.getElem?_toArray, List.getElem?_cons_zero, List.getElem?_cons_succ]
      repeat (go_big_quiet_step (fail))
      refine wpQuiet_nil ?_
      refine any_still [18, 24] (by kernel_rfl) ?_
      simp only [opsAt, List.getElem?_toArray, List.getElem?_cons_zero, List.getElem?_cons_succ]
      repeat (go_big_quiet_step (fail))
      refine wpQuiet_nil ?_
      refine any_one 29 (by kernel_rfl) ?_
      simp only [opsAt, List.getElem?_toArray, List.getElem?_cons_zero, List.getElem?_cons_succ]
      go_wp2_with (go_at_call 46; go_loud (refine HB2d.out.mono ?_); rintro e w6 ⟨rfl, hk6⟩; have HK6 := Lib.hid (Kp.trans HKd.out (Kp.trans HK5.out hk6)); clear hk6)
      clear d0 d1 d2 d3 f0 f1
      refine any_one 30 (by kernel_rfl) ?_
      simp only [opsAt, List.getElem?_toArray, List.getElem?_cons_zero, List.getElem?_cons_succ]
      go_wp2_with fail
      refine any_one 31 (by kernel_rfl) ?_
      simp only [opsAt, List.getElem?_toArray, List.getElem?_cons_zero, List.getElem?_cons_succ]
      go_wp2_with fail
      refine any_end (by kernel_rfl) ?_
      go_wp2_with fail
      go_roundw
      case rel => exact ⟨j + 1, by omega, by go_num, HK6.out⟩
      case measure => simp [intOf]; omega
    · obtain rfl : j = 12 := by omega
      have hji : ¬ ((12 : Nat) : Int) < 12 := by omega
      rw [show ((12 : Nat) : Int) = 12 from rfl]
      go_wp2_with fail
      go_meet
      case rel => exact HKr.out
end Go.Proofs.YtkmejehhdjdlbaaGreatDoor

namespace Go.Proofs.YtkmejehhdjdlbaaGreatDoor
open Go.RowKit

theorem el65 : El Tryz.prog 65 68 (.agg #[.slice none 0 0, .slice none 0 0]) 2 48 := ⟨Tryz.underlying65, by kernel_rfl, rfl, by decide, by decide⟩
theorem flT_pqc (m : Nat → Int) (k : Nat) (qs : List Pq) : (flT m k qs).flatMap pqc = qs.flatMap pqc := by
  have h : (flT m k qs).map pqc = qs.map pqc := by
    apply List.ext_getElem?
    intro j
    rw [List.getElem?_map, List.getElem?_map, flT_get]
    cases qs[j]? with
    | none => rfl
    | some q =>
      simp only [Option.map_some, Option.some.injEq]
      split
      · exact fill_pqc q _
      · rfl
  rw [List.flatMap_def, List.flatMap_def, h]
theorem flT_ok {m : Nat → Int} {n : Nat} {qs : List Pq} (hn : qs.length = n) (ho : ∀ q ∈ qs, q.Ok 24) (j : Nat) (q : Pq) (hq : (flT m n qs)[j]? = some q) : q.Ok 24 ∧ q.Fd (m j) := by
  rw [flT_get] at hq
  obtain ⟨r, hr, e⟩ := Option.map_eq_some_iff.1 hq
  have hj := (List.getElem?_eq_some_iff.1 hr).1
  rw [if_pos (by omega)] at e
  subst e
  exact ⟨(ho r (List.mem_of_getElem? hr)).fill _, Pq.fill_fd r _⟩
set_option maxRecDepth 100000 in
set_option maxHeartbeats 16000000 in
theorem ow25 (w wq : World) (C : List Ct) (hC : C.length = 12) (b6 b9 : Nat) (p z : Pq) (xt xn : ByteArray) (wo : Option Addr) (nw cw : Nat)
    (HK : ∀ v, Kp w v → Calls Tryz.prog 21 #[] v fun e w' => e = .returned (.bool true) ∧ Kp v w')
    (HAs : ∀ v, Kp w v → Calls Tryz.prog 43 #[.string xt, .string xn, p.val, .slice wo nw cw] v fun e w' => Kp v w' ∧ ∃ (ao : Option Addr) (c : Nat) (qs : List Pq), e = .returned (.slice ao 12 c) ∧ SepV w' v.heap.size (arrR ⟨ao, 12, c⟩ qs :: qs.flatMap Pq.rows) ∧ qs.map Pq.ct = C ∧ ∀ q ∈ qs, q.Ok 24)
    (HSz : ∀ (v : World) (B' : Nat), Kp w v → SepV v B' z.rows → Calls Tryz.prog 31 #[p.val, z.val] v fun e w' => e = .returned (.bool true) ∧ Kp v w')
    (aa ba ca : Option Addr) (ac bc cc : Nat) (O T W : List Pq)
    (hF : Fm w wq C b6 b9 p z ⟨aa, 12, ac⟩ ⟨ba, 12, bc⟩ ⟨ca, 12, cc⟩ O T W mOo mTo 12 12)
    (x2 x4 x5 x7 x8 x13 x14 x15 x16 x17 x18 x19 x20 x21 x22 x23 x24 x25 x26 x27 x28 x29 x30 x31 x32 x33 x34 x35 x36 x37 x38 x39 x40 x41 x42 x43 x44 x45 x46 x47 x48 x49 x50 x51 x52 x53 x54 x55 x56 x57 x58 x59 x60 x61 x62 x63 x64 x65 x66 x67 x68 x69 x70 x71 x72 x73 x74 x75 x76 x77 x78 x79 x80 x81 x82 x83 x84 x85 x86 x87 x88 x89 x90 x91 x92 x93 x94 x95 x96 x97 x98 x99 x100 x101 x102 x103 x104 x105 x106 x107 x108 x109 x110 x111 x112 x113 x114 x115 x116 x117 x118 x119 x120 x121 x122 x123 x124 x125 x126 x127 x128 x129 x130 x131 x132 x133 x134 x135 x136 x137 x138 x139 x140 x141 x142 x143 x144 x145 x146 x147 x148 x149 x150 x151 x152 x153 x154 x155 x156 x157 x158 x159 x160 x161 x162 x163 x164 x165 x166 x167 x168 x169 x170 x171 x172 x173 x174 x175 x176 x177 x178 x179 x180 x181 x182 x183 x184 x185 x186 x187 x188 x189 x190 x191 x192 x193 x194 x195 x196 x197 x198 x199 x200 x201 x202 x203 x204 x205 x206 x207 x208 x209 x210 x211 x212 : Value) :
    (tailO 25).wp Tryz.prog (bodyPost Tryz.prog Tryz.f13 fun e w' => e = .returned (.bool true) ∧ Kp w w') { tmps := List.toArray (.string xt :: .string xn :: x2 :: .slice wo nw cw :: x4 :: x5 :: .pointer (some ⟨b6, 0, none⟩) :: x7 :: x8 :: .pointer (some ⟨b9, 0, none⟩) :: .slice aa 12 ac :: .slice ba 12 bc :: .slice ca 12 cc :: x13 :: x14 :: x15 :: x16 :: x17 :: x18 :: x19 :: x20 :: x21 :: x22 :: x23 :: x24 :: x25 :: x26 :: x27 :: x28 :: x29 :: x30 :: x31 :: x32 :: x33 :: x34 :: x35 :: x36 :: x37 :: x38 :: x39 :: x40 :: x41 :: x42 :: x43 :: x44 :: x45 :: x46 :: x47 :: x48 :: x49 :: x50 :: x51 :: x52 :: x53 :: x54 :: x55 :: x56 :: x57 :: x58 :: x59 :: x60 :: x61 :: x62 :: x63 :: x64 :: x65 :: x66 :: x67 :: x68 :: x69 :: x70 :: x71 :: x72 :: x73 :: x74 :: x75 :: x76 :: x77 :: x78 :: x79 :: x80 :: x81 :: x82 :: x83 :: x84 :: x85 :: x86 :: x87 :: x88 :: x89 :: x90 :: x91 :: x92 :: x93 :: x94 :: x95 :: x96 :: x97 :: x98 :: x99 :: x100 :: x101 :: x102 :: x103 :: x104 :: x105 :: x106 :: x107 :: x108 :: x109 :: x110 :: x111 :: x112 :: x113 :: x114 :: x115 :: x116 :: x117 :: x118 :: x119 :: x120 :: x121 :: x122 :: x123 :: x124 :: x125 :: x126 :: x127 :: x128 :: x129 :: x130 :: x131 :: x132 :: x133 :: x134 :: x135 :: x136 :: x137 :: x138 :: x139 :: x140 :: x141 :: x142 :: x143 :: x144 :: x145 :: x146 :: x147 :: x148 :: x149 :: x150 :: x151 :: x152 :: x153 :: x154 :: x155 :: x156 :: x157 :: x158 :: x159 :: x160 :: x161 :: x162 :: x163 :: x164 :: x165 :: x166 :: x167 :: x168 :: x169 :: x170 :: x171 :: x172 :: x173 :: x174 :: x175 :: x176 :: x177 :: x178 :: x179 :: x180 :: x181 :: x182 :: x183 :: x184 :: x185 :: x186 :: x187 :: x188 :: x189 :: x190 :: x191 :: x192 :: x193 :: x194 :: x195 :: x196 :: x197 :: x198 :: x199 :: x200 :: x201 :: x202 :: x203 :: x204 :: x205 :: x206 :: x207 :: x208 :: x209 :: x210 :: x211 :: x212 :: []), defers := [] } wq := by
  have hlO := hF.lO
  have hlT := hF.lT
  have HlO := Lib.hid hlO
  have HlT := Lib.hid hlT
  rw [hC] at hlO hlT
  have HG0 := Lib.hid (Gs.start (gt := 68) (mO := mOo) (mT := mTo) hF.kp hF.sep (by rw [flT_length, flT_length, hlO, hlT]) (fun j q hq => flT_ok hlO hF.okO j q hq) (fun j q hq => flT_ok hlT hF.okT j q hq))
  have HOl := Lib.hid (show (flT mOo 12 O).length = 12 by rw [flT_length, hlO])
  have HTl := Lib.hid (show (flT mTo 12 T).length = 12 by rw [flT_length, hlT])
  have HW := Lib.hid hF.okW
  have Hz := Lib.hid hF.okz
  have HcW := Lib.hid hF.cW
  have hsw := hF.kp.size
  clear hF hlO hlT
  unfold tailO
  conv => arg 2; whnf
  go_upto_block 6 with fail
  go_cut [16] (fun gv wc => ∃ (ga : Option Addr) (gc : Nat) (LU : List (Tv × Tv)), gv = .slice ga 24 gc ∧ Gs w wc wq.heap.size 24 [arrR ⟨aa, 12, ac⟩ O, arrR ⟨ba, 12, bc⟩ T, arrR ⟨ca, 12, cc⟩ W, boxR b6 p, boxR b9 z] (weave (flT mOo 12 O) (flT mTo 12 T)) (W ++ [z]) (mkW mOo mTo) ⟨ga, 24, gc⟩ 68 LU)
  case rest =>
    obtain ⟨ga, gc, LU, rfl, hG⟩ := hcut
    go_step
    exact ow30 w wc C hC b6 b9 p z xt xn wo nw cw HK HAs HSz aa ba ca ac bc cc O T W wq.heap.size (flT mOo 12 O) (flT mTo 12 T) HOl.out HTl.out (flT_pqc _ _ _) (flT_pqc _ _ _) HW.out Hz.out HcW.out HlO.out HlT.out ga gc LU hG _ _ _ _ _ _ _ _ _ _ _ _ _ _ _ _ _ _ _ _ _ _ _ _ _ _ _ _ _ _ _ _ _ _ _ _ _ _ _ _ _ _ _ _ _ _ _ _ _ _ _ _ _ _ _ _ _ _ _ _ _ _ _ _ _ _ _ _ _ _ _ _ _ _ _ _ _ _ _ _ _ _ _ _ _ _ _ _ _ _ _ _ _ _ _ _ _ _ _ _ _ _ _ _ _ _ _ _ _ _ _ _ _ _ _ _ _ _ _ _ _ _ _ _ _ _ _ _ _ _ _ _ _ _ _ _ _ _ _ _ _ _ _ _ _ _ _ _ _ _ _ _ _ _ _ _ _ _ _ _ _ _ _ _ _ _ _ _ _ _ _ _ _ _ _ _ _ _ _ _ _ _ _ _ _ _ _ _ _ _ _ _ _ _ _ _ _ _ _ _ _ _ _ _
  case first =>
    go_wp2_with fail
    go_loopw [16, 17] (fun gv i wr => ∃ (j : Nat) (ga : Option Addr) (gc : Nat) (LU : List (Tv × Tv)), j ≤ 12 ∧ i = .int .i64 (j : Nat) ∧ gv = .slice ga (2 * j) gc ∧ Gs w wr wq.heap.size (2 * j) [arrR ⟨aa, 12, ac⟩ O, arrR ⟨ba, 12, bc⟩ T, arrR ⟨ca, 12, cc⟩ W, boxR b6 p, boxR b9 z] (weave (flT mOo 12 O) (flT mTo 12 T)) (W ++ [z]) (mkW mOo mTo) ⟨ga, 2 * j, gc⟩ 68 LU) (fun _ i _ => 12 - (intOf i).toNat)
    case atStart => exact ⟨0, none, 0, [], by omega, rfl, rfl, HG0.out⟩
    case round =>
    obtain ⟨j, ga, gc, LU, hj, rfl, rfl, hG⟩ := hrel
    rename World => wr
    have HG := Lib.hid hG
    have hnn := hG.nn
    clear hG
    by_cases hlt : j < 12
    · have hji : ((j : Nat) : Int) < 12 := by omega
      obtain ⟨q, hq⟩ : ∃ q, (flT mOo 12 O)[j]? = some q := ⟨_, List.getElem?_eq_getElem (by rw [HOl.out]; exact hlt)⟩
      obtain ⟨r, hr⟩ : ∃ r, (flT mTo 12 T)[j]? = some r := ⟨_, List.getElem?_eq_getElem (by rw [HTl.out]; exact hlt)⟩
      have Hiq := Lib.hid (show (weave (flT mOo 12 O) (flT mTo 12 T))[2 * j]? = some q by rw [weave_0 (by rw [HOl.out, HTl.out])]; exact hq)
      have Hir := Lib.hid (show (weave (flT mOo 12 O) (flT mTo 12 T))[2 * j + 1]? = some r by rw [weave_1 (by rw [HOl.out, HTl.out])]; exact hr)
      obtain ⟨wd, hwd⟩ : ∃ wd, wd = wr.drew := ⟨_, rfl⟩
      have hkd : Kp wr wd := hwd ▸ (⟨rfl, rfl, rfl, Nat.le_refl _, fun _ _ => rfl⟩ : Kp wr wr.drew)
      have HGd := Lib.hid (HG.out.keep hkd)
      have Hwd := Lib.hid hwd
      clear hkd hwd
      have Hfr1 := Lib.hid (show q.Fd (1000 * (((j : Nat) : Int) + 1)) by have := (HGd.out.ok _ q Hiq.out).2; rwa [mkW_0] at this)
      have Hfr2 := Lib.hid (show r.Fd (1000 * (((j : Nat) : Int) + 1) + 500) by have := (HGd.out.ok _ r Hir.out).2; rwa [mkW_1] at this)
      have HB1 := Lib.hid (grow_any wd w.heap.size q _ (HGd.out.cur Hiq.out) (HGd.out.ok _ q Hiq.out).1 Hfr1.out (by omega) HGd.out.kp.size)
      unfold Pq.val at HB1
      obtain ⟨g, off, eg, c0, c1, c2, c3⟩ := arr_at (ps := flT mOo 12 O) (a := ⟨aa, 12, ac⟩) (by rw [flT_pqc]; exact HGd.out.sep.own (arrR ⟨aa, 12, ac⟩ O) (by simp)) hq
      obtain ⟨g2, off2, eg2, d0, d1, d2, d3⟩ := arr_at (ps := flT mTo 12 T) (a := ⟨ba, 12, bc⟩) (by rw [flT_pqc]; exact HGd.out.sep.own (arrR ⟨ba, 12, bc⟩ T) (by simp)) hr
      simp only at eg eg2
      have Heg := Lib.hid eg
      have Heg2 := Lib.hid eg2
      have Hr := Lib.hid hr
      rw [eg, eg2]
      clear hq hr
      go_upto_region 29 with fail
      refine any_start (by kernel_rfl) ?_
      rw [← Hwd.out]
      refine any_take [0, 1, 2, 3, 5, 6, 7, 9, 10, 11, 13, 14, 15, 16] (by kernel_rfl) ?_
      simp only [opsAt, List.getElem?_toArray, List.getElem?_cons_zero, List.getElem?_cons_succ]
      repeat (go_big_quiet_step (fail))
      refine wpQuiet_nil ?_
      refine any_two 4 12 (by kernel_rfl) ?_ ?_
      · simp only [opsAt, List.getElem?_toArray, List.getElem?_cons_zero, List.getElem?_cons_succ]
        go_wp2_with fail
        refine any_two 8 12 (by kernel_rfl) ?_ ?_
        · simp only [opsAt, List.getElem?_toArray, List.getElem?_cons_zero, List.getElem?_cons_succ]
          clear d0 d1 d2 d3
          go_wp2_with (go_at_call 45; go_loud (refine HB1.out.mono ?_); rintro e w5 ⟨lg1, u1, G1, N1, M1, rfl, h5⟩; have H5 := Lib.hid h5; clear h5)
          obtain ⟨hg1, hN1, hM1, X1, hf1, hX1⟩ := H5.out
          have hm5 := HGd.out.gm.step (lg := lg1) (u := u1) (q := q) Hiq.out hf1 hX1 hN1 hM1 (by rw [show 2 * j + ([] : List (Tv × Tv)).length = 2 * j from rfl, mkW_0]; exact hg1)
          rw [List.nil_append] at hm5
          have HM5 := Lib.hid hm5
          clear hg1 hN1 hM1 hf1 hX1 hm5 HB1 c0 c1 c2 c3
          clear eg eg2
          have HB2 := Lib.hid (grow_any w5 w.heap.size r _ (HM5.out.cur (q := r) (by simpa using Hir.out)) (HM5.out.ok _ r Hir.out).1 Hfr2.out (by omega) HM5.out.kp.size)
          unfold Pq.val at HB2
          obtain ⟨g2, off2, eg2, d0, d1, d2, d3⟩ := arr_at (ps := flT mTo 12 T) (a := ⟨ba, 12, bc⟩) (by rw [flT_pqc]; exact HM5.out.sep.own (arrR ⟨ba, 12, bc⟩ T) (by simp)) Hr.out
          simp only at eg2
          rw [Heg2.out] at eg2
          simp only [Option.some.injEq, Addr.mk.injEq, and_true] at eg2
          obtain ⟨rfl, rfl⟩ := eg2
          refine any_one 12 (by kernel_rfl) ?_
          simp only [opsAt, List.getElem?_toArray, List.getElem?_cons_zero, List.getElem?_cons_succ]
          go_wp2_with fail
          clear d0 d1 d2 d3
          refine any_one 17 (by kernel_rfl) ?_
          simp only [opsAt, List.getElem?_toArray, List.getElem?_cons_zero, List.getElem?_cons_succ]
          go_wp2_with (go_at_call 45; go_loud (refine HB2.out.mono ?_); rintro e w6 ⟨lg2, u2, G2, N2, M2, rfl, h6⟩; have H6 := Lib.hid h6; clear h6)
          obtain ⟨hg2, hN2, hM2, X2, hf2, hX2⟩ := H6.out
          have hm6 := HM5.out.step (lg := lg2) (u := u2) (q := r) (by simpa using Hir.out) hf2 hX2 hN2 hM2 (by rw [show 2 * j + [(lg1, u1)].length = 2 * j + 1 from rfl, mkW_1]; exact hg2)
          have HM6 := Lib.hid hm6
          clear hg2 hN2 hM2 hf2 hX2 hm6 HB2
          refine any_one 18 (by kernel_rfl) ?_
          simp only [opsAt, List.getElem?_toArray, List.getElem?_cons_zero, List.getElem?_cons_succ]
          go_wp2_with fail
          have hkn := Kp.new w6 (.cells #[.slice lg1.ao lg1.n lg1.c, .slice u1.ao u1.n u1.c, .slice lg2.ao lg2.n lg2.c, .slice u2.ao u2.n u2.c] 68)
          have hcs : Cs (w6.alloc (.cells #[.slice lg1.ao lg1.n lg1.c, .slice u1.ao u1.n u1.c, .slice lg2.ao lg2.n lg2.c, .slice u2.ao u2.n u2.c] 68)) (some ⟨w6.heap.size, 0, none⟩) [.slice lg1.ao lg1.n lg1.c, .slice u1.ao u1.n u1.c, .slice lg2.ao lg2.n lg2.c, .slice u2.ao u2.n u2.c] := Cs.new w6 [.slice lg1.ao lg1.n lg1.c, .slice u1.ao u1.n u1.c, .slice lg2.ao lg2.n lg2.c, .slice u2.ao u2.n u2.c] 68 (0, 0)
          have hown := HM6.out.own.keep hkn
          have hbs : wq.heap.size ≤ (w6.alloc (.cells #[.slice lg1.ao lg1.n lg1.c, .slice u1.ao u1.n u1.c, .slice lg2.ao lg2.n lg2.c, .slice u2.ao u2.n u2.c] 68)).heap.size := by have := HM6.out.nn; have := hkn.size; omega
          have hzs : (LU ++ ([(lg1, u1)] ++ [(lg2, u2)])).flatMap (fun p => [tvv p.1, tvv p.2]) = LU.flatMap (fun p => [tvv p.1, tvv p.2]) ++ [.slice lg1.ao lg1.n lg1.c, .slice u1.ao u1.n u1.c, .slice lg2.ao lg2.n lg2.c, .slice u2.ao u2.n u2.c] := by rw [List.flatMap_append]; rfl
          refine any_one 19 (by kernel_rfl) ?_
          simp only [opsAt, List.getElem?_toArray, List.getElem?_cons_zero, List.getElem?_cons_succ]
          go_wp2_with (at_builtin; go_loud (refine wpList_app rfl (.tmp 115) (.tmp 133) 65 rfl el65 wq.heap.size rfl hown rfl [.slice lg1.ao lg1.n lg1.c, .slice u1.ao u1.n u1.c, .slice lg2.ao lg2.n lg2.c, .slice u2.ao u2.n u2.c] rfl hcs (by simp [Value.oneCell']) (2 * j + 2) rfl ((LU ++ ([(lg1, u1)] ++ [(lg2, u2)])).flatMap (fun p => [tvv p.1, tvv p.2])) hzs (by omega) hbs ?_); intro ao7 c7 w7 ha; have HA := Lib.hid ha; clear ha)
          have HG7 := Lib.hid (HM6.out.put hkn HA.out rfl rfl)
          clear hkn hcs hown hbs hzs HA
          refine any_one 20 (by kernel_rfl) ?_
          simp only [opsAt, List.getElem?_toArray, List.getElem?_cons_zero, List.getElem?_cons_succ]
          go_wp2_with fail
          refine any_end (by kernel_rfl) ?_
          go_wp2_with fail
          go_roundw
          case rel => have h7 := HG7.out; rw [Heg.out, Heg2.out] at h7; exact ⟨j + 1, _, _, _, by omega, by go_num, rfl, h7⟩
          case measure => simp [intOf]; omega
        · simp only [opsAt, List.getElem?_toArray, List.getElem?_cons_zero, List.getElem?_cons_succ]
          go_wp2_with fail
          refine any_one 8 (by kernel_rfl) ?_
          simp only [opsAt, List.getElem?_toArray, List.getElem?_cons_zero, List.getElem?_cons_succ]
          clear d0 d1 d2 d3
          go_wp2_with (go_at_call 45; go_loud (refine HB1.out.mono ?_); rintro e w5 ⟨lg1, u1, G1, N1, M1, rfl, h5⟩; have H5 := Lib.hid h5; clear h5)
          obtain ⟨hg1, hN1, hM1, X1, hf1, hX1⟩ := H5.out
          have hm5 := HGd.out.gm.step (lg := lg1) (u := u1) (q := q) Hiq.out hf1 hX1 hN1 hM1 (by rw [show 2 * j + ([] : List (Tv × Tv)).length = 2 * j from rfl, mkW_0]; exact hg1)
          rw [List.nil_append] at hm5
          have HM5 := Lib.hid hm5
          clear hg1 hN1 hM1 hf1 hX1 hm5 HB1 c0 c1 c2 c3
          have HB2 := Lib.hid (grow_any w5 w.heap.size r _ (HM5.out.cur (q := r) (by simpa using Hir.out)) (HM5.out.ok _ r Hir.out).1 Hfr2.out (by omega) HM5.out.kp.size)
          unfold Pq.val at HB2
          refine any_one 17 (by kernel_rfl) ?_
          simp only [opsAt, List.getElem?_toArray, List.getElem?_cons_zero, List.getElem?_cons_succ]
          go_wp2_with (go_at_call 45; go_loud (refine HB2.out.mono ?_); rintro e w6 ⟨lg2, u2, G2, N2, M2, rfl, h6⟩; have H6 := Lib.hid h6; clear h6)
          obtain ⟨hg2, hN2, hM2, X2, hf2, hX2⟩ := H6.out
          have hm6 := HM5.out.step (lg := lg2) (u := u2) (q := r) (by simpa using Hir.out) hf2 hX2 hN2 hM2 (by rw [show 2 * j + [(lg1, u1)].length = 2 * j + 1 from rfl, mkW_1]; exact hg2)
          have HM6 := Lib.hid hm6
          clear hg2 hN2 hM2 hf2 hX2 hm6 HB2
          refine any_one 18 (by kernel_rfl) ?_
          simp only [opsAt, List.getElem?_toArray, List.getElem?_cons_zero, List.getElem?_cons_succ]
          go_wp2_with fail
          have hkn := Kp.new w6 (.cells #[.slice lg1.ao lg1.n lg1.c, .slice u1.ao u1.n u1.c, .slice lg2.ao lg2.n lg2.c, .slice u2.ao u2.n u2.c] 68)
          have hcs : Cs (w6.alloc (.cells #[.slice lg1.ao lg1.n lg1.c, .slice u1.ao u1.n u1.c, .slice lg2.ao lg2.n lg2.c, .slice u2.ao u2.n u2.c] 68)) (some ⟨w6.heap.size, 0, none⟩) [.slice lg1.ao lg1.n lg1.c, .slice u1.ao u1.n u1.c, .slice lg2.ao lg2.n lg2.c, .slice u2.ao u2.n u2.c] := Cs.new w6 [.slice lg1.ao lg1.n lg1.c, .slice u1.ao u1.n u1.c, .slice lg2.ao lg2.n lg2.c, .slice u2.ao u2.n u2.c] 68 (0, 0)
          have hown := HM6.out.own.keep hkn
          have hbs : wq.heap.size ≤ (w6.alloc (.cells #[.slice lg1.ao lg1.n lg1.c, .slice u1.ao u1.n u1.c, .slice lg2.ao lg2.n lg2.c, .slice u2.ao u2.n u2.c] 68)).heap.size := by have := HM6.out.nn; have := hkn.size; omega
          have hzs : (LU ++ ([(lg1, u1)] ++ [(lg2, u2)])).flatMap (fun p => [tvv p.1, tvv p.2]) = LU.flatMap (fun p => [tvv p.1, tvv p.2]) ++ [.slice lg1.ao lg1.n lg1.c, .slice u1.ao u1.n u1.c, .slice lg2.ao lg2.n lg2.c, .slice u2.ao u2.n u2.c] := by rw [List.flatMap_append]; rfl
          refine any_one 19 (by kernel_rfl) ?_
          simp only [opsAt, List.getElem?_toArray, List.getElem?_cons_zero, List.getElem?_cons_succ]
          go_wp2_with (at_builtin; go_loud (refine wpList_app rfl (.tmp 115) (.tmp 133) 65 rfl el65 wq.heap.size rfl hown rfl [.slice lg1.ao lg1.n lg1.c, .slice u1.ao u1.n u1.c, .slice lg2.ao lg2.n lg2.c, .slice u2.ao u2.n u2.c] rfl hcs (by simp [Value.oneCell']) (2 * j + 2) rfl ((LU ++ ([(lg1, u1)] ++ [(lg2, u2)])).flatMap (fun p => [tvv p.1, tvv p.2])) hzs (by omega) hbs ?_); intro ao7 c7 w7 ha; have HA := Lib.hid ha; clear ha)
          have HG7 := Lib.hid (HM6.out.put hkn HA.out rfl rfl)
          clear hkn hcs hown hbs hzs HA
          refine any_one 20 (by kernel_rfl) ?_
          simp only [opsAt, List.getElem?_toArray, List.getElem?_cons_zero, List.getElem?_cons_succ]
          go_wp2_with fail
          refine any_end (by kernel_rfl) ?_
          go_wp2_with fail
          go_roundw
          case rel => have h7 := HG7.out; rw [Heg.out, Heg2.out] at h7; exact ⟨j + 1, _, _, _, by omega, by go_num, rfl, h7⟩
          case measure => simp [intOf]; omega
      · simp only [opsAt, List.getElem?_toArray, List.getElem?_cons_zero, List.getElem?_cons_succ]
        go_wp2_with fail
        refine any_one 4 (by kernel_rfl) ?_
        simp only [opsAt, List.getElem?_toArray, List.getElem?_cons_zero, List.getElem?_cons_succ]
        go_wp2_with fail
        refine any_one 8 (by kernel_rfl) ?_
        simp only [opsAt, List.getElem?_toArray, List.getElem?_cons_zero, List.getElem?_cons_succ]
        clear d0 d1 d2 d3
        go_wp2_with (go_at_call 45; go_loud (refine HB1.out.mono ?_); rintro e w5 ⟨lg1, u1, G1, N1, M1, rfl, h5⟩; have H5 := Lib.hid h5; clear h5)
        obtain ⟨hg1, hN1, hM1, X1, hf1, hX1⟩ := H5.out
        have hm5 := HGd.out.gm.step (lg := lg1) (u := u1) (q := q) Hiq.out hf1 hX1 hN1 hM1 (by rw [show 2 * j + ([] : List (Tv × Tv)).length = 2 * j from rfl, mkW_0]; exact hg1)
        rw [List.nil_append] at hm5
        have HM5 := Lib.hid hm5
        clear hg1 hN1 hM1 hf1 hX1 hm5 HB1 c0 c1 c2 c3
        have HB2 := Lib.hid (grow_any w5 w.heap.size r _ (HM5.out.cur (q := r) (by simpa using Hir.out)) (HM5.out.ok _ r Hir.out).1 Hfr2.out (by omega) HM5.out.kp.size)
        unfold Pq.val at HB2
        refine any_one 17 (by kernel_rfl) ?_
        simp only [opsAt, List.getElem?_toArray, List.getElem?_cons_zero, List.getElem?_cons_succ]
        go_wp2_with (go_at_call 45; go_loud (refine HB2.out.mono ?_); rintro e w6 ⟨lg2, u2, G2, N2, M2, rfl, h6⟩; have H6 := Lib.hid h6; clear h6)
        obtain ⟨hg2, hN2, hM2, X2, hf2, hX2⟩ := H6.out
        have hm6 := HM5.out.step (lg := lg2) (u := u2) (q := r) (by simpa using Hir.out) hf2 hX2 hN2 hM2 (by rw [show 2 * j + [(lg1, u1)].length = 2 * j + 1 from rfl, mkW_1]; exact hg2)
        have HM6 := Lib.hid hm6
        clear hg2 hN2 hM2 hf2 hX2 hm6 HB2
        refine any_one 18 (by kernel_rfl) ?_
        simp only [opsAt, List.getElem?_toArray, List.getElem?_cons_zero, List.getElem?_cons_succ]
        go_wp2_with fail
        have hkn := Kp.new w6 (.cells #[.slice lg1.ao lg1.n lg1.c, .slice u1.ao u1.n u1.c, .slice lg2.ao lg2.n lg2.c, .slice u2.ao u2.n u2.c] 68)
        have hcs : Cs (w6.alloc (.cells #[.slice lg1.ao lg1.n lg1.c, .slice u1.ao u1.n u1.c, .slice lg2.ao lg2.n lg2.c, .slice u2.ao u2.n u2.c] 68)) (some ⟨w6.heap.size, 0, none⟩) [.slice lg1.ao lg1.n lg1.c, .slice u1.ao u1.n u1.c, .slice lg2.ao lg2.n lg2.c, .slice u2.ao u2.n u2.c] := Cs.new w6 [.slice lg1.ao lg1.n lg1.c, .slice u1.ao u1.n u1.c, .slice lg2.ao lg2.n lg2.c, .slice u2.ao u2.n u2.c] 68 (0, 0)
        have hown := HM6.out.own.keep hkn
        have hbs : wq.heap.size ≤ (w6.alloc (.cells #[.slice lg1.ao lg1.n lg1.c, .slice u1.ao u1.n u1.c, .slice lg2.ao lg2.n lg2.c, .slice u2.ao u2.n u2.c] 68)).heap.size := by have := HM6.out.nn; have := hkn.size; omega
        have hzs : (LU ++ ([(lg1, u1)] ++ [(lg2, u2)])).flatMap (fun p => [tvv p.1, tvv p.2]) = LU.flatMap (fun p => [tvv p.1, tvv p.2]) ++ [.slice lg1.ao lg1.n lg1.c, .slice u1.ao u1.n u1.c, .slice lg2.ao lg2.n lg2.c, .slice u2.ao u2.n u2.c] := by rw [List.flatMap_append]; rfl
        refine any_one 19 (by kernel_rfl) ?_
        simp only [opsAt, List.getElem?_toArray, List.getElem?_cons_zero, List.getElem?_cons_succ]
        go_wp2_with (at_builtin; go_loud (refine wpList_app rfl (.tmp 115) (.tmp 133) 65 rfl el65 wq.heap.size rfl hown rfl [.slice lg1.ao lg1.n lg1.c, .slice u1.ao u1.n u1.c, .slice lg2.ao lg2.n lg2.c, .slice u2.ao u2.n u2.c] rfl hcs (by simp [Value.oneCell']) (2 * j + 2) rfl ((LU ++ ([(lg1, u1)] ++ [(lg2, u2)])).flatMap (fun p => [tvv p.1, tvv p.2])) hzs (by omega) hbs ?_); intro ao7 c7 w7 ha; have HA := Lib.hid ha; clear ha)
        have HG7 := Lib.hid (HM6.out.put hkn HA.out rfl rfl)
        clear hkn hcs hown hbs hzs HA
        refine any_one 20 (by kernel_rfl) ?_
        simp only [opsAt, List.getElem?_toArray, List.getElem?_cons_zero, List.getElem?_cons_succ]
        go_wp2_with fail
        refine any_end (by kernel_rfl) ?_
        go_wp2_with fail
        go_roundw
        case rel => have h7 := HG7.out; rw [Heg.out, Heg2.out] at h7; exact ⟨j + 1, _, _, _, by omega, by go_num, rfl, h7⟩
        case measure => simp [intOf]; omega
    · obtain rfl : j = 12 := by omega
      have hji : ¬ ((12 : Nat) : Int) < 12 := by omega
      rw [show ((12 : Nat) : Int) = 12 from rfl]
      go_wp2_with fail
      go_meet
      case rel => exact ⟨ga, gc, LU, rfl, HG.out⟩
end Go.Proofs.YtkmejehhdjdlbaaGreatDoor

namespace Go.Proofs.YtkmejehhdjdlbaaGreatDoor
open Go.RowKit

set_option maxRecDepth 100000 in
set_option maxHeartbeats 16000000 in
theorem ow19 (w wq : World) (C : List Ct) (hC : C.length = 12) (b6 b9 : Nat) (p z : Pq) (xt xn : ByteArray) (wo : Option Addr) (nw cw : Nat)
    (HK : ∀ v, Kp w v → Calls Tryz.prog 21 #[] v fun e w' => e = .returned (.bool true) ∧ Kp v w')
    (HAs : ∀ v, Kp w v → Calls Tryz.prog 43 #[.string xt, .string xn, p.val, .slice wo nw cw] v fun e w' => Kp v w' ∧ ∃ (ao : Option Addr) (c : Nat) (qs : List Pq), e = .returned (.slice ao 12 c) ∧ SepV w' v.heap.size (arrR ⟨ao, 12, c⟩ qs :: qs.flatMap Pq.rows) ∧ qs.map Pq.ct = C ∧ ∀ q ∈ qs, q.Ok 24)
    (HSz : ∀ (v : World) (B' : Nat), Kp w v → SepV v B' z.rows → Calls Tryz.prog 31 #[p.val, z.val] v fun e w' => e = .returned (.bool true) ∧ Kp v w')
    (aa ba ca : Option Addr) (ac bc cc : Nat) (O T W : List Pq)
    (hF : Fm w wq C b6 b9 p z ⟨aa, 12, ac⟩ ⟨ba, 12, bc⟩ ⟨ca, 12, cc⟩ O T W mOo mTo 12 0)
    (x2 x4 x5 x7 x8 x13 x14 x15 x16 x17 x18 x19 x20 x21 x22 x23 x24 x25 x26 x27 x28 x29 x30 x31 x32 x33 x34 x35 x36 x37 x38 x39 x40 x41 x42 x43 x44 x45 x46 x47 x48 x49 x50 x51 x52 x53 x54 x55 x56 x57 x58 x59 x60 x61 x62 x63 x64 x65 x66 x67 x68 x69 x70 x71 x72 x73 x74 x75 x76 x77 x78 x79 x80 x81 x82 x83 x84 x85 x86 x87 x88 x89 x90 x91 x92 x93 x94 x95 x96 x97 x98 x99 x100 x101 x102 x103 x104 x105 x106 x107 x108 x109 x110 x111 x112 x113 x114 x115 x116 x117 x118 x119 x120 x121 x122 x123 x124 x125 x126 x127 x128 x129 x130 x131 x132 x133 x134 x135 x136 x137 x138 x139 x140 x141 x142 x143 x144 x145 x146 x147 x148 x149 x150 x151 x152 x153 x154 x155 x156 x157 x158 x159 x160 x161 x162 x163 x164 x165 x166 x167 x168 x169 x170 x171 x172 x173 x174 x175 x176 x177 x178 x179 x180 x181 x182 x183 x184 x185 x186 x187 x188 x189 x190 x191 x192 x193 x194 x195 x196 x197 x198 x199 x200 x201 x202 x203 x204 x205 x206 x207 x208 x209 x210 x211 x212 : Value) :
    (tailO 19).wp Tryz.prog (bodyPost Tryz.prog Tryz.f13 fun e w' => e = .returned (.bool true) ∧ Kp w w') { tmps := List.toArray (.string xt :: .string xn :: x2 :: .slice wo nw cw :: x4 :: x5 :: .pointer (some ⟨b6, 0, none⟩) :: x7 :: x8 :: .pointer (some ⟨b9, 0, none⟩) :: .slice aa 12 ac :: .slice ba 12 bc :: .slice ca 12 cc :: x13 :: x14 :: x15 :: x16 :: x17 :: x18 :: x19 :: x20 :: x21 :: x22 :: x23 :: x24 :: x25 :: x26 :: x27 :: x28 :: x29 :: x30 :: x31 :: x32 :: x33 :: x34 :: x35 :: x36 :: x37 :: x38 :: x39 :: x40 :: x41 :: x42 :: x43 :: x44 :: x45 :: x46 :: x47 :: x48 :: x49 :: x50 :: x51 :: x52 :: x53 :: x54 :: x55 :: x56 :: x57 :: x58 :: x59 :: x60 :: x61 :: x62 :: x63 :: x64 :: x65 :: x66 :: x67 :: x68 :: x69 :: x70 :: x71 :: x72 :: x73 :: x74 :: x75 :: x76 :: x77 :: x78 :: x79 :: x80 :: x81 :: x82 :: x83 :: x84 :: x85 :: x86 :: x87 :: x88 :: x89 :: x90 :: x91 :: x92 :: x93 :: x94 :: x95 :: x96 :: x97 :: x98 :: x99 :: x100 :: x101 :: x102 :: x103 :: x104 :: x105 :: x106 :: x107 :: x108 :: x109 :: x110 :: x111 :: x112 :: x113 :: x114 :: x115 :: x116 :: x117 :: x118 :: x119 :: x120 :: x121 :: x122 :: x123 :: x124 :: x125 :: x126 :: x127 :: x128 :: x129 :: x130 :: x131 :: x132 :: x133 :: x134 :: x135 :: x136 :: x137 :: x138 :: x139 :: x140 :: x141 :: x142 :: x143 :: x144 :: x145 :: x146 :: x147 :: x148 :: x149 :: x150 :: x151 :: x152 :: x153 :: x154 :: x155 :: x156 :: x157 :: x158 :: x159 :: x160 :: x161 :: x162 :: x163 :: x164 :: x165 :: x166 :: x167 :: x168 :: x169 :: x170 :: x171 :: x172 :: x173 :: x174 :: x175 :: x176 :: x177 :: x178 :: x179 :: x180 :: x181 :: x182 :: x183 :: x184 :: x185 :: x186 :: x187 :: x188 :: x189 :: x190 :: x191 :: x192 :: x193 :: x194 :: x195 :: x196 :: x197 :: x198 :: x199 :: x200 :: x201 :: x202 :: x203 :: x204 :: x205 :: x206 :: x207 :: x208 :: x209 :: x210 :: x211 :: x212 :: []), defers := [] } wq := by
  have HF := Lib.hid hF
  clear hF
  unfold tailO
  conv => arg 2; whnf
  go_upto_block 4 with fail
  go_cut [15] (fun _ wc => Fm w wc C b6 b9 p z ⟨aa, 12, ac⟩ ⟨ba, 12, bc⟩ ⟨ca, 12, cc⟩ O T W mOo mTo 12 12)
  case rest =>
    have hcw := hcut
    go_step
    exact ow25 w wc C hC b6 b9 p z xt xn wo nw cw HK HAs HSz aa ba ca ac bc cc O T W hcw _ _ _ _ _ _ _ _ _ _ _ _ _ _ _ _ _ _ _ _ _ _ _ _ _ _ _ _ _ _ _ _ _ _ _ _ _ _ _ _ _ _ _ _ _ _ _ _ _ _ _ _ _ _ _ _ _ _ _ _ _ _ _ _ _ _ _ _ _ _ _ _ _ _ _ _ _ _ _ _ _ _ _ _ _ _ _ _ _ _ _ _ _ _ _ _ _ _ _ _ _ _ _ _ _ _ _ _ _ _ _ _ _ _ _ _ _ _ _ _ _ _ _ _ _ _ _ _ _ _ _ _ _ _ _ _ _ _ _ _ _ _ _ _ _ _ _ _ _ _ _ _ _ _ _ _ _ _ _ _ _ _ _ _ _ _ _ _ _ _ _ _ _ _ _ _ _ _ _ _ _ _ _ _ _ _ _ _ _ _ _ _ _ _ _ _ _ _ _ _ _ _ _ _ _
  case first =>
    go_wp2_with fail
    go_loopw [15] (fun i wr => ∃ j : Nat, j ≤ 12 ∧ i = .int .i64 (j : Nat) ∧ Fm w wr C b6 b9 p z ⟨aa, 12, ac⟩ ⟨ba, 12, bc⟩ ⟨ca, 12, cc⟩ O T W mOo mTo 12 j) (fun i _ => 12 - (intOf i).toNat)
    case atStart => exact ⟨0, by omega, rfl, HF.out⟩
    case round =>
    obtain ⟨j, hj, rfl, hF⟩ := hrel
    rename World => wr
    clear HF
    have HF := Lib.hid hF
    clear hF
    by_cases hlt : j < 12
    · have hji : ((j : Nat) : Int) < 12 := by omega
      obtain ⟨q, hq⟩ : ∃ q, T[j]? = some q := ⟨_, List.getElem?_eq_getElem (by rw [HF.out.lT, hC]; exact hlt)⟩
      obtain ⟨r, hr⟩ : ∃ r, W[j]? = some r := ⟨_, List.getElem?_eq_getElem (by rw [HF.out.lW, hC]; exact hlt)⟩
      obtain ⟨g, off, eg, c0, c1, c2, c3⟩ := arr_at HF.out.o2 hq
      obtain ⟨g2, off2, eg2, d0, d1, d2, d3⟩ := arr_at HF.out.o3 hr
      have hce := ct_at HF.out.cT HF.out.cW hq hr
      have HSm := Lib.hid (fun (v : World) (hv : Kp wr v) => same_pq v _ _ 24 q r ((HF.out.keep hv).pT hq (Nat.le_refl _)) ((HF.out.keep hv).pW hr) (HF.out.okT q (List.mem_of_getElem? hq)) (HF.out.okW r (List.mem_of_getElem? hr)) (by decide) hce)
      unfold Pq.val at HSm
      have HFl := Lib.hid (fun (v : World) (hv : Kp wr v) => fill_any v w.heap.size q (1000 * (((j : Nat) : Int) + 1) + 500) ((HF.out.keep hv).pT hq (Nat.le_refl _)) (HF.out.okT q (List.mem_of_getElem? hq)) (by omega))
      unfold Pq.val at HFl
      simp only at eg eg2
      subst eg
      subst eg2
      have Hq := Lib.hid hq
      clear hq hr hce
      go_upto_region 22 with fail
      refine any_start (by kernel_rfl) ?_
      refine any_take [0, 1, 2, 4, 5, 6] (by kernel_rfl) ?_
      simp only [opsAt, List.getElem?_toArray, List.getElem?_cons_zero, List.getElem?_cons_succ]
      repeat (go_big_quiet_step (fail))
      refine wpQuiet_nil ?_
      obtain ⟨wd, hwd⟩ : ∃ wd, wd = wr.drew := ⟨_, rfl⟩
      have hkd : Kp wr wd := hwd ▸ (⟨rfl, rfl, rfl, Nat.le_refl _, fun _ _ => rfl⟩ : Kp wr wr.drew)
      rw [← hwd]
      clear hwd
      replace c0 := hkd.cell c0
      replace c1 := hkd.cell c1
      replace c2 := hkd.cell c2
      replace c3 := hkd.cell c3
      replace d0 := hkd.cell d0
      replace d1 := hkd.cell d1
      replace d2 := hkd.cell d2
      replace d3 := hkd.cell d3
      have HSm2 := Lib.hid (HSm.out wd hkd)
      have HKd := Lib.hid hkd
      clear hkd HSm
      refine any_still [3, 7] (by kernel_rfl) ?_
      simp only [opsAt, List.getElem?_toArray, List.getElem?_cons_zero, List.getElem?_cons_succ]
      repeat (go_big_quiet_step (fail))
      refine wpQuiet_nil ?_
      refine any_one 8 (by kernel_rfl) ?_
      simp only [opsAt, List.getElem?_toArray, List.getElem?_cons_zero, List.getElem?_cons_succ]
      go_wp2_with (go_at_call 31; go_loud (refine HSm2.out.mono ?_); rintro e w5 ⟨rfl, hk5⟩; have HK5 := Lib.hid hk5; clear hk5)
      refine any_one 9 (by kernel_rfl) ?_
      simp only [opsAt, List.getElem?_toArray, List.getElem?_cons_zero, List.getElem?_cons_succ]
      go_wp2_with fail
      refine any_end (by kernel_rfl) ?_
      clear d0 d1 d2 d3
      replace c0 := HK5.out.cell c0
      replace c1 := HK5.out.cell c1
      replace c2 := HK5.out.cell c2
      replace c3 := HK5.out.cell c3
      have HK := Lib.hid (Kp.trans HKd.out HK5.out)
      have HFl5 := Lib.hid (HFl.out w5 HK.out)
      clear HFl HSm2 HKd HK5
      go_wp2_with fail
      (with_reducible refine HFl5.out.mono ?_)
      rintro e w6 ⟨rfl, h6, X, f6, hX⟩
      have HF6 := Lib.hid ((HF.out.keep HK.out).fillT Hq.out f6 hX h6)
      clear c0 c1 c2 c3 h6 f6 hX HFl5
      go_wp2_with fail
      go_roundw
      case rel => exact ⟨j + 1, by omega, by go_num, HF6.out⟩
      case measure => simp [intOf]; omega
    · obtain rfl : j = 12 := by omega
      have hji : ¬ ((12 : Nat) : Int) < 12 := by omega
      rw [show ((12 : Nat) : Int) = 12 from rfl]
      go_wp2_with fail
      go_meet
      case rel => exact HF.out
end Go.Proofs.YtkmejehhdjdlbaaGreatDoor

namespace Go.Proofs.YtkmejehhdjdlbaaGreatDoor
open Go.RowKit

set_option maxRecDepth 100000 in
set_option maxHeartbeats 16000000 in
theorem ow15 (w wq : World) (C : List Ct) (hC : C.length = 12) (b6 b9 : Nat) (p z : Pq) (xt xn : ByteArray) (wo : Option Addr) (nw cw : Nat)
    (HK : ∀ v, Kp w v → Calls Tryz.prog 21 #[] v fun e w' => e = .returned (.bool true) ∧ Kp v w')
    (HAs : ∀ v, Kp w v → Calls Tryz.prog 43 #[.string xt, .string xn, p.val, .slice wo nw cw] v fun e w' => Kp v w' ∧ ∃ (ao : Option Addr) (c : Nat) (qs : List Pq), e = .returned (.slice ao 12 c) ∧ SepV w' v.heap.size (arrR ⟨ao, 12, c⟩ qs :: qs.flatMap Pq.rows) ∧ qs.map Pq.ct = C ∧ ∀ q ∈ qs, q.Ok 24)
    (HSz : ∀ (v : World) (B' : Nat), Kp w v → SepV v B' z.rows → Calls Tryz.prog 31 #[p.val, z.val] v fun e w' => e = .returned (.bool true) ∧ Kp v w')
    (aa ba ca : Option Addr) (ac bc cc : Nat) (O T W : List Pq)
    (hF : Fm w wq C b6 b9 p z ⟨aa, 12, ac⟩ ⟨ba, 12, bc⟩ ⟨ca, 12, cc⟩ O T W mOo mTo 0 0)
    (x2 x4 x5 x7 x8 x13 x14 x15 x16 x17 x18 x19 x20 x21 x22 x23 x24 x25 x26 x27 x28 x29 x30 x31 x32 x33 x34 x35 x36 x37 x38 x39 x40 x41 x42 x43 x44 x45 x46 x47 x48 x49 x50 x51 x52 x53 x54 x55 x56 x57 x58 x59 x60 x61 x62 x63 x64 x65 x66 x67 x68 x69 x70 x71 x72 x73 x74 x75 x76 x77 x78 x79 x80 x81 x82 x83 x84 x85 x86 x87 x88 x89 x90 x91 x92 x93 x94 x95 x96 x97 x98 x99 x100 x101 x102 x103 x104 x105 x106 x107 x108 x109 x110 x111 x112 x113 x114 x115 x116 x117 x118 x119 x120 x121 x122 x123 x124 x125 x126 x127 x128 x129 x130 x131 x132 x133 x134 x135 x136 x137 x138 x139 x140 x141 x142 x143 x144 x145 x146 x147 x148 x149 x150 x151 x152 x153 x154 x155 x156 x157 x158 x159 x160 x161 x162 x163 x164 x165 x166 x167 x168 x169 x170 x171 x172 x173 x174 x175 x176 x177 x178 x179 x180 x181 x182 x183 x184 x185 x186 x187 x188 x189 x190 x191 x192 x193 x194 x195 x196 x197 x198 x199 x200 x201 x202 x203 x204 x205 x206 x207 x208 x209 x210 x211 x212 : Value) :
    (tailO 15).wp Tryz.prog (bodyPost Tryz.prog Tryz.f13 fun e w' => e = .returned (.bool true) ∧ Kp w w') { tmps := List.toArray (.string xt :: .string xn :: x2 :: .slice wo nw cw :: x4 :: x5 :: .pointer (some ⟨b6, 0, none⟩) :: x7 :: x8 :: .pointer (some ⟨b9, 0, none⟩) :: .slice aa 12 ac :: .slice ba 12 bc :: .slice ca 12 cc :: x13 :: x14 :: x15 :: x16 :: x17 :: x18 :: x19 :: x20 :: x21 :: x22 :: x23 :: x24 :: x25 :: x26 :: x27 :: x28 :: x29 :: x30 :: x31 :: x32 :: x33 :: x34 :: x35 :: x36 :: x37 :: x38 :: x39 :: x40 :: x41 :: x42 :: x43 :: x44 :: x45 :: x46 :: x47 :: x48 :: x49 :: x50 :: x51 :: x52 :: x53 :: x54 :: x55 :: x56 :: x57 :: x58 :: x59 :: x60 :: x61 :: x62 :: x63 :: x64 :: x65 :: x66 :: x67 :: x68 :: x69 :: x70 :: x71 :: x72 :: x73 :: x74 :: x75 :: x76 :: x77 :: x78 :: x79 :: x80 :: x81 :: x82 :: x83 :: x84 :: x85 :: x86 :: x87 :: x88 :: x89 :: x90 :: x91 :: x92 :: x93 :: x94 :: x95 :: x96 :: x97 :: x98 :: x99 :: x100 :: x101 :: x102 :: x103 :: x104 :: x105 :: x106 :: x107 :: x108 :: x109 :: x110 :: x111 :: x112 :: x113 :: x114 :: x115 :: x116 :: x117 :: x118 :: x119 :: x120 :: x121 :: x122 :: x123 :: x124 :: x125 :: x126 :: x127 :: x128 :: x129 :: x130 :: x131 :: x132 :: x133 :: x134 :: x135 :: x136 :: x137 :: x138 :: x139 :: x140 :: x141 :: x142 :: x143 :: x144 :: x145 :: x146 :: x147 :: x148 :: x149 :: x150 :: x151 :: x152 :: x153 :: x154 :: x155 :: x156 :: x157 :: x158 :: x159 :: x160 :: x161 :: x162 :: x163 :: x164 :: x165 :: x166 :: x167 :: x168 :: x169 :: x170 :: x171 :: x172 :: x173 :: x174 :: x175 :: x176 :: x177 :: x178 :: x179 :: x180 :: x181 :: x182 :: x183 :: x184 :: x185 :: x186 :: x187 :: x188 :: x189 :: x190 :: x191 :: x192 :: x193 :: x194 :: x195 :: x196 :: x197 :: x198 :: x199 :: x200 :: x201 :: x202 :: x203 :: x204 :: x205 :: x206 :: x207 :: x208 :: x209 :: x210 :: x211 :: x212 :: []), defers := [] } wq := by
  have HF := Lib.hid hF
  clear hF
  unfold tailO
  conv => arg 2; whnf
  go_upto_block 2 with fail
  go_cut [14] (fun _ wc => Fm w wc C b6 b9 p z ⟨aa, 12, ac⟩ ⟨ba, 12, bc⟩ ⟨ca, 12, cc⟩ O T W mOo mTo 12 0)
  case rest =>
    have hcw := hcut
    go_step
    exact ow19 w wc C hC b6 b9 p z xt xn wo nw cw HK HAs HSz aa ba ca ac bc cc O T W hcw _ _ _ _ _ _ _ _ _ _ _ _ _ _ _ _ _ _ _ _ _ _ _ _ _ _ _ _ _ _ _ _ _ _ _ _ _ _ _ _ _ _ _ _ _ _ _ _ _ _ _ _ _ _ _ _ _ _ _ _ _ _ _ _ _ _ _ _ _ _ _ _ _ _ _ _ _ _ _ _ _ _ _ _ _ _ _ _ _ _ _ _ _ _ _ _ _ _ _ _ _ _ _ _ _ _ _ _ _ _ _ _ _ _ _ _ _ _ _ _ _ _ _ _ _ _ _ _ _ _ _ _ _ _ _ _ _ _ _ _ _ _ _ _ _ _ _ _ _ _ _ _ _ _ _ _ _ _ _ _ _ _ _ _ _ _ _ _ _ _ _ _ _ _ _ _ _ _ _ _ _ _ _ _ _ _ _ _ _ _ _ _ _ _ _ _ _ _ _ _ _ _ _ _ _
  case first =>
    go_wp2_with fail
    go_loopw [14] (fun i wr => ∃ j : Nat, j ≤ 12 ∧ i = .int .i64 (j : Nat) ∧ Fm w wr C b6 b9 p z ⟨aa, 12, ac⟩ ⟨ba, 12, bc⟩ ⟨ca, 12, cc⟩ O T W mOo mTo j 0) (fun i _ => 12 - (intOf i).toNat)
    case atStart => exact ⟨0, by omega, rfl, HF.out⟩
    case round =>
    obtain ⟨j, hj, rfl, hF⟩ := hrel
    rename World => wr
    clear HF
    have HF := Lib.hid hF
    clear hF
    by_cases hlt : j < 12
    · have hji : ((j : Nat) : Int) < 12 := by omega
      obtain ⟨q, hq⟩ : ∃ q, O[j]? = some q := ⟨_, List.getElem?_eq_getElem (by rw [HF.out.lO, hC]; exact hlt)⟩
      obtain ⟨g, off, eg, c0, c1, c2, c3⟩ := arr_at HF.out.o1 hq
      have HFl := Lib.hid (fill_any wr w.heap.size q (1000 * (((j : Nat) : Int) + 1)) (HF.out.pO hq (Nat.le_refl _)) (HF.out.okO q (List.mem_of_getElem? hq)) (by omega))
      unfold Pq.val at HFl
      simp only at eg
      subst eg
      have Hq := Lib.hid hq
      clear hq
      go_wp2_with fail
      (with_reducible refine HFl.out.mono ?_)
      rintro e w6 ⟨rfl, h6, X, f6, hX⟩
      have HF6 := Lib.hid (HF.out.fillO Hq.out f6 hX h6)
      clear c0 c1 c2 c3 h6 f6 hX HFl
      go_wp2_with fail
      go_roundw
      case rel => exact ⟨j + 1, by omega, by go_num, HF6.out⟩
      case measure => simp [intOf]; omega
    · obtain rfl : j = 12 := by omega
      have hji : ¬ ((12 : Nat) : Int) < 12 := by omega
      rw [show ((12 : Nat) : Int) = 12 from rfl]
      go_wp2_with fail
      go_meet
      case rel => exact HF.out
end Go.Proofs.YtkmejehhdjdlbaaGreatDoor
