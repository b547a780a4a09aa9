/- Parts of the walks and plain laws, merged: Modi, Said, PrintP, Print, KnwP, Knw, KnwQ, Split, Tokens, RowsOf, RowLaw, AllA, All, Find, Fnd, NamS. Each theorem bears its own conditions; no other. -/
import Derived.Test.YtkmejehhdjdlbaaGreatDoorGd5
import Derived.Lib.ItoaLen
import Derived.Test.YtkmejehhdjdlbaaGreatDoorGd1
import Derived.Test.YtkmejehhdjdlbaaGreatDoorGd4
namespace Go.Proofs.YtkmejehhdjdlbaaGreatDoor
open Go.RowKit

theorem word_short {l : Q.Bt} {n : Nat} (h : Q.numP l = some n) : n ≤ 9223372036854775807 ∧ l.length ≤ 24 := by
  rcases Nat.lt_or_ge 3 l.length with h3 | h3
  · cases hp : (l.take 3 == [112, 115, 107]) with
    | false => rw [num_head hp] at h; cases h
    | true =>
      rw [num_rest h3 hp] at h
      cases ha : Lib.atoiAll (l.drop 3) with
      | ok v =>
        rw [ha] at h
        simp only at h
        split at h
        · rename_i hc
          have hw := atoi_wide ha
          have hl := Lib.itoa_length_le v (by omega) hw.2
          rw [hc.2, List.length_drop] at hl
          have := Option.some.inj h
          omega
        · cases h
      | «syntax» => rw [ha] at h; cases h
      | range => rw [ha] at h; cases h
  · rw [num_short h3] at h; cases h
theorem wb_get {ss : List ByteArray} {k : Nat} (h : k < ss.length) (h' : k < (wb ss).length) : (wb ss)[k] = ss[k].data.toList := List.getElem_map (fun x : ByteArray => x.data.toList)
/-- What a round looks at. -/
structure ModI (w0 wr : World) (B bx : Nat) (p : Q.Pn) (ws : List Q.Bt) (k least : Nat) (q : Q.Pn) : Prop where
  l : MdL w0 wr B bx k q
  g : Q.goM srtI 0 0 p ws = Q.goM srtI k least q (ws.drop k)
  n : q.nm.length ≤ 8000 + 25 * k
  s : least ≤ 30000
theorem ModI.step {w0 wr w1 : World} {B bx : Nat} {p : Q.Pn} {ws : List Q.Bt} {k least least' : Nat} {q q1 : Q.Pn} (h : ModI w0 wr B bx p ws k least q) (hk : k < ws.length) (hw : Q.wordP srtI k least q ws[k] = some (least', q1)) (hq : q1.nm = q.nm) (hl : ws[k].length ≤ 24) (hs : least' ≤ 30000)
    (nm1 : ByteArray) (t0 t1 tf : Tv) (td ts : List Tv) (D : List Ln) (hm : MdS w1 B bx nm1 t0 t1 tf td ts D q1.ls q1.b0 q1.b1) (kp : Kp w0 w1) (hb : w0.heap.size ≤ bx) (hz : Four w1 (bx + 1) (.string ⟨#[]⟩) (.slice none 0 0) (.slice none 0 0) (.slice none 0 0))
    (ln : ∀ l ∈ q1.ls, (l.1 = 0 ∨ l.1 = 1) ∧ l.2 ≠ [] ∧ l.2.length ≤ 24 + (k + 1)) (ll : q1.ls.length ≤ 24) (l0 : q1.b0.length ≤ 2 + 2 * (k + 1)) (l1 : q1.b1.length ≤ 2 + 2 * (k + 1)) (u : ByteArray) (hu : u = bs (q.nm ++ Q.plusW k ws[k])) :
    ModI w0 (w1.setCell ⟨bx, 0, none⟩ (.string u)) B bx p ws (k + 1) least' { q1 with nm := q1.nm ++ Q.plusW k ws[k] } := by
  have hf := Fr.set w1 ⟨bx, 0, none⟩ (.string u)
  refine ⟨⟨⟨t0, t1, tf, td, ts, D, ?_, fun h => by omega⟩, kp_step' kp hf (fun j hj => by simp at hj; omega), hz.fr hf (by simp), ln, ll, fun h => by omega, l0, l1⟩, ?_, ?_, hs⟩
  · have := hm.name u
    rw [hq, ← hu]
    exact this
  · rw [h.g, goM_step hk, hw]
  · have := h.n
    unfold Q.plusW
    simp only [hq, List.length_append]
    split <;> simp <;> omega
set_option maxRecDepth 100000 in
set_option maxHeartbeats 8000000 in
theorem modify_any (w : World) (E : Nat → Addr) (m : Int) (hE : Env w E m) (nm : ByteArray) (a0 a1 al : Option Addr) (n0 c0 n1 c1 nl cl : Nat) (b0 b1 : List Int) (ls : List Ln) (hP : PatI w a0 a1 al n0 n1 nl b0 b1 ls) (hs : ShortP nm n0 n1 nl ls)
    (ao : Option Addr) (nw cw : Nat) (ss : List ByteArray) (hW : Strs w ao nw ss) (hz : ∀ s ∈ ss, s.size ≤ 281474976710656) (hn : nw ≤ 200) :
    Calls Tryz.prog 19 #[patV nm a0 a1 al n0 c0 n1 c1 nl cl, .slice ao nw cw] w (ModPost w E ⟨nm.data.toList, b0, b1, ls⟩ (wb ss)) := by
  have Hs := Lib.hid hs
  have HPI := Lib.hid hP
  have HW := Lib.hid hW
  have Hz := Lib.hid hz
  have HE := Lib.hid hE
  have hw1 : 0 < w.heap.size := World.block_lt_of_cell? w _ hE.c0
  have hkA := Kp.new w (.cells #[.string nm, .slice a0 n0 c0, .slice a1 n1 c1, .slice al nl cl] 26)
  have hkB := Kp.new (w.alloc (.cells #[.string nm, .slice a0 n0 c0, .slice a1 n1 c1, .slice al nl cl] 26)) (.cells #[.string ⟨#[]⟩, .slice none 0 0, .slice none 0 0, .slice none 0 0] 26)
  have hFA := (Four.new w (.string nm) (.slice a0 n0 c0) (.slice a1 n1 c1) (.slice al nl cl) 26).kp hkB
  have hFB := Four.new (w.alloc (.cells #[.string nm, .slice a0 n0 c0, .slice a1 n1 c1, .slice al nl cl] 26)) (.string ⟨#[]⟩) (.slice none 0 0) (.slice none 0 0) (.slice none 0 0) 26
  rw [World.size_alloc] at hFB
  have hkw := Kp.trans hkA hkB
  clear hkA hkB hP hs hW hz hE
  go_enter Tryz.func19, Tryz.ntmps19
  go_upto_region 1 with fail
  obtain ⟨bx, hbx⟩ : ∃ bx, bx = w.heap.size := ⟨_, rfl⟩
  rw [← hbx] at hFA hFB hw1 ⊢
  generalize (w.alloc (.cells #[.string nm, .slice a0 n0 c0, .slice a1 n1 c1, .slice al nl cl] 26)).alloc (.cells #[.string ⟨#[]⟩, .slice none 0 0, .slice none 0 0, .slice none 0 0] 26) = wb1 at *
  have Hbx := Lib.hid hbx
  clear hbx
  have HC := Lib.hid (check_any wb1 E (hkw.errs HE.out.errs) nm a0 a1 al n0 c0 n1 c1 nl cl b0 b1 ls (hkw.is HPI.out.i0) (hkw.is HPI.out.i1) (hkw.lns HPI.out.il))
  have HFA := Lib.hid hFA
  have HFB := Lib.hid hFB
  have Hkw := Lib.hid hkw
  by_cases hc : checkL b0 b1 ls = 0
  · have Hc := Lib.hid hc
    have hcl := code0 hc
    rw [show errV E (checkL b0 b1 ls) = .nilIface by rw [hc]; rfl] at HC
    obtain ⟨y0, y1, y2, y3, z0, z1, z2, z3⟩ := hFA
    clear hc hFB hkw
    go_upto_region 4 with (go_at_call 24; go_loud (refine HC.out.mono ?_); rintro e w2 ⟨rfl, hk2⟩)
    have Hk2 := Lib.hid (Kp.trans Hkw.out hk2)
    have HCl := Lib.hid (cloned_any w2 nm a0 a1 al n0 c0 n1 c1 nl cl b0 b1 ls ⟨Hk2.out.is HPI.out.i0, Hk2.out.is HPI.out.i1, Hk2.out.lns HPI.out.il⟩ Hs.out)
    have hF2 := HFA.out.kp hk2
    have hZ2 := HFB.out.kp hk2
    have hs2 := hZ2.lt
    clear y0 y1 y2 y3 z0 z1 z2 z3
    have HZ2 := Lib.hid hZ2
    have HF2 := Lib.hid hF2
    obtain ⟨y0, y1, y2, y3, z0, z1, z2, z3⟩ := hF2
    clear hk2 hZ2
    go_wp2_with fail
    (with_reducible refine HCl.out.mono ?_)
    rintro e w3 ⟨hk3, t0, t1, tl, ts, rfl, hts, hsep⟩
    unfold tvv
    have hF3 := HF2.out.kp hk3
    obtain ⟨wf, hwf, hF, hPf⟩ := hF3.set (.string nm) (tvv t0) (tvv t1) (tvv tl)
    have hL : MdL w wf w2.heap.size bx 0 ⟨nm.data.toList, b0, b1, ls⟩ := by
      refine ⟨⟨t0, t1, tl, [], ts, [], ⟨?_, rfl, by simp, hts, hsep.fr hF (fun x hx => by simp at hx; omega), by omega⟩, fun _ => rfl⟩, ?_, (HZ2.out.kp hk3).fr hF (by simp), ?_, ?_, fun _ => hcl.2.2.1, ?_, ?_⟩
      · rw [bs_data]; exact hPf
      · exact kp_step' (Kp.trans Hk2.out hk3) hF (fun j hj => by simp at hj; have := Hbx.out; omega)
      · exact fun l hl => by have := hcl.2.2.2.2 l hl; exact ⟨this.1, this.2.1, this.2.2.1⟩
      · exact hcl.2.2.2.1
      · have := okB_len hcl.1; simp only; omega
      · have := okB_len hcl.2.1; simp only; omega
    have HM := Lib.hid (show ModI w wf w2.heap.size bx ⟨nm.data.toList, b0, b1, ls⟩ (wb ss) 0 0 ⟨nm.data.toList, b0, b1, ls⟩ from ⟨hL, rfl, by
      have h1 := Hs.out.nm
      have h2 := Lib.size_eq nm
      simp only; omega, by omega⟩)
    have Hwf := Lib.hid hwf
    have Hhl := Lib.hid (show bx + 1 < w2.heap.size from hs2)
    clear y0 y1 y2 y3 z0 z1 z2 z3 hwf hF hPf hL hsep hts
    obtain ⟨y0, y1, y2, y3, z0, z1, z2, z3⟩ := hF3
    unfold tvv at Hwf
    clear hk3
    generalize w2.heap.size = B at *
    go_wp2_with fail
    rw [← Hwf.out]
    go_loopw [7, 23] (fun v i wr => ∃ (k least : Nat) (q : Q.Pn), k ≤ nw ∧ i = .int .i64 (k : Nat) ∧ v = .int .i64 (least : Nat) ∧ ModI w wr B bx ⟨nm.data.toList, b0, b1, ls⟩ (wb ss) k least q) (fun _ i _ => nw - (intOf i).toNat)
    case atStart => exact ⟨0, 0, _, by omega, rfl, rfl, HM.out⟩
    case round =>
      obtain ⟨k, least, q, hk, rfl, rfl, hM⟩ := hrel
      rename World => wr
      have Hk3 := Lib.hid hM.l.kp
      have hz4 := hM.l.zero
      have HM := Lib.hid hM
      have HZ4 := Lib.hid hz4
      clear hM y0 y1 y2 y3 z0 z1 z2 z3 hz4
      obtain ⟨t0', t1', tf, td, ts', D, hmem, hD⟩ := HM.out.l.mem
      have Hmem := Lib.hid hmem
      have hF4 := hmem.four
      clear hmem
      by_cases hlt : k < nw
      · have hkl : k < ss.length := by rw [HW.out.1]; exact hlt
        obtain ⟨bw, ow, rfl, hcx⟩ := HW.out.at k hlt
        replace hcx := Hk3.out.cell (hcx k hlt)
        have hx := Hz.out ss[k] (List.getElem_mem hkl)
        have hkw' : k < (wb ss).length := by unfold wb; rw [List.length_map]; exact hkl
        have hgs := HM.out.g.trans (goM_step hkw')
        have hxe := wb_get hkl hkw'
        rw [hxe] at hgs
        have Hgs := Lib.hid hgs
        have HN := Lib.hid (number_any ss[k] wr E m (HE.out.keep Hk3.out) hx)
        clear hgs
        generalize ss[k] = x at *
        by_cases hfx : x.data.toList = Q.fallB
        · have hfx' : (x.toList == [102, 97, 108, 108, 98, 97, 99, 107]) = true := by rw [ByteArray.toList_eq]; exact beq_iff_eq.2 hfx
          have hfl : x.data.toList.length ≤ 24 := by rw [hfx]; decide
          by_cases hk0 : k = 0
          · replace hD := hD hk0
            have hne := HM.out.l.ne hk0
            obtain ⟨l, r, hlr⟩ := List.exists_cons_of_ne_nil hne
            have hlm := HM.out.l.ln l (by rw [hlr]; simp)
            have hll := HM.out.l.ll
            subst hD
            rw [hlr] at Hmem hll
            have htd := Hmem.out.hd
            obtain rfl : td = [] := List.eq_nil_of_length_eq_zero htd
            have htl := Hmem.out.hl
            obtain ⟨tq, tr, rfl⟩ : ∃ tq tr, ts' = tq :: tr := by
              cases ts' with
              | nil => simp at htl
              | cons a b => exact ⟨a, b, rfl⟩
            have hl0 := HM.out.l.l0
            have hl1 := HM.out.l.l1
            have Hlr := Lib.hid hlr
            have Hln := Lib.hid (fun l' (hl' : l' ∈ r) => HM.out.l.ln l' (by rw [hlr]; simp [hl']))
            clear htd htl hne hlr
            have HBk := Lib.hid (fun (w4 : World) (hM4 : MdS w4 B bx (bs q.nm) t0' t1' tf [] (tq :: tr) [] (l :: r) q.b0 q.b1) => (show Calls Tryz.prog 53 #[.pointer (some ⟨bx, 0, none⟩)] w4 (BackPost w4 B bx (bs q.nm) t0' t1' tf tq tr l r q.b0 q.b1) by
              obtain ⟨f, xs⟩ := l
              obtain ⟨e, h1, h2⟩ := hlm
              simp only at e h1 h2
              rcases e with rfl | rfl
              · exact back_0 w4 B bx (bs q.nm) t0' t1' tf tq tr xs r q.b0 q.b1 hM4 h1 (by omega) (by omega)
              · exact back_1 w4 B bx (bs q.nm) t0' t1' tf tq tr xs r q.b0 q.b1 hM4 h1 (by omega) (by omega)))
            have hbp : Q.wordP srtI k least q x.data.toList = (if okB l.2 && noneIn (if l.1 = 0 then q.b0 else q.b1) l.2 then some { Q.setBef q l.1 (srtI ((if l.1 = 0 then q.b0 else q.b1) ++ l.2)) with ls := r } else none).map (fun q => (least, q)) := by
              unfold Q.wordP
              rw [if_pos hfx, if_neg (by omega)]
              unfold Q.backP
              rw [Hlr.out]
              rfl
            have Hbp := Lib.hid hbp
            have Hk0 := Lib.hid hk0
            clear hbp hk0
            obtain ⟨y0, y1, y2, y3, z0, z1, z2, z3⟩ := hF4
            clear y0 y1 y2 y3 z0 z1 z2 z3
            go_upto_region 11 with fail
            (with_reducible refine HN.out.mono ?_)
            rintro e w4 ⟨hk4, v, bb, rfl, hv⟩
            have HK4 := Lib.hid (Kp.trans Hk3.out hk4)
            have HZ5 := Lib.hid (HZ4.out.kp hk4)
            have HM4 := Lib.hid (Hmem.out.kp hk4)
            have hk0 := Hk0.out
            clear hk4 hv
            go_upto_region 13 with fail
            (with_reducible refine (HBk.out w4 HM4.out).mono ?_)
            rintro e w5 hpo
            unfold BackPost at hpo
            cases hok : (okB l.2 && noneIn (if l.1 = 0 then q.b0 else q.b1) l.2) with
            | false =>
              rw [hok] at hpo Hbp
              simp only [Bool.false_eq_true, if_false, Option.map_none] at hpo Hbp
              obtain ⟨rfl, hk5⟩ := hpo
              have HK5 := Lib.hid (Kp.trans HK4.out hk5)
              have HZ6 := Lib.hid (HZ5.out.kp hk5)
              have HG := Lib.hid (show Q.goM srtI 0 0 ⟨nm.data.toList, b0, b1, ls⟩ (wb ss) = none by rw [Hgs.out, Hbp.out])
              clear hk5 hok
              go_upto_region 13 with fail
              refine anyP_start (fun w => w.cell? ⟨0, 0, none⟩ = some (.iface 229 (.pointer (some (E 1))))) 3 (fun _ => True) (fun _ _ => False) (by kernel_rfl) (fun _ _ _ _ h => h.elim) ?_
              obtain ⟨wd, hwd⟩ : ∃ wd, wd = w5.drew := ⟨_, rfl⟩
              have hkd : Kp w5 wd := hwd ▸ (⟨rfl, rfl, rfl, Nat.le_refl _, fun _ _ => rfl⟩ : Kp w5 w5.drew)
              rw [← hwd]
              clear hwd
              have hTd := (Kp.trans HK5.out hkd).cell HE.out.c0
              have hPd := Four.kp HZ6.out hkd
              have HKd := Lib.hid (Kp.trans HK5.out hkd)
              obtain ⟨wf2, hwf2, hF2, hPf2⟩ := hPd.set (.string ⟨#[]⟩) (.slice none 0 0) (.slice none 0 0) (.slice none 0 0)
              obtain ⟨y0, y1, y2, y3, z0, z1, z2, z3⟩ := hPd
              obtain ⟨r0, r1, r2, r3, _, _, _, _⟩ := hPf2
              have Hwf2 := Lib.hid hwf2
              have HTf := Lib.hid (hF2.cell hTd (by simp))
              have HKf := Lib.hid (kp_step' HKd.out hF2 (fun j hj => by simp at hj; have := Hbx.out; omega))
              clear hwf2 hF2 hkd
              refine anyT_take puts_true [0] (by kernel_rfl) hTd ?_
              simp only [opsAt, List.getElem?_toArray, List.getElem?_cons_zero]
              repeat (go_big_quiet_step (fail))
              refine wpQuiet_nil ?_
              refine anyT_load puts_true 1 45 (.iface 229 (.pointer (some (E 1)))) rfl rfl (by kernel_rfl) hTd (fun w h => exec_load32 h rfl rfl) ?_
              simp only [Act.put, List.setIfInBounds_toArray, List.set_cons_zero, List.set_cons_succ]
              refine anyP_one 2 (by kernel_rfl) ?_
              simp only [opsAt, List.getElem?_toArray, List.getElem?_cons_zero, List.getElem?_cons_succ]
              clear hTd
              go_wp2_with fail
              rw [← Hwf2.out]
              refine ⟨fun _ => HTf.out, ?_⟩
              refine anyP_one 3 (by kernel_rfl) ?_
              simp only [opsAt, List.getElem?_toArray, List.getElem?_cons_zero, List.getElem?_cons_succ]
              clear y0 y1 y2 y3 z0 z1 z2 z3
              go_wp2_with fail
              refine ⟨fun h => absurd rfl h, ?_⟩
              refine anyP_end (by kernel_rfl) ?_
              go_wp2_with fail
              show bodyPost Tryz.prog Tryz.f19 (ModPost w E ⟨nm.data.toList, b0, b1, ls⟩ (wb ss)) .ret _ _
              refine bodyPost_ret (v := .tuple #[zeroP, .iface 229 (.pointer (some (E 1)))]) (by simp [results, Tryz.results19, go_sem, r0, r1, r2, r3]) rfl ?_
              exact ModPost.arg (p := ⟨nm.data.toList, b0, b1, ls⟩) Hc.out HG.out HKf.out
            | true =>
              rw [hok] at hpo Hbp
              simp only [if_true, Option.map_some] at hpo Hbp
              obtain ⟨t05, t15, rfl, hM5, hkp5⟩ := hpo
              have hokb : l.2.length ≤ 2 := okB_len (by simp only [Bool.and_eq_true] at hok; exact hok.1)
              clear hok
              obtain ⟨q1, hq1⟩ : ∃ q1 : Q.Pn, q1 = { Q.setBef q l.1 (srtI ((if l.1 = 0 then q.b0 else q.b1) ++ l.2)) with ls := r } := ⟨_, rfl⟩
              rw [← hq1] at Hbp
              have hqn : q1.nm = q.nm := by rw [hq1]; unfold Q.setBef; split <;> rfl
              have hqs : q1.ls = r := by rw [hq1]
              have hqb : q1.b0 = if l.1 = 0 then srtI (q.b0 ++ l.2) else q.b0 := by rw [hq1]; unfold Q.setBef; split <;> rfl
              have hqc : q1.b1 = if l.1 = 0 then q.b1 else srtI (q.b1 ++ l.2) := by rw [hq1]; unfold Q.setBef; split <;> rfl
              rw [← hqb, ← hqc, ← hqs] at hM5
              have hb0l : q1.b0.length ≤ 2 + 2 * (k + 1) := by rw [hqb]; split <;> (try rw [srtI_length, List.length_append]) <;> omega
              have hb1l : q1.b1.length ≤ 2 + 2 * (k + 1) := by rw [hqc]; split <;> (try rw [srtI_length, List.length_append]) <;> omega
              have hlsl : q1.ls.length ≤ 24 := by rw [hqs]; simp only [List.length_cons] at hll; omega
              have HZ6 := Lib.hid (hkp5.four HZ5.out (by omega) (by have := Hhl.out; omega))
              have HK6 := Lib.hid (hkp5.keep HK4.out (by have := Hbx.out; omega) (by have := Hbx.out; have := Hhl.out; omega))
              have HS := Lib.hid (HM.out.step (w1 := w5) (q1 := q1) (least' := least) hkw' (hxe ▸ Hbp.out) hqn (by rw [hxe]; exact hfl) HM.out.s (bs q.nm) t05 t15 tf [tq] tr [l] hM5 HK6.out (by have := Hbx.out; omega) HZ6.out
                (fun l' hl' => by have := Hln.out l' (by rw [← hqs]; exact hl'); exact ⟨this.1, this.2.1, by omega⟩) hlsl hb0l hb1l (bs q.nm ++ x) (by rw [hxe, hk0]; exact (bs_plus q.nm x).symm))
              obtain ⟨y0, y1, y2, y3, z0, z1, z2, z3⟩ := hM5.four
              have hqz : (bs q.nm).size ≤ 13000 := by have := HM.out.n; rw [bs_size]; omega
              clear hq1 hqn hqs hqb hqc hb0l hb1l hlsl hM5 hkp5 hl0 hl1 hll hokb
              go_wp2_with fail
              go_roundw
              case rel => exact ⟨k + 1, least, _, by omega, by go_num, by go_num, HS.out⟩
              case measure => simp [intOf]; omega
          · have HG := Lib.hid (show Q.goM srtI 0 0 ⟨nm.data.toList, b0, b1, ls⟩ (wb ss) = none by
              rw [Hgs.out]
              unfold Q.wordP
              rw [if_pos hfx, if_pos (by omega)])
            obtain ⟨y0, y1, y2, y3, z0, z1, z2, z3⟩ := hF4
            clear y0 y1 y2 y3 z0 z1 z2 z3
            go_upto_region 11 with fail
            (with_reducible refine HN.out.mono ?_)
            rintro e w4 ⟨hk4, v, bb, rfl, hv⟩
            have HK4 := Lib.hid (Kp.trans Hk3.out hk4)
            have HZ5 := Lib.hid (HZ4.out.kp hk4)
            clear hk4 hv
            go_upto_region 13 with fail
            refine anyP_start (fun w => w.cell? ⟨0, 0, none⟩ = some (.iface 229 (.pointer (some (E 1))))) 3 (fun _ => True) (fun _ _ => False) (by kernel_rfl) (fun _ _ _ _ h => h.elim) ?_
            obtain ⟨wd, hwd⟩ : ∃ wd, wd = w4.drew := ⟨_, rfl⟩
            have hkd : Kp w4 wd := hwd ▸ (⟨rfl, rfl, rfl, Nat.le_refl _, fun _ _ => rfl⟩ : Kp w4 w4.drew)
            rw [← hwd]
            clear hwd
            have hTd := (Kp.trans HK4.out hkd).cell HE.out.c0
            have hPd := Four.kp HZ5.out hkd
            have HKd := Lib.hid (Kp.trans HK4.out hkd)
            obtain ⟨wf2, hwf2, hF2, hPf2⟩ := hPd.set (.string ⟨#[]⟩) (.slice none 0 0) (.slice none 0 0) (.slice none 0 0)
            obtain ⟨y0, y1, y2, y3, z0, z1, z2, z3⟩ := hPd
            obtain ⟨r0, r1, r2, r3, _, _, _, _⟩ := hPf2
            have Hwf2 := Lib.hid hwf2
            have HTf := Lib.hid (hF2.cell hTd (by simp))
            have HKf := Lib.hid (kp_step' HKd.out hF2 (fun j hj => by simp at hj; have := Hbx.out; omega))
            clear hwf2 hF2 hkd
            refine anyT_take puts_true [0] (by kernel_rfl) hTd ?_
            simp only [opsAt, List.getElem?_toArray, List.getElem?_cons_zero]
            repeat (go_big_quiet_step (fail))
            refine wpQuiet_nil ?_
            refine anyT_load puts_true 1 45 (.iface 229 (.pointer (some (E 1)))) rfl rfl (by kernel_rfl) hTd (fun w h => exec_load32 h rfl rfl) ?_
            simp only [Act.put, List.setIfInBounds_toArray, List.set_cons_zero, List.set_cons_succ]
            refine anyP_one 2 (by kernel_rfl) ?_
            simp only [opsAt, List.getElem?_toArray, List.getElem?_cons_zero, List.getElem?_cons_succ]
            clear hTd
            go_wp2_with fail
            rw [← Hwf2.out]
            refine ⟨fun _ => HTf.out, ?_⟩
            refine anyP_one 3 (by kernel_rfl) ?_
            simp only [opsAt, List.getElem?_toArray, List.getElem?_cons_zero, List.getElem?_cons_succ]
            clear y0 y1 y2 y3 z0 z1 z2 z3
            go_wp2_with fail
            refine ⟨fun h => absurd rfl h, ?_⟩
            refine anyP_end (by kernel_rfl) ?_
            go_wp2_with fail
            show bodyPost Tryz.prog Tryz.f19 (ModPost w E ⟨nm.data.toList, b0, b1, ls⟩ (wb ss)) .ret _ _
            refine bodyPost_ret (v := .tuple #[zeroP, .iface 229 (.pointer (some (E 1)))]) (by simp [results, Tryz.results19, go_sem, r0, r1, r2, r3]) rfl ?_
            exact ModPost.arg (p := ⟨nm.data.toList, b0, b1, ls⟩) Hc.out HG.out HKf.out
        · have hnf : Q.wordP srtI k least q x.data.toList = match Q.numP x.data.toList with | some n => if n < least then none else (Q.preT q n).map (fun q => (n + 1, q)) | none => none := by unfold Q.wordP; rw [if_neg hfx]; cases Q.numP x.data.toList <;> rfl
          have Hnf := Lib.hid hnf
          have hfx' : (x.toList == [102, 97, 108, 108, 98, 97, 99, 107]) = false := by rw [ByteArray.toList_eq]; exact beq_eq_false_iff_ne.2 hfx
          clear hnf
          go_upto_region 11 with fail
          (with_reducible refine HN.out.mono ?_)
          rintro e w4 ⟨hk4, v, bb, rfl, hv⟩
          have HK4 := Lib.hid (Kp.trans Hk3.out hk4)
          have HZ5 := Lib.hid (HZ4.out.kp hk4)
          have HM4 := Lib.hid (Hmem.out.kp hk4)
          obtain ⟨y0, y1, y2, y3, z0, z1, z2, z3⟩ := hF4
          clear y0 y1 y2 y3 z0 z1 z2 z3 hk4
          cases hnum : Q.numP x.data.toList with
          | none =>
            rw [hnum] at hv
            simp only at hv
            subst hv
            have HG := Lib.hid (show Q.goM srtI 0 0 ⟨nm.data.toList, b0, b1, ls⟩ (wb ss) = none by rw [Hgs.out, Hnf.out, hnum])
            clear hnum
            go_upto_region 15 with fail
            refine anyP_start (fun w => w.cell? ⟨0, 0, none⟩ = some (.iface 229 (.pointer (some (E 1))))) 3 (fun _ => True) (fun _ _ => False) (by kernel_rfl) (fun _ _ _ _ h => h.elim) ?_
            obtain ⟨wd, hwd⟩ : ∃ wd, wd = w4.drew := ⟨_, rfl⟩
            have hkd : Kp w4 wd := hwd ▸ (⟨rfl, rfl, rfl, Nat.le_refl _, fun _ _ => rfl⟩ : Kp w4 w4.drew)
            rw [← hwd]
            clear hwd
            have hTd := (Kp.trans HK4.out hkd).cell HE.out.c0
            have hPd := Four.kp HZ5.out hkd
            have HKd := Lib.hid (Kp.trans HK4.out hkd)
            obtain ⟨wf2, hwf2, hF2, hPf2⟩ := hPd.set (.string ⟨#[]⟩) (.slice none 0 0) (.slice none 0 0) (.slice none 0 0)
            obtain ⟨y0, y1, y2, y3, z0, z1, z2, z3⟩ := hPd
            obtain ⟨r0, r1, r2, r3, _, _, _, _⟩ := hPf2
            have Hwf2 := Lib.hid hwf2
            have HTf := Lib.hid (hF2.cell hTd (by simp))
            have HKf := Lib.hid (kp_step' HKd.out hF2 (fun j hj => by simp at hj; have := Hbx.out; omega))
            clear hwf2 hF2 hkd
            refine anyT_take puts_true [0] (by kernel_rfl) hTd ?_
            simp only [opsAt, List.getElem?_toArray, List.getElem?_cons_zero]
            repeat (go_big_quiet_step (fail))
            refine wpQuiet_nil ?_
            refine anyT_load puts_true 1 60 (.iface 229 (.pointer (some (E 1)))) rfl rfl (by kernel_rfl) hTd (fun w h => exec_load32 h rfl rfl) ?_
            simp only [Act.put, List.setIfInBounds_toArray, List.set_cons_zero, List.set_cons_succ]
            refine anyP_one 2 (by kernel_rfl) ?_
            simp only [opsAt, List.getElem?_toArray, List.getElem?_cons_zero, List.getElem?_cons_succ]
            clear hTd
            go_wp2_with fail
            rw [← Hwf2.out]
            refine ⟨fun _ => HTf.out, ?_⟩
            refine anyP_one 3 (by kernel_rfl) ?_
            simp only [opsAt, List.getElem?_toArray, List.getElem?_cons_zero, List.getElem?_cons_succ]
            clear y0 y1 y2 y3 z0 z1 z2 z3
            go_wp2_with fail
            refine ⟨fun h => absurd rfl h, ?_⟩
            refine anyP_end (by kernel_rfl) ?_
            go_wp2_with fail
            show bodyPost Tryz.prog Tryz.f19 (ModPost w E ⟨nm.data.toList, b0, b1, ls⟩ (wb ss)) .ret _ _
            refine bodyPost_ret (v := .tuple #[zeroP, .iface 229 (.pointer (some (E 1)))]) (by simp [results, Tryz.results19, go_sem, r0, r1, r2, r3]) rfl ?_
            exact ModPost.arg (p := ⟨nm.data.toList, b0, b1, ls⟩) Hc.out HG.out HKf.out
          | some n =>
            rw [hnum] at hv
            simp only at hv
            obtain ⟨rfl, rfl⟩ := hv
            have hns := word_short hnum
            rw [hnum] at Hnf
            simp only at Hnf
            clear hnum
            by_cases hnl : n < least
            · have HG := Lib.hid (show Q.goM srtI 0 0 ⟨nm.data.toList, b0, b1, ls⟩ (wb ss) = none by rw [Hgs.out, Hnf.out, if_pos hnl])
              go_upto_region 15 with fail
              refine anyP_start (fun w => w.cell? ⟨0, 0, none⟩ = some (.iface 229 (.pointer (some (E 1))))) 3 (fun _ => True) (fun _ _ => False) (by kernel_rfl) (fun _ _ _ _ h => h.elim) ?_
              obtain ⟨wd, hwd⟩ : ∃ wd, wd = w4.drew := ⟨_, rfl⟩
              have hkd : Kp w4 wd := hwd ▸ (⟨rfl, rfl, rfl, Nat.le_refl _, fun _ _ => rfl⟩ : Kp w4 w4.drew)
              rw [← hwd]
              clear hwd
              have hTd := (Kp.trans HK4.out hkd).cell HE.out.c0
              have hPd := Four.kp HZ5.out hkd
              have HKd := Lib.hid (Kp.trans HK4.out hkd)
              obtain ⟨wf2, hwf2, hF2, hPf2⟩ := hPd.set (.string ⟨#[]⟩) (.slice none 0 0) (.slice none 0 0) (.slice none 0 0)
              obtain ⟨y0, y1, y2, y3, z0, z1, z2, z3⟩ := hPd
              obtain ⟨r0, r1, r2, r3, _, _, _, _⟩ := hPf2
              have Hwf2 := Lib.hid hwf2
              have HTf := Lib.hid (hF2.cell hTd (by simp))
              have HKf := Lib.hid (kp_step' HKd.out hF2 (fun j hj => by simp at hj; have := Hbx.out; omega))
              clear hwf2 hF2 hkd
              refine anyT_take puts_true [0] (by kernel_rfl) hTd ?_
              simp only [opsAt, List.getElem?_toArray, List.getElem?_cons_zero]
              repeat (go_big_quiet_step (fail))
              refine wpQuiet_nil ?_
              refine anyT_load puts_true 1 60 (.iface 229 (.pointer (some (E 1)))) rfl rfl (by kernel_rfl) hTd (fun w h => exec_load32 h rfl rfl) ?_
              simp only [Act.put, List.setIfInBounds_toArray, List.set_cons_zero, List.set_cons_succ]
              refine anyP_one 2 (by kernel_rfl) ?_
              simp only [opsAt, List.getElem?_toArray, List.getElem?_cons_zero, List.getElem?_cons_succ]
              clear hTd
              go_wp2_with fail
              rw [← Hwf2.out]
              refine ⟨fun _ => HTf.out, ?_⟩
              refine anyP_one 3 (by kernel_rfl) ?_
              simp only [opsAt, List.getElem?_toArray, List.getElem?_cons_zero, List.getElem?_cons_succ]
              clear y0 y1 y2 y3 z0 z1 z2 z3
              go_wp2_with fail
              refine ⟨fun h => absurd rfl h, ?_⟩
              refine anyP_end (by kernel_rfl) ?_
              go_wp2_with fail
              show bodyPost Tryz.prog Tryz.f19 (ModPost w E ⟨nm.data.toList, b0, b1, ls⟩ (wb ss)) .ret _ _
              refine bodyPost_ret (v := .tuple #[zeroP, .iface 229 (.pointer (some (E 1)))]) (by simp [results, Tryz.results19, go_sem, r0, r1, r2, r3]) rfl ?_
              exact ModPost.arg (p := ⟨nm.data.toList, b0, b1, ls⟩) Hc.out HG.out HKf.out
            · have HPr := Lib.hid (pre_any w4 B bx (bs q.nm) t0' t1' tf td ts' D q.ls q.b0 q.b1 n HM4.out (fun l hl => ⟨(HM.out.l.ln l hl).2.1, by have := (HM.out.l.ln l hl).2.2; omega⟩) (by have := HM.out.l.ll; omega) hns.1)
              rw [if_neg hnl] at Hnf
              by_cases hpr : q.ls = [] ∨ q.ls.length < n
              · have HG := Lib.hid (show Q.goM srtI 0 0 ⟨nm.data.toList, b0, b1, ls⟩ (wb ss) = none by rw [Hgs.out, Hnf.out, preL_some, if_pos hpr]; rfl)
                unfold PrePost at HPr
                simp only [if_pos hpr] at HPr
                go_upto_region 15 with fail
                (with_reducible refine HPr.out.mono ?_)
                rintro e w5 ⟨rfl, rfl⟩
                go_upto_region 15 with fail
                refine anyP_start (fun w => w.cell? ⟨0, 0, none⟩ = some (.iface 229 (.pointer (some (E 1))))) 3 (fun _ => True) (fun _ _ => False) (by kernel_rfl) (fun _ _ _ _ h => h.elim) ?_
                obtain ⟨wd, hwd⟩ : ∃ wd, wd = w4.drew := ⟨_, rfl⟩
                have hkd : Kp w4 wd := hwd ▸ (⟨rfl, rfl, rfl, Nat.le_refl _, fun _ _ => rfl⟩ : Kp w4 w4.drew)
                rw [← hwd]
                clear hwd
                have hTd := (Kp.trans HK4.out hkd).cell HE.out.c0
                have hPd := Four.kp HZ5.out hkd
                have HKd := Lib.hid (Kp.trans HK4.out hkd)
                obtain ⟨wf2, hwf2, hF2, hPf2⟩ := hPd.set (.string ⟨#[]⟩) (.slice none 0 0) (.slice none 0 0) (.slice none 0 0)
                obtain ⟨y0, y1, y2, y3, z0, z1, z2, z3⟩ := hPd
                obtain ⟨r0, r1, r2, r3, _, _, _, _⟩ := hPf2
                have Hwf2 := Lib.hid hwf2
                have HTf := Lib.hid (hF2.cell hTd (by simp))
                have HKf := Lib.hid (kp_step' HKd.out hF2 (fun j hj => by simp at hj; have := Hbx.out; omega))
                clear hwf2 hF2 hkd
                refine anyT_take puts_true [0] (by kernel_rfl) hTd ?_
                simp only [opsAt, List.getElem?_toArray, List.getElem?_cons_zero]
                repeat (go_big_quiet_step (fail))
                refine wpQuiet_nil ?_
                refine anyT_load puts_true 1 60 (.iface 229 (.pointer (some (E 1)))) rfl rfl (by kernel_rfl) hTd (fun w h => exec_load32 h rfl rfl) ?_
                simp only [Act.put, List.setIfInBounds_toArray, List.set_cons_zero, List.set_cons_succ]
                refine anyP_one 2 (by kernel_rfl) ?_
                simp only [opsAt, List.getElem?_toArray, List.getElem?_cons_zero, List.getElem?_cons_succ]
                clear hTd
                go_wp2_with fail
                rw [← Hwf2.out]
                refine ⟨fun _ => HTf.out, ?_⟩
                refine anyP_one 3 (by kernel_rfl) ?_
                simp only [opsAt, List.getElem?_toArray, List.getElem?_cons_zero, List.getElem?_cons_succ]
                clear y0 y1 y2 y3 z0 z1 z2 z3
                go_wp2_with fail
                refine ⟨fun h => absurd rfl h, ?_⟩
                refine anyP_end (by kernel_rfl) ?_
                go_wp2_with fail
                show bodyPost Tryz.prog Tryz.f19 (ModPost w E ⟨nm.data.toList, b0, b1, ls⟩ (wb ss)) .ret _ _
                refine bodyPost_ret (v := .tuple #[zeroP, .iface 229 (.pointer (some (E 1)))]) (by simp [results, Tryz.results19, go_sem, r0, r1, r2, r3]) rfl ?_
                exact ModPost.arg (p := ⟨nm.data.toList, b0, b1, ls⟩) Hc.out HG.out HKf.out
              · unfold PrePost at HPr
                simp only [if_neg hpr] at HPr
                rw [preL_some, if_neg hpr, Option.map_some] at Hnf
                go_upto_region 10 with fail
                (with_reducible refine HPr.out.mono ?_)
                rintro e w5 ⟨ts5, rfl, hM5, hkp5⟩
                have HZ6 := Lib.hid (hkp5.four HZ5.out (by omega) (by have := Hhl.out; omega))
                have HK6 := Lib.hid (hkp5.keep HK4.out (by have := Hbx.out; omega) (by have := Hbx.out; have := Hhl.out; omega))
                have HM5 := Lib.hid hM5
                obtain ⟨y0, y1, y2, y3, z0, z1, z2, z3⟩ := hM5.four
                clear hM5 hkp5
                have hn24 : n ≤ 24 := by have := HM.out.l.ll; omega
                have HS := Lib.hid (fun (w1 : World) (nm1 : ByteArray) (hm : MdS w1 B bx nm1 t0' t1' tf td ts5 D (preL q.ls n) q.b0 q.b1) (kp : Kp w w1) hz (u : ByteArray) (hu : u = bs (q.nm ++ Q.plusW k x.data.toList)) => HM.out.step (w1 := w1) (q1 := { q with ls := preL q.ls n }) (least' := n + 1) hkw' (hxe ▸ Hnf.out) rfl (by rw [hxe]; exact hns.2) (by omega) nm1 t0' t1' tf td ts5 D hm kp (by have := Hbx.out; omega) hz
                  (preL_mem HM.out.l.ln) (by rw [preL_length]; exact HM.out.l.ll) (by have := HM.out.l.l0; simp only; omega) (by have := HM.out.l.l1; simp only; omega) u (by rw [hxe]; exact hu))
                have hq1 : (bs q.nm).size ≤ 13000 := by have := HM.out.n; rw [bs_size]; omega
                by_cases hk0 : k = 0
                · have HB := Lib.hid (bs_plus q.nm x)
                  subst hk0
                  go_wp2_with fail
                  go_roundw
                  case rel => exact ⟨0 + 1, n + 1, _, by omega, by go_num, by go_num, HS.out w5 _ HM5.out HK6.out HZ6.out _ HB.out.symm⟩
                  case measure => simp [intOf]; omega
                · have HB := Lib.hid (bs_plus1 q.nm x (show 0 < k by omega))
                  have hq2 : (bs q.nm ++ (⟨#[43]⟩ : ByteArray)).size ≤ 13001 := by rw [ByteArray.size_append]; have : (⟨#[43]⟩ : ByteArray).size = 1 := rfl; omega
                  go_wp2_with fail
                  go_roundw
                  case rel => exact ⟨k + 1, n + 1, _, by omega, by go_num, by go_num, HS.out (w5.setCell ⟨bx, 0, none⟩ (.string (bs q.nm ++ (⟨#[43]⟩ : ByteArray)))) _ (HM5.out.name _) (kp_step' HK6.out (Fr.set _ _ _) (by intro j hj; simp at hj; have := Hbx.out; omega)) (HZ6.out.fr (Fr.set _ _ _) (by simp)) _ HB.out.symm⟩
                  case measure => simp [intOf]; omega
      · obtain rfl : k = nw := by omega
        have hG : Q.goM srtI 0 0 ⟨nm.data.toList, b0, b1, ls⟩ (wb ss) = some q := by
          rw [HM.out.g, List.drop_of_length_le (by unfold wb; rw [List.length_map, HW.out.1]; exact Nat.le_refl _)]
          rfl
        have HG := Lib.hid hG
        have hlns := Hmem.out.pat (by have := HM.out.l.ll; omega) (fun l hl => by have := (HM.out.l.ln l hl).2.2; omega)
        have HC2 := Lib.hid (check_any wr E (Hk3.out.errs HE.out.errs) (bs q.nm) t0'.ao t1'.ao (subT tf D.length).ao t0'.n t0'.c t1'.n t1'.c (subT tf D.length).n (subT tf D.length).c q.b0 q.b1 q.ls hlns.i0 hlns.i1 hlns.il)
        obtain ⟨sa, sn, sc, hsub⟩ : ∃ sa sn sc, subT tf D.length = ⟨sa, sn, sc⟩ := ⟨_, _, _, rfl⟩
        rw [hsub] at HC2 hF4
        have Hsub := Lib.hid hsub
        clear hG hlns hsub
        by_cases hc2 : checkL q.b0 q.b1 q.ls = 0
        · have Hc2 := Lib.hid hc2
          rw [show errV E (checkL q.b0 q.b1 q.ls) = .nilIface by rw [hc2]; rfl] at HC2
          have HF4 := Lib.hid hF4
          obtain ⟨y0, y1, y2, y3, z0, z1, z2, z3⟩ := hF4
          unfold tvv at y1 y2 y3
          clear hc2
          go_wp2_with fail
          (with_reducible refine HC2.out.mono ?_)
          rintro e w7 ⟨rfl, hk7⟩
          have hF7 := HF4.out.kp hk7
          have hZ7 := HZ4.out.kp hk7
          have HM7 := Lib.hid (Hmem.out.kp hk7)
          obtain ⟨wf2, hwf2, hF2, hPf2⟩ := hZ7.set (.string (bs q.nm)) (.slice t0'.ao t0'.n t0'.c) (.slice t1'.ao t1'.n t1'.c) (.slice sa sn sc)
          clear y0 y1 y2 y3 z0 z1 z2 z3
          obtain ⟨y0, y1, y2, y3, z0, z1, z2, z3⟩ := hF7
          unfold tvv at y1 y2 y3
          obtain ⟨x0, x1, x2, x3, f0, f1, f2, f3⟩ := hZ7
          obtain ⟨r0, r1, r2, r3, _, _, _, _⟩ := hPf2
          have Hwf2 := Lib.hid hwf2
          have HKf := Lib.hid (kp_step' (Kp.trans Hk3.out hk7) hF2 (fun j hj => by simp at hj; have := Hbx.out; omega))
          have hsp := (HM7.out.sep.fr hF2 (fun x hx => by simp at hx; have := Hhl.out; omega)).base (B' := w.heap.size) (by have := Hhl.out; have := Hbx.out; omega)
          have HQ := Lib.hid (ModPost.fine (E := E) (p := ⟨nm.data.toList, b0, b1, ls⟩) Hc.out HG.out Hc2.out HKf.out HM7.out.hd HM7.out.h1 HM7.out.hl hsp)
          rw [Hsub.out] at HQ
          clear hwf2 hF2 hk7 hsp
          go_wp2_with fail
          rw [← Hwf2.out]
          show bodyPost Tryz.prog Tryz.f19 (ModPost w E ⟨nm.data.toList, b0, b1, ls⟩ (wb ss)) .ret _ _
          refine bodyPost_ret (v := .tuple #[.agg #[.string (bs q.nm), tvv t0', tvv t1', tvv ⟨sa, sn, sc⟩], .nilIface]) (by simp [results, Tryz.results19, go_sem, r0, r1, r2, r3, tvv]) rfl ?_
          exact HQ.out
        · have Hc2 := Lib.hid hc2
          have HEe := Lib.hid (errV_ptr E hc2)
          rw [HEe.out] at HC2
          obtain ⟨y0, y1, y2, y3, z0, z1, z2, z3⟩ := hF4
          unfold tvv at y1 y2 y3
          clear hc2
          go_upto_region 21 with fail
          (with_reducible refine HC2.out.mono ?_)
          rintro e w7 ⟨rfl, hk7⟩
          have hZ7 := HZ4.out.kp hk7
          obtain ⟨wf2, hwf2, hF2, hPf2⟩ := hZ7.set (.string ⟨#[]⟩) (.slice none 0 0) (.slice none 0 0) (.slice none 0 0)
          clear y0 y1 y2 y3 z0 z1 z2 z3
          obtain ⟨y0, y1, y2, y3, z0, z1, z2, z3⟩ := hZ7
          obtain ⟨r0, r1, r2, r3, _, _, _, _⟩ := hPf2
          have Hwf2 := Lib.hid hwf2
          have HKf := Lib.hid (kp_step' (Kp.trans Hk3.out hk7) hF2 (fun j hj => by simp at hj; have := Hbx.out; omega))
          clear hwf2 hF2 hk7
          go_wp2_with fail
          rw [← Hwf2.out]
          show bodyPost Tryz.prog Tryz.f19 (ModPost w E ⟨nm.data.toList, b0, b1, ls⟩ (wb ss)) .ret _ _
          refine bodyPost_ret (v := .tuple #[zeroP, .iface 229 (.pointer (some (E (checkL q.b0 q.b1 q.ls))))]) (by simp [results, Tryz.results19, go_sem, r0, r1, r2, r3]) rfl ?_
          exact ModPost.off (p := ⟨nm.data.toList, b0, b1, ls⟩) Hc.out HG.out Hc2.out HKf.out
  · have Hc := Lib.hid hc
    have HEe := Lib.hid (errV_ptr E hc)
    rw [HEe.out] at HC
    obtain ⟨y0, y1, y2, y3, z0, z1, z2, z3⟩ := hFA
    clear hc hFB hkw
    go_upto_region 3 with (go_at_call 24; go_loud (refine HC.out.mono ?_); rintro e w2 ⟨rfl, hk2⟩)
    have hP4 := HFB.out.kp hk2
    obtain ⟨wf, hwf, hF, hPf⟩ := hP4.set (.string ⟨#[]⟩) (.slice none 0 0) (.slice none 0 0) (.slice none 0 0)
    clear y0 y1 y2 y3 z0 z1 z2 z3
    obtain ⟨y0, y1, y2, y3, z0, z1, z2, z3⟩ := hP4
    obtain ⟨c0, c1, c2, c3, _, _, _, _⟩ := hPf
    have Hwf := Lib.hid hwf
    have HKf := Lib.hid (kp_step' (Kp.trans Hkw.out hk2) hF (fun j hj => by simp at hj; have := Hbx.out; omega))
    clear hwf hF hk2
    go_wp2_with fail
    rw [← Hwf.out]
    show bodyPost Tryz.prog Tryz.f19 (ModPost w E ⟨nm.data.toList, b0, b1, ls⟩ (wb ss)) .ret _ _
    refine bodyPost_ret (v := .tuple #[zeroP, .iface 229 (.pointer (some (E (checkL b0 b1 ls))))]) (by simp [results, Tryz.results19, go_sem, c0, c1, c2, c3]) rfl ?_
    exact ModPost.bad (p := ⟨nm.data.toList, b0, b1, ls⟩) Hc.out HKf.out
end Go.Proofs.YtkmejehhdjdlbaaGreatDoor

namespace Go.Proofs.YtkmejehhdjdlbaaGreatDoor
open Go.RowKit

theorem el59 : El Tryz.prog 59 9 (.string ⟨#[]⟩) 1 16 := ⟨Tryz.underlying59, by kernel_rfl, rfl, by decide, by decide⟩
theorem joinT_lib : ∀ (ws : List Q.Bt), Lib.join ws [44, 32] = Q.joinT ws
  | [] => rfl
  | [x] => by rw [Lib.join_one]; rfl
  | x :: y :: r => by
    rw [Q.joinT, ← joinT_lib (y :: r)]
    simp [Lib.join, List.intercalate, List.intersperse, Q.comma]
theorem tokW_len (t : Int) : (Q.tokW t).length ≤ 3 := by
  unfold Q.tokW
  repeat' split
  all_goals decide
theorem joinT_len : ∀ (ts : List Int), (Q.joinT (ts.map Q.tokW)).length ≤ 5 * ts.length
  | [] => by simp [Q.joinT]
  | [t] => by
    have : (Q.tokW t).length ≤ 3 := tokW_len t
    simp [Q.joinT]; omega
  | t :: u :: r => by
    have h1 : (Q.tokW t).length ≤ 3 := tokW_len t
    have h2 := joinT_len (u :: r)
    simp only [List.map_cons, Q.joinT, List.length_append, List.length_cons, Q.comma] at h2 ⊢
    simp only [List.length_nil]
    omega
def tokS (t : Int) : Value := .string (bs (Q.tokW t))
theorem words_cell (w : World) {t : Int} (h1 : 1 ≤ t) (h7 : t ≤ 7) : (w.alloc (.cells wordsV 143)).cell? ⟨w.heap.size, t.toNat, none⟩ = some (tokS t) := by
  rw [World.cell?_alloc_at _ _ _ _ rfl]
  rcases (show t = 1 ∨ t = 2 ∨ t = 3 ∨ t = 4 ∨ t = 5 ∨ t = 6 ∨ t = 7 by omega) with rfl | rfl | rfl | rfl | rfl | rfl | rfl <;> rfl
theorem row_bytes (f : Int) (ts : List Int) (h : Q.Bt) (hh : Q.headT f = h) : bs (Q.endR (Q.rowT (f, ts))) = bs h ++ ⟨(Lib.join (ts.map Q.tokW) [44, 32]).toArray⟩ ++ (⟨#[10]⟩ : ByteArray) := by
  unfold Q.endR Q.rowT
  rw [joinT_lib, bs_append, bs_append, hh]
  rfl
/-- What is answered: the row with its end. -/
def SaidPost (w : World) (f : Int) (ts : List Int) (e : Ending) (w' : World) : Prop := e = .returned (.string (bs (Q.endR (Q.rowT (f, ts))))) ∧ Kp w w'
set_option maxRecDepth 100000 in
set_option maxHeartbeats 8000000 in
theorem said_0 (w : World) (ao : Option Addr) (n c : Nat) (ts : List Int) (hI : Is w ao n ts) (hn : n ≤ 10000) (hp : 0 < n) (ht : ∀ t ∈ ts, 1 ≤ t ∧ t ≤ 7) :
    Calls Tryz.prog 67 #[iv 0, .slice ao n c] w (SaidPost w 0 ts) := by
  have HI := Lib.hid hI
  have Ht := Lib.hid ht
  have Hlen := Lib.hid hI.1
  clear hI ht
  go_enter Tryz.func67, Tryz.ntmps67
  go_wp2_with fail
  (with_reducible refine (words_any w).mono ?_)
  rintro e w1 ⟨rfl, hk1⟩
  have hk2 := Kp.trans hk1 (Kp.new w1 (.cells wordsV 143))
  have hwc := Lib.hid (fun t h1 h7 => words_cell w1 (t := t) h1 h7)
  obtain ⟨b, hb⟩ : ∃ b, b = w1.heap.size := ⟨_, rfl⟩
  obtain ⟨w2, hw2⟩ : ∃ w2, w2 = w1.alloc (.cells wordsV 143) := ⟨_, rfl⟩
  rw [← hb, ← hw2] at hwc
  rw [← hw2] at hk2
  unfold wordsV at hw2 ⊢
  have Hb := Lib.hid hb
  have Hw2 := Lib.hid hw2
  clear hk1 hb hw2
  go_wp2_with fail
  rw [← Hb.out, ← Hw2.out]
  have Hk2 := Lib.hid hk2
  obtain ⟨B, hB⟩ : ∃ B, B = w2.heap.size := ⟨_, rfl⟩
  have HB := Lib.hid hB
  have hO0 : Own w2 B 9 1 none 0 0 ((ts.take 0).map tokS) := Own.nil _ _ _ _
  clear hk2 hB
  go_loopw [7, 15] (fun v i wr => ∃ (k : Nat) (ao' : Option Addr) (c' : Nat), k ≤ n ∧ i = .int .i64 (k : Nat) ∧ v = .slice ao' k c' ∧ Own wr B 9 1 ao' k c' ((ts.take k).map tokS) ∧ Kp w2 wr) (fun _ i _ => n - (intOf i).toNat)
  case atStart => exact ⟨0, none, 0, by omega, rfl, rfl, hO0, Kp.refl _⟩
  case round =>
    clear hO0
    obtain ⟨k, ao', c', hk, rfl, rfl, hO, hkr⟩ := hrel
    rename World => wr
    by_cases hlt : k < n
    · have hkl : k < ts.length := by rw [Hlen.out]; exact hlt
      obtain ⟨g, o, rfl, hcx⟩ := HI.out.at k hlt
      replace hcx := (Kp.trans Hk2.out hkr).cell (hcx.2 k hlt)
      have htk := Ht.out ts[k] (List.getElem_mem hkl)
      have hwd := hkr.cell (hwc.out ts[k] htk.1 htk.2)
      have hzs := take_step ts k hkl
      generalize ts[k] = t at *
      obtain ⟨j, rfl⟩ : ∃ j : Nat, t = (j : Int) := ⟨t.toNat, by omega⟩
      rw [Int.toNat_natCast] at hwd
      have hj : 1 ≤ j ∧ j ≤ 7 := by omega
      unfold tokS at hwd
      have hk7 := Kp.new wr (.cells #[.string (bs (Q.tokW (j : Int)))] 9)
      have hcs7 := Cs.new wr [.string (bs (Q.tokW (j : Int)))] 9 (0, 0)
      have HO7 := Lib.hid (hO.keep hk7)
      have Hk7 := Lib.hid (Kp.trans hkr hk7)
      have hs7 : B ≤ (wr.alloc (.cells #[.string (bs (Q.tokW (j : Int)))] 9)).heap.size := by rw [HB.out]; exact Hk7.out.size
      have hzz : (ts.take (k + 1)).map tokS = (ts.take k).map tokS ++ [.string (bs (Q.tokW (j : Int)))] := by rw [hzs, List.map_append]; rfl
      clear hk7 hO hkr htk hzs
      go_wp2_with (at_builtin; go_loud (refine wpList_app rfl (.tmp 19) (.tmp 23) 59 rfl el59 B rfl HO7.out rfl [.string (bs (Q.tokW (j : Int)))] rfl hcs7 (by simp [Value.oneCell']) (k + 1) rfl ((ts.take (k + 1)).map tokS) hzz (by omega) hs7 ?_); intro ao2 cap2 w8 ha)
      have hO8 := ha.own
      have hk8 : Kp w2 w8 := kp_step' Hk7.out ha.fr (fun x hx => by rw [← HB.out]; exact (HO7.out.lt x (mem_blkL.1 hx)).1)
      go_roundw
      case rel => exact ⟨k + 1, ao2, cap2, by omega, by go_num, rfl, hO8, hk8⟩
      case measure => simp [intOf]; omega
    · obtain rfl : k = n := by omega
      obtain ⟨g, rfl⟩ := hO.blockOf hp
      have hcp := hO.cap
      have hjl : (ts.map (fun t => bs (Q.tokW t))).length = k := by rw [List.length_map, Hlen.out]
      have hjd : (ts.map (fun t => bs (Q.tokW t))).map (·.data.toList) = ts.map Q.tokW := by rw [List.map_map]; exact List.map_congr_left (fun t _ => rfl)
      have hjn := joinT_len ts
      have HJ := Tryz.strings_Join g 0 c' (ts.map (fun t => bs (Q.tokW t))) (⟨#[44, 32]⟩ : ByteArray) wr (fun j x hx => by
        have hj : j < k := by rw [← hjl]; exact (List.getElem?_eq_some_iff.1 hx).1
        rw [Nat.zero_add, hO.cell j (by omega)]
        rw [List.getElem?_map] at hx ⊢
        rw [List.take_of_length_le (by rw [Hlen.out]; exact Nat.le_refl _)]
        cases hq : ts[j]? with
        | none => rw [hq] at hx; cases hx
        | some t => rw [hq] at hx; cases hx; rfl) ((hO.lt g rfl).2) (by rw [hjl]; omega) (by rw [hjl]; exact hcp) (by rw [hjd, show (⟨#[44, 32]⟩ : ByteArray).data.toList = [44, 32] from rfl, joinT_lib]; have := Hlen.out; omega)
      rw [hjl, hjd, show (⟨#[44, 32]⟩ : ByteArray).data.toList = [44, 32] from rfl] at HJ
      have HJ := Lib.hid HJ
      have hjs : (⟨(Lib.join (ts.map Q.tokW) [44, 32]).toArray⟩ : ByteArray).size ≤ 50000 := by rw [Lib.size_eq]; simp only; rw [joinT_lib]; have := Hlen.out; omega
      have hrow := row_bytes 0 ts [32, 32, 45, 62, 32] rfl
      obtain ⟨J, hJ⟩ : ∃ J : ByteArray, J = ⟨(Lib.join (ts.map Q.tokW) [44, 32]).toArray⟩ := ⟨_, rfl⟩
      rw [← hJ] at HJ hjs hrow
      have Hrow := Lib.hid hrow
      have Hkr := Lib.hid (Kp.trans Hk2.out hkr)
      have hjs2 : ((⟨#[32, 32, 45, 62, 32]⟩ : ByteArray) ++ J).size ≤ 50005 := by rw [ByteArray.size_append]; have : (⟨#[32, 32, 45, 62, 32]⟩ : ByteArray).size = 5 := rfl; omega
      clear hJ hjl hjd hjn hO hkr hcp hrow
      go_wp2_with fail
      (with_reducible refine HJ.out.mono ?_)
      rintro e w9 ⟨rfl, hk9⟩
      go_wp2_with fail
      go_ret
      exact ⟨by rw [Hrow.out]; rfl, Kp.trans Hkr.out hk9⟩
set_option maxRecDepth 100000 in
set_option maxHeartbeats 8000000 in
theorem said_1 (w : World) (ao : Option Addr) (n c : Nat) (ts : List Int) (hI : Is w ao n ts) (hn : n ≤ 10000) (hp : 0 < n) (ht : ∀ t ∈ ts, 1 ≤ t ∧ t ≤ 7) :
    Calls Tryz.prog 67 #[iv 1, .slice ao n c] w (SaidPost w 1 ts) := by
  have HI := Lib.hid hI
  have Ht := Lib.hid ht
  have Hlen := Lib.hid hI.1
  clear hI ht
  go_enter Tryz.func67, Tryz.ntmps67
  go_wp2_with fail
  (with_reducible refine (words_any w).mono ?_)
  rintro e w1 ⟨rfl, hk1⟩
  have hk2 := Kp.trans hk1 (Kp.new w1 (.cells wordsV 143))
  have hwc := Lib.hid (fun t h1 h7 => words_cell w1 (t := t) h1 h7)
  obtain ⟨b, hb⟩ : ∃ b, b = w1.heap.size := ⟨_, rfl⟩
  obtain ⟨w2, hw2⟩ : ∃ w2, w2 = w1.alloc (.cells wordsV 143) := ⟨_, rfl⟩
  rw [← hb, ← hw2] at hwc
  rw [← hw2] at hk2
  unfold wordsV at hw2 ⊢
  have Hb := Lib.hid hb
  have Hw2 := Lib.hid hw2
  clear hk1 hb hw2
  go_wp2_with fail
  rw [← Hb.out, ← Hw2.out]
  have Hk2 := Lib.hid hk2
  obtain ⟨B, hB⟩ : ∃ B, B = w2.heap.size := ⟨_, rfl⟩
  have HB := Lib.hid hB
  have hO0 : Own w2 B 9 1 none 0 0 ((ts.take 0).map tokS) := Own.nil _ _ _ _
  clear hk2 hB
  go_loopw [7, 15] (fun v i wr => ∃ (k : Nat) (ao' : Option Addr) (c' : Nat), k ≤ n ∧ i = .int .i64 (k : Nat) ∧ v = .slice ao' k c' ∧ Own wr B 9 1 ao' k c' ((ts.take k).map tokS) ∧ Kp w2 wr) (fun _ i _ => n - (intOf i).toNat)
  case atStart => exact ⟨0, none, 0, by omega, rfl, rfl, hO0, Kp.refl _⟩
  case round =>
    clear hO0
    obtain ⟨k, ao', c', hk, rfl, rfl, hO, hkr⟩ := hrel
    rename World => wr
    by_cases hlt : k < n
    · have hkl : k < ts.length := by rw [Hlen.out]; exact hlt
      obtain ⟨g, o, rfl, hcx⟩ := HI.out.at k hlt
      replace hcx := (Kp.trans Hk2.out hkr).cell (hcx.2 k hlt)
      have htk := Ht.out ts[k] (List.getElem_mem hkl)
      have hwd := hkr.cell (hwc.out ts[k] htk.1 htk.2)
      have hzs := take_step ts k hkl
      generalize ts[k] = t at *
      obtain ⟨j, rfl⟩ : ∃ j : Nat, t = (j : Int) := ⟨t.toNat, by omega⟩
      rw [Int.toNat_natCast] at hwd
      have hj : 1 ≤ j ∧ j ≤ 7 := by omega
      unfold tokS at hwd
      have hk7 := Kp.new wr (.cells #[.string (bs (Q.tokW (j : Int)))] 9)
      have hcs7 := Cs.new wr [.string (bs (Q.tokW (j : Int)))] 9 (0, 0)
      have HO7 := Lib.hid (hO.keep hk7)
      have Hk7 := Lib.hid (Kp.trans hkr hk7)
      have hs7 : B ≤ (wr.alloc (.cells #[.string (bs (Q.tokW (j : Int)))] 9)).heap.size := by rw [HB.out]; exact Hk7.out.size
      have hzz : (ts.take (k + 1)).map tokS = (ts.take k).map tokS ++ [.string (bs (Q.tokW (j : Int)))] := by rw [hzs, List.map_append]; rfl
      clear hk7 hO hkr htk hzs
      go_wp2_with (at_builtin; go_loud (refine wpList_app rfl (.tmp 19) (.tmp 23) 59 rfl el59 B rfl HO7.out rfl [.string (bs (Q.tokW (j : Int)))] rfl hcs7 (by simp [Value.oneCell']) (k + 1) rfl ((ts.take (k + 1)).map tokS) hzz (by omega) hs7 ?_); intro ao2 cap2 w8 ha)
      have hO8 := ha.own
      have hk8 : Kp w2 w8 := kp_step' Hk7.out ha.fr (fun x hx => by rw [← HB.out]; exact (HO7.out.lt x (mem_blkL.1 hx)).1)
      go_roundw
      case rel => exact ⟨k + 1, ao2, cap2, by omega, by go_num, rfl, hO8, hk8⟩
      case measure => simp [intOf]; omega
    · obtain rfl : k = n := by omega
      obtain ⟨g, rfl⟩ := hO.blockOf hp
      have hcp := hO.cap
      have hjl : (ts.map (fun t => bs (Q.tokW t))).length = k := by rw [List.length_map, Hlen.out]
      have hjd : (ts.map (fun t => bs (Q.tokW t))).map (·.data.toList) = ts.map Q.tokW := by rw [List.map_map]; exact List.map_congr_left (fun t _ => rfl)
      have hjn := joinT_len ts
      have HJ := Tryz.strings_Join g 0 c' (ts.map (fun t => bs (Q.tokW t))) (⟨#[44, 32]⟩ : ByteArray) wr (fun j x hx => by
        have hj : j < k := by rw [← hjl]; exact (List.getElem?_eq_some_iff.1 hx).1
        rw [Nat.zero_add, hO.cell j (by omega)]
        rw [List.getElem?_map] at hx ⊢
        rw [List.take_of_length_le (by rw [Hlen.out]; exact Nat.le_refl _)]
        cases hq : ts[j]? with
        | none => rw [hq] at hx; cases hx
        | some t => rw [hq] at hx; cases hx; rfl) ((hO.lt g rfl).2) (by rw [hjl]; omega) (by rw [hjl]; exact hcp) (by rw [hjd, show (⟨#[44, 32]⟩ : ByteArray).data.toList = [44, 32] from rfl, joinT_lib]; have := Hlen.out; omega)
      rw [hjl, hjd, show (⟨#[44, 32]⟩ : ByteArray).data.toList = [44, 32] from rfl] at HJ
      have HJ := Lib.hid HJ
      have hjs : (⟨(Lib.join (ts.map Q.tokW) [44, 32]).toArray⟩ : ByteArray).size ≤ 50000 := by rw [Lib.size_eq]; simp only; rw [joinT_lib]; have := Hlen.out; omega
      have hrow := row_bytes 1 ts [32, 32, 60, 45, 32] rfl
      obtain ⟨J, hJ⟩ : ∃ J : ByteArray, J = ⟨(Lib.join (ts.map Q.tokW) [44, 32]).toArray⟩ := ⟨_, rfl⟩
      rw [← hJ] at HJ hjs hrow
      have Hrow := Lib.hid hrow
      have Hkr := Lib.hid (Kp.trans Hk2.out hkr)
      have hjs2 : ((⟨#[32, 32, 60, 45, 32]⟩ : ByteArray) ++ J).size ≤ 50005 := by rw [ByteArray.size_append]; have : (⟨#[32, 32, 60, 45, 32]⟩ : ByteArray).size = 5 := rfl; omega
      clear hJ hjl hjd hjn hO hkr hcp hrow
      go_wp2_with fail
      (with_reducible refine HJ.out.mono ?_)
      rintro e w9 ⟨rfl, hk9⟩
      go_wp2_with fail
      go_ret
      exact ⟨by rw [Hrow.out]; rfl, Kp.trans Hkr.out hk9⟩
end Go.Proofs.YtkmejehhdjdlbaaGreatDoor

namespace Go.Proofs.YtkmejehhdjdlbaaGreatDoor
open Go.RowKit

/-- The text and the error's number. -/
def prt (nm : Q.Bt) (b0 b1 : List Int) (ls : List Ln) : Q.Bt × Nat :=
  if checkL b0 b1 ls ≠ 0 then ([], checkL b0 b1 ls) else if 4096 < nm.length ∨ Q.isName nm = false then ([], 8)
  else if 4096 < (Q.printT nm b0 b1 ls).length then ([], 8) else (Q.printT nm b0 b1 ls, 0)
def PrintPost (w : World) (E : Nat → Addr) (nm : Q.Bt) (b0 b1 : List Int) (ls : List Ln) (e : Ending) (w' : World) : Prop := e = .returned (.tuple #[.string (bs (prt nm b0 b1 ls).1), errV E (prt nm b0 b1 ls).2]) ∧ Kp w w'
theorem rowE_len (l : Ln) : (Q.endR (Q.rowT l)).length ≤ 6 + 5 * l.2.length := by
  have h1 := joinT_len l.2
  unfold Q.endR Q.rowT Q.headT
  split <;> simp [Q.inR, Q.outR] <;> omega
/-- What the sides' own rows come to when k of them have gone by. -/
def befT (b0 b1 : List Int) (k : Nat) : Q.Bt := (if k = 0 ∨ b0 = [] then [] else Q.endR (Q.rowT (0, b0))) ++ (if k ≤ 1 ∨ b1 = [] then [] else Q.endR (Q.rowT (1, b1)))
def befA (b0 b1 : List Int) (k : Nat) : Bool := (decide (k ≠ 0) && decide (b0 ≠ [])) || (decide (1 < k) && decide (b1 ≠ []))
def resT (b0 b1 : List Int) : Q.Bt := if b0 = [] ∧ b1 = [] then [] else Q.endR Q.restR
theorem befT_len {b0 b1 : List Int} {k : Nat} (h0 : b0.length ≤ 2) (h1 : b1.length ≤ 2) : (befT b0 b1 k).length ≤ 32 := by
  have e0 : (Q.endR (Q.rowT (0, b0))).length ≤ 6 + 5 * b0.length := rowE_len (0, b0)
  have e1 : (Q.endR (Q.rowT (1, b1))).length ≤ 6 + 5 * b1.length := rowE_len (1, b1)
  unfold befT
  rw [List.length_append]
  split <;> split <;> (try simp only [List.length_nil]) <;> omega
theorem printT_eq (nm : Q.Bt) (b0 b1 : List Int) (ls : List Ln) : Q.printT nm b0 b1 ls = nm ++ [58, 10] ++ befT b0 b1 2 ++ resT b0 b1 ++ (ls.map Q.rowT).flatMap Q.endR := by
  unfold Q.printT Q.rowsT befT resT
  rw [List.flatMap_append, List.flatMap_append, List.flatMap_append]
  by_cases h0 : b0 = [] <;> by_cases h1 : b1 = [] <;> simp [h0, h1]
theorem befA_two (b0 b1 : List Int) : befA b0 b1 2 = !decide (b0 = [] ∧ b1 = []) := by
  unfold befA
  by_cases h0 : b0 = [] <;> by_cases h1 : b1 = [] <;> simp [h0, h1]
theorem rows_len : ∀ (ls : List Ln), (∀ l ∈ ls, l.2.length ≤ 24) → ((ls.map Q.rowT).flatMap Q.endR).length ≤ 126 * ls.length
  | [], _ => by simp
  | l :: r, h => by
    have h1 := rows_len r (fun x hx => h x (by simp [hx]))
    have h2 := rowE_len l
    have h3 := h l (by simp)
    simp only [List.map_cons, List.flatMap_cons, List.length_append, List.length_cons]
    omega
theorem rows_step (ls : List Ln) (k : Nat) (h : k < ls.length) : ((ls.take (k + 1)).map Q.rowT).flatMap Q.endR = ((ls.take k).map Q.rowT).flatMap Q.endR ++ Q.endR (Q.rowT ls[k]) := by
  rw [take_step ls k h, List.map_append, List.flatMap_append]
  simp
theorem rowT_pair (l : Ln) : Q.rowT l = Q.rowT (l.1, l.2) := rfl
theorem resT_len (b0 b1 : List Int) : (resT b0 b1).length ≤ 6 := by
  unfold resT
  split <;> simp [Q.endR, Q.restR]
theorem okB_tok {b : List Int} (h : okB b = true) : ∀ t ∈ b, 1 ≤ t ∧ t ≤ 7 := by
  intro t ht
  rcases b with _ | ⟨x, _ | ⟨y, _ | ⟨z, r⟩⟩⟩
  · simp at ht
  all_goals simp [okB] at h ht
  · omega
  · omega
theorem bs_bef0 (N : Q.Bt) (b0 b1 : List Int) : bs (N ++ befT b0 b1 0) = bs N := by simp [befT]
theorem bs_bef1 (N : Q.Bt) (b0 b1 : List Int) (h : b0 ≠ []) : bs (N ++ befT b0 b1 1) = bs (N ++ befT b0 b1 0) ++ bs (Q.endR (Q.rowT (0, b0))) := by
  rw [← bs_append]; simp [befT, h]
theorem bs_bef1' (N : Q.Bt) (b0 b1 : List Int) (h : b0 = []) : bs (N ++ befT b0 b1 1) = bs (N ++ befT b0 b1 0) := by simp [befT, h]
theorem bs_bef2 (N : Q.Bt) (b0 b1 : List Int) (h : b1 ≠ []) : bs (N ++ befT b0 b1 2) = bs (N ++ befT b0 b1 1) ++ bs (Q.endR (Q.rowT (1, b1))) := by
  rw [← bs_append]; simp [befT, h]
theorem bs_bef2' (N : Q.Bt) (b0 b1 : List Int) (h : b1 = []) : bs (N ++ befT b0 b1 2) = bs (N ++ befT b0 b1 1) := by simp [befT, h]
def rowsK (ls : List Ln) (k : Nat) : Q.Bt := ((ls.take k).map Q.rowT).flatMap Q.endR
theorem bs_rows (N : Q.Bt) (ls : List Ln) (k : Nat) (h : k < ls.length) : bs (N ++ rowsK ls (k + 1)) = bs (N ++ rowsK ls k) ++ bs (Q.endR (Q.rowT (ls[k].1, ls[k].2))) := by
  unfold rowsK
  rw [← bs_append, rows_step ls k h, List.append_assoc]
theorem said_any (w : World) (f : Int) (hf : f = 0 ∨ f = 1) (ao : Option Addr) (n c : Nat) (ts : List Int) (hI : Is w ao n ts) (hn : n ≤ 10000) (hp : 0 < n) (ht : ∀ t ∈ ts, 1 ≤ t ∧ t ≤ 7) : Calls Tryz.prog 67 #[iv f, .slice ao n c] w (SaidPost w f ts) := by
  rcases hf with rfl | rfl
  · exact said_0 w ao n c ts hI hn hp ht
  · exact said_1 w ao n c ts hI hn hp ht
section
variable {w w' : World} {E : Nat → Addr} {nm : Q.Bt} {b0 b1 : List Int} {ls : List Ln}
theorem PrintPost.bad (h : checkL b0 b1 ls ≠ 0) (hk : Kp w w') : PrintPost w E nm b0 b1 ls (.returned (.tuple #[.string ⟨#[]⟩, .iface 229 (.pointer (some (E (checkL b0 b1 ls))))])) w' := by
  refine ⟨?_, hk⟩
  unfold prt
  rw [if_pos h]
  simp only
  rw [errV_ptr E h]
  rfl
theorem PrintPost.txt (h : checkL b0 b1 ls = 0) (hn : 4096 < nm.length ∨ Q.isName nm = false) (hk : Kp w w') : PrintPost w E nm b0 b1 ls (.returned (.tuple #[.string ⟨#[]⟩, .iface 229 (.pointer (some (E 8)))])) w' := by
  refine ⟨?_, hk⟩
  unfold prt
  rw [if_neg (fun q => q h), if_pos hn]
  simp only
  rw [errV_ptr E (by decide)]
  rfl
theorem PrintPost.long (h : checkL b0 b1 ls = 0) (hn : nm.length ≤ 4096) (hi : Q.isName nm = true) (hl : 4096 < (Q.printT nm b0 b1 ls).length) (hk : Kp w w') : PrintPost w E nm b0 b1 ls (.returned (.tuple #[.string ⟨#[]⟩, .iface 229 (.pointer (some (E 8)))])) w' := by
  refine ⟨?_, hk⟩
  unfold prt
  rw [if_neg (fun q => q h), if_neg (by rw [hi]; simp; omega), if_pos hl]
  simp only
  rw [errV_ptr E (by decide)]
  rfl
theorem PrintPost.fine (h : checkL b0 b1 ls = 0) (hn : nm.length ≤ 4096) (hi : Q.isName nm = true) (hl : (Q.printT nm b0 b1 ls).length ≤ 4096) (hk : Kp w w') : PrintPost w E nm b0 b1 ls (.returned (.tuple #[.string (bs (Q.printT nm b0 b1 ls)), .nilIface])) w' := by
  refine ⟨?_, hk⟩
  unfold prt
  rw [if_neg (fun q => q h), if_neg (by rw [hi]; simp; omega), if_neg (by omega)]
  simp only
  rw [errV_nil]
end
end Go.Proofs.YtkmejehhdjdlbaaGreatDoor

namespace Go.Proofs.YtkmejehhdjdlbaaGreatDoor
open Go.RowKit

set_option maxRecDepth 100000 in
set_option maxHeartbeats 8000000 in
theorem print_any (w : World) (E : Nat → Addr) (m : Int) (hE : Env w E m) (nm : ByteArray) (a0 a1 al : Option Addr) (n0 c0 n1 c1 nl cl : Nat) (b0 b1 : List Int) (ls : List Ln) (hP : PatI w a0 a1 al n0 n1 nl b0 b1 ls) (hs : nm.size ≤ 8000000) :
    Calls Tryz.prog 27 #[patV nm a0 a1 al n0 c0 n1 c1 nl cl] w (PrintPost w E nm.data.toList b0 b1 ls) := by
  have i0 : ∀ w, (Instr.index 23 (.agg #[.slice a0 n0 c0, .slice a1 n1 c1]) (.int .i64 0)).run Tryz.prog w = .ok (.slice a0 n0 c0) w := fun _ => by kernel_rfl
  have i1 : ∀ w, (Instr.index 23 (.agg #[.slice a0 n0 c0, .slice a1 n1 c1]) (.int .i64 1)).run Tryz.prog w = .ok (.slice a1 n1 c1) w := fun _ => by kernel_rfl
  have HPI := Lib.hid hP
  have HE := Lib.hid hE
  have Hsz := Lib.hid (Lib.size_eq nm)
  have hk1 := Kp.new w (.cells #[.string nm, .slice a0 n0 c0, .slice a1 n1 c1, .slice al nl cl] 26)
  have hF1 := Four.new w (.string nm) (.slice a0 n0 c0) (.slice a1 n1 c1) (.slice al nl cl) 26
  have HC := Lib.hid (check_any _ E (hk1.errs hE.errs) nm a0 a1 al n0 c0 n1 c1 nl cl b0 b1 ls (hk1.is hP.i0) (hk1.is hP.i1) (hk1.lns hP.il))
  clear hP hE
  obtain ⟨bx, hbx⟩ : ∃ bx, bx = w.heap.size := ⟨_, rfl⟩
  by_cases hc : checkL b0 b1 ls = 0
  · have Hc := Lib.hid hc
    have hcl := code0 hc
    rw [show errV E (checkL b0 b1 ls) = .nilIface by rw [hc]; rfl] at HC
    have HF1 := Lib.hid hF1
    have Hk1 := Lib.hid hk1
    obtain ⟨y0, y1, y2, y3, z0, z1, z2, z3⟩ := hF1
    clear hc hk1 z0 z1 z2 z3
    go_enter Tryz.func27, Tryz.ntmps27
    go_upto_region 2 with fail
    (with_reducible refine HC.out.mono ?_)
    rintro e w2 ⟨rfl, hk2⟩
    have Hk2 := Lib.hid (Kp.trans Hk1.out hk2)
    have hF2 := HF1.out.kp hk2
    rw [← hbx] at hF2 ⊢
    have HF2 := Lib.hid hF2
    clear y0 y1 y2 y3 hk2
    obtain ⟨y0, y1, y2, y3, z0, z1, z2, z3⟩ := hF2
    clear z0 z1 z2 z3 hbx
    by_cases hn : 4096 < nm.size
    · have Hn := Lib.hid hn
      go_upto_region 5 with fail
      refine anyP_start (fun w => w.cell? ⟨5, 0, none⟩ = some (.iface 229 (.pointer (some (E 8))))) 2 (fun _ => True) (fun _ _ => False) (by kernel_rfl) (fun _ _ _ _ h => h.elim) ?_
      obtain ⟨wd, hwd⟩ : ∃ wd, wd = w2.drew := ⟨_, rfl⟩
      have hkd : Kp w2 wd := hwd ▸ (⟨rfl, rfl, rfl, Nat.le_refl _, fun _ _ => rfl⟩ : Kp w2 w2.drew)
      rw [← hwd]
      clear hwd
      have hTd := (Kp.trans Hk2.out hkd).cell HE.out.c5
      have HKd := Lib.hid (Kp.trans Hk2.out hkd)
      clear hkd
      refine anyT_take puts_true [1] (by kernel_rfl) hTd ?_
      simp only [opsAt, List.getElem?_toArray, List.getElem?_cons_zero, List.getElem?_cons_succ]
      repeat (go_big_quiet_step (fail))
      refine wpQuiet_nil ?_
      refine anyT_load puts_true 0 26 (.iface 229 (.pointer (some (E 8)))) rfl rfl (by kernel_rfl) hTd (fun w h => exec_load32 h rfl rfl) ?_
      simp only [Act.put, List.setIfInBounds_toArray, List.set_cons_zero, List.set_cons_succ]
      refine anyP_one 2 (by kernel_rfl) ?_
      simp only [opsAt, List.getElem?_toArray, List.getElem?_cons_zero, List.getElem?_cons_succ]
      clear hTd
      go_wp2_with fail
      refine ⟨fun h => absurd rfl h, ?_⟩
      refine anyP_end (by kernel_rfl) ?_
      go_wp2_with fail
      show bodyPost Tryz.prog Tryz.f27 (PrintPost w E nm.data.toList b0 b1 ls) .ret _ _
      refine bodyPost_ret (v := .tuple #[.string ⟨#[]⟩, .iface 229 (.pointer (some (E 8)))]) (by simp [results, Tryz.results27, go_sem]) rfl ?_
      exact PrintPost.txt Hc.out (.inl (by rw [← Hsz.out]; exact Hn.out)) HKd.out
    · have HN := Lib.hid (named_any nm w2 (by omega))
      have Hnn := Lib.hid (show nm.data.toList.length ≤ 4096 by rw [← Hsz.out]; omega)
      cases hi : Q.isName nm.data.toList with
      | false =>
        rw [hi] at HN
        have Hi := Lib.hid hi
        clear hi
        go_upto_region 5 with fail
        (with_reducible refine HN.out.mono ?_)
        rintro e w3 ⟨rfl, rfl⟩
        go_upto_region 5 with fail
        refine anyP_start (fun w => w.cell? ⟨5, 0, none⟩ = some (.iface 229 (.pointer (some (E 8))))) 2 (fun _ => True) (fun _ _ => False) (by kernel_rfl) (fun _ _ _ _ h => h.elim) ?_
        obtain ⟨wd, hwd⟩ : ∃ wd, wd = w2.drew := ⟨_, rfl⟩
        have hkd : Kp w2 wd := hwd ▸ (⟨rfl, rfl, rfl, Nat.le_refl _, fun _ _ => rfl⟩ : Kp w2 w2.drew)
        rw [← hwd]
        clear hwd
        have hTd := (Kp.trans Hk2.out hkd).cell HE.out.c5
        have HKd := Lib.hid (Kp.trans Hk2.out hkd)
        clear hkd
        refine anyT_take puts_true [1] (by kernel_rfl) hTd ?_
        simp only [opsAt, List.getElem?_toArray, List.getElem?_cons_zero, List.getElem?_cons_succ]
        repeat (go_big_quiet_step (fail))
        refine wpQuiet_nil ?_
        refine anyT_load puts_true 0 26 (.iface 229 (.pointer (some (E 8)))) rfl rfl (by kernel_rfl) hTd (fun w h => exec_load32 h rfl rfl) ?_
        simp only [Act.put, List.setIfInBounds_toArray, List.set_cons_zero, List.set_cons_succ]
        refine anyP_one 2 (by kernel_rfl) ?_
        simp only [opsAt, List.getElem?_toArray, List.getElem?_cons_zero, List.getElem?_cons_succ]
        clear hTd
        go_wp2_with fail
        refine ⟨fun h => absurd rfl h, ?_⟩
        refine anyP_end (by kernel_rfl) ?_
        go_wp2_with fail
        show bodyPost Tryz.prog Tryz.f27 (PrintPost w E nm.data.toList b0 b1 ls) .ret _ _
        refine bodyPost_ret (v := .tuple #[.string ⟨#[]⟩, .iface 229 (.pointer (some (E 8)))]) (by simp [results, Tryz.results27, go_sem]) rfl ?_
        exact PrintPost.txt Hc.out (.inr Hi.out) HKd.out
      | true =>
        rw [hi] at HN
        have Hi := Lib.hid hi
        clear hi
        go_upto_region 5 with fail
        (with_reducible refine HN.out.mono ?_)
        rintro e w3 ⟨rfl, rfl⟩
        go_upto_region 9 with fail
        have hl0 := okB_len hcl.1
        have hl1 := okB_len hcl.2.1
        have ht0 := Lib.hid (okB_tok hcl.1)
        have ht1 := Lib.hid (okB_tok hcl.2.1)
        have Hls := Lib.hid hcl.2.2.2
        have hg0 := HPI.out.i0.1
        have hg1 := HPI.out.i1.1
        obtain ⟨N, hN⟩ : ∃ N, N = nm.data.toList ++ [58, 10] := ⟨_, rfl⟩
        have hNl : N.length ≤ 4098 := by rw [hN, List.length_append]; have := Hnn.out; simp; omega
        have hs0 : nm ++ (⟨#[58, 10]⟩ : ByteArray) = bs (N ++ befT b0 b1 0) := by rw [bs_bef0, hN, bs_append, bs_data]; rfl
        have hbl := fun k => befT_len (k := k) hl0 hl1
        have Hlen := Lib.hid (show ∀ k, (bs (N ++ befT b0 b1 k)).size ≤ 4130 from fun k => by rw [bs_size, List.length_append]; have := hbl k; omega)
        have HN2 := Lib.hid hN
        have Hg0 := Lib.hid hg0
        have Hg1 := Lib.hid hg1
        rw [hs0]
        clear hN hcl hbl hs0
        go_loopw [5, 6, 32] (fun s a i wr => ∃ k : Nat, k ≤ 2 ∧ i = .int .i64 (k : Nat) ∧ s = .string (bs (N ++ befT b0 b1 k)) ∧ a = .bool (befA b0 b1 k) ∧ Kp w2 wr) (fun _ _ i _ => 2 - (intOf i).toNat)
        case atStart => exact ⟨0, by omega, rfl, rfl, rfl, Kp.refl _⟩
        case round =>
          obtain ⟨k, hk, rfl, rfl, rfl, hkr⟩ := hrel
          rename World => wr
          obtain h | h | h : k = 0 ∨ k = 1 ∨ k = 2 := by omega
          · subst h
            rw [show ((0 : Nat) : Int) = 0 from rfl]
            by_cases hz : b0 = []
            · have hz0 : n0 = 0 := by rw [← Hg0.out, hz]; rfl
              subst hz0
              have HB := Lib.hid (bs_bef1' N b0 b1 hz)
              have HA := Lib.hid (show befA b0 b1 1 = befA b0 b1 0 by simp [befA, hz])
              clear hz
              go_wp2_with fail
              go_roundw
              case rel => exact ⟨1, by omega, rfl, by rw [HB.out], by rw [HA.out], hkr⟩
              case measure => simp [intOf]
            · have hz0 : 0 < n0 := by rw [← Hg0.out]; exact List.length_pos_iff.2 hz
              have HB := Lib.hid (bs_bef1 N b0 b1 hz)
              have HA := Lib.hid (show befA b0 b1 1 = true by simp [befA, hz])
              have HSd := Lib.hid (said_0 wr a0 n0 c0 b0 ((Kp.trans Hk2.out hkr).is HPI.out.i0) (by omega) hz0 ht0.out)
              have hz1 := Hlen.out 0
              have hz2 : (bs (Q.endR (Q.rowT (0, b0)))).size ≤ 16 := by rw [bs_size]; have : (Q.endR (Q.rowT (0, b0))).length ≤ 6 + 5 * b0.length := rowE_len (0, b0); omega
              clear hz
              go_wp2_with fail
              (with_reducible refine HSd.out.mono ?_)
              rintro e w4 ⟨rfl, hk4⟩
              go_wp2_with fail
              go_roundw
              case rel => exact ⟨1, by omega, rfl, by rw [HB.out], by rw [HA.out], Kp.trans hkr hk4⟩
              case measure => simp [intOf]
          · subst h
            rw [show ((1 : Nat) : Int) = 1 from rfl]
            by_cases hz : b1 = []
            · have hz0 : n1 = 0 := by rw [← Hg1.out, hz]; rfl
              subst hz0
              have HB := Lib.hid (bs_bef2' N b0 b1 hz)
              have HA := Lib.hid (show befA b0 b1 2 = befA b0 b1 1 by simp [befA, hz])
              clear hz
              go_wp2_with fail
              go_roundw
              case rel => exact ⟨2, by omega, rfl, by rw [HB.out], by rw [HA.out], hkr⟩
              case measure => simp [intOf]
            · have hz0 : 0 < n1 := by rw [← Hg1.out]; exact List.length_pos_iff.2 hz
              have HB := Lib.hid (bs_bef2 N b0 b1 hz)
              have HA := Lib.hid (show befA b0 b1 2 = true by simp [befA, hz])
              have HSd := Lib.hid (said_1 wr a1 n1 c1 b1 ((Kp.trans Hk2.out hkr).is HPI.out.i1) (by omega) hz0 ht1.out)
              have hz1 := Hlen.out 1
              have hz2 : (bs (Q.endR (Q.rowT (1, b1)))).size ≤ 16 := by rw [bs_size]; have : (Q.endR (Q.rowT (1, b1))).length ≤ 6 + 5 * b1.length := rowE_len (1, b1); omega
              clear hz
              go_wp2_with fail
              (with_reducible refine HSd.out.mono ?_)
              rintro e w4 ⟨rfl, hk4⟩
              go_wp2_with fail
              go_roundw
              case rel => exact ⟨2, by omega, rfl, by rw [HB.out], by rw [HA.out], Kp.trans hkr hk4⟩
              case measure => simp [intOf]
          · subst h
            rw [show ((2 : Nat) : Int) = 2 from rfl]
            by_cases hz : b0 = [] ∧ b1 = []
            · skip
              have hres : resT b0 b1 = [] := by unfold resT; rw [if_pos hz]
              have hAA : befA b0 b1 2 = false := by rw [befA_two]; simp [hz]
              have HR := Lib.hid (show bs (N ++ befT b0 b1 2) = bs (N ++ befT b0 b1 2 ++ resT b0 b1) by rw [hres, List.append_nil])
              rw [hAA]
              clear hres hAA hz
              have hF5 := HF2.out.kp hkr
              obtain ⟨y0', y1', y2', y3', _, _, _, _⟩ := hF5
              have HK5 := Lib.hid (Kp.trans Hk2.out hkr)
              have hrl := resT_len b0 b1
              have Hln2 := Lib.hid (Hls.out)
              obtain ⟨M, hM⟩ : ∃ M, M = N ++ befT b0 b1 2 ++ resT b0 b1 := ⟨_, rfl⟩
              have hMl : M.length ≤ 4136 := by have := Hlen.out 2; rw [bs_size] at this; rw [hM, List.length_append]; omega
              have HMe := Lib.hid hM
              rw [← hM] at HR
              clear hM hkr hrl
              go_wp2_with fail
              rw [HR.out]
              have hnl := HPI.out.il.1
              have hrlen := rows_len ls (fun l hl => (Hls.out.2 l hl).2.2.1)
              have Hrl := Lib.hid (show ∀ k, (bs (M ++ rowsK ls k)).size ≤ 8000 from fun k => by
                unfold rowsK
                rw [bs_size, List.length_append]
                have h1 := rows_len (ls.take k) (fun l hl => (Hls.out.2 l (List.mem_of_mem_take hl)).2.2.1)
                have h2 : (ls.take k).length ≤ 24 := by rw [List.length_take]; have := Hls.out.1; omega
                omega)
              have hb0 : bs M = bs (M ++ rowsK ls 0) := by simp [rowsK]
              rw [hb0]
              clear hb0 hrlen hMl
              have Hnl := Lib.hid hnl
              have hnl24 : nl ≤ 24 := by rw [← hnl]; exact Hls.out.1
              clear hnl
              go_loopw [5, 51] (fun s i wv => ∃ k : Nat, k ≤ nl ∧ i = .int .i64 (k : Nat) ∧ s = .string (bs (M ++ rowsK ls k)) ∧ Kp wr wv) (fun _ i _ => nl - (intOf i).toNat)
              case atStart => exact ⟨0, by omega, rfl, rfl, Kp.refl _⟩
              case round =>
                clear y0' y1' y2' y3'
                obtain ⟨k, hk, rfl, rfl, hkv⟩ := hrel
                rename World => wv
                by_cases hlt : k < nl
                · have hkl : k < ls.length := by rw [Hnl.out]; exact hlt
                  obtain ⟨bq, off, tp, tn, tc, rfl, hd1, hd2, hI, htn⟩ := HPI.out.il.2.2 k hkl
                  have HKv := Lib.hid (Kp.trans HK5.out hkv)
                  replace hd1 := HKv.out.cell hd1
                  replace hd2 := HKv.out.cell hd2
                  have hlk := Hls.out.2 ls[k] (List.getElem_mem hkl)
                  have Hrow := Lib.hid (bs_rows M ls k hkl)
                  have hrz : (bs (Q.endR (Q.rowT (ls[k].1, ls[k].2)))).size ≤ 130 := by rw [bs_size]; have : (Q.endR (Q.rowT (ls[k].1, ls[k].2))).length ≤ 6 + 5 * ls[k].2.length := rowE_len ls[k]; omega
                  have hsz := Hrl.out k
                  generalize ls[k] = l at *
                  obtain ⟨f, xs⟩ := l
                  simp only at hd1 hd2 hI htn hlk hrz
                  have hk6 := Kp.new wv (.cells #[iv f, .slice tp tn tc] 73)
                  have hxn : 0 < tn := by rw [← hI.1]; exact List.length_pos_iff.2 hlk.2.1
                  have HSd := Lib.hid (said_any (wv.alloc (.cells #[iv f, .slice tp tn tc] 73)) f hlk.1 tp tn tc xs ((Kp.trans HKv.out hk6).is hI) (by rw [← hI.1]; have := hlk.2.2.1; omega) hxn hlk.2.2.2)
                  have HK6 := Lib.hid (Kp.trans hkv hk6)
                  clear hI hlk hkv hk6
                  go_wp2_with fail
                  (with_reducible refine HSd.out.mono ?_)
                  rintro e w6 ⟨rfl, hk7⟩
                  go_wp2_with fail
                  go_roundw
                  case rel => exact ⟨k + 1, by omega, by go_num, by rw [Hrow.out], Kp.trans HK6.out hk7⟩
                  case measure => simp [intOf]; omega
                · obtain rfl : k = nl := by omega
                  have HK6 := Lib.hid (Kp.trans HK5.out hkv)
                  have hpt : Q.printT nm.data.toList b0 b1 ls = M ++ rowsK ls k := by
                    unfold rowsK
                    rw [printT_eq, ← HN2.out, ← HMe.out, List.take_of_length_le (by rw [Hnl.out]; exact Nat.le_refl _)]
                  rw [← hpt]
                  by_cases hlg : 4096 < (bs (Q.printT nm.data.toList b0 b1 ls)).size
                  · have Hlg := Lib.hid (show 4096 < (Q.printT nm.data.toList b0 b1 ls).length by rw [← bs_size]; exact hlg)
                    clear hpt hkv
                    go_upto_region 23 with fail
                    refine anyP_start (fun w => w.cell? ⟨5, 0, none⟩ = some (.iface 229 (.pointer (some (E 8))))) 2 (fun _ => True) (fun _ _ => False) (by kernel_rfl) (fun _ _ _ _ h => h.elim) ?_
                    obtain ⟨wd, hwd⟩ : ∃ wd, wd = wv.drew := ⟨_, rfl⟩
                    have hkd : Kp wv wd := hwd ▸ (⟨rfl, rfl, rfl, Nat.le_refl _, fun _ _ => rfl⟩ : Kp wv wv.drew)
                    rw [← hwd]
                    clear hwd
                    have hTd := (Kp.trans HK6.out hkd).cell HE.out.c5
                    have HKd := Lib.hid (Kp.trans HK6.out hkd)
                    clear hkd
                    refine anyT_take puts_true [1] (by kernel_rfl) hTd ?_
                    simp only [opsAt, List.getElem?_toArray, List.getElem?_cons_zero, List.getElem?_cons_succ]
                    repeat (go_big_quiet_step (fail))
                    refine wpQuiet_nil ?_
                    refine anyT_load puts_true 0 66 (.iface 229 (.pointer (some (E 8)))) rfl rfl (by kernel_rfl) hTd (fun w h => exec_load32 h rfl rfl) ?_
                    simp only [Act.put, List.setIfInBounds_toArray, List.set_cons_zero, List.set_cons_succ]
                    refine anyP_one 2 (by kernel_rfl) ?_
                    simp only [opsAt, List.getElem?_toArray, List.getElem?_cons_zero, List.getElem?_cons_succ]
                    clear hTd
                    go_wp2_with fail
                    refine ⟨fun h => absurd rfl h, ?_⟩
                    refine anyP_end (by kernel_rfl) ?_
                    go_wp2_with fail
                    show bodyPost Tryz.prog Tryz.f27 (PrintPost w E nm.data.toList b0 b1 ls) .ret _ _
                    refine bodyPost_ret (v := .tuple #[.string ⟨#[]⟩, .iface 229 (.pointer (some (E 8)))]) (by simp [results, Tryz.results27, go_sem]) rfl ?_
                    exact PrintPost.long Hc.out Hnn.out Hi.out Hlg.out HKd.out
                  · have Hlg := Lib.hid (show (Q.printT nm.data.toList b0 b1 ls).length ≤ 4096 by rw [← bs_size]; omega)
                    clear hpt hkv
                    go_wp2_with fail
                    show bodyPost Tryz.prog Tryz.f27 (PrintPost w E nm.data.toList b0 b1 ls) .ret _ _
                    refine bodyPost_ret (v := .tuple #[.string (bs (Q.printT nm.data.toList b0 b1 ls)), .nilIface]) (by simp [results, Tryz.results27, go_sem]) rfl ?_
                    exact PrintPost.fine Hc.out Hnn.out Hi.out Hlg.out HK6.out
            · skip
              have hres : resT b0 b1 = [32, 32, 46, 46, 46, 10] := by unfold resT; rw [if_neg hz]; rfl
              have hAA : befA b0 b1 2 = true := by rw [befA_two]; simp [hz]
              have HR := Lib.hid (show bs (N ++ befT b0 b1 2) ++ (⟨#[32, 32, 46, 46, 46, 10]⟩ : ByteArray) = bs (N ++ befT b0 b1 2 ++ resT b0 b1) by rw [hres, bs_append (N ++ befT b0 b1 2)]; rfl)
              have hz1 := Hlen.out 2
              rw [hAA]
              clear hres hAA hz
              have hF5 := HF2.out.kp hkr
              obtain ⟨y0', y1', y2', y3', _, _, _, _⟩ := hF5
              have HK5 := Lib.hid (Kp.trans Hk2.out hkr)
              have hrl := resT_len b0 b1
              have Hln2 := Lib.hid (Hls.out)
              obtain ⟨M, hM⟩ : ∃ M, M = N ++ befT b0 b1 2 ++ resT b0 b1 := ⟨_, rfl⟩
              have hMl : M.length ≤ 4136 := by have := Hlen.out 2; rw [bs_size] at this; rw [hM, List.length_append]; omega
              have HMe := Lib.hid hM
              rw [← hM] at HR
              clear hM hkr hrl
              go_wp2_with fail
              rw [HR.out]
              have hnl := HPI.out.il.1
              have hrlen := rows_len ls (fun l hl => (Hls.out.2 l hl).2.2.1)
              have Hrl := Lib.hid (show ∀ k, (bs (M ++ rowsK ls k)).size ≤ 8000 from fun k => by
                unfold rowsK
                rw [bs_size, List.length_append]
                have h1 := rows_len (ls.take k) (fun l hl => (Hls.out.2 l (List.mem_of_mem_take hl)).2.2.1)
                have h2 : (ls.take k).length ≤ 24 := by rw [List.length_take]; have := Hls.out.1; omega
                omega)
              have hb0 : bs M = bs (M ++ rowsK ls 0) := by simp [rowsK]
              rw [hb0]
              clear hb0 hrlen hMl
              have Hnl := Lib.hid hnl
              have hnl24 : nl ≤ 24 := by rw [← hnl]; exact Hls.out.1
              clear hnl
              go_loopw [5, 51] (fun s i wv => ∃ k : Nat, k ≤ nl ∧ i = .int .i64 (k : Nat) ∧ s = .string (bs (M ++ rowsK ls k)) ∧ Kp wr wv) (fun _ i _ => nl - (intOf i).toNat)
              case atStart => exact ⟨0, by omega, rfl, rfl, Kp.refl _⟩
              case round =>
                clear y0' y1' y2' y3'
                obtain ⟨k, hk, rfl, rfl, hkv⟩ := hrel
                rename World => wv
                by_cases hlt : k < nl
                · have hkl : k < ls.length := by rw [Hnl.out]; exact hlt
                  obtain ⟨bq, off, tp, tn, tc, rfl, hd1, hd2, hI, htn⟩ := HPI.out.il.2.2 k hkl
                  have HKv := Lib.hid (Kp.trans HK5.out hkv)
                  replace hd1 := HKv.out.cell hd1
                  replace hd2 := HKv.out.cell hd2
                  have hlk := Hls.out.2 ls[k] (List.getElem_mem hkl)
                  have Hrow := Lib.hid (bs_rows M ls k hkl)
                  have hrz : (bs (Q.endR (Q.rowT (ls[k].1, ls[k].2)))).size ≤ 130 := by rw [bs_size]; have : (Q.endR (Q.rowT (ls[k].1, ls[k].2))).length ≤ 6 + 5 * ls[k].2.length := rowE_len ls[k]; omega
                  have hsz := Hrl.out k
                  generalize ls[k] = l at *
                  obtain ⟨f, xs⟩ := l
                  simp only at hd1 hd2 hI htn hlk hrz
                  have hk6 := Kp.new wv (.cells #[iv f, .slice tp tn tc] 73)
                  have hxn : 0 < tn := by rw [← hI.1]; exact List.length_pos_iff.2 hlk.2.1
                  have HSd := Lib.hid (said_any (wv.alloc (.cells #[iv f, .slice tp tn tc] 73)) f hlk.1 tp tn tc xs ((Kp.trans HKv.out hk6).is hI) (by rw [← hI.1]; have := hlk.2.2.1; omega) hxn hlk.2.2.2)
                  have HK6 := Lib.hid (Kp.trans hkv hk6)
                  clear hI hlk hkv hk6
                  go_wp2_with fail
                  (with_reducible refine HSd.out.mono ?_)
                  rintro e w6 ⟨rfl, hk7⟩
                  go_wp2_with fail
                  go_roundw
                  case rel => exact ⟨k + 1, by omega, by go_num, by rw [Hrow.out], Kp.trans HK6.out hk7⟩
                  case measure => simp [intOf]; omega
                · obtain rfl : k = nl := by omega
                  have HK6 := Lib.hid (Kp.trans HK5.out hkv)
                  have hpt : Q.printT nm.data.toList b0 b1 ls = M ++ rowsK ls k := by
                    unfold rowsK
                    rw [printT_eq, ← HN2.out, ← HMe.out, List.take_of_length_le (by rw [Hnl.out]; exact Nat.le_refl _)]
                  rw [← hpt]
                  by_cases hlg : 4096 < (bs (Q.printT nm.data.toList b0 b1 ls)).size
                  · have Hlg := Lib.hid (show 4096 < (Q.printT nm.data.toList b0 b1 ls).length by rw [← bs_size]; exact hlg)
                    clear hpt hkv
                    go_upto_region 23 with fail
                    refine anyP_start (fun w => w.cell? ⟨5, 0, none⟩ = some (.iface 229 (.pointer (some (E 8))))) 2 (fun _ => True) (fun _ _ => False) (by kernel_rfl) (fun _ _ _ _ h => h.elim) ?_
                    obtain ⟨wd, hwd⟩ : ∃ wd, wd = wv.drew := ⟨_, rfl⟩
                    have hkd : Kp wv wd := hwd ▸ (⟨rfl, rfl, rfl, Nat.le_refl _, fun _ _ => rfl⟩ : Kp wv wv.drew)
                    rw [← hwd]
                    clear hwd
                    have hTd := (Kp.trans HK6.out hkd).cell HE.out.c5
                    have HKd := Lib.hid (Kp.trans HK6.out hkd)
                    clear hkd
                    refine anyT_take puts_true [1] (by kernel_rfl) hTd ?_
                    simp only [opsAt, List.getElem?_toArray, List.getElem?_cons_zero, List.getElem?_cons_succ]
                    repeat (go_big_quiet_step (fail))
                    refine wpQuiet_nil ?_
                    refine anyT_load puts_true 0 66 (.iface 229 (.pointer (some (E 8)))) rfl rfl (by kernel_rfl) hTd (fun w h => exec_load32 h rfl rfl) ?_
                    simp only [Act.put, List.setIfInBounds_toArray, List.set_cons_zero, List.set_cons_succ]
                    refine anyP_one 2 (by kernel_rfl) ?_
                    simp only [opsAt, List.getElem?_toArray, List.getElem?_cons_zero, List.getElem?_cons_succ]
                    clear hTd
                    go_wp2_with fail
                    refine ⟨fun h => absurd rfl h, ?_⟩
                    refine anyP_end (by kernel_rfl) ?_
                    go_wp2_with fail
                    show bodyPost Tryz.prog Tryz.f27 (PrintPost w E nm.data.toList b0 b1 ls) .ret _ _
                    refine bodyPost_ret (v := .tuple #[.string ⟨#[]⟩, .iface 229 (.pointer (some (E 8)))]) (by simp [results, Tryz.results27, go_sem]) rfl ?_
                    exact PrintPost.long Hc.out Hnn.out Hi.out Hlg.out HKd.out
                  · have Hlg := Lib.hid (show (Q.printT nm.data.toList b0 b1 ls).length ≤ 4096 by rw [← bs_size]; omega)
                    clear hpt hkv
                    go_wp2_with fail
                    show bodyPost Tryz.prog Tryz.f27 (PrintPost w E nm.data.toList b0 b1 ls) .ret _ _
                    refine bodyPost_ret (v := .tuple #[.string (bs (Q.printT nm.data.toList b0 b1 ls)), .nilIface]) (by simp [results, Tryz.results27, go_sem]) rfl ?_
                    exact PrintPost.fine Hc.out Hnn.out Hi.out Hlg.out HK6.out
  · have Hc := Lib.hid hc
    have HEe := Lib.hid (errV_ptr E hc)
    rw [HEe.out] at HC
    have Hk1 := Lib.hid hk1
    obtain ⟨y0, y1, y2, y3, z0, z1, z2, z3⟩ := hF1
    clear hc hbx hk1
    go_enter Tryz.func27, Tryz.ntmps27
    go_upto_region 2 with fail
    (with_reducible refine HC.out.mono ?_)
    rintro e w2 ⟨rfl, hk2⟩
    have Hk2 := Lib.hid (Kp.trans Hk1.out hk2)
    clear hk2 y0 y1 y2 y3 z0 z1 z2 z3
    go_wp2_with fail
    show bodyPost Tryz.prog Tryz.f27 (PrintPost w E nm.data.toList b0 b1 ls) .ret _ _
    refine bodyPost_ret (v := .tuple #[.string ⟨#[]⟩, .iface 229 (.pointer (some (E (checkL b0 b1 ls))))]) (by simp [results, Tryz.results27, go_sem]) rfl ?_
    exact PrintPost.bad Hc.out Hk2.out
end Go.Proofs.YtkmejehhdjdlbaaGreatDoor

namespace Go.Proofs.YtkmejehhdjdlbaaGreatDoor
open Go.RowKit

def nnB : Q.Bt := [78, 78]
def nnL : List Ln := [(0, [1]), (1, [1, 3])]
def nnT : Q.Bt := [78, 78, 58, 10, 32, 32, 45, 62, 32, 101, 10, 32, 32, 60, 45, 32, 101, 44, 32, 101, 101, 10]
def psk0 : Q.Bt := [112, 115, 107, 48]
theorem nn_row : (rowOf nnB).map (fun y => (y.1, y.2.1, y.2.2.1)) = some (nnB, ([], []), nnL) := by kernel_rfl
theorem nn_none : rowOf [78, 78, 49] = none := by kernel_rfl
theorem nn_read : Q.readP nnT = some (nnB, ⟨[], [], nnL, false⟩) := by kernel_rfl
theorem nn_check : checkL [] [] nnL = 0 := by kernel_rfl
theorem nn_print : prt nnB [] [] nnL = (nnT, 0) := by kernel_rfl
theorem zero_check : checkL [] [] [] = 9 := by kernel_rfl
def nnQ : Q.Pn := ⟨[78, 78, 112, 115, 107, 48], [], [], [(0, [7, 1]), (1, [1, 3])]⟩
theorem nn_mod : Q.modP srtI ⟨nnB, [], [], nnL⟩ [psk0] = (some nnQ, 0) := by kernel_rfl
theorem nnQ_check : checkL nnQ.b0 nnQ.b1 nnQ.ls = 0 := by kernel_rfl
end Go.Proofs.YtkmejehhdjdlbaaGreatDoor

namespace Go.Proofs.YtkmejehhdjdlbaaGreatDoor
open Go.RowKit

set_option maxHeartbeats 4000000 in
theorem all_fn (w : World) : Calls Tryz.prog 35 #[] w fun e w' => e = .returned (.func (.func 78) #[] #[]) ∧ w = w' := by
  go_enter Tryz.func35, Tryz.ntmps35
  go_wp2_with fail
  go_ret
  exact ⟨rfl, rfl⟩
set_option maxHeartbeats 4000000 in
theorem known1_any (v : World) (bc k : Nat) (hk : k < 5) (s : ByteArray) (a0 a1 al : Option Addr) (n0 c0 n1 c1 nl cl : Nat) (h : One1 v bc (iv k)) :
    Calls Tryz.prog 55 #[patV s a0 a1 al n0 c0 n1 c1 nl cl, .pointer (some ⟨bc, 0, none⟩)] v fun e v' => e = .returned (.bool (decide (k + 1 < 5))) ∧ Fr [bc] v v' ∧ One1 v' bc (iv ((k + 1 : Nat) : Int)) := by
  have hk1 := Kp.new v (.cells #[.string s, .slice a0 n0 c0, .slice a1 n1 c1, .slice al nl cl] 26)
  have h1 := h.kp hk1
  have hset := ((Fr.of_kp hk1).mono (Y := [bc]) (by simp)).trans (Fr.set (v.alloc (.cells #[.string s, .slice a0 n0 c0, .slice a1 n1 c1, .slice al nl cl] 26)) ⟨bc, 0, none⟩ (iv ((k + 1 : Nat) : Int)))
  have h2 := h1.set (iv ((k + 1 : Nat) : Int))
  have Hset := Lib.hid hset
  have H2 := Lib.hid h2
  obtain ⟨y0, z0⟩ := h1
  clear h hset h2 hk1
  rcases (show k = 0 ∨ k = 1 ∨ k = 2 ∨ k = 3 ∨ k = 4 by omega) with rfl | rfl | rfl | rfl | rfl
  all_goals
    go_enter Tryz.func55, Tryz.ntmps55
    go_wp2_with fail
    go_ret
    exact ⟨rfl, Hset.out, H2.out⟩
attribute [local irreducible] tblK tblP tblQ Q.piecesB Q.tableB Q.tableL rowOf namesS
/-- Five of the table are taken. -/
theorem five_any (w0 w : World) (E : Nat → Addr) (m : Int) (hE : Env w0 E m) (hk : Kp w0 w) (bc : Nat) (hb : w0.heap.size ≤ bc) (hbw : bc < w.heap.size) (h : One1 w bc (iv 0)) :
    Calls Tryz.prog 78 #[.func (.func 55) #[] #[.pointer (some ⟨bc, 0, none⟩)]] w fun e w' => e = .returned (.tuple #[]) ∧ One1 w' bc (iv 5) ∧ Fr [bc] w w' :=
  all_iter 55 #[.pointer (some ⟨bc, 0, none⟩)] (enters_of Tryz.func55 (by kernel_rfl) rfl) w m E (E 8) [bc] (fun k v => k < 5 ∧ One1 v bc (iv (k : Nat)) ∧ Fr [bc] w v) (fun v => One1 v bc (iv 5) ∧ Fr [bc] w v) (by simpa using hbw)
    (fun k v v' hi hk => ⟨hi.1, hi.2.1.kp hk, hi.2.2.trans ((Fr.of_kp hk).mono (Y := [bc]) (by simp))⟩)
    (fun k v hi => by
      have hv := hE.keep (kp_step' hk hi.2.2 (fun x hx => by simp at hx; omega))
      exact ⟨hv.mx, hv.errs, hv.c5⟩)
    ⟨by omega, h, Fr.refl _ _⟩
    (fun k v y t0 t1 tl ts hkl hr hy hi hP => (known1_any v bc k hi.1 (bs y.1) t0.ao t1.ao tl.ao t0.n t0.c t1.n t1.c tl.n tl.c hi.2.1).mono (fun e v' he => by
      obtain ⟨rfl, hf, ho⟩ := he
      refine ⟨_, rfl, hf, fun hb => ⟨by simpa using hb, ho, hi.2.2.trans hf⟩, fun hb => ⟨?_, hi.2.2.trans hf⟩⟩
      have hk5 : k + 1 = 5 := by
        have h1 := hi.1
        simp at hb
        omega
      rw [hk5] at ho
      exact ho))
    (fun v hi => absurd hi.1 (by rw [namesS_length, tableL_len]; decide))
end Go.Proofs.YtkmejehhdjdlbaaGreatDoor

namespace Go.Proofs.YtkmejehhdjdlbaaGreatDoor
open Go.RowKit

def q2L : List Ln := [(0, [7, 1]), (1, [1, 3])]
abbrev sNN : ByteArray := ⟨#[78, 78]⟩
abbrev sTx : ByteArray := ⟨#[78, 78, 58, 10, 32, 32, 45, 62, 32, 101, 10, 32, 32, 60, 45, 32, 101, 44, 32, 101, 101, 10]⟩
abbrev sPs : ByteArray := ⟨#[112, 115, 107, 48]⟩
abbrev sQ : ByteArray := ⟨#[78, 78, 112, 115, 107, 48]⟩
variable {E : Nat → Addr} {m : Int}
theorem nnL_small : ∀ l ∈ nnL, l.2.length ≤ 2000 := by decide
theorem PatO.patI {w : World} {B : Nat} {t0 t1 tl : Tv} {ts : List Tv} {b0 b1 : List Int} {ls : List Ln} (h : PatO w B t0 t1 tl ts b0 b1 ls) (hn : ls.length ≤ 5000) (ht : ∀ l ∈ ls, l.2.length ≤ 5000) : PatI w t0.ao t1.ao tl.ao t0.n t1.n tl.n b0 b1 ls :=
  ⟨h.is0, h.is1, h.lnsN 5000 (by decide) hn ht⟩
theorem parse_nn (v : World) (hE : Env v E m) : Calls Tryz.prog 29 #[.string sTx] v fun e w' => Kp v w' ∧ ∃ t0 t1 tl : Tv, e = .returned (.tuple #[.agg #[.string sNN, tvv t0, tvv t1, tvv tl], .nilIface]) ∧ PatI w' t0.ao t1.ao tl.ao t0.n t1.n tl.n [] [] nnL ∧ tl.n = 2 := by
  refine (show Calls Tryz.prog 29 #[.string sTx] v _ from parse_fine nnT nnB ⟨[], [], nnL, false⟩ m E (E 8) v hE.mx hE.errs hE.c5 (by decide) nn_read nn_check).mono ?_
  rintro e w' ⟨hk, t0, t1, tl, ts, rfl, hP⟩
  exact ⟨hk, t0, t1, tl, rfl, hP.patI (by decide) (fun l hl => by have := nnL_small l hl; omega), hP.nl⟩
theorem find_nn (v : World) (hE : Env v E m) : Calls Tryz.prog 32 #[.string sNN] v fun e w' => Kp v w' ∧ ∃ t0 t1 tl : Tv, e = .returned (.tuple #[.agg #[.string sNN, tvv t0, tvv t1, tvv tl], .bool true]) ∧ PatI w' t0.ao t1.ao tl.ao t0.n t1.n tl.n [] [] nnL ∧ t0.n = 0 ∧ t1.n = 0 ∧ tl.n = 2 := by
  refine (find_any sNN m E (E 8) v (by decide) hE.mx hE.errs hE.c5).mono ?_
  rintro e w' ⟨hk, h⟩
  have hr := nn_row
  rw [show sNN.data.toList = nnB from rfl] at h
  cases hq : rowOf nnB with
  | none => rw [hq] at hr; cases hr
  | some y =>
    rw [hq] at hr h
    simp only [Option.map_some, Option.some.injEq, Prod.mk.injEq] at hr
    obtain ⟨t0, t1, tl, ts, rfl, hP⟩ := h
    rw [hr.2.1, hr.2.2] at hP
    refine ⟨hk, t0, t1, tl, ?_, hP.patI (by decide) (fun l hl => by have := nnL_small l hl; omega), hP.n0, hP.n1, hP.nl⟩
    rw [hr.1]; rfl
theorem find_nn1 (v : World) (hE : Env v E m) : Calls Tryz.prog 32 #[.string ⟨#[78, 78, 49]⟩] v fun e w' => Kp v w' ∧ e = .returned (.tuple #[zeroP, .bool false]) := by
  refine (find_any ⟨#[78, 78, 49]⟩ m E (E 8) v (by decide) hE.mx hE.errs hE.c5).mono ?_
  rintro e w' ⟨hk, h⟩
  rw [show (⟨#[78, 78, 49]⟩ : ByteArray).data.toList = [78, 78, 49] from rfl, nn_none] at h
  exact ⟨hk, h⟩
theorem print_nn (v : World) (hE : Env v E m) (a0 a1 al : Option Addr) (n0 c0 n1 c1 nl cl : Nat) (hP : PatI v a0 a1 al n0 n1 nl [] [] nnL) :
    Calls Tryz.prog 27 #[patV sNN a0 a1 al n0 c0 n1 c1 nl cl] v fun e w' => Kp v w' ∧ e = .returned (.tuple #[.string sTx, .nilIface]) := by
  refine (print_any v E m hE sNN a0 a1 al n0 c0 n1 c1 nl cl [] [] nnL hP (by decide)).mono ?_
  rintro e w' ⟨h, hk⟩
  rw [show sNN.data.toList = nnB from rfl, nn_print] at h
  refine ⟨hk, ?_⟩
  rw [h]
  simp only [errV_nil]
  rfl
theorem mod_nn (v : World) (hE : Env v E m) (a0 a1 al : Option Addr) (n0 c0 n1 c1 nl cl : Nat) (hP : PatI v a0 a1 al n0 n1 nl [] [] nnL) (h0 : n0 = 0) (h1 : n1 = 0) (hl : nl = 2) (g : Nat) (hg : v.cell? ⟨g, 0, none⟩ = some (.string sPs)) :
    Calls Tryz.prog 19 #[patV sNN a0 a1 al n0 c0 n1 c1 nl cl, .slice (some ⟨g, 0, none⟩) 1 1] v fun e w' => Kp v w' ∧ ∃ t0 t1 tf td ts D, e = .returned (.tuple #[.agg #[.string sQ, tvv t0, tvv t1, tvv (subT tf D.length)], .nilIface]) ∧ DrS w' v.heap.size t0 t1 tf td ts D q2L [] [] := by
  have hW : Strs v (some ⟨g, 0, none⟩) 1 [sPs] := ⟨rfl, by decide, fun j u hu => by
    cases j with
    | zero => exact ⟨_, _, rfl, by cases hu; exact hg⟩
    | succ j => simp at hu⟩
  refine (modify_any v E m hE sNN a0 a1 al n0 c0 n1 c1 nl cl [] [] nnL hP ⟨by decide, by omega, by omega, by omega, nnL_small⟩ _ 1 1 [sPs] hW (by decide) (by decide)).mono ?_
  rintro e w' ⟨hk, h⟩
  rw [show (⟨sNN.data.toList, [], [], nnL⟩ : Q.Pn) = ⟨nnB, [], [], nnL⟩ from rfl, show wb [sPs] = [psk0] from rfl, nn_mod] at h
  obtain ⟨t0, t1, tf, td, ts, D, he, hd, h1, hl, hs⟩ := h
  exact ⟨hk, t0, t1, tf, td, ts, D, he, hd, h1, hl, hs⟩
theorem check_zero (v : World) (hE : Env v E m) : Calls Tryz.prog 24 #[zeroP] v fun e w' => e = .returned (.iface 229 (.pointer (some (E 9)))) ∧ Kp v w' := by
  have hz := PatI.none v
  have h := check_any v E hE.errs ⟨#[]⟩ none none none 0 0 0 0 0 0 [] [] [] hz.i0 hz.i1 hz.il
  rw [zero_check] at h
  exact h
theorem check_q (v : World) (hE : Env v E m) (nm : ByteArray) (a0 a1 al : Option Addr) (n0 c0 n1 c1 nl cl : Nat) (hP : PatI v a0 a1 al n0 n1 nl [] [] q2L) : Calls Tryz.prog 24 #[patV nm a0 a1 al n0 c0 n1 c1 nl cl] v fun e w' => e = .returned .nilIface ∧ Kp v w' := by
  have h := check_any v E hE.errs nm a0 a1 al n0 c0 n1 c1 nl cl [] [] q2L hP.i0 hP.i1 hP.il
  rw [show checkL [] [] q2L = 0 from nnQ_check] at h
  exact h
end Go.Proofs.YtkmejehhdjdlbaaGreatDoor

namespace Go.Proofs.YtkmejehhdjdlbaaGreatDoor
open Go.RowKit

def cutAt (s : ByteArray) (c : UInt8) (k : Nat) : Bool := k == s.size || (s.data.toList.getD k 0 == c)
def splitTo (s : ByteArray) (c : UInt8) : Nat → List ByteArray × Nat
  | 0 => ([], 0)
  | k + 1 => if cutAt s c k then ((splitTo s c k).1 ++ [s.extract (splitTo s c k).2 k], k + 1) else splitTo s c k
def splitL (s : ByteArray) (c : UInt8) : List ByteArray := (splitTo s c (s.size + 1)).1
theorem splitTo_le (s : ByteArray) (c : UInt8) (k : Nat) : (splitTo s c k).2 ≤ k ∧ (splitTo s c k).1.length ≤ k := by
  induction k with
  | zero => exact ⟨Nat.le_refl _, Nat.le_refl _⟩
  | succ k ih =>
    unfold splitTo
    split
    · exact ⟨Nat.le_refl _, by simp; omega⟩
    · omega
theorem el100 : El Tryz.prog 59 9 (.string ⟨#[]⟩) 1 16 := ⟨Tryz.underlying59, by kernel_rfl, rfl, by decide, by decide⟩
def SplitPost (w : World) (ss : List ByteArray) (e : Ending) (w' : World) : Prop := Kp w w' ∧ ∃ ao n cap, e = .returned (.slice ao n cap) ∧ Strs w' ao n ss ∧ ∀ k ∈ blkL ao, w.heap.size ≤ k
theorem Own.strs {w : World} {base : Nat} {e : TypeId} {ao : Option Addr} {n cap : Nat} {ss : List ByteArray} (h : Own w base e 1 ao n cap (ss.map .string)) : Strs w ao n ss := by
  have hl := h.1
  refine ⟨by simpa using hl, ?_, h.cs⟩
  rcases h.2 with ⟨_, hn⟩ | ⟨g, cap', cur, hv, _, _, h1, h2, _⟩
  · omega
  · exact Nat.le_trans h1 h2

theorem getD_byte {s : ByteArray} {k : Nat} (h : k < s.size) : s.data.toList.getD k 0 = s[k]'h := by
  have h' : k < s.data.toList.length := by simpa using h
  rw [List.getD, List.getElem?_eq_getElem h']
  rfl
theorem byte_at {s : ByteArray} {c : UInt8} {k : Nat} (h : k < s.size) (hc : cutAt s c k = true) (hk : ¬ k = s.size) : (((s[k]'h).toNat : Int) == (c.toNat : Int)) = true := by
  unfold cutAt at hc
  rw [getD_byte h, Bool.or_eq_true, beq_iff_eq, beq_iff_eq] at hc
  rcases hc with hc | hc
  · exact absurd hc hk
  · rw [hc]; simp
theorem byte_not {s : ByteArray} {c : UInt8} {k : Nat} (h : k < s.size) (hc : cutAt s c k = false) : (((s[k]'h).toNat : Int) == (c.toNat : Int)) = false := by
  unfold cutAt at hc
  rw [getD_byte h, Bool.or_eq_false_iff] at hc
  have h2 : s[k]'h ≠ c := by simpa using hc.2
  cases hq : (((s[k]'h).toNat : Int) == (c.toNat : Int)) with
  | false => rfl
  | true => exact absurd (UInt8.toNat_inj.1 (by have := beq_iff_eq.1 hq; omega)) h2
set_option maxRecDepth 100000 in
set_option maxHeartbeats 4000000 in
theorem split_any (w : World) (s : ByteArray) (c : UInt8) (hs : s.size ≤ 1000) : Calls Tryz.prog 76 #[.string s, .int .u8 (c.toNat : Int)] w (SplitPost w (splitL s c)) := by
  have hc := c.toNat_lt
  go_enter Tryz.func76, Tryz.ntmps76
  go_wp2_with fail
  go_loopw [5, 6, 7] (fun l at_ i wr => ∃ k n cap p ao, k ≤ s.size + 1 ∧ i = .int .i64 (k : Nat) ∧ at_ = .int .i64 (p : Nat) ∧ p = (splitTo s c k).2 ∧ l = .slice ao n cap ∧ n ≤ k ∧ Own wr w.heap.size 9 1 ao n cap ((splitTo s c k).1.map .string) ∧ Kp w wr) (fun _ _ i _ => s.size + 1 - (intOf i).toNat)
  case atStart => exact ⟨0, 0, 0, 0, none, by omega, rfl, rfl, rfl, rfl, by omega, Own.nil _ _ _ _, Kp.refl _⟩
  case round =>
    obtain ⟨k, n, cap, p, ao, hk, rfl, rfl, hp, rfl, hn, hO, hkk⟩ := hrel
    have hle := (splitTo_le s c k).1
    rw [← hp] at hle
    have Hp := Lib.hid hp; clear hp
    by_cases hlt : k ≤ s.size
    · have hstep : splitTo s c (k + 1) = if cutAt s c k then ((splitTo s c k).1 ++ [s.extract p k], k + 1) else splitTo s c k := by
        rw [Hp.out]; rfl
      have Hstep := Lib.hid hstep; clear hstep
      cases hcut : cutAt s c k with
      | true =>
        have H1 := Lib.hid (show (splitTo s c (k + 1)).1 = (splitTo s c k).1 ++ [s.extract p k] by rw [Hstep.out, hcut]; rfl)
        have H2 := Lib.hid (show (splitTo s c (k + 1)).2 = k + 1 by rw [Hstep.out, hcut]; rfl)
        have Hz := Lib.hid (show ((splitTo s c (k + 1)).1.map Value.string) = (splitTo s c k).1.map Value.string ++ [.string (s.extract p k)] by rw [H1.out]; simp)
        by_cases hks : k = s.size
        · have hb : ((k : Int) == (s.size : Int)) = true := by simp [hks]
          clear hcut hks
          go_wp2_with (at_builtin; refine wpList_app rfl (.tmp 25) (.tmp 30) 59 rfl el100 w.heap.size rfl (hO.keep (Kp.new _ _)) rfl [.string (s.extract p k)] rfl (Cs.new wr [.string (s.extract p k)] 9 (0, 0)) (by simp [Value.oneCell']) (n + 1) rfl ((splitTo s c (k + 1)).1.map .string) Hz.out (by omega) (Nat.le_trans hkk.size (by simp)) ?_; intro ao2 cap2 w2 ha)
          have hk2 : Kp w w2 := kp_own hkk (Kp.new wr (.cells #[.string (s.extract p k)] 9)) (Nat.le_refl _) hO ha
          have hO2 := ha.own
          clear ha
          go_roundw
          case rel => exact ⟨k + 1, n + 1, cap2, k + 1, ao2, by omega, by go_num, by go_num, H2.out.symm, rfl, by omega, hO2, hk2⟩
          case measure => simp [intOf]; omega
        · have hk1 : k < s.size := by omega
          have hb : ((k : Int) == (s.size : Int)) = false := by simp; omega
          have hb2 : (((s[k]'hk1).toNat : Int) == (c.toNat : Int)) = true := byte_at hk1 hcut hks
          clear hcut hks
          go_wp2_with (at_builtin; refine wpList_app rfl (.tmp 25) (.tmp 30) 59 rfl el100 w.heap.size rfl (hO.keep (Kp.new _ _)) rfl [.string (s.extract p k)] rfl (Cs.new wr [.string (s.extract p k)] 9 (0, 0)) (by simp [Value.oneCell']) (n + 1) rfl ((splitTo s c (k + 1)).1.map .string) Hz.out (by omega) (Nat.le_trans hkk.size (by simp)) ?_; intro ao2 cap2 w2 ha)
          have hk2 : Kp w w2 := kp_own hkk (Kp.new wr (.cells #[.string (s.extract p k)] 9)) (Nat.le_refl _) hO ha
          have hO2 := ha.own
          clear ha
          go_roundw
          case rel => exact ⟨k + 1, n + 1, cap2, k + 1, ao2, by omega, by go_num, by go_num, H2.out.symm, rfl, by omega, hO2, hk2⟩
          case measure => simp [intOf]; omega
      | false =>
        have H1 := Lib.hid (show splitTo s c (k + 1) = splitTo s c k by rw [Hstep.out, hcut]; rfl)
        have hks : k ≠ s.size := fun h => by simp [cutAt, h] at hcut
        have hk1 : k < s.size := by omega
        have hb : ((k : Int) == (s.size : Int)) = false := by simp; omega
        have hb2 : (((s[k]'hk1).toNat : Int) == (c.toNat : Int)) = false := byte_not hk1 hcut
        clear hcut hks
        go_wp2_with fail
        go_roundw
        case rel => exact ⟨k + 1, n, cap, p, ao, by omega, by go_num, rfl, by rw [H1.out]; exact Hp.out, rfl, by omega, by rw [H1.out]; exact hO, hkk⟩
        case measure => simp [intOf]; omega
    · obtain rfl : k = s.size + 1 := by omega
      have hpost : SplitPost w (splitL s c) (.returned (.slice ao n cap)) wr := ⟨hkk, ao, n, cap, rfl, hO.strs, fun k hk => (hO.lt k (mem_blkL.1 hk)).1⟩
      have Hpost := Lib.hid hpost; clear hpost hO
      go_wp2_with fail
      go_ret
      exact Hpost.out
end Go.Proofs.YtkmejehhdjdlbaaGreatDoor

namespace Go.Proofs.YtkmejehhdjdlbaaGreatDoor
open Go.RowKit

def wordL (t : Nat) : ByteArray :=
  if t = 1 then ⟨#[101]⟩ else if t = 2 then ⟨#[115]⟩ else if t = 3 then ⟨#[101, 101]⟩ else if t = 4 then ⟨#[101, 115]⟩ else if t = 5 then ⟨#[115, 101]⟩ else if t = 6 then ⟨#[115, 115]⟩ else ⟨#[112, 115, 107]⟩
set_option maxHeartbeats 1000000 in
theorem word_any (w : World) (t : Nat) (h1 : 1 ≤ t) (h7 : t ≤ 7) : Calls Tryz.prog 103 #[iv (t : Int)] w fun e w' => e = .returned (.string (wordL t)) ∧ w' = w := by
  rcases (show t = 1 ∨ t = 2 ∨ t = 3 ∨ t = 4 ∨ t = 5 ∨ t = 6 ∨ t = 7 by omega) with rfl | rfl | rfl | rfl | rfl | rfl | rfl
  all_goals
    go_enter Tryz.func103, Tryz.ntmps103
    go_wp2
    go_ret
    exact ⟨rfl, rfl⟩

def tokOf (x : ByteArray) : Nat → List Int
  | 0 => []
  | j + 1 => tokOf x j ++ (if ((wordL (j + 1)).toList == x.toList) = true then [((j + 1 : Nat) : Int)] else [])
def tokL (s : ByteArray) : List Int := if s.size = 0 then [] else (splitL s 32).flatMap (tokOf · 7)
def RTokPost (w : World) (xs : List Int) (e : Ending) (w' : World) : Prop := Kp w w' ∧ ∃ ao n cap, e = .returned (.slice ao n cap) ∧ Is w' ao n xs ∧ n ≤ 7007 ∧ n ≤ cap ∧ ∀ k ∈ blkL ao, w.heap.size ≤ k ∧ k < w'.heap.size
theorem flatMap_take {α β : Type} (f : α → List β) (l : List α) (k : Nat) (h : k < l.length) : (l.take (k + 1)).flatMap f = (l.take k).flatMap f ++ f l[k] := by
  rw [take_step l k h, List.flatMap_append]; simp
theorem empty_iff (s : ByteArray) : s.toList.isEmpty = decide (s.size = 0) := by
  rw [ByteArray.toList_eq]
  show s.data.toList.isEmpty = decide (s.data.size = 0)
  rw [← Array.length_toList]
  cases s.data.toList <;> simp

set_option maxRecDepth 100000 in
set_option maxHeartbeats 4000000 in
theorem tokens_any (w : World) (s : ByteArray) (hs : s.size ≤ 1000) : Calls Tryz.prog 77 #[.string s] w (RTokPost w (tokL s)) := by
  by_cases h0 : s.size = 0
  · have hpost : RTokPost w (tokL s) (.returned (.slice none 0 0)) w := ⟨Kp.refl _, none, 0, 0, rfl, by unfold tokL; rw [if_pos h0]; exact Is.zero _ _, by omega, by omega, fun k hk => by simp [blkL, blk] at hk⟩
    have Hpost := Lib.hid hpost
    have hb : s.toList.isEmpty = true := by rw [empty_iff, h0]; rfl
    clear hpost h0
    go_enter Tryz.func77, Tryz.ntmps77
    go_wp2_with fail
    go_ret
    exact Hpost.out
  · have hb : s.toList.isEmpty = false := by rw [empty_iff]; simpa using h0
    have hsp := split_any w s 32 hs
    rw [show ((UInt8.toNat 32 : Nat) : Int) = 32 from rfl] at hsp
    have Hsp := Lib.hid hsp; clear hsp
    have HT := Lib.hid (show tokL s = (splitL s 32).flatMap (tokOf · 7) by unfold tokL; rw [if_neg h0])
    clear h0
    go_enter Tryz.func77, Tryz.ntmps77
    go_wp2_with fail
    (with_reducible refine Hsp.out.mono ?_)
    rintro e w1 ⟨hk1, bo, m, bc, rfl, hS, _⟩
    have hm : m ≤ 1001 := by rw [← hS.1]; have := (splitTo_le s 32 (s.size + 1)).2; unfold splitL; omega
    obtain ⟨ss, hss⟩ : ∃ ss, ss = splitL s 32 := ⟨_, rfl⟩
    rw [← hss] at hS HT
    clear hss
    have Hl := Lib.hid hS.1
    go_wp2_with fail
    go_loopw [3, 5] (fun l i wr => ∃ k n cap ao, k ≤ m ∧ i = .int .i64 (k : Nat) ∧ l = .slice ao n cap ∧ n ≤ 7 * k ∧ Own wr w1.heap.size 3 1 ao n cap (((ss.take k).flatMap (tokOf · 7)).map iv) ∧ Kp w1 wr) (fun _ i _ => m - (intOf i).toNat)
    case atStart => exact ⟨0, 0, 0, none, by omega, rfl, rfl, by omega, Own.nil _ _ _ _, Kp.refl _⟩
    case round =>
      obtain ⟨k, n, cap, ao, hk, rfl, rfl, hn, hO, hkk⟩ := hrel
      by_cases hlt : k < m
      · obtain ⟨b, off, rfl, hcc⟩ := hS.at k hlt
        have hck := hcc k hlt
        have hkl : k < ss.length := by rw [Hl.out]; exact hlt
        have hsucc := flatMap_take (tokOf · 7) ss k hkl
        clear hcc
        generalize ss[k]'hkl = x at hck hsucc
        have Hsucc := Lib.hid hsucc; clear hsucc
        have hO0 : Own wr w1.heap.size 3 1 ao n cap ((((ss.take k).flatMap (tokOf · 7)) ++ tokOf x 0).map iv) := by rw [show tokOf x 0 = [] from rfl, List.append_nil]; exact hO
        obtain ⟨X, hX⟩ : ∃ X, X = (ss.take k).flatMap (tokOf · 7) := ⟨_, rfl⟩
        rw [← hX] at hO0 Hsucc
        clear hX hO
        obtain ⟨wo, rfl⟩ : ∃ wo : World, wo = wr := ⟨_, rfl⟩
        go_wp2_with fail
        go_loopw [3, 6] (fun l i wr => ∃ j n cap ao, j ≤ 7 ∧ i = .int .i64 ((j + 1 : Nat) : Int) ∧ l = .slice ao n cap ∧ n ≤ 7 * k + j ∧ Own wr w1.heap.size 3 1 ao n cap ((X ++ tokOf x j).map iv) ∧ Kp w1 wr) (fun _ i _ => 8 - (intOf i).toNat)
        case atStart => exact ⟨0, n, cap, ao, by omega, rfl, rfl, by omega, hO0, hkk⟩
        case round =>
          clear hO0 hkk hn
          obtain ⟨j, n, cap, ao, hj, rfl, rfl, hn, hO, hkk⟩ := hrel
          have hck := Kp.cell hkk hck
          by_cases hj7 : j < 7
          · have Hstep := Lib.hid (show tokOf x (j + 1) = tokOf x j ++ (if ((wordL (j + 1)).toList == x.toList) = true then [((j + 1 : Nat) : Int)] else []) from rfl)
            have Hw := Lib.hid (show ∀ q, Calls Tryz.prog 103 #[iv ((j + 1 : Nat) : Int)] (wr.drewN q) fun e w' => e = .returned (.string (wordL (j + 1))) ∧ w' = wr.drewN q from fun q => word_any (wr.drewN q) (j + 1) (by omega) (by omega))
            cases hq : (wordL (j + 1)).toList == x.toList with
            | true =>
              have Hs2 := Lib.hid (show (X ++ tokOf x (j + 1)).map iv = (X ++ tokOf x j).map iv ++ [iv ((j : Int) + 1)] by rw [Hstep.out, hq]; simp)
              go_wp2_with fail
              go_quiet ((go_at_call 103; exact Calls.quiet_of_same (Hw.out _)))
              have hOq := hO.keep (Kp.of_drewN wr nq)
              have hkq := Kp.trans hkk (Kp.of_drewN wr nq)
              clear hO
              go_wp2_with (at_builtin; refine wpList_app rfl (.tmp 28) (.tmp 30) 22 rfl el22 w1.heap.size rfl (hOq.keep (Kp.new _ _)) rfl [iv ((j : Int) + 1)] rfl (Cs.new (wr.drewN nq) [iv ((j : Int) + 1)] 3 (0, 0)) (by simp [Value.oneCell']) (n + 1) rfl ((X ++ tokOf x (j + 1)).map iv) Hs2.out (by omega) (Nat.le_trans hkq.size (by simp)) ?_; intro ao2 cap2 w2 ha)
              have hk2 : Kp w1 w2 := kp_own hkq (Kp.new _ _) (Nat.le_refl _) hOq ha
              have hO2 := ha.own
              clear ha
              go_roundw
              case rel => exact ⟨j + 1, n + 1, cap2, ao2, by omega, by go_num, rfl, by omega, hO2, hk2⟩
              case measure => simp [intOf]; omega
            | false =>
              have Hs2 := Lib.hid (show tokOf x (j + 1) = tokOf x j by rw [Hstep.out, hq]; simp)
              go_wp2_with fail
              go_quiet ((go_at_call 103; exact Calls.quiet_of_same (Hw.out _)))
              have hOq := hO.keep (Kp.of_drewN wr nq)
              have hkq := Kp.trans hkk (Kp.of_drewN wr nq)
              clear hO
              go_wp2_with fail
              go_roundw
              case rel => exact ⟨j + 1, n, cap, ao, by omega, by go_num, rfl, by omega, by rw [Hs2.out]; exact hOq, hkq⟩
              case measure => simp [intOf]; omega
          · obtain rfl : j = 7 := by omega
            have hfin : Own wr w1.heap.size 3 1 ao n cap (((ss.take (k + 1)).flatMap (tokOf · 7)).map iv) := by rw [Hsucc.out]; exact hO
            have Hfin := Lib.hid hfin
            clear hfin hO
            go_wp2_with fail
            go_roundw
            case rel => exact ⟨k + 1, n, cap, ao, by omega, by go_num, rfl, by omega, Hfin.out, hkk⟩
            case measure => simp [intOf]; omega
      · obtain rfl : k = ss.length := by rw [Hl.out]; omega
        rw [List.take_of_length_le (Nat.le_refl _), ← HT.out] at hO
        have hpost : RTokPost w (tokL s) (.returned (.slice ao n cap)) wr := ⟨Kp.trans hk1 hkk, ao, n, cap, rfl, hO.is, by omega, hO.cap, fun k hk => ⟨Nat.le_trans hk1.size (hO.lt k (mem_blkL.1 hk)).1, (hO.lt k (mem_blkL.1 hk)).2⟩⟩
        have Hpost := Lib.hid hpost
        clear hpost hO
        have hml : m = ss.length := Hl.out.symm
        subst hml
        go_wp2_with fail
        go_ret
        exact Hpost.out
end Go.Proofs.YtkmejehhdjdlbaaGreatDoor

namespace Go.Proofs.YtkmejehhdjdlbaaGreatDoor
open Go.RowKit

/-- The rows of the table, as texts. -/
def rowsL : List ByteArray := [⟨#[73, 49, 75, 124, 124, 115, 124, 101, 32, 101, 115, 32, 115, 59, 101, 32, 101, 101, 59, 115, 101]⟩, ⟨#[73, 49, 75, 49, 124, 124, 115, 124, 101, 32, 115, 59, 101, 32, 101, 101, 32, 101, 115, 59, 115, 101]⟩, ⟨#[73, 49, 78, 124, 124, 124, 101, 32, 115, 59, 101, 32, 101, 101, 59, 115, 101]⟩, ⟨#[73, 49, 88, 124, 124, 124, 101, 32, 115, 59, 101, 32, 101, 101, 32, 115, 32, 101, 115, 59, 115, 101]⟩, ⟨#[73, 49, 88, 49, 124, 124, 124, 101, 32, 115, 59, 101, 32, 101, 101, 32, 115, 59, 115, 101, 32, 101, 115]⟩, ⟨#[73, 75, 124, 124, 115, 124, 101, 32, 101, 115, 32, 115, 32, 115, 115, 59, 101, 32, 101, 101, 32, 115, 101]⟩, ⟨#[73, 75, 49, 124, 124, 115, 124, 101, 32, 115, 59, 101, 32, 101, 101, 32, 115, 101, 32, 101, 115]⟩, ⟨#[73, 78, 124, 124, 124, 101, 32, 115, 59, 101, 32, 101, 101, 32, 115, 101]⟩, ⟨#[73, 88, 124, 124, 124, 101, 32, 115, 59, 101, 32, 101, 101, 32, 115, 101, 32, 115, 32, 101, 115]⟩, ⟨#[73, 88, 49, 124, 124, 124, 101, 32, 115, 59, 101, 32, 101, 101, 32, 115, 101, 32, 115, 59, 101, 115]⟩, ⟨#[75, 124, 115, 124, 115, 124, 101, 32, 101, 115, 32, 115, 115]⟩, ⟨#[75, 49, 75, 124, 115, 124, 115, 124, 101, 32, 101, 115, 59, 101, 32, 101, 101, 59, 115, 101]⟩, ⟨#[75, 49, 75, 49, 124, 115, 124, 115, 124, 101, 59, 101, 32, 101, 101, 32, 101, 115, 59, 115, 101]⟩, ⟨#[75, 49, 78, 124, 115, 124, 124, 101, 59, 101, 32, 101, 101, 59, 115, 101]⟩, ⟨#[75, 49, 88, 124, 115, 124, 124, 101, 59, 101, 32, 101, 101, 32, 115, 32, 101, 115, 59, 115, 101]⟩, ⟨#[75, 49, 88, 49, 124, 115, 124, 124, 101, 59, 101, 32, 101, 101, 32, 115, 59, 115, 101, 32, 101, 115]⟩, ⟨#[75, 75, 124, 115, 124, 115, 124, 101, 32, 101, 115, 32, 115, 115, 59, 101, 32, 101, 101, 32, 115, 101]⟩, ⟨#[75, 75, 49, 124, 115, 124, 115, 124, 101, 59, 101, 32, 101, 101, 32, 115, 101, 32, 101, 115]⟩, ⟨#[75, 78, 124, 115, 124, 124, 101, 59, 101, 32, 101, 101, 32, 115, 101]⟩, ⟨#[75, 88, 124, 115, 124, 124, 101, 59, 101, 32, 101, 101, 32, 115, 101, 32, 115, 32, 101, 115]⟩, ⟨#[75, 88, 49, 124, 115, 124, 124, 101, 59, 101, 32, 101, 101, 32, 115, 101, 32, 115, 59, 101, 115]⟩, ⟨#[78, 124, 124, 115, 124, 101, 32, 101, 115]⟩, ⟨#[78, 75, 124, 124, 115, 124, 101, 32, 101, 115, 59, 101, 32, 101, 101]⟩, ⟨#[78, 75, 49, 124, 124, 115, 124, 101, 59, 101, 32, 101, 101, 32, 101, 115]⟩, ⟨#[78, 78, 124, 124, 124, 101, 59, 101, 32, 101, 101]⟩, ⟨#[78, 88, 124, 124, 124, 101, 59, 101, 32, 101, 101, 32, 115, 32, 101, 115]⟩, ⟨#[78, 88, 49, 124, 124, 124, 101, 59, 101, 32, 101, 101, 32, 115, 59, 101, 115]⟩, ⟨#[88, 124, 124, 115, 124, 101, 32, 101, 115, 32, 115, 32, 115, 115]⟩, ⟨#[88, 49, 75, 124, 124, 115, 124, 101, 32, 101, 115, 59, 101, 32, 101, 101, 59, 115, 59, 115, 101]⟩, ⟨#[88, 49, 75, 49, 124, 124, 115, 124, 101, 59, 101, 32, 101, 101, 32, 101, 115, 59, 115, 59, 115, 101]⟩, ⟨#[88, 49, 78, 124, 124, 124, 101, 59, 101, 32, 101, 101, 59, 115, 59, 115, 101]⟩, ⟨#[88, 49, 88, 124, 124, 124, 101, 59, 101, 32, 101, 101, 32, 115, 32, 101, 115, 59, 115, 59, 115, 101]⟩, ⟨#[88, 49, 88, 49, 124, 124, 124, 101, 59, 101, 32, 101, 101, 32, 115, 59, 101, 115, 32, 115, 59, 115, 101]⟩, ⟨#[88, 75, 124, 124, 115, 124, 101, 32, 101, 115, 59, 101, 32, 101, 101, 59, 115, 32, 115, 101]⟩, ⟨#[88, 75, 49, 124, 124, 115, 124, 101, 59, 101, 32, 101, 101, 32, 101, 115, 59, 115, 32, 115, 101]⟩, ⟨#[88, 78, 124, 124, 124, 101, 59, 101, 32, 101, 101, 59, 115, 32, 115, 101]⟩, ⟨#[88, 88, 124, 124, 124, 101, 59, 101, 32, 101, 101, 32, 115, 32, 101, 115, 59, 115, 32, 115, 101]⟩, ⟨#[88, 88, 49, 124, 124, 124, 101, 59, 101, 32, 101, 101, 32, 115, 59, 101, 115, 32, 115, 32, 115, 101]⟩]
theorem rowsL_length : rowsL.length = 38 := rfl
def RowsPost (w : World) (e : Ending) (w' : World) : Prop := Kp w w' ∧ ∃ b, e = .returned (.slice (some ⟨b, 0, none⟩) 38 38) ∧ Strs w' (some ⟨b, 0, none⟩) 38 rowsL

set_option maxRecDepth 100000 in
set_option maxHeartbeats 4000000 in
theorem rows_any (w : World) : Calls Tryz.prog 75 #[] w (RowsPost w) := by
  have hpost : RowsPost w (.returned (.slice (some ⟨w.heap.size, 0, none⟩) 38 38)) (w.alloc (.cells (rowsL.map Value.string).toArray 9)) := ⟨Kp.new _ _, w.heap.size, rfl, rfl, by unfold maxLen; omega, Cs.new w (rowsL.map Value.string) 9 (0, 0)⟩
  have Hpost := Lib.hid hpost; clear hpost
  go_enter Tryz.func75, Tryz.ntmps75
  go_wp2_with fail
  go_ret
  exact Hpost.out
end Go.Proofs.YtkmejehhdjdlbaaGreatDoor

namespace Go.Proofs.YtkmejehhdjdlbaaGreatDoor
open Go.RowKit

/-- A text's parts, its lines, and what a row holds. -/
def partL (r : ByteArray) (j : Nat) : ByteArray := (splitL r 124).getD j ⟨#[]⟩
def lineL (l : List ByteArray) (k : Nat) : List Ln := l.mapIdx fun i x => (((k + i) % 2 : Nat), tokL x)
def rowLs (r : ByteArray) : List Ln := lineL (splitL (partL r 3) 59) 0
/-- No part of a row is long. -/
def rowOk (r : ByteArray) : Bool := (splitL r 124).length == 4 && decide (r.size ≤ 1000) && decide ((partL r 1).size ≤ 1000) && decide ((partL r 2).size ≤ 1000) && decide ((partL r 3).size ≤ 1000) && ((splitL (partL r 3) 59).all fun x => decide (x.size ≤ 1000)) && decide ((splitL (partL r 3) 59).length ≤ 1000)
theorem rows_ok : (rowsL.all rowOk) = true := by kernel_rfl
def nameNN : ByteArray := ⟨#[78, 78]⟩
/-- The row NN: its number, its parts. -/
theorem nn_at : (rowsL.findIdx? fun r => decide ((partL r 0).data.toList = nameNN.data.toList)) = some 24 := by kernel_rfl
theorem nn_b0 : (partL (rowsL.getD 24 ⟨#[]⟩) 1).size = 0 := by kernel_rfl
theorem nn_b1 : (partL (rowsL.getD 24 ⟨#[]⟩) 2).size = 0 := by kernel_rfl
/-- Tokens, as the kernel reckons them. -/
def tokQ (x : ByteArray) : Nat → List Int
  | 0 => []
  | j + 1 => tokQ x j ++ (if ((wordL (j + 1)).data.toList == x.data.toList) = true then [((j + 1 : Nat) : Int)] else [])
theorem tokOf_q (x : ByteArray) (j : Nat) : tokOf x j = tokQ x j := by
  induction j with
  | zero => rfl
  | succ j ih => unfold tokOf tokQ; rw [ih, ByteArray.toList_eq, ByteArray.toList_eq]
def tokLQ (s : ByteArray) : List Int := if s.size = 0 then [] else (splitL s 32).flatMap (tokQ · 7)
theorem tokL_q (s : ByteArray) : tokL s = tokLQ s := by
  unfold tokL tokLQ
  have : (fun x => tokOf x 7) = fun x => tokQ x 7 := funext fun x => tokOf_q x 7
  rw [this]
def rowLsQ (r : ByteArray) : List Ln := (splitL (partL r 3) 59).mapIdx fun i x => (((0 + i) % 2 : Nat), tokLQ x)
theorem rowLs_q (r : ByteArray) : rowLs r = rowLsQ r := by
  unfold rowLs lineL rowLsQ
  congr 1
  funext i x
  rw [tokL_q]
theorem nn_ls : rowLs (rowsL.getD 24 ⟨#[]⟩) = [(0, [1]), (1, [1, 3])] := by rw [rowLs_q]; kernel_rfl
end Go.Proofs.YtkmejehhdjdlbaaGreatDoor

namespace Go.Proofs.YtkmejehhdjdlbaaGreatDoor
open Go.RowKit

/-- It holds, and goes on to hold when only the blocks of X change. -/
def Sta (w : World) (X : List Nat) (P : World → Prop) : Prop := ∀ w', Fr X w w' → P w'
theorem Sta.now {w : World} {X : List Nat} {P : World → Prop} (h : Sta w X P) : P w := h w (Fr.refl _ _)
theorem Sta.step {a b : World} {X Y Z : List Nat} {P : World → Prop} (h : Sta a X P) (k : Fr Y a b) (hY : ∀ j ∈ Y, j ∈ X ∨ a.heap.size ≤ j) (hZ : ∀ j ∈ Z, j ∈ X ∨ a.heap.size ≤ j) : Sta b Z P := fun w' k' =>
  h w' (((Fr.refl X a).step k hY).step k' hZ)
theorem Sta.kp {a b : World} {X : List Nat} {P : World → Prop} (h : Sta a X P) (k : Kp a b) : Sta b X P := h.step (Fr.of_kp k) (by simp) (fun _ hj => .inl hj)
theorem Sta.new {w : World} {ao : Option Addr} {n : Nat} {xs : List Int} {X : List Nat} (h : Is w ao n xs) (hX : ∀ k ∈ blkL ao, k ∉ X) : Sta w X (fun w => Is w ao n xs) := fun _ k => ⟨h.1, h.2.1, k.cs h.2.2 hX⟩
theorem Sta.mp {w : World} {X : List Nat} {P Q : World → Prop} (h : Sta w X P) (hPQ : ∀ w', P w' → Q w') : Sta w X Q := fun w' k => hPQ w' (h w' k)
theorem Sta.sub {w : World} {X Y : List Nat} {P : World → Prop} (h : Sta w X P) (hs : ∀ j ∈ Y, j ∈ X) : Sta w Y P := fun w' k => h w' (k.mono hs)

/-- Messages of the call's own, each with a list of its own; the blocks of X may change. -/
def LnO (w : World) (B : Nat) (X : List Nat) (ao : Option Addr) (n cap : Nat) (ls : List Ln) : Prop :=
  ls.length = n ∧ ∃ ts : List Tv, ts.length = ls.length ∧ Own w B 73 2 ao n cap (lnc ls ts) ∧ ∀ (j : Nat) (h : j < ls.length) (h' : j < ts.length), ts[j].n ≤ 7007 ∧ Sta w (blkL ao ++ X) (fun w => Is w ts[j].ao ts[j].n ls[j].2)
theorem LnO.nil (w : World) (B : Nat) (X : List Nat) : LnO w B X none 0 0 [] := ⟨rfl, [], rfl, Own.nil _ _ _ _, fun j h => by simp at h⟩
theorem LnO.lns {w : World} {B : Nat} {X : List Nat} {ao : Option Addr} {n cap : Nat} {ls : List Ln} (h : LnO w B X ao n cap ls) (hn : n ≤ 140737488351232) : Lns w ao n ls := by
  obtain ⟨h1, ts, h2, h3, h4⟩ := h
  refine ⟨h1, hn, fun j hj => ?_⟩
  obtain ⟨b, off, rfl, hc⟩ := h3.cs.at (j * 2) (by rw [lnc_length h2]; omega)
  obtain ⟨g0, g1⟩ := lnc_get h2 j hj
  obtain ⟨q1, q2⟩ := h4 j hj (by omega)
  exact ⟨b, off, _, _, _, rfl, hc _ _ g0, by have := hc _ _ g1; rwa [← Nat.add_assoc] at this, q2.now, by omega⟩
/-- The messages hold on while the blocks of X change. -/
theorem LnO.sta {w : World} {B : Nat} {X Y : List Nat} {ao : Option Addr} {n cap : Nat} {ls : List Ln} (h : LnO w B X ao n cap ls) (hn : n ≤ 140737488351232) (hY : ∀ j ∈ Y, j ∈ X) (hB : ∀ j ∈ Y, j ∉ blkL ao) : Sta w Y (fun w => Lns w ao n ls) := by
  intro w' k
  obtain ⟨h1, ts, h2, h3, h4⟩ := h
  refine LnO.lns (X := []) (B := B) (cap := cap) ⟨h1, ts, h2, k.own h3 (fun j hj hj2 => hB j hj2 hj), fun j hj hj' => ⟨(h4 j hj hj').1, ?_⟩⟩ hn
  exact (h4 j hj hj').2.step k (fun i hi => .inl (List.mem_append.2 (.inr (hY i hi)))) (fun i hi => .inl (List.mem_append.2 (.inl (by simpa using hi))))
theorem LnO.keep {w w' : World} {B : Nat} {X Y : List Nat} {ao : Option Addr} {n cap : Nat} {ls : List Ln} (h : LnO w B X ao n cap ls) (k : Fr Y w w') (hY : ∀ j ∈ Y, j ∈ X ∨ w.heap.size ≤ j) (hB : ∀ j ∈ Y, j ∉ blkL ao) : LnO w' B X ao n cap ls := by
  obtain ⟨h1, ts, h2, h3, h4⟩ := h
  exact ⟨h1, ts, h2, k.own h3 (fun j hj hj2 => hB j hj2 hj), fun j hj hj' => ⟨(h4 j hj hj').1, (h4 j hj hj').2.step k (fun i hi => (hY i hi).imp (fun q => List.mem_append.2 (.inr q)) id) (fun i hi => .inl hi)⟩⟩
/-- One more message. -/
theorem LnO.app {a w w' : World} {B : Nat} {X : List Nat} {ao ao' : Option Addr} {n cap cap' N : Nat} {ls : List Ln} (h : LnO a B X ao n cap ls) (ts : List Tv) (h2 : ts.length = ls.length) (h4 : ∀ (j : Nat) (h : j < ls.length) (h' : j < ts.length), ts[j].n ≤ 7007 ∧ Sta a (blkL ao ++ X) (fun w => Is w ts[j].ao ts[j].n ls[j].2))
    (k : Kp a w) (l : Ln) (t : Tv) (ht : Is w t.ao t.n l.2) (htn : t.n ≤ 7007) (hX : ∀ j ∈ blkL t.ao, j < w.heap.size ∧ j ∉ blkL ao ++ X) (hN : N = n + 1)
    (ha : Appd w w' B 73 2 ao cap 1 N (lnc (ls ++ [l]) (ts ++ [t])) ao' cap') : LnO w' B X ao' N cap' (ls ++ [l]) := by
  have hf := ha.fr
  have hb' : ∀ j ∈ blkL ao', j ∈ blkL ao ∨ j = w.heap.size := fun j hj => by
    rcases ha.fresh j (mem_blkL.1 hj) with q | q
    · exact .inl (mem_blkL.2 q)
    · exact .inr q
  have hsz := k.size
  refine ⟨by rw [List.length_append, h.1, hN]; rfl, ts ++ [t], by simp [h2], ha.own, fun j hj hj' => ?_⟩
  by_cases hlt : j < ls.length
  · rw [List.getElem_append_left hlt, List.getElem_append_left (by omega)]
    refine ⟨(h4 j hlt (by omega)).1, ((h4 j hlt (by omega)).2.kp k).step hf (fun i hi => .inl (List.mem_append.2 (.inl hi))) (fun i hi => ?_)⟩
    rcases List.mem_append.1 hi with q | q
    · rcases hb' i q with q | q
      · exact .inl (List.mem_append.2 (.inl q))
      · exact .inr (by omega)
    · exact .inl (List.mem_append.2 (.inr q))
  · have hje : j = ls.length := by simp at hj; omega
    subst hje
    rw [List.getElem_concat_length rfl]
    have : (ts ++ [t])[ls.length]'hj' = t := by simp [← h2]
    rw [this]
    refine ⟨htn, Sta.step (Sta.new ht (fun i hi => (hX i hi).2)) hf (fun i hi => .inl (List.mem_append.2 (.inl hi))) (fun i hi => ?_)⟩
    rcases List.mem_append.1 hi with q | q
    · rcases hb' i q with q | q
      · exact .inl (List.mem_append.2 (.inl q))
      · exact .inr (by omega)
    · exact .inl (List.mem_append.2 (.inr q))

/-- A pattern among the cells of a list. -/
structure Pv where
  nm : ByteArray
  b0 : Tv
  b1 : Tv
  ls : Tv
def pvc (p : Pv) : List Value := [.string p.nm, tvv p.b0, tvv p.b1, tvv p.ls]
theorem pvc_len (ps : List Pv) : (ps.flatMap pvc).length = ps.length * 4 := by
  induction ps with
  | nil => rfl
  | cons p r ih => simp only [List.flatMap_cons, List.length_append, ih, List.length_cons, pvc, List.length_nil]; omega
theorem pvc_get (ps : List Pv) (j : Nat) (h : j < ps.length) : (ps.flatMap pvc)[j * 4]? = some (.string ps[j].nm) ∧ (ps.flatMap pvc)[j * 4 + 1]? = some (tvv ps[j].b0) ∧ (ps.flatMap pvc)[j * 4 + 2]? = some (tvv ps[j].b1) ∧ (ps.flatMap pvc)[j * 4 + 3]? = some (tvv ps[j].ls) := by
  induction ps generalizing j with
  | nil => simp at h
  | cons p r ih =>
    rw [List.flatMap_cons]
    rcases j with _ | j
    · exact ⟨rfl, rfl, rfl, rfl⟩
    · have := ih j (by simpa using h)
      simp only [List.getElem_cons_succ]
      rw [show (j + 1) * 4 = j * 4 + 4 by omega]
      have e : ∀ i, (pvc p ++ r.flatMap pvc)[i + 4]? = (r.flatMap pvc)[i]? := fun i => by
        rw [List.getElem?_append_right (by simp [pvc])]
        rfl
      rw [show j * 4 + 4 + 1 = j * 4 + 1 + 4 by omega, show j * 4 + 4 + 2 = j * 4 + 2 + 4 by omega, show j * 4 + 4 + 3 = j * 4 + 3 + 4 by omega, e, e, e, e]
      exact this
/-- A pattern's lists read what its row says. -/
def PvR (r : ByteArray) (p : Pv) (w : World) : Prop := p.b0.n ≤ 7007 ∧ p.b1.n ≤ 7007 ∧ p.ls.n ≤ 7007 ∧ Is w p.b0.ao p.b0.n (tokL (partL r 1)) ∧ Is w p.b1.ao p.b1.n (tokL (partL r 2)) ∧ Lns w p.ls.ao p.ls.n (rowLs r)
/-- The first k patterns of the table, in a list of the call's own. -/
def PvO (w : World) (B : Nat) (X : List Nat) (ao : Option Addr) (n cap : Nat) (k : Nat) : Prop :=
  n = k ∧ ∃ ps : List Pv, ps.length = k ∧ Own w B 26 4 ao n cap (ps.flatMap pvc) ∧ ∀ (j : Nat) (h : j < ps.length) (r : ByteArray), rowsL[j]? = some r → ps[j].nm = partL r 0 ∧ Sta w (blkL ao ++ X) (PvR r ps[j])
theorem PvO.nil (w : World) (B : Nat) (X : List Nat) : PvO w B X none 0 0 0 := ⟨rfl, [], rfl, Own.nil _ _ _ _, fun j h => by simp at h⟩
theorem PvO.app {a w w' : World} {B : Nat} {X : List Nat} {ao ao' : Option Addr} {n cap cap' N k : Nat} (ps : List Pv) (h1 : n = k) (h2 : ps.length = k) (h4 : ∀ (j : Nat) (h : j < ps.length) (r : ByteArray), rowsL[j]? = some r → ps[j].nm = partL r 0 ∧ Sta a (blkL ao ++ X) (PvR r ps[j]))
    (hk : Kp a w) (p : Pv) (r : ByteArray) (hr : rowsL[k]? = some r) (hnm : p.nm = partL r 0) (hp : Sta w (blkL ao ++ X) (PvR r p)) (hN : N = n + 1)
    (ha : Appd w w' B 26 4 ao cap 1 N ((ps ++ [p]).flatMap pvc) ao' cap') : PvO w' B X ao' N cap' (k + 1) := by
  have hf := ha.fr
  have hb' : ∀ j ∈ blkL ao' ++ X, j ∈ blkL ao ++ X ∨ w.heap.size ≤ j := fun j hj => by
    rcases List.mem_append.1 hj with hj | hj
    · rcases ha.fresh j (mem_blkL.1 hj) with q | q
      · exact .inl (List.mem_append.2 (.inl (mem_blkL.2 q)))
      · exact .inr (by omega)
    · exact .inl (List.mem_append.2 (.inr hj))
  refine ⟨by omega, ps ++ [p], by simp [h2], ha.own, fun j hj r' hr' => ?_⟩
  by_cases hlt : j < ps.length
  · rw [List.getElem_append_left hlt]
    obtain ⟨q1, q2⟩ := h4 j hlt r' hr'
    exact ⟨q1, (q2.kp hk).step hf (fun i hi => .inl (List.mem_append.2 (.inl hi))) hb'⟩
  · have hje : j = ps.length := by simp at hj; omega
    subst hje
    rw [h2] at hr'
    rw [hr] at hr'
    cases hr'
    rw [List.getElem_concat_length rfl]
    exact ⟨hnm, hp.step hf (fun i hi => .inl (List.mem_append.2 (.inl hi))) hb'⟩
theorem el80 : El Tryz.prog 53 26 (.agg #[.string ⟨#[]⟩, .slice none 0 0, .slice none 0 0, .slice none 0 0]) 4 88 := ⟨Tryz.underlying53, by kernel_rfl, rfl, by decide, by decide⟩
end Go.Proofs.YtkmejehhdjdlbaaGreatDoor

namespace Go.Proofs.YtkmejehhdjdlbaaGreatDoor
open Go.RowKit

theorem row_ok {k : Nat} {r : ByteArray} (h : rowsL[k]? = some r) : r.size ≤ 1000 ∧ (splitL r 124).length = 4 ∧ (partL r 1).size ≤ 1000 ∧ (partL r 2).size ≤ 1000 ∧ (partL r 3).size ≤ 1000 ∧ (∀ x ∈ splitL (partL r 3) 59, x.size ≤ 1000) ∧ (splitL (partL r 3) 59).length ≤ 1000 := by
  have hm := List.all_eq_true.1 rows_ok r (List.mem_of_getElem? h)
  simp only [rowOk, Bool.and_eq_true, decide_eq_true_eq, beq_iff_eq, List.all_eq_true] at hm
  obtain ⟨⟨⟨⟨⟨⟨h1, h2⟩, h3⟩, h4⟩, h5⟩, h6⟩, h7⟩ := hm
  exact ⟨h2, h1, h3, h4, h5, h6, h7⟩

/-- The variable that a row's pattern is made in. -/
def At4 (w : World) (b : Nat) (nm : ByteArray) (t0 t1 tl : Tv) : Prop :=
  (w.cell? ⟨b, 0, none⟩ = some (.string nm) ∧ w.cell? ⟨b, 1, none⟩ = some (tvv t0) ∧ w.cell? ⟨b, 2, none⟩ = some (tvv t1) ∧ w.cell? ⟨b, 3, none⟩ = some (tvv tl)) ∧ w.frozen? ⟨b, 1, none⟩ = false ∧ w.frozen? ⟨b, 2, none⟩ = false ∧ w.frozen? ⟨b, 3, none⟩ = false
theorem At4.new (w : World) (nm : ByteArray) : At4 (w.alloc (.cells #[.string nm, .slice none 0 0, .slice none 0 0, .slice none 0 0] 26)) w.heap.size nm ⟨none, 0, 0⟩ ⟨none, 0, 0⟩ ⟨none, 0, 0⟩ := by
  refine ⟨⟨?_, ?_, ?_, ?_⟩, ?_, ?_, ?_⟩
  · rw [World.cell?_alloc_at _ _ _ _ rfl]; rfl
  · rw [World.cell?_alloc_at _ _ _ _ rfl]; rfl
  · rw [World.cell?_alloc_at _ _ _ _ rfl]; rfl
  · rw [World.cell?_alloc_at _ _ _ _ rfl]; rfl
  · exact World.frozen?_alloc_at _ _ _ _ rfl
  · exact World.frozen?_alloc_at _ _ _ _ rfl
  · exact World.frozen?_alloc_at _ _ _ _ rfl
theorem At4.fr {X : List Nat} {w w' : World} {b : Nat} {nm : ByteArray} {t0 t1 tl : Tv} (h : At4 w b nm t0 t1 tl) (k : Fr X w w') (hb : b ∉ X) : At4 w' b nm t0 t1 tl := by
  obtain ⟨⟨h0, h1, h2, h3⟩, f1, f2, f3⟩ := h
  exact ⟨⟨k.cell h0 hb, k.cell h1 hb, k.cell h2 hb, k.cell h3 hb⟩, k.free h1 f1 hb, k.free h2 f2 hb, k.free h3 f3 hb⟩
theorem At4.kp {w w' : World} {b : Nat} {nm : ByteArray} {t0 t1 tl : Tv} (h : At4 w b nm t0 t1 tl) (k : Kp w w') : At4 w' b nm t0 t1 tl := h.fr (Fr.of_kp k) (by simp)
theorem At4.set1 {w : World} {b : Nat} {nm : ByteArray} {t0 t1 tl : Tv} (h : At4 w b nm t0 t1 tl) (t : Tv) : At4 (w.setCell ⟨b, 1, none⟩ (tvv t)) b nm t t1 tl := by
  obtain ⟨⟨h0, h1, h2, h3⟩, f1, f2, f3⟩ := h
  refine ⟨⟨?_, World.cell?_setCell_same _ _ _ h1, ?_, ?_⟩, ?_, ?_, ?_⟩
  · rw [World.cell?_setCell_other _ _ _ _ (by simp)]; exact h0
  · rw [World.cell?_setCell_other _ _ _ _ (by simp)]; exact h2
  · rw [World.cell?_setCell_other _ _ _ _ (by simp)]; exact h3
  · rw [World.frozen?_setCell]; exact f1
  · rw [World.frozen?_setCell]; exact f2
  · rw [World.frozen?_setCell]; exact f3
theorem At4.set2 {w : World} {b : Nat} {nm : ByteArray} {t0 t1 tl : Tv} (h : At4 w b nm t0 t1 tl) (t : Tv) : At4 (w.setCell ⟨b, 2, none⟩ (tvv t)) b nm t0 t tl := by
  obtain ⟨⟨h0, h1, h2, h3⟩, f1, f2, f3⟩ := h
  refine ⟨⟨?_, ?_, World.cell?_setCell_same _ _ _ h2, ?_⟩, ?_, ?_, ?_⟩
  · rw [World.cell?_setCell_other _ _ _ _ (by simp)]; exact h0
  · rw [World.cell?_setCell_other _ _ _ _ (by simp)]; exact h1
  · rw [World.cell?_setCell_other _ _ _ _ (by simp)]; exact h3
  · rw [World.frozen?_setCell]; exact f1
  · rw [World.frozen?_setCell]; exact f2
  · rw [World.frozen?_setCell]; exact f3
theorem At4.set3 {w : World} {b : Nat} {nm : ByteArray} {t0 t1 tl : Tv} (h : At4 w b nm t0 t1 tl) (t : Tv) : At4 (w.setCell ⟨b, 3, none⟩ (tvv t)) b nm t0 t1 t := by
  obtain ⟨⟨h0, h1, h2, h3⟩, f1, f2, f3⟩ := h
  refine ⟨⟨?_, ?_, ?_, World.cell?_setCell_same _ _ _ h3⟩, ?_, ?_, ?_⟩
  · rw [World.cell?_setCell_other _ _ _ _ (by simp)]; exact h0
  · rw [World.cell?_setCell_other _ _ _ _ (by simp)]; exact h1
  · rw [World.cell?_setCell_other _ _ _ _ (by simp)]; exact h2
  · rw [World.frozen?_setCell]; exact f1
  · rw [World.frozen?_setCell]; exact f2
  · rw [World.frozen?_setCell]; exact f3
theorem row_step {r : ByteArray} {pcs : List ByteArray} (h : rowLs r = lineL pcs 0) (j : Nat) (hj : j < pcs.length) : (rowLs r).take (j + 1) = (rowLs r).take j ++ [(((j % 2 : Nat) : Int), tokL pcs[j])] := by
  have hl : j < (rowLs r).length := by rw [h]; unfold lineL; rw [List.length_mapIdx]; exact hj
  rw [take_step _ _ hl]
  congr 2
  have : ∀ (l : List Ln) (e : rowLs r = l) (h' : j < l.length), (rowLs r)[j] = l[j] := fun l e h' => by subst e; rfl
  rw [this _ h (by rw [← h]; exact hl)]
  unfold lineL
  rw [List.getElem_mapIdx, Nat.zero_add]
/-- What one more message leaves. -/
theorem all_fin {w8 wr wq wc wz w9 : World} {bp : Nat} {nm : ByteArray} {T0 T1 : Tv} {al ao2 tt : Option Addr} {FF : List Nat} {nl cl cap2 mt dt : Nat} {ls : List Ln} {l : Ln} (hl1 : ls.length = nl) (ts : List Tv) (hl2 : ts.length = ls.length) (hl3 : Own wr w8.heap.size 73 2 al nl cl (lnc ls ts))
    (hl4 : ∀ (j : Nat) (h : j < ls.length) (h' : j < ts.length), ts[j].n ≤ 7007 ∧ Sta wr (blkL al ++ (bp :: FF)) (fun w => Is w ts[j].ao ts[j].n ls[j].2)) (hk : Kp wr wz) (hP : At4 wr bp nm T0 T1 ⟨al, nl, cl⟩) (hF : Fr [bp] w8 wr) (hbp : bp < w8.heap.size)
    (hbt : ∀ i ∈ blkL tt, wq.heap.size ≤ i ∧ i < wc.heap.size) (hq : wr.heap.size ≤ wq.heap.size) (_hq2 : wq.heap.size ≤ wz.heap.size) (hq3 : wc.heap.size ≤ wz.heap.size) (hT : Is wz tt mt l.2) (hmt : mt ≤ 7007) (hFb : ∀ j ∈ FF, j < bp)
    (ha : Appd wz w9 w8.heap.size 73 2 al cl 1 (nl + 1) (lnc (ls ++ [l]) (ts ++ [⟨tt, mt, dt⟩])) ao2 cap2) :
    At4 (w9.setCell ⟨bp, 3, none⟩ (.slice ao2 (nl + 1) cap2)) bp nm T0 T1 ⟨ao2, nl + 1, cap2⟩ ∧ LnO (w9.setCell ⟨bp, 3, none⟩ (.slice ao2 (nl + 1) cap2)) w8.heap.size (bp :: FF) ao2 (nl + 1) cap2 (ls ++ [l]) ∧ Fr [bp] w8 (w9.setCell ⟨bp, 3, none⟩ (.slice ao2 (nl + 1) cap2)) := by
  have hal : ∀ i ∈ blkL al, w8.heap.size ≤ i ∧ i < wr.heap.size := fun i hi => hl3.lt i (mem_blkL.1 hi)
  have hbal : bp ∉ blkL al := fun h => by have := (hal bp h).1; omega
  have hs8 := hF.size
  have hL9 : LnO w9 w8.heap.size (bp :: FF) ao2 (nl + 1) cap2 (ls ++ [l]) := LnO.app (a := wr) (w := wz) ⟨hl1, ts, hl2, hl3, hl4⟩ ts hl2 hl4 hk l ⟨tt, mt, dt⟩ hT hmt (fun i hi => by
    obtain ⟨q1, q2⟩ := hbt i hi
    refine ⟨by omega, fun hm => ?_⟩
    rcases List.mem_append.1 hm with q | q
    · have := (hal i q).2; omega
    · rcases List.mem_cons.1 q with q | q
      · omega
      · have := hFb i q; omega) rfl ha
  have hset := Fr.set w9 ⟨bp, 3, none⟩ (.slice ao2 (nl + 1) cap2)
  refine ⟨((hP.kp hk).fr ha.fr hbal).set3 ⟨ao2, nl + 1, cap2⟩, hL9.keep hset (fun i hi => .inl (by simp at hi; simp [hi])) (fun i hi hm => ?_), ?_⟩
  · have := (ha.own.lt i (mem_blkL.1 hm)).1
    simp at hi; omega
  · exact ((hF.trans ((Fr.of_kp hk).mono (by simp))).step ha.fr (fun i hi => .inr (hal i hi).1)).trans hset
theorem PvO.mono {w : World} {B B' : Nat} {X : List Nat} {ao : Option Addr} {n cap k : Nat} (h : PvO w B X ao n cap k) (hb : B' ≤ B) : PvO w B' X ao n cap k := by
  obtain ⟨h1, ps, h2, h3, h4⟩ := h
  exact ⟨h1, ps, h2, h3.mono (fun i hi => Nat.le_trans hb (h3.lt i hi).1), h4⟩
def AllPost (w : World) (X : List Nat) (e : Ending) (w' : World) : Prop := Kp w w' ∧ ∃ ao n cap, e = .returned (.slice ao n cap) ∧ PvO w' w.heap.size X ao n cap 38

set_option maxRecDepth 100000 in
set_option maxHeartbeats 4000000 in
theorem all_any (w : World) (X : List Nat) (hX : ∀ j ∈ X, j < w.heap.size) : Calls Tryz.prog 34 #[] w (AllPost w X) := by
  have Hr := Lib.hid (rows_any w)
  go_enter Tryz.func34, Tryz.ntmps34
  go_wp2_with fail
  (with_reducible refine Hr.out.mono ?_)
  rintro e w1 ⟨hk1, rb, rfl, hS⟩
  have hw1 := hk1.size
  go_wp2_with fail
  go_loopw [1, 3] (fun l i wr => ∃ k n cap ao, k ≤ 38 ∧ i = .int .i64 (k : Nat) ∧ l = .slice ao n cap ∧ PvO wr w1.heap.size X ao n cap k ∧ Kp w1 wr) (fun _ i _ => 38 - (intOf i).toNat)
  case atStart => exact ⟨0, 0, 0, none, by omega, rfl, rfl, PvO.nil _ _ _, Kp.refl _⟩
  case round =>
    obtain ⟨k, n, cap, ao, hk, rfl, rfl, hO, hkk⟩ := hrel
    by_cases hlt : k < 38
    · rename World => wo
      obtain ⟨hnk, ps, hpl, hown, hps⟩ := hO
      replace hnk := hnk.symm
      subst hnk
      obtain ⟨b, off, hbo, hcc⟩ := hS.at k hlt
      have hck := hkk.cell (hcc k hlt)
      have hrk : rowsL[k]? = some (rowsL[k]'(by rw [rowsL_length]; exact hlt)) := List.getElem?_eq_getElem _
      cases hbo
      rw [Nat.zero_add] at hck
      generalize rowsL[k]'(by rw [rowsL_length]; exact hlt) = r at hck hrk
      obtain ⟨r1, r2, r3, r4, r5, r6, r7⟩ := row_ok hrk
      have Hsp := Lib.hid (show Calls Tryz.prog 76 #[.string r, .int .u8 124] wo (SplitPost wo (splitL r 124)) from split_any wo r 124 r1)
      clear hcc
      have Hps := Lib.hid hps; clear hps
      have Hrk := Lib.hid hrk; clear hrk
      have Hr6 := Lib.hid r6; clear r6
      go_wp2_with fail
      (with_reducible refine Hsp.out.mono ?_)
      rintro e w2 ⟨hk2, xo, xm, xc, rfl, hX, _⟩
      have hxm : xm = 4 := by rw [← hX.1, r2]
      subst hxm
      obtain ⟨xb, xoff, rfl, hxc⟩ := hX.at 0 (by omega)
      have hpart : ∀ j (h : j < 4), (splitL r 124)[j]'(by omega) = partL r j := fun j h => by unfold partL; rw [List.getD, List.getElem?_eq_getElem (by omega)]; rfl
      have x0 := hxc 0 (by omega)
      have x1 := hxc 1 (by omega)
      have x2 := hxc 2 (by omega)
      have x3 := hxc 3 (by omega)
      rw [hpart 0 (by omega), Nat.add_zero] at x0
      rw [hpart 1 (by omega)] at x1
      rw [hpart 2 (by omega)] at x2
      rw [hpart 3 (by omega)] at x3
      have hxb : xb < w2.heap.size := World.block_lt_of_cell? w2 _ x0
      clear hxc hX hpart hck r1 r2
      go_upto_region 8 with fail
      generalize hw3 : w2.alloc (.cells #[.string (partL r 0), .slice none 0 0, .slice none 0 0, .slice none 0 0] 26) = w3
      have hk3 : Kp w2 w3 := hw3 ▸ Kp.new _ _
      obtain ⟨bp, hbp⟩ : ∃ bp, bp = w2.heap.size := ⟨_, rfl⟩
      have hP : At4 w3 bp (partL r 0) ⟨none, 0, 0⟩ ⟨none, 0, 0⟩ ⟨none, 0, 0⟩ := by rw [hbp]; exact hw3 ▸ At4.new w2 _
      rw [← hbp]
      have hFb : ∀ j ∈ blkL ao ++ X, j < bp := fun j hj => by
        have := hk2.size
        rcases List.mem_append.1 hj with hj | hj
        · have := (hown.lt j (mem_blkL.1 hj)).2; omega
        · have := hX j hj; have := hkk.size; omega
      have hbo : wo.heap.size ≤ bp := by have := hk2.size; omega
      have hbp3 : bp < w3.heap.size := World.block_lt_of_cell? w3 _ hP.1.1
      have hxn : xb ≠ bp := by omega
      clear hbp hw3
      replace x1 := hk3.cell x1
      replace x2 := hk3.cell x2
      replace x3 := hk3.cell x3
      have Ht1 := Lib.hid (tokens_any w3 (partL r 1) r3)
      clear x0
      go_wp2_with fail
      (with_reducible refine Ht1.out.mono ?_)
      rintro e w4 ⟨hk4, t0, m0, d0, rfl, hT0, hm0, hd0, hb0⟩
      replace hP := hP.kp hk4
      obtain ⟨⟨e0, e1, e2, e3⟩, f1, f2, f3⟩ := hP
      go_upto_region 9 with fail
      generalize hw5 : w4.setCell ⟨bp, 1, none⟩ (.slice t0 m0 d0) = w5
      have hF5 : Fr [bp] w4 w5 := hw5 ▸ Fr.set w4 ⟨bp, 1, none⟩ _
      have hP : At4 w5 bp (partL r 0) ⟨t0, m0, d0⟩ ⟨none, 0, 0⟩ ⟨none, 0, 0⟩ := hw5 ▸ At4.set1 ⟨⟨e0, e1, e2, e3⟩, f1, f2, f3⟩ ⟨t0, m0, d0⟩
      clear hw5 e0 e1 e2 e3 f1 f2 f3
      have S0 : Sta w5 (bp :: (blkL ao ++ X)) (fun w => Is w t0 m0 (tokL (partL r 1))) := (Sta.new (X := bp :: (blkL ao ++ X)) hT0 (fun j hj hj2 => by
        have := hb0 j hj
        rcases List.mem_cons.1 hj2 with q | q
        · omega
        · have := hFb j q; omega)).step hF5 (fun j hj => .inl (by simp at hj; simp [hj])) (fun j hj => .inl hj)
      replace x2 := hF5.cell (hk4.cell x2) (by simpa using hxn)
      replace x3 := hF5.cell (hk4.cell x3) (by simpa using hxn)
      have hs35 : w3.heap.size ≤ w5.heap.size := Nat.le_trans hk4.size hF5.size
      have hF35 : Fr [bp] w3 w5 := ((Fr.of_kp hk4).mono (by simp)).trans hF5
      have Ht2 := Lib.hid (tokens_any w5 (partL r 2) r4)
      clear Ht1 hT0 hb0 x1
      go_wp2_with fail
      (with_reducible refine Ht2.out.mono ?_)
      rintro e w6 ⟨hk6, t1, m1, d1, rfl, hT1, hm1, hd1, hb1⟩
      replace hP := hP.kp hk6
      obtain ⟨⟨e0, e1, e2, e3⟩, f1, f2, f3⟩ := hP
      go_upto_region 10 with fail
      generalize hw7 : w6.setCell ⟨bp, 2, none⟩ (.slice t1 m1 d1) = w7
      have hF7 : Fr [bp] w6 w7 := hw7 ▸ Fr.set w6 ⟨bp, 2, none⟩ _
      have hP : At4 w7 bp (partL r 0) ⟨t0, m0, d0⟩ ⟨t1, m1, d1⟩ ⟨none, 0, 0⟩ := hw7 ▸ At4.set2 ⟨⟨e0, e1, e2, e3⟩, f1, f2, f3⟩ ⟨t1, m1, d1⟩
      clear hw7 e0 e1 e2 e3 f1 f2 f3
      have S1 : Sta w7 (bp :: (blkL ao ++ X)) (fun w => Is w t1 m1 (tokL (partL r 2))) := (Sta.new (X := bp :: (blkL ao ++ X)) hT1 (fun j hj hj2 => by
        have := hb1 j hj
        rcases List.mem_cons.1 hj2 with q | q
        · omega
        · have := hFb j q; omega)).step hF7 (fun j hj => .inl (by simp at hj; simp [hj])) (fun j hj => .inl hj)
      replace S0 := (S0.kp hk6).step hF7 (Z := bp :: (blkL ao ++ X)) (fun j hj => .inl (by simp at hj; simp [hj])) (fun j hj => .inl hj)
      replace x3 := hF7.cell (hk6.cell x3) (by simpa using hxn)
      have hF37 : Fr [bp] w3 w7 := hF35.trans (((Fr.of_kp hk6).mono (by simp)).trans hF7)
      have hs37 : w3.heap.size ≤ w7.heap.size := Nat.le_trans hs35 (Nat.le_trans hk6.size hF7.size)
      have Ht3 := Lib.hid (show Calls Tryz.prog 76 #[.string (partL r 3), .int .u8 59] w7 (SplitPost w7 (splitL (partL r 3) 59)) from split_any w7 (partL r 3) 59 r5)
      clear Ht2 hT1 hb1 x2
      go_wp2_with fail
      (with_reducible refine Ht3.out.mono ?_)
      rintro e w8 ⟨hk8, yo, M, yc, rfl, hY, hyb⟩
      replace hP := hP.kp hk8
      replace S0 := S0.kp hk8
      replace S1 := S1.kp hk8
      have hM : M ≤ 1000 := by rw [← hY.1]; exact r7
      have hF38 : Fr [bp] w3 w8 := hF37.trans ((Fr.of_kp hk8).mono (by simp))
      have hs38 : w3.heap.size ≤ w8.heap.size := Nat.le_trans hs37 hk8.size
      have hyn : ∀ j ∈ blkL yo, j ≠ bp := fun j hj => by have := hyb j hj; omega
      obtain ⟨pcs, hpcs⟩ : ∃ pcs, pcs = splitL (partL r 3) 59 := ⟨_, rfl⟩
      rw [← hpcs] at hY Hr6
      have Hls := Lib.hid (show rowLs r = lineL pcs 0 by rw [hpcs]; rfl)
      clear hpcs Ht3 x3 hyb r3 r4 r5 r7
      go_wp2_with fail
      have Hd := Lib.hid (And.intro hk2 (And.intro hk3 hF38))
      have HS := Lib.hid (And.intro S0 S1)
      clear hF5 hk4 hF35 hk6 hF7 hF37 hk8 hs35 hs37 S0 S1 Hsp hF38
      go_loopw [7] (fun i wi => ∃ (j nl cl : Nat) (al : Option Addr), j ≤ M ∧ i = .int .i64 (j : Nat) ∧ At4 wi bp (partL r 0) ⟨t0, m0, d0⟩ ⟨t1, m1, d1⟩ ⟨al, nl, cl⟩ ∧ LnO wi w8.heap.size (bp :: (blkL ao ++ X)) al nl cl ((rowLs r).take j) ∧ Fr [bp] w8 wi) (fun i _ => M - (intOf i).toNat)
      case atStart => exact ⟨0, 0, 0, none, by omega, rfl, hP, LnO.nil _ _ _, Fr.refl _ _⟩
      case round =>
        obtain ⟨j, nl, cl, al, hj, rfl, hP, hL, hF⟩ := hrel
        by_cases hjM : j < M
        · obtain ⟨yb, yoff, rfl, hyc⟩ := hY.at j hjM
          have hlj : j < pcs.length := by rw [hY.1]; exact hjM
          have hyj := hF.cell (hyc j hjM) (by have := hyn yb (by simp [blkL, blk]); simpa using this)
          have hxs := Hr6.out (pcs[j]'hlj) (List.getElem_mem _)
          have hst := row_step Hls.out j hlj
          clear hyc
          generalize pcs[j]'hlj = x at hyj hxs hst
          have Hst := Lib.hid hst; clear hst
          obtain ⟨⟨e0, e1, e2, e3⟩, f1, f2, f3⟩ := hP
          obtain ⟨hl1, ts, hl2, hl3, hl4⟩ := hL
          have hnl : nl ≤ 1000 := by rw [← hl1, List.length_take]; omega
          have hbal : bp ∉ blkL al := fun h => by have := (hl3.lt bp (mem_blkL.1 h)).1; omega
          have HP := Lib.hid (show At4 wr bp (partL r 0) ⟨t0, m0, d0⟩ ⟨t1, m1, d1⟩ ⟨al, nl, cl⟩ from ⟨⟨e0, e1, e2, e3⟩, f1, f2, f3⟩)
          clear e0 e1 e2 f1 f2
          go_upto_region 14 with fail
          refine any_start (by kernel_rfl) ?_
          refine any_take [0, 2, 3, 4, 5, 6] (by kernel_rfl) ?_
          simp only [opsAt, List.getElem?_toArray, List.getElem?_cons_zero, List.getElem?_cons_succ]
          repeat (go_big_quiet_step (fail))
          refine wpQuiet_nil ?_
          generalize hwq : wr.drew = wq
          have hkq : Kp wr wq := hwq ▸ Kp.of_drewN wr 1
          replace e3 : wq.cell? ⟨bp, 3, none⟩ = some (.slice al nl cl) := hkq.cell e3
          have e3q := e3
          replace f3 := (HP.out.kp hkq).2.2.2
          have hyq := hkq.cell hyj
          have Htk := Lib.hid (tokens_any wq x hxs)
          clear hwq hyj
          refine any_two 1 7 (by kernel_rfl) ?_ ?_
          · simp only [opsAt, List.getElem?_toArray, List.getElem?_cons_zero, List.getElem?_cons_succ]
            go_wp2_with fail
            refine any_one 7 (by kernel_rfl) ?_
            simp only [opsAt, List.getElem?_toArray, List.getElem?_cons_zero, List.getElem?_cons_succ]
            go_wp2_with fail
            refine any_one 8 (by kernel_rfl) ?_
            simp only [opsAt, List.getElem?_toArray, List.getElem?_cons_zero, List.getElem?_cons_succ]
            go_wp2_with (go_at_call 77; go_loud (refine Htk.out.mono ?_); rintro e wc ⟨hkc, tt, mt, dt, rfl, hT, hmt, hdt, hbt⟩; have e3 := Kp.cell hkc e3; have f3 := Kp.frz hkc e3q f3; have e3c := e3)
            refine any_take [9] (by kernel_rfl) ?_
            simp only [opsAt, List.getElem?_toArray, List.getElem?_cons_zero, List.getElem?_cons_succ]
            repeat (go_big_quiet_step (fail))
            refine wpQuiet_nil ?_
            refine any_one 10 (by kernel_rfl) ?_
            simp only [opsAt, List.getElem?_toArray, List.getElem?_cons_zero, List.getElem?_cons_succ]
            go_wp2_with fail
            have hcs : Cs (wc.alloc (.cells #[iv ((j : Int) % 2), .slice tt mt dt] 73)) (some ⟨wc.heap.size, 0, none⟩) [iv ((j : Int) % 2), .slice tt mt dt] := Cs.new wc [iv ((j : Int) % 2), .slice tt mt dt] 73 (0, 0)
            have hkz : Kp wc (wc.alloc (.cells #[iv ((j : Int) % 2), .slice tt mt dt] 73)) := Kp.new wc _
            generalize wc.alloc (.cells #[iv ((j : Int) % 2), .slice tt mt dt] 73) = wz at hcs hkz ⊢
            have f3 := Kp.frz hkz e3c f3
            have e3 := Kp.cell hkz e3c
            have e3z := e3
            have hkwz : Kp wr wz := Kp.trans hkq (Kp.trans hkc hkz)
            refine any_one 11 (by kernel_rfl) ?_
            simp only [opsAt, List.getElem?_toArray, List.getElem?_cons_zero, List.getElem?_cons_succ]
            go_wp2_with (at_builtin; refine wpList_app rfl (.tmp 47) (.tmp 56) 24 rfl el24 w8.heap.size rfl (hl3.keep hkwz) rfl [iv ((j : Int) % 2), .slice tt mt dt] rfl hcs (by simp [Value.oneCell']) (nl + 1) rfl (lnc ((rowLs r).take j ++ [(((j % 2 : Nat) : Int), tokL x)]) (ts ++ [⟨tt, mt, dt⟩])) (lnc_append _ _ hl2) (by omega) (Nat.le_trans hF.size hkwz.size) ?_; intro ao2 cap2 w9 ha; have e3 := Fr.cell ha.fr e3 hbal; have f3 := Fr.free ha.fr e3z f3 hbal)
            refine any_take [12] (by kernel_rfl) ?_
            simp only [opsAt, List.getElem?_toArray, List.getElem?_cons_zero, List.getElem?_cons_succ]
            repeat (go_big_quiet_step (fail))
            refine wpQuiet_nil ?_
            refine any_one 13 (by kernel_rfl) ?_
            simp only [opsAt, List.getElem?_toArray, List.getElem?_cons_zero, List.getElem?_cons_succ]
            go_wp2_with fail
            refine any_end (by kernel_rfl) ?_
            have Hfin := Lib.hid (all_fin hl1 ts hl2 hl3 hl4 hkwz HP.out hF (by omega) (fun i hi => (hbt i hi)) hkq.size (hkc.trans hkz).size hkz.size (hkz.is hT) hmt hFb ha)
            go_wp2_with fail
            go_roundw
            case rel => exact ⟨j + 1, nl + 1, cap2, ao2, by omega, by go_num, Hfin.out.1, by rw [Hst.out]; exact Hfin.out.2.1, Hfin.out.2.2⟩
            case measure => simp [intOf]; omega
          · simp only [opsAt, List.getElem?_toArray, List.getElem?_cons_zero, List.getElem?_cons_succ]
            go_wp2_with fail
            refine any_two 1 8 (by kernel_rfl) ?_ ?_
            · simp only [opsAt, List.getElem?_toArray, List.getElem?_cons_zero, List.getElem?_cons_succ]
              go_wp2_with fail
              refine any_one 8 (by kernel_rfl) ?_
              simp only [opsAt, List.getElem?_toArray, List.getElem?_cons_zero, List.getElem?_cons_succ]
              go_wp2_with (go_at_call 77; go_loud (refine Htk.out.mono ?_); rintro e wc ⟨hkc, tt, mt, dt, rfl, hT, hmt, hdt, hbt⟩; have e3 := Kp.cell hkc e3; have f3 := Kp.frz hkc e3q f3; have e3c := e3)
              refine any_take [9] (by kernel_rfl) ?_
              simp only [opsAt, List.getElem?_toArray, List.getElem?_cons_zero, List.getElem?_cons_succ]
              repeat (go_big_quiet_step (fail))
              refine wpQuiet_nil ?_
              refine any_one 10 (by kernel_rfl) ?_
              simp only [opsAt, List.getElem?_toArray, List.getElem?_cons_zero, List.getElem?_cons_succ]
              go_wp2_with fail
              have hcs : Cs (wc.alloc (.cells #[iv ((j : Int) % 2), .slice tt mt dt] 73)) (some ⟨wc.heap.size, 0, none⟩) [iv ((j : Int) % 2), .slice tt mt dt] := Cs.new wc [iv ((j : Int) % 2), .slice tt mt dt] 73 (0, 0)
              have hkz : Kp wc (wc.alloc (.cells #[iv ((j : Int) % 2), .slice tt mt dt] 73)) := Kp.new wc _
              generalize wc.alloc (.cells #[iv ((j : Int) % 2), .slice tt mt dt] 73) = wz at hcs hkz ⊢
              have f3 := Kp.frz hkz e3c f3
              have e3 := Kp.cell hkz e3c
              have e3z := e3
              have hkwz : Kp wr wz := Kp.trans hkq (Kp.trans hkc hkz)
              refine any_one 11 (by kernel_rfl) ?_
              simp only [opsAt, List.getElem?_toArray, List.getElem?_cons_zero, List.getElem?_cons_succ]
              go_wp2_with (at_builtin; refine wpList_app rfl (.tmp 47) (.tmp 56) 24 rfl el24 w8.heap.size rfl (hl3.keep hkwz) rfl [iv ((j : Int) % 2), .slice tt mt dt] rfl hcs (by simp [Value.oneCell']) (nl + 1) rfl (lnc ((rowLs r).take j ++ [(((j % 2 : Nat) : Int), tokL x)]) (ts ++ [⟨tt, mt, dt⟩])) (lnc_append _ _ hl2) (by omega) (Nat.le_trans hF.size hkwz.size) ?_; intro ao2 cap2 w9 ha; have e3 := Fr.cell ha.fr e3 hbal; have f3 := Fr.free ha.fr e3z f3 hbal)
              refine any_take [12] (by kernel_rfl) ?_
              simp only [opsAt, List.getElem?_toArray, List.getElem?_cons_zero, List.getElem?_cons_succ]
              repeat (go_big_quiet_step (fail))
              refine wpQuiet_nil ?_
              refine any_one 13 (by kernel_rfl) ?_
              simp only [opsAt, List.getElem?_toArray, List.getElem?_cons_zero, List.getElem?_cons_succ]
              go_wp2_with fail
              refine any_end (by kernel_rfl) ?_
              have Hfin := Lib.hid (all_fin hl1 ts hl2 hl3 hl4 hkwz HP.out hF (by omega) (fun i hi => (hbt i hi)) hkq.size (hkc.trans hkz).size hkz.size (hkz.is hT) hmt hFb ha)
              go_wp2_with fail
              go_roundw
              case rel => exact ⟨j + 1, nl + 1, cap2, ao2, by omega, by go_num, Hfin.out.1, by rw [Hst.out]; exact Hfin.out.2.1, Hfin.out.2.2⟩
              case measure => simp [intOf]; omega
            · simp only [opsAt, List.getElem?_toArray, List.getElem?_cons_zero, List.getElem?_cons_succ]
              go_wp2_with (go_at_call 77; go_loud (refine Htk.out.mono ?_); rintro e wc ⟨hkc, tt, mt, dt, rfl, hT, hmt, hdt, hbt⟩; have e3 := Kp.cell hkc e3; have f3 := Kp.frz hkc e3q f3; have e3c := e3)
              refine any_take [9] (by kernel_rfl) ?_
              simp only [opsAt, List.getElem?_toArray, List.getElem?_cons_zero, List.getElem?_cons_succ]
              repeat (go_big_quiet_step (fail))
              refine wpQuiet_nil ?_
              refine any_two 1 10 (by kernel_rfl) ?_ ?_
              · simp only [opsAt, List.getElem?_toArray, List.getElem?_cons_zero, List.getElem?_cons_succ]
                go_wp2_with fail
                refine any_one 10 (by kernel_rfl) ?_
                simp only [opsAt, List.getElem?_toArray, List.getElem?_cons_zero, List.getElem?_cons_succ]
                go_wp2_with fail
                have hcs : Cs (wc.alloc (.cells #[iv ((j : Int) % 2), .slice tt mt dt] 73)) (some ⟨wc.heap.size, 0, none⟩) [iv ((j : Int) % 2), .slice tt mt dt] := Cs.new wc [iv ((j : Int) % 2), .slice tt mt dt] 73 (0, 0)
                have hkz : Kp wc (wc.alloc (.cells #[iv ((j : Int) % 2), .slice tt mt dt] 73)) := Kp.new wc _
                generalize wc.alloc (.cells #[iv ((j : Int) % 2), .slice tt mt dt] 73) = wz at hcs hkz ⊢
                have f3 := Kp.frz hkz e3c f3
                have e3 := Kp.cell hkz e3c
                have e3z := e3
                have hkwz : Kp wr wz := Kp.trans hkq (Kp.trans hkc hkz)
                refine any_one 11 (by kernel_rfl) ?_
                simp only [opsAt, List.getElem?_toArray, List.getElem?_cons_zero, List.getElem?_cons_succ]
                go_wp2_with (at_builtin; refine wpList_app rfl (.tmp 47) (.tmp 56) 24 rfl el24 w8.heap.size rfl (hl3.keep hkwz) rfl [iv ((j : Int) % 2), .slice tt mt dt] rfl hcs (by simp [Value.oneCell']) (nl + 1) rfl (lnc ((rowLs r).take j ++ [(((j % 2 : Nat) : Int), tokL x)]) (ts ++ [⟨tt, mt, dt⟩])) (lnc_append _ _ hl2) (by omega) (Nat.le_trans hF.size hkwz.size) ?_; intro ao2 cap2 w9 ha; have e3 := Fr.cell ha.fr e3 hbal; have f3 := Fr.free ha.fr e3z f3 hbal)
                refine any_take [12] (by kernel_rfl) ?_
                simp only [opsAt, List.getElem?_toArray, List.getElem?_cons_zero, List.getElem?_cons_succ]
                repeat (go_big_quiet_step (fail))
                refine wpQuiet_nil ?_
                refine any_one 13 (by kernel_rfl) ?_
                simp only [opsAt, List.getElem?_toArray, List.getElem?_cons_zero, List.getElem?_cons_succ]
                go_wp2_with fail
                refine any_end (by kernel_rfl) ?_
                have Hfin := Lib.hid (all_fin hl1 ts hl2 hl3 hl4 hkwz HP.out hF (by omega) (fun i hi => (hbt i hi)) hkq.size (hkc.trans hkz).size hkz.size (hkz.is hT) hmt hFb ha)
                go_wp2_with fail
                go_roundw
                case rel => exact ⟨j + 1, nl + 1, cap2, ao2, by omega, by go_num, Hfin.out.1, by rw [Hst.out]; exact Hfin.out.2.1, Hfin.out.2.2⟩
                case measure => simp [intOf]; omega
              · simp only [opsAt, List.getElem?_toArray, List.getElem?_cons_zero, List.getElem?_cons_succ]
                go_wp2_with fail
                have hcs : Cs (wc.alloc (.cells #[iv ((j : Int) % 2), .slice tt mt dt] 73)) (some ⟨wc.heap.size, 0, none⟩) [iv ((j : Int) % 2), .slice tt mt dt] := Cs.new wc [iv ((j : Int) % 2), .slice tt mt dt] 73 (0, 0)
                have hkz : Kp wc (wc.alloc (.cells #[iv ((j : Int) % 2), .slice tt mt dt] 73)) := Kp.new wc _
                generalize wc.alloc (.cells #[iv ((j : Int) % 2), .slice tt mt dt] 73) = wz at hcs hkz ⊢
                have f3 := Kp.frz hkz e3c f3
                have e3 := Kp.cell hkz e3c
                have e3z := e3
                refine any_one 1 (by kernel_rfl) ?_
                simp only [opsAt, List.getElem?_toArray, List.getElem?_cons_zero, List.getElem?_cons_succ]
                go_wp2_with fail
                have hkwz : Kp wr wz := Kp.trans hkq (Kp.trans hkc hkz)
                refine any_one 11 (by kernel_rfl) ?_
                simp only [opsAt, List.getElem?_toArray, List.getElem?_cons_zero, List.getElem?_cons_succ]
                go_wp2_with (at_builtin; refine wpList_app rfl (.tmp 47) (.tmp 56) 24 rfl el24 w8.heap.size rfl (hl3.keep hkwz) rfl [iv ((j : Int) % 2), .slice tt mt dt] rfl hcs (by simp [Value.oneCell']) (nl + 1) rfl (lnc ((rowLs r).take j ++ [(((j % 2 : Nat) : Int), tokL x)]) (ts ++ [⟨tt, mt, dt⟩])) (lnc_append _ _ hl2) (by omega) (Nat.le_trans hF.size hkwz.size) ?_; intro ao2 cap2 w9 ha; have e3 := Fr.cell ha.fr e3 hbal; have f3 := Fr.free ha.fr e3z f3 hbal)
                refine any_take [12] (by kernel_rfl) ?_
                simp only [opsAt, List.getElem?_toArray, List.getElem?_cons_zero, List.getElem?_cons_succ]
                repeat (go_big_quiet_step (fail))
                refine wpQuiet_nil ?_
                refine any_one 13 (by kernel_rfl) ?_
                simp only [opsAt, List.getElem?_toArray, List.getElem?_cons_zero, List.getElem?_cons_succ]
                go_wp2_with fail
                refine any_end (by kernel_rfl) ?_
                have Hfin := Lib.hid (all_fin hl1 ts hl2 hl3 hl4 hkwz HP.out hF (by omega) (fun i hi => (hbt i hi)) hkq.size (hkc.trans hkz).size hkz.size (hkz.is hT) hmt hFb ha)
                go_wp2_with fail
                go_roundw
                case rel => exact ⟨j + 1, nl + 1, cap2, ao2, by omega, by go_num, Hfin.out.1, by rw [Hst.out]; exact Hfin.out.2.1, Hfin.out.2.2⟩
                case measure => simp [intOf]; omega
        · obtain rfl : j = M := by omega
          rw [List.take_of_length_le (by rw [Hls.out]; unfold lineL; rw [List.length_mapIdx, hY.1]; exact Nat.le_refl _)] at hL
          have hnl : nl ≤ 1000 := by rw [← hL.1, Hls.out]; unfold lineL; rw [List.length_mapIdx, hY.1]; exact hM
          have hkwr : Kp wo wr := (((Fr.of_kp Hd.out.1).trans (Fr.of_kp Hd.out.2.1)).step (Hd.out.2.2.trans hF) (fun i hi => .inr (by simp at hi; omega))).kp
          have hSL : Sta wr (blkL ao ++ X) (fun w => Lns w al nl (rowLs r)) := hL.sta (by omega) (fun i hi => List.mem_cons_of_mem _ hi) (fun i hi hm => by
            obtain ⟨_, ts, _, hl3, _⟩ := hL
            have := (hl3.lt i (mem_blkL.1 hm)).1
            have := hFb i hi; omega)
          have hS0 := (HS.out.1.step hF (Z := blkL ao ++ X) (fun i hi => .inl (by simp at hi; simp [hi])) (fun i hi => .inl (List.mem_cons_of_mem _ hi)))
          have hS1 := (HS.out.2.step hF (Z := blkL ao ++ X) (fun i hi => .inl (by simp at hi; simp [hi])) (fun i hi => .inl (List.mem_cons_of_mem _ hi)))
          have hpv : Sta wr (blkL ao ++ X) (PvR r ⟨partL r 0, ⟨t0, m0, d0⟩, ⟨t1, m1, d1⟩, ⟨al, nl, cl⟩⟩) := fun w' k => ⟨hm0, hm1, by show nl ≤ 7007; omega, hS0 w' k, hS1 w' k, hSL w' k⟩
          obtain ⟨⟨e0, e1, e2, e3⟩, f1, f2, f3⟩ := hP
          unfold tvv at e1 e2 e3
          simp only at e1 e2 e3
          clear hSL hS0 hS1 HS hL hF Hd
          have hcs : Cs (wr.alloc (.cells #[.string (partL r 0), .slice t0 m0 d0, .slice t1 m1 d1, .slice al nl cl] 26)) (some ⟨wr.heap.size, 0, none⟩) [.string (partL r 0), .slice t0 m0 d0, .slice t1 m1 d1, .slice al nl cl] := Cs.new wr [.string (partL r 0), .slice t0 m0 d0, .slice t1 m1 d1, .slice al nl cl] 26 (0, 0)
          have hown2 : Own (wr.alloc (.cells #[.string (partL r 0), .slice t0 m0 d0, .slice t1 m1 d1, .slice al nl cl] 26)) w1.heap.size 26 4 ao k cap (ps.flatMap pvc) := hown.keep (Kp.trans hkwr (Kp.new _ _))
          have hbase : w1.heap.size ≤ (wr.alloc (.cells #[.string (partL r 0), .slice t0 m0 d0, .slice t1 m1 d1, .slice al nl cl] 26)).heap.size := Nat.le_trans hkk.size (Nat.le_trans hkwr.size (by simp))
          have hzs : (ps ++ [(⟨partL r 0, ⟨t0, m0, d0⟩, ⟨t1, m1, d1⟩, ⟨al, nl, cl⟩⟩ : Pv)]).flatMap pvc = ps.flatMap pvc ++ [.string (partL r 0), .slice t0 m0 d0, .slice t1 m1 d1, .slice al nl cl] := by simp [pvc, tvv]
          have hby : (k + 1) * 88 ≤ 140737488355328 := by omega
          have hone : ∀ u ∈ ([.string (partL r 0), .slice t0 m0 d0, .slice t1 m1 d1, .slice al nl cl] : List Value), u.oneCell' = true := by simp [Value.oneCell']
          go_wp2_with (at_builtin; refine wpList_app rfl (.tmp 59) (.tmp 61) 53 rfl el80 w1.heap.size rfl hown2 rfl [.string (partL r 0), .slice t0 m0 d0, .slice t1 m1 d1, .slice al nl cl] rfl hcs hone (k + 1) rfl ((ps ++ [(⟨partL r 0, ⟨t0, m0, d0⟩, ⟨t1, m1, d1⟩, ⟨al, nl, cl⟩⟩ : Pv)]).flatMap pvc) hzs hby hbase ?_; intro ao2 cap2 w9 ha)
          have Hfin := Lib.hid (show PvO w9 w1.heap.size X ao2 (k + 1) cap2 (k + 1) ∧ Kp w1 w9 from ⟨PvO.app (k := k) ps rfl hpl Hps.out (Kp.trans hkwr (Kp.new _ _)) ⟨partL r 0, ⟨t0, m0, d0⟩, ⟨t1, m1, d1⟩, ⟨al, nl, cl⟩⟩ r Hrk.out rfl (hpv.kp (Kp.new _ _)) rfl ha, ((Fr.of_kp (Kp.trans hkk (Kp.trans hkwr (Kp.new _ _)))).step ha.fr (fun i hi => .inr (hown2.lt i (mem_blkL.1 hi)).1)).kp⟩)
          clear ha
          go_wp2_with fail
          go_roundw
          case rel => exact ⟨k + 1, k + 1, cap2, ao2, by omega, by go_num, rfl, Hfin.out.1, Hfin.out.2⟩
          case measure => simp [intOf]; omega
    · obtain rfl : k = 38 := by omega
      have hpost : AllPost w X (.returned (.slice ao n cap)) wr := ⟨Kp.trans hk1 hkk, ao, n, cap, rfl, hO.mono hw1⟩
      have Hpost := Lib.hid hpost; clear hpost hO
      go_wp2_with fail
      go_ret
      exact Hpost.out
end Go.Proofs.YtkmejehhdjdlbaaGreatDoor

namespace Go.Proofs.YtkmejehhdjdlbaaGreatDoor
open Go.RowKit

/-- The document's table, read. -/
def refL : List (Q.Bt × (List Int × List Int) × List Ln) := rowsL.map fun r => ((partL r 0).data.toList, (tokLQ (partL r 1), tokLQ (partL r 2)), rowLsQ r)
theorem ref_rows : (refL.map fun x => (rowOf x.1).map (fun y => (y.1, y.2.1, y.2.2.1))) = refL.map some := by kernel_rfl
theorem ref_names : (Q.tableL.all fun y => refL.any (fun x => x.1 == y.1)) = true := by kernel_rfl
theorem ref_small : (refL.all fun x => decide (x.2.1.1.length ≤ 2) && decide (x.2.1.2.length ≤ 2) && decide (x.2.2.length ≤ 4) && x.2.2.all (fun l => decide (l.2.length ≤ 5))) = true := by kernel_rfl
theorem ref_mem {k : Nat} {r : ByteArray} (h : rowsL[k]? = some r) : ((partL r 0).data.toList, (tokL (partL r 1), tokL (partL r 2)), rowLs r) ∈ refL := by
  rw [tokL_q, tokL_q, rowLs_q]
  exact List.mem_map.2 ⟨r, List.mem_of_getElem? h, rfl⟩
theorem ref_at {k : Nat} {r : ByteArray} (h : rowsL[k]? = some r) : ∃ y : Row, rowOf (partL r 0).data.toList = some y ∧ y.1 = (partL r 0).data.toList ∧ y.2.1.1 = tokL (partL r 1) ∧ y.2.1.2 = tokL (partL r 2) ∧ y.2.2.1 = rowLs r := by
  have hm := ref_mem h
  obtain ⟨j, hj⟩ := List.getElem?_of_mem hm
  have h1 : (refL.map fun x => (rowOf x.1).map (fun y => (y.1, y.2.1, y.2.2.1)))[j]? = (refL.map some)[j]? := by rw [ref_rows]
  rw [List.getElem?_map, List.getElem?_map, hj] at h1
  simp only [Option.map_some, Option.some.injEq] at h1
  obtain ⟨y, hy, he⟩ := Option.map_eq_some_iff.1 h1
  simp only [Prod.mk.injEq] at he
  exact ⟨y, hy, he.1, by rw [he.2.1], by rw [he.2.1], he.2.2⟩
theorem ref_none {nm : Q.Bt} (h : ∀ (k : Nat) (r : ByteArray), rowsL[k]? = some r → (partL r 0).data.toList ≠ nm) : rowOf nm = none := by
  unfold rowOf
  rw [List.find?_eq_none]
  intro y hy hc
  have h1 := List.all_eq_true.1 ref_names y hy
  obtain ⟨x, hx, hxe⟩ := List.any_eq_true.1 h1
  obtain ⟨r, hr, rfl⟩ := List.mem_map.1 hx
  obtain ⟨k, hk⟩ := List.getElem?_of_mem hr
  exact h k r hk ((beq_iff_eq.1 hxe).trans (beq_iff_eq.1 hc))
/-- What the document's Find answers. -/
def RFindPost (w : World) (nm : Q.Bt) (e : Ending) (w' : World) : Prop := Kp w w' ∧ match rowOf nm with
  | none => e = .returned (.tuple #[zeroP, .bool false])
  | some y => ∃ t0 t1 tl : Tv, e = .returned (.tuple #[.agg #[.string (bs y.1), tvv t0, tvv t1, tvv tl], .bool true]) ∧ PatI w' t0.ao t1.ao tl.ao t0.n t1.n tl.n y.2.1.1 y.2.1.2 y.2.2.1
theorem RFindPost.no {w w' : World} {nm : Q.Bt} (hk : Kp w w') (h : rowOf nm = none) : RFindPost w nm (.returned (.tuple #[zeroP, .bool false])) w' := ⟨hk, by rw [h]⟩
theorem RFindPost.yes {w w' : World} {nm : Q.Bt} {y : Row} {t0 t1 tl : Tv} (hk : Kp w w') (h : rowOf nm = some y) (hp : PatI w' t0.ao t1.ao tl.ao t0.n t1.n tl.n y.2.1.1 y.2.1.2 y.2.2.1) :
    RFindPost w nm (.returned (.tuple #[.agg #[.string (bs y.1), tvv t0, tvv t1, tvv tl], .bool true])) w' := ⟨hk, by rw [h]; exact ⟨t0, t1, tl, rfl, hp⟩⟩
theorem bs_of {s : ByteArray} {x : Q.Bt} (h : x = s.data.toList) : bs x = s := by subst h; exact bs_data s

attribute [local irreducible] tblK tblP tblQ Q.piecesB Q.tableB Q.tableL rowOf rowsL
set_option maxRecDepth 100000 in
set_option maxHeartbeats 4000000 in
theorem rfind_any (w : World) (s : ByteArray) : Calls Tryz.prog 33 #[.string s] w (RFindPost w s.data.toList) := by
  have Ha := Lib.hid (all_any (w.alloc (.cells #[.string ⟨#[]⟩, .slice none 0 0, .slice none 0 0, .slice none 0 0] 26)) [w.heap.size] (by simp))
  have hF4 := Four.new w (.string ⟨#[]⟩) (.slice none 0 0) (.slice none 0 0) (.slice none 0 0) 26
  have HF4 := Lib.hid hF4
  have hk0 := Kp.new w (.cells #[.string ⟨#[]⟩, .slice none 0 0, .slice none 0 0, .slice none 0 0] 26)
  have Hk0 := Lib.hid hk0
  clear hF4 hk0
  go_enter Tryz.func33, Tryz.ntmps33
  go_wp2_with fail
  (with_reducible refine Ha.out.mono ?_)
  rintro e w1 ⟨hk1, ao, n, cap, rfl, hn, ps, hpl, hown, hps⟩
  subst hn
  have HF := Lib.hid (HF4.out.kp hk1)
  have HK := Lib.hid (Kp.trans Hk0.out hk1)
  have hcs := hown.cs
  obtain ⟨b, off, rfl, hc⟩ := hcs.at 0 (by rw [pvc_len]; omega)
  have hcell : ∀ j (h : j < ps.length), w1.cell? ⟨b, off + j * 4, none⟩ = some (.string ps[j].nm) ∧ w1.cell? ⟨b, off + j * 4 + 1, none⟩ = some (tvv ps[j].b0) ∧ w1.cell? ⟨b, off + j * 4 + 2, none⟩ = some (tvv ps[j].b1) ∧ w1.cell? ⟨b, off + j * 4 + 3, none⟩ = some (tvv ps[j].ls) := fun j h => by
    obtain ⟨g0, g1, g2, g3⟩ := pvc_get ps j h
    refine ⟨hc _ _ g0, ?_, ?_, ?_⟩
    · have := hc _ _ g1; rwa [← Nat.add_assoc] at this
    · have := hc _ _ g2; rwa [← Nat.add_assoc] at this
    · have := hc _ _ g3; rwa [← Nat.add_assoc] at this
  have Hps := Lib.hid hps
  have Hcell := Lib.hid hcell
  clear hps hcell hc hcs hown Ha hk1 HF4 Hk0
  go_wp2_with fail
  go_loopw [5] (fun i wr => ∃ k : Nat, k ≤ 38 ∧ i = .int .i64 (k : Nat) ∧ w1 = wr ∧ ∀ (j : Nat) (r : ByteArray), j < k → rowsL[j]? = some r → (partL r 0).data.toList ≠ s.data.toList) (fun i _ => 38 - (intOf i).toNat)
  case atStart => exact ⟨0, by omega, rfl, rfl, fun j r hj => by omega⟩
  case round =>
    obtain ⟨k, hk, rfl, rfl, hno⟩ := hrel
    have Hno := Lib.hid hno
    clear hno
    by_cases hlt : k < 38
    · have hkl : k < ps.length := by omega
      obtain ⟨g0, g1, g2, g3⟩ := Hcell.out k hkl
      obtain ⟨r, hr⟩ : ∃ r, rowsL[k]? = some r := ⟨_, List.getElem?_eq_getElem (by rw [rowsL_length]; omega)⟩
      have hnm := (Hps.out k hkl r hr).1
      by_cases heq : (partL r 0).data.toList = s.data.toList
      · obtain ⟨y, hy1, hy2, hy3, hy4, hy5⟩ := ref_at hr
        have hfin : ∀ w', Fr [w.heap.size] w1 w' → PatI w' (ps[k]'hkl).b0.ao (ps[k]'hkl).b1.ao (ps[k]'hkl).ls.ao (ps[k]'hkl).b0.n (ps[k]'hkl).b1.n (ps[k]'hkl).ls.n y.2.1.1 y.2.1.2 y.2.2.1 := fun w' hk => by
          obtain ⟨_, _, _, q1, q2, q3⟩ := (Hps.out k hkl r hr).2 w' (hk.mono (fun j hj => List.mem_append.2 (.inr hj)))
          rw [hy3, hy4, hy5]
          exact ⟨q1, q2, q3⟩
        have Hfin := Lib.hid hfin
        have hnmy : (ps[k]'hkl).nm = bs y.1 := by rw [hnm, hy2]; exact (bs_data _).symm
        have Hrow := Lib.hid (show rowOf s.data.toList = some y by rw [← heq]; exact hy1)
        have Hb := Lib.hid (show ((bs y.1).toList == s.toList) = true by rw [Lib.toList_data, Lib.toList_data, bs_list, hy2, heq, beq_self_eq_true])
        rw [hnmy] at g0
        generalize ps[k]'hkl = p at g1 g2 g3 Hfin
        obtain ⟨nm, ⟨t0, m0, c0⟩, ⟨t1, m1, c1⟩, ⟨tl, nl, cl⟩⟩ := p
        unfold tvv at g1 g2 g3
        simp only at g1 g2 g3 Hfin
        obtain ⟨wf, hwf, hF, hPf⟩ := HF.out.set (.string (bs y.1)) (.slice t0 m0 c0) (.slice t1 m1 c1) (.slice tl nl cl)
        have hpost : RFindPost w s.data.toList (.returned (.tuple #[.agg #[.string (bs y.1), .slice t0 m0 c0, .slice t1 m1 c1, .slice tl nl cl], .bool true])) wf :=
          RFindPost.yes (t0 := ⟨t0, m0, c0⟩) (t1 := ⟨t1, m1, c1⟩) (tl := ⟨tl, nl, cl⟩) (((Fr.of_kp HK.out).step hF (fun i hi => .inr (by simp at hi; omega))).kp) Hrow.out (Hfin.out _ hF)
        have Hpost := Lib.hid hpost
        have Hwf := Lib.hid hwf
        obtain ⟨s0, s1, s2, s3, f0, f1, f2, f3⟩ := HF.out
        obtain ⟨c0', c1', c2', c3', _, _, _, _⟩ := hPf
        have hb := Hb.out
        clear hfin hpost hwf hF hr hnm heq hnmy hy1 hy2 hy3 hy4 hy5
        go_wp2_with fail
        rw [← Hwf.out]
        refine bodyPost_ret (v := .tuple #[.agg #[.string (bs y.1), .slice t0 m0 c0, .slice t1 m1 c1, .slice tl nl cl], .bool true]) (by simp [results, Tryz.results33, go_sem, c0', c1', c2', c3']) rfl Hpost.out
      · have hb : ((partL r 0).toList == s.toList) = false := by rw [Lib.toList_data, Lib.toList_data, beq_eq_false_iff_ne]; exact heq
        rw [← hnm] at hb
        have Hnext := Lib.hid (show ∀ (j : Nat) (r : ByteArray), j < k + 1 → rowsL[j]? = some r → (partL r 0).data.toList ≠ s.data.toList from fun j r' hj hr' => by
          rcases Nat.lt_or_ge j k with q | q
          · exact Hno.out j r' q hr'
          · obtain rfl : j = k := by omega
            rw [hr] at hr'
            cases hr'
            exact heq)
        generalize ps[k]'hkl = p at g0 g1 g2 g3 hb
        clear hr hnm g1 g2 g3 heq
        go_wp2_with fail
        go_roundw
        case rel => exact ⟨k + 1, by omega, by go_num, trivial, Hnext.out⟩
        case measure => simp [intOf]; omega
    · obtain rfl : k = 38 := by omega
      have hno : rowOf s.data.toList = none := ref_none (fun k r hr => Hno.out k r (by
        have := (List.getElem?_eq_some_iff.1 hr).1
        rw [rowsL_length] at this
        exact this) hr)
      obtain ⟨wf, hwf, hF, hPf⟩ := HF.out.set (.string ⟨#[]⟩) (.slice none 0 0) (.slice none 0 0) (.slice none 0 0)
      have Hpost := Lib.hid (RFindPost.no (((Fr.of_kp HK.out).step hF (fun i hi => .inr (by simp at hi; omega))).kp) hno)
      have Hwf := Lib.hid hwf
      obtain ⟨s0, s1, s2, s3, f0, f1, f2, f3⟩ := HF.out
      obtain ⟨c0', c1', c2', c3', _, _, _, _⟩ := hPf
      clear hno hwf hF
      go_wp2_with fail
      rw [← Hwf.out]
      refine bodyPost_ret (v := .tuple #[zeroP, .bool false]) (by simp [results, Tryz.results33, go_sem, c0', c1', c2', c3']) rfl Hpost.out
end Go.Proofs.YtkmejehhdjdlbaaGreatDoor

namespace Go.Proofs.YtkmejehhdjdlbaaGreatDoor
open Go.RowKit

/-- What is found: the name, what is known ahead, the messages; is there one? -/
def fnd (nm : Q.Bt) : ByteArray × List Int × List Int × List Ln × Bool := match rowOf nm with
  | none => (⟨#[]⟩, [], [], [], false)
  | some y => (bs y.1, y.2.1.1, y.2.1.2, y.2.2.1, true)
theorem row_small {nm : Q.Bt} {y : Row} (h : rowOf nm = some y) : y.2.2.1.length ≤ 5000 ∧ ∀ l ∈ y.2.2.1, l.2.length ≤ 5000 := by
  have hm := List.mem_of_find?_eq_some h
  have ht : (Q.tableL.all fun y => decide (y.2.2.1.length ≤ 5000) && y.2.2.1.all (fun l => decide (l.2.length ≤ 5000))) = true := by kernel_rfl
  have := List.all_eq_true.1 ht y hm
  simp only [Bool.and_eq_true, decide_eq_true_eq, List.all_eq_true] at this
  exact this
theorem find_all (w : World) (E : Nat → Addr) (m : Int) (hE : Env w E m) (s : ByteArray) (hs : s.size ≤ maxLen) : Calls Tryz.prog 32 #[.string s] w fun e w' => Kp w w' ∧ ∃ t0 t1 tl : Tv,
    e = .returned (.tuple #[.agg #[.string (fnd s.data.toList).1, tvv t0, tvv t1, tvv tl], .bool (fnd s.data.toList).2.2.2.2]) ∧ PatI w' t0.ao t1.ao tl.ao t0.n t1.n tl.n (fnd s.data.toList).2.1 (fnd s.data.toList).2.2.1 (fnd s.data.toList).2.2.2.1 := by
  refine (find_any s m E (E 8) w hs hE.mx hE.errs hE.c5).mono ?_
  rintro e w' ⟨hk, h⟩
  refine ⟨hk, ?_⟩
  unfold fnd
  cases hq : rowOf s.data.toList with
  | none =>
    rw [hq] at h
    exact ⟨nilT, nilT, nilT, h, PatI.none w'⟩
  | some y =>
    rw [hq] at h
    obtain ⟨t0, t1, tl, ts, he, hP⟩ := h
    have hs := row_small hq
    exact ⟨t0, t1, tl, he, hP.patI hs.1 hs.2⟩
theorem rfind_all (w : World) (s : ByteArray) (_ : s.size ≤ maxLen) : Calls Tryz.prog 33 #[.string s] w fun e w' => Kp w w' ∧ ∃ t0 t1 tl : Tv,
    e = .returned (.tuple #[.agg #[.string (fnd s.data.toList).1, tvv t0, tvv t1, tvv tl], .bool (fnd s.data.toList).2.2.2.2]) ∧ PatI w' t0.ao t1.ao tl.ao t0.n t1.n tl.n (fnd s.data.toList).2.1 (fnd s.data.toList).2.2.1 (fnd s.data.toList).2.2.2.1 := by
  refine (rfind_any w s).mono ?_
  rintro e w' ⟨hk, h⟩
  refine ⟨hk, ?_⟩
  unfold fnd
  cases hq : rowOf s.data.toList with
  | none =>
    rw [hq] at h
    exact ⟨nilT, nilT, nilT, h, PatI.none w'⟩
  | some y =>
    rw [hq] at h
    obtain ⟨t0, t1, tl, he, hP⟩ := h
    exact ⟨t0, t1, tl, he, hP⟩
end Go.Proofs.YtkmejehhdjdlbaaGreatDoor

namespace Go.Proofs.YtkmejehhdjdlbaaGreatDoor
open Go.RowKit

def sortedB : List Q.Bt → Bool
  | x :: y :: r => decide (x ≤ y) && sortedB (y :: r)
  | _ => true
theorem ref_sorted : sortedB (refL.map (·.1)) = true := by kernel_rfl
theorem ref_perm : (refL.map (·.1)).isPerm (Q.tableL.map (·.1)) = true := by kernel_rfl
theorem sortedB_pair : ∀ {l : List Q.Bt}, sortedB l = true → l.Pairwise (fun x y => decide (x ≤ y) = true)
  | [], _ => List.Pairwise.nil
  | [_], _ => by simp
  | x :: y :: r, h => by
    simp only [sortedB, Bool.and_eq_true] at h
    have ih := sortedB_pair h.2
    refine List.pairwise_cons.2 ⟨fun z hz => ?_, ih⟩
    rcases List.mem_cons.1 hz with rfl | hz
    · exact h.1
    · have h1 := (List.pairwise_cons.1 ih).1 z hz
      simp only [decide_eq_true_eq] at h h1 ⊢
      exact List.le_trans h.1 h1
theorem namesS_ref : namesS = refL.map (·.1) := by
  unfold namesS
  rw [← mergeSort_of_perm (List.isPerm_iff.1 ref_perm), List.mergeSort_of_pairwise (sortedB_pair ref_sorted)]
/-- The name at a place of the order is the document's. -/
theorem namesS_at {k : Nat} (h : k < namesS.length) {r : ByteArray} (hr : rowsL[k]? = some r) : namesS[k] = (partL r 0).data.toList := by
  have h1 : (refL.map (·.1))[k]? = some namesS[k] := by rw [← namesS_ref]; exact List.getElem?_eq_getElem h
  unfold refL at h1
  simp only [List.map_map, List.getElem?_map, hr, Option.map_some, Option.some.injEq] at h1
  exact h1.symm
end Go.Proofs.YtkmejehhdjdlbaaGreatDoor
