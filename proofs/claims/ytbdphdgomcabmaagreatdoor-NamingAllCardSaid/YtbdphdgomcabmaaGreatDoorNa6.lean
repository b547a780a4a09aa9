/- Parts of the walks and plain laws, merged: Modi, MdfE, RefCopy, RefBack, Split, Tokens, RefWordsP, RefWords, RefNum. Each theorem bears its own conditions; no other. -/
import Derived.Test.YtbdphdgomcabmaaGreatDoorNa5
import Derived.Lib.ItoaLen
import Derived.Test.YtbdphdgomcabmaaGreatDoorNa1
import Derived.Test.YtbdphdgomcabmaaGreatDoorRefShaped
import Derived.Test.YtbdphdgomcabmaaGreatDoorNa3
namespace Go.Proofs.YtbdphdgomcabmaaGreatDoor
open Go.RowKit

theorem word_short {l : Q.Bt} {n : Nat} (h : Q.numP l = some n) : n ≤ 9223372036854775807 ∧ l.length ≤ 24 := by
  rcases Nat.lt_or_ge 3 l.length with h3 | h3
  · cases hp : (l.take 3 == [112, 115, 107]) with
    | false => rw [num_head hp] at h; cases h
    | true =>
      rw [num_rest h3 hp] at h
      cases ha : Lib.atoiAll (l.drop 3) with
      | ok v =>
        rw [ha] at h
        simp only at h
        split at h
        · rename_i hc
          have hw := atoi_wide ha
          have hl := Lib.itoa_length_le v (by omega) hw.2
          rw [hc.2, List.length_drop] at hl
          have := Option.some.inj h
          omega
        · cases h
      | «syntax» => rw [ha] at h; cases h
      | range => rw [ha] at h; cases h
  · rw [num_short h3] at h; cases h
theorem wb_get {ss : List ByteArray} {k : Nat} (h : k < ss.length) (h' : k < (wb ss).length) : (wb ss)[k] = ss[k].data.toList := List.getElem_map (fun x : ByteArray => x.data.toList)
/-- What a round looks at. -/
structure ModI (w0 wr : World) (B bx : Nat) (p : Q.Pn) (ws : List Q.Bt) (k least : Nat) (q : Q.Pn) : Prop where
  l : MdL w0 wr B bx k q
  g : Q.goM srtI 0 0 p ws = Q.goM srtI k least q (ws.drop k)
  n : q.nm.length ≤ 140737488351232 + 25 * k
  s : least ≤ 30000
theorem ModI.step {w0 wr w1 : World} {B bx : Nat} {p : Q.Pn} {ws : List Q.Bt} {k least least' : Nat} {q q1 : Q.Pn} (h : ModI w0 wr B bx p ws k least q) (hk : k < ws.length) (hw : Q.wordP srtI k least q ws[k] = some (least', q1)) (hq : q1.nm = q.nm) (hl : ws[k].length ≤ 24) (hs : least' ≤ 30000)
    (nm1 : ByteArray) (t0 t1 tf : Tv) (td ts : List Tv) (D : List Ln) (hm : MdS w1 B bx nm1 t0 t1 tf td ts D q1.ls q1.b0 q1.b1) (kp : Kp w0 w1) (hb : w0.heap.size ≤ bx) (hz : Four w1 (bx + 1) (.string ⟨#[]⟩) (.slice none 0 0) (.slice none 0 0) (.slice none 0 0))
    (ln : ∀ l ∈ q1.ls, (l.1 = 0 ∨ l.1 = 1) ∧ l.2 ≠ [] ∧ l.2.length ≤ 24 + (k + 1)) (ll : q1.ls.length ≤ 24) (l0 : q1.b0.length ≤ 2 + 2 * (k + 1)) (l1 : q1.b1.length ≤ 2 + 2 * (k + 1)) (u : ByteArray) (hu : u = bs (q.nm ++ Q.plusW k ws[k])) :
    ModI w0 (w1.setCell ⟨bx, 0, none⟩ (.string u)) B bx p ws (k + 1) least' { q1 with nm := q1.nm ++ Q.plusW k ws[k] } := by
  have hf := Fr.set w1 ⟨bx, 0, none⟩ (.string u)
  refine ⟨⟨⟨t0, t1, tf, td, ts, D, ?_, fun h => by omega⟩, kp_step' kp hf (fun j hj => by simp at hj; omega), hz.fr hf (by simp), ln, ll, fun h => by omega, l0, l1⟩, ?_, ?_, hs⟩
  · have := hm.name u
    rw [hq, ← hu]
    exact this
  · rw [h.g, goM_step hk, hw]
  · have := h.n
    unfold Q.plusW
    simp only [hq, List.length_append]
    split <;> simp <;> omega
set_option maxRecDepth 100000 in
set_option maxHeartbeats 8000000 in
theorem modify_wide (w : World) (E : Nat → Addr) (m : Int) (hE : Env w E m) (nm : ByteArray) (a0 a1 al : Option Addr) (n0 c0 n1 c1 nl cl : Nat) (b0 b1 : List Int) (ls : List Ln) (hP : PatI w a0 a1 al n0 n1 nl b0 b1 ls) (hs : ShortM nm n0 n1 nl ls)
    (ao : Option Addr) (nw cw : Nat) (ss : List ByteArray) (hW : Strs w ao nw ss) (hz : ∀ s ∈ ss, s.size ≤ 281474976710656) (hn : nw ≤ 200) :
    Calls Tryz.prog 17 #[patV nm a0 a1 al n0 c0 n1 c1 nl cl, .slice ao nw cw] w (ModPost w E ⟨nm.data.toList, b0, b1, ls⟩ (wb ss)) := by
  have Hs := Lib.hid hs
  have HPI := Lib.hid hP
  have HW := Lib.hid hW
  have Hz := Lib.hid hz
  have HE := Lib.hid hE
  have hw1 : 1 < w.heap.size := World.block_lt_of_cell? w _ hE.c0
  have Hw1 := Lib.hid hw1
  have hkA := Kp.new w (.cells #[.string nm, .slice a0 n0 c0, .slice a1 n1 c1, .slice al nl cl] 26)
  have hkB := Kp.new (w.alloc (.cells #[.string nm, .slice a0 n0 c0, .slice a1 n1 c1, .slice al nl cl] 26)) (.cells #[.string ⟨#[]⟩, .slice none 0 0, .slice none 0 0, .slice none 0 0] 26)
  have hFA := (Four.new w (.string nm) (.slice a0 n0 c0) (.slice a1 n1 c1) (.slice al nl cl) 26).kp hkB
  have hFB := Four.new (w.alloc (.cells #[.string nm, .slice a0 n0 c0, .slice a1 n1 c1, .slice al nl cl] 26)) (.string ⟨#[]⟩) (.slice none 0 0) (.slice none 0 0) (.slice none 0 0) 26
  rw [World.size_alloc] at hFB
  have hkw := Kp.trans hkA hkB
  clear hkA hkB hP hs hW hz hE
  go_enter Tryz.func17, Tryz.ntmps17
  go_upto_region 1 with fail
  obtain ⟨bx, hbx⟩ : ∃ bx, bx = w.heap.size := ⟨_, rfl⟩
  rw [← hbx] at hFA hFB hw1 ⊢
  generalize (w.alloc (.cells #[.string nm, .slice a0 n0 c0, .slice a1 n1 c1, .slice al nl cl] 26)).alloc (.cells #[.string ⟨#[]⟩, .slice none 0 0, .slice none 0 0, .slice none 0 0] 26) = wb1 at *
  have Hbx := Lib.hid hbx
  clear hbx
  have HC := Lib.hid (check_any wb1 E (hkw.errs HE.out.errs) nm a0 a1 al n0 c0 n1 c1 nl cl b0 b1 ls (hkw.is HPI.out.i0) (hkw.is HPI.out.i1) (hkw.lns HPI.out.il))
  have HFA := Lib.hid hFA
  have HFB := Lib.hid hFB
  have Hkw := Lib.hid hkw
  by_cases hc : checkL b0 b1 ls = 0
  · have Hc := Lib.hid hc
    have hcl := code0 hc
    rw [show errV E (checkL b0 b1 ls) = .nilIface by rw [hc]; rfl] at HC
    obtain ⟨y0, y1, y2, y3, z0, z1, z2, z3⟩ := hFA
    clear hc hFB hkw
    go_upto_region 4 with (go_at_call 20; go_loud (refine HC.out.mono ?_); rintro e w2 ⟨rfl, hk2⟩)
    have Hk2 := Lib.hid (Kp.trans Hkw.out hk2)
    have HCl := Lib.hid (cloned_any w2 nm a0 a1 al n0 c0 n1 c1 nl cl b0 b1 ls ⟨Hk2.out.is HPI.out.i0, Hk2.out.is HPI.out.i1, Hk2.out.lns HPI.out.il⟩ Hs.out)
    have hF2 := HFA.out.kp hk2
    have hZ2 := HFB.out.kp hk2
    have hs2 := hZ2.lt
    clear y0 y1 y2 y3 z0 z1 z2 z3
    have HZ2 := Lib.hid hZ2
    have HF2 := Lib.hid hF2
    obtain ⟨y0, y1, y2, y3, z0, z1, z2, z3⟩ := hF2
    clear hk2 hZ2
    go_wp2_with fail
    (with_reducible refine HCl.out.mono ?_)
    rintro e w3 ⟨hk3, t0, t1, tl, ts, rfl, hts, hsep⟩
    unfold tvv
    have hF3 := HF2.out.kp hk3
    obtain ⟨wf, hwf, hF, hPf⟩ := hF3.set (.string nm) (tvv t0) (tvv t1) (tvv tl)
    have hL : MdL w wf w2.heap.size bx 0 ⟨nm.data.toList, b0, b1, ls⟩ := by
      refine ⟨⟨t0, t1, tl, [], ts, [], ⟨?_, rfl, by simp, hts, hsep.fr hF (fun x hx => by simp at hx; omega), by omega⟩, fun _ => rfl⟩, ?_, (HZ2.out.kp hk3).fr hF (by simp), ?_, ?_, fun _ => hcl.2.2.1, ?_, ?_⟩
      · rw [bs_data]; exact hPf
      · exact kp_step' (Kp.trans Hk2.out hk3) hF (fun j hj => by simp at hj; have := Hbx.out; omega)
      · exact fun l hl => by have := hcl.2.2.2.2 l hl; exact ⟨this.1, this.2.1, this.2.2.1⟩
      · exact hcl.2.2.2.1
      · have := okB_len hcl.1; simp only; omega
      · have := okB_len hcl.2.1; simp only; omega
    have HM := Lib.hid (show ModI w wf w2.heap.size bx ⟨nm.data.toList, b0, b1, ls⟩ (wb ss) 0 0 ⟨nm.data.toList, b0, b1, ls⟩ from ⟨hL, rfl, by
      have h1 := Hs.out.nm
      have h2 := Lib.size_eq nm
      simp only; omega, by omega⟩)
    have Hwf := Lib.hid hwf
    have Hhl := Lib.hid (show bx + 1 < w2.heap.size from hs2)
    clear y0 y1 y2 y3 z0 z1 z2 z3 hwf hF hPf hL hsep hts
    obtain ⟨y0, y1, y2, y3, z0, z1, z2, z3⟩ := hF3
    unfold tvv at Hwf
    clear hk3
    generalize w2.heap.size = B at *
    go_wp2_with fail
    rw [← Hwf.out]
    go_loopw [7, 23] (fun v i wr => ∃ (k least : Nat) (q : Q.Pn), k ≤ nw ∧ i = .int .i64 (k : Nat) ∧ v = .int .i64 (least : Nat) ∧ ModI w wr B bx ⟨nm.data.toList, b0, b1, ls⟩ (wb ss) k least q) (fun _ i _ => nw - (intOf i).toNat)
    case atStart => exact ⟨0, 0, _, by omega, rfl, rfl, HM.out⟩
    case round =>
      obtain ⟨k, least, q, hk, rfl, rfl, hM⟩ := hrel
      rename World => wr
      have Hk3 := Lib.hid hM.l.kp
      have hz4 := hM.l.zero
      have HM := Lib.hid hM
      have HZ4 := Lib.hid hz4
      clear hM y0 y1 y2 y3 z0 z1 z2 z3 hz4
      obtain ⟨t0', t1', tf, td, ts', D, hmem, hD⟩ := HM.out.l.mem
      have Hmem := Lib.hid hmem
      have hF4 := hmem.four
      clear hmem
      by_cases hlt : k < nw
      · have hkl : k < ss.length := by rw [HW.out.1]; exact hlt
        obtain ⟨bw, ow, rfl, hcx⟩ := HW.out.at k hlt
        replace hcx := Hk3.out.cell (hcx k hlt)
        have hx := Hz.out ss[k] (List.getElem_mem hkl)
        have hkw' : k < (wb ss).length := by unfold wb; rw [List.length_map]; exact hkl
        have hgs := HM.out.g.trans (goM_step hkw')
        have hxe := wb_get hkl hkw'
        rw [hxe] at hgs
        have Hgs := Lib.hid hgs
        have HN := Lib.hid (number_any ss[k] wr E m (HE.out.keep Hk3.out) hx)
        clear hgs
        generalize ss[k] = x at *
        by_cases hfx : x.data.toList = Q.fallB
        · have hfx' : (x.toList == [102, 97, 108, 108, 98, 97, 99, 107]) = true := by rw [ByteArray.toList_eq]; exact beq_iff_eq.2 hfx
          have hfl : x.data.toList.length ≤ 24 := by rw [hfx]; decide
          by_cases hk0 : k = 0
          · replace hD := hD hk0
            have hne := HM.out.l.ne hk0
            obtain ⟨l, r, hlr⟩ := List.exists_cons_of_ne_nil hne
            have hlm := HM.out.l.ln l (by rw [hlr]; simp)
            have hll := HM.out.l.ll
            subst hD
            rw [hlr] at Hmem hll
            have htd := Hmem.out.hd
            obtain rfl : td = [] := List.eq_nil_of_length_eq_zero htd
            have htl := Hmem.out.hl
            obtain ⟨tq, tr, rfl⟩ : ∃ tq tr, ts' = tq :: tr := by
              cases ts' with
              | nil => simp at htl
              | cons a b => exact ⟨a, b, rfl⟩
            have hl0 := HM.out.l.l0
            have hl1 := HM.out.l.l1
            have Hlr := Lib.hid hlr
            have Hln := Lib.hid (fun l' (hl' : l' ∈ r) => HM.out.l.ln l' (by rw [hlr]; simp [hl']))
            clear htd htl hne hlr
            have HBk := Lib.hid (fun (w4 : World) (hM4 : MdS w4 B bx (bs q.nm) t0' t1' tf [] (tq :: tr) [] (l :: r) q.b0 q.b1) => (show Calls Tryz.prog 35 #[.pointer (some ⟨bx, 0, none⟩)] w4 (BackPost w4 B bx (bs q.nm) t0' t1' tf tq tr l r q.b0 q.b1) by
              obtain ⟨f, xs⟩ := l
              obtain ⟨e, h1, h2⟩ := hlm
              simp only at e h1 h2
              rcases e with rfl | rfl
              · exact back_0 w4 B bx (bs q.nm) t0' t1' tf tq tr xs r q.b0 q.b1 hM4 h1 (by omega) (by omega)
              · exact back_1 w4 B bx (bs q.nm) t0' t1' tf tq tr xs r q.b0 q.b1 hM4 h1 (by omega) (by omega)))
            have hbp : Q.wordP srtI k least q x.data.toList = (if okB l.2 && noneIn (if l.1 = 0 then q.b0 else q.b1) l.2 then some { Q.setBef q l.1 (srtI ((if l.1 = 0 then q.b0 else q.b1) ++ l.2)) with ls := r } else none).map (fun q => (least, q)) := by
              unfold Q.wordP
              rw [if_pos hfx, if_neg (by omega)]
              unfold Q.backP
              rw [Hlr.out]
              rfl
            have Hbp := Lib.hid hbp
            have Hk0 := Lib.hid hk0
            clear hbp hk0
            obtain ⟨y0, y1, y2, y3, z0, z1, z2, z3⟩ := hF4
            clear y0 y1 y2 y3 z0 z1 z2 z3
            go_upto_region 11 with fail
            (with_reducible refine HN.out.mono ?_)
            rintro e w4 ⟨hk4, v, bb, rfl, hv⟩
            have HK4 := Lib.hid (Kp.trans Hk3.out hk4)
            have HZ5 := Lib.hid (HZ4.out.kp hk4)
            have HM4 := Lib.hid (Hmem.out.kp hk4)
            have hk0 := Hk0.out
            clear hk4 hv
            go_upto_region 13 with fail
            (with_reducible refine (HBk.out w4 HM4.out).mono ?_)
            rintro e w5 hpo
            unfold BackPost at hpo
            cases hok : (okB l.2 && noneIn (if l.1 = 0 then q.b0 else q.b1) l.2) with
            | false =>
              rw [hok] at hpo Hbp
              simp only [Bool.false_eq_true, if_false, Option.map_none] at hpo Hbp
              obtain ⟨rfl, hk5⟩ := hpo
              have HK5 := Lib.hid (Kp.trans HK4.out hk5)
              have HZ6 := Lib.hid (HZ5.out.kp hk5)
              have HG := Lib.hid (show Q.goM srtI 0 0 ⟨nm.data.toList, b0, b1, ls⟩ (wb ss) = none by rw [Hgs.out, Hbp.out])
              clear hk5 hok
              go_upto_region 13 with fail
              refine anyP_start (fun w => w.cell? ⟨1, 0, none⟩ = some (.iface 197 (.pointer (some (E 1))))) 3 (fun _ => True) (fun _ _ => False) (by kernel_rfl) (fun _ _ _ _ h => h.elim) ?_
              obtain ⟨wd, hwd⟩ : ∃ wd, wd = w5.drew := ⟨_, rfl⟩
              have hkd : Kp w5 wd := hwd ▸ (⟨rfl, rfl, rfl, Nat.le_refl _, fun _ _ => rfl⟩ : Kp w5 w5.drew)
              rw [← hwd]
              clear hwd
              have hTd := (Kp.trans HK5.out hkd).cell HE.out.c0
              have hPd := Four.kp HZ6.out hkd
              have HKd := Lib.hid (Kp.trans HK5.out hkd)
              obtain ⟨wf2, hwf2, hF2, hPf2⟩ := hPd.set (.string ⟨#[]⟩) (.slice none 0 0) (.slice none 0 0) (.slice none 0 0)
              obtain ⟨y0, y1, y2, y3, z0, z1, z2, z3⟩ := hPd
              obtain ⟨r0, r1, r2, r3, _, _, _, _⟩ := hPf2
              have Hwf2 := Lib.hid hwf2
              have HTf := Lib.hid (hF2.cell hTd (by have q1 := Hbx.out; have q2 := Hw1.out; simp; omega))
              have HKf := Lib.hid (kp_step' HKd.out hF2 (fun j hj => by simp at hj; have := Hbx.out; omega))
              clear hwf2 hF2 hkd
              refine anyT_take puts_true [0] (by kernel_rfl) hTd ?_
              simp only [opsAt, List.getElem?_toArray, List.getElem?_cons_zero]
              repeat (go_big_quiet_step (fail))
              refine wpQuiet_nil ?_
              refine anyT_load puts_true 1 45 (.iface 197 (.pointer (some (E 1)))) rfl rfl (by kernel_rfl) hTd (fun w h => exec_load32 h rfl rfl) ?_
              simp only [Act.put, List.setIfInBounds_toArray, List.set_cons_zero, List.set_cons_succ]
              refine anyP_one 2 (by kernel_rfl) ?_
              simp only [opsAt, List.getElem?_toArray, List.getElem?_cons_zero, List.getElem?_cons_succ]
              clear hTd
              go_wp2_with fail
              rw [← Hwf2.out]
              refine ⟨fun _ => HTf.out, ?_⟩
              refine anyP_one 3 (by kernel_rfl) ?_
              simp only [opsAt, List.getElem?_toArray, List.getElem?_cons_zero, List.getElem?_cons_succ]
              clear y0 y1 y2 y3 z0 z1 z2 z3
              go_wp2_with fail
              refine ⟨fun h => absurd rfl h, ?_⟩
              refine anyP_end (by kernel_rfl) ?_
              go_wp2_with fail
              show bodyPost Tryz.prog Tryz.f17 (ModPost w E ⟨nm.data.toList, b0, b1, ls⟩ (wb ss)) .ret _ _
              refine bodyPost_ret (v := .tuple #[zeroP, .iface 197 (.pointer (some (E 1)))]) (by simp [results, Tryz.results17, go_sem, r0, r1, r2, r3]) rfl ?_
              exact ModPost.arg (p := ⟨nm.data.toList, b0, b1, ls⟩) Hc.out HG.out HKf.out
            | true =>
              rw [hok] at hpo Hbp
              simp only [if_true, Option.map_some] at hpo Hbp
              obtain ⟨t05, t15, rfl, hM5, hkp5⟩ := hpo
              have hokb : l.2.length ≤ 2 := okB_len (by simp only [Bool.and_eq_true] at hok; exact hok.1)
              clear hok
              obtain ⟨q1, hq1⟩ : ∃ q1 : Q.Pn, q1 = { Q.setBef q l.1 (srtI ((if l.1 = 0 then q.b0 else q.b1) ++ l.2)) with ls := r } := ⟨_, rfl⟩
              rw [← hq1] at Hbp
              have hqn : q1.nm = q.nm := by rw [hq1]; unfold Q.setBef; split <;> rfl
              have hqs : q1.ls = r := by rw [hq1]
              have hqb : q1.b0 = if l.1 = 0 then srtI (q.b0 ++ l.2) else q.b0 := by rw [hq1]; unfold Q.setBef; split <;> rfl
              have hqc : q1.b1 = if l.1 = 0 then q.b1 else srtI (q.b1 ++ l.2) := by rw [hq1]; unfold Q.setBef; split <;> rfl
              rw [← hqb, ← hqc, ← hqs] at hM5
              have hb0l : q1.b0.length ≤ 2 + 2 * (k + 1) := by rw [hqb]; split <;> (try rw [srtI_length, List.length_append]) <;> omega
              have hb1l : q1.b1.length ≤ 2 + 2 * (k + 1) := by rw [hqc]; split <;> (try rw [srtI_length, List.length_append]) <;> omega
              have hlsl : q1.ls.length ≤ 24 := by rw [hqs]; simp only [List.length_cons] at hll; omega
              have HZ6 := Lib.hid (hkp5.four HZ5.out (by omega) (by have := Hhl.out; omega))
              have HK6 := Lib.hid (hkp5.keep HK4.out (by have := Hbx.out; omega) (by have := Hbx.out; have := Hhl.out; omega))
              have HS := Lib.hid (HM.out.step (w1 := w5) (q1 := q1) (least' := least) hkw' (hxe ▸ Hbp.out) hqn (by rw [hxe]; exact hfl) HM.out.s (bs q.nm) t05 t15 tf [tq] tr [l] hM5 HK6.out (by have := Hbx.out; omega) HZ6.out
                (fun l' hl' => by have := Hln.out l' (by rw [← hqs]; exact hl'); exact ⟨this.1, this.2.1, by omega⟩) hlsl hb0l hb1l (bs q.nm ++ x) (by rw [hxe, hk0]; exact (bs_plus q.nm x).symm))
              obtain ⟨y0, y1, y2, y3, z0, z1, z2, z3⟩ := hM5.four
              have hqz : (bs q.nm).size ≤ 140737488360000 := by have := HM.out.n; rw [bs_size]; omega
              clear hq1 hqn hqs hqb hqc hb0l hb1l hlsl hM5 hkp5 hl0 hl1 hll hokb
              go_wp2_with fail
              go_roundw
              case rel => exact ⟨k + 1, least, _, by omega, by go_num, by go_num, HS.out⟩
              case measure => simp [intOf]; omega
          · have HG := Lib.hid (show Q.goM srtI 0 0 ⟨nm.data.toList, b0, b1, ls⟩ (wb ss) = none by
              rw [Hgs.out]
              unfold Q.wordP
              rw [if_pos hfx, if_pos (by omega)])
            obtain ⟨y0, y1, y2, y3, z0, z1, z2, z3⟩ := hF4
            clear y0 y1 y2 y3 z0 z1 z2 z3
            go_upto_region 11 with fail
            (with_reducible refine HN.out.mono ?_)
            rintro e w4 ⟨hk4, v, bb, rfl, hv⟩
            have HK4 := Lib.hid (Kp.trans Hk3.out hk4)
            have HZ5 := Lib.hid (HZ4.out.kp hk4)
            clear hk4 hv
            go_upto_region 13 with fail
            refine anyP_start (fun w => w.cell? ⟨1, 0, none⟩ = some (.iface 197 (.pointer (some (E 1))))) 3 (fun _ => True) (fun _ _ => False) (by kernel_rfl) (fun _ _ _ _ h => h.elim) ?_
            obtain ⟨wd, hwd⟩ : ∃ wd, wd = w4.drew := ⟨_, rfl⟩
            have hkd : Kp w4 wd := hwd ▸ (⟨rfl, rfl, rfl, Nat.le_refl _, fun _ _ => rfl⟩ : Kp w4 w4.drew)
            rw [← hwd]
            clear hwd
            have hTd := (Kp.trans HK4.out hkd).cell HE.out.c0
            have hPd := Four.kp HZ5.out hkd
            have HKd := Lib.hid (Kp.trans HK4.out hkd)
            obtain ⟨wf2, hwf2, hF2, hPf2⟩ := hPd.set (.string ⟨#[]⟩) (.slice none 0 0) (.slice none 0 0) (.slice none 0 0)
            obtain ⟨y0, y1, y2, y3, z0, z1, z2, z3⟩ := hPd
            obtain ⟨r0, r1, r2, r3, _, _, _, _⟩ := hPf2
            have Hwf2 := Lib.hid hwf2
            have HTf := Lib.hid (hF2.cell hTd (by have q1 := Hbx.out; have q2 := Hw1.out; simp; omega))
            have HKf := Lib.hid (kp_step' HKd.out hF2 (fun j hj => by simp at hj; have := Hbx.out; omega))
            clear hwf2 hF2 hkd
            refine anyT_take puts_true [0] (by kernel_rfl) hTd ?_
            simp only [opsAt, List.getElem?_toArray, List.getElem?_cons_zero]
            repeat (go_big_quiet_step (fail))
            refine wpQuiet_nil ?_
            refine anyT_load puts_true 1 45 (.iface 197 (.pointer (some (E 1)))) rfl rfl (by kernel_rfl) hTd (fun w h => exec_load32 h rfl rfl) ?_
            simp only [Act.put, List.setIfInBounds_toArray, List.set_cons_zero, List.set_cons_succ]
            refine anyP_one 2 (by kernel_rfl) ?_
            simp only [opsAt, List.getElem?_toArray, List.getElem?_cons_zero, List.getElem?_cons_succ]
            clear hTd
            go_wp2_with fail
            rw [← Hwf2.out]
            refine ⟨fun _ => HTf.out, ?_⟩
            refine anyP_one 3 (by kernel_rfl) ?_
            simp only [opsAt, List.getElem?_toArray, List.getElem?_cons_zero, List.getElem?_cons_succ]
            clear y0 y1 y2 y3 z0 z1 z2 z3
            go_wp2_with fail
            refine ⟨fun h => absurd rfl h, ?_⟩
            refine anyP_end (by kernel_rfl) ?_
            go_wp2_with fail
            show bodyPost Tryz.prog Tryz.f17 (ModPost w E ⟨nm.data.toList, b0, b1, ls⟩ (wb ss)) .ret _ _
            refine bodyPost_ret (v := .tuple #[zeroP, .iface 197 (.pointer (some (E 1)))]) (by simp [results, Tryz.results17, go_sem, r0, r1, r2, r3]) rfl ?_
            exact ModPost.arg (p := ⟨nm.data.toList, b0, b1, ls⟩) Hc.out HG.out HKf.out
        · have hnf : Q.wordP srtI k least q x.data.toList = match Q.numP x.data.toList with | some n => if n < least then none else (Q.preT q n).map (fun q => (n + 1, q)) | none => none := by unfold Q.wordP; rw [if_neg hfx]; cases Q.numP x.data.toList <;> rfl
          have Hnf := Lib.hid hnf
          have hfx' : (x.toList == [102, 97, 108, 108, 98, 97, 99, 107]) = false := by rw [ByteArray.toList_eq]; exact beq_eq_false_iff_ne.2 hfx
          clear hnf
          go_upto_region 11 with fail
          (with_reducible refine HN.out.mono ?_)
          rintro e w4 ⟨hk4, v, bb, rfl, hv⟩
          have HK4 := Lib.hid (Kp.trans Hk3.out hk4)
          have HZ5 := Lib.hid (HZ4.out.kp hk4)
          have HM4 := Lib.hid (Hmem.out.kp hk4)
          obtain ⟨y0, y1, y2, y3, z0, z1, z2, z3⟩ := hF4
          clear y0 y1 y2 y3 z0 z1 z2 z3 hk4
          cases hnum : Q.numP x.data.toList with
          | none =>
            rw [hnum] at hv
            simp only at hv
            subst hv
            have HG := Lib.hid (show Q.goM srtI 0 0 ⟨nm.data.toList, b0, b1, ls⟩ (wb ss) = none by rw [Hgs.out, Hnf.out, hnum])
            clear hnum
            go_upto_region 15 with fail
            refine anyP_start (fun w => w.cell? ⟨1, 0, none⟩ = some (.iface 197 (.pointer (some (E 1))))) 3 (fun _ => True) (fun _ _ => False) (by kernel_rfl) (fun _ _ _ _ h => h.elim) ?_
            obtain ⟨wd, hwd⟩ : ∃ wd, wd = w4.drew := ⟨_, rfl⟩
            have hkd : Kp w4 wd := hwd ▸ (⟨rfl, rfl, rfl, Nat.le_refl _, fun _ _ => rfl⟩ : Kp w4 w4.drew)
            rw [← hwd]
            clear hwd
            have hTd := (Kp.trans HK4.out hkd).cell HE.out.c0
            have hPd := Four.kp HZ5.out hkd
            have HKd := Lib.hid (Kp.trans HK4.out hkd)
            obtain ⟨wf2, hwf2, hF2, hPf2⟩ := hPd.set (.string ⟨#[]⟩) (.slice none 0 0) (.slice none 0 0) (.slice none 0 0)
            obtain ⟨y0, y1, y2, y3, z0, z1, z2, z3⟩ := hPd
            obtain ⟨r0, r1, r2, r3, _, _, _, _⟩ := hPf2
            have Hwf2 := Lib.hid hwf2
            have HTf := Lib.hid (hF2.cell hTd (by have q1 := Hbx.out; have q2 := Hw1.out; simp; omega))
            have HKf := Lib.hid (kp_step' HKd.out hF2 (fun j hj => by simp at hj; have := Hbx.out; omega))
            clear hwf2 hF2 hkd
            refine anyT_take puts_true [0] (by kernel_rfl) hTd ?_
            simp only [opsAt, List.getElem?_toArray, List.getElem?_cons_zero]
            repeat (go_big_quiet_step (fail))
            refine wpQuiet_nil ?_
            refine anyT_load puts_true 1 60 (.iface 197 (.pointer (some (E 1)))) rfl rfl (by kernel_rfl) hTd (fun w h => exec_load32 h rfl rfl) ?_
            simp only [Act.put, List.setIfInBounds_toArray, List.set_cons_zero, List.set_cons_succ]
            refine anyP_one 2 (by kernel_rfl) ?_
            simp only [opsAt, List.getElem?_toArray, List.getElem?_cons_zero, List.getElem?_cons_succ]
            clear hTd
            go_wp2_with fail
            rw [← Hwf2.out]
            refine ⟨fun _ => HTf.out, ?_⟩
            refine anyP_one 3 (by kernel_rfl) ?_
            simp only [opsAt, List.getElem?_toArray, List.getElem?_cons_zero, List.getElem?_cons_succ]
            clear y0 y1 y2 y3 z0 z1 z2 z3
            go_wp2_with fail
            refine ⟨fun h => absurd rfl h, ?_⟩
            refine anyP_end (by kernel_rfl) ?_
            go_wp2_with fail
            show bodyPost Tryz.prog Tryz.f17 (ModPost w E ⟨nm.data.toList, b0, b1, ls⟩ (wb ss)) .ret _ _
            refine bodyPost_ret (v := .tuple #[zeroP, .iface 197 (.pointer (some (E 1)))]) (by simp [results, Tryz.results17, go_sem, r0, r1, r2, r3]) rfl ?_
            exact ModPost.arg (p := ⟨nm.data.toList, b0, b1, ls⟩) Hc.out HG.out HKf.out
          | some n =>
            rw [hnum] at hv
            simp only at hv
            obtain ⟨rfl, rfl⟩ := hv
            have hns := word_short hnum
            rw [hnum] at Hnf
            simp only at Hnf
            clear hnum
            by_cases hnl : n < least
            · have HG := Lib.hid (show Q.goM srtI 0 0 ⟨nm.data.toList, b0, b1, ls⟩ (wb ss) = none by rw [Hgs.out, Hnf.out, if_pos hnl])
              go_upto_region 15 with fail
              refine anyP_start (fun w => w.cell? ⟨1, 0, none⟩ = some (.iface 197 (.pointer (some (E 1))))) 3 (fun _ => True) (fun _ _ => False) (by kernel_rfl) (fun _ _ _ _ h => h.elim) ?_
              obtain ⟨wd, hwd⟩ : ∃ wd, wd = w4.drew := ⟨_, rfl⟩
              have hkd : Kp w4 wd := hwd ▸ (⟨rfl, rfl, rfl, Nat.le_refl _, fun _ _ => rfl⟩ : Kp w4 w4.drew)
              rw [← hwd]
              clear hwd
              have hTd := (Kp.trans HK4.out hkd).cell HE.out.c0
              have hPd := Four.kp HZ5.out hkd
              have HKd := Lib.hid (Kp.trans HK4.out hkd)
              obtain ⟨wf2, hwf2, hF2, hPf2⟩ := hPd.set (.string ⟨#[]⟩) (.slice none 0 0) (.slice none 0 0) (.slice none 0 0)
              obtain ⟨y0, y1, y2, y3, z0, z1, z2, z3⟩ := hPd
              obtain ⟨r0, r1, r2, r3, _, _, _, _⟩ := hPf2
              have Hwf2 := Lib.hid hwf2
              have HTf := Lib.hid (hF2.cell hTd (by have q1 := Hbx.out; have q2 := Hw1.out; simp; omega))
              have HKf := Lib.hid (kp_step' HKd.out hF2 (fun j hj => by simp at hj; have := Hbx.out; omega))
              clear hwf2 hF2 hkd
              refine anyT_take puts_true [0] (by kernel_rfl) hTd ?_
              simp only [opsAt, List.getElem?_toArray, List.getElem?_cons_zero]
              repeat (go_big_quiet_step (fail))
              refine wpQuiet_nil ?_
              refine anyT_load puts_true 1 60 (.iface 197 (.pointer (some (E 1)))) rfl rfl (by kernel_rfl) hTd (fun w h => exec_load32 h rfl rfl) ?_
              simp only [Act.put, List.setIfInBounds_toArray, List.set_cons_zero, List.set_cons_succ]
              refine anyP_one 2 (by kernel_rfl) ?_
              simp only [opsAt, List.getElem?_toArray, List.getElem?_cons_zero, List.getElem?_cons_succ]
              clear hTd
              go_wp2_with fail
              rw [← Hwf2.out]
              refine ⟨fun _ => HTf.out, ?_⟩
              refine anyP_one 3 (by kernel_rfl) ?_
              simp only [opsAt, List.getElem?_toArray, List.getElem?_cons_zero, List.getElem?_cons_succ]
              clear y0 y1 y2 y3 z0 z1 z2 z3
              go_wp2_with fail
              refine ⟨fun h => absurd rfl h, ?_⟩
              refine anyP_end (by kernel_rfl) ?_
              go_wp2_with fail
              show bodyPost Tryz.prog Tryz.f17 (ModPost w E ⟨nm.data.toList, b0, b1, ls⟩ (wb ss)) .ret _ _
              refine bodyPost_ret (v := .tuple #[zeroP, .iface 197 (.pointer (some (E 1)))]) (by simp [results, Tryz.results17, go_sem, r0, r1, r2, r3]) rfl ?_
              exact ModPost.arg (p := ⟨nm.data.toList, b0, b1, ls⟩) Hc.out HG.out HKf.out
            · have HPr := Lib.hid (pre_any w4 B bx (bs q.nm) t0' t1' tf td ts' D q.ls q.b0 q.b1 n HM4.out (fun l hl => ⟨(HM.out.l.ln l hl).2.1, by have := (HM.out.l.ln l hl).2.2; omega⟩) (by have := HM.out.l.ll; omega) hns.1)
              rw [if_neg hnl] at Hnf
              by_cases hpr : q.ls = [] ∨ q.ls.length < n
              · have HG := Lib.hid (show Q.goM srtI 0 0 ⟨nm.data.toList, b0, b1, ls⟩ (wb ss) = none by rw [Hgs.out, Hnf.out, preL_some, if_pos hpr]; rfl)
                unfold PrePost at HPr
                simp only [if_pos hpr] at HPr
                go_upto_region 15 with fail
                (with_reducible refine HPr.out.mono ?_)
                rintro e w5 ⟨rfl, rfl⟩
                go_upto_region 15 with fail
                refine anyP_start (fun w => w.cell? ⟨1, 0, none⟩ = some (.iface 197 (.pointer (some (E 1))))) 3 (fun _ => True) (fun _ _ => False) (by kernel_rfl) (fun _ _ _ _ h => h.elim) ?_
                obtain ⟨wd, hwd⟩ : ∃ wd, wd = w4.drew := ⟨_, rfl⟩
                have hkd : Kp w4 wd := hwd ▸ (⟨rfl, rfl, rfl, Nat.le_refl _, fun _ _ => rfl⟩ : Kp w4 w4.drew)
                rw [← hwd]
                clear hwd
                have hTd := (Kp.trans HK4.out hkd).cell HE.out.c0
                have hPd := Four.kp HZ5.out hkd
                have HKd := Lib.hid (Kp.trans HK4.out hkd)
                obtain ⟨wf2, hwf2, hF2, hPf2⟩ := hPd.set (.string ⟨#[]⟩) (.slice none 0 0) (.slice none 0 0) (.slice none 0 0)
                obtain ⟨y0, y1, y2, y3, z0, z1, z2, z3⟩ := hPd
                obtain ⟨r0, r1, r2, r3, _, _, _, _⟩ := hPf2
                have Hwf2 := Lib.hid hwf2
                have HTf := Lib.hid (hF2.cell hTd (by have q1 := Hbx.out; have q2 := Hw1.out; simp; omega))
                have HKf := Lib.hid (kp_step' HKd.out hF2 (fun j hj => by simp at hj; have := Hbx.out; omega))
                clear hwf2 hF2 hkd
                refine anyT_take puts_true [0] (by kernel_rfl) hTd ?_
                simp only [opsAt, List.getElem?_toArray, List.getElem?_cons_zero]
                repeat (go_big_quiet_step (fail))
                refine wpQuiet_nil ?_
                refine anyT_load puts_true 1 60 (.iface 197 (.pointer (some (E 1)))) rfl rfl (by kernel_rfl) hTd (fun w h => exec_load32 h rfl rfl) ?_
                simp only [Act.put, List.setIfInBounds_toArray, List.set_cons_zero, List.set_cons_succ]
                refine anyP_one 2 (by kernel_rfl) ?_
                simp only [opsAt, List.getElem?_toArray, List.getElem?_cons_zero, List.getElem?_cons_succ]
                clear hTd
                go_wp2_with fail
                rw [← Hwf2.out]
                refine ⟨fun _ => HTf.out, ?_⟩
                refine anyP_one 3 (by kernel_rfl) ?_
                simp only [opsAt, List.getElem?_toArray, List.getElem?_cons_zero, List.getElem?_cons_succ]
                clear y0 y1 y2 y3 z0 z1 z2 z3
                go_wp2_with fail
                refine ⟨fun h => absurd rfl h, ?_⟩
                refine anyP_end (by kernel_rfl) ?_
                go_wp2_with fail
                show bodyPost Tryz.prog Tryz.f17 (ModPost w E ⟨nm.data.toList, b0, b1, ls⟩ (wb ss)) .ret _ _
                refine bodyPost_ret (v := .tuple #[zeroP, .iface 197 (.pointer (some (E 1)))]) (by simp [results, Tryz.results17, go_sem, r0, r1, r2, r3]) rfl ?_
                exact ModPost.arg (p := ⟨nm.data.toList, b0, b1, ls⟩) Hc.out HG.out HKf.out
              · unfold PrePost at HPr
                simp only [if_neg hpr] at HPr
                rw [preL_some, if_neg hpr, Option.map_some] at Hnf
                go_upto_region 10 with fail
                (with_reducible refine HPr.out.mono ?_)
                rintro e w5 ⟨ts5, rfl, hM5, hkp5⟩
                have HZ6 := Lib.hid (hkp5.four HZ5.out (by omega) (by have := Hhl.out; omega))
                have HK6 := Lib.hid (hkp5.keep HK4.out (by have := Hbx.out; omega) (by have := Hbx.out; have := Hhl.out; omega))
                have HM5 := Lib.hid hM5
                obtain ⟨y0, y1, y2, y3, z0, z1, z2, z3⟩ := hM5.four
                clear hM5 hkp5
                have hn24 : n ≤ 24 := by have := HM.out.l.ll; omega
                have HS := Lib.hid (fun (w1 : World) (nm1 : ByteArray) (hm : MdS w1 B bx nm1 t0' t1' tf td ts5 D (preL q.ls n) q.b0 q.b1) (kp : Kp w w1) hz (u : ByteArray) (hu : u = bs (q.nm ++ Q.plusW k x.data.toList)) => HM.out.step (w1 := w1) (q1 := { q with ls := preL q.ls n }) (least' := n + 1) hkw' (hxe ▸ Hnf.out) rfl (by rw [hxe]; exact hns.2) (by omega) nm1 t0' t1' tf td ts5 D hm kp (by have := Hbx.out; omega) hz
                  (preL_mem HM.out.l.ln) (by rw [preL_length]; exact HM.out.l.ll) (by have := HM.out.l.l0; simp only; omega) (by have := HM.out.l.l1; simp only; omega) u (by rw [hxe]; exact hu))
                have hq1 : (bs q.nm).size ≤ 140737488360000 := by have := HM.out.n; rw [bs_size]; omega
                by_cases hk0 : k = 0
                · have HB := Lib.hid (bs_plus q.nm x)
                  subst hk0
                  go_wp2_with fail
                  go_roundw
                  case rel => exact ⟨0 + 1, n + 1, _, by omega, by go_num, by go_num, HS.out w5 _ HM5.out HK6.out HZ6.out _ HB.out.symm⟩
                  case measure => simp [intOf]; omega
                · have HB := Lib.hid (bs_plus1 q.nm x (show 0 < k by omega))
                  have hq2 : (bs q.nm ++ (⟨#[43]⟩ : ByteArray)).size ≤ 140737488360001 := by rw [ByteArray.size_append]; have : (⟨#[43]⟩ : ByteArray).size = 1 := rfl; omega
                  go_wp2_with fail
                  go_roundw
                  case rel => exact ⟨k + 1, n + 1, _, by omega, by go_num, by go_num, HS.out (w5.setCell ⟨bx, 0, none⟩ (.string (bs q.nm ++ (⟨#[43]⟩ : ByteArray)))) _ (HM5.out.name _) (kp_step' HK6.out (Fr.set _ _ _) (by intro j hj; simp at hj; have := Hbx.out; omega)) (HZ6.out.fr (Fr.set _ _ _) (by simp)) _ HB.out.symm⟩
                  case measure => simp [intOf]; omega
      · obtain rfl : k = nw := by omega
        have hG : Q.goM srtI 0 0 ⟨nm.data.toList, b0, b1, ls⟩ (wb ss) = some q := by
          rw [HM.out.g, List.drop_of_length_le (by unfold wb; rw [List.length_map, HW.out.1]; exact Nat.le_refl _)]
          rfl
        have HG := Lib.hid hG
        have hlns := Hmem.out.pat (by have := HM.out.l.ll; omega) (fun l hl => by have := (HM.out.l.ln l hl).2.2; omega)
        have HC2 := Lib.hid (check_any wr E (Hk3.out.errs HE.out.errs) (bs q.nm) t0'.ao t1'.ao (subT tf D.length).ao t0'.n t0'.c t1'.n t1'.c (subT tf D.length).n (subT tf D.length).c q.b0 q.b1 q.ls hlns.i0 hlns.i1 hlns.il)
        obtain ⟨sa, sn, sc, hsub⟩ : ∃ sa sn sc, subT tf D.length = ⟨sa, sn, sc⟩ := ⟨_, _, _, rfl⟩
        rw [hsub] at HC2 hF4
        have Hsub := Lib.hid hsub
        clear hG hlns hsub
        by_cases hc2 : checkL q.b0 q.b1 q.ls = 0
        · have Hc2 := Lib.hid hc2
          rw [show errV E (checkL q.b0 q.b1 q.ls) = .nilIface by rw [hc2]; rfl] at HC2
          have HF4 := Lib.hid hF4
          obtain ⟨y0, y1, y2, y3, z0, z1, z2, z3⟩ := hF4
          unfold tvv at y1 y2 y3
          clear hc2
          go_wp2_with fail
          (with_reducible refine HC2.out.mono ?_)
          rintro e w7 ⟨rfl, hk7⟩
          have hF7 := HF4.out.kp hk7
          have hZ7 := HZ4.out.kp hk7
          have HM7 := Lib.hid (Hmem.out.kp hk7)
          obtain ⟨wf2, hwf2, hF2, hPf2⟩ := hZ7.set (.string (bs q.nm)) (.slice t0'.ao t0'.n t0'.c) (.slice t1'.ao t1'.n t1'.c) (.slice sa sn sc)
          clear y0 y1 y2 y3 z0 z1 z2 z3
          obtain ⟨y0, y1, y2, y3, z0, z1, z2, z3⟩ := hF7
          unfold tvv at y1 y2 y3
          obtain ⟨x0, x1, x2, x3, f0, f1, f2, f3⟩ := hZ7
          obtain ⟨r0, r1, r2, r3, _, _, _, _⟩ := hPf2
          have Hwf2 := Lib.hid hwf2
          have HKf := Lib.hid (kp_step' (Kp.trans Hk3.out hk7) hF2 (fun j hj => by simp at hj; have := Hbx.out; omega))
          have hsp := (HM7.out.sep.fr hF2 (fun x hx => by simp at hx; have := Hhl.out; omega)).base (B' := w.heap.size) (by have := Hhl.out; have := Hbx.out; omega)
          have HQ := Lib.hid (ModPost.fine (E := E) (p := ⟨nm.data.toList, b0, b1, ls⟩) Hc.out HG.out Hc2.out HKf.out HM7.out.hd HM7.out.h1 HM7.out.hl hsp)
          rw [Hsub.out] at HQ
          clear hwf2 hF2 hk7 hsp
          go_wp2_with fail
          rw [← Hwf2.out]
          show bodyPost Tryz.prog Tryz.f17 (ModPost w E ⟨nm.data.toList, b0, b1, ls⟩ (wb ss)) .ret _ _
          refine bodyPost_ret (v := .tuple #[.agg #[.string (bs q.nm), tvv t0', tvv t1', tvv ⟨sa, sn, sc⟩], .nilIface]) (by simp [results, Tryz.results17, go_sem, r0, r1, r2, r3, tvv]) rfl ?_
          exact HQ.out
        · have Hc2 := Lib.hid hc2
          have HEe := Lib.hid (errV_ptr E hc2)
          rw [HEe.out] at HC2
          obtain ⟨y0, y1, y2, y3, z0, z1, z2, z3⟩ := hF4
          unfold tvv at y1 y2 y3
          clear hc2
          go_upto_region 21 with fail
          (with_reducible refine HC2.out.mono ?_)
          rintro e w7 ⟨rfl, hk7⟩
          have hZ7 := HZ4.out.kp hk7
          obtain ⟨wf2, hwf2, hF2, hPf2⟩ := hZ7.set (.string ⟨#[]⟩) (.slice none 0 0) (.slice none 0 0) (.slice none 0 0)
          clear y0 y1 y2 y3 z0 z1 z2 z3
          obtain ⟨y0, y1, y2, y3, z0, z1, z2, z3⟩ := hZ7
          obtain ⟨r0, r1, r2, r3, _, _, _, _⟩ := hPf2
          have Hwf2 := Lib.hid hwf2
          have HKf := Lib.hid (kp_step' (Kp.trans Hk3.out hk7) hF2 (fun j hj => by simp at hj; have := Hbx.out; omega))
          clear hwf2 hF2 hk7
          go_wp2_with fail
          rw [← Hwf2.out]
          show bodyPost Tryz.prog Tryz.f17 (ModPost w E ⟨nm.data.toList, b0, b1, ls⟩ (wb ss)) .ret _ _
          refine bodyPost_ret (v := .tuple #[zeroP, .iface 197 (.pointer (some (E (checkL q.b0 q.b1 q.ls))))]) (by simp [results, Tryz.results17, go_sem, r0, r1, r2, r3]) rfl ?_
          exact ModPost.off (p := ⟨nm.data.toList, b0, b1, ls⟩) Hc.out HG.out Hc2.out HKf.out
  · have Hc := Lib.hid hc
    have HEe := Lib.hid (errV_ptr E hc)
    rw [HEe.out] at HC
    obtain ⟨y0, y1, y2, y3, z0, z1, z2, z3⟩ := hFA
    clear hc hFB hkw
    go_upto_region 3 with (go_at_call 20; go_loud (refine HC.out.mono ?_); rintro e w2 ⟨rfl, hk2⟩)
    have hP4 := HFB.out.kp hk2
    obtain ⟨wf, hwf, hF, hPf⟩ := hP4.set (.string ⟨#[]⟩) (.slice none 0 0) (.slice none 0 0) (.slice none 0 0)
    clear y0 y1 y2 y3 z0 z1 z2 z3
    obtain ⟨y0, y1, y2, y3, z0, z1, z2, z3⟩ := hP4
    obtain ⟨c0, c1, c2, c3, _, _, _, _⟩ := hPf
    have Hwf := Lib.hid hwf
    have HKf := Lib.hid (kp_step' (Kp.trans Hkw.out hk2) hF (fun j hj => by simp at hj; have := Hbx.out; omega))
    clear hwf hF hk2
    go_wp2_with fail
    rw [← Hwf.out]
    show bodyPost Tryz.prog Tryz.f17 (ModPost w E ⟨nm.data.toList, b0, b1, ls⟩ (wb ss)) .ret _ _
    refine bodyPost_ret (v := .tuple #[zeroP, .iface 197 (.pointer (some (E (checkL b0 b1 ls))))]) (by simp [results, Tryz.results17, go_sem, c0, c1, c2, c3]) rfl ?_
    exact ModPost.bad (p := ⟨nm.data.toList, b0, b1, ls⟩) Hc.out HKf.out
theorem modify_any (w : World) (E : Nat → Addr) (m : Int) (hE : Env w E m) (nm : ByteArray) (a0 a1 al : Option Addr) (n0 c0 n1 c1 nl cl : Nat) (b0 b1 : List Int) (ls : List Ln) (hP : PatI w a0 a1 al n0 n1 nl b0 b1 ls) (hs : ShortP nm n0 n1 nl ls)
    (ao : Option Addr) (nw cw : Nat) (ss : List ByteArray) (hW : Strs w ao nw ss) (hz : ∀ s ∈ ss, s.size ≤ 281474976710656) (hn : nw ≤ 200) :
    Calls Tryz.prog 17 #[patV nm a0 a1 al n0 c0 n1 c1 nl cl, .slice ao nw cw] w (ModPost w E ⟨nm.data.toList, b0, b1, ls⟩ (wb ss)) :=
  modify_wide w E m hE nm a0 a1 al n0 c0 n1 c1 nl cl b0 b1 ls hP hs.wide ao nw cw ss hW hz hn
end Go.Proofs.YtbdphdgomcabmaaGreatDoor

namespace Go.Proofs.YtbdphdgomcabmaaGreatDoor
open Go.RowKit

abbrev Mdf := ByteArray × List Int × List Int × List Ln × Nat
/-- What is answered: the name, what is known ahead, the messages, the error's number. -/
def mdf (p : Q.Pn) (ws : List Q.Bt) : Mdf := match Q.modR p ws with
  | (some q, _) => (bs q.nm, q.b0, q.b1, q.ls, 0)
  | (none, c) => (⟨#[]⟩, [], [], [], c)
theorem srtI_srt : Q.Srt srtI := ⟨by simp [srtI], by simp [srtI], by simp [srtI], by simp [srtI, List.mergeSort], by simp [srtI, List.mergeSort]⟩
theorem modR_code (p : Q.Pn) (ws : List Q.Bt) : match Q.modR p ws with
    | (some q, _) => q.ls.length ≤ 5000 ∧ ∀ l ∈ q.ls, l.2.length ≤ 5000
    | (none, c) => c ≠ 0 ∧ c ∈ codes := by
  unfold Q.modR
  by_cases h : p.code = 0
  · rw [if_neg (by simp [h])]
    cases Q.goR 0 0 p ws with
    | none => simp [codes]
    | some q =>
      simp only
      by_cases hc : q.code = 0
      · rw [if_pos hc]
        exact ⟨by have := (code0 hc).2.2.2.1; simp only; omega, fun l hl => by have := ((code0 hc).2.2.2.2 l hl).2.2.1; omega⟩
      · rw [if_neg hc]
        rcases checkL_code q.b0 q.b1 q.ls with h | h
        · exact absurd h hc
        · exact ⟨hc, h⟩
  · rw [if_pos h]
    rcases checkL_code p.b0 p.b1 p.ls with h2 | h2
    · exact absurd h2 h
    · exact ⟨h, h2⟩
theorem mdf_code (p : Q.Pn) (ws : List Q.Bt) : (mdf p ws).2.2.2.2 = 0 ∨ (mdf p ws).2.2.2.2 ∈ codes := by
  have h := modR_code p ws
  unfold mdf
  generalize Q.modR p ws = x at h
  obtain ⟨q, c⟩ := x
  cases q with
  | none => exact .inr h.2
  | some q => exact .inl rfl
theorem mod_wide (w : World) (E : Nat → Addr) (m : Int) (hE : Env w E m) (nm : ByteArray) (a0 a1 al : Option Addr) (n0 c0 n1 c1 nl cl : Nat) (b0 b1 : List Int) (ls : List Ln) (hP : PatI w a0 a1 al n0 n1 nl b0 b1 ls) (hs : ShortM nm n0 n1 nl ls)
    (ao : Option Addr) (nw cw : Nat) (ss : List ByteArray) (hW : Strs w ao nw ss) (hz : ∀ s ∈ ss, s.size ≤ 281474976710656) (hn : nw ≤ 200) :
    Calls Tryz.prog 17 #[patV nm a0 a1 al n0 c0 n1 c1 nl cl, .slice ao nw cw] w fun e w' => Kp w w' ∧ ∃ t0 t1 tl : Tv,
      e = .returned (.tuple #[.agg #[.string (mdf ⟨nm.data.toList, b0, b1, ls⟩ (wb ss)).1, tvv t0, tvv t1, tvv tl], errV E (mdf ⟨nm.data.toList, b0, b1, ls⟩ (wb ss)).2.2.2.2]) ∧
      ∀ X w'', Fr X w' w'' → (∀ x ∈ X, x < w.heap.size) → PatI w'' t0.ao t1.ao tl.ao t0.n t1.n tl.n (mdf ⟨nm.data.toList, b0, b1, ls⟩ (wb ss)).2.1 (mdf ⟨nm.data.toList, b0, b1, ls⟩ (wb ss)).2.2.1 (mdf ⟨nm.data.toList, b0, b1, ls⟩ (wb ss)).2.2.2.1 := by
  refine (modify_wide w E m hE nm a0 a1 al n0 c0 n1 c1 nl cl b0 b1 ls hP hs ao nw cw ss hW hz hn).mono ?_
  rintro e w' ⟨hk, h⟩
  refine ⟨hk, ?_⟩
  rw [Q.mod_eq srtI_srt] at h
  have hc := modR_code ⟨nm.data.toList, b0, b1, ls⟩ (wb ss)
  unfold mdf
  generalize Q.modR ⟨nm.data.toList, b0, b1, ls⟩ (wb ss) = x at h hc
  obtain ⟨q, c⟩ := x
  cases q with
  | none => exact ⟨nilT, nilT, nilT, by rw [h, errV_ptr E hc.1]; rfl, fun _ w'' _ _ => PatI.none w''⟩
  | some q =>
    obtain ⟨t0, t1, tf, td, ts, D, he, hd, h1, hl, hS⟩ := h
    exact ⟨t0, t1, subT tf D.length, by rw [he, errV_nil], fun X w'' hF hX => ((DrS.mk hd h1 hl hS).fr hF (fun x hx => .inl (hX x hx))).pat (by have := hc.1; omega) (fun l hl => by have := hc.2 l hl; omega)⟩
theorem mod_all (w : World) (E : Nat → Addr) (m : Int) (hE : Env w E m) (nm : ByteArray) (a0 a1 al : Option Addr) (n0 c0 n1 c1 nl cl : Nat) (b0 b1 : List Int) (ls : List Ln) (hP : PatI w a0 a1 al n0 n1 nl b0 b1 ls) (hs : ShortP nm n0 n1 nl ls)
    (ao : Option Addr) (nw cw : Nat) (ss : List ByteArray) (hW : Strs w ao nw ss) (hz : ∀ s ∈ ss, s.size ≤ 281474976710656) (hn : nw ≤ 200) :
    Calls Tryz.prog 17 #[patV nm a0 a1 al n0 c0 n1 c1 nl cl, .slice ao nw cw] w fun e w' => Kp w w' ∧ ∃ t0 t1 tl : Tv,
      e = .returned (.tuple #[.agg #[.string (mdf ⟨nm.data.toList, b0, b1, ls⟩ (wb ss)).1, tvv t0, tvv t1, tvv tl], errV E (mdf ⟨nm.data.toList, b0, b1, ls⟩ (wb ss)).2.2.2.2]) ∧
      ∀ X w'', Fr X w' w'' → (∀ x ∈ X, x < w.heap.size) → PatI w'' t0.ao t1.ao tl.ao t0.n t1.n tl.n (mdf ⟨nm.data.toList, b0, b1, ls⟩ (wb ss)).2.1 (mdf ⟨nm.data.toList, b0, b1, ls⟩ (wb ss)).2.2.1 (mdf ⟨nm.data.toList, b0, b1, ls⟩ (wb ss)).2.2.2.1 :=
  mod_wide w E m hE nm a0 a1 al n0 c0 n1 c1 nl cl b0 b1 ls hP hs.wide ao nw cw ss hW hz hn
end Go.Proofs.YtbdphdgomcabmaaGreatDoor

namespace Go.Proofs.YtbdphdgomcabmaaGreatDoor
open Go.RowKit

theorem empty_app {wr w2 : World} {cap m N c : Nat} {zs : List Value} {a : Option Addr} (ha : Appd (wr.alloc (.cells #[] 3)) w2 wr.heap.size 3 1 (some ⟨wr.heap.size, 0, none⟩) cap m N zs a c) : Kp wr w2 :=
  kp_step' (Kp.new wr (.cells #[] 3)) ha.fr (fun j hj => by rw [mem_blkL_some] at hj; omega)
/-- The cells that a round looks at. -/
structure ClY (bx bq o : Nat) (vl : Value) (f : Int) (vt : Value) (w : World) : Prop where
  p : w.cell? ⟨bx, 3, none⟩ = some vl
  c0 : w.cell? ⟨bq, o, none⟩ = some (iv f)
  c1 : w.cell? ⟨bq, o + 1, none⟩ = some vt
theorem ClY.kp {bx bq o : Nat} {vl vt : Value} {f : Int} {w w' : World} (h : ClY bx bq o vl f vt w) (k : Kp w w') : ClY bx bq o vl f vt w' := ⟨k.cell h.p, k.cell h.c0, k.cell h.c1⟩
set_option maxHeartbeats 2000000 in
theorem exec_load3c {w : World} {b o : Nat} {v : Value} (h : w.cell? ⟨b, o, none⟩ = some v) {ρ : Operand → Value} {x : Operand} (hx : ρ x = .pointer (some ⟨b, o, none⟩)) {op : Oper} (ho : op.op = .load 3 x) :
    (execOp ρ op).run Tryz.prog w = .ok (.value v) w := by
  simp only [execOp, ho, hx]
  go_simp
/-- A round of the copying: the tokens in a list of their own, the message behind the others. -/
theorem cp_step {wq w3 w4 : World} {B k lc : Nat} {lo : Option Addr} {us : List Tv} {ls : List Ln} {R0 R1 : Rw} {lo' : Option Addr} {lc' : Nat} (h : Sep wq B (⟨45, 2, ⟨lo, k, lc⟩, lnc (ls.take k) us⟩ :: R0 :: R1 :: rowsT us (ls.take k))) (hl : us.length = k) (hk : k < ls.length) (hk3 : Kp wq w3) (t : Tv)
    (hO : Own w3 wq.heap.size 3 1 t.ao t.n t.c (ls[k].2.map iv)) (hB : B ≤ wq.heap.size) (ha : Appd (w3.alloc (.cells #[iv ls[k].1, tvv t] 45)) w4 B 45 2 lo lc 1 (k + 1) (lnc (ls.take (k + 1)) (us ++ [t])) lo' lc') :
    Sep w4 B (⟨45, 2, ⟨lo', k + 1, lc'⟩, lnc (ls.take (k + 1)) (us ++ [t])⟩ :: R0 :: R1 :: rowsT (us ++ [t]) (ls.take (k + 1))) := by
  have h1 := (h.new hk3 (r := rowT t ls[k]) hO hB).perm (List.perm_append_singleton (rowT t ls[k]) (⟨45, 2, ⟨lo, k, lc⟩, lnc (ls.take k) us⟩ :: R0 :: R1 :: rowsT us (ls.take k))).symm
  have h2 := h1.kp (Kp.new w3 (.cells #[iv ls[k].1, tvv t] 45))
  have h3 := Sep.app (t := ⟨lo, k, lc⟩) h2 ha
  have e : rowsT (us ++ [t]) (ls.take (k + 1)) = rowsT us (ls.take k) ++ [rowT t ls[k]] := by
    rw [take_step ls k hk]
    exact rowsT_append _ _ _ _ (by rw [List.length_take]; omega)
  rw [e]
  exact h3
set_option maxRecDepth 100000 in
set_option maxHeartbeats 8000000 in
theorem rcopy_any (w : World) (nm : ByteArray) (a0 a1 al : Option Addr) (n0 c0 n1 c1 nl cl : Nat) (b0 b1 : List Int) (ls : List Ln) (hP : PatI w a0 a1 al n0 n1 nl b0 b1 ls) (hs : ShortP nm n0 n1 nl ls) :
    Calls Tryz.prog 49 #[patV nm a0 a1 al n0 c0 n1 c1 nl cl] w (ClonedPost w nm b0 b1 ls) := by
  have Hs := Lib.hid hs
  have HP := Lib.hid hP
  have hkA := Kp.new w (.cells #[.string nm, .slice a0 n0 c0, .slice a1 n1 c1, .slice al nl cl] 26)
  have hkB := Kp.new (w.alloc (.cells #[.string nm, .slice a0 n0 c0, .slice a1 n1 c1, .slice al nl cl] 26)) (.cells #[.string ⟨#[]⟩, .slice none 0 0, .slice none 0 0, .slice none 0 0] 26)
  have hFA := (Four.new w (.string nm) (.slice a0 n0 c0) (.slice a1 n1 c1) (.slice al nl cl) 26).kp hkB
  have hFB := Four.new (w.alloc (.cells #[.string nm, .slice a0 n0 c0, .slice a1 n1 c1, .slice al nl cl] 26)) (.string ⟨#[]⟩) (.slice none 0 0) (.slice none 0 0) (.slice none 0 0) 26
  rw [World.size_alloc] at hFB
  have hkw := Kp.trans hkA hkB
  clear hkA hkB hP hs
  go_enter Tryz.func49, Tryz.ntmps49
  go_upto_region 1 with fail
  obtain ⟨bx, hbx⟩ : ∃ bx, bx = w.heap.size := ⟨_, rfl⟩
  rw [← hbx] at hFA hFB ⊢
  generalize (w.alloc (.cells #[.string nm, .slice a0 n0 c0, .slice a1 n1 c1, .slice al nl cl] 26)).alloc (.cells #[.string ⟨#[]⟩, .slice none 0 0, .slice none 0 0, .slice none 0 0] 26) = wb at *
  have Hbx := Lib.hid hbx
  clear hbx
  have hA : ClA w bx nm a0 a1 al n0 c0 n1 c1 nl cl b0 b1 0 wb := ⟨⟨a0, n0, c0⟩, ⟨a1, n1, c1⟩, hFA, hFB, hkw, fun _ => rfl, fun _ => rfl, fun h => by omega, fun h => by omega⟩
  clear hFA hFB hkw
  go_wp2_with fail
  go_loopw [3] (fun i wr => ∃ k : Nat, k ≤ 2 ∧ i = .int .i64 (k : Nat) ∧ ClA w bx nm a0 a1 al n0 c0 n1 c1 nl cl b0 b1 k wr) (fun i _ => 2 - (intOf i).toNat)
  case atStart => exact ⟨0, by omega, rfl, hA⟩
  case round =>
    clear hA
    obtain ⟨k, hk, rfl, t0, t1, hF, hG, hkr, e0, e1, s1, s2⟩ := hrel
    rename World => wr
    obtain h | h | h : k = 0 ∨ k = 1 ∨ k = 2 := by omega
    · subst h
      rw [show ((0 : Nat) : Int) = 0 from rfl]
      replace e0 := e0 rfl
      replace e1 := e1 (by omega)
      subst e0; subst e1
      clear s1 s2
      have HI := Lib.hid (hkr.is HP.out.i0)
      have hn0 := Hs.out.n0
      have HF := Lib.hid hF
      have HG := Lib.hid hG
      have Hkr := Lib.hid hkr
      have hbl := hG.lt
      obtain ⟨y0, y1, y2, y3, z0, z1, z2, z3⟩ := hF.kp (Kp.new wr (.cells #[] 3))
      unfold tvv at y1 y2
      clear hG hkr
      go_wp2_with (at_builtin; go_loud (refine wpList_app rfl (.tmp 11) (.tmp 15) 22 rfl el22 wr.heap.size rfl (Own.empty wr 3 1) rfl (b0.map iv) (by have := HI.out.1; simp; omega) ((Kp.new wr (.cells #[] 3)).cs HI.out.2.2) (by simp [Value.oneCell']) n0 (by omega) (b0.map iv) (by simp) (by omega) (by simp) ?_); intro a c w3 ha; have HA := Lib.hid ha; clear ha y0 y1 y2 y3 z0 z1 z2 z3; obtain ⟨y0, y1, y2, y3, z0, z1, z2, z3⟩ := HF.out.kp (empty_app HA.out); unfold tvv at y1 y2)
      have hk3 := empty_app HA.out
      have hO := HA.out.own
      have hF3 := HF.out.kp hk3
      have hset := Fr.set w3 ⟨bx, 1, none⟩ (.slice a n0 c)
      have Hfin := Lib.hid (show ClA w bx nm a0 a1 al n0 c0 n1 c1 nl cl b0 b1 1 (w3.setCell ⟨bx, 1, none⟩ (.slice a n0 c)) from
        ⟨⟨a, n0, c⟩, ⟨a1, n1, c1⟩, hF3.set1 _, (HG.out.kp hk3).fr hset (by simp), kp_step' (Kp.trans Hkr.out hk3) hset (by intro j hj; simp at hj; have := Hbx.out; omega), fun h => by omega, fun _ => rfl,
          fun _ => ⟨fun r hr => by simp only [List.mem_singleton] at hr; subst hr; exact Own.mono (hset.own hO (fun x hx hq => by have := (hO.lt x (mem_blkL.1 hx)).1; simp at hq; omega)) (fun x hx => by have := (hO.lt x hx).1; omega), by simp⟩, fun h => by omega⟩)
      go_roundw
      case rel => exact ⟨1, by omega, rfl, Hfin.out⟩
      case measure => simp [intOf]
    · subst h
      rw [show ((1 : Nat) : Int) = 1 from rfl]
      replace e1 := e1 (by omega)
      replace s1 := s1 rfl
      subst e1
      clear s2 e0
      have HI := Lib.hid (hkr.is HP.out.i1)
      have hn1 := Hs.out.n1
      have HF := Lib.hid hF
      have HG := Lib.hid hG
      have Hkr := Lib.hid hkr
      have HS1 := Lib.hid s1
      have hbl := hG.lt
      obtain ⟨y0, y1, y2, y3, z0, z1, z2, z3⟩ := hF.kp (Kp.new wr (.cells #[] 3))
      unfold tvv at y1 y2
      clear hG hkr s1
      go_wp2_with (at_builtin; go_loud (refine wpList_app rfl (.tmp 11) (.tmp 15) 22 rfl el22 wr.heap.size rfl (Own.empty wr 3 1) rfl (b1.map iv) (by have := HI.out.1; simp; omega) ((Kp.new wr (.cells #[] 3)).cs HI.out.2.2) (by simp [Value.oneCell']) n1 (by omega) (b1.map iv) (by simp) (by omega) (by simp) ?_); intro a c w3 ha; have HA := Lib.hid ha; clear ha y0 y1 y2 y3 z0 z1 z2 z3; obtain ⟨y0, y1, y2, y3, z0, z1, z2, z3⟩ := HF.out.kp (empty_app HA.out); unfold tvv at y1 y2)
      have hk3 := empty_app HA.out
      have hO := HA.out.own
      have hF3 := HF.out.kp hk3
      have hset := Fr.set w3 ⟨bx, 2, none⟩ (.slice a n1 c)
      have Hfin := Lib.hid (show ClA w bx nm a0 a1 al n0 c0 n1 c1 nl cl b0 b1 2 (w3.setCell ⟨bx, 2, none⟩ (.slice a n1 c)) from
        ⟨t0, ⟨a, n1, c⟩, hF3.set2 _, (HG.out.kp hk3).fr hset (by simp), kp_step' (Kp.trans Hkr.out hk3) hset (by intro j hj; simp at hj; have := Hbx.out; omega), fun h => by omega, fun h => by omega,
          fun h => by omega, fun _ => (HS1.out.new hk3 (r := ⟨3, 1, ⟨a, n1, c⟩, b1.map iv⟩) hO (by omega)).fr hset (by intro x hx; simp at hx; omega)⟩)
      go_roundw
      case rel => exact ⟨2, by omega, rfl, Hfin.out⟩
      case measure => simp [intOf]
    · subst h
      rw [show ((2 : Nat) : Int) = 2 from rfl]
      replace s2 := s2 rfl
      clear s1 e0 e1
      have hN : nl ≤ 2000 := Hs.out.nl
      have Hll := Lib.hid HP.out.il.1
      have HF2 := Lib.hid hF
      have HG2 := Lib.hid hG
      have hbl := hG.lt
      have hS0 : Sep wr (bx + 2) (⟨45, 2, nilT, lnc (ls.take 0) []⟩ :: ⟨3, 1, t1, b1.map iv⟩ :: ⟨3, 1, t0, b0.map iv⟩ :: rowsT [] (ls.take 0)) :=
        s2.cons (Own.nil _ _ _ _) (fun x hx => by simp [Rw.bl, nilT, blkL, blk] at hx)
      have HS0 := Lib.hid hS0
      have Hkr := Lib.hid hkr
      clear hF hG s2 hS0 hkr
      go_wp2_with fail
      go_loopw [4, 5] (fun lv i wv => ∃ (k lc : Nat) (lo : Option Addr) (us : List Tv), k ≤ nl ∧ i = .int .i64 (k : Nat) ∧ lv = .slice lo k lc ∧ us.length = k ∧ Sep wv (bx + 2) (⟨45, 2, ⟨lo, k, lc⟩, lnc (ls.take k) us⟩ :: ⟨3, 1, t1, b1.map iv⟩ :: ⟨3, 1, t0, b0.map iv⟩ :: rowsT us (ls.take k)) ∧ Kp w wv ∧ Four wv bx (.string nm) (.slice t0.ao t0.n t0.c) (.slice t1.ao t1.n t1.c) (.slice al nl cl) ∧ Four wv (bx + 1) (.string ⟨#[]⟩) (.slice none 0 0) (.slice none 0 0) (.slice none 0 0)) (fun _ i _ => nl - (intOf i).toNat)
      case atStart => exact ⟨0, 0, none, [], by omega, rfl, rfl, rfl, HS0.out, Hkr.out, HF2.out, HG2.out⟩
      case round =>
        clear HS0 Hkr HF2 HG2
        obtain ⟨k, lc, lo, us, hk, rfl, rfl, hus, hS, hkv, hF, hG⟩ := hrel
        rename World => wv
        have hbl := hG.lt
        by_cases hkn : k < nl
        · have hkl : k < ls.length := by rw [Hll.out]; exact hkn
          obtain ⟨bq, off, tp, tn, tc, rfl, hd1, hd2, hI, htn⟩ := HP.out.il.2.2 k hkl
          have hbq : bq < w.heap.size := by have := World.block_lt_of_cell? _ _ hd1; simpa using this
          replace hd1 := hkv.cell hd1
          replace hd2 := hkv.cell hd2
          replace hI := hkv.is hI
          have htn2 : tn ≤ 2000 := by have := Hs.out.ts _ (List.getElem_mem hkl); rw [← hI.1]; exact this
          have Hlnc := Lib.hid (fun (t : Tv) => show lnc (ls.take (k + 1)) (us ++ [t]) = lnc (ls.take k) us ++ [iv ls[k].1, tvv t] by rw [take_step ls k hkl]; exact lnc_append _ _ (by rw [List.length_take]; omega))
          have Hst := Lib.hid (fun (wq w3 w4 : World) (hkq : Kp wv wq) (lo' : Option Addr) (lc' : Nat) (hk3 : Kp wq w3) (t : Tv) (hO : Own w3 wq.heap.size 3 1 t.ao t.n t.c (ls[k].2.map iv)) (ha : Appd (w3.alloc (.cells #[iv ls[k].1, tvv t] 45)) w4 (bx + 2) 45 2 lo lc 1 (k + 1) (lnc (ls.take (k + 1)) (us ++ [t])) lo' lc') => cp_step (hS.kp hkq) hus hkl hk3 t hO (by have := hkq.size; omega) ha)
          have HS := Lib.hid hS
          have HF := Lib.hid hF
          have HG := Lib.hid hG
          have Hkv := Lib.hid hkv
          have Hus := Lib.hid hus
          have y3 := hF.c3
          generalize ls[k] = l at *
          obtain ⟨f, xs⟩ := l
          simp only at hd1 hd2 hI Hlnc Hst
          have HI := Lib.hid hI
          clear hS hF hG hkv hus hI
          go_upto_region 9 with fail
          refine anyP_start (ClY bx bq (off + k * 2) (.slice (some ⟨bq, off, none⟩) nl cl) f (.slice tp tn tc)) 18 (fun _ => True) (fun _ _ => False) (by kernel_rfl) (fun _ _ _ _ h => h.elim) ?_
          obtain ⟨wq, hwq⟩ : ∃ wq, wq = wv.drew := ⟨_, rfl⟩
          have hkq : Kp wv wq := hwq ▸ (⟨rfl, rfl, rfl, Nat.le_refl _, fun _ _ => rfl⟩ : Kp wv wv.drew)
          rw [← hwq]
          have hq : ClY bx bq (off + k * 2) (.slice (some ⟨bq, off, none⟩) nl cl) f (.slice tp tn tc) wq := ⟨hkq.cell y3, hkq.cell hd1, hkq.cell hd2⟩
          have Hkq := Lib.hid hkq
          have hszq : bx + 2 ≤ wq.heap.size := by have := hkq.size; omega
          clear hwq y3 hd1 hd2 hkq
          refine anyP_take puts_true [0, 1, 3, 8, 10] (by kernel_rfl) hq ?_
          simp only [opsAt, List.getElem?_toArray, List.getElem?_cons_zero, List.getElem?_cons_succ]
          repeat (go_big_quiet_step (fail))
          refine wpQuiet_nil ?_
          refine anyP_load puts_true 2 28 (.slice (some ⟨bq, off, none⟩) nl cl) rfl rfl (by kernel_rfl) hq (fun w h => exec_load24 h.p (by first | rfl | simp [Act.eval]) rfl) ?_
          simp only [Act.put, List.setIfInBounds_toArray, List.set_cons_zero, List.set_cons_succ]
          refine anyP_load puts_true 9 35 (.slice (some ⟨bq, off, none⟩) nl cl) rfl rfl (by kernel_rfl) hq (fun w h => exec_load24 h.p (by first | rfl | simp [Act.eval]) rfl) ?_
          simp only [Act.put, List.setIfInBounds_toArray, List.set_cons_zero, List.set_cons_succ]
          refine anyP_take puts_true [4, 5, 11, 12] (by kernel_rfl) hq ?_
          simp only [opsAt, List.getElem?_toArray, List.getElem?_cons_zero, List.getElem?_cons_succ]
          repeat (go_big_quiet_step (fail))
          refine wpQuiet_nil ?_
          refine anyP_load puts_true 6 32 (iv f) rfl rfl (by kernel_rfl) hq (fun w h => exec_load3 h.c0 (by first | rfl | simp [Act.eval]) rfl) ?_
          simp only [Act.put, List.setIfInBounds_toArray, List.set_cons_zero, List.set_cons_succ]
          refine anyP_load puts_true 13 39 (.slice tp tn tc) rfl rfl (by kernel_rfl) hq (fun w h => exec_load22 h.c1 (by first | rfl | simp [Act.eval]) rfl) ?_
          simp only [Act.put, List.setIfInBounds_toArray, List.set_cons_zero, List.set_cons_succ]
          refine anyP_one 7 (by kernel_rfl) ?_
          simp only [opsAt, List.getElem?_toArray, List.getElem?_cons_zero, List.getElem?_cons_succ]
          go_wp2_with fail
          have hk7 := Kp.new wq (.cells #[] 3)
          have hq7 := hq.kp hk7
          refine ⟨fun _ => hq7, ?_⟩
          refine anyP_one 14 (by kernel_rfl) ?_
          simp only [opsAt, List.getElem?_toArray, List.getElem?_cons_zero, List.getElem?_cons_succ]
          go_wp2_with (at_builtin; go_loud (refine wpList_app rfl (.tmp 33) (.tmp 39) 22 rfl el22 wq.heap.size rfl (Own.empty wq 3 1) rfl (xs.map iv) (by have := HI.out.1; simp; omega) ((Kp.trans Hkq.out hk7).cs HI.out.2.2) (by simp [Value.oneCell']) tn (by omega) (xs.map iv) (by simp) (by omega) (by simp) ?_); intro a d w3 ha; have HA := Lib.hid ha; clear ha)
          have hk3 := empty_app HA.out
          have hO3 := HA.out.own
          have hq3 := hq.kp hk3
          refine ⟨fun _ => hq3, ?_⟩
          clear hq7 hk7
          refine anyP_one 15 (by kernel_rfl) ?_
          simp only [opsAt, List.getElem?_toArray, List.getElem?_cons_zero, List.getElem?_cons_succ]
          go_wp2_with fail
          refine ⟨fun _ => hq3, ?_⟩
          refine anyP_one 16 (by kernel_rfl) ?_
          simp only [opsAt, List.getElem?_toArray, List.getElem?_cons_zero, List.getElem?_cons_succ]
          go_wp2_with fail
          have hk8 := Kp.new w3 (.cells #[iv f, .slice a tn d] 45)
          have hq8 := hq3.kp hk8
          refine ⟨fun _ => hq8, ?_⟩
          have Hcs := Lib.hid (Cs.new w3 [iv f, .slice a tn d] 45 (0, 0))
          have HOl := Lib.hid (show Own (w3.alloc (.cells #[iv f, .slice a tn d] 45)) (bx + 2) 45 2 lo k lc (lnc (ls.take k) us) from (Own.keep (Own.keep (Own.keep HS.out.head Hkq.out) hk3) hk8))
          have hsz8 : bx + 2 ≤ (w3.alloc (.cells #[iv f, .slice a tn d] 45)).heap.size := by have := hk3.size; have := hk8.size; omega
          have Hk3 := Lib.hid hk3
          have HO3 := Lib.hid hO3
          have Hk8 := Lib.hid hk8
          clear hk3 hO3 hk8
          refine anyP_one 17 (by kernel_rfl) ?_
          simp only [opsAt, List.getElem?_toArray, List.getElem?_cons_zero, List.getElem?_cons_succ]
          go_wp2_with (at_builtin; go_loud (refine wpList_app rfl (.tmp 26) (.tmp 42) 24 rfl el24 (bx + 2) rfl HOl.out rfl [iv f, .slice a tn d] rfl Hcs.out (by simp [Value.oneCell']) (k + 1) rfl (lnc (ls.take (k + 1)) (us ++ [⟨a, tn, d⟩])) (Hlnc.out ⟨a, tn, d⟩) (by omega) hsz8 ?_); intro lo2 lc2 w9 hb; have HB := Lib.hid hb; clear hb)
          have hbx9 : bx ∉ blkL lo := fun h => by have := (HOl.out.lt bx (mem_blkL.1 h)).1; omega
          have hS9 := Lib.hid (Hst.out wq w3 w9 Hkq.out lo2 lc2 Hk3.out ⟨a, tn, d⟩ HO3.out HB.out)
          have hF9 := Lib.hid ((((HF.out.kp Hkq.out).kp Hk3.out).kp Hk8.out).fr HB.out.fr hbx9)
          have hG9 := Lib.hid ((((HG.out.kp Hkq.out).kp Hk3.out).kp Hk8.out).fr HB.out.fr (fun h => by have := (HOl.out.lt _ (mem_blkL.1 h)).1; omega))
          have hK9 := Lib.hid (kp_step' (Kp.trans (Kp.trans (Kp.trans Hkv.out Hkq.out) Hk3.out) Hk8.out) HB.out.fr (fun j hj => by have := (HOl.out.lt j (mem_blkL.1 hj)).1; have := Hbx.out; omega))
          have hq9 : ClY bx bq (off + k * 2) (.slice (some ⟨bq, off, none⟩) nl cl) f (.slice tp tn tc) w9 := by
            have hbq9 : bq ∉ blkL lo := fun h => by have := (HOl.out.lt bq (mem_blkL.1 h)).1; have := Hbx.out; omega
            exact ⟨HB.out.fr.cell hq8.p hbx9, HB.out.fr.cell hq8.c0 hbq9, HB.out.fr.cell hq8.c1 hbq9⟩
          refine ⟨fun _ => hq9, ?_⟩
          clear hq hq3 hq8
          refine anyP_one 18 (by kernel_rfl) ?_
          simp only [opsAt, List.getElem?_toArray, List.getElem?_cons_zero, List.getElem?_cons_succ]
          clear hq9
          go_wp2_with fail
          refine ⟨fun h => absurd rfl h, ?_⟩
          refine anyP_end (by kernel_rfl) ?_
          go_wp2_with fail
          go_roundw
          case rel => exact ⟨k + 1, lc2, lo2, us ++ [⟨a, tn, d⟩], by omega, by go_num, rfl, by simp [Hus.out], hS9.out, hK9.out, hF9.out, hG9.out⟩
          case measure => simp [intOf]; omega
        · obtain rfl : k = nl := by omega
          have hlk : ls.length = k := Hll.out
          have hS2 := hS.perm (rs' := rowsP t0 t1 ⟨lo, k, lc⟩ us b0 b1 ls) (by
            rw [List.take_of_length_le (by omega)]
            unfold rowsP
            exact (List.perm_middle (l₁ := [_, _])).symm.trans (List.Perm.swap _ _ _))
          have hF5 := hF.set3 (.slice lo k lc)
          have hset := Fr.set wv ⟨bx, 3, none⟩ (.slice lo k lc)
          have hG5 := hG.fr hset (by simp)
          have hS5 := hS2.fr hset (by intro x hx; simp at hx; omega)
          have hk5 := kp_step' hkv hset (by intro j hj; simp at hj; have := Hbx.out; omega)
          obtain ⟨wf, hwf, hFf, h4⟩ := hG5.set (.string nm) (.slice t0.ao t0.n t0.c) (.slice t1.ao t1.n t1.c) (.slice lo k lc)
          have HK := Lib.hid (kp_step' hk5 hFf (by intro j hj; simp at hj; have := Hbx.out; omega))
          have HSf := Lib.hid ((hS5.fr hFf (by intro x hx; simp at hx; omega)).base (B' := w.heap.size) (by have := Hbx.out; omega))
          have Hwf := Lib.hid hwf
          have HF5 := Lib.hid hF5
          have HG5 := Lib.hid hG5
          have Hus := Lib.hid (show us.length = ls.length by omega)
          obtain ⟨q0, q1, q2, q3, _, _, _, _⟩ := h4
          obtain ⟨y0, y1, y2, y3, z0, z1, z2, z3⟩ := hF
          clear hwf hFf hS hS2 hS5 hset hG hus hlk hkv hk5 hF5 hG5
          go_upto_region 11 with fail
          clear y0 y1 y2 y3 z0 z1 z2 z3
          obtain ⟨y0, y1, y2, y3, z0, z1, z2, z3⟩ := HF5.out
          obtain ⟨x0, x1, x2, x3, f0, f1, f2, f3⟩ := HG5.out
          go_wp2_with fail
          rw [← Hwf.out]
          show bodyPost Tryz.prog Tryz.f49 (ClonedPost w nm b0 b1 ls) .ret _ _
          refine bodyPost_ret (v := .agg #[.string nm, tvv t0, tvv t1, tvv ⟨lo, k, lc⟩]) (by simp [results, Tryz.results49, go_sem, q0, q1, q2, q3, tvv]) rfl ?_
          exact ⟨HK.out, t0, t1, ⟨lo, k, lc⟩, us, rfl, Hus.out, HSf.out⟩
end Go.Proofs.YtbdphdgomcabmaaGreatDoor

namespace Go.Proofs.YtbdphdgomcabmaaGreatDoor
open Go.RowKit

/-- What has been counted when k of the two lists have gone by. -/
def doneK (xs b : List Int) : Nat → List Int
  | 0 => []
  | 1 => xs
  | _ => xs ++ b
theorem cnt_le (l : List Int) : l.count 1 ≤ l.length ∧ l.countP (· != 1) ≤ l.length := ⟨List.count_le_length, List.countP_le_length⟩
theorem cnt_step (d m : List Int) (j : Nat) (h : j < m.length) : (d ++ m.take (j + 1)).count 1 = (if m[j] = 1 then (d ++ m.take j).count 1 + 1 else (d ++ m.take j).count 1) ∧
    (d ++ m.take (j + 1)).countP (· != 1) = (if m[j] = 1 then (d ++ m.take j).countP (· != 1) else (d ++ m.take j).countP (· != 1) + 1) := by
  rw [take_step m j h, ← List.append_assoc]
  generalize d ++ m.take j = l
  rw [List.count_append, List.countP_append]
  by_cases hx : m[j] = 1
  · rw [if_pos hx, if_pos hx, hx]; simp
  · rw [if_neg hx, if_neg hx]
    constructor
    · rw [List.count_singleton]; simp [hx]
    · simp [hx]
/-- What back answers, by what it counts. -/
theorem back_known (nm : Q.Bt) (b0 b1 : List Int) (l : Ln) (r : List Ln) : (okB l.2 = false → Q.backR ⟨nm, b0, b1, l :: r⟩ = none) ∧ (okB l.2 = true →
    (1 < (l.2 ++ Q.bef ⟨nm, b0, b1, l :: r⟩ l.1).count 1 ∨ 1 < (l.2 ++ Q.bef ⟨nm, b0, b1, l :: r⟩ l.1).countP (· != 1) → Q.backR ⟨nm, b0, b1, l :: r⟩ = none) ∧
    (∀ k, ¬ (1 < (l.2 ++ Q.bef ⟨nm, b0, b1, l :: r⟩ l.1).count 1 ∨ 1 < (l.2 ++ Q.bef ⟨nm, b0, b1, l :: r⟩ l.1).countP (· != 1)) →
      k = (if (l.2 ++ Q.bef ⟨nm, b0, b1, l :: r⟩ l.1).count 1 = 1 then [1] else []) ++ (if (l.2 ++ Q.bef ⟨nm, b0, b1, l :: r⟩ l.1).countP (· != 1) = 1 then [2] else []) →
      Q.backR ⟨nm, b0, b1, l :: r⟩ = some ⟨nm, if l.1 = 0 then k else b0, if l.1 = 0 then b1 else k, r⟩)) := by
  unfold Q.backR
  simp only
  refine ⟨fun h => by rw [h]; rfl, fun h => ⟨fun hc => by rw [if_pos h, if_pos hc], fun k hc hk => ?_⟩⟩
  rw [if_pos h, if_neg hc, ← hk]
  unfold Q.setBef
  split <;> rfl
theorem fresh_two {w3 w4 : World} {x : Nat} {ka : Option Addr} {o o' : Obj} (hs : (w3.alloc o).heap.size ≤ w4.heap.size) (ha : blk ka = some x → blk none = some x ∨ x = (w3.alloc o).heap.size) (hb : blk ka = some x ∨ x = (w4.alloc o').heap.size) : w3.heap.size ≤ x := by
  rw [World.size_alloc] at hs ha
  rw [World.size_alloc] at hb
  rcases hb with q | q
  · rcases ha q with q2 | q2
    · simp [blk] at q2
    · omega
  · omega
/-- What is answered: no, or the pattern with what is known ahead in a list of the call's own. -/
def RBackPost (w : World) (nm : ByteArray) (a0 a1 al : Option Addr) (n0 c0 n1 c1 nl cl : Nat) (b0 b1 : List Int) (l : Ln) (r : List Ln) (e : Ending) (w' : World) : Prop := Kp w w' ∧
  match Q.backR ⟨nm.data.toList, b0, b1, l :: r⟩ with
  | none => e = .returned (.tuple #[patV nm a0 a1 al n0 c0 n1 c1 nl cl, .bool false])
  | some q => ∃ t : Tv, e = .returned (.tuple #[.agg #[.string nm, if l.1 = 0 then tvv t else .slice a0 n0 c0, if l.1 = 0 then .slice a1 n1 c1 else tvv t, tvv (subT ⟨al, nl, cl⟩ 1)], .bool true]) ∧ Own w' w.heap.size 3 1 t.ao t.n t.c ((if l.1 = 0 then q.b0 else q.b1).map iv) ∧
      q.nm = nm.data.toList ∧ q.ls = r ∧ (if l.1 = 0 then q.b1 = b1 else q.b0 = b0) ∧ (if l.1 = 0 then q.b0 else q.b1).length ≤ 2
theorem RBackPost.no {w w' : World} {nm : ByteArray} {a0 a1 al : Option Addr} {n0 c0 n1 c1 nl cl : Nat} {b0 b1 : List Int} {l : Ln} {r : List Ln} (h : Q.backR ⟨nm.data.toList, b0, b1, l :: r⟩ = none) (k : Kp w w') : RBackPost w nm a0 a1 al n0 c0 n1 c1 nl cl b0 b1 l r (.returned (.tuple #[patV nm a0 a1 al n0 c0 n1 c1 nl cl, .bool false])) w' := ⟨k, by rw [h]⟩
theorem RBackPost.yes0 {w w' : World} {nm : ByteArray} {a0 a1 al : Option Addr} {n0 c0 n1 c1 nl cl : Nat} {b0 b1 xs k : List Int} {r : List Ln} (h : Q.backR ⟨nm.data.toList, b0, b1, (0, xs) :: r⟩ = some ⟨nm.data.toList, if ((0 : Int), xs).1 = 0 then k else b0, if ((0 : Int), xs).1 = 0 then b1 else k, r⟩) (hk : Kp w w') (t : Tv) (ho : Own w' w.heap.size 3 1 t.ao t.n t.c (k.map iv)) (hl : k.length ≤ 2) :
    RBackPost w nm a0 a1 al n0 c0 n1 c1 nl cl b0 b1 (0, xs) r (.returned (.tuple #[.agg #[.string nm, tvv t, .slice a1 n1 c1, tvv (subT ⟨al, nl, cl⟩ 1)], .bool true])) w' := ⟨hk, by rw [h]; exact ⟨t, by simp, by simpa using ho, rfl, rfl, by simp, by simpa using hl⟩⟩
theorem RBackPost.yes1 {w w' : World} {nm : ByteArray} {a0 a1 al : Option Addr} {n0 c0 n1 c1 nl cl : Nat} {b0 b1 xs k : List Int} {r : List Ln} (h : Q.backR ⟨nm.data.toList, b0, b1, (1, xs) :: r⟩ = some ⟨nm.data.toList, if ((1 : Int), xs).1 = 0 then k else b0, if ((1 : Int), xs).1 = 0 then b1 else k, r⟩) (hk : Kp w w') (t : Tv) (ho : Own w' w.heap.size 3 1 t.ao t.n t.c (k.map iv)) (hl : k.length ≤ 2) :
    RBackPost w nm a0 a1 al n0 c0 n1 c1 nl cl b0 b1 (1, xs) r (.returned (.tuple #[.agg #[.string nm, .slice a0 n0 c0, tvv t, tvv (subT ⟨al, nl, cl⟩ 1)], .bool true])) w' := ⟨hk, by rw [h]; exact ⟨t, by simp, by simpa using ho, rfl, rfl, by simp, by simpa using hl⟩⟩
set_option maxRecDepth 100000 in
set_option maxHeartbeats 16000000 in
theorem rback_0 (w : World) (nm : ByteArray) (a0 a1 al : Option Addr) (n0 c0 n1 c1 nl cl : Nat) (b0 b1 xs : List Int) (r : List Ln) (hP : PatI w a0 a1 al n0 n1 nl b0 b1 ((0, xs) :: r)) (hb : b0.length ≤ 10000) (hx : xs.length ≤ 10000) (hc : nl ≤ cl) (hl : nl ≤ 10000) :
    Calls Tryz.prog 51 #[patV nm a0 a1 al n0 c0 n1 c1 nl cl] w (RBackPost w nm a0 a1 al n0 c0 n1 c1 nl cl b0 b1 (0, xs) r) := by
  have hnl : nl = r.length + 1 := by have := hP.il.1; simp at this; omega
  have hpos : 0 < nl := by omega
  have Hnl := Lib.hid hnl
  obtain ⟨gq, go, tp, tn, tc, rfl, hd1, hd2, hI, htn⟩ := hP.il.2.2 0 (by simp)
  simp only [Nat.zero_mul, Nat.add_zero, List.getElem_cons_zero] at hd1 hd2 hI
  have hbk : (okB xs = false → Q.backR ⟨nm.data.toList, b0, b1, (0, xs) :: r⟩ = none) ∧ (okB xs = true →
    (1 < (xs ++ b0).count 1 ∨ 1 < (xs ++ b0).countP (· != 1) → Q.backR ⟨nm.data.toList, b0, b1, (0, xs) :: r⟩ = none) ∧
    (∀ k, ¬ (1 < (xs ++ b0).count 1 ∨ 1 < (xs ++ b0).countP (· != 1)) →
      k = (if (xs ++ b0).count 1 = 1 then [1] else []) ++ (if (xs ++ b0).countP (· != 1) = 1 then [2] else []) →
      Q.backR ⟨nm.data.toList, b0, b1, (0, xs) :: r⟩ = some ⟨nm.data.toList, if ((0 : Int), xs).1 = 0 then k else b0, if ((0 : Int), xs).1 = 0 then b1 else k, r⟩)) := back_known nm.data.toList b0 b1 (0, xs) r
  have Hbk := Lib.hid hbk
  clear hnl hbk
  have hkA := Kp.new w (.cells #[.string nm, .slice a0 n0 c0, .slice a1 n1 c1, .slice (some ⟨gq, go, none⟩) nl cl] 26)
  have hkB := Kp.new (w.alloc (.cells #[.string nm, .slice a0 n0 c0, .slice a1 n1 c1, .slice (some ⟨gq, go, none⟩) nl cl] 26)) (.cells #[.string ⟨#[]⟩, .slice none 0 0, .slice none 0 0, .slice none 0 0] 26)
  have hFA := (Four.new w (.string nm) (.slice a0 n0 c0) (.slice a1 n1 c1) (.slice (some ⟨gq, go, none⟩) nl cl) 26).kp hkB
  have hFB := Four.new (w.alloc (.cells #[.string nm, .slice a0 n0 c0, .slice a1 n1 c1, .slice (some ⟨gq, go, none⟩) nl cl] 26)) (.string ⟨#[]⟩) (.slice none 0 0) (.slice none 0 0) (.slice none 0 0) 26
  rw [World.size_alloc] at hFB
  have hkw := Kp.trans hkA hkB
  clear hkA hkB
  go_enter Tryz.func51, Tryz.ntmps51
  go_upto_region 1 with fail
  obtain ⟨bx, hbx⟩ : ∃ bx, bx = w.heap.size := ⟨_, rfl⟩
  rw [← hbx] at hFA hFB ⊢
  generalize (w.alloc (.cells #[.string nm, .slice a0 n0 c0, .slice a1 n1 c1, .slice (some ⟨gq, go, none⟩) nl cl] 26)).alloc (.cells #[.string ⟨#[]⟩, .slice none 0 0, .slice none 0 0, .slice none 0 0] 26) = wb at *
  have Hbx := Lib.hid hbx
  clear hbx
  have hP3 := hP.kp hkw
  replace hd1 := hkw.cell hd1
  replace hd2 := hkw.cell hd2
  have HF1 := Lib.hid hFA
  have HG1 := Lib.hid hFB
  have hk2 := Kp.new wb (.cells #[iv 0, .slice tp tn tc] 45)
  have hT2 := Two2.new wb (iv 0) (.slice tp tn tc) 45
  have HT2 := Lib.hid hT2
  have Hkw2 := Lib.hid (Kp.trans hkw hk2)
  have HF2 := Lib.hid (hFA.kp hk2)
  have HG2 := Lib.hid (hFB.kp hk2)
  have HI := Lib.hid hI
  have HPw := Lib.hid hP
  have hbxw : bx < wb.heap.size := by have := hFA.lt; omega
  have hbxw1 : bx + 1 < wb.heap.size := hFB.lt
  have hsg : bx + 2 ≤ wb.heap.size := by omega
  obtain ⟨y0, y1, y2, y3, _, _, _, _⟩ := hFA
  clear hk2 hkw hFB hP3 hI hP hT2
  go_upto_region 2 with fail
  clear y0 y1 y2 y3 hd1 hd2
  obtain ⟨bl, hbl⟩ : ∃ bl, bl = wb.heap.size := ⟨_, rfl⟩
  rw [← hbl] at HT2 ⊢
  have hbln : bx < bl ∧ bx + 1 < bl := by omega
  clear hbl
  generalize wb.alloc (.cells #[iv 0, .slice tp tn tc] 45) = w2 at *
  obtain ⟨t0, t1, _, _⟩ := HT2.out
  have HAh := Lib.hid (ahead_any w2 tp tn tc xs (Hkw2.out.is HI.out))
  go_wp2_with fail
  (with_reducible refine HAh.out.mono ?_)
  rintro e w3 ⟨rfl, hk3⟩
  have HK3 := Lib.hid (Kp.trans Hkw2.out hk3)
  have HF3 := Lib.hid (HF2.out.kp hk3)
  have HG3 := Lib.hid (HG2.out.kp hk3)
  have HT3 := Lib.hid (HT2.out.kp hk3)
  have Hsz := Lib.hid (show w.heap.size + 3 ≤ w3.heap.size by have := hk3.size; have := Hbx.out; have := World.block_lt_of_cell? _ _ HT2.out.c0; simp at this; omega)
  clear hk3 t0 t1
  cases hok : okB xs with
  | false =>
    have hno := Hbk.out.1 hok
    have Hno := Lib.hid hno
    obtain ⟨wf, hwf, hFf, h4⟩ := HG3.out.set (.string nm) (.slice a0 n0 c0) (.slice a1 n1 c1) (.slice (some ⟨gq, go, none⟩) nl cl)
    have HKf := Lib.hid (kp_step' HK3.out hFf (by intro j hj; simp at hj; have := Hbx.out; omega))
    have Hwf := Lib.hid hwf
    obtain ⟨q0, q1, q2, q3, _, _, _, _⟩ := h4
    obtain ⟨y0, y1, y2, y3, z0, z1, z2, z3⟩ := HF3.out
    obtain ⟨x0, x1, x2, x3, f0, f1, f2, f3⟩ := HG3.out
    clear hok hno hwf hFf
    go_wp2_with fail
    rw [← Hwf.out]
    refine bodyPost_ret (v := .tuple #[patV nm a0 a1 (some ⟨gq, go, none⟩) n0 c0 n1 c1 nl cl, .bool false]) (by simp [results, Tryz.results51, go_sem, q0, q1, q2, q3, patV]) rfl ?_
    exact RBackPost.no Hno.out HKf.out
  | true =>
    have hbk := Hbk.out.2 hok
    have Hbk2 := Lib.hid hbk
    have HI3 := Lib.hid (HK3.out.is HI.out)
    have HJ3 := Lib.hid (HK3.out.is HPw.out.i0)
    have hxn : tn ≤ 10000 := by rw [← HI.out.1]; exact hx
    have hbn : n0 ≤ 10000 := by rw [← HPw.out.i0.1]; exact hb
    clear hok hbk
    go_wp2_with fail
    go_loopw [5, 6, 7] (fun ev sv i wr => ∃ k : Nat, k ≤ 2 ∧ i = .int .i64 (k : Nat) ∧ ev = .int .i64 (((doneK xs b0 k).count 1 : Nat) : Int) ∧ sv = .int .i64 (((doneK xs b0 k).countP (· != 1) : Nat) : Int) ∧ w3 = wr) (fun _ _ i _ => 2 - (intOf i).toNat)
    case atStart => exact ⟨0, by omega, rfl, rfl, rfl, rfl⟩
    case round =>
      obtain ⟨k, hk, rfl, rfl, rfl, rfl⟩ := hrel
      obtain ⟨t0, t1, _, _⟩ := HT3.out
      obtain ⟨y0, y1, y2, y3, z0, z1, z2, z3⟩ := HF3.out
      obtain h | h | h : k = 0 ∨ k = 1 ∨ k = 2 := by omega
      · subst h
        rw [show ((0 : Nat) : Int) = 0 from rfl]
        rw [show doneK xs b0 0 = [] from rfl]
        go_wp2_with fail
        go_loopw [5, 6, 9] (fun ev sv i wr => ∃ j : Nat, j ≤ tn ∧ i = .int .i64 (j : Nat) ∧ ev = .int .i64 (((([]) ++ xs.take j).count 1 : Nat) : Int) ∧ sv = .int .i64 (((([]) ++ xs.take j).countP (· != 1) : Nat) : Int) ∧ w3 = wr) (fun _ _ i _ => tn - (intOf i).toNat)
        case atStart => exact ⟨0, by omega, rfl, by simp, by simp, rfl⟩
        case round =>
          obtain ⟨j, hj, rfl, rfl, rfl, rfl⟩ := hrel
          have hcle := cnt_le (([]) ++ xs.take j)
          have hlen : (([]) ++ xs.take j).length ≤ 20000 := by have := HI3.out.1; simp; omega
          by_cases hlt : j < tn
          · have hjl : j < xs.length := by rw [HI3.out.1]; exact hlt
            obtain ⟨g9, o9, e9, _, hc9⟩ := HI3.out.at j hlt
            have hce := hc9 j hlt
            have Hs1 := Lib.hid (cnt_step ([]) xs j hjl)
            clear hc9
            subst e9
            generalize xs[j] = x at *
            generalize hE : (([]) ++ xs.take j).count 1 = e at *
            generalize hS : (([]) ++ xs.take j).countP (· != 1) = s at *
            have HE := Lib.hid hE
            have HS := Lib.hid hS
            clear hE hS
            by_cases hx : x = 1
            · have Hx := Lib.hid hx
              subst hx
              go_wp2_with fail
              go_roundw
              case rel => exact ⟨j + 1, by omega, by go_num, by rw [Hs1.out.1, if_pos rfl]; go_num, by rw [Hs1.out.2, if_pos rfl], trivial⟩
              case measure => simp [intOf]; omega
            · have hb : (x == 1) = false := by simp [hx]
              have Hx := Lib.hid hx
              clear hx
              go_wp2_with fail
              go_roundw
              case rel => exact ⟨j + 1, by omega, by go_num, by rw [Hs1.out.1, if_neg Hx.out], by rw [Hs1.out.2, if_neg Hx.out]; go_num, trivial⟩
              case measure => simp [intOf]; omega
          · obtain rfl : j = tn := by omega
            have Hfin := Lib.hid (show ([]) ++ xs.take j = doneK xs b0 1 by rw [List.take_of_length_le (by rw [HI3.out.1]; exact Nat.le_refl _)]; rfl)
            go_wp2_with fail
            go_roundw
            case rel => exact ⟨1, by omega, rfl, by rw [← Hfin.out], by rw [← Hfin.out], trivial⟩
            case measure => simp [intOf]
      · subst h
        rw [show ((1 : Nat) : Int) = 1 from rfl]
        rw [show doneK xs b0 1 = xs from rfl]
        go_wp2_with fail
        go_loopw [5, 6, 9] (fun ev sv i wr => ∃ j : Nat, j ≤ n0 ∧ i = .int .i64 (j : Nat) ∧ ev = .int .i64 ((((xs) ++ b0.take j).count 1 : Nat) : Int) ∧ sv = .int .i64 ((((xs) ++ b0.take j).countP (· != 1) : Nat) : Int) ∧ w3 = wr) (fun _ _ i _ => n0 - (intOf i).toNat)
        case atStart => exact ⟨0, by omega, rfl, by simp, by simp, rfl⟩
        case round =>
          obtain ⟨j, hj, rfl, rfl, rfl, rfl⟩ := hrel
          have hcle := cnt_le ((xs) ++ b0.take j)
          have hlen : ((xs) ++ b0.take j).length ≤ 20000 := by have := HJ3.out.1; simp; omega
          by_cases hlt : j < n0
          · have hjl : j < b0.length := by rw [HJ3.out.1]; exact hlt
            obtain ⟨g9, o9, e9, _, hc9⟩ := HJ3.out.at j hlt
            have hce := hc9 j hlt
            have Hs1 := Lib.hid (cnt_step (xs) b0 j hjl)
            clear hc9
            subst e9
            generalize b0[j] = x at *
            generalize hE : ((xs) ++ b0.take j).count 1 = e at *
            generalize hS : ((xs) ++ b0.take j).countP (· != 1) = s at *
            have HE := Lib.hid hE
            have HS := Lib.hid hS
            clear hE hS
            by_cases hx : x = 1
            · have Hx := Lib.hid hx
              subst hx
              go_wp2_with fail
              go_roundw
              case rel => exact ⟨j + 1, by omega, by go_num, by rw [Hs1.out.1, if_pos rfl]; go_num, by rw [Hs1.out.2, if_pos rfl], trivial⟩
              case measure => simp [intOf]; omega
            · have hb : (x == 1) = false := by simp [hx]
              have Hx := Lib.hid hx
              clear hx
              go_wp2_with fail
              go_roundw
              case rel => exact ⟨j + 1, by omega, by go_num, by rw [Hs1.out.1, if_neg Hx.out], by rw [Hs1.out.2, if_neg Hx.out]; go_num, trivial⟩
              case measure => simp [intOf]; omega
          · obtain rfl : j = n0 := by omega
            have Hfin := Lib.hid (show (xs) ++ b0.take j = doneK xs b0 2 by rw [List.take_of_length_le (by rw [HJ3.out.1]; exact Nat.le_refl _)]; rfl)
            go_wp2_with fail
            go_roundw
            case rel => exact ⟨2, by omega, rfl, by rw [← Hfin.out], by rw [← Hfin.out], trivial⟩
            case measure => simp [intOf]
      · subst h
        rw [show ((2 : Nat) : Int) = 2 from rfl]
        rw [show doneK xs b0 2 = xs ++ b0 from rfl]
        clear y0 y1 y2 y3 z0 z1 z2 z3 t0 t1
        have Hc2 := Lib.hid (And.intro (Eq.refl ((xs ++ b0).count 1)) (Eq.refl ((xs ++ b0).countP (· != 1))))
        have hcle := cnt_le (xs ++ b0)
        have hlen : (xs ++ b0).length ≤ 20000 := by simp; omega
        generalize hE : (xs ++ b0).count 1 = e at *
        generalize hS : (xs ++ b0).countP (· != 1) = s at *
        replace Hc2 := Lib.hid (And.intro hE hS)
        clear hE hS
        by_cases hbad : 1 < e ∨ 1 < s
        · have Hno := Lib.hid (Hbk2.out.1 hbad)
          obtain ⟨wf, hwf, hFf, h4⟩ := HG3.out.set (.string nm) (.slice a0 n0 c0) (.slice a1 n1 c1) (.slice (some ⟨gq, go, none⟩) nl cl)
          have HKf := Lib.hid (kp_step' HK3.out hFf (by intro j hj; simp at hj; have := Hbx.out; omega))
          have Hwf := Lib.hid hwf
          obtain ⟨q0, q1, q2, q3, _, _, _, _⟩ := h4
          obtain ⟨y0, y1, y2, y3, z0, z1, z2, z3⟩ := HF3.out
          obtain ⟨x0, x1, x2, x3, f0, f1, f2, f3⟩ := HG3.out
          clear hwf hFf
          by_cases he1 : 1 < e
          · clear hbad
            go_wp2_with fail
            rw [← Hwf.out]
            refine bodyPost_ret (v := .tuple #[patV nm a0 a1 (some ⟨gq, go, none⟩) n0 c0 n1 c1 nl cl, .bool false]) (by simp [results, Tryz.results51, go_sem, q0, q1, q2, q3, patV]) rfl ?_
            exact RBackPost.no Hno.out HKf.out
          · have hs1 : 1 < s := by omega
            clear hbad
            go_wp2_with fail
            rw [← Hwf.out]
            refine bodyPost_ret (v := .tuple #[patV nm a0 a1 (some ⟨gq, go, none⟩) n0 c0 n1 c1 nl cl, .bool false]) (by simp [results, Tryz.results51, go_sem, q0, q1, q2, q3, patV]) rfl ?_
            exact RBackPost.no Hno.out HKf.out
        · obtain he | he : e = 0 ∨ e = 1 := by omega
          · obtain hs | hs : s = 0 ∨ s = 1 := by omega
            · subst he; subst hs
              clear hbad hcle
              go_upto_region 25 with fail
              have hk9 : Kp w3 w3 := Kp.refl _
              have hfresh9 : ∀ x ∈ blkL none, w3.heap.size ≤ x := fun x hx => by simp [blkL, blk] at hx
              have hO9 : Own w3 w.heap.size 3 1 none 0 0 (([] : List Int).map iv) := Own.nil _ _ _ _
              have Hback := Lib.hid (Hbk2.out.2 [] (by omega) rfl)
              have HF9 := Lib.hid (HF3.out.kp hk9)
              have HG9 := Lib.hid (HG3.out.kp hk9)
              have HT9 := Lib.hid (HT3.out.kp hk9)
              have Hk9 := Lib.hid hk9
              have Hfr9 := Lib.hid hfresh9
              have HO9 := Lib.hid hO9
              clear hk9 hfresh9 hO9
              obtain ⟨y0, y1, y2, y3, z0, z1, z2, z3⟩ := HF9.out
              obtain ⟨t0, t1, _, _⟩ := HT9.out
              by_cases hc1 : cl = 1
              · have hn1 : nl = 1 := by omega
                subst hc1; subst hn1
                have Hsub := Lib.hid (show tvv (subT ⟨some ⟨gq, go, none⟩, 1, 1⟩ 1) = (.slice (some ⟨gq, go, none⟩) 0 0) by unfold subT; simp [tvv])
                have hs1 := Fr.set w3 ⟨bx, 1, none⟩ (.slice none 0 0)
                have HF10 := Lib.hid (HF9.out.set1 (.slice none 0 0))
                have hs2 := Fr.set (w3.setCell ⟨bx, 1, none⟩ (.slice none 0 0)) ⟨bx, 3, none⟩ (.slice (some ⟨gq, go, none⟩) 0 0)
                have HF11 := Lib.hid (HF10.out.set3 (.slice (some ⟨gq, go, none⟩) 0 0))
                have HG11 := Lib.hid ((HG9.out.fr hs1 (by simp)).fr hs2 (by simp))
                obtain ⟨wf, hwf, hFf, h4⟩ := HG11.out.set (.string nm) (.slice none 0 0) (.slice a1 n1 c1) (.slice (some ⟨gq, go, none⟩) 0 0)
                have hfr : Fr [bx, bx + 1] w3 wf := ((hs1.mono (Y := [bx, bx + 1]) (by simp)).trans (hs2.mono (Y := [bx, bx + 1]) (by simp))).trans (hFf.mono (Y := [bx, bx + 1]) (by simp))
                have HKf := Lib.hid (kp_step' (Kp.trans HK3.out Hk9.out) hfr (by intro j hj; simp at hj; have := Hbx.out; omega))
                have HOf := Lib.hid (hfr.own HO9.out (fun x hx hq => by have := Hfr9.out x hx; have := Hsz.out; have := Hbx.out; simp at hq; omega))
                have Hwf := Lib.hid hwf
                obtain ⟨q0, q1, q2, q3, _, _, _, _⟩ := h4
                clear hwf hFf hfr hs1 hs2
                go_upto_region 26 with fail
                clear y0 y1 y2 y3 z0 z1 z2 z3
                obtain ⟨y0, y1, y2, y3, z0, z1, z2, z3⟩ := HF10.out
                go_upto_region 27 with fail
                clear y0 y1 y2 y3 z0 z1 z2 z3
                obtain ⟨y0, y1, y2, y3, z0, z1, z2, z3⟩ := HF11.out
                obtain ⟨x0, x1, x2, x3, f0, f1, f2, f3⟩ := HG11.out
                go_wp2_with fail
                rw [← Hwf.out]
                refine bodyPost_ret (v := .tuple #[.agg #[.string nm, .slice none 0 0, .slice a1 n1 c1, (.slice (some ⟨gq, go, none⟩) 0 0)], .bool true]) (by simp [results, Tryz.results51, go_sem, q0, q1, q2, q3]) rfl ?_
                rw [← Hsub.out]
                exact RBackPost.yes0 Hback.out HKf.out ⟨none, 0, 0⟩ HOf.out (by decide)
              · have hcl1 : cl ≠ 1 := hc1
                clear hc1
                have Hsub := Lib.hid (show tvv (subT ⟨some ⟨gq, go, none⟩, nl, cl⟩ 1) = (.slice (some ⟨gq, go + 2, none⟩) (nl - 1) (cl - 1)) by unfold subT; simp [tvv, Addr.add_lit, hcl1])
                have hs1 := Fr.set w3 ⟨bx, 1, none⟩ (.slice none 0 0)
                have HF10 := Lib.hid (HF9.out.set1 (.slice none 0 0))
                have hs2 := Fr.set (w3.setCell ⟨bx, 1, none⟩ (.slice none 0 0)) ⟨bx, 3, none⟩ (.slice (some ⟨gq, go + 2, none⟩) (nl - 1) (cl - 1))
                have HF11 := Lib.hid (HF10.out.set3 (.slice (some ⟨gq, go + 2, none⟩) (nl - 1) (cl - 1)))
                have HG11 := Lib.hid ((HG9.out.fr hs1 (by simp)).fr hs2 (by simp))
                obtain ⟨wf, hwf, hFf, h4⟩ := HG11.out.set (.string nm) (.slice none 0 0) (.slice a1 n1 c1) (.slice (some ⟨gq, go + 2, none⟩) (nl - 1) (cl - 1))
                have hfr : Fr [bx, bx + 1] w3 wf := ((hs1.mono (Y := [bx, bx + 1]) (by simp)).trans (hs2.mono (Y := [bx, bx + 1]) (by simp))).trans (hFf.mono (Y := [bx, bx + 1]) (by simp))
                have HKf := Lib.hid (kp_step' (Kp.trans HK3.out Hk9.out) hfr (by intro j hj; simp at hj; have := Hbx.out; omega))
                have HOf := Lib.hid (hfr.own HO9.out (fun x hx hq => by have := Hfr9.out x hx; have := Hsz.out; have := Hbx.out; simp at hq; omega))
                have Hwf := Lib.hid hwf
                obtain ⟨q0, q1, q2, q3, _, _, _, _⟩ := h4
                clear hwf hFf hfr hs1 hs2
                go_upto_region 26 with fail
                clear y0 y1 y2 y3 z0 z1 z2 z3
                obtain ⟨y0, y1, y2, y3, z0, z1, z2, z3⟩ := HF10.out
                go_upto_region 27 with fail
                clear y0 y1 y2 y3 z0 z1 z2 z3
                obtain ⟨y0, y1, y2, y3, z0, z1, z2, z3⟩ := HF11.out
                obtain ⟨x0, x1, x2, x3, f0, f1, f2, f3⟩ := HG11.out
                go_wp2_with fail
                rw [← Hwf.out]
                refine bodyPost_ret (v := .tuple #[.agg #[.string nm, .slice none 0 0, .slice a1 n1 c1, (.slice (some ⟨gq, go + 2, none⟩) (nl - 1) (cl - 1))], .bool true]) (by simp [results, Tryz.results51, go_sem, q0, q1, q2, q3]) rfl ?_
                rw [← Hsub.out]
                exact RBackPost.yes0 Hback.out HKf.out ⟨none, 0, 0⟩ HOf.out (by decide)
            · subst he; subst hs
              clear hbad hcle
              go_upto_region 25 with (first | (at_builtin; (refine wpList_app rfl (.tmp 62) (.tmp 63) 22 rfl el22 w.heap.size rfl (Own.nil _ _ _ _) rfl [iv 2] rfl (Cs.new w3 [iv 2] 3 (0, 0)) (by simp [Value.oneCell']) 1 rfl ([iv 2]) rfl (by omega) (by have := Hsz.out; simp; omega) ?_); intro ka kc w4 ha; have HA := Lib.hid ha; clear ha))
              have hk9 : Kp w3 w4 := kp_step' (Kp.new w3 (.cells #[iv 2] 3)) HA.out.fr (by simp [blkL, blk])
              have hfresh9 : ∀ x ∈ blkL ka, w3.heap.size ≤ x := fun x hx => by rcases HA.out.fresh x (mem_blkL.1 hx) with q | q <;> first | (simp [blk] at q; done) | (rw [q]; simp)
              have hO9 : Own w4 w.heap.size 3 1 ka 1 kc (([2] : List Int).map iv) := HA.out.own
              have Hback := Lib.hid (Hbk2.out.2 [2] (by omega) rfl)
              have HF9 := Lib.hid (HF3.out.kp hk9)
              have HG9 := Lib.hid (HG3.out.kp hk9)
              have HT9 := Lib.hid (HT3.out.kp hk9)
              have Hk9 := Lib.hid hk9
              have Hfr9 := Lib.hid hfresh9
              have HO9 := Lib.hid hO9
              clear hk9 hfresh9 hO9
              obtain ⟨y0, y1, y2, y3, z0, z1, z2, z3⟩ := HF9.out
              obtain ⟨t0, t1, _, _⟩ := HT9.out
              by_cases hc1 : cl = 1
              · have hn1 : nl = 1 := by omega
                subst hc1; subst hn1
                have Hsub := Lib.hid (show tvv (subT ⟨some ⟨gq, go, none⟩, 1, 1⟩ 1) = (.slice (some ⟨gq, go, none⟩) 0 0) by unfold subT; simp [tvv])
                have hs1 := Fr.set w4 ⟨bx, 1, none⟩ (.slice ka 1 kc)
                have HF10 := Lib.hid (HF9.out.set1 (.slice ka 1 kc))
                have hs2 := Fr.set (w4.setCell ⟨bx, 1, none⟩ (.slice ka 1 kc)) ⟨bx, 3, none⟩ (.slice (some ⟨gq, go, none⟩) 0 0)
                have HF11 := Lib.hid (HF10.out.set3 (.slice (some ⟨gq, go, none⟩) 0 0))
                have HG11 := Lib.hid ((HG9.out.fr hs1 (by simp)).fr hs2 (by simp))
                obtain ⟨wf, hwf, hFf, h4⟩ := HG11.out.set (.string nm) (.slice ka 1 kc) (.slice a1 n1 c1) (.slice (some ⟨gq, go, none⟩) 0 0)
                have hfr : Fr [bx, bx + 1] w4 wf := ((hs1.mono (Y := [bx, bx + 1]) (by simp)).trans (hs2.mono (Y := [bx, bx + 1]) (by simp))).trans (hFf.mono (Y := [bx, bx + 1]) (by simp))
                have HKf := Lib.hid (kp_step' (Kp.trans HK3.out Hk9.out) hfr (by intro j hj; simp at hj; have := Hbx.out; omega))
                have HOf := Lib.hid (hfr.own HO9.out (fun x hx hq => by have := Hfr9.out x hx; have := Hsz.out; have := Hbx.out; simp at hq; omega))
                have Hwf := Lib.hid hwf
                obtain ⟨q0, q1, q2, q3, _, _, _, _⟩ := h4
                clear hwf hFf hfr hs1 hs2
                go_upto_region 26 with fail
                clear y0 y1 y2 y3 z0 z1 z2 z3
                obtain ⟨y0, y1, y2, y3, z0, z1, z2, z3⟩ := HF10.out
                go_upto_region 27 with fail
                clear y0 y1 y2 y3 z0 z1 z2 z3
                obtain ⟨y0, y1, y2, y3, z0, z1, z2, z3⟩ := HF11.out
                obtain ⟨x0, x1, x2, x3, f0, f1, f2, f3⟩ := HG11.out
                go_wp2_with fail
                rw [← Hwf.out]
                refine bodyPost_ret (v := .tuple #[.agg #[.string nm, .slice ka 1 kc, .slice a1 n1 c1, (.slice (some ⟨gq, go, none⟩) 0 0)], .bool true]) (by simp [results, Tryz.results51, go_sem, q0, q1, q2, q3]) rfl ?_
                rw [← Hsub.out]
                exact RBackPost.yes0 Hback.out HKf.out ⟨ka, 1, kc⟩ HOf.out (by decide)
              · have hcl1 : cl ≠ 1 := hc1
                clear hc1
                have Hsub := Lib.hid (show tvv (subT ⟨some ⟨gq, go, none⟩, nl, cl⟩ 1) = (.slice (some ⟨gq, go + 2, none⟩) (nl - 1) (cl - 1)) by unfold subT; simp [tvv, Addr.add_lit, hcl1])
                have hs1 := Fr.set w4 ⟨bx, 1, none⟩ (.slice ka 1 kc)
                have HF10 := Lib.hid (HF9.out.set1 (.slice ka 1 kc))
                have hs2 := Fr.set (w4.setCell ⟨bx, 1, none⟩ (.slice ka 1 kc)) ⟨bx, 3, none⟩ (.slice (some ⟨gq, go + 2, none⟩) (nl - 1) (cl - 1))
                have HF11 := Lib.hid (HF10.out.set3 (.slice (some ⟨gq, go + 2, none⟩) (nl - 1) (cl - 1)))
                have HG11 := Lib.hid ((HG9.out.fr hs1 (by simp)).fr hs2 (by simp))
                obtain ⟨wf, hwf, hFf, h4⟩ := HG11.out.set (.string nm) (.slice ka 1 kc) (.slice a1 n1 c1) (.slice (some ⟨gq, go + 2, none⟩) (nl - 1) (cl - 1))
                have hfr : Fr [bx, bx + 1] w4 wf := ((hs1.mono (Y := [bx, bx + 1]) (by simp)).trans (hs2.mono (Y := [bx, bx + 1]) (by simp))).trans (hFf.mono (Y := [bx, bx + 1]) (by simp))
                have HKf := Lib.hid (kp_step' (Kp.trans HK3.out Hk9.out) hfr (by intro j hj; simp at hj; have := Hbx.out; omega))
                have HOf := Lib.hid (hfr.own HO9.out (fun x hx hq => by have := Hfr9.out x hx; have := Hsz.out; have := Hbx.out; simp at hq; omega))
                have Hwf := Lib.hid hwf
                obtain ⟨q0, q1, q2, q3, _, _, _, _⟩ := h4
                clear hwf hFf hfr hs1 hs2
                go_upto_region 26 with fail
                clear y0 y1 y2 y3 z0 z1 z2 z3
                obtain ⟨y0, y1, y2, y3, z0, z1, z2, z3⟩ := HF10.out
                go_upto_region 27 with fail
                clear y0 y1 y2 y3 z0 z1 z2 z3
                obtain ⟨y0, y1, y2, y3, z0, z1, z2, z3⟩ := HF11.out
                obtain ⟨x0, x1, x2, x3, f0, f1, f2, f3⟩ := HG11.out
                go_wp2_with fail
                rw [← Hwf.out]
                refine bodyPost_ret (v := .tuple #[.agg #[.string nm, .slice ka 1 kc, .slice a1 n1 c1, (.slice (some ⟨gq, go + 2, none⟩) (nl - 1) (cl - 1))], .bool true]) (by simp [results, Tryz.results51, go_sem, q0, q1, q2, q3]) rfl ?_
                rw [← Hsub.out]
                exact RBackPost.yes0 Hback.out HKf.out ⟨ka, 1, kc⟩ HOf.out (by decide)
          · obtain hs | hs : s = 0 ∨ s = 1 := by omega
            · subst he; subst hs
              clear hbad hcle
              go_upto_region 25 with (first | (at_builtin; (refine wpList_app rfl (.tmp 57) (.tmp 58) 22 rfl el22 w.heap.size rfl (Own.nil _ _ _ _) rfl [iv 1] rfl (Cs.new w3 [iv 1] 3 (0, 0)) (by simp [Value.oneCell']) 1 rfl ([iv 1]) rfl (by omega) (by have := Hsz.out; simp; omega) ?_); intro ka kc w4 ha; have HA := Lib.hid ha; clear ha))
              have hk9 : Kp w3 w4 := kp_step' (Kp.new w3 (.cells #[iv 1] 3)) HA.out.fr (by simp [blkL, blk])
              have hfresh9 : ∀ x ∈ blkL ka, w3.heap.size ≤ x := fun x hx => by rcases HA.out.fresh x (mem_blkL.1 hx) with q | q <;> first | (simp [blk] at q; done) | (rw [q]; simp)
              have hO9 : Own w4 w.heap.size 3 1 ka 1 kc (([1] : List Int).map iv) := HA.out.own
              have Hback := Lib.hid (Hbk2.out.2 [1] (by omega) rfl)
              have HF9 := Lib.hid (HF3.out.kp hk9)
              have HG9 := Lib.hid (HG3.out.kp hk9)
              have HT9 := Lib.hid (HT3.out.kp hk9)
              have Hk9 := Lib.hid hk9
              have Hfr9 := Lib.hid hfresh9
              have HO9 := Lib.hid hO9
              clear hk9 hfresh9 hO9
              obtain ⟨y0, y1, y2, y3, z0, z1, z2, z3⟩ := HF9.out
              obtain ⟨t0, t1, _, _⟩ := HT9.out
              by_cases hc1 : cl = 1
              · have hn1 : nl = 1 := by omega
                subst hc1; subst hn1
                have Hsub := Lib.hid (show tvv (subT ⟨some ⟨gq, go, none⟩, 1, 1⟩ 1) = (.slice (some ⟨gq, go, none⟩) 0 0) by unfold subT; simp [tvv])
                have hs1 := Fr.set w4 ⟨bx, 1, none⟩ (.slice ka 1 kc)
                have HF10 := Lib.hid (HF9.out.set1 (.slice ka 1 kc))
                have hs2 := Fr.set (w4.setCell ⟨bx, 1, none⟩ (.slice ka 1 kc)) ⟨bx, 3, none⟩ (.slice (some ⟨gq, go, none⟩) 0 0)
                have HF11 := Lib.hid (HF10.out.set3 (.slice (some ⟨gq, go, none⟩) 0 0))
                have HG11 := Lib.hid ((HG9.out.fr hs1 (by simp)).fr hs2 (by simp))
                obtain ⟨wf, hwf, hFf, h4⟩ := HG11.out.set (.string nm) (.slice ka 1 kc) (.slice a1 n1 c1) (.slice (some ⟨gq, go, none⟩) 0 0)
                have hfr : Fr [bx, bx + 1] w4 wf := ((hs1.mono (Y := [bx, bx + 1]) (by simp)).trans (hs2.mono (Y := [bx, bx + 1]) (by simp))).trans (hFf.mono (Y := [bx, bx + 1]) (by simp))
                have HKf := Lib.hid (kp_step' (Kp.trans HK3.out Hk9.out) hfr (by intro j hj; simp at hj; have := Hbx.out; omega))
                have HOf := Lib.hid (hfr.own HO9.out (fun x hx hq => by have := Hfr9.out x hx; have := Hsz.out; have := Hbx.out; simp at hq; omega))
                have Hwf := Lib.hid hwf
                obtain ⟨q0, q1, q2, q3, _, _, _, _⟩ := h4
                clear hwf hFf hfr hs1 hs2
                go_upto_region 26 with fail
                clear y0 y1 y2 y3 z0 z1 z2 z3
                obtain ⟨y0, y1, y2, y3, z0, z1, z2, z3⟩ := HF10.out
                go_upto_region 27 with fail
                clear y0 y1 y2 y3 z0 z1 z2 z3
                obtain ⟨y0, y1, y2, y3, z0, z1, z2, z3⟩ := HF11.out
                obtain ⟨x0, x1, x2, x3, f0, f1, f2, f3⟩ := HG11.out
                go_wp2_with fail
                rw [← Hwf.out]
                refine bodyPost_ret (v := .tuple #[.agg #[.string nm, .slice ka 1 kc, .slice a1 n1 c1, (.slice (some ⟨gq, go, none⟩) 0 0)], .bool true]) (by simp [results, Tryz.results51, go_sem, q0, q1, q2, q3]) rfl ?_
                rw [← Hsub.out]
                exact RBackPost.yes0 Hback.out HKf.out ⟨ka, 1, kc⟩ HOf.out (by decide)
              · have hcl1 : cl ≠ 1 := hc1
                clear hc1
                have Hsub := Lib.hid (show tvv (subT ⟨some ⟨gq, go, none⟩, nl, cl⟩ 1) = (.slice (some ⟨gq, go + 2, none⟩) (nl - 1) (cl - 1)) by unfold subT; simp [tvv, Addr.add_lit, hcl1])
                have hs1 := Fr.set w4 ⟨bx, 1, none⟩ (.slice ka 1 kc)
                have HF10 := Lib.hid (HF9.out.set1 (.slice ka 1 kc))
                have hs2 := Fr.set (w4.setCell ⟨bx, 1, none⟩ (.slice ka 1 kc)) ⟨bx, 3, none⟩ (.slice (some ⟨gq, go + 2, none⟩) (nl - 1) (cl - 1))
                have HF11 := Lib.hid (HF10.out.set3 (.slice (some ⟨gq, go + 2, none⟩) (nl - 1) (cl - 1)))
                have HG11 := Lib.hid ((HG9.out.fr hs1 (by simp)).fr hs2 (by simp))
                obtain ⟨wf, hwf, hFf, h4⟩ := HG11.out.set (.string nm) (.slice ka 1 kc) (.slice a1 n1 c1) (.slice (some ⟨gq, go + 2, none⟩) (nl - 1) (cl - 1))
                have hfr : Fr [bx, bx + 1] w4 wf := ((hs1.mono (Y := [bx, bx + 1]) (by simp)).trans (hs2.mono (Y := [bx, bx + 1]) (by simp))).trans (hFf.mono (Y := [bx, bx + 1]) (by simp))
                have HKf := Lib.hid (kp_step' (Kp.trans HK3.out Hk9.out) hfr (by intro j hj; simp at hj; have := Hbx.out; omega))
                have HOf := Lib.hid (hfr.own HO9.out (fun x hx hq => by have := Hfr9.out x hx; have := Hsz.out; have := Hbx.out; simp at hq; omega))
                have Hwf := Lib.hid hwf
                obtain ⟨q0, q1, q2, q3, _, _, _, _⟩ := h4
                clear hwf hFf hfr hs1 hs2
                go_upto_region 26 with fail
                clear y0 y1 y2 y3 z0 z1 z2 z3
                obtain ⟨y0, y1, y2, y3, z0, z1, z2, z3⟩ := HF10.out
                go_upto_region 27 with fail
                clear y0 y1 y2 y3 z0 z1 z2 z3
                obtain ⟨y0, y1, y2, y3, z0, z1, z2, z3⟩ := HF11.out
                obtain ⟨x0, x1, x2, x3, f0, f1, f2, f3⟩ := HG11.out
                go_wp2_with fail
                rw [← Hwf.out]
                refine bodyPost_ret (v := .tuple #[.agg #[.string nm, .slice ka 1 kc, .slice a1 n1 c1, (.slice (some ⟨gq, go + 2, none⟩) (nl - 1) (cl - 1))], .bool true]) (by simp [results, Tryz.results51, go_sem, q0, q1, q2, q3]) rfl ?_
                rw [← Hsub.out]
                exact RBackPost.yes0 Hback.out HKf.out ⟨ka, 1, kc⟩ HOf.out (by decide)
            · subst he; subst hs
              clear hbad hcle
              go_upto_region 25 with (first | (at_builtin; (refine wpList_app rfl (.tmp 57) (.tmp 58) 22 rfl el22 w.heap.size rfl (Own.nil _ _ _ _) rfl [iv 1] rfl (Cs.new w3 [iv 1] 3 (0, 0)) (by simp [Value.oneCell']) 1 rfl ([iv 1]) rfl (by omega) (by have := Hsz.out; simp; omega) ?_); intro ka kc w4 ha; have HA := Lib.hid ha; clear ha) | (at_builtin; (refine wpList_app rfl (.tmp 62) (.tmp 63) 22 rfl el22 w.heap.size rfl (Own.keep HA.out.own (Kp.new w4 (.cells #[iv 2] 3))) rfl [iv 2] rfl (Cs.new w4 [iv 2] 3 (0, 0)) (by simp [Value.oneCell']) 2 rfl ([iv 1, iv 2]) rfl (by omega) (by have := Hsz.out; have := HA.out.fr.size; simp at this ⊢; omega) ?_); intro kb kd w5 hb; have HB := Lib.hid hb; clear hb))
              have hk9 : Kp w3 w5 := kp_step' (Kp.trans (kp_step' (Kp.new w3 (.cells #[iv 1] 3)) HA.out.fr (by simp [blkL, blk])) (Kp.new w4 (.cells #[iv 2] 3))) HB.out.fr (fun j hj => by rcases HA.out.fresh j (mem_blkL.1 hj) with q | q <;> first | (simp [blk] at q; done) | (rw [q]; simp))
              have hfresh9 : ∀ x ∈ blkL kb, w3.heap.size ≤ x := fun x hx => fresh_two HA.out.fr.size (fun q => HA.out.fresh x q) (HB.out.fresh x (mem_blkL.1 hx))
              have hO9 : Own w5 w.heap.size 3 1 kb 2 kd (([1, 2] : List Int).map iv) := HB.out.own
              have Hback := Lib.hid (Hbk2.out.2 [1, 2] (by omega) rfl)
              have HF9 := Lib.hid (HF3.out.kp hk9)
              have HG9 := Lib.hid (HG3.out.kp hk9)
              have HT9 := Lib.hid (HT3.out.kp hk9)
              have Hk9 := Lib.hid hk9
              have Hfr9 := Lib.hid hfresh9
              have HO9 := Lib.hid hO9
              clear hk9 hfresh9 hO9
              obtain ⟨y0, y1, y2, y3, z0, z1, z2, z3⟩ := HF9.out
              obtain ⟨t0, t1, _, _⟩ := HT9.out
              by_cases hc1 : cl = 1
              · have hn1 : nl = 1 := by omega
                subst hc1; subst hn1
                have Hsub := Lib.hid (show tvv (subT ⟨some ⟨gq, go, none⟩, 1, 1⟩ 1) = (.slice (some ⟨gq, go, none⟩) 0 0) by unfold subT; simp [tvv])
                have hs1 := Fr.set w5 ⟨bx, 1, none⟩ (.slice kb 2 kd)
                have HF10 := Lib.hid (HF9.out.set1 (.slice kb 2 kd))
                have hs2 := Fr.set (w5.setCell ⟨bx, 1, none⟩ (.slice kb 2 kd)) ⟨bx, 3, none⟩ (.slice (some ⟨gq, go, none⟩) 0 0)
                have HF11 := Lib.hid (HF10.out.set3 (.slice (some ⟨gq, go, none⟩) 0 0))
                have HG11 := Lib.hid ((HG9.out.fr hs1 (by simp)).fr hs2 (by simp))
                obtain ⟨wf, hwf, hFf, h4⟩ := HG11.out.set (.string nm) (.slice kb 2 kd) (.slice a1 n1 c1) (.slice (some ⟨gq, go, none⟩) 0 0)
                have hfr : Fr [bx, bx + 1] w5 wf := ((hs1.mono (Y := [bx, bx + 1]) (by simp)).trans (hs2.mono (Y := [bx, bx + 1]) (by simp))).trans (hFf.mono (Y := [bx, bx + 1]) (by simp))
                have HKf := Lib.hid (kp_step' (Kp.trans HK3.out Hk9.out) hfr (by intro j hj; simp at hj; have := Hbx.out; omega))
                have HOf := Lib.hid (hfr.own HO9.out (fun x hx hq => by have := Hfr9.out x hx; have := Hsz.out; have := Hbx.out; simp at hq; omega))
                have Hwf := Lib.hid hwf
                obtain ⟨q0, q1, q2, q3, _, _, _, _⟩ := h4
                clear hwf hFf hfr hs1 hs2
                go_upto_region 26 with fail
                clear y0 y1 y2 y3 z0 z1 z2 z3
                obtain ⟨y0, y1, y2, y3, z0, z1, z2, z3⟩ := HF10.out
                go_upto_region 27 with fail
                clear y0 y1 y2 y3 z0 z1 z2 z3
                obtain ⟨y0, y1, y2, y3, z0, z1, z2, z3⟩ := HF11.out
                obtain ⟨x0, x1, x2, x3, f0, f1, f2, f3⟩ := HG11.out
                go_wp2_with fail
                rw [← Hwf.out]
                refine bodyPost_ret (v := .tuple #[.agg #[.string nm, .slice kb 2 kd, .slice a1 n1 c1, (.slice (some ⟨gq, go, none⟩) 0 0)], .bool true]) (by simp [results, Tryz.results51, go_sem, q0, q1, q2, q3]) rfl ?_
                rw [← Hsub.out]
                exact RBackPost.yes0 Hback.out HKf.out ⟨kb, 2, kd⟩ HOf.out (by decide)
              · have hcl1 : cl ≠ 1 := hc1
                clear hc1
                have Hsub := Lib.hid (show tvv (subT ⟨some ⟨gq, go, none⟩, nl, cl⟩ 1) = (.slice (some ⟨gq, go + 2, none⟩) (nl - 1) (cl - 1)) by unfold subT; simp [tvv, Addr.add_lit, hcl1])
                have hs1 := Fr.set w5 ⟨bx, 1, none⟩ (.slice kb 2 kd)
                have HF10 := Lib.hid (HF9.out.set1 (.slice kb 2 kd))
                have hs2 := Fr.set (w5.setCell ⟨bx, 1, none⟩ (.slice kb 2 kd)) ⟨bx, 3, none⟩ (.slice (some ⟨gq, go + 2, none⟩) (nl - 1) (cl - 1))
                have HF11 := Lib.hid (HF10.out.set3 (.slice (some ⟨gq, go + 2, none⟩) (nl - 1) (cl - 1)))
                have HG11 := Lib.hid ((HG9.out.fr hs1 (by simp)).fr hs2 (by simp))
                obtain ⟨wf, hwf, hFf, h4⟩ := HG11.out.set (.string nm) (.slice kb 2 kd) (.slice a1 n1 c1) (.slice (some ⟨gq, go + 2, none⟩) (nl - 1) (cl - 1))
                have hfr : Fr [bx, bx + 1] w5 wf := ((hs1.mono (Y := [bx, bx + 1]) (by simp)).trans (hs2.mono (Y := [bx, bx + 1]) (by simp))).trans (hFf.mono (Y := [bx, bx + 1]) (by simp))
                have HKf := Lib.hid (kp_step' (Kp.trans HK3.out Hk9.out) hfr (by intro j hj; simp at hj; have := Hbx.out; omega))
                have HOf := Lib.hid (hfr.own HO9.out (fun x hx hq => by have := Hfr9.out x hx; have := Hsz.out; have := Hbx.out; simp at hq; omega))
                have Hwf := Lib.hid hwf
                obtain ⟨q0, q1, q2, q3, _, _, _, _⟩ := h4
                clear hwf hFf hfr hs1 hs2
                go_upto_region 26 with fail
                clear y0 y1 y2 y3 z0 z1 z2 z3
                obtain ⟨y0, y1, y2, y3, z0, z1, z2, z3⟩ := HF10.out
                go_upto_region 27 with fail
                clear y0 y1 y2 y3 z0 z1 z2 z3
                obtain ⟨y0, y1, y2, y3, z0, z1, z2, z3⟩ := HF11.out
                obtain ⟨x0, x1, x2, x3, f0, f1, f2, f3⟩ := HG11.out
                go_wp2_with fail
                rw [← Hwf.out]
                refine bodyPost_ret (v := .tuple #[.agg #[.string nm, .slice kb 2 kd, .slice a1 n1 c1, (.slice (some ⟨gq, go + 2, none⟩) (nl - 1) (cl - 1))], .bool true]) (by simp [results, Tryz.results51, go_sem, q0, q1, q2, q3]) rfl ?_
                rw [← Hsub.out]
                exact RBackPost.yes0 Hback.out HKf.out ⟨kb, 2, kd⟩ HOf.out (by decide)
set_option maxRecDepth 100000 in
set_option maxHeartbeats 16000000 in
theorem rback_1 (w : World) (nm : ByteArray) (a0 a1 al : Option Addr) (n0 c0 n1 c1 nl cl : Nat) (b0 b1 xs : List Int) (r : List Ln) (hP : PatI w a0 a1 al n0 n1 nl b0 b1 ((1, xs) :: r)) (hb : b1.length ≤ 10000) (hx : xs.length ≤ 10000) (hc : nl ≤ cl) (hl : nl ≤ 10000) :
    Calls Tryz.prog 51 #[patV nm a0 a1 al n0 c0 n1 c1 nl cl] w (RBackPost w nm a0 a1 al n0 c0 n1 c1 nl cl b0 b1 (1, xs) r) := by
  have hnl : nl = r.length + 1 := by have := hP.il.1; simp at this; omega
  have hpos : 0 < nl := by omega
  have Hnl := Lib.hid hnl
  obtain ⟨gq, go, tp, tn, tc, rfl, hd1, hd2, hI, htn⟩ := hP.il.2.2 0 (by simp)
  simp only [Nat.zero_mul, Nat.add_zero, List.getElem_cons_zero] at hd1 hd2 hI
  have hbk : (okB xs = false → Q.backR ⟨nm.data.toList, b0, b1, (1, xs) :: r⟩ = none) ∧ (okB xs = true →
    (1 < (xs ++ b1).count 1 ∨ 1 < (xs ++ b1).countP (· != 1) → Q.backR ⟨nm.data.toList, b0, b1, (1, xs) :: r⟩ = none) ∧
    (∀ k, ¬ (1 < (xs ++ b1).count 1 ∨ 1 < (xs ++ b1).countP (· != 1)) →
      k = (if (xs ++ b1).count 1 = 1 then [1] else []) ++ (if (xs ++ b1).countP (· != 1) = 1 then [2] else []) →
      Q.backR ⟨nm.data.toList, b0, b1, (1, xs) :: r⟩ = some ⟨nm.data.toList, if ((1 : Int), xs).1 = 0 then k else b0, if ((1 : Int), xs).1 = 0 then b1 else k, r⟩)) := back_known nm.data.toList b0 b1 (1, xs) r
  have Hbk := Lib.hid hbk
  clear hnl hbk
  have hkA := Kp.new w (.cells #[.string nm, .slice a0 n0 c0, .slice a1 n1 c1, .slice (some ⟨gq, go, none⟩) nl cl] 26)
  have hkB := Kp.new (w.alloc (.cells #[.string nm, .slice a0 n0 c0, .slice a1 n1 c1, .slice (some ⟨gq, go, none⟩) nl cl] 26)) (.cells #[.string ⟨#[]⟩, .slice none 0 0, .slice none 0 0, .slice none 0 0] 26)
  have hFA := (Four.new w (.string nm) (.slice a0 n0 c0) (.slice a1 n1 c1) (.slice (some ⟨gq, go, none⟩) nl cl) 26).kp hkB
  have hFB := Four.new (w.alloc (.cells #[.string nm, .slice a0 n0 c0, .slice a1 n1 c1, .slice (some ⟨gq, go, none⟩) nl cl] 26)) (.string ⟨#[]⟩) (.slice none 0 0) (.slice none 0 0) (.slice none 0 0) 26
  rw [World.size_alloc] at hFB
  have hkw := Kp.trans hkA hkB
  clear hkA hkB
  go_enter Tryz.func51, Tryz.ntmps51
  go_upto_region 1 with fail
  obtain ⟨bx, hbx⟩ : ∃ bx, bx = w.heap.size := ⟨_, rfl⟩
  rw [← hbx] at hFA hFB ⊢
  generalize (w.alloc (.cells #[.string nm, .slice a0 n0 c0, .slice a1 n1 c1, .slice (some ⟨gq, go, none⟩) nl cl] 26)).alloc (.cells #[.string ⟨#[]⟩, .slice none 0 0, .slice none 0 0, .slice none 0 0] 26) = wb at *
  have Hbx := Lib.hid hbx
  clear hbx
  have hP3 := hP.kp hkw
  replace hd1 := hkw.cell hd1
  replace hd2 := hkw.cell hd2
  have HF1 := Lib.hid hFA
  have HG1 := Lib.hid hFB
  have hk2 := Kp.new wb (.cells #[iv 1, .slice tp tn tc] 45)
  have hT2 := Two2.new wb (iv 1) (.slice tp tn tc) 45
  have HT2 := Lib.hid hT2
  have Hkw2 := Lib.hid (Kp.trans hkw hk2)
  have HF2 := Lib.hid (hFA.kp hk2)
  have HG2 := Lib.hid (hFB.kp hk2)
  have HI := Lib.hid hI
  have HPw := Lib.hid hP
  have hbxw : bx < wb.heap.size := by have := hFA.lt; omega
  have hbxw1 : bx + 1 < wb.heap.size := hFB.lt
  have hsg : bx + 2 ≤ wb.heap.size := by omega
  obtain ⟨y0, y1, y2, y3, _, _, _, _⟩ := hFA
  clear hk2 hkw hFB hP3 hI hP hT2
  go_upto_region 2 with fail
  clear y0 y1 y2 y3 hd1 hd2
  obtain ⟨bl, hbl⟩ : ∃ bl, bl = wb.heap.size := ⟨_, rfl⟩
  rw [← hbl] at HT2 ⊢
  have hbln : bx < bl ∧ bx + 1 < bl := by omega
  clear hbl
  generalize wb.alloc (.cells #[iv 1, .slice tp tn tc] 45) = w2 at *
  obtain ⟨t0, t1, _, _⟩ := HT2.out
  have HAh := Lib.hid (ahead_any w2 tp tn tc xs (Hkw2.out.is HI.out))
  go_wp2_with fail
  (with_reducible refine HAh.out.mono ?_)
  rintro e w3 ⟨rfl, hk3⟩
  have HK3 := Lib.hid (Kp.trans Hkw2.out hk3)
  have HF3 := Lib.hid (HF2.out.kp hk3)
  have HG3 := Lib.hid (HG2.out.kp hk3)
  have HT3 := Lib.hid (HT2.out.kp hk3)
  have Hsz := Lib.hid (show w.heap.size + 3 ≤ w3.heap.size by have := hk3.size; have := Hbx.out; have := World.block_lt_of_cell? _ _ HT2.out.c0; simp at this; omega)
  clear hk3 t0 t1
  cases hok : okB xs with
  | false =>
    have hno := Hbk.out.1 hok
    have Hno := Lib.hid hno
    obtain ⟨wf, hwf, hFf, h4⟩ := HG3.out.set (.string nm) (.slice a0 n0 c0) (.slice a1 n1 c1) (.slice (some ⟨gq, go, none⟩) nl cl)
    have HKf := Lib.hid (kp_step' HK3.out hFf (by intro j hj; simp at hj; have := Hbx.out; omega))
    have Hwf := Lib.hid hwf
    obtain ⟨q0, q1, q2, q3, _, _, _, _⟩ := h4
    obtain ⟨y0, y1, y2, y3, z0, z1, z2, z3⟩ := HF3.out
    obtain ⟨x0, x1, x2, x3, f0, f1, f2, f3⟩ := HG3.out
    clear hok hno hwf hFf
    go_wp2_with fail
    rw [← Hwf.out]
    refine bodyPost_ret (v := .tuple #[patV nm a0 a1 (some ⟨gq, go, none⟩) n0 c0 n1 c1 nl cl, .bool false]) (by simp [results, Tryz.results51, go_sem, q0, q1, q2, q3, patV]) rfl ?_
    exact RBackPost.no Hno.out HKf.out
  | true =>
    have hbk := Hbk.out.2 hok
    have Hbk2 := Lib.hid hbk
    have HI3 := Lib.hid (HK3.out.is HI.out)
    have HJ3 := Lib.hid (HK3.out.is HPw.out.i1)
    have hxn : tn ≤ 10000 := by rw [← HI.out.1]; exact hx
    have hbn : n1 ≤ 10000 := by rw [← HPw.out.i1.1]; exact hb
    clear hok hbk
    go_wp2_with fail
    go_loopw [5, 6, 7] (fun ev sv i wr => ∃ k : Nat, k ≤ 2 ∧ i = .int .i64 (k : Nat) ∧ ev = .int .i64 (((doneK xs b1 k).count 1 : Nat) : Int) ∧ sv = .int .i64 (((doneK xs b1 k).countP (· != 1) : Nat) : Int) ∧ w3 = wr) (fun _ _ i _ => 2 - (intOf i).toNat)
    case atStart => exact ⟨0, by omega, rfl, rfl, rfl, rfl⟩
    case round =>
      obtain ⟨k, hk, rfl, rfl, rfl, rfl⟩ := hrel
      obtain ⟨t0, t1, _, _⟩ := HT3.out
      obtain ⟨y0, y1, y2, y3, z0, z1, z2, z3⟩ := HF3.out
      obtain h | h | h : k = 0 ∨ k = 1 ∨ k = 2 := by omega
      · subst h
        rw [show ((0 : Nat) : Int) = 0 from rfl]
        rw [show doneK xs b1 0 = [] from rfl]
        go_wp2_with fail
        go_loopw [5, 6, 9] (fun ev sv i wr => ∃ j : Nat, j ≤ tn ∧ i = .int .i64 (j : Nat) ∧ ev = .int .i64 (((([]) ++ xs.take j).count 1 : Nat) : Int) ∧ sv = .int .i64 (((([]) ++ xs.take j).countP (· != 1) : Nat) : Int) ∧ w3 = wr) (fun _ _ i _ => tn - (intOf i).toNat)
        case atStart => exact ⟨0, by omega, rfl, by simp, by simp, rfl⟩
        case round =>
          obtain ⟨j, hj, rfl, rfl, rfl, rfl⟩ := hrel
          have hcle := cnt_le (([]) ++ xs.take j)
          have hlen : (([]) ++ xs.take j).length ≤ 20000 := by have := HI3.out.1; simp; omega
          by_cases hlt : j < tn
          · have hjl : j < xs.length := by rw [HI3.out.1]; exact hlt
            obtain ⟨g9, o9, e9, _, hc9⟩ := HI3.out.at j hlt
            have hce := hc9 j hlt
            have Hs1 := Lib.hid (cnt_step ([]) xs j hjl)
            clear hc9
            subst e9
            generalize xs[j] = x at *
            generalize hE : (([]) ++ xs.take j).count 1 = e at *
            generalize hS : (([]) ++ xs.take j).countP (· != 1) = s at *
            have HE := Lib.hid hE
            have HS := Lib.hid hS
            clear hE hS
            by_cases hx : x = 1
            · have Hx := Lib.hid hx
              subst hx
              go_wp2_with fail
              go_roundw
              case rel => exact ⟨j + 1, by omega, by go_num, by rw [Hs1.out.1, if_pos rfl]; go_num, by rw [Hs1.out.2, if_pos rfl], trivial⟩
              case measure => simp [intOf]; omega
            · have hb : (x == 1) = false := by simp [hx]
              have Hx := Lib.hid hx
              clear hx
              go_wp2_with fail
              go_roundw
              case rel => exact ⟨j + 1, by omega, by go_num, by rw [Hs1.out.1, if_neg Hx.out], by rw [Hs1.out.2, if_neg Hx.out]; go_num, trivial⟩
              case measure => simp [intOf]; omega
          · obtain rfl : j = tn := by omega
            have Hfin := Lib.hid (show ([]) ++ xs.take j = doneK xs b1 1 by rw [List.take_of_length_le (by rw [HI3.out.1]; exact Nat.le_refl _)]; rfl)
            go_wp2_with fail
            go_roundw
            case rel => exact ⟨1, by omega, rfl, by rw [← Hfin.out], by rw [← Hfin.out], trivial⟩
            case measure => simp [intOf]
      · subst h
        rw [show ((1 : Nat) : Int) = 1 from rfl]
        rw [show doneK xs b1 1 = xs from rfl]
        go_wp2_with fail
        go_loopw [5, 6, 9] (fun ev sv i wr => ∃ j : Nat, j ≤ n1 ∧ i = .int .i64 (j : Nat) ∧ ev = .int .i64 ((((xs) ++ b1.take j).count 1 : Nat) : Int) ∧ sv = .int .i64 ((((xs) ++ b1.take j).countP (· != 1) : Nat) : Int) ∧ w3 = wr) (fun _ _ i _ => n1 - (intOf i).toNat)
        case atStart => exact ⟨0, by omega, rfl, by simp, by simp, rfl⟩
        case round =>
          obtain ⟨j, hj, rfl, rfl, rfl, rfl⟩ := hrel
          have hcle := cnt_le ((xs) ++ b1.take j)
          have hlen : ((xs) ++ b1.take j).length ≤ 20000 := by have := HJ3.out.1; simp; omega
          by_cases hlt : j < n1
          · have hjl : j < b1.length := by rw [HJ3.out.1]; exact hlt
            obtain ⟨g9, o9, e9, _, hc9⟩ := HJ3.out.at j hlt
            have hce := hc9 j hlt
            have Hs1 := Lib.hid (cnt_step (xs) b1 j hjl)
            clear hc9
            subst e9
            generalize b1[j] = x at *
            generalize hE : ((xs) ++ b1.take j).count 1 = e at *
            generalize hS : ((xs) ++ b1.take j).countP (· != 1) = s at *
            have HE := Lib.hid hE
            have HS := Lib.hid hS
            clear hE hS
            by_cases hx : x = 1
            · have Hx := Lib.hid hx
              subst hx
              go_wp2_with fail
              go_roundw
              case rel => exact ⟨j + 1, by omega, by go_num, by rw [Hs1.out.1, if_pos rfl]; go_num, by rw [Hs1.out.2, if_pos rfl], trivial⟩
              case measure => simp [intOf]; omega
            · have hb : (x == 1) = false := by simp [hx]
              have Hx := Lib.hid hx
              clear hx
              go_wp2_with fail
              go_roundw
              case rel => exact ⟨j + 1, by omega, by go_num, by rw [Hs1.out.1, if_neg Hx.out], by rw [Hs1.out.2, if_neg Hx.out]; go_num, trivial⟩
              case measure => simp [intOf]; omega
          · obtain rfl : j = n1 := by omega
            have Hfin := Lib.hid (show (xs) ++ b1.take j = doneK xs b1 2 by rw [List.take_of_length_le (by rw [HJ3.out.1]; exact Nat.le_refl _)]; rfl)
            go_wp2_with fail
            go_roundw
            case rel => exact ⟨2, by omega, rfl, by rw [← Hfin.out], by rw [← Hfin.out], trivial⟩
            case measure => simp [intOf]
      · subst h
        rw [show ((2 : Nat) : Int) = 2 from rfl]
        rw [show doneK xs b1 2 = xs ++ b1 from rfl]
        clear y0 y1 y2 y3 z0 z1 z2 z3 t0 t1
        have Hc2 := Lib.hid (And.intro (Eq.refl ((xs ++ b1).count 1)) (Eq.refl ((xs ++ b1).countP (· != 1))))
        have hcle := cnt_le (xs ++ b1)
        have hlen : (xs ++ b1).length ≤ 20000 := by simp; omega
        generalize hE : (xs ++ b1).count 1 = e at *
        generalize hS : (xs ++ b1).countP (· != 1) = s at *
        replace Hc2 := Lib.hid (And.intro hE hS)
        clear hE hS
        by_cases hbad : 1 < e ∨ 1 < s
        · have Hno := Lib.hid (Hbk2.out.1 hbad)
          obtain ⟨wf, hwf, hFf, h4⟩ := HG3.out.set (.string nm) (.slice a0 n0 c0) (.slice a1 n1 c1) (.slice (some ⟨gq, go, none⟩) nl cl)
          have HKf := Lib.hid (kp_step' HK3.out hFf (by intro j hj; simp at hj; have := Hbx.out; omega))
          have Hwf := Lib.hid hwf
          obtain ⟨q0, q1, q2, q3, _, _, _, _⟩ := h4
          obtain ⟨y0, y1, y2, y3, z0, z1, z2, z3⟩ := HF3.out
          obtain ⟨x0, x1, x2, x3, f0, f1, f2, f3⟩ := HG3.out
          clear hwf hFf
          by_cases he1 : 1 < e
          · clear hbad
            go_wp2_with fail
            rw [← Hwf.out]
            refine bodyPost_ret (v := .tuple #[patV nm a0 a1 (some ⟨gq, go, none⟩) n0 c0 n1 c1 nl cl, .bool false]) (by simp [results, Tryz.results51, go_sem, q0, q1, q2, q3, patV]) rfl ?_
            exact RBackPost.no Hno.out HKf.out
          · have hs1 : 1 < s := by omega
            clear hbad
            go_wp2_with fail
            rw [← Hwf.out]
            refine bodyPost_ret (v := .tuple #[patV nm a0 a1 (some ⟨gq, go, none⟩) n0 c0 n1 c1 nl cl, .bool false]) (by simp [results, Tryz.results51, go_sem, q0, q1, q2, q3, patV]) rfl ?_
            exact RBackPost.no Hno.out HKf.out
        · obtain he | he : e = 0 ∨ e = 1 := by omega
          · obtain hs | hs : s = 0 ∨ s = 1 := by omega
            · subst he; subst hs
              clear hbad hcle
              go_upto_region 25 with fail
              have hk9 : Kp w3 w3 := Kp.refl _
              have hfresh9 : ∀ x ∈ blkL none, w3.heap.size ≤ x := fun x hx => by simp [blkL, blk] at hx
              have hO9 : Own w3 w.heap.size 3 1 none 0 0 (([] : List Int).map iv) := Own.nil _ _ _ _
              have Hback := Lib.hid (Hbk2.out.2 [] (by omega) rfl)
              have HF9 := Lib.hid (HF3.out.kp hk9)
              have HG9 := Lib.hid (HG3.out.kp hk9)
              have HT9 := Lib.hid (HT3.out.kp hk9)
              have Hk9 := Lib.hid hk9
              have Hfr9 := Lib.hid hfresh9
              have HO9 := Lib.hid hO9
              clear hk9 hfresh9 hO9
              obtain ⟨y0, y1, y2, y3, z0, z1, z2, z3⟩ := HF9.out
              obtain ⟨t0, t1, _, _⟩ := HT9.out
              by_cases hc1 : cl = 1
              · have hn1 : nl = 1 := by omega
                subst hc1; subst hn1
                have Hsub := Lib.hid (show tvv (subT ⟨some ⟨gq, go, none⟩, 1, 1⟩ 1) = (.slice (some ⟨gq, go, none⟩) 0 0) by unfold subT; simp [tvv])
                have hs1 := Fr.set w3 ⟨bx, 2, none⟩ (.slice none 0 0)
                have HF10 := Lib.hid (HF9.out.set2 (.slice none 0 0))
                have hs2 := Fr.set (w3.setCell ⟨bx, 2, none⟩ (.slice none 0 0)) ⟨bx, 3, none⟩ (.slice (some ⟨gq, go, none⟩) 0 0)
                have HF11 := Lib.hid (HF10.out.set3 (.slice (some ⟨gq, go, none⟩) 0 0))
                have HG11 := Lib.hid ((HG9.out.fr hs1 (by simp)).fr hs2 (by simp))
                obtain ⟨wf, hwf, hFf, h4⟩ := HG11.out.set (.string nm) (.slice a0 n0 c0) (.slice none 0 0) (.slice (some ⟨gq, go, none⟩) 0 0)
                have hfr : Fr [bx, bx + 1] w3 wf := ((hs1.mono (Y := [bx, bx + 1]) (by simp)).trans (hs2.mono (Y := [bx, bx + 1]) (by simp))).trans (hFf.mono (Y := [bx, bx + 1]) (by simp))
                have HKf := Lib.hid (kp_step' (Kp.trans HK3.out Hk9.out) hfr (by intro j hj; simp at hj; have := Hbx.out; omega))
                have HOf := Lib.hid (hfr.own HO9.out (fun x hx hq => by have := Hfr9.out x hx; have := Hsz.out; have := Hbx.out; simp at hq; omega))
                have Hwf := Lib.hid hwf
                obtain ⟨q0, q1, q2, q3, _, _, _, _⟩ := h4
                clear hwf hFf hfr hs1 hs2
                go_upto_region 26 with fail
                clear y0 y1 y2 y3 z0 z1 z2 z3
                obtain ⟨y0, y1, y2, y3, z0, z1, z2, z3⟩ := HF10.out
                go_upto_region 27 with fail
                clear y0 y1 y2 y3 z0 z1 z2 z3
                obtain ⟨y0, y1, y2, y3, z0, z1, z2, z3⟩ := HF11.out
                obtain ⟨x0, x1, x2, x3, f0, f1, f2, f3⟩ := HG11.out
                go_wp2_with fail
                rw [← Hwf.out]
                refine bodyPost_ret (v := .tuple #[.agg #[.string nm, .slice a0 n0 c0, .slice none 0 0, (.slice (some ⟨gq, go, none⟩) 0 0)], .bool true]) (by simp [results, Tryz.results51, go_sem, q0, q1, q2, q3]) rfl ?_
                rw [← Hsub.out]
                exact RBackPost.yes1 Hback.out HKf.out ⟨none, 0, 0⟩ HOf.out (by decide)
              · have hcl1 : cl ≠ 1 := hc1
                clear hc1
                have Hsub := Lib.hid (show tvv (subT ⟨some ⟨gq, go, none⟩, nl, cl⟩ 1) = (.slice (some ⟨gq, go + 2, none⟩) (nl - 1) (cl - 1)) by unfold subT; simp [tvv, Addr.add_lit, hcl1])
                have hs1 := Fr.set w3 ⟨bx, 2, none⟩ (.slice none 0 0)
                have HF10 := Lib.hid (HF9.out.set2 (.slice none 0 0))
                have hs2 := Fr.set (w3.setCell ⟨bx, 2, none⟩ (.slice none 0 0)) ⟨bx, 3, none⟩ (.slice (some ⟨gq, go + 2, none⟩) (nl - 1) (cl - 1))
                have HF11 := Lib.hid (HF10.out.set3 (.slice (some ⟨gq, go + 2, none⟩) (nl - 1) (cl - 1)))
                have HG11 := Lib.hid ((HG9.out.fr hs1 (by simp)).fr hs2 (by simp))
                obtain ⟨wf, hwf, hFf, h4⟩ := HG11.out.set (.string nm) (.slice a0 n0 c0) (.slice none 0 0) (.slice (some ⟨gq, go + 2, none⟩) (nl - 1) (cl - 1))
                have hfr : Fr [bx, bx + 1] w3 wf := ((hs1.mono (Y := [bx, bx + 1]) (by simp)).trans (hs2.mono (Y := [bx, bx + 1]) (by simp))).trans (hFf.mono (Y := [bx, bx + 1]) (by simp))
                have HKf := Lib.hid (kp_step' (Kp.trans HK3.out Hk9.out) hfr (by intro j hj; simp at hj; have := Hbx.out; omega))
                have HOf := Lib.hid (hfr.own HO9.out (fun x hx hq => by have := Hfr9.out x hx; have := Hsz.out; have := Hbx.out; simp at hq; omega))
                have Hwf := Lib.hid hwf
                obtain ⟨q0, q1, q2, q3, _, _, _, _⟩ := h4
                clear hwf hFf hfr hs1 hs2
                go_upto_region 26 with fail
                clear y0 y1 y2 y3 z0 z1 z2 z3
                obtain ⟨y0, y1, y2, y3, z0, z1, z2, z3⟩ := HF10.out
                go_upto_region 27 with fail
                clear y0 y1 y2 y3 z0 z1 z2 z3
                obtain ⟨y0, y1, y2, y3, z0, z1, z2, z3⟩ := HF11.out
                obtain ⟨x0, x1, x2, x3, f0, f1, f2, f3⟩ := HG11.out
                go_wp2_with fail
                rw [← Hwf.out]
                refine bodyPost_ret (v := .tuple #[.agg #[.string nm, .slice a0 n0 c0, .slice none 0 0, (.slice (some ⟨gq, go + 2, none⟩) (nl - 1) (cl - 1))], .bool true]) (by simp [results, Tryz.results51, go_sem, q0, q1, q2, q3]) rfl ?_
                rw [← Hsub.out]
                exact RBackPost.yes1 Hback.out HKf.out ⟨none, 0, 0⟩ HOf.out (by decide)
            · subst he; subst hs
              clear hbad hcle
              go_upto_region 25 with (first | (at_builtin; (refine wpList_app rfl (.tmp 62) (.tmp 63) 22 rfl el22 w.heap.size rfl (Own.nil _ _ _ _) rfl [iv 2] rfl (Cs.new w3 [iv 2] 3 (0, 0)) (by simp [Value.oneCell']) 1 rfl ([iv 2]) rfl (by omega) (by have := Hsz.out; simp; omega) ?_); intro ka kc w4 ha; have HA := Lib.hid ha; clear ha))
              have hk9 : Kp w3 w4 := kp_step' (Kp.new w3 (.cells #[iv 2] 3)) HA.out.fr (by simp [blkL, blk])
              have hfresh9 : ∀ x ∈ blkL ka, w3.heap.size ≤ x := fun x hx => by rcases HA.out.fresh x (mem_blkL.1 hx) with q | q <;> first | (simp [blk] at q; done) | (rw [q]; simp)
              have hO9 : Own w4 w.heap.size 3 1 ka 1 kc (([2] : List Int).map iv) := HA.out.own
              have Hback := Lib.hid (Hbk2.out.2 [2] (by omega) rfl)
              have HF9 := Lib.hid (HF3.out.kp hk9)
              have HG9 := Lib.hid (HG3.out.kp hk9)
              have HT9 := Lib.hid (HT3.out.kp hk9)
              have Hk9 := Lib.hid hk9
              have Hfr9 := Lib.hid hfresh9
              have HO9 := Lib.hid hO9
              clear hk9 hfresh9 hO9
              obtain ⟨y0, y1, y2, y3, z0, z1, z2, z3⟩ := HF9.out
              obtain ⟨t0, t1, _, _⟩ := HT9.out
              by_cases hc1 : cl = 1
              · have hn1 : nl = 1 := by omega
                subst hc1; subst hn1
                have Hsub := Lib.hid (show tvv (subT ⟨some ⟨gq, go, none⟩, 1, 1⟩ 1) = (.slice (some ⟨gq, go, none⟩) 0 0) by unfold subT; simp [tvv])
                have hs1 := Fr.set w4 ⟨bx, 2, none⟩ (.slice ka 1 kc)
                have HF10 := Lib.hid (HF9.out.set2 (.slice ka 1 kc))
                have hs2 := Fr.set (w4.setCell ⟨bx, 2, none⟩ (.slice ka 1 kc)) ⟨bx, 3, none⟩ (.slice (some ⟨gq, go, none⟩) 0 0)
                have HF11 := Lib.hid (HF10.out.set3 (.slice (some ⟨gq, go, none⟩) 0 0))
                have HG11 := Lib.hid ((HG9.out.fr hs1 (by simp)).fr hs2 (by simp))
                obtain ⟨wf, hwf, hFf, h4⟩ := HG11.out.set (.string nm) (.slice a0 n0 c0) (.slice ka 1 kc) (.slice (some ⟨gq, go, none⟩) 0 0)
                have hfr : Fr [bx, bx + 1] w4 wf := ((hs1.mono (Y := [bx, bx + 1]) (by simp)).trans (hs2.mono (Y := [bx, bx + 1]) (by simp))).trans (hFf.mono (Y := [bx, bx + 1]) (by simp))
                have HKf := Lib.hid (kp_step' (Kp.trans HK3.out Hk9.out) hfr (by intro j hj; simp at hj; have := Hbx.out; omega))
                have HOf := Lib.hid (hfr.own HO9.out (fun x hx hq => by have := Hfr9.out x hx; have := Hsz.out; have := Hbx.out; simp at hq; omega))
                have Hwf := Lib.hid hwf
                obtain ⟨q0, q1, q2, q3, _, _, _, _⟩ := h4
                clear hwf hFf hfr hs1 hs2
                go_upto_region 26 with fail
                clear y0 y1 y2 y3 z0 z1 z2 z3
                obtain ⟨y0, y1, y2, y3, z0, z1, z2, z3⟩ := HF10.out
                go_upto_region 27 with fail
                clear y0 y1 y2 y3 z0 z1 z2 z3
                obtain ⟨y0, y1, y2, y3, z0, z1, z2, z3⟩ := HF11.out
                obtain ⟨x0, x1, x2, x3, f0, f1, f2, f3⟩ := HG11.out
                go_wp2_with fail
                rw [← Hwf.out]
                refine bodyPost_ret (v := .tuple #[.agg #[.string nm, .slice a0 n0 c0, .slice ka 1 kc, (.slice (some ⟨gq, go, none⟩) 0 0)], .bool true]) (by simp [results, Tryz.results51, go_sem, q0, q1, q2, q3]) rfl ?_
                rw [← Hsub.out]
                exact RBackPost.yes1 Hback.out HKf.out ⟨ka, 1, kc⟩ HOf.out (by decide)
              · have hcl1 : cl ≠ 1 := hc1
                clear hc1
                have Hsub := Lib.hid (show tvv (subT ⟨some ⟨gq, go, none⟩, nl, cl⟩ 1) = (.slice (some ⟨gq, go + 2, none⟩) (nl - 1) (cl - 1)) by unfold subT; simp [tvv, Addr.add_lit, hcl1])
                have hs1 := Fr.set w4 ⟨bx, 2, none⟩ (.slice ka 1 kc)
                have HF10 := Lib.hid (HF9.out.set2 (.slice ka 1 kc))
                have hs2 := Fr.set (w4.setCell ⟨bx, 2, none⟩ (.slice ka 1 kc)) ⟨bx, 3, none⟩ (.slice (some ⟨gq, go + 2, none⟩) (nl - 1) (cl - 1))
                have HF11 := Lib.hid (HF10.out.set3 (.slice (some ⟨gq, go + 2, none⟩) (nl - 1) (cl - 1)))
                have HG11 := Lib.hid ((HG9.out.fr hs1 (by simp)).fr hs2 (by simp))
                obtain ⟨wf, hwf, hFf, h4⟩ := HG11.out.set (.string nm) (.slice a0 n0 c0) (.slice ka 1 kc) (.slice (some ⟨gq, go + 2, none⟩) (nl - 1) (cl - 1))
                have hfr : Fr [bx, bx + 1] w4 wf := ((hs1.mono (Y := [bx, bx + 1]) (by simp)).trans (hs2.mono (Y := [bx, bx + 1]) (by simp))).trans (hFf.mono (Y := [bx, bx + 1]) (by simp))
                have HKf := Lib.hid (kp_step' (Kp.trans HK3.out Hk9.out) hfr (by intro j hj; simp at hj; have := Hbx.out; omega))
                have HOf := Lib.hid (hfr.own HO9.out (fun x hx hq => by have := Hfr9.out x hx; have := Hsz.out; have := Hbx.out; simp at hq; omega))
                have Hwf := Lib.hid hwf
                obtain ⟨q0, q1, q2, q3, _, _, _, _⟩ := h4
                clear hwf hFf hfr hs1 hs2
                go_upto_region 26 with fail
                clear y0 y1 y2 y3 z0 z1 z2 z3
                obtain ⟨y0, y1, y2, y3, z0, z1, z2, z3⟩ := HF10.out
                go_upto_region 27 with fail
                clear y0 y1 y2 y3 z0 z1 z2 z3
                obtain ⟨y0, y1, y2, y3, z0, z1, z2, z3⟩ := HF11.out
                obtain ⟨x0, x1, x2, x3, f0, f1, f2, f3⟩ := HG11.out
                go_wp2_with fail
                rw [← Hwf.out]
                refine bodyPost_ret (v := .tuple #[.agg #[.string nm, .slice a0 n0 c0, .slice ka 1 kc, (.slice (some ⟨gq, go + 2, none⟩) (nl - 1) (cl - 1))], .bool true]) (by simp [results, Tryz.results51, go_sem, q0, q1, q2, q3]) rfl ?_
                rw [← Hsub.out]
                exact RBackPost.yes1 Hback.out HKf.out ⟨ka, 1, kc⟩ HOf.out (by decide)
          · obtain hs | hs : s = 0 ∨ s = 1 := by omega
            · subst he; subst hs
              clear hbad hcle
              go_upto_region 25 with (first | (at_builtin; (refine wpList_app rfl (.tmp 57) (.tmp 58) 22 rfl el22 w.heap.size rfl (Own.nil _ _ _ _) rfl [iv 1] rfl (Cs.new w3 [iv 1] 3 (0, 0)) (by simp [Value.oneCell']) 1 rfl ([iv 1]) rfl (by omega) (by have := Hsz.out; simp; omega) ?_); intro ka kc w4 ha; have HA := Lib.hid ha; clear ha))
              have hk9 : Kp w3 w4 := kp_step' (Kp.new w3 (.cells #[iv 1] 3)) HA.out.fr (by simp [blkL, blk])
              have hfresh9 : ∀ x ∈ blkL ka, w3.heap.size ≤ x := fun x hx => by rcases HA.out.fresh x (mem_blkL.1 hx) with q | q <;> first | (simp [blk] at q; done) | (rw [q]; simp)
              have hO9 : Own w4 w.heap.size 3 1 ka 1 kc (([1] : List Int).map iv) := HA.out.own
              have Hback := Lib.hid (Hbk2.out.2 [1] (by omega) rfl)
              have HF9 := Lib.hid (HF3.out.kp hk9)
              have HG9 := Lib.hid (HG3.out.kp hk9)
              have HT9 := Lib.hid (HT3.out.kp hk9)
              have Hk9 := Lib.hid hk9
              have Hfr9 := Lib.hid hfresh9
              have HO9 := Lib.hid hO9
              clear hk9 hfresh9 hO9
              obtain ⟨y0, y1, y2, y3, z0, z1, z2, z3⟩ := HF9.out
              obtain ⟨t0, t1, _, _⟩ := HT9.out
              by_cases hc1 : cl = 1
              · have hn1 : nl = 1 := by omega
                subst hc1; subst hn1
                have Hsub := Lib.hid (show tvv (subT ⟨some ⟨gq, go, none⟩, 1, 1⟩ 1) = (.slice (some ⟨gq, go, none⟩) 0 0) by unfold subT; simp [tvv])
                have hs1 := Fr.set w4 ⟨bx, 2, none⟩ (.slice ka 1 kc)
                have HF10 := Lib.hid (HF9.out.set2 (.slice ka 1 kc))
                have hs2 := Fr.set (w4.setCell ⟨bx, 2, none⟩ (.slice ka 1 kc)) ⟨bx, 3, none⟩ (.slice (some ⟨gq, go, none⟩) 0 0)
                have HF11 := Lib.hid (HF10.out.set3 (.slice (some ⟨gq, go, none⟩) 0 0))
                have HG11 := Lib.hid ((HG9.out.fr hs1 (by simp)).fr hs2 (by simp))
                obtain ⟨wf, hwf, hFf, h4⟩ := HG11.out.set (.string nm) (.slice a0 n0 c0) (.slice ka 1 kc) (.slice (some ⟨gq, go, none⟩) 0 0)
                have hfr : Fr [bx, bx + 1] w4 wf := ((hs1.mono (Y := [bx, bx + 1]) (by simp)).trans (hs2.mono (Y := [bx, bx + 1]) (by simp))).trans (hFf.mono (Y := [bx, bx + 1]) (by simp))
                have HKf := Lib.hid (kp_step' (Kp.trans HK3.out Hk9.out) hfr (by intro j hj; simp at hj; have := Hbx.out; omega))
                have HOf := Lib.hid (hfr.own HO9.out (fun x hx hq => by have := Hfr9.out x hx; have := Hsz.out; have := Hbx.out; simp at hq; omega))
                have Hwf := Lib.hid hwf
                obtain ⟨q0, q1, q2, q3, _, _, _, _⟩ := h4
                clear hwf hFf hfr hs1 hs2
                go_upto_region 26 with fail
                clear y0 y1 y2 y3 z0 z1 z2 z3
                obtain ⟨y0, y1, y2, y3, z0, z1, z2, z3⟩ := HF10.out
                go_upto_region 27 with fail
                clear y0 y1 y2 y3 z0 z1 z2 z3
                obtain ⟨y0, y1, y2, y3, z0, z1, z2, z3⟩ := HF11.out
                obtain ⟨x0, x1, x2, x3, f0, f1, f2, f3⟩ := HG11.out
                go_wp2_with fail
                rw [← Hwf.out]
                refine bodyPost_ret (v := .tuple #[.agg #[.string nm, .slice a0 n0 c0, .slice ka 1 kc, (.slice (some ⟨gq, go, none⟩) 0 0)], .bool true]) (by simp [results, Tryz.results51, go_sem, q0, q1, q2, q3]) rfl ?_
                rw [← Hsub.out]
                exact RBackPost.yes1 Hback.out HKf.out ⟨ka, 1, kc⟩ HOf.out (by decide)
              · have hcl1 : cl ≠ 1 := hc1
                clear hc1
                have Hsub := Lib.hid (show tvv (subT ⟨some ⟨gq, go, none⟩, nl, cl⟩ 1) = (.slice (some ⟨gq, go + 2, none⟩) (nl - 1) (cl - 1)) by unfold subT; simp [tvv, Addr.add_lit, hcl1])
                have hs1 := Fr.set w4 ⟨bx, 2, none⟩ (.slice ka 1 kc)
                have HF10 := Lib.hid (HF9.out.set2 (.slice ka 1 kc))
                have hs2 := Fr.set (w4.setCell ⟨bx, 2, none⟩ (.slice ka 1 kc)) ⟨bx, 3, none⟩ (.slice (some ⟨gq, go + 2, none⟩) (nl - 1) (cl - 1))
                have HF11 := Lib.hid (HF10.out.set3 (.slice (some ⟨gq, go + 2, none⟩) (nl - 1) (cl - 1)))
                have HG11 := Lib.hid ((HG9.out.fr hs1 (by simp)).fr hs2 (by simp))
                obtain ⟨wf, hwf, hFf, h4⟩ := HG11.out.set (.string nm) (.slice a0 n0 c0) (.slice ka 1 kc) (.slice (some ⟨gq, go + 2, none⟩) (nl - 1) (cl - 1))
                have hfr : Fr [bx, bx + 1] w4 wf := ((hs1.mono (Y := [bx, bx + 1]) (by simp)).trans (hs2.mono (Y := [bx, bx + 1]) (by simp))).trans (hFf.mono (Y := [bx, bx + 1]) (by simp))
                have HKf := Lib.hid (kp_step' (Kp.trans HK3.out Hk9.out) hfr (by intro j hj; simp at hj; have := Hbx.out; omega))
                have HOf := Lib.hid (hfr.own HO9.out (fun x hx hq => by have := Hfr9.out x hx; have := Hsz.out; have := Hbx.out; simp at hq; omega))
                have Hwf := Lib.hid hwf
                obtain ⟨q0, q1, q2, q3, _, _, _, _⟩ := h4
                clear hwf hFf hfr hs1 hs2
                go_upto_region 26 with fail
                clear y0 y1 y2 y3 z0 z1 z2 z3
                obtain ⟨y0, y1, y2, y3, z0, z1, z2, z3⟩ := HF10.out
                go_upto_region 27 with fail
                clear y0 y1 y2 y3 z0 z1 z2 z3
                obtain ⟨y0, y1, y2, y3, z0, z1, z2, z3⟩ := HF11.out
                obtain ⟨x0, x1, x2, x3, f0, f1, f2, f3⟩ := HG11.out
                go_wp2_with fail
                rw [← Hwf.out]
                refine bodyPost_ret (v := .tuple #[.agg #[.string nm, .slice a0 n0 c0, .slice ka 1 kc, (.slice (some ⟨gq, go + 2, none⟩) (nl - 1) (cl - 1))], .bool true]) (by simp [results, Tryz.results51, go_sem, q0, q1, q2, q3]) rfl ?_
                rw [← Hsub.out]
                exact RBackPost.yes1 Hback.out HKf.out ⟨ka, 1, kc⟩ HOf.out (by decide)
            · subst he; subst hs
              clear hbad hcle
              go_upto_region 25 with (first | (at_builtin; (refine wpList_app rfl (.tmp 57) (.tmp 58) 22 rfl el22 w.heap.size rfl (Own.nil _ _ _ _) rfl [iv 1] rfl (Cs.new w3 [iv 1] 3 (0, 0)) (by simp [Value.oneCell']) 1 rfl ([iv 1]) rfl (by omega) (by have := Hsz.out; simp; omega) ?_); intro ka kc w4 ha; have HA := Lib.hid ha; clear ha) | (at_builtin; (refine wpList_app rfl (.tmp 62) (.tmp 63) 22 rfl el22 w.heap.size rfl (Own.keep HA.out.own (Kp.new w4 (.cells #[iv 2] 3))) rfl [iv 2] rfl (Cs.new w4 [iv 2] 3 (0, 0)) (by simp [Value.oneCell']) 2 rfl ([iv 1, iv 2]) rfl (by omega) (by have := Hsz.out; have := HA.out.fr.size; simp at this ⊢; omega) ?_); intro kb kd w5 hb; have HB := Lib.hid hb; clear hb))
              have hk9 : Kp w3 w5 := kp_step' (Kp.trans (kp_step' (Kp.new w3 (.cells #[iv 1] 3)) HA.out.fr (by simp [blkL, blk])) (Kp.new w4 (.cells #[iv 2] 3))) HB.out.fr (fun j hj => by rcases HA.out.fresh j (mem_blkL.1 hj) with q | q <;> first | (simp [blk] at q; done) | (rw [q]; simp))
              have hfresh9 : ∀ x ∈ blkL kb, w3.heap.size ≤ x := fun x hx => fresh_two HA.out.fr.size (fun q => HA.out.fresh x q) (HB.out.fresh x (mem_blkL.1 hx))
              have hO9 : Own w5 w.heap.size 3 1 kb 2 kd (([1, 2] : List Int).map iv) := HB.out.own
              have Hback := Lib.hid (Hbk2.out.2 [1, 2] (by omega) rfl)
              have HF9 := Lib.hid (HF3.out.kp hk9)
              have HG9 := Lib.hid (HG3.out.kp hk9)
              have HT9 := Lib.hid (HT3.out.kp hk9)
              have Hk9 := Lib.hid hk9
              have Hfr9 := Lib.hid hfresh9
              have HO9 := Lib.hid hO9
              clear hk9 hfresh9 hO9
              obtain ⟨y0, y1, y2, y3, z0, z1, z2, z3⟩ := HF9.out
              obtain ⟨t0, t1, _, _⟩ := HT9.out
              by_cases hc1 : cl = 1
              · have hn1 : nl = 1 := by omega
                subst hc1; subst hn1
                have Hsub := Lib.hid (show tvv (subT ⟨some ⟨gq, go, none⟩, 1, 1⟩ 1) = (.slice (some ⟨gq, go, none⟩) 0 0) by unfold subT; simp [tvv])
                have hs1 := Fr.set w5 ⟨bx, 2, none⟩ (.slice kb 2 kd)
                have HF10 := Lib.hid (HF9.out.set2 (.slice kb 2 kd))
                have hs2 := Fr.set (w5.setCell ⟨bx, 2, none⟩ (.slice kb 2 kd)) ⟨bx, 3, none⟩ (.slice (some ⟨gq, go, none⟩) 0 0)
                have HF11 := Lib.hid (HF10.out.set3 (.slice (some ⟨gq, go, none⟩) 0 0))
                have HG11 := Lib.hid ((HG9.out.fr hs1 (by simp)).fr hs2 (by simp))
                obtain ⟨wf, hwf, hFf, h4⟩ := HG11.out.set (.string nm) (.slice a0 n0 c0) (.slice kb 2 kd) (.slice (some ⟨gq, go, none⟩) 0 0)
                have hfr : Fr [bx, bx + 1] w5 wf := ((hs1.mono (Y := [bx, bx + 1]) (by simp)).trans (hs2.mono (Y := [bx, bx + 1]) (by simp))).trans (hFf.mono (Y := [bx, bx + 1]) (by simp))
                have HKf := Lib.hid (kp_step' (Kp.trans HK3.out Hk9.out) hfr (by intro j hj; simp at hj; have := Hbx.out; omega))
                have HOf := Lib.hid (hfr.own HO9.out (fun x hx hq => by have := Hfr9.out x hx; have := Hsz.out; have := Hbx.out; simp at hq; omega))
                have Hwf := Lib.hid hwf
                obtain ⟨q0, q1, q2, q3, _, _, _, _⟩ := h4
                clear hwf hFf hfr hs1 hs2
                go_upto_region 26 with fail
                clear y0 y1 y2 y3 z0 z1 z2 z3
                obtain ⟨y0, y1, y2, y3, z0, z1, z2, z3⟩ := HF10.out
                go_upto_region 27 with fail
                clear y0 y1 y2 y3 z0 z1 z2 z3
                obtain ⟨y0, y1, y2, y3, z0, z1, z2, z3⟩ := HF11.out
                obtain ⟨x0, x1, x2, x3, f0, f1, f2, f3⟩ := HG11.out
                go_wp2_with fail
                rw [← Hwf.out]
                refine bodyPost_ret (v := .tuple #[.agg #[.string nm, .slice a0 n0 c0, .slice kb 2 kd, (.slice (some ⟨gq, go, none⟩) 0 0)], .bool true]) (by simp [results, Tryz.results51, go_sem, q0, q1, q2, q3]) rfl ?_
                rw [← Hsub.out]
                exact RBackPost.yes1 Hback.out HKf.out ⟨kb, 2, kd⟩ HOf.out (by decide)
              · have hcl1 : cl ≠ 1 := hc1
                clear hc1
                have Hsub := Lib.hid (show tvv (subT ⟨some ⟨gq, go, none⟩, nl, cl⟩ 1) = (.slice (some ⟨gq, go + 2, none⟩) (nl - 1) (cl - 1)) by unfold subT; simp [tvv, Addr.add_lit, hcl1])
                have hs1 := Fr.set w5 ⟨bx, 2, none⟩ (.slice kb 2 kd)
                have HF10 := Lib.hid (HF9.out.set2 (.slice kb 2 kd))
                have hs2 := Fr.set (w5.setCell ⟨bx, 2, none⟩ (.slice kb 2 kd)) ⟨bx, 3, none⟩ (.slice (some ⟨gq, go + 2, none⟩) (nl - 1) (cl - 1))
                have HF11 := Lib.hid (HF10.out.set3 (.slice (some ⟨gq, go + 2, none⟩) (nl - 1) (cl - 1)))
                have HG11 := Lib.hid ((HG9.out.fr hs1 (by simp)).fr hs2 (by simp))
                obtain ⟨wf, hwf, hFf, h4⟩ := HG11.out.set (.string nm) (.slice a0 n0 c0) (.slice kb 2 kd) (.slice (some ⟨gq, go + 2, none⟩) (nl - 1) (cl - 1))
                have hfr : Fr [bx, bx + 1] w5 wf := ((hs1.mono (Y := [bx, bx + 1]) (by simp)).trans (hs2.mono (Y := [bx, bx + 1]) (by simp))).trans (hFf.mono (Y := [bx, bx + 1]) (by simp))
                have HKf := Lib.hid (kp_step' (Kp.trans HK3.out Hk9.out) hfr (by intro j hj; simp at hj; have := Hbx.out; omega))
                have HOf := Lib.hid (hfr.own HO9.out (fun x hx hq => by have := Hfr9.out x hx; have := Hsz.out; have := Hbx.out; simp at hq; omega))
                have Hwf := Lib.hid hwf
                obtain ⟨q0, q1, q2, q3, _, _, _, _⟩ := h4
                clear hwf hFf hfr hs1 hs2
                go_upto_region 26 with fail
                clear y0 y1 y2 y3 z0 z1 z2 z3
                obtain ⟨y0, y1, y2, y3, z0, z1, z2, z3⟩ := HF10.out
                go_upto_region 27 with fail
                clear y0 y1 y2 y3 z0 z1 z2 z3
                obtain ⟨y0, y1, y2, y3, z0, z1, z2, z3⟩ := HF11.out
                obtain ⟨x0, x1, x2, x3, f0, f1, f2, f3⟩ := HG11.out
                go_wp2_with fail
                rw [← Hwf.out]
                refine bodyPost_ret (v := .tuple #[.agg #[.string nm, .slice a0 n0 c0, .slice kb 2 kd, (.slice (some ⟨gq, go + 2, none⟩) (nl - 1) (cl - 1))], .bool true]) (by simp [results, Tryz.results51, go_sem, q0, q1, q2, q3]) rfl ?_
                rw [← Hsub.out]
                exact RBackPost.yes1 Hback.out HKf.out ⟨kb, 2, kd⟩ HOf.out (by decide)
theorem rback_any (w : World) (nm : ByteArray) (a0 a1 al : Option Addr) (n0 c0 n1 c1 nl cl : Nat) (b0 b1 : List Int) (l : Ln) (r : List Ln) (hf : l.1 = 0 ∨ l.1 = 1) (hP : PatI w a0 a1 al n0 n1 nl b0 b1 (l :: r)) (h0 : b0.length ≤ 10000) (h1 : b1.length ≤ 10000) (hx : l.2.length ≤ 10000) (hc : nl ≤ cl) (hl : nl ≤ 10000) :
    Calls Tryz.prog 51 #[patV nm a0 a1 al n0 c0 n1 c1 nl cl] w (RBackPost w nm a0 a1 al n0 c0 n1 c1 nl cl b0 b1 l r) := by
  obtain ⟨f, xs⟩ := l
  rcases hf with h | h
  · simp only at h
    subst h
    exact rback_0 w nm a0 a1 al n0 c0 n1 c1 nl cl b0 b1 xs r hP h0 hx hc hl
  · simp only at h
    subst h
    exact rback_1 w nm a0 a1 al n0 c0 n1 c1 nl cl b0 b1 xs r hP h1 hx hc hl
end Go.Proofs.YtbdphdgomcabmaaGreatDoor

namespace Go.Proofs.YtbdphdgomcabmaaGreatDoor
open Go.RowKit

def cutAt (s : ByteArray) (c : UInt8) (k : Nat) : Bool := k == s.size || (s.data.toList.getD k 0 == c)
def splitTo (s : ByteArray) (c : UInt8) : Nat → List ByteArray × Nat
  | 0 => ([], 0)
  | k + 1 => if cutAt s c k then ((splitTo s c k).1 ++ [s.extract (splitTo s c k).2 k], k + 1) else splitTo s c k
def splitL (s : ByteArray) (c : UInt8) : List ByteArray := (splitTo s c (s.size + 1)).1
theorem splitTo_le (s : ByteArray) (c : UInt8) (k : Nat) : (splitTo s c k).2 ≤ k ∧ (splitTo s c k).1.length ≤ k := by
  induction k with
  | zero => exact ⟨Nat.le_refl _, Nat.le_refl _⟩
  | succ k ih =>
    unfold splitTo
    split
    · exact ⟨Nat.le_refl _, by simp; omega⟩
    · omega
theorem el100 : El Tryz.prog 39 9 (.string ⟨#[]⟩) 1 16 := ⟨Tryz.underlying39, by kernel_rfl, rfl, by decide, by decide⟩
def SplitPost (w : World) (ss : List ByteArray) (e : Ending) (w' : World) : Prop := Kp w w' ∧ ∃ ao n cap, e = .returned (.slice ao n cap) ∧ Strs w' ao n ss ∧ ∀ k ∈ blkL ao, w.heap.size ≤ k
theorem Own.strs {w : World} {base : Nat} {e : TypeId} {ao : Option Addr} {n cap : Nat} {ss : List ByteArray} (h : Own w base e 1 ao n cap (ss.map .string)) : Strs w ao n ss := by
  have hl := h.1
  refine ⟨by simpa using hl, ?_, h.cs⟩
  rcases h.2 with ⟨_, hn⟩ | ⟨g, cap', cur, hv, _, _, h1, h2, _⟩
  · omega
  · exact Nat.le_trans h1 h2

theorem getD_byte {s : ByteArray} {k : Nat} (h : k < s.size) : s.data.toList.getD k 0 = s[k]'h := by
  have h' : k < s.data.toList.length := by simpa using h
  rw [List.getD, List.getElem?_eq_getElem h']
  rfl
theorem byte_at {s : ByteArray} {c : UInt8} {k : Nat} (h : k < s.size) (hc : cutAt s c k = true) (hk : ¬ k = s.size) : (((s[k]'h).toNat : Int) == (c.toNat : Int)) = true := by
  unfold cutAt at hc
  rw [getD_byte h, Bool.or_eq_true, beq_iff_eq, beq_iff_eq] at hc
  rcases hc with hc | hc
  · exact absurd hc hk
  · rw [hc]; simp
theorem byte_not {s : ByteArray} {c : UInt8} {k : Nat} (h : k < s.size) (hc : cutAt s c k = false) : (((s[k]'h).toNat : Int) == (c.toNat : Int)) = false := by
  unfold cutAt at hc
  rw [getD_byte h, Bool.or_eq_false_iff] at hc
  have h2 : s[k]'h ≠ c := by simpa using hc.2
  cases hq : (((s[k]'h).toNat : Int) == (c.toNat : Int)) with
  | false => rfl
  | true => exact absurd (UInt8.toNat_inj.1 (by have := beq_iff_eq.1 hq; omega)) h2
set_option maxRecDepth 100000 in
set_option maxHeartbeats 4000000 in
theorem split_any (w : World) (s : ByteArray) (c : UInt8) (hs : s.size ≤ 1000) : Calls Tryz.prog 71 #[.string s, .int .u8 (c.toNat : Int)] w (SplitPost w (splitL s c)) := by
  have hc := c.toNat_lt
  go_enter Tryz.func71, Tryz.ntmps71
  go_wp2_with fail
  go_loopw [5, 6, 7] (fun l at_ i wr => ∃ k n cap p ao, k ≤ s.size + 1 ∧ i = .int .i64 (k : Nat) ∧ at_ = .int .i64 (p : Nat) ∧ p = (splitTo s c k).2 ∧ l = .slice ao n cap ∧ n ≤ k ∧ Own wr w.heap.size 9 1 ao n cap ((splitTo s c k).1.map .string) ∧ Kp w wr) (fun _ _ i _ => s.size + 1 - (intOf i).toNat)
  case atStart => exact ⟨0, 0, 0, 0, none, by omega, rfl, rfl, rfl, rfl, by omega, Own.nil _ _ _ _, Kp.refl _⟩
  case round =>
    obtain ⟨k, n, cap, p, ao, hk, rfl, rfl, hp, rfl, hn, hO, hkk⟩ := hrel
    have hle := (splitTo_le s c k).1
    rw [← hp] at hle
    have Hp := Lib.hid hp; clear hp
    by_cases hlt : k ≤ s.size
    · have hstep : splitTo s c (k + 1) = if cutAt s c k then ((splitTo s c k).1 ++ [s.extract p k], k + 1) else splitTo s c k := by
        rw [Hp.out]; rfl
      have Hstep := Lib.hid hstep; clear hstep
      cases hcut : cutAt s c k with
      | true =>
        have H1 := Lib.hid (show (splitTo s c (k + 1)).1 = (splitTo s c k).1 ++ [s.extract p k] by rw [Hstep.out, hcut]; rfl)
        have H2 := Lib.hid (show (splitTo s c (k + 1)).2 = k + 1 by rw [Hstep.out, hcut]; rfl)
        have Hz := Lib.hid (show ((splitTo s c (k + 1)).1.map Value.string) = (splitTo s c k).1.map Value.string ++ [.string (s.extract p k)] by rw [H1.out]; simp)
        by_cases hks : k = s.size
        · have hb : ((k : Int) == (s.size : Int)) = true := by simp [hks]
          clear hcut hks
          go_wp2_with (at_builtin; refine wpList_app rfl (.tmp 25) (.tmp 30) 39 rfl el100 w.heap.size rfl (hO.keep (Kp.new _ _)) rfl [.string (s.extract p k)] rfl (Cs.new wr [.string (s.extract p k)] 9 (0, 0)) (by simp [Value.oneCell']) (n + 1) rfl ((splitTo s c (k + 1)).1.map .string) Hz.out (by omega) (Nat.le_trans hkk.size (by simp)) ?_; intro ao2 cap2 w2 ha)
          have hk2 : Kp w w2 := kp_own hkk (Kp.new wr (.cells #[.string (s.extract p k)] 9)) (Nat.le_refl _) hO ha
          have hO2 := ha.own
          clear ha
          go_roundw
          case rel => exact ⟨k + 1, n + 1, cap2, k + 1, ao2, by omega, by go_num, by go_num, H2.out.symm, rfl, by omega, hO2, hk2⟩
          case measure => simp [intOf]; omega
        · have hk1 : k < s.size := by omega
          have hb : ((k : Int) == (s.size : Int)) = false := by simp; omega
          have hb2 : (((s[k]'hk1).toNat : Int) == (c.toNat : Int)) = true := byte_at hk1 hcut hks
          clear hcut hks
          go_wp2_with (at_builtin; refine wpList_app rfl (.tmp 25) (.tmp 30) 39 rfl el100 w.heap.size rfl (hO.keep (Kp.new _ _)) rfl [.string (s.extract p k)] rfl (Cs.new wr [.string (s.extract p k)] 9 (0, 0)) (by simp [Value.oneCell']) (n + 1) rfl ((splitTo s c (k + 1)).1.map .string) Hz.out (by omega) (Nat.le_trans hkk.size (by simp)) ?_; intro ao2 cap2 w2 ha)
          have hk2 : Kp w w2 := kp_own hkk (Kp.new wr (.cells #[.string (s.extract p k)] 9)) (Nat.le_refl _) hO ha
          have hO2 := ha.own
          clear ha
          go_roundw
          case rel => exact ⟨k + 1, n + 1, cap2, k + 1, ao2, by omega, by go_num, by go_num, H2.out.symm, rfl, by omega, hO2, hk2⟩
          case measure => simp [intOf]; omega
      | false =>
        have H1 := Lib.hid (show splitTo s c (k + 1) = splitTo s c k by rw [Hstep.out, hcut]; rfl)
        have hks : k ≠ s.size := fun h => by simp [cutAt, h] at hcut
        have hk1 : k < s.size := by omega
        have hb : ((k : Int) == (s.size : Int)) = false := by simp; omega
        have hb2 : (((s[k]'hk1).toNat : Int) == (c.toNat : Int)) = false := byte_not hk1 hcut
        clear hcut hks
        go_wp2_with fail
        go_roundw
        case rel => exact ⟨k + 1, n, cap, p, ao, by omega, by go_num, rfl, by rw [H1.out]; exact Hp.out, rfl, by omega, by rw [H1.out]; exact hO, hkk⟩
        case measure => simp [intOf]; omega
    · obtain rfl : k = s.size + 1 := by omega
      have hpost : SplitPost w (splitL s c) (.returned (.slice ao n cap)) wr := ⟨hkk, ao, n, cap, rfl, hO.strs, fun k hk => (hO.lt k (mem_blkL.1 hk)).1⟩
      have Hpost := Lib.hid hpost; clear hpost hO
      go_wp2_with fail
      go_ret
      exact Hpost.out
end Go.Proofs.YtbdphdgomcabmaaGreatDoor

namespace Go.Proofs.YtbdphdgomcabmaaGreatDoor
open Go.RowKit

def wordL (t : Nat) : ByteArray :=
  if t = 1 then ⟨#[101]⟩ else if t = 2 then ⟨#[115]⟩ else if t = 3 then ⟨#[101, 101]⟩ else if t = 4 then ⟨#[101, 115]⟩ else if t = 5 then ⟨#[115, 101]⟩ else if t = 6 then ⟨#[115, 115]⟩ else ⟨#[112, 115, 107]⟩
set_option maxHeartbeats 1000000 in
theorem word_any (w : World) (t : Nat) (h1 : 1 ≤ t) (h7 : t ≤ 7) : Calls Tryz.prog 97 #[iv (t : Int)] w fun e w' => e = .returned (.string (wordL t)) ∧ w' = w := by
  rcases (show t = 1 ∨ t = 2 ∨ t = 3 ∨ t = 4 ∨ t = 5 ∨ t = 6 ∨ t = 7 by omega) with rfl | rfl | rfl | rfl | rfl | rfl | rfl
  all_goals
    go_enter Tryz.func97, Tryz.ntmps97
    go_wp2
    go_ret
    exact ⟨rfl, rfl⟩

def tokOf (x : ByteArray) : Nat → List Int
  | 0 => []
  | j + 1 => tokOf x j ++ (if ((wordL (j + 1)).toList == x.toList) = true then [((j + 1 : Nat) : Int)] else [])
def tokL (s : ByteArray) : List Int := if s.size = 0 then [] else (splitL s 32).flatMap (tokOf · 7)
def RTokPost (w : World) (xs : List Int) (e : Ending) (w' : World) : Prop := Kp w w' ∧ ∃ ao n cap, e = .returned (.slice ao n cap) ∧ Is w' ao n xs ∧ n ≤ 7007 ∧ n ≤ cap ∧ ∀ k ∈ blkL ao, w.heap.size ≤ k ∧ k < w'.heap.size
theorem flatMap_take {α β : Type} (f : α → List β) (l : List α) (k : Nat) (h : k < l.length) : (l.take (k + 1)).flatMap f = (l.take k).flatMap f ++ f l[k] := by
  rw [take_step l k h, List.flatMap_append]; simp
theorem empty_iff (s : ByteArray) : s.toList.isEmpty = decide (s.size = 0) := by
  rw [ByteArray.toList_eq]
  show s.data.toList.isEmpty = decide (s.data.size = 0)
  rw [← Array.length_toList]
  cases s.data.toList <;> simp

set_option maxRecDepth 100000 in
set_option maxHeartbeats 4000000 in
theorem tokens_any (w : World) (s : ByteArray) (hs : s.size ≤ 1000) : Calls Tryz.prog 72 #[.string s] w (RTokPost w (tokL s)) := by
  by_cases h0 : s.size = 0
  · have hpost : RTokPost w (tokL s) (.returned (.slice none 0 0)) w := ⟨Kp.refl _, none, 0, 0, rfl, by unfold tokL; rw [if_pos h0]; exact Is.zero _ _, by omega, by omega, fun k hk => by simp [blkL, blk] at hk⟩
    have Hpost := Lib.hid hpost
    have hb : s.toList.isEmpty = true := by rw [empty_iff, h0]; rfl
    clear hpost h0
    go_enter Tryz.func72, Tryz.ntmps72
    go_wp2_with fail
    go_ret
    exact Hpost.out
  · have hb : s.toList.isEmpty = false := by rw [empty_iff]; simpa using h0
    have hsp := split_any w s 32 hs
    rw [show ((UInt8.toNat 32 : Nat) : Int) = 32 from rfl] at hsp
    have Hsp := Lib.hid hsp; clear hsp
    have HT := Lib.hid (show tokL s = (splitL s 32).flatMap (tokOf · 7) by unfold tokL; rw [if_neg h0])
    clear h0
    go_enter Tryz.func72, Tryz.ntmps72
    go_wp2_with fail
    (with_reducible refine Hsp.out.mono ?_)
    rintro e w1 ⟨hk1, bo, m, bc, rfl, hS, _⟩
    have hm : m ≤ 1001 := by rw [← hS.1]; have := (splitTo_le s 32 (s.size + 1)).2; unfold splitL; omega
    obtain ⟨ss, hss⟩ : ∃ ss, ss = splitL s 32 := ⟨_, rfl⟩
    rw [← hss] at hS HT
    clear hss
    have Hl := Lib.hid hS.1
    go_wp2_with fail
    go_loopw [3, 5] (fun l i wr => ∃ k n cap ao, k ≤ m ∧ i = .int .i64 (k : Nat) ∧ l = .slice ao n cap ∧ n ≤ 7 * k ∧ Own wr w1.heap.size 3 1 ao n cap (((ss.take k).flatMap (tokOf · 7)).map iv) ∧ Kp w1 wr) (fun _ i _ => m - (intOf i).toNat)
    case atStart => exact ⟨0, 0, 0, none, by omega, rfl, rfl, by omega, Own.nil _ _ _ _, Kp.refl _⟩
    case round =>
      obtain ⟨k, n, cap, ao, hk, rfl, rfl, hn, hO, hkk⟩ := hrel
      by_cases hlt : k < m
      · obtain ⟨b, off, rfl, hcc⟩ := hS.at k hlt
        have hck := hcc k hlt
        have hkl : k < ss.length := by rw [Hl.out]; exact hlt
        have hsucc := flatMap_take (tokOf · 7) ss k hkl
        clear hcc
        generalize ss[k]'hkl = x at hck hsucc
        have Hsucc := Lib.hid hsucc; clear hsucc
        have hO0 : Own wr w1.heap.size 3 1 ao n cap ((((ss.take k).flatMap (tokOf · 7)) ++ tokOf x 0).map iv) := by rw [show tokOf x 0 = [] from rfl, List.append_nil]; exact hO
        obtain ⟨X, hX⟩ : ∃ X, X = (ss.take k).flatMap (tokOf · 7) := ⟨_, rfl⟩
        rw [← hX] at hO0 Hsucc
        clear hX hO
        obtain ⟨wo, rfl⟩ : ∃ wo : World, wo = wr := ⟨_, rfl⟩
        go_wp2_with fail
        go_loopw [3, 6] (fun l i wr => ∃ j n cap ao, j ≤ 7 ∧ i = .int .i64 ((j + 1 : Nat) : Int) ∧ l = .slice ao n cap ∧ n ≤ 7 * k + j ∧ Own wr w1.heap.size 3 1 ao n cap ((X ++ tokOf x j).map iv) ∧ Kp w1 wr) (fun _ i _ => 8 - (intOf i).toNat)
        case atStart => exact ⟨0, n, cap, ao, by omega, rfl, rfl, by omega, hO0, hkk⟩
        case round =>
          clear hO0 hkk hn
          obtain ⟨j, n, cap, ao, hj, rfl, rfl, hn, hO, hkk⟩ := hrel
          have hck := Kp.cell hkk hck
          by_cases hj7 : j < 7
          · have Hstep := Lib.hid (show tokOf x (j + 1) = tokOf x j ++ (if ((wordL (j + 1)).toList == x.toList) = true then [((j + 1 : Nat) : Int)] else []) from rfl)
            have Hw := Lib.hid (show ∀ q, Calls Tryz.prog 97 #[iv ((j + 1 : Nat) : Int)] (wr.drewN q) fun e w' => e = .returned (.string (wordL (j + 1))) ∧ w' = wr.drewN q from fun q => word_any (wr.drewN q) (j + 1) (by omega) (by omega))
            cases hq : (wordL (j + 1)).toList == x.toList with
            | true =>
              have Hs2 := Lib.hid (show (X ++ tokOf x (j + 1)).map iv = (X ++ tokOf x j).map iv ++ [iv ((j : Int) + 1)] by rw [Hstep.out, hq]; simp)
              go_wp2_with fail
              go_quiet ((go_at_call 97; exact Calls.quiet_of_same (Hw.out _)))
              have hOq := hO.keep (Kp.of_drewN wr nq)
              have hkq := Kp.trans hkk (Kp.of_drewN wr nq)
              clear hO
              go_wp2_with (at_builtin; refine wpList_app rfl (.tmp 28) (.tmp 30) 22 rfl el22 w1.heap.size rfl (hOq.keep (Kp.new _ _)) rfl [iv ((j : Int) + 1)] rfl (Cs.new (wr.drewN nq) [iv ((j : Int) + 1)] 3 (0, 0)) (by simp [Value.oneCell']) (n + 1) rfl ((X ++ tokOf x (j + 1)).map iv) Hs2.out (by omega) (Nat.le_trans hkq.size (by simp)) ?_; intro ao2 cap2 w2 ha)
              have hk2 : Kp w1 w2 := kp_own hkq (Kp.new _ _) (Nat.le_refl _) hOq ha
              have hO2 := ha.own
              clear ha
              go_roundw
              case rel => exact ⟨j + 1, n + 1, cap2, ao2, by omega, by go_num, rfl, by omega, hO2, hk2⟩
              case measure => simp [intOf]; omega
            | false =>
              have Hs2 := Lib.hid (show tokOf x (j + 1) = tokOf x j by rw [Hstep.out, hq]; simp)
              go_wp2_with fail
              go_quiet ((go_at_call 97; exact Calls.quiet_of_same (Hw.out _)))
              have hOq := hO.keep (Kp.of_drewN wr nq)
              have hkq := Kp.trans hkk (Kp.of_drewN wr nq)
              clear hO
              go_wp2_with fail
              go_roundw
              case rel => exact ⟨j + 1, n, cap, ao, by omega, by go_num, rfl, by omega, by rw [Hs2.out]; exact hOq, hkq⟩
              case measure => simp [intOf]; omega
          · obtain rfl : j = 7 := by omega
            have hfin : Own wr w1.heap.size 3 1 ao n cap (((ss.take (k + 1)).flatMap (tokOf · 7)).map iv) := by rw [Hsucc.out]; exact hO
            have Hfin := Lib.hid hfin
            clear hfin hO
            go_wp2_with fail
            go_roundw
            case rel => exact ⟨k + 1, n, cap, ao, by omega, by go_num, rfl, by omega, Hfin.out, hkk⟩
            case measure => simp [intOf]; omega
      · obtain rfl : k = ss.length := by rw [Hl.out]; omega
        rw [List.take_of_length_le (Nat.le_refl _), ← HT.out] at hO
        have hpost : RTokPost w (tokL s) (.returned (.slice ao n cap)) wr := ⟨Kp.trans hk1 hkk, ao, n, cap, rfl, hO.is, by omega, hO.cap, fun k hk => ⟨Nat.le_trans hk1.size (hO.lt k (mem_blkL.1 hk)).1, (hO.lt k (mem_blkL.1 hk)).2⟩⟩
        have Hpost := Lib.hid hpost
        clear hpost hO
        have hml : m = ss.length := Hl.out.symm
        subst hml
        go_wp2_with fail
        go_ret
        exact Hpost.out
end Go.Proofs.YtbdphdgomcabmaaGreatDoor

namespace Go.Proofs.YtbdphdgomcabmaaGreatDoor
open Go.RowKit

/-- The token found among the first j words; 0: none. -/
def tokTo (x : ByteArray) : Nat → Nat
  | 0 => 0
  | j + 1 => if ((wordL (j + 1)).toList == x.toList) = true then j + 1 else tokTo x j
theorem tokTo_le (x : ByteArray) : ∀ j, tokTo x j ≤ j
  | 0 => Nat.le_refl _
  | j + 1 => by
    unfold tokTo
    split
    · exact Nat.le_refl _
    · have := tokTo_le x j; omega
theorem tokTo_seven (x : ByteArray) : Q.wordT x.data.toList = if tokTo x 7 = 0 then none else some ((tokTo x 7 : Nat) : Int) := by
  have e : ∀ j, (wordL j).toList = (wordL j).data.toList := fun j => Lib.toList_data _
  unfold tokTo tokTo tokTo tokTo tokTo tokTo tokTo tokTo
  rw [Lib.toList_data x, e, e, e, e, e, e, e]
  generalize x.data.toList = l
  have w1 : (wordL 1).data.toList = [101] := rfl
  have w2 : (wordL 2).data.toList = [115] := rfl
  have w3 : (wordL 3).data.toList = [101, 101] := rfl
  have w4 : (wordL 4).data.toList = [101, 115] := rfl
  have w5 : (wordL 5).data.toList = [115, 101] := rfl
  have w6 : (wordL 6).data.toList = [115, 115] := rfl
  have w7 : (wordL 7).data.toList = [112, 115, 107] := rfl
  simp only [Nat.zero_add, Nat.reduceAdd, w1, w2, w3, w4, w5, w6, w7, beq_iff_eq]
  by_cases h7 : [112, 115, 107] = l
  · subst h7; rfl
  rw [if_neg h7]
  by_cases h6 : [115, 115] = l
  · subst h6; rfl
  rw [if_neg h6]
  by_cases h5 : [115, 101] = l
  · subst h5; rfl
  rw [if_neg h5]
  by_cases h4 : [101, 115] = l
  · subst h4; rfl
  rw [if_neg h4]
  by_cases h3 : [101, 101] = l
  · subst h3; rfl
  rw [if_neg h3]
  by_cases h2 : [115] = l
  · subst h2; rfl
  rw [if_neg h2]
  by_cases h1 : [101] = l
  · subst h1; rfl
  rw [if_neg h1, if_pos rfl]
  unfold Q.wordT
  split <;> first | rfl | (rename_i h; exact absurd rfl (by assumption))
/-- The words of a row, as the document reads them. -/
def wdR (s : Q.Bt) : Option (List Int) := Q.wordsR (s.length + 1) s
theorem wdR_fuel {k : Nat} {s : Q.Bt} (h : s.length < k) : Q.wordsR k s = wdR s := by
  unfold wdR
  rw [Q.wordsR_eq k s h, Q.wordsR_eq _ s (Nat.lt_succ_self _)]
theorem wdR_eq (s : Q.Bt) : wdR s = match Q.wordT (s.takeWhile Q.ne44) with
    | none => none
    | some t => match s.dropWhile Q.ne44 with
      | [] => some [t]
      | [_] => none
      | _ :: c :: r => if c = 32 then (wdR r).map (t :: ·) else none := by
  have hl : (s.dropWhile Q.ne44).length ≤ s.length := (List.dropWhile_sublist _).length_le
  conv => lhs; unfold wdR Q.wordsR
  cases Q.wordT (s.takeWhile Q.ne44) with
  | none => rfl
  | some t =>
    simp only
    generalize s.dropWhile Q.ne44 = d at *
    rcases d with _ | ⟨a, _ | ⟨c, r⟩⟩
    · rfl
    · rfl
    · simp only
      rw [wdR_fuel (by simp at hl; omega)]
/-- Where the first comma is. -/
theorem comma_at {s : ByteArray} {n : Nat} (hn : n ≤ s.size) (h : ∀ j (hj : j < s.size), j < n → s[j] ≠ 44) (he : n = s.size ∨ ∃ hn : n < s.size, s[n] = 44) :
    s.data.toList.takeWhile Q.ne44 = (s.extract 0 n).data.toList ∧ s.data.toList.dropWhile Q.ne44 = s.data.toList.drop n := by
  have ht : (s.extract 0 n).data.toList = s.data.toList.take n := by simp
  have ha : ∀ x ∈ s.data.toList.take n, Q.ne44 x = true := fun x hx => by
    obtain ⟨j, hj, rfl⟩ := List.getElem_of_mem hx
    rw [List.length_take] at hj
    have hj2 : j < s.size := by omega
    rw [List.getElem_take]
    have := h j hj2 (by omega)
    unfold Q.ne44
    rw [bne_iff_ne]
    exact this
  rw [ht]
  rcases he with rfl | ⟨hl, he⟩
  · have hL : s.data.toList.length = s.size := by simp
    rw [← hL, List.take_length] at ha ⊢
    obtain ⟨e1, e2⟩ := Q.tw_all Q.ne44 _ ha
    rw [e1, e2]
    exact ⟨rfl, by rw [List.drop_length]⟩
  · have hc : s.data.toList = s.data.toList.take n ++ 44 :: s.data.toList.drop (n + 1) := by
      conv => lhs; rw [← List.take_append_drop n s.data.toList]
      congr 1
      rw [List.drop_eq_getElem_cons (i := n) (by simpa using hl)]
      congr 1
    have := Q.tw_app Q.ne44 (s.data.toList.take n) 44 (s.data.toList.drop (n + 1)) ha rfl
    rw [← hc] at this
    refine ⟨this.1, ?_⟩
    rw [this.2, List.drop_eq_getElem_cons (i := n) (by simpa using hl)]
    congr 1
    exact he.symm
/-- What a row's words come to at the first comma. -/
theorem wdR_none {s : ByteArray} {n : Nat} (hn : n ≤ s.size) (h : ∀ j (hj : j < s.size), j < n → s[j] ≠ 44) (he : n = s.size ∨ ∃ hn : n < s.size, s[n] = 44) (ht : tokTo (s.extract 0 n) 7 = 0) : wdR s.data.toList = none := by
  rw [wdR_eq, (comma_at hn h he).1, tokTo_seven, if_pos ht]
theorem wdR_last {s : ByteArray} (h : ∀ j (hj : j < s.size), j < s.size → s[j] ≠ 44) (ht : tokTo (s.extract 0 s.size) 7 ≠ 0) : wdR s.data.toList = some [((tokTo (s.extract 0 s.size) 7 : Nat) : Int)] := by
  have hc := comma_at (Nat.le_refl _) h (.inl rfl)
  rw [wdR_eq, hc.1, hc.2, tokTo_seven, if_neg ht]
  have : s.data.toList.drop s.size = [] := by simp
  rw [this]
theorem wdR_bad {s : ByteArray} {n : Nat} (h : ∀ j (hj : j < s.size), j < n → s[j] ≠ 44) (hn : n < s.size) (he : s[n] = 44) (hb : s.size ≤ n + 1 ∨ ∃ h1 : n + 1 < s.size, s[n + 1] ≠ 32) : wdR s.data.toList = none := by
  have hc := comma_at (Nat.le_of_lt hn) h (.inr ⟨hn, he⟩)
  rw [wdR_eq, hc.1, hc.2]
  cases Q.wordT (s.extract 0 n).data.toList with
  | none => rfl
  | some t =>
    simp only
    rw [List.drop_eq_getElem_cons (by simpa using hn)]
    rcases hb with hb | ⟨h1, hb⟩
    · have : s.data.toList.drop (n + 1) = [] := List.drop_eq_nil_of_le (by simpa using hb)
      rw [this]
    · rw [List.drop_eq_getElem_cons (i := n + 1) (by simpa using h1)]
      simp only
      rw [if_neg (show ¬ (s.data.toList[n + 1]'(by simpa using h1)) = 32 by rw [Array.getElem_toList]; exact hb)]
theorem wdR_next {s : ByteArray} {n : Nat} (h : ∀ j (hj : j < s.size), j < n → s[j] ≠ 44) (hn : n < s.size) (he : s[n] = 44) (h1 : n + 1 < s.size) (hb : s[n + 1] = 32) (ht : tokTo (s.extract 0 n) 7 ≠ 0) :
    wdR s.data.toList = (wdR (s.extract (n + 2) s.size).data.toList).map (((tokTo (s.extract 0 n) 7 : Nat) : Int) :: ·) := by
  have hc := comma_at (Nat.le_of_lt hn) h (.inr ⟨hn, he⟩)
  rw [wdR_eq, hc.1, hc.2, tokTo_seven, if_neg ht, List.drop_eq_getElem_cons (by simpa using hn), List.drop_eq_getElem_cons (i := n + 1) (by simpa using h1)]
  simp only
  rw [if_pos (show (s.data.toList[n + 1]'(by simpa using h1)) = 32 by rw [Array.getElem_toList]; exact hb)]
  have : (s.extract (n + 2) s.size).data.toList = s.data.toList.drop (n + 2) := by
    simp only [ByteArray.data_extract, Array.toList_extract, List.extract_eq_take_drop]
    exact List.take_of_length_le (by simp)
  rw [this]
end Go.Proofs.YtbdphdgomcabmaaGreatDoor

namespace Go.Proofs.YtbdphdgomcabmaaGreatDoor
open Go.RowKit

/-- What is answered: the tokens in a list of the call's own, and whether they are of the form. -/
def RWordsPost (w : World) (s : Q.Bt) (e : Ending) (w' : World) : Prop := Kp w w' ∧ ∃ ao n cap, e = .returned (.tuple #[.slice ao n cap, .bool (wdR s).isSome]) ∧ ∀ l, wdR s = some l → Own w' w.heap.size 3 1 ao n cap (l.map iv) ∧ n ≤ s.length
theorem RWordsPost.no {w w' : World} {s : Q.Bt} (h : wdR s = none) (k : Kp w w') : RWordsPost w s (.returned (.tuple #[.slice none 0 0, .bool false])) w' := ⟨k, none, 0, 0, by rw [h]; rfl, fun l hl => by rw [h] at hl; cases hl⟩
theorem RWordsPost.yes {w w' : World} {s : Q.Bt} {l : List Int} {ao : Option Addr} {n cap : Nat} (h : wdR s = some l) (k : Kp w w') (ho : Own w' w.heap.size 3 1 ao n cap (l.map iv)) (hn : n ≤ s.length) : RWordsPost w s (.returned (.tuple #[.slice ao n cap, .bool true])) w' :=
  ⟨k, ao, n, cap, by rw [h]; rfl, fun l' hl => by rw [h] at hl; cases hl; exact ⟨ho, hn⟩⟩
theorem byte_ne {c : UInt8} {k : Nat} (hk : k < 256) (h : c ≠ UInt8.ofNat k) : (((c.toNat : Nat) : Int) == (k : Int)) = false := by
  rw [beq_eq_false_iff_ne]
  intro e
  apply h
  rw [← UInt8.toNat_inj, UInt8.toNat_ofNat']
  omega
def sizeOf' : Value → Nat
  | .string s => s.size
  | _ => 0
end Go.Proofs.YtbdphdgomcabmaaGreatDoor

namespace Go.Proofs.YtbdphdgomcabmaaGreatDoor
open Go.RowKit

/-- The number, or -1. -/
def numI (w : Q.Bt) : Int := match Q.numR w with
  | some n => (n : Int)
  | none => -1
theorem digs_step {s : ByteArray} {k acc : Nat} (h : k < s.size) : Q.digs acc (s.data.toList.drop k) = if 48 ≤ s[k].toNat ∧ s[k].toNat ≤ 57 then Q.digs (10 * acc + (s[k].toNat - 48)) (s.data.toList.drop (k + 1)) else none := by
  rw [List.drop_eq_getElem_cons (i := k) (by simpa using h)]
  rfl
theorem numI_no {s : ByteArray} (h : s.size < 4 ∨ 6 < s.size ∨ ((s.extract 0 3).toList == [112, 115, 107]) = false ∨ (∃ h3 : 3 < s.size, s[3] = 48 ∧ 4 < s.size)) : numI s.data.toList = -1 := by
  have e : (s.extract 0 3).toList = s.data.toList.take 3 := by rw [Lib.toList_data]; simp
  have hl := Lib.size_eq s
  unfold numI Q.numR
  rw [if_pos]
  rw [e] at h
  rcases h with h | h | h | ⟨h3, h4, h5⟩
  · exact .inl (by omega)
  · exact .inr (.inl (by omega))
  · exact .inr (.inr (.inl (beq_eq_false_iff_ne.1 h)))
  · refine .inr (.inr (.inr ⟨?_, by omega⟩))
    rw [List.getElem?_eq_getElem (by omega)]
    congr 1
theorem numI_go {s : ByteArray} (h4 : ¬ s.size < 4) (h6 : ¬ 6 < s.size) (hp : ((s.extract 0 3).toList == [112, 115, 107]) = true) (h0 : ¬ ∃ h3 : 3 < s.size, s[3] = 48 ∧ 4 < s.size) : numI s.data.toList = (match Q.digs 0 (s.data.toList.drop 3) with
    | some n => (n : Int)
    | none => -1) := by
  have e : (s.extract 0 3).toList = s.data.toList.take 3 := by rw [Lib.toList_data]; simp
  have hl := Lib.size_eq s
  unfold numI Q.numR
  rw [if_neg]
  rw [e] at hp
  rintro (h | h | h | ⟨h, h'⟩)
  · omega
  · omega
  · exact h (beq_iff_eq.1 hp)
  · apply h0
    have h3 : 3 < s.size := by omega
    rw [List.getElem?_eq_getElem (by omega)] at h
    exact ⟨h3, Option.some.inj h, by omega⟩
set_option maxRecDepth 100000 in
set_option maxHeartbeats 8000000 in
theorem rnum_any (w : World) (s : ByteArray) (hs : s.size ≤ maxLen) : Calls Tryz.prog 50 #[.string s] w fun e w' => e = .returned (iv (numI s.data.toList)) ∧ w = w' := by
  unfold maxLen at hs
  by_cases h4 : s.size < 4
  · have Hn := Lib.hid (numI_no (.inl h4))
    go_enter Tryz.func50, Tryz.ntmps50
    go_wp2_with fail
    go_ret
    exact ⟨by rw [Hn.out]; rfl, rfl⟩
  · by_cases h6 : 6 < s.size
    · have Hn := Lib.hid (numI_no (.inr (.inl h6)))
      go_enter Tryz.func50, Tryz.ntmps50
      go_wp2_with fail
      go_ret
      exact ⟨by rw [Hn.out]; rfl, rfl⟩
    · cases hp : ((s.extract 0 3).toList == [112, 115, 107]) with
      | false =>
        have Hn := Lib.hid (numI_no (.inr (.inr (.inl hp))))
        go_enter Tryz.func50, Tryz.ntmps50
        go_wp2_with fail
        go_ret
        exact ⟨by rw [Hn.out]; rfl, rfl⟩
      | true =>
        have h3 : 3 < s.size := by omega
        by_cases h0 : s[3] = 48 ∧ 4 < s.size
        · have Hn := Lib.hid (numI_no (.inr (.inr (.inr ⟨h3, h0⟩))))
          have hb : (((s[3].toNat : Nat) : Int) == 48) = true := by rw [h0.1]; rfl
          have h5 := h0.2
          clear h0
          go_enter Tryz.func50, Tryz.ntmps50
          go_wp2_with fail
          go_ret
          exact ⟨by rw [Hn.out]; rfl, rfl⟩
        · have Hgo := Lib.hid (numI_go h4 h6 hp (fun ⟨_, h⟩ => h0 h))
          have Hb := Lib.hid (show (((s[3].toNat : Nat) : Int) == 48) = false ∨ ¬ 4 < s.size by
            by_cases q : s[3] = 48
            · exact .inr (fun h => h0 ⟨q, h⟩)
            · exact .inl (byte_ne (k := 48) (by decide) q))
          clear h0
          go_enter Tryz.func50, Tryz.ntmps50
          go_upto_region 1 with fail
          go_cut [27] (fun v wc => v = .bool false ∧ w = wc)
          case first =>
            rcases Hb.out with hb | h5
            · have hb9 := beq_eq_false_iff_ne.1 hb
              go_wp2_with fail
              all_goals
                go_meet
                case rel => exact ⟨by first | rfl | (refine congrArg Value.bool ?_; rw [Bool.eq_iff_iff]; simp; omega), rfl⟩
            · go_wp2_with fail
              all_goals
                go_meet
                case rel => exact ⟨by first | rfl | (refine congrArg Value.bool ?_; rw [Bool.eq_iff_iff]; simp; omega), rfl⟩
          case rest =>
            obtain ⟨rfl, rfl⟩ := hcut
            go_wp2_with fail
            go_loopw [3, 4] (fun nv iv' wr => ∃ acc k : Nat, 3 ≤ k ∧ k ≤ s.size ∧ nv = .int .i64 ((acc : Nat) : Int) ∧ iv' = .int .i64 ((k : Nat) : Int) ∧ w = wr ∧ Q.digs 0 (s.data.toList.drop 3) = Q.digs acc (s.data.toList.drop k) ∧ (k = 3 → acc ≤ 0) ∧ (k = 4 → acc ≤ 9) ∧ (k = 5 → acc ≤ 99) ∧ acc ≤ 999) (fun _ i _ => s.size - (intOf i).toNat)
            case atStart => exact ⟨0, 3, by omega, by omega, rfl, rfl, rfl, rfl, by omega, by omega, by omega, by omega⟩
            case round =>
              obtain ⟨acc, k, hk3, hk, rfl, rfl, rfl, hd, a3, a4, a5, a9⟩ := hrel
              have Hd := Lib.hid hd
              have Ha := Lib.hid (And.intro a3 (And.intro a4 a5))
              clear hd a3 a4 a5
              by_cases hlt : k < s.size
              · have hst := digs_step (acc := acc) hlt
                have hc := s[k].toNat_lt
                by_cases hdg : 48 ≤ s[k].toNat ∧ s[k].toNat ≤ 57
                · rw [if_pos hdg] at hst
                  have Hst := Lib.hid (Hd.out.trans hst)
                  obtain ⟨d1, d2⟩ := hdg
                  clear hst
                  have e1 : ¬ ((s[k].toNat : Nat) : Int) < 48 := by omega
                  have e2 : ¬ (57 : Int) < ((s[k].toNat : Nat) : Int) := by omega
                  go_wp2_with fail
                  go_roundw
                  case rel => exact ⟨10 * acc + (s[k].toNat - 48), k + 1, by omega, by omega, by congr 1; omega, by go_num, trivial, Hst.out, by omega, by have := Ha.out; omega, by have := Ha.out; omega, by have := Ha.out; omega⟩
                  case measure => simp [intOf]; omega
                · rw [if_neg hdg] at hst
                  have Hn := Lib.hid (show numI s.data.toList = -1 by rw [Hgo.out, Hd.out, hst])
                  clear hst
                  have hbad : ((s[k].toNat : Nat) : Int) < 48 ∨ (57 : Int) < ((s[k].toNat : Nat) : Int) := by omega
                  rcases hbad with hb | hb
                  · go_wp2_with fail
                    go_ret
                    exact ⟨by rw [Hn.out]; rfl, rfl⟩
                  · have hb2 : ¬ ((s[k].toNat : Nat) : Int) < 48 := by omega
                    go_wp2_with fail
                    go_ret
                    exact ⟨by rw [Hn.out]; rfl, rfl⟩
              · obtain rfl : k = s.size := by omega
                have Hn := Lib.hid (show numI s.data.toList = (acc : Int) by
                  rw [Hgo.out, Hd.out, List.drop_eq_nil_of_le (by rw [← Lib.size_eq]; exact Nat.le_refl _)]; rfl)
                go_wp2_with fail
                go_ret
                exact ⟨by rw [Hn.out]; rfl, rfl⟩
end Go.Proofs.YtbdphdgomcabmaaGreatDoor
