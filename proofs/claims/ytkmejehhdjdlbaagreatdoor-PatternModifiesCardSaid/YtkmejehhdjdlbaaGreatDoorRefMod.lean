/- A pattern with modifiers, as the document makes it. Conditions: the pattern lies there and is no more than is looked at; there are at most 200 words. -/
import Derived.Test.YtkmejehhdjdlbaaGreatDoorRefBack
import Derived.Test.YtkmejehhdjdlbaaGreatDoorGb7
import Derived.Test.YtkmejehhdjdlbaaGreatDoorRefCheck
import Derived.Deep.CutBlock
namespace Go.Proofs.YtkmejehhdjdlbaaGreatDoor
open Go.RowKit

/-- What is answered: an error's number, or a pattern in rows of the call's own. -/
def RModPost (w : World) (p : Q.Pn) (ws : List Q.Bt) (e : Ending) (w' : World) : Prop := Kp w w' ∧ match Q.modR p ws with
  | (some q, _) => ∃ t0 t1 tf td ts D, e = .returned (.tuple #[.agg #[.string (bs q.nm), tvv t0, tvv t1, tvv (subT tf D.length)], iv 0]) ∧ td.length = D.length ∧ D.length ≤ 1 ∧ ts.length = q.ls.length ∧ Sep w' w.heap.size (rowsP t0 t1 tf (td ++ ts) q.b0 q.b1 (D ++ q.ls))
  | (none, c) => e = .returned (.tuple #[zeroP, iv ((c : Nat) : Int)])
theorem RModPost.bad {w w' : World} {p : Q.Pn} {ws : List Q.Bt} {c : Nat} (h : Q.modR p ws = (none, c)) (hk : Kp w w') : RModPost w p ws (.returned (.tuple #[zeroP, iv ((c : Nat) : Int)])) w' := ⟨hk, by rw [h]⟩
theorem RModPost.fine {w w' : World} {p q : Q.Pn} {ws : List Q.Bt} {t0 t1 tf : Tv} {td ts : List Tv} {D : List Ln} {c : Nat} (h : Q.modR p ws = (some q, c)) (hk : Kp w w')
    (hd : td.length = D.length) (h1 : D.length ≤ 1) (hl : ts.length = q.ls.length) (hs : Sep w' w.heap.size (rowsP t0 t1 tf (td ++ ts) q.b0 q.b1 (D ++ q.ls))) :
    RModPost w p ws (.returned (.tuple #[.agg #[.string (bs q.nm), tvv t0, tvv t1, tvv (subT tf D.length)], iv 0])) w' := ⟨hk, by rw [h]; exact ⟨t0, t1, tf, td, ts, D, rfl, hd, h1, hl, hs⟩⟩
/-- Each way out with an error. -/
theorem rm_bad {w wr : World} {p : Q.Pn} {ws : List Q.Bt} {b c : Nat} {x y z u : Value} (hB : Four wr b x y z u) (hk : Kp w wr) (hb : w.heap.size ≤ b) (hc : Q.modR p ws = (none, c)) (tmps : Array Value) (h2 : tmps[4]? = some (.pointer (some ⟨b, 0, none⟩))) (h3 : tmps[5]? = some (.int .i64 ((c : Nat) : Int))) :
    bodyPost Tryz.prog Tryz.f38 (RModPost w p ws) .ret { tmps := tmps, defers := [] } ((((wr.setCell ⟨b, 0, none⟩ (.string ⟨#[]⟩)).setCell ⟨b, 1, none⟩ (.slice none 0 0)).setCell ⟨b, 2, none⟩ (.slice none 0 0)).setCell ⟨b, 3, none⟩ (.slice none 0 0)) := by
  obtain ⟨wf, hwf, hF, hPf⟩ := hB.set (.string ⟨#[]⟩) (.slice none 0 0) (.slice none 0 0) (.slice none 0 0)
  rw [← hwf]
  obtain ⟨c0, c1, c2, c3, _, _, _, _⟩ := hPf
  refine bodyPost_ret (v := .tuple #[zeroP, iv ((c : Nat) : Int)]) (by simp [results, Tryz.results38, go_sem, h2, h3, c0, c1, c2, c3]) rfl ?_
  exact RModPost.bad hc ((Fr.of_kp hk).step hF (fun j hj => .inr (by simp at hj; omega))).kp
theorem goR_step {k least : Nat} {q : Q.Pn} {ws : List Q.Bt} (h : k < ws.length) : Q.goR k least q (ws.drop k) = match Q.wordR k least q ws[k] with
    | none => none
    | some (m, q') => Q.goR (k + 1) m q' (ws.drop (k + 1)) := by
  rw [List.drop_eq_getElem_cons h]
  rfl
/-- What a round looks at. -/
structure RMod (w0 wr : World) (B bx : Nat) (p : Q.Pn) (ws : List Q.Bt) (k least : Nat) (q : Q.Pn) : Prop where
  l : MdL w0 wr B bx k q
  g : Q.goR 0 0 p ws = Q.goR k least q (ws.drop k)
  n : q.nm = p.nm
  s : least ≤ 30000
theorem RMod.step {w0 wr w1 : World} {B bx : Nat} {p : Q.Pn} {ws : List Q.Bt} {k least least' : Nat} {q q1 : Q.Pn} (h : RMod w0 wr B bx p ws k least q) (hk : k < ws.length) (hw : Q.wordR k least q ws[k] = some (least', q1)) (hq : q1.nm = q.nm) (hs : least' ≤ 30000)
    (t0 t1 tf : Tv) (td ts : List Tv) (D : List Ln) (hm : MdS w1 B bx (bs q.nm) t0 t1 tf td ts D q1.ls q1.b0 q1.b1) (hK : Kept bx B wr w1) (hb : w0.heap.size ≤ bx) (hB : bx + 1 < B)
    (ln : ∀ l ∈ q1.ls, (l.1 = 0 ∨ l.1 = 1) ∧ l.2 ≠ [] ∧ l.2.length ≤ 24 + (k + 1)) (ll : q1.ls.length ≤ 24) (l0 : q1.b0.length ≤ 2 + 2 * (k + 1)) (l1 : q1.b1.length ≤ 2 + 2 * (k + 1)) : RMod w0 w1 B bx p ws (k + 1) least' q1 :=
  ⟨⟨⟨t0, t1, tf, td, ts, D, by rw [hq]; exact hm, fun h => by omega⟩, hK.keep h.l.kp hb (by omega), hK.four h.l.zero (by omega) hB, ln, ll, fun h => by omega, l0, l1⟩, by rw [h.g, goR_step hk, hw], by rw [hq, h.n], hs⟩
theorem RMod.stop {w0 wr : World} {B bx : Nat} {p : Q.Pn} {ws : List Q.Bt} {k least : Nat} {q : Q.Pn} (h : RMod w0 wr B bx p ws k least q) (hk : k < ws.length) (hw : Q.wordR k least q ws[k] = none) : Q.goR 0 0 p ws = none := by rw [h.g, goR_step hk, hw]
theorem word_psk {k least : Nat} {q : Q.Pn} {w : Q.Bt} (h : ¬ (w = Q.fallB ∧ k = 0)) : Q.wordR k least q w = match Q.numR w with
    | some n => if n < least then none else (Q.preT q n).map (fun q => (n + 1, q))
    | none => none := by
  unfold Q.wordR
  rw [if_neg h]
  cases Q.numR w <;> rfl
theorem new_one (w : World) : Own (w.alloc (.cells #[iv 7] 3)) w.heap.size 3 1 (some ⟨w.heap.size, 0, none⟩) 1 1 [iv 7] := World.ownsRow_lit w #[iv 7] 1 (Nat.le_refl _) (by decide) rfl
theorem new_app {wr w2 : World} {cap m N c : Nat} {zs : List Value} {a : Option Addr} (ha : Appd (wr.alloc (.cells #[iv 7] 3)) w2 wr.heap.size 3 1 (some ⟨wr.heap.size, 0, none⟩) cap m N zs a c) : Kp wr w2 :=
  kp_step' (Kp.new wr (.cells #[iv 7] 3)) ha.fr (fun j hj => by rw [mem_blkL_some] at hj; omega)
theorem numI_some {w : Q.Bt} {n : Nat} (h : Q.numR w = some n) : numI w = (n : Int) := by unfold numI; rw [h]
theorem numI_none {w : Q.Bt} (h : Q.numR w = none) : numI w = -1 := by unfold numI; rw [h]
theorem MdS.took0 {w w1 : World} {B bx : Nat} {nm : ByteArray} {t0 t1 tf tq t : Tv} {ts : List Tv} {l : Ln} {ls : List Ln} {b0 b1 kn : List Int} (h : MdS w B bx nm t0 t1 tf [] (tq :: ts) [] (l :: ls) b0 b1) (k : Kp w w1) (ho : Own w1 w.heap.size 3 1 t.ao t.n t.c (kn.map iv)) (hB : B ≤ w.heap.size) :
    ∃ wf, wf = (((w1.setCell ⟨bx, 0, none⟩ (.string nm)).setCell ⟨bx, 1, none⟩ (tvv t)).setCell ⟨bx, 2, none⟩ (tvv t1)).setCell ⟨bx, 3, none⟩ (tvv (subT tf 1)) ∧ Fr [bx] w1 wf ∧ MdS wf B bx nm t t1 tf [tq] ts [l] ls kn b1 := by
  obtain ⟨wf, hwf, hF, hf⟩ := (h.four.kp k).set (.string nm) (tvv t) (tvv t1) (tvv (subT tf 1))
  have hlt := fun x hx => (ho.lt x hx).1
  exact ⟨wf, hwf, hF, ⟨hf, rfl, by simp, by have := h.hl; simp at this; exact this, (Sep.upd (r' := ⟨3, 1, t, kn.map iv⟩) h.sep ((Fr.of_kp k).mono (by simp)) (ho.mono (fun x hx => Nat.le_trans hB (hlt x hx))) (fun x hx => .inr (hlt x (mem_blkL.1 hx)))).fr hF (by intro x hx; simp at hx; have := h.hb; omega), h.hb⟩⟩
theorem MdS.took1 {w w1 : World} {B bx : Nat} {nm : ByteArray} {t0 t1 tf tq t : Tv} {ts : List Tv} {l : Ln} {ls : List Ln} {b0 b1 kn : List Int} (h : MdS w B bx nm t0 t1 tf [] (tq :: ts) [] (l :: ls) b0 b1) (k : Kp w w1) (ho : Own w1 w.heap.size 3 1 t.ao t.n t.c (kn.map iv)) (hB : B ≤ w.heap.size) :
    ∃ wf, wf = (((w1.setCell ⟨bx, 0, none⟩ (.string nm)).setCell ⟨bx, 1, none⟩ (tvv t0)).setCell ⟨bx, 2, none⟩ (tvv t)).setCell ⟨bx, 3, none⟩ (tvv (subT tf 1)) ∧ Fr [bx] w1 wf ∧ MdS wf B bx nm t0 t tf [tq] ts [l] ls b0 kn := by
  obtain ⟨wf, hwf, hF, hf⟩ := (h.four.kp k).set (.string nm) (tvv t0) (tvv t) (tvv (subT tf 1))
  have hlt := fun x hx => (ho.lt x hx).1
  exact ⟨wf, hwf, hF, ⟨hf, rfl, by simp, by have := h.hl; simp at this; exact this, ((Sep.upd (r' := ⟨3, 1, t, kn.map iv⟩) (h.sep.perm (List.Perm.swap _ _ _)) ((Fr.of_kp k).mono (by simp)) (ho.mono (fun x hx => Nat.le_trans hB (hlt x hx))) (fun x hx => .inr (hlt x (mem_blkL.1 hx)))).perm (List.Perm.swap _ _ _)).fr hF (by intro x hx; simp at hx; have := h.hb; omega), h.hb⟩⟩
theorem plusAll_step : ∀ (ws : List Q.Bt) (i k : Nat) (h : k < ws.length), Q.plusAll i (ws.take (k + 1)) = Q.plusAll i (ws.take k) ++ Q.plusW (i + k) ws[k]
  | w :: ws, i, 0, _ => by simp [Q.plusAll]
  | w :: ws, i, k + 1, h => by
    have := plusAll_step ws (i + 1) k (by simpa using h)
    simp only [List.take_succ_cons, Q.plusAll, List.getElem_cons_succ]
    rw [this, List.append_assoc, show i + 1 + k = i + (k + 1) by omega]
/-- The cells that a name's round looks at. -/
structure ClN (bx b o : Nat) (s x : ByteArray) (w : World) : Prop where
  p : w.cell? ⟨bx, 0, none⟩ = some (.string s)
  c : w.cell? ⟨b, o, none⟩ = some (.string x)
theorem ClN.kp {bx b o : Nat} {s x : ByteArray} {w w' : World} (h : ClN bx b o s x w) (k : Kp w w') : ClN bx b o s x w' := ⟨k.cell h.p, k.cell h.c⟩
set_option maxHeartbeats 2000000 in
theorem exec_load9 {w : World} {p : Addr} {s : ByteArray} (h : w.cell? p = some (.string s)) {ρ : Operand → Value} {x : Operand} (hx : ρ x = .pointer (some p)) {o : Oper} (ho : o.op = .load 9 x) : (execOp ρ o).run Tryz.prog w = .ok (.value (.string s)) w := by
  simp only [execOp, ho, hx]
  go_simp
set_option maxRecDepth 100000 in
set_option maxHeartbeats 16000000 in
theorem rmodify_any (w : World) (nm : ByteArray) (a0 a1 al : Option Addr) (n0 c0 n1 c1 nl cl : Nat) (b0 b1 : List Int) (ls : List Ln) (hP : PatI w a0 a1 al n0 n1 nl b0 b1 ls) (hs : ShortP nm n0 n1 nl ls)
    (ao : Option Addr) (nw cw : Nat) (ss : List ByteArray) (hW : Strs w ao nw ss) (hz : ∀ s ∈ ss, s.size ≤ 281474976710656) (hn : nw ≤ 200) :
    Calls Tryz.prog 38 #[patV nm a0 a1 al n0 c0 n1 c1 nl cl, .slice ao nw cw] w (RModPost w ⟨nm.data.toList, b0, b1, ls⟩ (wb ss)) := by
  have Hs := Lib.hid hs
  have HPI := Lib.hid hP
  have HW := Lib.hid hW
  have Hz := Lib.hid hz
  have hkA := Kp.new w (.cells #[.string nm, .slice a0 n0 c0, .slice a1 n1 c1, .slice al nl cl] 26)
  have hkB := Kp.new (w.alloc (.cells #[.string nm, .slice a0 n0 c0, .slice a1 n1 c1, .slice al nl cl] 26)) (.cells #[.string ⟨#[]⟩, .slice none 0 0, .slice none 0 0, .slice none 0 0] 26)
  have hFA := (Four.new w (.string nm) (.slice a0 n0 c0) (.slice a1 n1 c1) (.slice al nl cl) 26).kp hkB
  have hFB := Four.new (w.alloc (.cells #[.string nm, .slice a0 n0 c0, .slice a1 n1 c1, .slice al nl cl] 26)) (.string ⟨#[]⟩) (.slice none 0 0) (.slice none 0 0) (.slice none 0 0) 26
  rw [World.size_alloc] at hFB
  have hkw := Kp.trans hkA hkB
  clear hkA hkB hP hs hW hz
  go_enter Tryz.func38, Tryz.ntmps38
  go_upto_region 1 with fail
  obtain ⟨bx, hbx⟩ : ∃ bx, bx = w.heap.size := ⟨_, rfl⟩
  rw [← hbx] at hFA hFB ⊢
  generalize (w.alloc (.cells #[.string nm, .slice a0 n0 c0, .slice a1 n1 c1, .slice al nl cl] 26)).alloc (.cells #[.string ⟨#[]⟩, .slice none 0 0, .slice none 0 0, .slice none 0 0] 26) = wb1 at *
  have Hbx := Lib.hid hbx
  clear hbx
  have hwb : w.heap.size ≤ bx + 1 := by have := Hbx.out; omega
  have hck := refCheck_any wb1 nm a0 a1 al n0 c0 n1 c1 nl cl b0 b1 ls (hkw.is HPI.out.i0) (hkw.is HPI.out.i1) (hkw.lns HPI.out.il)
  rw [checkR_eq] at hck
  have HC := Lib.hid hck
  have HFA := Lib.hid hFA
  have HFB := Lib.hid hFB
  have Hkw := Lib.hid hkw
  obtain ⟨y0, y1, y2, y3, z0, z1, z2, z3⟩ := hFA
  clear hck hFB hkw
  go_wp2_with fail
  (with_reducible refine HC.out.mono ?_)
  rintro e w2 ⟨rfl, hk2⟩
  have HK2 := Lib.hid (Kp.trans Hkw.out hk2)
  have HF2 := Lib.hid (HFA.out.kp hk2)
  have HG2 := Lib.hid (HFB.out.kp hk2)
  clear y0 y1 y2 y3 z0 z1 z2 z3 hk2
  obtain ⟨c, hcc⟩ : ∃ c, c = checkL b0 b1 ls := ⟨_, rfl⟩
  rw [← hcc]
  by_cases hc : c = 0
  · have Hc := Lib.hid (show checkL b0 b1 ls = 0 by rw [← hcc]; exact hc)
    have hcl := code0 Hc.out
    have Hcl := Lib.hid hcl
    have Hmod := Lib.hid (show Q.modR ⟨nm.data.toList, b0, b1, ls⟩ (wb ss) = match Q.goR 0 0 ⟨nm.data.toList, b0, b1, ls⟩ (wb ss) with
        | none => (none, 1)
        | some q => if q.code = 0 then (some { q with nm := q.nm ++ Q.plusAll 0 (wb ss) }, 0) else (none, q.code) by
      unfold Q.modR
      rw [if_neg (show ¬ (⟨nm.data.toList, b0, b1, ls⟩ : Q.Pn).code ≠ 0 from fun q => q Hc.out)]
      cases Q.goR 0 0 ⟨nm.data.toList, b0, b1, ls⟩ (wb ss) <;> rfl)
    subst hc
    rw [show ((0 : Nat) : Int) = 0 from rfl]
    clear hcc hcl
    have HCp := Lib.hid (rcopy_any w2 nm a0 a1 al n0 c0 n1 c1 nl cl b0 b1 ls (HPI.out.kp HK2.out) Hs.out)
    obtain ⟨y0, y1, y2, y3, z0, z1, z2, z3⟩ := HF2.out
    go_wp2_with fail
    (with_reducible refine HCp.out.mono ?_)
    rintro e w3 ⟨hk3, t0, t1, tl, ts, rfl, hts, hsep⟩
    have HF3 := Lib.hid (HF2.out.kp hk3)
    have hG3 := HG2.out.kp hk3
    have hsz := HG2.out.lt
    clear y0 y1 y2 y3 z0 z1 z2 z3
    obtain ⟨wf, hwf, hFf, h4⟩ := HF3.out.set (.string nm) (tvv t0) (tvv t1) (tvv tl)
    have Hwf := Lib.hid hwf
    have HK4 := Lib.hid (kp_step' (Kp.trans HK2.out hk3) hFf (by intro j hj; simp at hj; have := Hbx.out; omega))
    have hM : MdS wf (bx + 2) bx (bs nm.data.toList) t0 t1 tl [] ts [] ls b0 b1 := ⟨by rw [bs_data]; exact h4, rfl, by simp, hts, (hsep.fr hFf (by intro x hx; simp at hx; omega)).base (by omega), by omega⟩
    have HL0 := Lib.hid (show RMod w wf (bx + 2) bx ⟨nm.data.toList, b0, b1, ls⟩ (wb ss) 0 0 ⟨nm.data.toList, b0, b1, ls⟩ from
      ⟨⟨⟨t0, t1, tl, [], ts, [], hM, fun _ => rfl⟩, HK4.out, hG3.fr hFf (by simp), fun l hl => by have := Hcl.out.2.2.2.2 l hl; exact ⟨this.1, this.2.1, by omega⟩, Hcl.out.2.2.2.1, fun _ => Hcl.out.2.2.1, by have := okB_len Hcl.out.1; simp only; omega, by have := okB_len Hcl.out.2.1; simp only; omega⟩, rfl, rfl, by omega⟩)
    obtain ⟨y0, y1, y2, y3, z0, z1, z2, z3⟩ := HF3.out
    unfold tvv at hwf
    have Hwf2 := Lib.hid hwf
    unfold tvv
    clear hwf hFf h4 hM hG3 hk3 hsep hts hsz
    go_upto_block 0 with fail
    rw [← Hwf2.out]
    clear y0 y1 y2 y3 z0 z1 z2 z3
    go_wp2_with fail
    go_loopw [7, 8] (fun lv i wr => ∃ (k least : Nat) (q : Q.Pn), k ≤ nw ∧ i = .int .i64 (k : Nat) ∧ lv = .int .i64 ((least : Int) - 1) ∧ RMod w wr (bx + 2) bx ⟨nm.data.toList, b0, b1, ls⟩ (wb ss) k least q) (fun _ i _ => nw - (intOf i).toNat)
    case atStart => exact ⟨0, 0, _, by omega, rfl, rfl, HL0.out⟩
    case round =>
      obtain ⟨k, least, q, hk, rfl, rfl, hR⟩ := hrel
      rename World => wr
      have HR := Lib.hid hR
      obtain ⟨t0, t1, tf, td, ts, D, hM, hD⟩ := hR.l.mem
      have HM := Lib.hid hM
      have HKr := Lib.hid hR.l.kp
      have HZ := Lib.hid hR.l.zero
      have HD := Lib.hid hD
      clear hR hM hD
      by_cases hlt : k < nw
      · have hkl : k < ss.length := by rw [HW.out.1]; exact hlt
        obtain ⟨wbk, woff, eao, hcw⟩ := HW.out.at k hlt
        subst eao
        have hcx := HKr.out.cell (hcw k hlt)
        have hkw : k < (wb ss).length := by simpa [wb] using hkl
        have Hkw := Lib.hid hkw
        have hxe : (wb ss)[k] = ss[k].data.toList := wb_get hkl hkw
        have hxz := Hz.out ss[k] (List.getElem_mem hkl)
        clear hcw
        generalize hxx : ss[k] = x at *
        have HXe := Lib.hid hxe
        clear hxe hxx
        have HNum := Lib.hid (rnum_any wr x (Nat.le_trans hxz (by decide)))
        obtain ⟨y0, y1, y2, y3, z0, z1, z2, z3⟩ := HM.out.four
        obtain ⟨u0, u1, u2, u3, v0, v1, v2, v3⟩ := HZ.out
        go_wp2_with fail
        (with_reducible refine HNum.out.mono ?_)
        rintro e w5 ⟨rfl, rfl⟩
        by_cases hfb : x.data.toList = Q.fallB ∧ k = 0
        · skip
          obtain ⟨hxf, hk0⟩ := hfb
          have hDn := HD.out hk0
          subst hk0
          rw [Nat.add_zero] at hcx
          subst hDn
          have htd : td = [] := List.eq_nil_of_length_eq_zero HM.out.hd
          subst htd
          have hb : (x.toList == [102, 97, 108, 108, 98, 97, 99, 107]) = true := by rw [Lib.toList_data, hxf]; rfl
          rw [show ((0 : Nat) : Int) = 0 from rfl]
          rw [show subT tf ([] : List Ln).length = tf from rfl] at y3
          have hmod0 := Hmod.out
          obtain ⟨qn, qb0, qb1, qls⟩ := q
          have hne : qls ≠ [] := HR.out.l.ne rfl
          rcases qls with _ | ⟨l, r⟩
          · exact absurd rfl hne
          have HMo := HM.out
          rcases ts with _ | ⟨tq, ts⟩
          · have := HM.out.hl; simp at this
          have hlf := (HR.out.l.ln l (by simp)).1
          have hle := (HR.out.l.ln l (by simp)).2.2
          have hpat := HM.out.pat (by have := HR.out.l.ll; omega) (fun l hl => by have := (HR.out.l.ln l hl).2.2; omega)
          rw [show subT tf ([] : List Ln).length = tf from rfl] at hpat
          have hcap : tf.n ≤ tf.c := HM.out.own.cap
          have hnf : tf.n ≤ 24 := by have h1 := HM.out.nf; have h2 := HR.out.l.ll; simp at h1 h2; omega
          have hBk := rback_any wr (bs qn) t0.ao t1.ao tf.ao t0.n t0.c t1.n t1.c tf.n tf.c qb0 qb1 l r hlf hpat (by have := HR.out.l.l0; simp only at this; omega) (by have := HR.out.l.l1; simp only at this; omega) (by omega) hcap (by omega)
          unfold RBackPost at hBk
          rw [bs_list] at hBk
          have Hx0 := Lib.hid (show (wb ss)[0] = Q.fallB by rw [HXe.out]; exact hxf)
          have Hwd := Lib.hid (show Q.wordR 0 least ⟨qn, qb0, qb1, l :: r⟩ (wb ss)[0] = (Q.backR ⟨qn, qb0, qb1, l :: r⟩).map (fun q => (least, q)) by rw [Hx0.out]; unfold Q.wordR; rw [if_pos ⟨rfl, rfl⟩])
          have hBr : bx + 2 ≤ wr.heap.size := by have := HZ.out.lt; omega
          clear hxf hpat hne hmod0 HMo hcap
          cases hbr : Q.backR ⟨qn, qb0, qb1, l :: r⟩ with
          | none =>
            rw [hbr] at hBk
            have HBk := Lib.hid hBk
            have Hbad := Lib.hid (show Q.modR ⟨nm.data.toList, b0, b1, ls⟩ (wb ss) = (none, 1) by rw [Hmod.out, HR.out.stop Hkw.out (Hwd.out.trans (by rw [hbr]; rfl))])
            clear hbr hBk
            unfold tvv at y1 y2 y3
            go_wp2_with fail
            (with_reducible refine HBk.out.mono ?_)
            rintro e w6 ⟨hk6, rfl⟩
            have hk7 := Kp.trans hk6 (Kp.new w6 (.cells #[.string (bs qn), .slice t0.ao t0.n t0.c, .slice t1.ao t1.n t1.c, .slice tf.ao tf.n tf.c] 26))
            have HZ7 := Lib.hid (HZ.out.kp hk7)
            have HK7 := Lib.hid (Kp.trans HKr.out hk7)
            clear hk6 hk7 y0 y1 y2 y3 z0 z1 z2 z3 u0 u1 u2 u3 v0 v1 v2 v3
            obtain ⟨u0, u1, u2, u3, v0, v1, v2, v3⟩ := HZ7.out
            go_wp2_with fail
            exact rm_bad HZ7.out HK7.out hwb Hbad.out _ rfl rfl
          | some q1 =>
            rw [hbr] at hBk
            have HBk := Lib.hid hBk
            have Hword := Lib.hid (show Q.wordR 0 least ⟨qn, qb0, qb1, l :: r⟩ (wb ss)[0] = some (least, q1) from Hwd.out.trans (by rw [hbr]; rfl))
            clear hbr hBk
            unfold tvv at y1 y2 y3
            go_wp2_with fail
            (with_reducible refine HBk.out.mono ?_)
            rintro e w6 ⟨hk6, t, rfl, ho6, hqn, hqr, hqb, hql⟩
            have Hq := Lib.hid (And.intro hqn (And.intro hqr (And.intro hqb hql)))
            rcases hlf with hf | hf
            · rw [if_pos hf, if_pos hf]
              rw [if_pos hf] at ho6
              obtain ⟨ua, un, uc, hsub⟩ : ∃ ua un uc, subT tf 1 = ⟨ua, un, uc⟩ := ⟨_, _, _, rfl⟩
              rw [hsub]
              have Hsub := Lib.hid hsub
              clear hsub
              unfold tvv
              have hkn := Kp.new w6 (.cells #[.string (bs qn), .slice t.ao t.n t.c, .slice t1.ao t1.n t1.c, .slice ua un uc] 26)
              have hk7 := Kp.trans hk6 hkn
              have hT7 := Four.new w6 (.string (bs qn)) (.slice t.ao t.n t.c) (.slice t1.ao t1.n t1.c) (.slice ua un uc) 26
              have HF7 := Lib.hid (HM.out.four.kp hk7)
              have HZ7 := Lib.hid (HZ.out.kp hk7)
              have HK7 := Lib.hid (Kp.trans HKr.out hk7)
              obtain ⟨wf, hwf, hFf, hMf⟩ := HM.out.took0 hk7 (t := t) (kn := q1.b0) (ho6.keep hkn) hBr
              rw [Hsub.out] at hwf
              have Hwf := Lib.hid hwf
              have HMf := Lib.hid hMf
              have HKf := Lib.hid ((Kept.kp (bx := bx) (B := bx + 2) hk7).step hFf (fun x hx => .inl (by simpa using hx)))
              unfold tvv at hwf
              have Hwf2 := Lib.hid hwf
              clear hk6 hk7 hkn y0 y1 y2 y3 z0 z1 z2 z3 u0 u1 u2 u3 v0 v1 v2 v3 hwf hFf hMf ho6
              obtain ⟨x0, x1, x2, x3, _, _, _, _⟩ := hT7
              obtain ⟨y0, y1, y2, y3, z0, z1, z2, z3⟩ := HF7.out
              go_wp2_with fail
              rw [← Hwf2.out]
              have HR7 := Lib.hid (HR.out.step Hkw.out Hword.out Hq.out.1 HR.out.s t t1 tf [tq] ts [l] (by rw [Hq.out.2.1]; have hb := Hq.out.2.2.1; rw [if_pos hf] at hb; rw [hb]; exact HMf.out) HKf.out (by have := Hbx.out; omega) (by omega) (fun y hy => by rw [Hq.out.2.1] at hy; have := HR.out.l.ln y (by simp [hy]); exact ⟨this.1, this.2.1, by omega⟩) (by rw [Hq.out.2.1]; have := HR.out.l.ll; simp at this; omega) (by have := Hq.out.2.2.2; rw [if_pos hf] at this; omega) (by have hb := Hq.out.2.2.1; rw [if_pos hf] at hb; rw [hb]; have := HR.out.l.l1; simp only at this; omega))
              go_roundw
              case rel => exact ⟨1, least, q1, by omega, by go_num, rfl, HR7.out⟩
              case measure => simp [intOf]; omega
            · have hf0 : ¬ l.1 = 0 := by omega
              rw [if_neg hf0, if_neg hf0]
              rw [if_neg hf0] at ho6
              obtain ⟨ua, un, uc, hsub⟩ : ∃ ua un uc, subT tf 1 = ⟨ua, un, uc⟩ := ⟨_, _, _, rfl⟩
              rw [hsub]
              have Hsub := Lib.hid hsub
              clear hsub
              unfold tvv
              have hkn := Kp.new w6 (.cells #[.string (bs qn), .slice t0.ao t0.n t0.c, .slice t.ao t.n t.c, .slice ua un uc] 26)
              have hk7 := Kp.trans hk6 hkn
              have hT7 := Four.new w6 (.string (bs qn)) (.slice t0.ao t0.n t0.c) (.slice t.ao t.n t.c) (.slice ua un uc) 26
              have HF7 := Lib.hid (HM.out.four.kp hk7)
              have HZ7 := Lib.hid (HZ.out.kp hk7)
              have HK7 := Lib.hid (Kp.trans HKr.out hk7)
              obtain ⟨wf, hwf, hFf, hMf⟩ := HM.out.took1 hk7 (t := t) (kn := q1.b1) (ho6.keep hkn) hBr
              rw [Hsub.out] at hwf
              have Hwf := Lib.hid hwf
              have HMf := Lib.hid hMf
              have HKf := Lib.hid ((Kept.kp (bx := bx) (B := bx + 2) hk7).step hFf (fun x hx => .inl (by simpa using hx)))
              unfold tvv at hwf
              have Hwf2 := Lib.hid hwf
              clear hk6 hk7 hkn y0 y1 y2 y3 z0 z1 z2 z3 u0 u1 u2 u3 v0 v1 v2 v3 hwf hFf hMf ho6
              obtain ⟨x0, x1, x2, x3, _, _, _, _⟩ := hT7
              obtain ⟨y0, y1, y2, y3, z0, z1, z2, z3⟩ := HF7.out
              go_wp2_with fail
              rw [← Hwf2.out]
              have HR7 := Lib.hid (HR.out.step Hkw.out Hword.out Hq.out.1 HR.out.s t0 t tf [tq] ts [l] (by rw [Hq.out.2.1]; have hb := Hq.out.2.2.1; rw [if_neg hf0] at hb; rw [hb]; exact HMf.out) HKf.out (by have := Hbx.out; omega) (by omega) (fun y hy => by rw [Hq.out.2.1] at hy; have := HR.out.l.ln y (by simp [hy]); exact ⟨this.1, this.2.1, by omega⟩) (by rw [Hq.out.2.1]; have := HR.out.l.ll; simp at this; omega) (by have hb := Hq.out.2.2.1; rw [if_neg hf0] at hb; rw [hb]; have := HR.out.l.l0; simp only at this; omega) (by have := Hq.out.2.2.2; rw [if_neg hf0] at this; omega))
              go_roundw
              case rel => exact ⟨1, least, q1, by omega, by go_num, rfl, HR7.out⟩
              case measure => simp [intOf]; omega
        · have hword := word_psk (least := least) (q := q) hfb
          rw [← HXe.out] at hword
          have Hword0 := Lib.hid hword
          have Hb := Lib.hid (show (x.toList == [102, 97, 108, 108, 98, 97, 99, 107]) = false ∨ ((x.toList == [102, 97, 108, 108, 98, 97, 99, 107]) = true ∧ k ≠ 0) by
            rw [Lib.toList_data]
            by_cases q : x.data.toList = [102, 97, 108, 108, 98, 97, 99, 107]
            · exact .inr ⟨by simp [q], fun h => hfb ⟨q, h⟩⟩
            · exact .inl (by simp [q]))
          clear hfb hword
          go_upto_region 12 with fail
          go_cut [48] (fun v wc => v = .bool false ∧ wr = wc)
          case first =>
            rcases Hb.out with hb | ⟨hb, hk0⟩
            · go_wp2_with fail
              all_goals
                go_meet
                case rel => exact ⟨rfl, rfl⟩
            · have hki : ((k : Nat) : Int) ≠ 0 := by omega
              go_wp2_with fail
              all_goals
                go_meet
                case rel => exact ⟨by first | rfl | simp; omega, rfl⟩
          case rest =>
            obtain ⟨rfl, rfl⟩ := hcut
            obtain ⟨sa, sn, sc, hsub⟩ : ∃ sa sn sc, subT tf D.length = ⟨sa, sn, sc⟩ := ⟨_, _, _, rfl⟩
            have hsn : sn = q.ls.length := by
              have h1 := (HM.out.lns (by have := HR.out.l.ll; omega) (fun l hl => by have := (HR.out.l.ln l hl).2.2; omega)).1
              rw [hsub] at h1; exact h1.symm
            rw [hsub] at y3
            unfold tvv at y3
            simp only at y3
            have Hsub := Lib.hid hsub
            have Hsn := Lib.hid hsn
            clear hsub hsn
            have Hrxe := Lib.hid (show numI (wb ss)[k] = numI x.data.toList by rw [HXe.out])
            cases hnr : Q.numR (wb ss)[k] with
            | none =>
              have Hbad := Lib.hid (show Q.modR ⟨nm.data.toList, b0, b1, ls⟩ (wb ss) = (none, 1) by rw [Hmod.out, HR.out.stop Hkw.out (Hword0.out.trans (by rw [hnr]))])
              have hni : numI x.data.toList = -1 := by rw [← Hrxe.out]; exact numI_none hnr
              rw [hni]
              clear hnr hni
              go_wp2_with fail
              exact rm_bad HZ.out HKr.out hwb Hbad.out _ rfl rfl
            | some n =>
              have hni : numI x.data.toList = (n : Int) := by rw [← Hrxe.out]; exact numI_some hnr
              rw [hni]
              have Hnr := Lib.hid hnr
              clear hni hnr
              have hpos : ¬ ((n : Nat) : Int) < 0 := by omega
              by_cases hnl : n < least
              · have Hbad := Lib.hid (show Q.modR ⟨nm.data.toList, b0, b1, ls⟩ (wb ss) = (none, 1) by rw [Hmod.out, HR.out.stop Hkw.out (Hword0.out.trans (by rw [Hnr.out]; simp only; rw [if_pos hnl]))])
                have hle : ((n : Nat) : Int) ≤ (least : Int) - 1 := by omega
                go_wp2_with fail
                exact rm_bad HZ.out HKr.out hwb Hbad.out _ rfl rfl
              · have hle : ¬ ((n : Nat) : Int) ≤ (least : Int) - 1 := by omega
                have Hwd := Lib.hid (show Q.wordR k least q (wb ss)[k] = (Q.preT q n).map (fun q => (n + 1, q)) by rw [Hword0.out, Hnr.out]; simp only; rw [if_neg hnl])
                by_cases hbig : sn < n
                · have Hbad := Lib.hid (show Q.modR ⟨nm.data.toList, b0, b1, ls⟩ (wb ss) = (none, 1) by rw [Hmod.out, HR.out.stop Hkw.out (Hwd.out.trans (by rw [preL_some, if_pos (.inr (by rw [← Hsn.out]; exact hbig))]; rfl))])
                  go_wp2_with fail
                  exact rm_bad HZ.out HKr.out hwb Hbad.out _ rfl rfl
                · by_cases h0 : sn = 0
                  · have Hbad := Lib.hid (show Q.modR ⟨nm.data.toList, b0, b1, ls⟩ (wb ss) = (none, 1) by rw [Hmod.out, HR.out.stop Hkw.out (Hwd.out.trans (by rw [preL_some, if_pos (.inl (List.eq_nil_of_length_eq_zero (by rw [← Hsn.out]; exact h0)))]; rfl))])
                    have hn0 : n = 0 := by omega
                    subst h0
                    subst hn0
                    go_wp2_with fail
                    exact rm_bad HZ.out HKr.out hwb Hbad.out _ rfl rfl
                  · have hsp : 0 < sn := by omega
                    have hnsn : n ≤ sn := by omega
                    have hll := HR.out.l.ll
                    have hsn24 : sn ≤ 24 := by have := Hsn.out; omega
                    have Hword := Lib.hid (show Q.wordR k least q (wb ss)[k] = some (n + 1, { q with ls := preL q.ls n }) by rw [Hwd.out, preL_some, if_neg (by rw [not_or]; exact ⟨fun h => by have := Hsn.out; rw [h] at this; simp at this; omega, by rw [← Hsn.out]; exact hbig⟩)]; rfl)
                    obtain ⟨g, hg, he, hcap, hbg, hgw⟩ := HM.out.at (by rw [← Hsn.out]; exact hsp)
                    rw [Hsub.out] at he
                    simp only [Tv.mk.injEq] at he
                    obtain ⟨rfl, hx, hsc⟩ := he
                    clear hx
                    have Hg := Lib.hid hg
                    rw [← Hsn.out, ← hsc] at hcap
                    clear hg hsc h0 hll
                    obtain ⟨dl, hdl⟩ : ∃ dl, dl = D.length * 2 := ⟨_, rfl⟩
                    rw [← hdl] at y3
                    have Hdl := Lib.hid hdl
                    clear hdl Hsub
                    by_cases hn0 : n = 0
                    · have Hn0 := Lib.hid hn0
                      obtain ⟨j, hjj⟩ : ∃ j, j = 0 := ⟨_, rfl⟩
                      have Hjn := Lib.hid (show 0 = j from hjj.symm)
                      have hjs : j < sn := by omega
                      have hn0i : ((n : Nat) : Int) = 0 := by omega
                      have hl1 : ¬ (1 : Int) ≤ (least : Int) := by omega
                      have hs1 : ¬ ((sn : Nat) : Int) < 0 := by omega
                      have hs2 : (((sn : Nat) : Int) == 0) = false := by simp; omega
                      have hj : j < q.ls.length := by rw [← Hsn.out]; exact hjs
                      have hjt : j < ts.length := by rw [HM.out.hl]; exact hj
                      obtain ⟨_, cj1, fj1⟩ := HM.out.cells Hg.out j hj
                      have hrow := HM.out.row j hj
                      have hneq := HR.out.l.ln _ (List.getElem_mem hj)
                      have Hts := Lib.hid (List.getElem?_eq_getElem hjt)
                      have Hls := Lib.hid (List.getElem?_eq_getElem hj)
                      rw [← Hdl.out] at cj1 fj1
                      generalize ts[j]'hjt = t at *
                      generalize q.ls[j]'hj = l at *
                      obtain ⟨ta, tn, tc⟩ := t
                      unfold tvv at cj1
                      simp only at cj1 hrow
                      have htn : tn ≤ 10000 := by have h1 := hrow.1; have h2 := hneq.2.2; simp at h1; omega
                      have hn3 : l.2.length = tn := by have := hrow.1; simpa using this
                      have Hn3 := Lib.hid hn3
                      clear hn3
                      have hj0 : j * 2 = 0 := by omega
                      rw [hj0, Nat.add_zero] at cj1 fj1
                      clear hj0
                      go_upto_region 20 with fail
                      refine anyP_start (ClP bx g (dl + 1) (.slice (some ⟨g, dl, none⟩) sn sc) (.slice ta tn tc)) 11 (fun _ => True) (fun _ _ => False) (by kernel_rfl) (fun _ _ _ _ h => h.elim) ?_
                      obtain ⟨wq, hwq⟩ : ∃ wq, wq = wr.drew := ⟨_, rfl⟩
                      have hkq : Kp wr wq := hwq ▸ (⟨rfl, rfl, rfl, Nat.le_refl _, fun _ _ => rfl⟩ : Kp wr wr.drew)
                      rw [← hwq]
                      have hq : ClP bx g (dl + 1) (.slice (some ⟨g, dl, none⟩) sn sc) (.slice ta tn tc) wq := ⟨hkq.cell y3, hkq.cell cj1⟩
                      have HMq := Lib.hid (HM.out.kp hkq)
                      have Hrow := Lib.hid (hrow.keep hkq)
                      have Hkq := Lib.hid hkq
                      have hfq : ∀ (X : List Nat) (w1 : World), Fr X wq w1 → g ∉ X → w1.frozen? ⟨g, dl + 1, none⟩ = false := fun X w1 f hX => f.free (hkq.cell cj1) (Kp.frz hkq cj1 fj1) hX
                      have Hfq := Lib.hid hfq
                      have hgq : g < wq.heap.size := Nat.lt_of_lt_of_le hgw hkq.size
                      have hBq : bx + 2 ≤ wq.heap.size := by have := (HMq.out.own.lt g (by rw [Hg.out]; rfl)); omega
                      clear hwq y3 cj1 fj1 hrow hkq hfq y0 y1 y2 z0 z1 z2 z3 u0 u1 u2 u3 v0 v1 v2 v3
                      have hkb := Kp.new wq (.cells #[iv 7] 3)
                      have hqb := hq.kp hkb
                      have hnb : g ∉ blkL ta ∧ bx ∉ blkL ta := by
                        refine ⟨HMq.out.apart Hg.out Hts.out, fun q => ?_⟩
                        have := (Hrow.out.lt bx (mem_blkL.1 q)).1; omega
                      have Hcs := Lib.hid (Cs.new wq [iv 7] 3 (0, 0))
                      have Hrk := Lib.hid (Hrow.out.keep hkb)
                      have hsb : bx + 2 ≤ (wq.alloc (.cells #[iv 7] 3)).heap.size := Nat.le_trans hBq hkb.size
                      refine anyT_take puts_true [0, 3] (by kernel_rfl) hq ?_
                      simp only [opsAt, List.getElem?_toArray, List.getElem?_cons_zero, List.getElem?_cons_succ]
                      repeat (go_big_quiet_step (fail))
                      refine wpQuiet_nil ?_
                      refine anyT_load puts_true 1 93 (.slice (some ⟨g, dl, none⟩) sn sc) rfl rfl (by kernel_rfl) hq (fun w h => exec_load24 (h.p) (by first | rfl | simp [Act.eval]) rfl) ?_
                      simp only [Act.put, List.setIfInBounds_toArray, List.set_cons_zero, List.set_cons_succ]
                      refine anyT_load puts_true 4 96 (.slice (some ⟨g, dl, none⟩) sn sc) rfl rfl (by kernel_rfl) hq (fun w h => exec_load24 (h.p) (by first | rfl | simp [Act.eval]) rfl) ?_
                      simp only [Act.put, List.setIfInBounds_toArray, List.set_cons_zero, List.set_cons_succ]
                      refine anyT_take puts_true [5, 6] (by kernel_rfl) hq ?_
                      simp only [opsAt, List.getElem?_toArray, List.getElem?_cons_zero, List.getElem?_cons_succ]
                      repeat (go_big_quiet_step (fail))
                      refine wpQuiet_nil ?_
                      refine anyT_load puts_true 7 99 (.slice ta tn tc) rfl rfl (by kernel_rfl) hq (fun w h => exec_load22 (h.c) (by first | rfl | simp [Act.eval]) rfl) ?_
                      simp only [Act.put, List.setIfInBounds_toArray, List.set_cons_zero, List.set_cons_succ]
                      refine anyP_one 2 (by kernel_rfl) ?_
                      simp only [opsAt, List.getElem?_toArray, List.getElem?_cons_zero, List.getElem?_cons_succ]
                      go_wp2_with fail
                      refine ⟨fun _ => hqb, ?_⟩
                      have HO7 := Lib.hid (new_one wq)
                      refine anyP_one 8 (by kernel_rfl) ?_
                      simp only [opsAt, List.getElem?_toArray, List.getElem?_cons_zero, List.getElem?_cons_succ]
                      go_wp2_with (at_builtin; go_loud (refine wpList_app rfl (.tmp 94) (.tmp 99) 22 rfl el22 wq.heap.size rfl HO7.out rfl (l.2.map iv) (by have := Hn3.out; simp; omega) (Hrk.out.is.2.2) (by simp [Value.oneCell']) (tn + 1) (by omega) ((7 :: l.2).map iv) (by simp) (by omega) (by simp) ?_); intro ao2 cap2 w6 ha; have HA := Lib.hid ha; clear ha)
                      have hFq6 : Fr (blkL ta) wq w6 := (Fr.of_kp (new_app HA.out)).mono (by simp)
                      have hO6 : Own w6 (bx + 2) 3 1 ao2 (tn + 1) cap2 ((7 :: l.2).map iv) := HA.out.own.mono (fun k hk => by have := (HA.out.own.lt k hk).1; omega)
                      have hb6 : ∀ x ∈ blkL ao2, x ∈ blkL ta ∨ wq.heap.size ≤ x := fun x hx => .inr (HA.out.own.lt x (mem_blkL.1 hx)).1
                      have hq6 := hq.fr hFq6 hnb.2 hnb.1
                      have f6 := Hfq.out _ _ hFq6 hnb.1
                      have HM6 := Lib.hid (HMq.out.tok (w1 := w6) (t' := ⟨ao2, tn + 1, cap2⟩) Hg.out Hts.out Hls.out hFq6 hO6 hb6)
                      have HF6 := Lib.hid hFq6
                      clear hO6 hb6 hFq6
                      refine ⟨fun _ => hq6, ?_⟩
                      refine anyT_take puts_true [9, 10] (by kernel_rfl) hq6 ?_
                      simp only [opsAt, List.getElem?_toArray, List.getElem?_cons_zero, List.getElem?_cons_succ]
                      repeat (go_big_quiet_step (fail))
                      refine wpQuiet_nil ?_
                      obtain ⟨_, c6⟩ := hq6
                      refine anyP_one 11 (by kernel_rfl) ?_
                      simp only [opsAt, List.getElem?_toArray, List.getElem?_cons_zero, List.getElem?_cons_succ]
                      go_wp2_with fail
                      refine ⟨fun h => absurd rfl h, ?_⟩
                      refine anyP_end (by kernel_rfl) ?_
                      have hM7 := HM6.out
                      unfold tvv at hM7
                      have hBg : bx + 2 ≤ g := (HMq.out.own.lt g (by rw [Hg.out]; rfl)).1
                      have hK6 : Kept bx (bx + 2) wr w6 := (Kept.kp Hkq.out).step HF6.out (fun x hx => .inr (Hrow.out.lt x (mem_blkL.1 hx)).1)
                      have e1 : D.length * 2 + j * 2 + 1 = dl + 1 := by rw [Hdl.out]; have := Hjn.out; omega
                      have e2 : q.ls.set j (l.1, 7 :: l.2) = preL q.ls n := by
                        obtain ⟨q1, q2⟩ := List.getElem?_eq_some_iff.1 Hls.out
                        unfold preL
                        have hj0 : 0 = j := Hjn.out
                        subst hj0
                        rw [if_pos Hn0.out, modify_set q.ls _ 0 q1, q2]
                      rw [e1, e2] at hM7
                      have hK7 := hK6.step (Fr.set w6 ⟨g, dl + 1, none⟩ (.slice ao2 (tn + 1) cap2)) (fun x hx => by simp at hx; omega)
                      have HR7 := Lib.hid (HR.out.step Hkw.out Hword.out rfl (by omega) t0 t1 tf td _ D hM7 hK7 (by have := Hbx.out; omega) (by omega) (preL_mem HR.out.l.ln) (by simp only; rw [preL_length]; exact HR.out.l.ll) (by have := HR.out.l.l0; simp only; omega) (by have := HR.out.l.l1; simp only; omega))
                      clear hM7 hK6 hK7 HM6 e1 e2
                      go_wp2_with fail
                      go_roundw
                      case rel => exact ⟨k + 1, n + 1, _, by omega, by go_num, by congr 1; omega, HR7.out⟩
                      case measure => simp [intOf]; omega
                    · have Hn0 := Lib.hid hn0
                      obtain ⟨j, hjj⟩ : ∃ j, n = j + 1 := ⟨n - 1, by omega⟩
                      have Hjn := Lib.hid hjj
                      have hjs : j < sn := by omega
                      have hji : ((n : Nat) : Int) - 1 = (j : Int) := by omega
                      have hn0i : ((n : Nat) : Int) ≠ 0 := by omega
                      clear hjj
                      have hj : j < q.ls.length := by rw [← Hsn.out]; exact hjs
                      have hjt : j < ts.length := by rw [HM.out.hl]; exact hj
                      obtain ⟨_, cj1, fj1⟩ := HM.out.cells Hg.out j hj
                      have hrow := HM.out.row j hj
                      have hneq := HR.out.l.ln _ (List.getElem_mem hj)
                      have Hts := Lib.hid (List.getElem?_eq_getElem hjt)
                      have Hls := Lib.hid (List.getElem?_eq_getElem hj)
                      rw [← Hdl.out] at cj1 fj1
                      generalize ts[j]'hjt = t at *
                      generalize q.ls[j]'hj = l at *
                      obtain ⟨ta, tn, tc⟩ := t
                      unfold tvv at cj1
                      simp only at cj1 hrow
                      have htn : tn ≤ 10000 := by have h1 := hrow.1; have h2 := hneq.2.2; simp at h1; omega
                      have hn3 : l.2.length = tn := by have := hrow.1; simpa using this
                      have Hn3 := Lib.hid hn3
                      clear hn3
                      skip
                      go_upto_region 10 with fail
                      refine anyP_start (ClP bx g (dl + j * 2 + 1) (.slice (some ⟨g, dl, none⟩) sn sc) (.slice ta tn tc)) 15 (fun _ => True) (fun _ _ => False) (by kernel_rfl) (fun _ _ _ _ h => h.elim) ?_
                      obtain ⟨wq, hwq⟩ : ∃ wq, wq = wr.drew := ⟨_, rfl⟩
                      have hkq : Kp wr wq := hwq ▸ (⟨rfl, rfl, rfl, Nat.le_refl _, fun _ _ => rfl⟩ : Kp wr wr.drew)
                      rw [← hwq]
                      have hq : ClP bx g (dl + j * 2 + 1) (.slice (some ⟨g, dl, none⟩) sn sc) (.slice ta tn tc) wq := ⟨hkq.cell y3, hkq.cell cj1⟩
                      have HMq := Lib.hid (HM.out.kp hkq)
                      have Hrow := Lib.hid (hrow.keep hkq)
                      have Hkq := Lib.hid hkq
                      have hfq : ∀ (X : List Nat) (w1 : World), Fr X wq w1 → g ∉ X → w1.frozen? ⟨g, dl + j * 2 + 1, none⟩ = false := fun X w1 f hX => f.free (hkq.cell cj1) (Kp.frz hkq cj1 fj1) hX
                      have Hfq := Lib.hid hfq
                      have hgq : g < wq.heap.size := Nat.lt_of_lt_of_le hgw hkq.size
                      have hBq : bx + 2 ≤ wq.heap.size := by have := (HMq.out.own.lt g (by rw [Hg.out]; rfl)); omega
                      clear hwq y3 cj1 fj1 hrow hkq hfq y0 y1 y2 z0 z1 z2 z3 u0 u1 u2 u3 v0 v1 v2 v3
                      have hkb := Kp.new wq (.cells #[iv 7] 3)
                      have hqb := hq.kp hkb
                      have hnb : g ∉ blkL ta ∧ bx ∉ blkL ta := by
                        refine ⟨HMq.out.apart Hg.out Hts.out, fun q => ?_⟩
                        have := (Hrow.out.lt bx (mem_blkL.1 q)).1; omega
                      have Hcs := Lib.hid (Cs.new wq [iv 7] 3 (0, 0))
                      have Hrk := Lib.hid (Hrow.out.keep hkb)
                      have hsb : bx + 2 ≤ (wq.alloc (.cells #[iv 7] 3)).heap.size := Nat.le_trans hBq hkb.size
                      refine anyT_take puts_true [0, 2, 3, 4, 6, 7] (by kernel_rfl) hq ?_
                      simp only [opsAt, List.getElem?_toArray, List.getElem?_cons_zero, List.getElem?_cons_succ]
                      repeat (go_big_quiet_step (fail))
                      refine wpQuiet_nil ?_
                      refine anyT_load puts_true 1 33 (.slice (some ⟨g, dl, none⟩) sn sc) rfl rfl (by kernel_rfl) hq (fun w h => exec_load24 (h.p) (by first | rfl | simp [Act.eval]) rfl) ?_
                      simp only [Act.put, List.setIfInBounds_toArray, List.set_cons_zero, List.set_cons_succ]
                      refine anyT_load puts_true 5 37 (.slice (some ⟨g, dl, none⟩) sn sc) rfl rfl (by kernel_rfl) hq (fun w h => exec_load24 (h.p) (by first | rfl | simp [Act.eval]) rfl) ?_
                      simp only [Act.put, List.setIfInBounds_toArray, List.set_cons_zero, List.set_cons_succ]
                      refine anyT_take puts_true [8, 9] (by kernel_rfl) hq ?_
                      simp only [opsAt, List.getElem?_toArray, List.getElem?_cons_zero, List.getElem?_cons_succ]
                      repeat (go_big_quiet_step (fail))
                      refine wpQuiet_nil ?_
                      refine anyT_load puts_true 10 42 (.slice ta tn tc) rfl rfl (by kernel_rfl) hq (fun w h => exec_load22 (h.c) (by first | rfl | simp [Act.eval]) rfl) ?_
                      simp only [Act.put, List.setIfInBounds_toArray, List.set_cons_zero, List.set_cons_succ]
                      refine anyP_one 11 (by kernel_rfl) ?_
                      simp only [opsAt, List.getElem?_toArray, List.getElem?_cons_zero, List.getElem?_cons_succ]
                      go_wp2_with fail
                      refine ⟨fun _ => hqb, ?_⟩
                      refine anyP_one 12 (by kernel_rfl) ?_
                      simp only [opsAt, List.getElem?_toArray, List.getElem?_cons_zero, List.getElem?_cons_succ]
                      go_wp2_with (at_builtin; go_loud (refine wpList_app rfl (.tmp 42) (.tmp 43) 22 rfl el22 (bx + 2) rfl Hrk.out rfl [iv 7] rfl Hcs.out (by simp [Value.oneCell']) (tn + 1) rfl ((l.2 ++ [7]).map iv) (by simp) (by omega) hsb ?_); intro ao2 cap2 w6 ha; have HA := Lib.hid ha; clear ha)
                      have hFq6 : Fr (blkL ta) wq w6 := ((Fr.of_kp hkb).mono (by simp)).trans HA.out.fr
                      have hO6 : Own w6 (bx + 2) 3 1 ao2 (tn + 1) cap2 ((l.2 ++ [7]).map iv) := HA.out.own
                      have hb6 : ∀ x ∈ blkL ao2, x ∈ blkL ta ∨ wq.heap.size ≤ x := fun x hx => by
                        rcases HA.out.fresh x (mem_blkL.1 hx) with q | q
                        · exact .inl (mem_blkL.2 q)
                        · exact .inr (by rw [q]; exact hkb.size)
                      have hq6 := hq.fr hFq6 hnb.2 hnb.1
                      have f6 := Hfq.out _ _ hFq6 hnb.1
                      have HM6 := Lib.hid (HMq.out.tok (w1 := w6) (t' := ⟨ao2, tn + 1, cap2⟩) Hg.out Hts.out Hls.out hFq6 hO6 hb6)
                      have HF6 := Lib.hid hFq6
                      clear hO6 hb6 hFq6
                      refine ⟨fun _ => hq6, ?_⟩
                      refine anyT_take puts_true [13, 14] (by kernel_rfl) hq6 ?_
                      simp only [opsAt, List.getElem?_toArray, List.getElem?_cons_zero, List.getElem?_cons_succ]
                      repeat (go_big_quiet_step (fail))
                      refine wpQuiet_nil ?_
                      obtain ⟨_, c6⟩ := hq6
                      refine anyP_one 15 (by kernel_rfl) ?_
                      simp only [opsAt, List.getElem?_toArray, List.getElem?_cons_zero, List.getElem?_cons_succ]
                      go_wp2_with fail
                      refine ⟨fun h => absurd rfl h, ?_⟩
                      refine anyP_end (by kernel_rfl) ?_
                      have hM7 := HM6.out
                      unfold tvv at hM7
                      have hBg : bx + 2 ≤ g := (HMq.out.own.lt g (by rw [Hg.out]; rfl)).1
                      have hK6 : Kept bx (bx + 2) wr w6 := (Kept.kp Hkq.out).step HF6.out (fun x hx => .inr (Hrow.out.lt x (mem_blkL.1 hx)).1)
                      have e1 : D.length * 2 + j * 2 + 1 = dl + j * 2 + 1 := by rw [Hdl.out]
                      have e2 : q.ls.set j (l.1, l.2 ++ [7]) = preL q.ls n := by
                        obtain ⟨q1, q2⟩ := List.getElem?_eq_some_iff.1 Hls.out
                        unfold preL
                        rw [if_neg Hn0.out, show n - 1 = j by have := Hjn.out; omega, modify_set q.ls _ j q1, q2]
                      rw [e1, e2] at hM7
                      have hK7 := hK6.step (Fr.set w6 ⟨g, dl + j * 2 + 1, none⟩ (.slice ao2 (tn + 1) cap2)) (fun x hx => by simp at hx; omega)
                      have HR7 := Lib.hid (HR.out.step Hkw.out Hword.out rfl (by omega) t0 t1 tf td _ D hM7 hK7 (by have := Hbx.out; omega) (by omega) (preL_mem HR.out.l.ln) (by simp only; rw [preL_length]; exact HR.out.l.ll) (by have := HR.out.l.l0; simp only; omega) (by have := HR.out.l.l1; simp only; omega))
                      clear hM7 hK6 hK7 HM6 e1 e2
                      go_wp2_with fail
                      go_roundw
                      case rel => exact ⟨k + 1, n + 1, _, by omega, by go_num, by congr 1; omega, HR7.out⟩
                      case measure => simp [intOf]; omega
      · skip
        have hkn : k = nw := by omega
        have hgo : Q.goR 0 0 ⟨nm.data.toList, b0, b1, ls⟩ (wb ss) = some q := by
          rw [HR.out.g, List.drop_eq_nil_of_le (by have := HW.out.1; simp [wb]; omega)]; rfl
        have hmod2 := Hmod.out
        rw [hgo] at hmod2
        have Hmod2 := Lib.hid hmod2
        have Hkn := Lib.hid hkn
        have hll := HR.out.l.ll
        have hpat := HM.out.pat (by omega) (fun l hl => by have := (HR.out.l.ln l hl).2.2; omega)
        have hck := refCheck_any wr (bs q.nm) t0.ao t1.ao (subT tf D.length).ao t0.n t0.c t1.n t1.c (subT tf D.length).n (subT tf D.length).c q.b0 q.b1 q.ls hpat.i0 hpat.i1 hpat.il
        rw [checkR_eq] at hck
        obtain ⟨c', hc'⟩ : ∃ c', c' = checkL q.b0 q.b1 q.ls := ⟨_, rfl⟩
        rw [← hc'] at hck
        have Hck := Lib.hid hck
        have hqc : q.code = c' := hc'.symm
        obtain ⟨y0, y1, y2, y3, z0, z1, z2, z3⟩ := HM.out.four
        unfold tvv at y1 y2 y3
        clear hgo hmod2 hkn hpat hck hc' hll
        go_wp2_with fail
        (with_reducible refine Hck.out.mono ?_)
        rintro e w5 ⟨rfl, hk5⟩
        have HM5 := Lib.hid (HM.out.kp hk5)
        have HZ5 := Lib.hid (HZ.out.kp hk5)
        have HK5 := Lib.hid (Kp.trans HKr.out hk5)
        clear y0 y1 y2 y3 z0 z1 z2 z3 hk5
        by_cases hc0 : c' = 0
        · have Hfin := Lib.hid (show Q.modR ⟨nm.data.toList, b0, b1, ls⟩ (wb ss) = (some { q with nm := q.nm ++ Q.plusAll 0 (wb ss) }, 0) by rw [Hmod2.out]; rw [if_pos (by rw [hqc]; exact hc0)])
          subst hc0
          have hnl : (bs q.nm).size ≤ 8000 := by rw [bs_size, HR.out.n]; have := Hs.out.nm; rw [← Lib.size_eq]; exact this
          have Hnl := Lib.hid hnl
          have HM0 := Lib.hid (show MdS w5 (bx + 2) bx (bs (q.nm ++ Q.plusAll 0 ((wb ss).take 0))) t0 t1 tf td ts D q.ls q.b0 q.b1 by rw [List.take_zero, show Q.plusAll 0 [] = [] from rfl, List.append_nil]; exact HM5.out)
          clear hqc hnl
          go_wp2_with fail
          go_loopw [12] (fun i wv => ∃ j : Nat, j ≤ nw ∧ i = .int .i64 (j : Nat) ∧ MdS wv (bx + 2) bx (bs (q.nm ++ Q.plusAll 0 ((wb ss).take j))) t0 t1 tf td ts D q.ls q.b0 q.b1 ∧ Kp w wv ∧ Four wv (bx + 1) (.string ⟨#[]⟩) (.slice none 0 0) (.slice none 0 0) (.slice none 0 0) ∧ (bs (q.nm ++ Q.plusAll 0 ((wb ss).take j))).size ≤ 8000 + j * 281474976710657) (fun i _ => nw - (intOf i).toNat)
          case atStart => exact ⟨0, by omega, rfl, HM0.out, HK5.out, HZ5.out, by rw [List.take_zero, show Q.plusAll 0 [] = [] from rfl, List.append_nil]; have := Hnl.out; omega⟩
          case round =>
            obtain ⟨j, hj, rfl, hMv, hKv, hZv, hsz⟩ := hrel
            rename World => wv
            have HMv := Lib.hid hMv
            have HKv := Lib.hid hKv
            have HZv := Lib.hid hZv
            clear hMv hKv hZv
            by_cases hlt : j < nw
            · have hjl : j < ss.length := by rw [HW.out.1]; exact hlt
              have hjw : j < (wb ss).length := by simpa [wb] using hjl
              have hst := plusAll_step (wb ss) 0 j hjw
              have hxe : (wb ss)[j] = ss[j].data.toList := wb_get hjl hjw
              rw [hxe, Nat.zero_add] at hst
              have hxz := Hz.out ss[j] (List.getElem_mem hjl)
              obtain ⟨wbk, woff, eao, hcw⟩ := HW.out.at j hlt
              subst eao
              have hcw0 := hcw j hlt
              have hwbk : wbk < w.heap.size := by have := World.block_lt_of_cell? _ _ hcw0; simpa using this
              have hcx := HKv.out.cell hcw0
              generalize ss[j] = x at *
              have hpl0 := bs_plus (q.nm ++ Q.plusAll 0 ((wb ss).take j)) x
              have hpl1 := fun h : 0 < j => bs_plus1 (q.nm ++ Q.plusAll 0 ((wb ss).take j)) x h
              have hst2 : bs (q.nm ++ Q.plusAll 0 ((wb ss).take (j + 1))) = bs ((q.nm ++ Q.plusAll 0 ((wb ss).take j)) ++ Q.plusW j x.data.toList) := by rw [hst, List.append_assoc]
              obtain ⟨S0, hS0⟩ : ∃ S0, S0 = bs (q.nm ++ Q.plusAll 0 ((wb ss).take j)) := ⟨_, rfl⟩
              rw [← hS0] at HMv hsz hpl0 hpl1
              have Hpl0 := Lib.hid hpl0
              have Hpl1 := Lib.hid hpl1
              have Hst2 := Lib.hid hst2
              clear hst hst2 hpl0 hpl1 hS0 hcw hcw0 hxe
              obtain ⟨y0, y1, y2, y3, z0, z1, z2, z3⟩ := HMv.out.four
              by_cases hj0 : j = 0
              · subst hj0
                have hnew : bs (q.nm ++ Q.plusAll 0 ((wb ss).take (0 + 1))) = S0 ++ x := Hst2.out.trans Hpl0.out
                have Hnew := Lib.hid hnew
                clear hnew
                rw [show ((0 : Nat) : Int) = 0 from rfl]
                go_upto_region 30 with fail
                obtain ⟨w6, hw6⟩ : ∃ w6, w6 = wv := ⟨_, rfl⟩
                obtain ⟨S1, hS1⟩ : ∃ S1, S1 = S0 := ⟨_, rfl⟩
                have Hnew2 := Lib.hid (show bs (q.nm ++ Q.plusAll 0 ((wb ss).take (0 + 1))) = S1 ++ x by rw [hS1]; exact Hnew.out)
                have hS1z : S1.size ≤ 8000 + 0 * 281474976710657 + 1 := by rw [hS1]; omega
                have HM6 := Lib.hid (show MdS w6 (bx + 2) bx S1 t0 t1 tf td ts D q.ls q.b0 q.b1 by rw [hw6, hS1]; exact HMv.out)
                have HK6 := Lib.hid (show Kp w w6 by rw [hw6]; exact HKv.out)
                have HZ6 := Lib.hid (show Four w6 (bx + 1) (.string ⟨#[]⟩) (.slice none 0 0) (.slice none 0 0) (.slice none 0 0) by rw [hw6]; exact HZv.out)
                have hcx6 : w6.cell? ⟨wbk, woff + 0, none⟩ = some (.string x) := by rw [hw6]; exact hcx
                rw [← hw6]
                clear hw6 hS1 y0 y1 y2 y3 z0 z1 z2 z3 hcx
                refine anyP_start (ClN bx wbk (woff + 0) S1 x) 8 (fun _ => True) (fun _ _ => False) (by kernel_rfl) (fun _ _ _ _ h => h.elim) ?_
                obtain ⟨wq, hwq⟩ : ∃ wq, wq = w6.drew := ⟨_, rfl⟩
                have hkq : Kp w6 wq := hwq ▸ (⟨rfl, rfl, rfl, Nat.le_refl _, fun _ _ => rfl⟩ : Kp w6 w6.drew)
                rw [← hwq]
                have hq : ClN bx wbk (woff + 0) S1 x wq := ⟨hkq.cell HM6.out.four.c0, hkq.cell hcx6⟩
                have HM6q := Lib.hid (HM6.out.kp hkq)
                have HK6q := Lib.hid (Kp.trans HK6.out hkq)
                have HZ6q := Lib.hid (HZ6.out.kp hkq)
                have hadd : (S1 ++ x).size ≤ 8000 + (0 + 1) * 281474976710657 := by rw [ByteArray.size_append]; omega
                clear hwq hkq hcx6
                refine anyT_take puts_true [0, 2, 3, 4] (by kernel_rfl) hq ?_
                simp only [opsAt, List.getElem?_toArray, List.getElem?_cons_zero, List.getElem?_cons_succ]
                repeat (go_big_quiet_step (fail))
                refine wpQuiet_nil ?_
                refine anyT_load puts_true 1 123 (.string S1) rfl rfl (by kernel_rfl) hq (fun w h => exec_load9 (h.p) (by first | rfl | simp [Act.eval]) rfl) ?_
                simp only [Act.put, List.setIfInBounds_toArray, List.set_cons_zero, List.set_cons_succ]
                refine anyT_load puts_true 5 127 (.string x) rfl rfl (by kernel_rfl) hq (fun w h => exec_load9 (h.c) (by first | rfl | simp [Act.eval]) rfl) ?_
                simp only [Act.put, List.setIfInBounds_toArray, List.set_cons_zero, List.set_cons_succ]
                refine anyT_take puts_true [6, 7] (by kernel_rfl) hq ?_
                simp only [opsAt, List.getElem?_toArray, List.getElem?_cons_zero, List.getElem?_cons_succ]
                repeat (go_big_quiet_step (fail))
                refine wpQuiet_nil ?_
                obtain ⟨s0, c6⟩ := hq
                have hf6 := HM6q.out.four.f0
                refine anyP_one 8 (by kernel_rfl) ?_
                simp only [opsAt, List.getElem?_toArray, List.getElem?_cons_zero, List.getElem?_cons_succ]
                go_wp2_with fail
                refine ⟨fun h => absurd rfl h, ?_⟩
                refine anyP_end (by kernel_rfl) ?_
                have hset2 := Fr.set wq ⟨bx, 0, none⟩ (.string (S1 ++ x))
                have HM7 := Lib.hid (HM6q.out.name (S1 ++ x))
                have HK7 := Lib.hid (kp_step' HK6q.out hset2 (by intro j hj; simp at hj; have := Hbx.out; omega))
                have HZ7 := Lib.hid (HZ6q.out.fr hset2 (by simp))
                clear hset2
                go_wp2_with fail
                go_roundw
                case rel => exact ⟨0 + 1, by omega, by go_num, by rw [Hnew2.out]; exact HM7.out, HK7.out, HZ7.out, by rw [Hnew2.out]; exact hadd⟩
                case measure => simp [intOf]; omega
              · have hnew : bs (q.nm ++ Q.plusAll 0 ((wb ss).take (j + 1))) = S0 ++ (⟨#[43]⟩ : ByteArray) ++ x := Hst2.out.trans (Hpl1.out (by omega))
                have Hnew := Lib.hid hnew
                have hj1 : 0 < j := by omega
                have h43 : (⟨#[43]⟩ : ByteArray).size = 1 := rfl
                have hs43 : (S0 ++ (⟨#[43]⟩ : ByteArray)).size ≤ 8000 + j * 281474976710657 + 1 := by rw [ByteArray.size_append]; omega
                have hset := Fr.set wv ⟨bx, 0, none⟩ (.string (S0 ++ (⟨#[43]⟩ : ByteArray)))
                have HM6 := Lib.hid (HMv.out.name (S0 ++ (⟨#[43]⟩ : ByteArray)))
                have HK6 := Lib.hid (kp_step' HKv.out hset (by intro j hj; simp at hj; have := Hbx.out; omega))
                have HZ6 := Lib.hid (HZv.out.fr hset (by simp))
                have hcx6 := hset.cell hcx (by simp; have := Hbx.out; omega)
                clear hnew hset
                go_upto_region 30 with fail
                clear y0 y1 y2 y3 z0 z1 z2 z3 hcx
                generalize wv.setCell ⟨bx, 0, none⟩ (.string (S0 ++ (⟨#[43]⟩ : ByteArray))) = w6 at *
                generalize S0 ++ (⟨#[43]⟩ : ByteArray) = S1 at *
                have Hnew2 := Lib.hid Hnew.out
                have hS1z := hs43
                refine anyP_start (ClN bx wbk (woff + j) S1 x) 8 (fun _ => True) (fun _ _ => False) (by kernel_rfl) (fun _ _ _ _ h => h.elim) ?_
                obtain ⟨wq, hwq⟩ : ∃ wq, wq = w6.drew := ⟨_, rfl⟩
                have hkq : Kp w6 wq := hwq ▸ (⟨rfl, rfl, rfl, Nat.le_refl _, fun _ _ => rfl⟩ : Kp w6 w6.drew)
                rw [← hwq]
                have hq : ClN bx wbk (woff + j) S1 x wq := ⟨hkq.cell HM6.out.four.c0, hkq.cell hcx6⟩
                have HM6q := Lib.hid (HM6.out.kp hkq)
                have HK6q := Lib.hid (Kp.trans HK6.out hkq)
                have HZ6q := Lib.hid (HZ6.out.kp hkq)
                have hadd : (S1 ++ x).size ≤ 8000 + (j + 1) * 281474976710657 := by rw [ByteArray.size_append]; omega
                clear hwq hkq hcx6
                refine anyT_take puts_true [0, 2, 3, 4] (by kernel_rfl) hq ?_
                simp only [opsAt, List.getElem?_toArray, List.getElem?_cons_zero, List.getElem?_cons_succ]
                repeat (go_big_quiet_step (fail))
                refine wpQuiet_nil ?_
                refine anyT_load puts_true 1 123 (.string S1) rfl rfl (by kernel_rfl) hq (fun w h => exec_load9 (h.p) (by first | rfl | simp [Act.eval]) rfl) ?_
                simp only [Act.put, List.setIfInBounds_toArray, List.set_cons_zero, List.set_cons_succ]
                refine anyT_load puts_true 5 127 (.string x) rfl rfl (by kernel_rfl) hq (fun w h => exec_load9 (h.c) (by first | rfl | simp [Act.eval]) rfl) ?_
                simp only [Act.put, List.setIfInBounds_toArray, List.set_cons_zero, List.set_cons_succ]
                refine anyT_take puts_true [6, 7] (by kernel_rfl) hq ?_
                simp only [opsAt, List.getElem?_toArray, List.getElem?_cons_zero, List.getElem?_cons_succ]
                repeat (go_big_quiet_step (fail))
                refine wpQuiet_nil ?_
                obtain ⟨s0, c6⟩ := hq
                have hf6 := HM6q.out.four.f0
                refine anyP_one 8 (by kernel_rfl) ?_
                simp only [opsAt, List.getElem?_toArray, List.getElem?_cons_zero, List.getElem?_cons_succ]
                go_wp2_with fail
                refine ⟨fun h => absurd rfl h, ?_⟩
                refine anyP_end (by kernel_rfl) ?_
                have hset2 := Fr.set wq ⟨bx, 0, none⟩ (.string (S1 ++ x))
                have HM7 := Lib.hid (HM6q.out.name (S1 ++ x))
                have HK7 := Lib.hid (kp_step' HK6q.out hset2 (by intro j hj; simp at hj; have := Hbx.out; omega))
                have HZ7 := Lib.hid (HZ6q.out.fr hset2 (by simp))
                clear hset2
                go_wp2_with fail
                go_roundw
                case rel => exact ⟨j + 1, by omega, by go_num, by rw [Hnew2.out]; exact HM7.out, HK7.out, HZ7.out, by rw [Hnew2.out]; exact hadd⟩
                case measure => simp [intOf]; omega
            · have hjn : j = nw := by omega
              subst hjn
              rw [List.take_of_length_le (by have := HW.out.1; simp [wb]; omega)] at HMv
              obtain ⟨wf, hwf, hFf, h4⟩ := HZv.out.set (.string (bs (q.nm ++ Q.plusAll 0 (wb ss)))) (tvv t0) (tvv t1) (tvv (subT tf D.length))
              have HKf := Lib.hid (kp_step' HKv.out hFf (by intro j hj; simp at hj; have := Hbx.out; omega))
              have HSf := Lib.hid ((HMv.out.sep.fr hFf (by intro x hx; simp at hx; omega)).base (B' := w.heap.size) (by have := Hbx.out; omega))
              unfold tvv at hwf
              have Hwf := Lib.hid hwf
              obtain ⟨q0, q1, q2, q3, _, _, _, _⟩ := h4
              unfold tvv at q1 q2 q3
              obtain ⟨y0, y1, y2, y3, z0, z1, z2, z3⟩ := HMv.out.four
              unfold tvv at y1 y2 y3
              obtain ⟨u0, u1, u2, u3, v0, v1, v2, v3⟩ := HZv.out
              clear hwf hFf
              go_wp2_with fail
              rw [← Hwf.out]
              refine bodyPost_ret (v := .tuple #[.agg #[.string (bs (q.nm ++ Q.plusAll 0 (wb ss))), tvv t0, tvv t1, tvv (subT tf D.length)], iv 0]) (by simp [results, Tryz.results38, go_sem, q0, q1, q2, q3, tvv]) rfl ?_
              exact RModPost.fine Hfin.out HKf.out HMv.out.hd HMv.out.h1 HMv.out.hl HSf.out
        · have Hbad := Lib.hid (show Q.modR ⟨nm.data.toList, b0, b1, ls⟩ (wb ss) = (none, c') by rw [Hmod2.out]; rw [if_neg (by rw [hqc]; exact hc0), hqc])
          have hci : ((c' : Nat) : Int) ≠ 0 := by omega
          obtain ⟨u0, u1, u2, u3, v0, v1, v2, v3⟩ := HZ5.out
          clear hqc
          go_wp2_with fail
          exact rm_bad HZ5.out HK5.out hwb Hbad.out _ rfl rfl
  · have Hcc := Lib.hid hcc
    have Hmod := Lib.hid (show Q.modR ⟨nm.data.toList, b0, b1, ls⟩ (wb ss) = (none, c) by
      unfold Q.modR
      rw [if_pos (show (⟨nm.data.toList, b0, b1, ls⟩ : Q.Pn).code ≠ 0 from by rw [show (⟨nm.data.toList, b0, b1, ls⟩ : Q.Pn).code = c from hcc.symm]; exact hc), show (⟨nm.data.toList, b0, b1, ls⟩ : Q.Pn).code = c from hcc.symm])
    have hci : ((c : Nat) : Int) ≠ 0 := by omega
    obtain ⟨y0, y1, y2, y3, z0, z1, z2, z3⟩ := HG2.out
    clear hcc
    go_wp2_with fail
    exact rm_bad HG2.out HK2.out hwb Hmod.out _ rfl rfl
end Go.Proofs.YtkmejehhdjdlbaaGreatDoor
