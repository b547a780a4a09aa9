/- Parts of the walks and plain laws, merged: RefMod, Mdf, RowsOf, RowLaw, AllA, All, Find, Fnd. Each theorem bears its own conditions; no other. -/
import Derived.Test.YtbdphdgomcabmaaGreatDoorNa6
import Derived.Test.YtbdphdgomcabmaaGreatDoorRefCheck
import Derived.Deep.CutBlock
import Derived.Test.YtbdphdgomcabmaaGreatDoorNa1
import Derived.Test.YtbdphdgomcabmaaGreatDoorNa5
namespace Go.Proofs.YtbdphdgomcabmaaGreatDoor
open Go.RowKit

/-- What is answered: an error's number, or a pattern in rows of the call's own. -/
def RModPost (w : World) (p : Q.Pn) (ws : List Q.Bt) (e : Ending) (w' : World) : Prop := Kp w w' ∧ match Q.modR p ws with
  | (some q, _) => ∃ t0 t1 tf td ts D, e = .returned (.tuple #[.agg #[.string (bs q.nm), tvv t0, tvv t1, tvv (subT tf D.length)], iv 0]) ∧ td.length = D.length ∧ D.length ≤ 1 ∧ ts.length = q.ls.length ∧ Sep w' w.heap.size (rowsP t0 t1 tf (td ++ ts) q.b0 q.b1 (D ++ q.ls))
  | (none, c) => e = .returned (.tuple #[zeroP, iv ((c : Nat) : Int)])
theorem RModPost.bad {w w' : World} {p : Q.Pn} {ws : List Q.Bt} {c : Nat} (h : Q.modR p ws = (none, c)) (hk : Kp w w') : RModPost w p ws (.returned (.tuple #[zeroP, iv ((c : Nat) : Int)])) w' := ⟨hk, by rw [h]⟩
theorem RModPost.fine {w w' : World} {p q : Q.Pn} {ws : List Q.Bt} {t0 t1 tf : Tv} {td ts : List Tv} {D : List Ln} {c : Nat} (h : Q.modR p ws = (some q, c)) (hk : Kp w w')
    (hd : td.length = D.length) (h1 : D.length ≤ 1) (hl : ts.length = q.ls.length) (hs : Sep w' w.heap.size (rowsP t0 t1 tf (td ++ ts) q.b0 q.b1 (D ++ q.ls))) :
    RModPost w p ws (.returned (.tuple #[.agg #[.string (bs q.nm), tvv t0, tvv t1, tvv (subT tf D.length)], iv 0])) w' := ⟨hk, by rw [h]; exact ⟨t0, t1, tf, td, ts, D, rfl, hd, h1, hl, hs⟩⟩
/-- Each way out with an error. -/
theorem rm_bad {w wr : World} {p : Q.Pn} {ws : List Q.Bt} {b c : Nat} {x y z u : Value} (hB : Four wr b x y z u) (hk : Kp w wr) (hb : w.heap.size ≤ b) (hc : Q.modR p ws = (none, c)) (tmps : Array Value) (h2 : tmps[4]? = some (.pointer (some ⟨b, 0, none⟩))) (h3 : tmps[5]? = some (.int .i64 ((c : Nat) : Int))) :
    bodyPost Tryz.prog Tryz.f29 (RModPost w p ws) .ret { tmps := tmps, defers := [] } ((((wr.setCell ⟨b, 0, none⟩ (.string ⟨#[]⟩)).setCell ⟨b, 1, none⟩ (.slice none 0 0)).setCell ⟨b, 2, none⟩ (.slice none 0 0)).setCell ⟨b, 3, none⟩ (.slice none 0 0)) := by
  obtain ⟨wf, hwf, hF, hPf⟩ := hB.set (.string ⟨#[]⟩) (.slice none 0 0) (.slice none 0 0) (.slice none 0 0)
  rw [← hwf]
  obtain ⟨c0, c1, c2, c3, _, _, _, _⟩ := hPf
  refine bodyPost_ret (v := .tuple #[zeroP, iv ((c : Nat) : Int)]) (by simp [results, Tryz.results29, go_sem, h2, h3, c0, c1, c2, c3]) rfl ?_
  exact RModPost.bad hc ((Fr.of_kp hk).step hF (fun j hj => .inr (by simp at hj; omega))).kp
theorem goR_step {k least : Nat} {q : Q.Pn} {ws : List Q.Bt} (h : k < ws.length) : Q.goR k least q (ws.drop k) = match Q.wordR k least q ws[k] with
    | none => none
    | some (m, q') => Q.goR (k + 1) m q' (ws.drop (k + 1)) := by
  rw [List.drop_eq_getElem_cons h]
  rfl
/-- What a round looks at. -/
structure RMod (w0 wr : World) (B bx : Nat) (p : Q.Pn) (ws : List Q.Bt) (k least : Nat) (q : Q.Pn) : Prop where
  l : MdL w0 wr B bx k q
  g : Q.goR 0 0 p ws = Q.goR k least q (ws.drop k)
  n : q.nm = p.nm
  s : least ≤ 30000
theorem RMod.step {w0 wr w1 : World} {B bx : Nat} {p : Q.Pn} {ws : List Q.Bt} {k least least' : Nat} {q q1 : Q.Pn} (h : RMod w0 wr B bx p ws k least q) (hk : k < ws.length) (hw : Q.wordR k least q ws[k] = some (least', q1)) (hq : q1.nm = q.nm) (hs : least' ≤ 30000)
    (t0 t1 tf : Tv) (td ts : List Tv) (D : List Ln) (hm : MdS w1 B bx (bs q.nm) t0 t1 tf td ts D q1.ls q1.b0 q1.b1) (hK : Kept bx B wr w1) (hb : w0.heap.size ≤ bx) (hB : bx + 1 < B)
    (ln : ∀ l ∈ q1.ls, (l.1 = 0 ∨ l.1 = 1) ∧ l.2 ≠ [] ∧ l.2.length ≤ 24 + (k + 1)) (ll : q1.ls.length ≤ 24) (l0 : q1.b0.length ≤ 2 + 2 * (k + 1)) (l1 : q1.b1.length ≤ 2 + 2 * (k + 1)) : RMod w0 w1 B bx p ws (k + 1) least' q1 :=
  ⟨⟨⟨t0, t1, tf, td, ts, D, by rw [hq]; exact hm, fun h => by omega⟩, hK.keep h.l.kp hb (by omega), hK.four h.l.zero (by omega) hB, ln, ll, fun h => by omega, l0, l1⟩, by rw [h.g, goR_step hk, hw], by rw [hq, h.n], hs⟩
theorem RMod.stop {w0 wr : World} {B bx : Nat} {p : Q.Pn} {ws : List Q.Bt} {k least : Nat} {q : Q.Pn} (h : RMod w0 wr B bx p ws k least q) (hk : k < ws.length) (hw : Q.wordR k least q ws[k] = none) : Q.goR 0 0 p ws = none := by rw [h.g, goR_step hk, hw]
theorem word_psk {k least : Nat} {q : Q.Pn} {w : Q.Bt} (h : ¬ (w = Q.fallB ∧ k = 0)) : Q.wordR k least q w = match Q.numR w with
    | some n => if n < least then none else (Q.preT q n).map (fun q => (n + 1, q))
    | none => none := by
  unfold Q.wordR
  rw [if_neg h]
  cases Q.numR w <;> rfl
theorem new_one (w : World) : Own (w.alloc (.cells #[iv 7] 3)) w.heap.size 3 1 (some ⟨w.heap.size, 0, none⟩) 1 1 [iv 7] := World.ownsRow_lit w #[iv 7] 1 (Nat.le_refl _) (by decide) rfl
theorem new_app {wr w2 : World} {cap m N c : Nat} {zs : List Value} {a : Option Addr} (ha : Appd (wr.alloc (.cells #[iv 7] 3)) w2 wr.heap.size 3 1 (some ⟨wr.heap.size, 0, none⟩) cap m N zs a c) : Kp wr w2 :=
  kp_step' (Kp.new wr (.cells #[iv 7] 3)) ha.fr (fun j hj => by rw [mem_blkL_some] at hj; omega)
theorem numI_some {w : Q.Bt} {n : Nat} (h : Q.numR w = some n) : numI w = (n : Int) := by unfold numI; rw [h]
theorem numI_none {w : Q.Bt} (h : Q.numR w = none) : numI w = -1 := by unfold numI; rw [h]
theorem MdS.took0 {w w1 : World} {B bx : Nat} {nm : ByteArray} {t0 t1 tf tq t : Tv} {ts : List Tv} {l : Ln} {ls : List Ln} {b0 b1 kn : List Int} (h : MdS w B bx nm t0 t1 tf [] (tq :: ts) [] (l :: ls) b0 b1) (k : Kp w w1) (ho : Own w1 w.heap.size 3 1 t.ao t.n t.c (kn.map iv)) (hB : B ≤ w.heap.size) :
    ∃ wf, wf = (((w1.setCell ⟨bx, 0, none⟩ (.string nm)).setCell ⟨bx, 1, none⟩ (tvv t)).setCell ⟨bx, 2, none⟩ (tvv t1)).setCell ⟨bx, 3, none⟩ (tvv (subT tf 1)) ∧ Fr [bx] w1 wf ∧ MdS wf B bx nm t t1 tf [tq] ts [l] ls kn b1 := by
  obtain ⟨wf, hwf, hF, hf⟩ := (h.four.kp k).set (.string nm) (tvv t) (tvv t1) (tvv (subT tf 1))
  have hlt := fun x hx => (ho.lt x hx).1
  exact ⟨wf, hwf, hF, ⟨hf, rfl, by simp, by have := h.hl; simp at this; exact this, (Sep.upd (r' := ⟨3, 1, t, kn.map iv⟩) h.sep ((Fr.of_kp k).mono (by simp)) (ho.mono (fun x hx => Nat.le_trans hB (hlt x hx))) (fun x hx => .inr (hlt x (mem_blkL.1 hx)))).fr hF (by intro x hx; simp at hx; have := h.hb; omega), h.hb⟩⟩
theorem MdS.took1 {w w1 : World} {B bx : Nat} {nm : ByteArray} {t0 t1 tf tq t : Tv} {ts : List Tv} {l : Ln} {ls : List Ln} {b0 b1 kn : List Int} (h : MdS w B bx nm t0 t1 tf [] (tq :: ts) [] (l :: ls) b0 b1) (k : Kp w w1) (ho : Own w1 w.heap.size 3 1 t.ao t.n t.c (kn.map iv)) (hB : B ≤ w.heap.size) :
    ∃ wf, wf = (((w1.setCell ⟨bx, 0, none⟩ (.string nm)).setCell ⟨bx, 1, none⟩ (tvv t0)).setCell ⟨bx, 2, none⟩ (tvv t)).setCell ⟨bx, 3, none⟩ (tvv (subT tf 1)) ∧ Fr [bx] w1 wf ∧ MdS wf B bx nm t0 t tf [tq] ts [l] ls b0 kn := by
  obtain ⟨wf, hwf, hF, hf⟩ := (h.four.kp k).set (.string nm) (tvv t0) (tvv t) (tvv (subT tf 1))
  have hlt := fun x hx => (ho.lt x hx).1
  exact ⟨wf, hwf, hF, ⟨hf, rfl, by simp, by have := h.hl; simp at this; exact this, ((Sep.upd (r' := ⟨3, 1, t, kn.map iv⟩) (h.sep.perm (List.Perm.swap _ _ _)) ((Fr.of_kp k).mono (by simp)) (ho.mono (fun x hx => Nat.le_trans hB (hlt x hx))) (fun x hx => .inr (hlt x (mem_blkL.1 hx)))).perm (List.Perm.swap _ _ _)).fr hF (by intro x hx; simp at hx; have := h.hb; omega), h.hb⟩⟩
theorem plusAll_step : ∀ (ws : List Q.Bt) (i k : Nat) (h : k < ws.length), Q.plusAll i (ws.take (k + 1)) = Q.plusAll i (ws.take k) ++ Q.plusW (i + k) ws[k]
  | w :: ws, i, 0, _ => by simp [Q.plusAll]
  | w :: ws, i, k + 1, h => by
    have := plusAll_step ws (i + 1) k (by simpa using h)
    simp only [List.take_succ_cons, Q.plusAll, List.getElem_cons_succ]
    rw [this, List.append_assoc, show i + 1 + k = i + (k + 1) by omega]
/-- The cells that a name's round looks at. -/
structure ClN (bx b o : Nat) (s x : ByteArray) (w : World) : Prop where
  p : w.cell? ⟨bx, 0, none⟩ = some (.string s)
  c : w.cell? ⟨b, o, none⟩ = some (.string x)
theorem ClN.kp {bx b o : Nat} {s x : ByteArray} {w w' : World} (h : ClN bx b o s x w) (k : Kp w w') : ClN bx b o s x w' := ⟨k.cell h.p, k.cell h.c⟩
set_option maxHeartbeats 2000000 in
theorem exec_load9 {w : World} {p : Addr} {s : ByteArray} (h : w.cell? p = some (.string s)) {ρ : Operand → Value} {x : Operand} (hx : ρ x = .pointer (some p)) {o : Oper} (ho : o.op = .load 9 x) : (execOp ρ o).run Tryz.prog w = .ok (.value (.string s)) w := by
  simp only [execOp, ho, hx]
  go_simp
set_option maxRecDepth 100000 in
set_option maxHeartbeats 16000000 in
theorem rmodify_any (w : World) (nm : ByteArray) (a0 a1 al : Option Addr) (n0 c0 n1 c1 nl cl : Nat) (b0 b1 : List Int) (ls : List Ln) (hP : PatI w a0 a1 al n0 n1 nl b0 b1 ls) (hs : ShortP nm n0 n1 nl ls)
    (ao : Option Addr) (nw cw : Nat) (ss : List ByteArray) (hW : Strs w ao nw ss) (hz : ∀ s ∈ ss, s.size ≤ 281474976710656) (hn : nw ≤ 200) :
    Calls Tryz.prog 29 #[patV nm a0 a1 al n0 c0 n1 c1 nl cl, .slice ao nw cw] w (RModPost w ⟨nm.data.toList, b0, b1, ls⟩ (wb ss)) := by
  have Hs := Lib.hid hs
  have HPI := Lib.hid hP
  have HW := Lib.hid hW
  have Hz := Lib.hid hz
  have hkA := Kp.new w (.cells #[.string nm, .slice a0 n0 c0, .slice a1 n1 c1, .slice al nl cl] 26)
  have hkB := Kp.new (w.alloc (.cells #[.string nm, .slice a0 n0 c0, .slice a1 n1 c1, .slice al nl cl] 26)) (.cells #[.string ⟨#[]⟩, .slice none 0 0, .slice none 0 0, .slice none 0 0] 26)
  have hFA := (Four.new w (.string nm) (.slice a0 n0 c0) (.slice a1 n1 c1) (.slice al nl cl) 26).kp hkB
  have hFB := Four.new (w.alloc (.cells #[.string nm, .slice a0 n0 c0, .slice a1 n1 c1, .slice al nl cl] 26)) (.string ⟨#[]⟩) (.slice none 0 0) (.slice none 0 0) (.slice none 0 0) 26
  rw [World.size_alloc] at hFB
  have hkw := Kp.trans hkA hkB
  clear hkA hkB hP hs hW hz
  go_enter Tryz.func29, Tryz.ntmps29
  go_upto_region 1 with fail
  obtain ⟨bx, hbx⟩ : ∃ bx, bx = w.heap.size := ⟨_, rfl⟩
  rw [← hbx] at hFA hFB ⊢
  generalize (w.alloc (.cells #[.string nm, .slice a0 n0 c0, .slice a1 n1 c1, .slice al nl cl] 26)).alloc (.cells #[.string ⟨#[]⟩, .slice none 0 0, .slice none 0 0, .slice none 0 0] 26) = wb1 at *
  have Hbx := Lib.hid hbx
  clear hbx
  have hwb : w.heap.size ≤ bx + 1 := by have := Hbx.out; omega
  have hck := refCheck_any wb1 nm a0 a1 al n0 c0 n1 c1 nl cl b0 b1 ls (hkw.is HPI.out.i0) (hkw.is HPI.out.i1) (hkw.lns HPI.out.il)
  rw [checkR_eq] at hck
  have HC := Lib.hid hck
  have HFA := Lib.hid hFA
  have HFB := Lib.hid hFB
  have Hkw := Lib.hid hkw
  obtain ⟨y0, y1, y2, y3, z0, z1, z2, z3⟩ := hFA
  clear hck hFB hkw
  go_wp2_with fail
  (with_reducible refine HC.out.mono ?_)
  rintro e w2 ⟨rfl, hk2⟩
  have HK2 := Lib.hid (Kp.trans Hkw.out hk2)
  have HF2 := Lib.hid (HFA.out.kp hk2)
  have HG2 := Lib.hid (HFB.out.kp hk2)
  clear y0 y1 y2 y3 z0 z1 z2 z3 hk2
  obtain ⟨c, hcc⟩ : ∃ c, c = checkL b0 b1 ls := ⟨_, rfl⟩
  rw [← hcc]
  by_cases hc : c = 0
  · have Hc := Lib.hid (show checkL b0 b1 ls = 0 by rw [← hcc]; exact hc)
    have hcl := code0 Hc.out
    have Hcl := Lib.hid hcl
    have Hmod := Lib.hid (show Q.modR ⟨nm.data.toList, b0, b1, ls⟩ (wb ss) = match Q.goR 0 0 ⟨nm.data.toList, b0, b1, ls⟩ (wb ss) with
        | none => (none, 1)
        | some q => if q.code = 0 then (some { q with nm := q.nm ++ Q.plusAll 0 (wb ss) }, 0) else (none, q.code) by
      unfold Q.modR
      rw [if_neg (show ¬ (⟨nm.data.toList, b0, b1, ls⟩ : Q.Pn).code ≠ 0 from fun q => q Hc.out)]
      cases Q.goR 0 0 ⟨nm.data.toList, b0, b1, ls⟩ (wb ss) <;> rfl)
    subst hc
    rw [show ((0 : Nat) : Int) = 0 from rfl]
    clear hcc hcl
    have HCp := Lib.hid (rcopy_any w2 nm a0 a1 al n0 c0 n1 c1 nl cl b0 b1 ls (HPI.out.kp HK2.out) Hs.out)
    obtain ⟨y0, y1, y2, y3, z0, z1, z2, z3⟩ := HF2.out
    go_wp2_with fail
    (with_reducible refine HCp.out.mono ?_)
    rintro e w3 ⟨hk3, t0, t1, tl, ts, rfl, hts, hsep⟩
    have HF3 := Lib.hid (HF2.out.kp hk3)
    have hG3 := HG2.out.kp hk3
    have hsz := HG2.out.lt
    clear y0 y1 y2 y3 z0 z1 z2 z3
    obtain ⟨wf, hwf, hFf, h4⟩ := HF3.out.set (.string nm) (tvv t0) (tvv t1) (tvv tl)
    have Hwf := Lib.hid hwf
    have HK4 := Lib.hid (kp_step' (Kp.trans HK2.out hk3) hFf (by intro j hj; simp at hj; have := Hbx.out; omega))
    have hM : MdS wf (bx + 2) bx (bs nm.data.toList) t0 t1 tl [] ts [] ls b0 b1 := ⟨by rw [bs_data]; exact h4, rfl, by simp, hts, (hsep.fr hFf (by intro x hx; simp at hx; omega)).base (by omega), by omega⟩
    have HL0 := Lib.hid (show RMod w wf (bx + 2) bx ⟨nm.data.toList, b0, b1, ls⟩ (wb ss) 0 0 ⟨nm.data.toList, b0, b1, ls⟩ from
      ⟨⟨⟨t0, t1, tl, [], ts, [], hM, fun _ => rfl⟩, HK4.out, hG3.fr hFf (by simp), fun l hl => by have := Hcl.out.2.2.2.2 l hl; exact ⟨this.1, this.2.1, by omega⟩, Hcl.out.2.2.2.1, fun _ => Hcl.out.2.2.1, by have := okB_len Hcl.out.1; simp only; omega, by have := okB_len Hcl.out.2.1; simp only; omega⟩, rfl, rfl, by omega⟩)
    obtain ⟨y0, y1, y2, y3, z0, z1, z2, z3⟩ := HF3.out
    unfold tvv at hwf
    have Hwf2 := Lib.hid hwf
    unfold tvv
    clear hwf hFf h4 hM hG3 hk3 hsep hts hsz
    go_upto_block 0 with fail
    rw [← Hwf2.out]
    clear y0 y1 y2 y3 z0 z1 z2 z3
    go_wp2_with fail
    go_loopw [7, 8] (fun lv i wr => ∃ (k least : Nat) (q : Q.Pn), k ≤ nw ∧ i = .int .i64 (k : Nat) ∧ lv = .int .i64 ((least : Int) - 1) ∧ RMod w wr (bx + 2) bx ⟨nm.data.toList, b0, b1, ls⟩ (wb ss) k least q) (fun _ i _ => nw - (intOf i).toNat)
    case atStart => exact ⟨0, 0, _, by omega, rfl, rfl, HL0.out⟩
    case round =>
      obtain ⟨k, least, q, hk, rfl, rfl, hR⟩ := hrel
      rename World => wr
      have HR := Lib.hid hR
      obtain ⟨t0, t1, tf, td, ts, D, hM, hD⟩ := hR.l.mem
      have HM := Lib.hid hM
      have HKr := Lib.hid hR.l.kp
      have HZ := Lib.hid hR.l.zero
      have HD := Lib.hid hD
      clear hR hM hD
      by_cases hlt : k < nw
      · have hkl : k < ss.length := by rw [HW.out.1]; exact hlt
        obtain ⟨wbk, woff, eao, hcw⟩ := HW.out.at k hlt
        subst eao
        have hcx := HKr.out.cell (hcw k hlt)
        have hkw : k < (wb ss).length := by simpa [wb] using hkl
        have Hkw := Lib.hid hkw
        have hxe : (wb ss)[k] = ss[k].data.toList := wb_get hkl hkw
        have hxz := Hz.out ss[k] (List.getElem_mem hkl)
        clear hcw
        generalize hxx : ss[k] = x at *
        have HXe := Lib.hid hxe
        clear hxe hxx
        have HNum := Lib.hid (rnum_any wr x (Nat.le_trans hxz (by decide)))
        obtain ⟨y0, y1, y2, y3, z0, z1, z2, z3⟩ := HM.out.four
        obtain ⟨u0, u1, u2, u3, v0, v1, v2, v3⟩ := HZ.out
        go_wp2_with fail
        (with_reducible refine HNum.out.mono ?_)
        rintro e w5 ⟨rfl, rfl⟩
        by_cases hfb : x.data.toList = Q.fallB ∧ k = 0
        · skip
          obtain ⟨hxf, hk0⟩ := hfb
          have hDn := HD.out hk0
          subst hk0
          rw [Nat.add_zero] at hcx
          subst hDn
          have htd : td = [] := List.eq_nil_of_length_eq_zero HM.out.hd
          subst htd
          have hb : (x.toList == [102, 97, 108, 108, 98, 97, 99, 107]) = true := by rw [Lib.toList_data, hxf]; rfl
          rw [show ((0 : Nat) : Int) = 0 from rfl]
          rw [show subT tf ([] : List Ln).length = tf from rfl] at y3
          have hmod0 := Hmod.out
          obtain ⟨qn, qb0, qb1, qls⟩ := q
          have hne : qls ≠ [] := HR.out.l.ne rfl
          rcases qls with _ | ⟨l, r⟩
          · exact absurd rfl hne
          have HMo := HM.out
          rcases ts with _ | ⟨tq, ts⟩
          · have := HM.out.hl; simp at this
          have hlf := (HR.out.l.ln l (by simp)).1
          have hle := (HR.out.l.ln l (by simp)).2.2
          have hpat := HM.out.pat (by have := HR.out.l.ll; omega) (fun l hl => by have := (HR.out.l.ln l hl).2.2; omega)
          rw [show subT tf ([] : List Ln).length = tf from rfl] at hpat
          have hcap : tf.n ≤ tf.c := HM.out.own.cap
          have hnf : tf.n ≤ 24 := by have h1 := HM.out.nf; have h2 := HR.out.l.ll; simp at h1 h2; omega
          have hBk := rback_any wr (bs qn) t0.ao t1.ao tf.ao t0.n t0.c t1.n t1.c tf.n tf.c qb0 qb1 l r hlf hpat (by have := HR.out.l.l0; simp only at this; omega) (by have := HR.out.l.l1; simp only at this; omega) (by omega) hcap (by omega)
          unfold RBackPost at hBk
          rw [bs_list] at hBk
          have Hx0 := Lib.hid (show (wb ss)[0] = Q.fallB by rw [HXe.out]; exact hxf)
          have Hwd := Lib.hid (show Q.wordR 0 least ⟨qn, qb0, qb1, l :: r⟩ (wb ss)[0] = (Q.backR ⟨qn, qb0, qb1, l :: r⟩).map (fun q => (least, q)) by rw [Hx0.out]; unfold Q.wordR; rw [if_pos ⟨rfl, rfl⟩])
          have hBr : bx + 2 ≤ wr.heap.size := by have := HZ.out.lt; omega
          clear hxf hpat hne hmod0 HMo hcap
          cases hbr : Q.backR ⟨qn, qb0, qb1, l :: r⟩ with
          | none =>
            rw [hbr] at hBk
            have HBk := Lib.hid hBk
            have Hbad := Lib.hid (show Q.modR ⟨nm.data.toList, b0, b1, ls⟩ (wb ss) = (none, 1) by rw [Hmod.out, HR.out.stop Hkw.out (Hwd.out.trans (by rw [hbr]; rfl))])
            clear hbr hBk
            unfold tvv at y1 y2 y3
            go_wp2_with fail
            (with_reducible refine HBk.out.mono ?_)
            rintro e w6 ⟨hk6, rfl⟩
            have hk7 := Kp.trans hk6 (Kp.new w6 (.cells #[.string (bs qn), .slice t0.ao t0.n t0.c, .slice t1.ao t1.n t1.c, .slice tf.ao tf.n tf.c] 26))
            have HZ7 := Lib.hid (HZ.out.kp hk7)
            have HK7 := Lib.hid (Kp.trans HKr.out hk7)
            clear hk6 hk7 y0 y1 y2 y3 z0 z1 z2 z3 u0 u1 u2 u3 v0 v1 v2 v3
            obtain ⟨u0, u1, u2, u3, v0, v1, v2, v3⟩ := HZ7.out
            go_wp2_with fail
            exact rm_bad HZ7.out HK7.out hwb Hbad.out _ rfl rfl
          | some q1 =>
            rw [hbr] at hBk
            have HBk := Lib.hid hBk
            have Hword := Lib.hid (show Q.wordR 0 least ⟨qn, qb0, qb1, l :: r⟩ (wb ss)[0] = some (least, q1) from Hwd.out.trans (by rw [hbr]; rfl))
            clear hbr hBk
            unfold tvv at y1 y2 y3
            go_wp2_with fail
            (with_reducible refine HBk.out.mono ?_)
            rintro e w6 ⟨hk6, t, rfl, ho6, hqn, hqr, hqb, hql⟩
            have Hq := Lib.hid (And.intro hqn (And.intro hqr (And.intro hqb hql)))
            rcases hlf with hf | hf
            · rw [if_pos hf, if_pos hf]
              rw [if_pos hf] at ho6
              obtain ⟨ua, un, uc, hsub⟩ : ∃ ua un uc, subT tf 1 = ⟨ua, un, uc⟩ := ⟨_, _, _, rfl⟩
              rw [hsub]
              have Hsub := Lib.hid hsub
              clear hsub
              unfold tvv
              have hkn := Kp.new w6 (.cells #[.string (bs qn), .slice t.ao t.n t.c, .slice t1.ao t1.n t1.c, .slice ua un uc] 26)
              have hk7 := Kp.trans hk6 hkn
              have hT7 := Four.new w6 (.string (bs qn)) (.slice t.ao t.n t.c) (.slice t1.ao t1.n t1.c) (.slice ua un uc) 26
              have HF7 := Lib.hid (HM.out.four.kp hk7)
              have HZ7 := Lib.hid (HZ.out.kp hk7)
              have HK7 := Lib.hid (Kp.trans HKr.out hk7)
              obtain ⟨wf, hwf, hFf, hMf⟩ := HM.out.took0 hk7 (t := t) (kn := q1.b0) (ho6.keep hkn) hBr
              rw [Hsub.out] at hwf
              have Hwf := Lib.hid hwf
              have HMf := Lib.hid hMf
              have HKf := Lib.hid ((Kept.kp (bx := bx) (B := bx + 2) hk7).step hFf (fun x hx => .inl (by simpa using hx)))
              unfold tvv at hwf
              have Hwf2 := Lib.hid hwf
              clear hk6 hk7 hkn y0 y1 y2 y3 z0 z1 z2 z3 u0 u1 u2 u3 v0 v1 v2 v3 hwf hFf hMf ho6
              obtain ⟨x0, x1, x2, x3, _, _, _, _⟩ := hT7
              obtain ⟨y0, y1, y2, y3, z0, z1, z2, z3⟩ := HF7.out
              go_wp2_with fail
              rw [← Hwf2.out]
              have HR7 := Lib.hid (HR.out.step Hkw.out Hword.out Hq.out.1 HR.out.s t t1 tf [tq] ts [l] (by rw [Hq.out.2.1]; have hb := Hq.out.2.2.1; rw [if_pos hf] at hb; rw [hb]; exact HMf.out) HKf.out (by have := Hbx.out; omega) (by omega) (fun y hy => by rw [Hq.out.2.1] at hy; have := HR.out.l.ln y (by simp [hy]); exact ⟨this.1, this.2.1, by omega⟩) (by rw [Hq.out.2.1]; have := HR.out.l.ll; simp at this; omega) (by have := Hq.out.2.2.2; rw [if_pos hf] at this; omega) (by have hb := Hq.out.2.2.1; rw [if_pos hf] at hb; rw [hb]; have := HR.out.l.l1; simp only at this; omega))
              go_roundw
              case rel => exact ⟨1, least, q1, by omega, by go_num, rfl, HR7.out⟩
              case measure => simp [intOf]; omega
            · have hf0 : ¬ l.1 = 0 := by omega
              rw [if_neg hf0, if_neg hf0]
              rw [if_neg hf0] at ho6
              obtain ⟨ua, un, uc, hsub⟩ : ∃ ua un uc, subT tf 1 = ⟨ua, un, uc⟩ := ⟨_, _, _, rfl⟩
              rw [hsub]
              have Hsub := Lib.hid hsub
              clear hsub
              unfold tvv
              have hkn := Kp.new w6 (.cells #[.string (bs qn), .slice t0.ao t0.n t0.c, .slice t.ao t.n t.c, .slice ua un uc] 26)
              have hk7 := Kp.trans hk6 hkn
              have hT7 := Four.new w6 (.string (bs qn)) (.slice t0.ao t0.n t0.c) (.slice t.ao t.n t.c) (.slice ua un uc) 26
              have HF7 := Lib.hid (HM.out.four.kp hk7)
              have HZ7 := Lib.hid (HZ.out.kp hk7)
              have HK7 := Lib.hid (Kp.trans HKr.out hk7)
              obtain ⟨wf, hwf, hFf, hMf⟩ := HM.out.took1 hk7 (t := t) (kn := q1.b1) (ho6.keep hkn) hBr
              rw [Hsub.out] at hwf
              have Hwf := Lib.hid hwf
              have HMf := Lib.hid hMf
              have HKf := Lib.hid ((Kept.kp (bx := bx) (B := bx + 2) hk7).step hFf (fun x hx => .inl (by simpa using hx)))
              unfold tvv at hwf
              have Hwf2 := Lib.hid hwf
              clear hk6 hk7 hkn y0 y1 y2 y3 z0 z1 z2 z3 u0 u1 u2 u3 v0 v1 v2 v3 hwf hFf hMf ho6
              obtain ⟨x0, x1, x2, x3, _, _, _, _⟩ := hT7
              obtain ⟨y0, y1, y2, y3, z0, z1, z2, z3⟩ := HF7.out
              go_wp2_with fail
              rw [← Hwf2.out]
              have HR7 := Lib.hid (HR.out.step Hkw.out Hword.out Hq.out.1 HR.out.s t0 t tf [tq] ts [l] (by rw [Hq.out.2.1]; have hb := Hq.out.2.2.1; rw [if_neg hf0] at hb; rw [hb]; exact HMf.out) HKf.out (by have := Hbx.out; omega) (by omega) (fun y hy => by rw [Hq.out.2.1] at hy; have := HR.out.l.ln y (by simp [hy]); exact ⟨this.1, this.2.1, by omega⟩) (by rw [Hq.out.2.1]; have := HR.out.l.ll; simp at this; omega) (by have hb := Hq.out.2.2.1; rw [if_neg hf0] at hb; rw [hb]; have := HR.out.l.l0; simp only at this; omega) (by have := Hq.out.2.2.2; rw [if_neg hf0] at this; omega))
              go_roundw
              case rel => exact ⟨1, least, q1, by omega, by go_num, rfl, HR7.out⟩
              case measure => simp [intOf]; omega
        · have hword := word_psk (least := least) (q := q) hfb
          rw [← HXe.out] at hword
          have Hword0 := Lib.hid hword
          have Hb := Lib.hid (show (x.toList == [102, 97, 108, 108, 98, 97, 99, 107]) = false ∨ ((x.toList == [102, 97, 108, 108, 98, 97, 99, 107]) = true ∧ k ≠ 0) by
            rw [Lib.toList_data]
            by_cases q : x.data.toList = [102, 97, 108, 108, 98, 97, 99, 107]
            · exact .inr ⟨by simp [q], fun h => hfb ⟨q, h⟩⟩
            · exact .inl (by simp [q]))
          clear hfb hword
          go_upto_region 12 with fail
          go_cut [48] (fun v wc => v = .bool false ∧ wr = wc)
          case first =>
            rcases Hb.out with hb | ⟨hb, hk0⟩
            · go_wp2_with fail
              all_goals
                go_meet
                case rel => exact ⟨rfl, rfl⟩
            · have hki : ((k : Nat) : Int) ≠ 0 := by omega
              go_wp2_with fail
              all_goals
                go_meet
                case rel => exact ⟨by first | rfl | simp; omega, rfl⟩
          case rest =>
            obtain ⟨rfl, rfl⟩ := hcut
            obtain ⟨sa, sn, sc, hsub⟩ : ∃ sa sn sc, subT tf D.length = ⟨sa, sn, sc⟩ := ⟨_, _, _, rfl⟩
            have hsn : sn = q.ls.length := by
              have h1 := (HM.out.lns (by have := HR.out.l.ll; omega) (fun l hl => by have := (HR.out.l.ln l hl).2.2; omega)).1
              rw [hsub] at h1; exact h1.symm
            rw [hsub] at y3
            unfold tvv at y3
            simp only at y3
            have Hsub := Lib.hid hsub
            have Hsn := Lib.hid hsn
            clear hsub hsn
            have Hrxe := Lib.hid (show numI (wb ss)[k] = numI x.data.toList by rw [HXe.out])
            cases hnr : Q.numR (wb ss)[k] with
            | none =>
              have Hbad := Lib.hid (show Q.modR ⟨nm.data.toList, b0, b1, ls⟩ (wb ss) = (none, 1) by rw [Hmod.out, HR.out.stop Hkw.out (Hword0.out.trans (by rw [hnr]))])
              have hni : numI x.data.toList = -1 := by rw [← Hrxe.out]; exact numI_none hnr
              rw [hni]
              clear hnr hni
              go_wp2_with fail
              exact rm_bad HZ.out HKr.out hwb Hbad.out _ rfl rfl
            | some n =>
              have hni : numI x.data.toList = (n : Int) := by rw [← Hrxe.out]; exact numI_some hnr
              rw [hni]
              have Hnr := Lib.hid hnr
              clear hni hnr
              have hpos : ¬ ((n : Nat) : Int) < 0 := by omega
              by_cases hnl : n < least
              · have Hbad := Lib.hid (show Q.modR ⟨nm.data.toList, b0, b1, ls⟩ (wb ss) = (none, 1) by rw [Hmod.out, HR.out.stop Hkw.out (Hword0.out.trans (by rw [Hnr.out]; simp only; rw [if_pos hnl]))])
                have hle : ((n : Nat) : Int) ≤ (least : Int) - 1 := by omega
                go_wp2_with fail
                exact rm_bad HZ.out HKr.out hwb Hbad.out _ rfl rfl
              · have hle : ¬ ((n : Nat) : Int) ≤ (least : Int) - 1 := by omega
                have Hwd := Lib.hid (show Q.wordR k least q (wb ss)[k] = (Q.preT q n).map (fun q => (n + 1, q)) by rw [Hword0.out, Hnr.out]; simp only; rw [if_neg hnl])
                by_cases hbig : sn < n
                · have Hbad := Lib.hid (show Q.modR ⟨nm.data.toList, b0, b1, ls⟩ (wb ss) = (none, 1) by rw [Hmod.out, HR.out.stop Hkw.out (Hwd.out.trans (by rw [preL_some, if_pos (.inr (by rw [← Hsn.out]; exact hbig))]; rfl))])
                  go_wp2_with fail
                  exact rm_bad HZ.out HKr.out hwb Hbad.out _ rfl rfl
                · by_cases h0 : sn = 0
                  · have Hbad := Lib.hid (show Q.modR ⟨nm.data.toList, b0, b1, ls⟩ (wb ss) = (none, 1) by rw [Hmod.out, HR.out.stop Hkw.out (Hwd.out.trans (by rw [preL_some, if_pos (.inl (List.eq_nil_of_length_eq_zero (by rw [← Hsn.out]; exact h0)))]; rfl))])
                    have hn0 : n = 0 := by omega
                    subst h0
                    subst hn0
                    go_wp2_with fail
                    exact rm_bad HZ.out HKr.out hwb Hbad.out _ rfl rfl
                  · have hsp : 0 < sn := by omega
                    have hnsn : n ≤ sn := by omega
                    have hll := HR.out.l.ll
                    have hsn24 : sn ≤ 24 := by have := Hsn.out; omega
                    have Hword := Lib.hid (show Q.wordR k least q (wb ss)[k] = some (n + 1, { q with ls := preL q.ls n }) by rw [Hwd.out, preL_some, if_neg (by rw [not_or]; exact ⟨fun h => by have := Hsn.out; rw [h] at this; simp at this; omega, by rw [← Hsn.out]; exact hbig⟩)]; rfl)
                    obtain ⟨g, hg, he, hcap, hbg, hgw⟩ := HM.out.at (by rw [← Hsn.out]; exact hsp)
                    rw [Hsub.out] at he
                    simp only [Tv.mk.injEq] at he
                    obtain ⟨rfl, hx, hsc⟩ := he
                    clear hx
                    have Hg := Lib.hid hg
                    rw [← Hsn.out, ← hsc] at hcap
                    clear hg hsc h0 hll
                    obtain ⟨dl, hdl⟩ : ∃ dl, dl = D.length * 2 := ⟨_, rfl⟩
                    rw [← hdl] at y3
                    have Hdl := Lib.hid hdl
                    clear hdl Hsub
                    by_cases hn0 : n = 0
                    · have Hn0 := Lib.hid hn0
                      obtain ⟨j, hjj⟩ : ∃ j, j = 0 := ⟨_, rfl⟩
                      have Hjn := Lib.hid (show 0 = j from hjj.symm)
                      have hjs : j < sn := by omega
                      have hn0i : ((n : Nat) : Int) = 0 := by omega
                      have hl1 : ¬ (1 : Int) ≤ (least : Int) := by omega
                      have hs1 : ¬ ((sn : Nat) : Int) < 0 := by omega
                      have hs2 : (((sn : Nat) : Int) == 0) = false := by simp; omega
                      have hj : j < q.ls.length := by rw [← Hsn.out]; exact hjs
                      have hjt : j < ts.length := by rw [HM.out.hl]; exact hj
                      obtain ⟨_, cj1, fj1⟩ := HM.out.cells Hg.out j hj
                      have hrow := HM.out.row j hj
                      have hneq := HR.out.l.ln _ (List.getElem_mem hj)
                      have Hts := Lib.hid (List.getElem?_eq_getElem hjt)
                      have Hls := Lib.hid (List.getElem?_eq_getElem hj)
                      rw [← Hdl.out] at cj1 fj1
                      generalize ts[j]'hjt = t at *
                      generalize q.ls[j]'hj = l at *
                      obtain ⟨ta, tn, tc⟩ := t
                      unfold tvv at cj1
                      simp only at cj1 hrow
                      have htn : tn ≤ 10000 := by have h1 := hrow.1; have h2 := hneq.2.2; simp at h1; omega
                      have hn3 : l.2.length = tn := by have := hrow.1; simpa using this
                      have Hn3 := Lib.hid hn3
                      clear hn3
                      have hj0 : j * 2 = 0 := by omega
                      rw [hj0, Nat.add_zero] at cj1 fj1
                      clear hj0
                      go_upto_region 20 with fail
                      refine anyP_start (ClP bx g (dl + 1) (.slice (some ⟨g, dl, none⟩) sn sc) (.slice ta tn tc)) 11 (fun _ => True) (fun _ _ => False) (by kernel_rfl) (fun _ _ _ _ h => h.elim) ?_
                      obtain ⟨wq, hwq⟩ : ∃ wq, wq = wr.drew := ⟨_, rfl⟩
                      have hkq : Kp wr wq := hwq ▸ (⟨rfl, rfl, rfl, Nat.le_refl _, fun _ _ => rfl⟩ : Kp wr wr.drew)
                      rw [← hwq]
                      have hq : ClP bx g (dl + 1) (.slice (some ⟨g, dl, none⟩) sn sc) (.slice ta tn tc) wq := ⟨hkq.cell y3, hkq.cell cj1⟩
                      have HMq := Lib.hid (HM.out.kp hkq)
                      have Hrow := Lib.hid (hrow.keep hkq)
                      have Hkq := Lib.hid hkq
                      have hfq : ∀ (X : List Nat) (w1 : World), Fr X wq w1 → g ∉ X → w1.frozen? ⟨g, dl + 1, none⟩ = false := fun X w1 f hX => f.free (hkq.cell cj1) (Kp.frz hkq cj1 fj1) hX
                      have Hfq := Lib.hid hfq
                      have hgq : g < wq.heap.size := Nat.lt_of_lt_of_le hgw hkq.size
                      have hBq : bx + 2 ≤ wq.heap.size := by have := (HMq.out.own.lt g (by rw [Hg.out]; rfl)); omega
                      clear hwq y3 cj1 fj1 hrow hkq hfq y0 y1 y2 z0 z1 z2 z3 u0 u1 u2 u3 v0 v1 v2 v3
                      have hkb := Kp.new wq (.cells #[iv 7] 3)
                      have hqb := hq.kp hkb
                      have hnb : g ∉ blkL ta ∧ bx ∉ blkL ta := by
                        refine ⟨HMq.out.apart Hg.out Hts.out, fun q => ?_⟩
                        have := (Hrow.out.lt bx (mem_blkL.1 q)).1; omega
                      have Hcs := Lib.hid (Cs.new wq [iv 7] 3 (0, 0))
                      have Hrk := Lib.hid (Hrow.out.keep hkb)
                      have hsb : bx + 2 ≤ (wq.alloc (.cells #[iv 7] 3)).heap.size := Nat.le_trans hBq hkb.size
                      refine anyT_take puts_true [0, 3] (by kernel_rfl) hq ?_
                      simp only [opsAt, List.getElem?_toArray, List.getElem?_cons_zero, List.getElem?_cons_succ]
                      repeat (go_big_quiet_step (fail))
                      refine wpQuiet_nil ?_
                      refine anyT_load puts_true 1 93 (.slice (some ⟨g, dl, none⟩) sn sc) rfl rfl (by kernel_rfl) hq (fun w h => exec_load24 (h.p) (by first | rfl | simp [Act.eval]) rfl) ?_
                      simp only [Act.put, List.setIfInBounds_toArray, List.set_cons_zero, List.set_cons_succ]
                      refine anyT_load puts_true 4 96 (.slice (some ⟨g, dl, none⟩) sn sc) rfl rfl (by kernel_rfl) hq (fun w h => exec_load24 (h.p) (by first | rfl | simp [Act.eval]) rfl) ?_
                      simp only [Act.put, List.setIfInBounds_toArray, List.set_cons_zero, List.set_cons_succ]
                      refine anyT_take puts_true [5, 6] (by kernel_rfl) hq ?_
                      simp only [opsAt, List.getElem?_toArray, List.getElem?_cons_zero, List.getElem?_cons_succ]
                      repeat (go_big_quiet_step (fail))
                      refine wpQuiet_nil ?_
                      refine anyT_load puts_true 7 99 (.slice ta tn tc) rfl rfl (by kernel_rfl) hq (fun w h => exec_load22 (h.c) (by first | rfl | simp [Act.eval]) rfl) ?_
                      simp only [Act.put, List.setIfInBounds_toArray, List.set_cons_zero, List.set_cons_succ]
                      refine anyP_one 2 (by kernel_rfl) ?_
                      simp only [opsAt, List.getElem?_toArray, List.getElem?_cons_zero, List.getElem?_cons_succ]
                      go_wp2_with fail
                      refine ⟨fun _ => hqb, ?_⟩
                      have HO7 := Lib.hid (new_one wq)
                      refine anyP_one 8 (by kernel_rfl) ?_
                      simp only [opsAt, List.getElem?_toArray, List.getElem?_cons_zero, List.getElem?_cons_succ]
                      go_wp2_with (at_builtin; go_loud (refine wpList_app rfl (.tmp 94) (.tmp 99) 22 rfl el22 wq.heap.size rfl HO7.out rfl (l.2.map iv) (by have := Hn3.out; simp; omega) (Hrk.out.is.2.2) (by simp [Value.oneCell']) (tn + 1) (by omega) ((7 :: l.2).map iv) (by simp) (by omega) (by simp) ?_); intro ao2 cap2 w6 ha; have HA := Lib.hid ha; clear ha)
                      have hFq6 : Fr (blkL ta) wq w6 := (Fr.of_kp (new_app HA.out)).mono (by simp)
                      have hO6 : Own w6 (bx + 2) 3 1 ao2 (tn + 1) cap2 ((7 :: l.2).map iv) := HA.out.own.mono (fun k hk => by have := (HA.out.own.lt k hk).1; omega)
                      have hb6 : ∀ x ∈ blkL ao2, x ∈ blkL ta ∨ wq.heap.size ≤ x := fun x hx => .inr (HA.out.own.lt x (mem_blkL.1 hx)).1
                      have hq6 := hq.fr hFq6 hnb.2 hnb.1
                      have f6 := Hfq.out _ _ hFq6 hnb.1
                      have HM6 := Lib.hid (HMq.out.tok (w1 := w6) (t' := ⟨ao2, tn + 1, cap2⟩) Hg.out Hts.out Hls.out hFq6 hO6 hb6)
                      have HF6 := Lib.hid hFq6
                      clear hO6 hb6 hFq6
                      refine ⟨fun _ => hq6, ?_⟩
                      refine anyT_take puts_true [9, 10] (by kernel_rfl) hq6 ?_
                      simp only [opsAt, List.getElem?_toArray, List.getElem?_cons_zero, List.getElem?_cons_succ]
                      repeat (go_big_quiet_step (fail))
                      refine wpQuiet_nil ?_
                      obtain ⟨_, c6⟩ := hq6
                      refine anyP_one 11 (by kernel_rfl) ?_
                      simp only [opsAt, List.getElem?_toArray, List.getElem?_cons_zero, List.getElem?_cons_succ]
                      go_wp2_with fail
                      refine ⟨fun h => absurd rfl h, ?_⟩
                      refine anyP_end (by kernel_rfl) ?_
                      have hM7 := HM6.out
                      unfold tvv at hM7
                      have hBg : bx + 2 ≤ g := (HMq.out.own.lt g (by rw [Hg.out]; rfl)).1
                      have hK6 : Kept bx (bx + 2) wr w6 := (Kept.kp Hkq.out).step HF6.out (fun x hx => .inr (Hrow.out.lt x (mem_blkL.1 hx)).1)
                      have e1 : D.length * 2 + j * 2 + 1 = dl + 1 := by rw [Hdl.out]; have := Hjn.out; omega
                      have e2 : q.ls.set j (l.1, 7 :: l.2) = preL q.ls n := by
                        obtain ⟨q1, q2⟩ := List.getElem?_eq_some_iff.1 Hls.out
                        unfold preL
                        have hj0 : 0 = j := Hjn.out
                        subst hj0
                        rw [if_pos Hn0.out, modify_set q.ls _ 0 q1, q2]
                      rw [e1, e2] at hM7
                      have hK7 := hK6.step (Fr.set w6 ⟨g, dl + 1, none⟩ (.slice ao2 (tn + 1) cap2)) (fun x hx => by simp at hx; omega)
                      have HR7 := Lib.hid (HR.out.step Hkw.out Hword.out rfl (by omega) t0 t1 tf td _ D hM7 hK7 (by have := Hbx.out; omega) (by omega) (preL_mem HR.out.l.ln) (by simp only; rw [preL_length]; exact HR.out.l.ll) (by have := HR.out.l.l0; simp only; omega) (by have := HR.out.l.l1; simp only; omega))
                      clear hM7 hK6 hK7 HM6 e1 e2
                      go_wp2_with fail
                      go_roundw
                      case rel => exact ⟨k + 1, n + 1, _, by omega, by go_num, by congr 1; omega, HR7.out⟩
                      case measure => simp [intOf]; omega
                    · have Hn0 := Lib.hid hn0
                      obtain ⟨j, hjj⟩ : ∃ j, n = j + 1 := ⟨n - 1, by omega⟩
                      have Hjn := Lib.hid hjj
                      have hjs : j < sn := by omega
                      have hji : ((n : Nat) : Int) - 1 = (j : Int) := by omega
                      have hn0i : ((n : Nat) : Int) ≠ 0 := by omega
                      clear hjj
                      have hj : j < q.ls.length := by rw [← Hsn.out]; exact hjs
                      have hjt : j < ts.length := by rw [HM.out.hl]; exact hj
                      obtain ⟨_, cj1, fj1⟩ := HM.out.cells Hg.out j hj
                      have hrow := HM.out.row j hj
                      have hneq := HR.out.l.ln _ (List.getElem_mem hj)
                      have Hts := Lib.hid (List.getElem?_eq_getElem hjt)
                      have Hls := Lib.hid (List.getElem?_eq_getElem hj)
                      rw [← Hdl.out] at cj1 fj1
                      generalize ts[j]'hjt = t at *
                      generalize q.ls[j]'hj = l at *
                      obtain ⟨ta, tn, tc⟩ := t
                      unfold tvv at cj1
                      simp only at cj1 hrow
                      have htn : tn ≤ 10000 := by have h1 := hrow.1; have h2 := hneq.2.2; simp at h1; omega
                      have hn3 : l.2.length = tn := by have := hrow.1; simpa using this
                      have Hn3 := Lib.hid hn3
                      clear hn3
                      skip
                      go_upto_region 10 with fail
                      refine anyP_start (ClP bx g (dl + j * 2 + 1) (.slice (some ⟨g, dl, none⟩) sn sc) (.slice ta tn tc)) 15 (fun _ => True) (fun _ _ => False) (by kernel_rfl) (fun _ _ _ _ h => h.elim) ?_
                      obtain ⟨wq, hwq⟩ : ∃ wq, wq = wr.drew := ⟨_, rfl⟩
                      have hkq : Kp wr wq := hwq ▸ (⟨rfl, rfl, rfl, Nat.le_refl _, fun _ _ => rfl⟩ : Kp wr wr.drew)
                      rw [← hwq]
                      have hq : ClP bx g (dl + j * 2 + 1) (.slice (some ⟨g, dl, none⟩) sn sc) (.slice ta tn tc) wq := ⟨hkq.cell y3, hkq.cell cj1⟩
                      have HMq := Lib.hid (HM.out.kp hkq)
                      have Hrow := Lib.hid (hrow.keep hkq)
                      have Hkq := Lib.hid hkq
                      have hfq : ∀ (X : List Nat) (w1 : World), Fr X wq w1 → g ∉ X → w1.frozen? ⟨g, dl + j * 2 + 1, none⟩ = false := fun X w1 f hX => f.free (hkq.cell cj1) (Kp.frz hkq cj1 fj1) hX
                      have Hfq := Lib.hid hfq
                      have hgq : g < wq.heap.size := Nat.lt_of_lt_of_le hgw hkq.size
                      have hBq : bx + 2 ≤ wq.heap.size := by have := (HMq.out.own.lt g (by rw [Hg.out]; rfl)); omega
                      clear hwq y3 cj1 fj1 hrow hkq hfq y0 y1 y2 z0 z1 z2 z3 u0 u1 u2 u3 v0 v1 v2 v3
                      have hkb := Kp.new wq (.cells #[iv 7] 3)
                      have hqb := hq.kp hkb
                      have hnb : g ∉ blkL ta ∧ bx ∉ blkL ta := by
                        refine ⟨HMq.out.apart Hg.out Hts.out, fun q => ?_⟩
                        have := (Hrow.out.lt bx (mem_blkL.1 q)).1; omega
                      have Hcs := Lib.hid (Cs.new wq [iv 7] 3 (0, 0))
                      have Hrk := Lib.hid (Hrow.out.keep hkb)
                      have hsb : bx + 2 ≤ (wq.alloc (.cells #[iv 7] 3)).heap.size := Nat.le_trans hBq hkb.size
                      refine anyT_take puts_true [0, 2, 3, 4, 6, 7] (by kernel_rfl) hq ?_
                      simp only [opsAt, List.getElem?_toArray, List.getElem?_cons_zero, List.getElem?_cons_succ]
                      repeat (go_big_quiet_step (fail))
                      refine wpQuiet_nil ?_
                      refine anyT_load puts_true 1 33 (.slice (some ⟨g, dl, none⟩) sn sc) rfl rfl (by kernel_rfl) hq (fun w h => exec_load24 (h.p) (by first | rfl | simp [Act.eval]) rfl) ?_
                      simp only [Act.put, List.setIfInBounds_toArray, List.set_cons_zero, List.set_cons_succ]
                      refine anyT_load puts_true 5 37 (.slice (some ⟨g, dl, none⟩) sn sc) rfl rfl (by kernel_rfl) hq (fun w h => exec_load24 (h.p) (by first | rfl | simp [Act.eval]) rfl) ?_
                      simp only [Act.put, List.setIfInBounds_toArray, List.set_cons_zero, List.set_cons_succ]
                      refine anyT_take puts_true [8, 9] (by kernel_rfl) hq ?_
                      simp only [opsAt, List.getElem?_toArray, List.getElem?_cons_zero, List.getElem?_cons_succ]
                      repeat (go_big_quiet_step (fail))
                      refine wpQuiet_nil ?_
                      refine anyT_load puts_true 10 42 (.slice ta tn tc) rfl rfl (by kernel_rfl) hq (fun w h => exec_load22 (h.c) (by first | rfl | simp [Act.eval]) rfl) ?_
                      simp only [Act.put, List.setIfInBounds_toArray, List.set_cons_zero, List.set_cons_succ]
                      refine anyP_one 11 (by kernel_rfl) ?_
                      simp only [opsAt, List.getElem?_toArray, List.getElem?_cons_zero, List.getElem?_cons_succ]
                      go_wp2_with fail
                      refine ⟨fun _ => hqb, ?_⟩
                      refine anyP_one 12 (by kernel_rfl) ?_
                      simp only [opsAt, List.getElem?_toArray, List.getElem?_cons_zero, List.getElem?_cons_succ]
                      go_wp2_with (at_builtin; go_loud (refine wpList_app rfl (.tmp 42) (.tmp 43) 22 rfl el22 (bx + 2) rfl Hrk.out rfl [iv 7] rfl Hcs.out (by simp [Value.oneCell']) (tn + 1) rfl ((l.2 ++ [7]).map iv) (by simp) (by omega) hsb ?_); intro ao2 cap2 w6 ha; have HA := Lib.hid ha; clear ha)
                      have hFq6 : Fr (blkL ta) wq w6 := ((Fr.of_kp hkb).mono (by simp)).trans HA.out.fr
                      have hO6 : Own w6 (bx + 2) 3 1 ao2 (tn + 1) cap2 ((l.2 ++ [7]).map iv) := HA.out.own
                      have hb6 : ∀ x ∈ blkL ao2, x ∈ blkL ta ∨ wq.heap.size ≤ x := fun x hx => by
                        rcases HA.out.fresh x (mem_blkL.1 hx) with q | q
                        · exact .inl (mem_blkL.2 q)
                        · exact .inr (by rw [q]; exact hkb.size)
                      have hq6 := hq.fr hFq6 hnb.2 hnb.1
                      have f6 := Hfq.out _ _ hFq6 hnb.1
                      have HM6 := Lib.hid (HMq.out.tok (w1 := w6) (t' := ⟨ao2, tn + 1, cap2⟩) Hg.out Hts.out Hls.out hFq6 hO6 hb6)
                      have HF6 := Lib.hid hFq6
                      clear hO6 hb6 hFq6
                      refine ⟨fun _ => hq6, ?_⟩
                      refine anyT_take puts_true [13, 14] (by kernel_rfl) hq6 ?_
                      simp only [opsAt, List.getElem?_toArray, List.getElem?_cons_zero, List.getElem?_cons_succ]
                      repeat (go_big_quiet_step (fail))
                      refine wpQuiet_nil ?_
                      obtain ⟨_, c6⟩ := hq6
                      refine anyP_one 15 (by kernel_rfl) ?_
                      simp only [opsAt, List.getElem?_toArray, List.getElem?_cons_zero, List.getElem?_cons_succ]
                      go_wp2_with fail
                      refine ⟨fun h => absurd rfl h, ?_⟩
                      refine anyP_end (by kernel_rfl) ?_
                      have hM7 := HM6.out
                      unfold tvv at hM7
                      have hBg : bx + 2 ≤ g := (HMq.out.own.lt g (by rw [Hg.out]; rfl)).1
                      have hK6 : Kept bx (bx + 2) wr w6 := (Kept.kp Hkq.out).step HF6.out (fun x hx => .inr (Hrow.out.lt x (mem_blkL.1 hx)).1)
                      have e1 : D.length * 2 + j * 2 + 1 = dl + j * 2 + 1 := by rw [Hdl.out]
                      have e2 : q.ls.set j (l.1, l.2 ++ [7]) = preL q.ls n := by
                        obtain ⟨q1, q2⟩ := List.getElem?_eq_some_iff.1 Hls.out
                        unfold preL
                        rw [if_neg Hn0.out, show n - 1 = j by have := Hjn.out; omega, modify_set q.ls _ j q1, q2]
                      rw [e1, e2] at hM7
                      have hK7 := hK6.step (Fr.set w6 ⟨g, dl + j * 2 + 1, none⟩ (.slice ao2 (tn + 1) cap2)) (fun x hx => by simp at hx; omega)
                      have HR7 := Lib.hid (HR.out.step Hkw.out Hword.out rfl (by omega) t0 t1 tf td _ D hM7 hK7 (by have := Hbx.out; omega) (by omega) (preL_mem HR.out.l.ln) (by simp only; rw [preL_length]; exact HR.out.l.ll) (by have := HR.out.l.l0; simp only; omega) (by have := HR.out.l.l1; simp only; omega))
                      clear hM7 hK6 hK7 HM6 e1 e2
                      go_wp2_with fail
                      go_roundw
                      case rel => exact ⟨k + 1, n + 1, _, by omega, by go_num, by congr 1; omega, HR7.out⟩
                      case measure => simp [intOf]; omega
      · skip
        have hkn : k = nw := by omega
        have hgo : Q.goR 0 0 ⟨nm.data.toList, b0, b1, ls⟩ (wb ss) = some q := by
          rw [HR.out.g, List.drop_eq_nil_of_le (by have := HW.out.1; simp [wb]; omega)]; rfl
        have hmod2 := Hmod.out
        rw [hgo] at hmod2
        have Hmod2 := Lib.hid hmod2
        have Hkn := Lib.hid hkn
        have hll := HR.out.l.ll
        have hpat := HM.out.pat (by omega) (fun l hl => by have := (HR.out.l.ln l hl).2.2; omega)
        have hck := refCheck_any wr (bs q.nm) t0.ao t1.ao (subT tf D.length).ao t0.n t0.c t1.n t1.c (subT tf D.length).n (subT tf D.length).c q.b0 q.b1 q.ls hpat.i0 hpat.i1 hpat.il
        rw [checkR_eq] at hck
        obtain ⟨c', hc'⟩ : ∃ c', c' = checkL q.b0 q.b1 q.ls := ⟨_, rfl⟩
        rw [← hc'] at hck
        have Hck := Lib.hid hck
        have hqc : q.code = c' := hc'.symm
        obtain ⟨y0, y1, y2, y3, z0, z1, z2, z3⟩ := HM.out.four
        unfold tvv at y1 y2 y3
        clear hgo hmod2 hkn hpat hck hc' hll
        go_wp2_with fail
        (with_reducible refine Hck.out.mono ?_)
        rintro e w5 ⟨rfl, hk5⟩
        have HM5 := Lib.hid (HM.out.kp hk5)
        have HZ5 := Lib.hid (HZ.out.kp hk5)
        have HK5 := Lib.hid (Kp.trans HKr.out hk5)
        clear y0 y1 y2 y3 z0 z1 z2 z3 hk5
        by_cases hc0 : c' = 0
        · have Hfin := Lib.hid (show Q.modR ⟨nm.data.toList, b0, b1, ls⟩ (wb ss) = (some { q with nm := q.nm ++ Q.plusAll 0 (wb ss) }, 0) by rw [Hmod2.out]; rw [if_pos (by rw [hqc]; exact hc0)])
          subst hc0
          have hnl : (bs q.nm).size ≤ 8000 := by rw [bs_size, HR.out.n]; have := Hs.out.nm; rw [← Lib.size_eq]; exact this
          have Hnl := Lib.hid hnl
          have HM0 := Lib.hid (show MdS w5 (bx + 2) bx (bs (q.nm ++ Q.plusAll 0 ((wb ss).take 0))) t0 t1 tf td ts D q.ls q.b0 q.b1 by rw [List.take_zero, show Q.plusAll 0 [] = [] from rfl, List.append_nil]; exact HM5.out)
          clear hqc hnl
          go_wp2_with fail
          go_loopw [12] (fun i wv => ∃ j : Nat, j ≤ nw ∧ i = .int .i64 (j : Nat) ∧ MdS wv (bx + 2) bx (bs (q.nm ++ Q.plusAll 0 ((wb ss).take j))) t0 t1 tf td ts D q.ls q.b0 q.b1 ∧ Kp w wv ∧ Four wv (bx + 1) (.string ⟨#[]⟩) (.slice none 0 0) (.slice none 0 0) (.slice none 0 0) ∧ (bs (q.nm ++ Q.plusAll 0 ((wb ss).take j))).size ≤ 8000 + j * 281474976710657) (fun i _ => nw - (intOf i).toNat)
          case atStart => exact ⟨0, by omega, rfl, HM0.out, HK5.out, HZ5.out, by rw [List.take_zero, show Q.plusAll 0 [] = [] from rfl, List.append_nil]; have := Hnl.out; omega⟩
          case round =>
            obtain ⟨j, hj, rfl, hMv, hKv, hZv, hsz⟩ := hrel
            rename World => wv
            have HMv := Lib.hid hMv
            have HKv := Lib.hid hKv
            have HZv := Lib.hid hZv
            clear hMv hKv hZv
            by_cases hlt : j < nw
            · have hjl : j < ss.length := by rw [HW.out.1]; exact hlt
              have hjw : j < (wb ss).length := by simpa [wb] using hjl
              have hst := plusAll_step (wb ss) 0 j hjw
              have hxe : (wb ss)[j] = ss[j].data.toList := wb_get hjl hjw
              rw [hxe, Nat.zero_add] at hst
              have hxz := Hz.out ss[j] (List.getElem_mem hjl)
              obtain ⟨wbk, woff, eao, hcw⟩ := HW.out.at j hlt
              subst eao
              have hcw0 := hcw j hlt
              have hwbk : wbk < w.heap.size := by have := World.block_lt_of_cell? _ _ hcw0; simpa using this
              have hcx := HKv.out.cell hcw0
              generalize ss[j] = x at *
              have hpl0 := bs_plus (q.nm ++ Q.plusAll 0 ((wb ss).take j)) x
              have hpl1 := fun h : 0 < j => bs_plus1 (q.nm ++ Q.plusAll 0 ((wb ss).take j)) x h
              have hst2 : bs (q.nm ++ Q.plusAll 0 ((wb ss).take (j + 1))) = bs ((q.nm ++ Q.plusAll 0 ((wb ss).take j)) ++ Q.plusW j x.data.toList) := by rw [hst, List.append_assoc]
              obtain ⟨S0, hS0⟩ : ∃ S0, S0 = bs (q.nm ++ Q.plusAll 0 ((wb ss).take j)) := ⟨_, rfl⟩
              rw [← hS0] at HMv hsz hpl0 hpl1
              have Hpl0 := Lib.hid hpl0
              have Hpl1 := Lib.hid hpl1
              have Hst2 := Lib.hid hst2
              clear hst hst2 hpl0 hpl1 hS0 hcw hcw0 hxe
              obtain ⟨y0, y1, y2, y3, z0, z1, z2, z3⟩ := HMv.out.four
              by_cases hj0 : j = 0
              · subst hj0
                have hnew : bs (q.nm ++ Q.plusAll 0 ((wb ss).take (0 + 1))) = S0 ++ x := Hst2.out.trans Hpl0.out
                have Hnew := Lib.hid hnew
                clear hnew
                rw [show ((0 : Nat) : Int) = 0 from rfl]
                go_upto_region 30 with fail
                obtain ⟨w6, hw6⟩ : ∃ w6, w6 = wv := ⟨_, rfl⟩
                obtain ⟨S1, hS1⟩ : ∃ S1, S1 = S0 := ⟨_, rfl⟩
                have Hnew2 := Lib.hid (show bs (q.nm ++ Q.plusAll 0 ((wb ss).take (0 + 1))) = S1 ++ x by rw [hS1]; exact Hnew.out)
                have hS1z : S1.size ≤ 8000 + 0 * 281474976710657 + 1 := by rw [hS1]; omega
                have HM6 := Lib.hid (show MdS w6 (bx + 2) bx S1 t0 t1 tf td ts D q.ls q.b0 q.b1 by rw [hw6, hS1]; exact HMv.out)
                have HK6 := Lib.hid (show Kp w w6 by rw [hw6]; exact HKv.out)
                have HZ6 := Lib.hid (show Four w6 (bx + 1) (.string ⟨#[]⟩) (.slice none 0 0) (.slice none 0 0) (.slice none 0 0) by rw [hw6]; exact HZv.out)
                have hcx6 : w6.cell? ⟨wbk, woff + 0, none⟩ = some (.string x) := by rw [hw6]; exact hcx
                rw [← hw6]
                clear hw6 hS1 y0 y1 y2 y3 z0 z1 z2 z3 hcx
                refine anyP_start (ClN bx wbk (woff + 0) S1 x) 8 (fun _ => True) (fun _ _ => False) (by kernel_rfl) (fun _ _ _ _ h => h.elim) ?_
                obtain ⟨wq, hwq⟩ : ∃ wq, wq = w6.drew := ⟨_, rfl⟩
                have hkq : Kp w6 wq := hwq ▸ (⟨rfl, rfl, rfl, Nat.le_refl _, fun _ _ => rfl⟩ : Kp w6 w6.drew)
                rw [← hwq]
                have hq : ClN bx wbk (woff + 0) S1 x wq := ⟨hkq.cell HM6.out.four.c0, hkq.cell hcx6⟩
                have HM6q := Lib.hid (HM6.out.kp hkq)
                have HK6q := Lib.hid (Kp.trans HK6.out hkq)
                have HZ6q := Lib.hid (HZ6.out.kp hkq)
                have hadd : (S1 ++ x).size ≤ 8000 + (0 + 1) * 281474976710657 := by rw [ByteArray.size_append]; omega
                clear hwq hkq hcx6
                refine anyT_take puts_true [0, 2, 3, 4] (by kernel_rfl) hq ?_
                simp only [opsAt, List.getElem?_toArray, List.getElem?_cons_zero, List.getElem?_cons_succ]
                repeat (go_big_quiet_step (fail))
                refine wpQuiet_nil ?_
                refine anyT_load puts_true 1 123 (.string S1) rfl rfl (by kernel_rfl) hq (fun w h => exec_load9 (h.p) (by first | rfl | simp [Act.eval]) rfl) ?_
                simp only [Act.put, List.setIfInBounds_toArray, List.set_cons_zero, List.set_cons_succ]
                refine anyT_load puts_true 5 127 (.string x) rfl rfl (by kernel_rfl) hq (fun w h => exec_load9 (h.c) (by first | rfl | simp [Act.eval]) rfl) ?_
                simp only [Act.put, List.setIfInBounds_toArray, List.set_cons_zero, List.set_cons_succ]
                refine anyT_take puts_true [6, 7] (by kernel_rfl) hq ?_
                simp only [opsAt, List.getElem?_toArray, List.getElem?_cons_zero, List.getElem?_cons_succ]
                repeat (go_big_quiet_step (fail))
                refine wpQuiet_nil ?_
                obtain ⟨s0, c6⟩ := hq
                have hf6 := HM6q.out.four.f0
                refine anyP_one 8 (by kernel_rfl) ?_
                simp only [opsAt, List.getElem?_toArray, List.getElem?_cons_zero, List.getElem?_cons_succ]
                go_wp2_with fail
                refine ⟨fun h => absurd rfl h, ?_⟩
                refine anyP_end (by kernel_rfl) ?_
                have hset2 := Fr.set wq ⟨bx, 0, none⟩ (.string (S1 ++ x))
                have HM7 := Lib.hid (HM6q.out.name (S1 ++ x))
                have HK7 := Lib.hid (kp_step' HK6q.out hset2 (by intro j hj; simp at hj; have := Hbx.out; omega))
                have HZ7 := Lib.hid (HZ6q.out.fr hset2 (by simp))
                clear hset2
                go_wp2_with fail
                go_roundw
                case rel => exact ⟨0 + 1, by omega, by go_num, by rw [Hnew2.out]; exact HM7.out, HK7.out, HZ7.out, by rw [Hnew2.out]; exact hadd⟩
                case measure => simp [intOf]; omega
              · have hnew : bs (q.nm ++ Q.plusAll 0 ((wb ss).take (j + 1))) = S0 ++ (⟨#[43]⟩ : ByteArray) ++ x := Hst2.out.trans (Hpl1.out (by omega))
                have Hnew := Lib.hid hnew
                have hj1 : 0 < j := by omega
                have h43 : (⟨#[43]⟩ : ByteArray).size = 1 := rfl
                have hs43 : (S0 ++ (⟨#[43]⟩ : ByteArray)).size ≤ 8000 + j * 281474976710657 + 1 := by rw [ByteArray.size_append]; omega
                have hset := Fr.set wv ⟨bx, 0, none⟩ (.string (S0 ++ (⟨#[43]⟩ : ByteArray)))
                have HM6 := Lib.hid (HMv.out.name (S0 ++ (⟨#[43]⟩ : ByteArray)))
                have HK6 := Lib.hid (kp_step' HKv.out hset (by intro j hj; simp at hj; have := Hbx.out; omega))
                have HZ6 := Lib.hid (HZv.out.fr hset (by simp))
                have hcx6 := hset.cell hcx (by simp; have := Hbx.out; omega)
                clear hnew hset
                go_upto_region 30 with fail
                clear y0 y1 y2 y3 z0 z1 z2 z3 hcx
                generalize wv.setCell ⟨bx, 0, none⟩ (.string (S0 ++ (⟨#[43]⟩ : ByteArray))) = w6 at *
                generalize S0 ++ (⟨#[43]⟩ : ByteArray) = S1 at *
                have Hnew2 := Lib.hid Hnew.out
                have hS1z := hs43
                refine anyP_start (ClN bx wbk (woff + j) S1 x) 8 (fun _ => True) (fun _ _ => False) (by kernel_rfl) (fun _ _ _ _ h => h.elim) ?_
                obtain ⟨wq, hwq⟩ : ∃ wq, wq = w6.drew := ⟨_, rfl⟩
                have hkq : Kp w6 wq := hwq ▸ (⟨rfl, rfl, rfl, Nat.le_refl _, fun _ _ => rfl⟩ : Kp w6 w6.drew)
                rw [← hwq]
                have hq : ClN bx wbk (woff + j) S1 x wq := ⟨hkq.cell HM6.out.four.c0, hkq.cell hcx6⟩
                have HM6q := Lib.hid (HM6.out.kp hkq)
                have HK6q := Lib.hid (Kp.trans HK6.out hkq)
                have HZ6q := Lib.hid (HZ6.out.kp hkq)
                have hadd : (S1 ++ x).size ≤ 8000 + (j + 1) * 281474976710657 := by rw [ByteArray.size_append]; omega
                clear hwq hkq hcx6
                refine anyT_take puts_true [0, 2, 3, 4] (by kernel_rfl) hq ?_
                simp only [opsAt, List.getElem?_toArray, List.getElem?_cons_zero, List.getElem?_cons_succ]
                repeat (go_big_quiet_step (fail))
                refine wpQuiet_nil ?_
                refine anyT_load puts_true 1 123 (.string S1) rfl rfl (by kernel_rfl) hq (fun w h => exec_load9 (h.p) (by first | rfl | simp [Act.eval]) rfl) ?_
                simp only [Act.put, List.setIfInBounds_toArray, List.set_cons_zero, List.set_cons_succ]
                refine anyT_load puts_true 5 127 (.string x) rfl rfl (by kernel_rfl) hq (fun w h => exec_load9 (h.c) (by first | rfl | simp [Act.eval]) rfl) ?_
                simp only [Act.put, List.setIfInBounds_toArray, List.set_cons_zero, List.set_cons_succ]
                refine anyT_take puts_true [6, 7] (by kernel_rfl) hq ?_
                simp only [opsAt, List.getElem?_toArray, List.getElem?_cons_zero, List.getElem?_cons_succ]
                repeat (go_big_quiet_step (fail))
                refine wpQuiet_nil ?_
                obtain ⟨s0, c6⟩ := hq
                have hf6 := HM6q.out.four.f0
                refine anyP_one 8 (by kernel_rfl) ?_
                simp only [opsAt, List.getElem?_toArray, List.getElem?_cons_zero, List.getElem?_cons_succ]
                go_wp2_with fail
                refine ⟨fun h => absurd rfl h, ?_⟩
                refine anyP_end (by kernel_rfl) ?_
                have hset2 := Fr.set wq ⟨bx, 0, none⟩ (.string (S1 ++ x))
                have HM7 := Lib.hid (HM6q.out.name (S1 ++ x))
                have HK7 := Lib.hid (kp_step' HK6q.out hset2 (by intro j hj; simp at hj; have := Hbx.out; omega))
                have HZ7 := Lib.hid (HZ6q.out.fr hset2 (by simp))
                clear hset2
                go_wp2_with fail
                go_roundw
                case rel => exact ⟨j + 1, by omega, by go_num, by rw [Hnew2.out]; exact HM7.out, HK7.out, HZ7.out, by rw [Hnew2.out]; exact hadd⟩
                case measure => simp [intOf]; omega
            · have hjn : j = nw := by omega
              subst hjn
              rw [List.take_of_length_le (by have := HW.out.1; simp [wb]; omega)] at HMv
              obtain ⟨wf, hwf, hFf, h4⟩ := HZv.out.set (.string (bs (q.nm ++ Q.plusAll 0 (wb ss)))) (tvv t0) (tvv t1) (tvv (subT tf D.length))
              have HKf := Lib.hid (kp_step' HKv.out hFf (by intro j hj; simp at hj; have := Hbx.out; omega))
              have HSf := Lib.hid ((HMv.out.sep.fr hFf (by intro x hx; simp at hx; omega)).base (B' := w.heap.size) (by have := Hbx.out; omega))
              unfold tvv at hwf
              have Hwf := Lib.hid hwf
              obtain ⟨q0, q1, q2, q3, _, _, _, _⟩ := h4
              unfold tvv at q1 q2 q3
              obtain ⟨y0, y1, y2, y3, z0, z1, z2, z3⟩ := HMv.out.four
              unfold tvv at y1 y2 y3
              obtain ⟨u0, u1, u2, u3, v0, v1, v2, v3⟩ := HZv.out
              clear hwf hFf
              go_wp2_with fail
              rw [← Hwf.out]
              refine bodyPost_ret (v := .tuple #[.agg #[.string (bs (q.nm ++ Q.plusAll 0 (wb ss))), tvv t0, tvv t1, tvv (subT tf D.length)], iv 0]) (by simp [results, Tryz.results29, go_sem, q0, q1, q2, q3, tvv]) rfl ?_
              exact RModPost.fine Hfin.out HKf.out HMv.out.hd HMv.out.h1 HMv.out.hl HSf.out
        · have Hbad := Lib.hid (show Q.modR ⟨nm.data.toList, b0, b1, ls⟩ (wb ss) = (none, c') by rw [Hmod2.out]; rw [if_neg (by rw [hqc]; exact hc0), hqc])
          have hci : ((c' : Nat) : Int) ≠ 0 := by omega
          obtain ⟨u0, u1, u2, u3, v0, v1, v2, v3⟩ := HZ5.out
          clear hqc
          go_wp2_with fail
          exact rm_bad HZ5.out HK5.out hwb Hbad.out _ rfl rfl
  · have Hcc := Lib.hid hcc
    have Hmod := Lib.hid (show Q.modR ⟨nm.data.toList, b0, b1, ls⟩ (wb ss) = (none, c) by
      unfold Q.modR
      rw [if_pos (show (⟨nm.data.toList, b0, b1, ls⟩ : Q.Pn).code ≠ 0 from by rw [show (⟨nm.data.toList, b0, b1, ls⟩ : Q.Pn).code = c from hcc.symm]; exact hc), show (⟨nm.data.toList, b0, b1, ls⟩ : Q.Pn).code = c from hcc.symm])
    have hci : ((c : Nat) : Int) ≠ 0 := by omega
    obtain ⟨y0, y1, y2, y3, z0, z1, z2, z3⟩ := HG2.out
    clear hcc
    go_wp2_with fail
    exact rm_bad HG2.out HK2.out hwb Hmod.out _ rfl rfl
end Go.Proofs.YtbdphdgomcabmaaGreatDoor

namespace Go.Proofs.YtbdphdgomcabmaaGreatDoor
open Go.RowKit

theorem rmod_all (w : World) (nm : ByteArray) (a0 a1 al : Option Addr) (n0 c0 n1 c1 nl cl : Nat) (b0 b1 : List Int) (ls : List Ln) (hP : PatI w a0 a1 al n0 n1 nl b0 b1 ls) (hs : ShortP nm n0 n1 nl ls)
    (ao : Option Addr) (nw cw : Nat) (ss : List ByteArray) (hW : Strs w ao nw ss) (hz : ∀ s ∈ ss, s.size ≤ 281474976710656) (hn : nw ≤ 200) :
    Calls Tryz.prog 29 #[patV nm a0 a1 al n0 c0 n1 c1 nl cl, .slice ao nw cw] w fun e w' => Kp w w' ∧ ∃ t0 t1 tl : Tv,
      e = .returned (.tuple #[.agg #[.string (mdf ⟨nm.data.toList, b0, b1, ls⟩ (wb ss)).1, tvv t0, tvv t1, tvv tl], iv (((mdf ⟨nm.data.toList, b0, b1, ls⟩ (wb ss)).2.2.2.2 : Nat) : Int)]) ∧
      PatI w' t0.ao t1.ao tl.ao t0.n t1.n tl.n (mdf ⟨nm.data.toList, b0, b1, ls⟩ (wb ss)).2.1 (mdf ⟨nm.data.toList, b0, b1, ls⟩ (wb ss)).2.2.1 (mdf ⟨nm.data.toList, b0, b1, ls⟩ (wb ss)).2.2.2.1 := by
  refine (rmodify_any w nm a0 a1 al n0 c0 n1 c1 nl cl b0 b1 ls hP hs ao nw cw ss hW hz hn).mono ?_
  rintro e w' ⟨hk, h⟩
  refine ⟨hk, ?_⟩
  have hc := modR_code ⟨nm.data.toList, b0, b1, ls⟩ (wb ss)
  unfold mdf
  generalize Q.modR ⟨nm.data.toList, b0, b1, ls⟩ (wb ss) = x at h hc
  obtain ⟨q, c⟩ := x
  cases q with
  | none => exact ⟨nilT, nilT, nilT, by rw [h]; rfl, PatI.none w'⟩
  | some q =>
    obtain ⟨t0, t1, tf, td, ts, D, he, hd, h1, hl, hS⟩ := h
    exact ⟨t0, t1, subT tf D.length, by rw [he]; rfl, (DrS.mk hd h1 hl hS).pat (by have := hc.1; omega) (fun l hl => by have := hc.2 l hl; omega)⟩
end Go.Proofs.YtbdphdgomcabmaaGreatDoor

namespace Go.Proofs.YtbdphdgomcabmaaGreatDoor
open Go.RowKit

/-- The rows of the table, as texts. -/
def rowsL : List ByteArray := [⟨#[73, 49, 75, 124, 124, 115, 124, 101, 32, 101, 115, 32, 115, 59, 101, 32, 101, 101, 59, 115, 101]⟩, ⟨#[73, 49, 75, 49, 124, 124, 115, 124, 101, 32, 115, 59, 101, 32, 101, 101, 32, 101, 115, 59, 115, 101]⟩, ⟨#[73, 49, 78, 124, 124, 124, 101, 32, 115, 59, 101, 32, 101, 101, 59, 115, 101]⟩, ⟨#[73, 49, 88, 124, 124, 124, 101, 32, 115, 59, 101, 32, 101, 101, 32, 115, 32, 101, 115, 59, 115, 101]⟩, ⟨#[73, 49, 88, 49, 124, 124, 124, 101, 32, 115, 59, 101, 32, 101, 101, 32, 115, 59, 115, 101, 32, 101, 115]⟩, ⟨#[73, 75, 124, 124, 115, 124, 101, 32, 101, 115, 32, 115, 32, 115, 115, 59, 101, 32, 101, 101, 32, 115, 101]⟩, ⟨#[73, 75, 49, 124, 124, 115, 124, 101, 32, 115, 59, 101, 32, 101, 101, 32, 115, 101, 32, 101, 115]⟩, ⟨#[73, 78, 124, 124, 124, 101, 32, 115, 59, 101, 32, 101, 101, 32, 115, 101]⟩, ⟨#[73, 88, 124, 124, 124, 101, 32, 115, 59, 101, 32, 101, 101, 32, 115, 101, 32, 115, 32, 101, 115]⟩, ⟨#[73, 88, 49, 124, 124, 124, 101, 32, 115, 59, 101, 32, 101, 101, 32, 115, 101, 32, 115, 59, 101, 115]⟩, ⟨#[75, 124, 115, 124, 115, 124, 101, 32, 101, 115, 32, 115, 115]⟩, ⟨#[75, 49, 75, 124, 115, 124, 115, 124, 101, 32, 101, 115, 59, 101, 32, 101, 101, 59, 115, 101]⟩, ⟨#[75, 49, 75, 49, 124, 115, 124, 115, 124, 101, 59, 101, 32, 101, 101, 32, 101, 115, 59, 115, 101]⟩, ⟨#[75, 49, 78, 124, 115, 124, 124, 101, 59, 101, 32, 101, 101, 59, 115, 101]⟩, ⟨#[75, 49, 88, 124, 115, 124, 124, 101, 59, 101, 32, 101, 101, 32, 115, 32, 101, 115, 59, 115, 101]⟩, ⟨#[75, 49, 88, 49, 124, 115, 124, 124, 101, 59, 101, 32, 101, 101, 32, 115, 59, 115, 101, 32, 101, 115]⟩, ⟨#[75, 75, 124, 115, 124, 115, 124, 101, 32, 101, 115, 32, 115, 115, 59, 101, 32, 101, 101, 32, 115, 101]⟩, ⟨#[75, 75, 49, 124, 115, 124, 115, 124, 101, 59, 101, 32, 101, 101, 32, 115, 101, 32, 101, 115]⟩, ⟨#[75, 78, 124, 115, 124, 124, 101, 59, 101, 32, 101, 101, 32, 115, 101]⟩, ⟨#[75, 88, 124, 115, 124, 124, 101, 59, 101, 32, 101, 101, 32, 115, 101, 32, 115, 32, 101, 115]⟩, ⟨#[75, 88, 49, 124, 115, 124, 124, 101, 59, 101, 32, 101, 101, 32, 115, 101, 32, 115, 59, 101, 115]⟩, ⟨#[78, 124, 124, 115, 124, 101, 32, 101, 115]⟩, ⟨#[78, 75, 124, 124, 115, 124, 101, 32, 101, 115, 59, 101, 32, 101, 101]⟩, ⟨#[78, 75, 49, 124, 124, 115, 124, 101, 59, 101, 32, 101, 101, 32, 101, 115]⟩, ⟨#[78, 78, 124, 124, 124, 101, 59, 101, 32, 101, 101]⟩, ⟨#[78, 88, 124, 124, 124, 101, 59, 101, 32, 101, 101, 32, 115, 32, 101, 115]⟩, ⟨#[78, 88, 49, 124, 124, 124, 101, 59, 101, 32, 101, 101, 32, 115, 59, 101, 115]⟩, ⟨#[88, 124, 124, 115, 124, 101, 32, 101, 115, 32, 115, 32, 115, 115]⟩, ⟨#[88, 49, 75, 124, 124, 115, 124, 101, 32, 101, 115, 59, 101, 32, 101, 101, 59, 115, 59, 115, 101]⟩, ⟨#[88, 49, 75, 49, 124, 124, 115, 124, 101, 59, 101, 32, 101, 101, 32, 101, 115, 59, 115, 59, 115, 101]⟩, ⟨#[88, 49, 78, 124, 124, 124, 101, 59, 101, 32, 101, 101, 59, 115, 59, 115, 101]⟩, ⟨#[88, 49, 88, 124, 124, 124, 101, 59, 101, 32, 101, 101, 32, 115, 32, 101, 115, 59, 115, 59, 115, 101]⟩, ⟨#[88, 49, 88, 49, 124, 124, 124, 101, 59, 101, 32, 101, 101, 32, 115, 59, 101, 115, 32, 115, 59, 115, 101]⟩, ⟨#[88, 75, 124, 124, 115, 124, 101, 32, 101, 115, 59, 101, 32, 101, 101, 59, 115, 32, 115, 101]⟩, ⟨#[88, 75, 49, 124, 124, 115, 124, 101, 59, 101, 32, 101, 101, 32, 101, 115, 59, 115, 32, 115, 101]⟩, ⟨#[88, 78, 124, 124, 124, 101, 59, 101, 32, 101, 101, 59, 115, 32, 115, 101]⟩, ⟨#[88, 88, 124, 124, 124, 101, 59, 101, 32, 101, 101, 32, 115, 32, 101, 115, 59, 115, 32, 115, 101]⟩, ⟨#[88, 88, 49, 124, 124, 124, 101, 59, 101, 32, 101, 101, 32, 115, 59, 101, 115, 32, 115, 32, 115, 101]⟩]
theorem rowsL_length : rowsL.length = 38 := rfl
def RowsPost (w : World) (e : Ending) (w' : World) : Prop := Kp w w' ∧ ∃ b, e = .returned (.slice (some ⟨b, 0, none⟩) 38 38) ∧ Strs w' (some ⟨b, 0, none⟩) 38 rowsL

set_option maxRecDepth 100000 in
set_option maxHeartbeats 4000000 in
theorem rows_any (w : World) : Calls Tryz.prog 70 #[] w (RowsPost w) := by
  have hpost : RowsPost w (.returned (.slice (some ⟨w.heap.size, 0, none⟩) 38 38)) (w.alloc (.cells (rowsL.map Value.string).toArray 9)) := ⟨Kp.new _ _, w.heap.size, rfl, rfl, by unfold maxLen; omega, Cs.new w (rowsL.map Value.string) 9 (0, 0)⟩
  have Hpost := Lib.hid hpost; clear hpost
  go_enter Tryz.func70, Tryz.ntmps70
  go_wp2_with fail
  go_ret
  exact Hpost.out
end Go.Proofs.YtbdphdgomcabmaaGreatDoor

namespace Go.Proofs.YtbdphdgomcabmaaGreatDoor
open Go.RowKit

/-- A text's parts, its lines, and what a row holds. -/
def partL (r : ByteArray) (j : Nat) : ByteArray := (splitL r 124).getD j ⟨#[]⟩
def lineL (l : List ByteArray) (k : Nat) : List Ln := l.mapIdx fun i x => (((k + i) % 2 : Nat), tokL x)
def rowLs (r : ByteArray) : List Ln := lineL (splitL (partL r 3) 59) 0
/-- No part of a row is long. -/
def rowOk (r : ByteArray) : Bool := (splitL r 124).length == 4 && decide (r.size ≤ 1000) && decide ((partL r 1).size ≤ 1000) && decide ((partL r 2).size ≤ 1000) && decide ((partL r 3).size ≤ 1000) && ((splitL (partL r 3) 59).all fun x => decide (x.size ≤ 1000)) && decide ((splitL (partL r 3) 59).length ≤ 1000)
theorem rows_ok : (rowsL.all rowOk) = true := by kernel_rfl
def nameNN : ByteArray := ⟨#[78, 78]⟩
/-- The row NN: its number, its parts. -/
theorem nn_at : (rowsL.findIdx? fun r => decide ((partL r 0).data.toList = nameNN.data.toList)) = some 24 := by kernel_rfl
theorem nn_b0 : (partL (rowsL.getD 24 ⟨#[]⟩) 1).size = 0 := by kernel_rfl
theorem nn_b1 : (partL (rowsL.getD 24 ⟨#[]⟩) 2).size = 0 := by kernel_rfl
/-- Tokens, as the kernel reckons them. -/
def tokQ (x : ByteArray) : Nat → List Int
  | 0 => []
  | j + 1 => tokQ x j ++ (if ((wordL (j + 1)).data.toList == x.data.toList) = true then [((j + 1 : Nat) : Int)] else [])
theorem tokOf_q (x : ByteArray) (j : Nat) : tokOf x j = tokQ x j := by
  induction j with
  | zero => rfl
  | succ j ih => unfold tokOf tokQ; rw [ih, ByteArray.toList_eq, ByteArray.toList_eq]
def tokLQ (s : ByteArray) : List Int := if s.size = 0 then [] else (splitL s 32).flatMap (tokQ · 7)
theorem tokL_q (s : ByteArray) : tokL s = tokLQ s := by
  unfold tokL tokLQ
  have : (fun x => tokOf x 7) = fun x => tokQ x 7 := funext fun x => tokOf_q x 7
  rw [this]
def rowLsQ (r : ByteArray) : List Ln := (splitL (partL r 3) 59).mapIdx fun i x => (((0 + i) % 2 : Nat), tokLQ x)
theorem rowLs_q (r : ByteArray) : rowLs r = rowLsQ r := by
  unfold rowLs lineL rowLsQ
  congr 1
  funext i x
  rw [tokL_q]
theorem nn_ls : rowLs (rowsL.getD 24 ⟨#[]⟩) = [(0, [1]), (1, [1, 3])] := by rw [rowLs_q]; kernel_rfl
end Go.Proofs.YtbdphdgomcabmaaGreatDoor

namespace Go.Proofs.YtbdphdgomcabmaaGreatDoor
open Go.RowKit

/-- It holds, and goes on to hold when only the blocks of X change. -/
def Sta (w : World) (X : List Nat) (P : World → Prop) : Prop := ∀ w', Fr X w w' → P w'
theorem Sta.now {w : World} {X : List Nat} {P : World → Prop} (h : Sta w X P) : P w := h w (Fr.refl _ _)
theorem Sta.step {a b : World} {X Y Z : List Nat} {P : World → Prop} (h : Sta a X P) (k : Fr Y a b) (hY : ∀ j ∈ Y, j ∈ X ∨ a.heap.size ≤ j) (hZ : ∀ j ∈ Z, j ∈ X ∨ a.heap.size ≤ j) : Sta b Z P := fun w' k' =>
  h w' (((Fr.refl X a).step k hY).step k' hZ)
theorem Sta.kp {a b : World} {X : List Nat} {P : World → Prop} (h : Sta a X P) (k : Kp a b) : Sta b X P := h.step (Fr.of_kp k) (by simp) (fun _ hj => .inl hj)
theorem Sta.new {w : World} {ao : Option Addr} {n : Nat} {xs : List Int} {X : List Nat} (h : Is w ao n xs) (hX : ∀ k ∈ blkL ao, k ∉ X) : Sta w X (fun w => Is w ao n xs) := fun _ k => ⟨h.1, h.2.1, k.cs h.2.2 hX⟩
theorem Sta.mp {w : World} {X : List Nat} {P Q : World → Prop} (h : Sta w X P) (hPQ : ∀ w', P w' → Q w') : Sta w X Q := fun w' k => hPQ w' (h w' k)
theorem Sta.sub {w : World} {X Y : List Nat} {P : World → Prop} (h : Sta w X P) (hs : ∀ j ∈ Y, j ∈ X) : Sta w Y P := fun w' k => h w' (k.mono hs)

/-- Messages of the call's own, each with a list of its own; the blocks of X may change. -/
def LnO (w : World) (B : Nat) (X : List Nat) (ao : Option Addr) (n cap : Nat) (ls : List Ln) : Prop :=
  ls.length = n ∧ ∃ ts : List Tv, ts.length = ls.length ∧ Own w B 45 2 ao n cap (lnc ls ts) ∧ ∀ (j : Nat) (h : j < ls.length) (h' : j < ts.length), ts[j].n ≤ 7007 ∧ Sta w (blkL ao ++ X) (fun w => Is w ts[j].ao ts[j].n ls[j].2)
theorem LnO.nil (w : World) (B : Nat) (X : List Nat) : LnO w B X none 0 0 [] := ⟨rfl, [], rfl, Own.nil _ _ _ _, fun j h => by simp at h⟩
theorem LnO.lns {w : World} {B : Nat} {X : List Nat} {ao : Option Addr} {n cap : Nat} {ls : List Ln} (h : LnO w B X ao n cap ls) (hn : n ≤ 140737488351232) : Lns w ao n ls := by
  obtain ⟨h1, ts, h2, h3, h4⟩ := h
  refine ⟨h1, hn, fun j hj => ?_⟩
  obtain ⟨b, off, rfl, hc⟩ := h3.cs.at (j * 2) (by rw [lnc_length h2]; omega)
  obtain ⟨g0, g1⟩ := lnc_get h2 j hj
  obtain ⟨q1, q2⟩ := h4 j hj (by omega)
  exact ⟨b, off, _, _, _, rfl, hc _ _ g0, by have := hc _ _ g1; rwa [← Nat.add_assoc] at this, q2.now, by omega⟩
/-- The messages hold on while the blocks of X change. -/
theorem LnO.sta {w : World} {B : Nat} {X Y : List Nat} {ao : Option Addr} {n cap : Nat} {ls : List Ln} (h : LnO w B X ao n cap ls) (hn : n ≤ 140737488351232) (hY : ∀ j ∈ Y, j ∈ X) (hB : ∀ j ∈ Y, j ∉ blkL ao) : Sta w Y (fun w => Lns w ao n ls) := by
  intro w' k
  obtain ⟨h1, ts, h2, h3, h4⟩ := h
  refine LnO.lns (X := []) (B := B) (cap := cap) ⟨h1, ts, h2, k.own h3 (fun j hj hj2 => hB j hj2 hj), fun j hj hj' => ⟨(h4 j hj hj').1, ?_⟩⟩ hn
  exact (h4 j hj hj').2.step k (fun i hi => .inl (List.mem_append.2 (.inr (hY i hi)))) (fun i hi => .inl (List.mem_append.2 (.inl (by simpa using hi))))
theorem LnO.keep {w w' : World} {B : Nat} {X Y : List Nat} {ao : Option Addr} {n cap : Nat} {ls : List Ln} (h : LnO w B X ao n cap ls) (k : Fr Y w w') (hY : ∀ j ∈ Y, j ∈ X ∨ w.heap.size ≤ j) (hB : ∀ j ∈ Y, j ∉ blkL ao) : LnO w' B X ao n cap ls := by
  obtain ⟨h1, ts, h2, h3, h4⟩ := h
  exact ⟨h1, ts, h2, k.own h3 (fun j hj hj2 => hB j hj2 hj), fun j hj hj' => ⟨(h4 j hj hj').1, (h4 j hj hj').2.step k (fun i hi => (hY i hi).imp (fun q => List.mem_append.2 (.inr q)) id) (fun i hi => .inl hi)⟩⟩
/-- One more message. -/
theorem LnO.app {a w w' : World} {B : Nat} {X : List Nat} {ao ao' : Option Addr} {n cap cap' N : Nat} {ls : List Ln} (h : LnO a B X ao n cap ls) (ts : List Tv) (h2 : ts.length = ls.length) (h4 : ∀ (j : Nat) (h : j < ls.length) (h' : j < ts.length), ts[j].n ≤ 7007 ∧ Sta a (blkL ao ++ X) (fun w => Is w ts[j].ao ts[j].n ls[j].2))
    (k : Kp a w) (l : Ln) (t : Tv) (ht : Is w t.ao t.n l.2) (htn : t.n ≤ 7007) (hX : ∀ j ∈ blkL t.ao, j < w.heap.size ∧ j ∉ blkL ao ++ X) (hN : N = n + 1)
    (ha : Appd w w' B 45 2 ao cap 1 N (lnc (ls ++ [l]) (ts ++ [t])) ao' cap') : LnO w' B X ao' N cap' (ls ++ [l]) := by
  have hf := ha.fr
  have hb' : ∀ j ∈ blkL ao', j ∈ blkL ao ∨ j = w.heap.size := fun j hj => by
    rcases ha.fresh j (mem_blkL.1 hj) with q | q
    · exact .inl (mem_blkL.2 q)
    · exact .inr q
  have hsz := k.size
  refine ⟨by rw [List.length_append, h.1, hN]; rfl, ts ++ [t], by simp [h2], ha.own, fun j hj hj' => ?_⟩
  by_cases hlt : j < ls.length
  · rw [List.getElem_append_left hlt, List.getElem_append_left (by omega)]
    refine ⟨(h4 j hlt (by omega)).1, ((h4 j hlt (by omega)).2.kp k).step hf (fun i hi => .inl (List.mem_append.2 (.inl hi))) (fun i hi => ?_)⟩
    rcases List.mem_append.1 hi with q | q
    · rcases hb' i q with q | q
      · exact .inl (List.mem_append.2 (.inl q))
      · exact .inr (by omega)
    · exact .inl (List.mem_append.2 (.inr q))
  · have hje : j = ls.length := by simp at hj; omega
    subst hje
    rw [List.getElem_concat_length rfl]
    have : (ts ++ [t])[ls.length]'hj' = t := by simp [← h2]
    rw [this]
    refine ⟨htn, Sta.step (Sta.new ht (fun i hi => (hX i hi).2)) hf (fun i hi => .inl (List.mem_append.2 (.inl hi))) (fun i hi => ?_)⟩
    rcases List.mem_append.1 hi with q | q
    · rcases hb' i q with q | q
      · exact .inl (List.mem_append.2 (.inl q))
      · exact .inr (by omega)
    · exact .inl (List.mem_append.2 (.inr q))

/-- A pattern among the cells of a list. -/
structure Pv where
  nm : ByteArray
  b0 : Tv
  b1 : Tv
  ls : Tv
def pvc (p : Pv) : List Value := [.string p.nm, tvv p.b0, tvv p.b1, tvv p.ls]
theorem pvc_len (ps : List Pv) : (ps.flatMap pvc).length = ps.length * 4 := by
  induction ps with
  | nil => rfl
  | cons p r ih => simp only [List.flatMap_cons, List.length_append, ih, List.length_cons, pvc, List.length_nil]; omega
theorem pvc_get (ps : List Pv) (j : Nat) (h : j < ps.length) : (ps.flatMap pvc)[j * 4]? = some (.string ps[j].nm) ∧ (ps.flatMap pvc)[j * 4 + 1]? = some (tvv ps[j].b0) ∧ (ps.flatMap pvc)[j * 4 + 2]? = some (tvv ps[j].b1) ∧ (ps.flatMap pvc)[j * 4 + 3]? = some (tvv ps[j].ls) := by
  induction ps generalizing j with
  | nil => simp at h
  | cons p r ih =>
    rw [List.flatMap_cons]
    rcases j with _ | j
    · exact ⟨rfl, rfl, rfl, rfl⟩
    · have := ih j (by simpa using h)
      simp only [List.getElem_cons_succ]
      rw [show (j + 1) * 4 = j * 4 + 4 by omega]
      have e : ∀ i, (pvc p ++ r.flatMap pvc)[i + 4]? = (r.flatMap pvc)[i]? := fun i => by
        rw [List.getElem?_append_right (by simp [pvc])]
        rfl
      rw [show j * 4 + 4 + 1 = j * 4 + 1 + 4 by omega, show j * 4 + 4 + 2 = j * 4 + 2 + 4 by omega, show j * 4 + 4 + 3 = j * 4 + 3 + 4 by omega, e, e, e, e]
      exact this
/-- A pattern's lists read what its row says. -/
def PvR (r : ByteArray) (p : Pv) (w : World) : Prop := p.b0.n ≤ 7007 ∧ p.b1.n ≤ 7007 ∧ p.ls.n ≤ 7007 ∧ Is w p.b0.ao p.b0.n (tokL (partL r 1)) ∧ Is w p.b1.ao p.b1.n (tokL (partL r 2)) ∧ Lns w p.ls.ao p.ls.n (rowLs r)
/-- The first k patterns of the table, in a list of the call's own. -/
def PvO (w : World) (B : Nat) (X : List Nat) (ao : Option Addr) (n cap : Nat) (k : Nat) : Prop :=
  n = k ∧ ∃ ps : List Pv, ps.length = k ∧ Own w B 26 4 ao n cap (ps.flatMap pvc) ∧ ∀ (j : Nat) (h : j < ps.length) (r : ByteArray), rowsL[j]? = some r → ps[j].nm = partL r 0 ∧ Sta w (blkL ao ++ X) (PvR r ps[j])
theorem PvO.nil (w : World) (B : Nat) (X : List Nat) : PvO w B X none 0 0 0 := ⟨rfl, [], rfl, Own.nil _ _ _ _, fun j h => by simp at h⟩
theorem PvO.app {a w w' : World} {B : Nat} {X : List Nat} {ao ao' : Option Addr} {n cap cap' N k : Nat} (ps : List Pv) (h1 : n = k) (h2 : ps.length = k) (h4 : ∀ (j : Nat) (h : j < ps.length) (r : ByteArray), rowsL[j]? = some r → ps[j].nm = partL r 0 ∧ Sta a (blkL ao ++ X) (PvR r ps[j]))
    (hk : Kp a w) (p : Pv) (r : ByteArray) (hr : rowsL[k]? = some r) (hnm : p.nm = partL r 0) (hp : Sta w (blkL ao ++ X) (PvR r p)) (hN : N = n + 1)
    (ha : Appd w w' B 26 4 ao cap 1 N ((ps ++ [p]).flatMap pvc) ao' cap') : PvO w' B X ao' N cap' (k + 1) := by
  have hf := ha.fr
  have hb' : ∀ j ∈ blkL ao' ++ X, j ∈ blkL ao ++ X ∨ w.heap.size ≤ j := fun j hj => by
    rcases List.mem_append.1 hj with hj | hj
    · rcases ha.fresh j (mem_blkL.1 hj) with q | q
      · exact .inl (List.mem_append.2 (.inl (mem_blkL.2 q)))
      · exact .inr (by omega)
    · exact .inl (List.mem_append.2 (.inr hj))
  refine ⟨by omega, ps ++ [p], by simp [h2], ha.own, fun j hj r' hr' => ?_⟩
  by_cases hlt : j < ps.length
  · rw [List.getElem_append_left hlt]
    obtain ⟨q1, q2⟩ := h4 j hlt r' hr'
    exact ⟨q1, (q2.kp hk).step hf (fun i hi => .inl (List.mem_append.2 (.inl hi))) hb'⟩
  · have hje : j = ps.length := by simp at hj; omega
    subst hje
    rw [h2] at hr'
    rw [hr] at hr'
    cases hr'
    rw [List.getElem_concat_length rfl]
    exact ⟨hnm, hp.step hf (fun i hi => .inl (List.mem_append.2 (.inl hi))) hb'⟩
theorem el80 : El Tryz.prog 42 26 (.agg #[.string ⟨#[]⟩, .slice none 0 0, .slice none 0 0, .slice none 0 0]) 4 88 := ⟨Tryz.underlying42, by kernel_rfl, rfl, by decide, by decide⟩
end Go.Proofs.YtbdphdgomcabmaaGreatDoor

namespace Go.Proofs.YtbdphdgomcabmaaGreatDoor
open Go.RowKit

theorem row_ok {k : Nat} {r : ByteArray} (h : rowsL[k]? = some r) : r.size ≤ 1000 ∧ (splitL r 124).length = 4 ∧ (partL r 1).size ≤ 1000 ∧ (partL r 2).size ≤ 1000 ∧ (partL r 3).size ≤ 1000 ∧ (∀ x ∈ splitL (partL r 3) 59, x.size ≤ 1000) ∧ (splitL (partL r 3) 59).length ≤ 1000 := by
  have hm := List.all_eq_true.1 rows_ok r (List.mem_of_getElem? h)
  simp only [rowOk, Bool.and_eq_true, decide_eq_true_eq, beq_iff_eq, List.all_eq_true] at hm
  obtain ⟨⟨⟨⟨⟨⟨h1, h2⟩, h3⟩, h4⟩, h5⟩, h6⟩, h7⟩ := hm
  exact ⟨h2, h1, h3, h4, h5, h6, h7⟩

/-- The variable that a row's pattern is made in. -/
def At4 (w : World) (b : Nat) (nm : ByteArray) (t0 t1 tl : Tv) : Prop :=
  (w.cell? ⟨b, 0, none⟩ = some (.string nm) ∧ w.cell? ⟨b, 1, none⟩ = some (tvv t0) ∧ w.cell? ⟨b, 2, none⟩ = some (tvv t1) ∧ w.cell? ⟨b, 3, none⟩ = some (tvv tl)) ∧ w.frozen? ⟨b, 1, none⟩ = false ∧ w.frozen? ⟨b, 2, none⟩ = false ∧ w.frozen? ⟨b, 3, none⟩ = false
theorem At4.new (w : World) (nm : ByteArray) : At4 (w.alloc (.cells #[.string nm, .slice none 0 0, .slice none 0 0, .slice none 0 0] 26)) w.heap.size nm ⟨none, 0, 0⟩ ⟨none, 0, 0⟩ ⟨none, 0, 0⟩ := by
  refine ⟨⟨?_, ?_, ?_, ?_⟩, ?_, ?_, ?_⟩
  · rw [World.cell?_alloc_at _ _ _ _ rfl]; rfl
  · rw [World.cell?_alloc_at _ _ _ _ rfl]; rfl
  · rw [World.cell?_alloc_at _ _ _ _ rfl]; rfl
  · rw [World.cell?_alloc_at _ _ _ _ rfl]; rfl
  · exact World.frozen?_alloc_at _ _ _ _ rfl
  · exact World.frozen?_alloc_at _ _ _ _ rfl
  · exact World.frozen?_alloc_at _ _ _ _ rfl
theorem At4.fr {X : List Nat} {w w' : World} {b : Nat} {nm : ByteArray} {t0 t1 tl : Tv} (h : At4 w b nm t0 t1 tl) (k : Fr X w w') (hb : b ∉ X) : At4 w' b nm t0 t1 tl := by
  obtain ⟨⟨h0, h1, h2, h3⟩, f1, f2, f3⟩ := h
  exact ⟨⟨k.cell h0 hb, k.cell h1 hb, k.cell h2 hb, k.cell h3 hb⟩, k.free h1 f1 hb, k.free h2 f2 hb, k.free h3 f3 hb⟩
theorem At4.kp {w w' : World} {b : Nat} {nm : ByteArray} {t0 t1 tl : Tv} (h : At4 w b nm t0 t1 tl) (k : Kp w w') : At4 w' b nm t0 t1 tl := h.fr (Fr.of_kp k) (by simp)
theorem At4.set1 {w : World} {b : Nat} {nm : ByteArray} {t0 t1 tl : Tv} (h : At4 w b nm t0 t1 tl) (t : Tv) : At4 (w.setCell ⟨b, 1, none⟩ (tvv t)) b nm t t1 tl := by
  obtain ⟨⟨h0, h1, h2, h3⟩, f1, f2, f3⟩ := h
  refine ⟨⟨?_, World.cell?_setCell_same _ _ _ h1, ?_, ?_⟩, ?_, ?_, ?_⟩
  · rw [World.cell?_setCell_other _ _ _ _ (by simp)]; exact h0
  · rw [World.cell?_setCell_other _ _ _ _ (by simp)]; exact h2
  · rw [World.cell?_setCell_other _ _ _ _ (by simp)]; exact h3
  · rw [World.frozen?_setCell]; exact f1
  · rw [World.frozen?_setCell]; exact f2
  · rw [World.frozen?_setCell]; exact f3
theorem At4.set2 {w : World} {b : Nat} {nm : ByteArray} {t0 t1 tl : Tv} (h : At4 w b nm t0 t1 tl) (t : Tv) : At4 (w.setCell ⟨b, 2, none⟩ (tvv t)) b nm t0 t tl := by
  obtain ⟨⟨h0, h1, h2, h3⟩, f1, f2, f3⟩ := h
  refine ⟨⟨?_, ?_, World.cell?_setCell_same _ _ _ h2, ?_⟩, ?_, ?_, ?_⟩
  · rw [World.cell?_setCell_other _ _ _ _ (by simp)]; exact h0
  · rw [World.cell?_setCell_other _ _ _ _ (by simp)]; exact h1
  · rw [World.cell?_setCell_other _ _ _ _ (by simp)]; exact h3
  · rw [World.frozen?_setCell]; exact f1
  · rw [World.frozen?_setCell]; exact f2
  · rw [World.frozen?_setCell]; exact f3
theorem At4.set3 {w : World} {b : Nat} {nm : ByteArray} {t0 t1 tl : Tv} (h : At4 w b nm t0 t1 tl) (t : Tv) : At4 (w.setCell ⟨b, 3, none⟩ (tvv t)) b nm t0 t1 t := by
  obtain ⟨⟨h0, h1, h2, h3⟩, f1, f2, f3⟩ := h
  refine ⟨⟨?_, ?_, ?_, World.cell?_setCell_same _ _ _ h3⟩, ?_, ?_, ?_⟩
  · rw [World.cell?_setCell_other _ _ _ _ (by simp)]; exact h0
  · rw [World.cell?_setCell_other _ _ _ _ (by simp)]; exact h1
  · rw [World.cell?_setCell_other _ _ _ _ (by simp)]; exact h2
  · rw [World.frozen?_setCell]; exact f1
  · rw [World.frozen?_setCell]; exact f2
  · rw [World.frozen?_setCell]; exact f3
theorem row_step {r : ByteArray} {pcs : List ByteArray} (h : rowLs r = lineL pcs 0) (j : Nat) (hj : j < pcs.length) : (rowLs r).take (j + 1) = (rowLs r).take j ++ [(((j % 2 : Nat) : Int), tokL pcs[j])] := by
  have hl : j < (rowLs r).length := by rw [h]; unfold lineL; rw [List.length_mapIdx]; exact hj
  rw [take_step _ _ hl]
  congr 2
  have : ∀ (l : List Ln) (e : rowLs r = l) (h' : j < l.length), (rowLs r)[j] = l[j] := fun l e h' => by subst e; rfl
  rw [this _ h (by rw [← h]; exact hl)]
  unfold lineL
  rw [List.getElem_mapIdx, Nat.zero_add]
/-- What one more message leaves. -/
theorem all_fin {w8 wr wq wc wz w9 : World} {bp : Nat} {nm : ByteArray} {T0 T1 : Tv} {al ao2 tt : Option Addr} {FF : List Nat} {nl cl cap2 mt dt : Nat} {ls : List Ln} {l : Ln} (hl1 : ls.length = nl) (ts : List Tv) (hl2 : ts.length = ls.length) (hl3 : Own wr w8.heap.size 45 2 al nl cl (lnc ls ts))
    (hl4 : ∀ (j : Nat) (h : j < ls.length) (h' : j < ts.length), ts[j].n ≤ 7007 ∧ Sta wr (blkL al ++ (bp :: FF)) (fun w => Is w ts[j].ao ts[j].n ls[j].2)) (hk : Kp wr wz) (hP : At4 wr bp nm T0 T1 ⟨al, nl, cl⟩) (hF : Fr [bp] w8 wr) (hbp : bp < w8.heap.size)
    (hbt : ∀ i ∈ blkL tt, wq.heap.size ≤ i ∧ i < wc.heap.size) (hq : wr.heap.size ≤ wq.heap.size) (_hq2 : wq.heap.size ≤ wz.heap.size) (hq3 : wc.heap.size ≤ wz.heap.size) (hT : Is wz tt mt l.2) (hmt : mt ≤ 7007) (hFb : ∀ j ∈ FF, j < bp)
    (ha : Appd wz w9 w8.heap.size 45 2 al cl 1 (nl + 1) (lnc (ls ++ [l]) (ts ++ [⟨tt, mt, dt⟩])) ao2 cap2) :
    At4 (w9.setCell ⟨bp, 3, none⟩ (.slice ao2 (nl + 1) cap2)) bp nm T0 T1 ⟨ao2, nl + 1, cap2⟩ ∧ LnO (w9.setCell ⟨bp, 3, none⟩ (.slice ao2 (nl + 1) cap2)) w8.heap.size (bp :: FF) ao2 (nl + 1) cap2 (ls ++ [l]) ∧ Fr [bp] w8 (w9.setCell ⟨bp, 3, none⟩ (.slice ao2 (nl + 1) cap2)) := by
  have hal : ∀ i ∈ blkL al, w8.heap.size ≤ i ∧ i < wr.heap.size := fun i hi => hl3.lt i (mem_blkL.1 hi)
  have hbal : bp ∉ blkL al := fun h => by have := (hal bp h).1; omega
  have hs8 := hF.size
  have hL9 : LnO w9 w8.heap.size (bp :: FF) ao2 (nl + 1) cap2 (ls ++ [l]) := LnO.app (a := wr) (w := wz) ⟨hl1, ts, hl2, hl3, hl4⟩ ts hl2 hl4 hk l ⟨tt, mt, dt⟩ hT hmt (fun i hi => by
    obtain ⟨q1, q2⟩ := hbt i hi
    refine ⟨by omega, fun hm => ?_⟩
    rcases List.mem_append.1 hm with q | q
    · have := (hal i q).2; omega
    · rcases List.mem_cons.1 q with q | q
      · omega
      · have := hFb i q; omega) rfl ha
  have hset := Fr.set w9 ⟨bp, 3, none⟩ (.slice ao2 (nl + 1) cap2)
  refine ⟨((hP.kp hk).fr ha.fr hbal).set3 ⟨ao2, nl + 1, cap2⟩, hL9.keep hset (fun i hi => .inl (by simp at hi; simp [hi])) (fun i hi hm => ?_), ?_⟩
  · have := (ha.own.lt i (mem_blkL.1 hm)).1
    simp at hi; omega
  · exact ((hF.trans ((Fr.of_kp hk).mono (by simp))).step ha.fr (fun i hi => .inr (hal i hi).1)).trans hset
theorem PvO.mono {w : World} {B B' : Nat} {X : List Nat} {ao : Option Addr} {n cap k : Nat} (h : PvO w B X ao n cap k) (hb : B' ≤ B) : PvO w B' X ao n cap k := by
  obtain ⟨h1, ps, h2, h3, h4⟩ := h
  exact ⟨h1, ps, h2, h3.mono (fun i hi => Nat.le_trans hb (h3.lt i hi).1), h4⟩
def AllPost (w : World) (X : List Nat) (e : Ending) (w' : World) : Prop := Kp w w' ∧ ∃ ao n cap, e = .returned (.slice ao n cap) ∧ PvO w' w.heap.size X ao n cap 38

set_option maxRecDepth 100000 in
set_option maxHeartbeats 4000000 in
theorem all_any (w : World) (X : List Nat) (hX : ∀ j ∈ X, j < w.heap.size) : Calls Tryz.prog 46 #[] w (AllPost w X) := by
  have Hr := Lib.hid (rows_any w)
  go_enter Tryz.func46, Tryz.ntmps46
  go_wp2_with fail
  (with_reducible refine Hr.out.mono ?_)
  rintro e w1 ⟨hk1, rb, rfl, hS⟩
  have hw1 := hk1.size
  go_wp2_with fail
  go_loopw [1, 3] (fun l i wr => ∃ k n cap ao, k ≤ 38 ∧ i = .int .i64 (k : Nat) ∧ l = .slice ao n cap ∧ PvO wr w1.heap.size X ao n cap k ∧ Kp w1 wr) (fun _ i _ => 38 - (intOf i).toNat)
  case atStart => exact ⟨0, 0, 0, none, by omega, rfl, rfl, PvO.nil _ _ _, Kp.refl _⟩
  case round =>
    obtain ⟨k, n, cap, ao, hk, rfl, rfl, hO, hkk⟩ := hrel
    by_cases hlt : k < 38
    · rename World => wo
      obtain ⟨hnk, ps, hpl, hown, hps⟩ := hO
      replace hnk := hnk.symm
      subst hnk
      obtain ⟨b, off, hbo, hcc⟩ := hS.at k hlt
      have hck := hkk.cell (hcc k hlt)
      have hrk : rowsL[k]? = some (rowsL[k]'(by rw [rowsL_length]; exact hlt)) := List.getElem?_eq_getElem _
      cases hbo
      rw [Nat.zero_add] at hck
      generalize rowsL[k]'(by rw [rowsL_length]; exact hlt) = r at hck hrk
      obtain ⟨r1, r2, r3, r4, r5, r6, r7⟩ := row_ok hrk
      have Hsp := Lib.hid (show Calls Tryz.prog 71 #[.string r, .int .u8 124] wo (SplitPost wo (splitL r 124)) from split_any wo r 124 r1)
      clear hcc
      have Hps := Lib.hid hps; clear hps
      have Hrk := Lib.hid hrk; clear hrk
      have Hr6 := Lib.hid r6; clear r6
      go_wp2_with fail
      (with_reducible refine Hsp.out.mono ?_)
      rintro e w2 ⟨hk2, xo, xm, xc, rfl, hX, _⟩
      have hxm : xm = 4 := by rw [← hX.1, r2]
      subst hxm
      obtain ⟨xb, xoff, rfl, hxc⟩ := hX.at 0 (by omega)
      have hpart : ∀ j (h : j < 4), (splitL r 124)[j]'(by omega) = partL r j := fun j h => by unfold partL; rw [List.getD, List.getElem?_eq_getElem (by omega)]; rfl
      have x0 := hxc 0 (by omega)
      have x1 := hxc 1 (by omega)
      have x2 := hxc 2 (by omega)
      have x3 := hxc 3 (by omega)
      rw [hpart 0 (by omega), Nat.add_zero] at x0
      rw [hpart 1 (by omega)] at x1
      rw [hpart 2 (by omega)] at x2
      rw [hpart 3 (by omega)] at x3
      have hxb : xb < w2.heap.size := World.block_lt_of_cell? w2 _ x0
      clear hxc hX hpart hck r1 r2
      go_upto_region 8 with fail
      generalize hw3 : w2.alloc (.cells #[.string (partL r 0), .slice none 0 0, .slice none 0 0, .slice none 0 0] 26) = w3
      have hk3 : Kp w2 w3 := hw3 ▸ Kp.new _ _
      obtain ⟨bp, hbp⟩ : ∃ bp, bp = w2.heap.size := ⟨_, rfl⟩
      have hP : At4 w3 bp (partL r 0) ⟨none, 0, 0⟩ ⟨none, 0, 0⟩ ⟨none, 0, 0⟩ := by rw [hbp]; exact hw3 ▸ At4.new w2 _
      rw [← hbp]
      have hFb : ∀ j ∈ blkL ao ++ X, j < bp := fun j hj => by
        have := hk2.size
        rcases List.mem_append.1 hj with hj | hj
        · have := (hown.lt j (mem_blkL.1 hj)).2; omega
        · have := hX j hj; have := hkk.size; omega
      have hbo : wo.heap.size ≤ bp := by have := hk2.size; omega
      have hbp3 : bp < w3.heap.size := World.block_lt_of_cell? w3 _ hP.1.1
      have hxn : xb ≠ bp := by omega
      clear hbp hw3
      replace x1 := hk3.cell x1
      replace x2 := hk3.cell x2
      replace x3 := hk3.cell x3
      have Ht1 := Lib.hid (tokens_any w3 (partL r 1) r3)
      clear x0
      go_wp2_with fail
      (with_reducible refine Ht1.out.mono ?_)
      rintro e w4 ⟨hk4, t0, m0, d0, rfl, hT0, hm0, hd0, hb0⟩
      replace hP := hP.kp hk4
      obtain ⟨⟨e0, e1, e2, e3⟩, f1, f2, f3⟩ := hP
      go_upto_region 9 with fail
      generalize hw5 : w4.setCell ⟨bp, 1, none⟩ (.slice t0 m0 d0) = w5
      have hF5 : Fr [bp] w4 w5 := hw5 ▸ Fr.set w4 ⟨bp, 1, none⟩ _
      have hP : At4 w5 bp (partL r 0) ⟨t0, m0, d0⟩ ⟨none, 0, 0⟩ ⟨none, 0, 0⟩ := hw5 ▸ At4.set1 ⟨⟨e0, e1, e2, e3⟩, f1, f2, f3⟩ ⟨t0, m0, d0⟩
      clear hw5 e0 e1 e2 e3 f1 f2 f3
      have S0 : Sta w5 (bp :: (blkL ao ++ X)) (fun w => Is w t0 m0 (tokL (partL r 1))) := (Sta.new (X := bp :: (blkL ao ++ X)) hT0 (fun j hj hj2 => by
        have := hb0 j hj
        rcases List.mem_cons.1 hj2 with q | q
        · omega
        · have := hFb j q; omega)).step hF5 (fun j hj => .inl (by simp at hj; simp [hj])) (fun j hj => .inl hj)
      replace x2 := hF5.cell (hk4.cell x2) (by simpa using hxn)
      replace x3 := hF5.cell (hk4.cell x3) (by simpa using hxn)
      have hs35 : w3.heap.size ≤ w5.heap.size := Nat.le_trans hk4.size hF5.size
      have hF35 : Fr [bp] w3 w5 := ((Fr.of_kp hk4).mono (by simp)).trans hF5
      have Ht2 := Lib.hid (tokens_any w5 (partL r 2) r4)
      clear Ht1 hT0 hb0 x1
      go_wp2_with fail
      (with_reducible refine Ht2.out.mono ?_)
      rintro e w6 ⟨hk6, t1, m1, d1, rfl, hT1, hm1, hd1, hb1⟩
      replace hP := hP.kp hk6
      obtain ⟨⟨e0, e1, e2, e3⟩, f1, f2, f3⟩ := hP
      go_upto_region 10 with fail
      generalize hw7 : w6.setCell ⟨bp, 2, none⟩ (.slice t1 m1 d1) = w7
      have hF7 : Fr [bp] w6 w7 := hw7 ▸ Fr.set w6 ⟨bp, 2, none⟩ _
      have hP : At4 w7 bp (partL r 0) ⟨t0, m0, d0⟩ ⟨t1, m1, d1⟩ ⟨none, 0, 0⟩ := hw7 ▸ At4.set2 ⟨⟨e0, e1, e2, e3⟩, f1, f2, f3⟩ ⟨t1, m1, d1⟩
      clear hw7 e0 e1 e2 e3 f1 f2 f3
      have S1 : Sta w7 (bp :: (blkL ao ++ X)) (fun w => Is w t1 m1 (tokL (partL r 2))) := (Sta.new (X := bp :: (blkL ao ++ X)) hT1 (fun j hj hj2 => by
        have := hb1 j hj
        rcases List.mem_cons.1 hj2 with q | q
        · omega
        · have := hFb j q; omega)).step hF7 (fun j hj => .inl (by simp at hj; simp [hj])) (fun j hj => .inl hj)
      replace S0 := (S0.kp hk6).step hF7 (Z := bp :: (blkL ao ++ X)) (fun j hj => .inl (by simp at hj; simp [hj])) (fun j hj => .inl hj)
      replace x3 := hF7.cell (hk6.cell x3) (by simpa using hxn)
      have hF37 : Fr [bp] w3 w7 := hF35.trans (((Fr.of_kp hk6).mono (by simp)).trans hF7)
      have hs37 : w3.heap.size ≤ w7.heap.size := Nat.le_trans hs35 (Nat.le_trans hk6.size hF7.size)
      have Ht3 := Lib.hid (show Calls Tryz.prog 71 #[.string (partL r 3), .int .u8 59] w7 (SplitPost w7 (splitL (partL r 3) 59)) from split_any w7 (partL r 3) 59 r5)
      clear Ht2 hT1 hb1 x2
      go_wp2_with fail
      (with_reducible refine Ht3.out.mono ?_)
      rintro e w8 ⟨hk8, yo, M, yc, rfl, hY, hyb⟩
      replace hP := hP.kp hk8
      replace S0 := S0.kp hk8
      replace S1 := S1.kp hk8
      have hM : M ≤ 1000 := by rw [← hY.1]; exact r7
      have hF38 : Fr [bp] w3 w8 := hF37.trans ((Fr.of_kp hk8).mono (by simp))
      have hs38 : w3.heap.size ≤ w8.heap.size := Nat.le_trans hs37 hk8.size
      have hyn : ∀ j ∈ blkL yo, j ≠ bp := fun j hj => by have := hyb j hj; omega
      obtain ⟨pcs, hpcs⟩ : ∃ pcs, pcs = splitL (partL r 3) 59 := ⟨_, rfl⟩
      rw [← hpcs] at hY Hr6
      have Hls := Lib.hid (show rowLs r = lineL pcs 0 by rw [hpcs]; rfl)
      clear hpcs Ht3 x3 hyb r3 r4 r5 r7
      go_wp2_with fail
      have Hd := Lib.hid (And.intro hk2 (And.intro hk3 hF38))
      have HS := Lib.hid (And.intro S0 S1)
      clear hF5 hk4 hF35 hk6 hF7 hF37 hk8 hs35 hs37 S0 S1 Hsp hF38
      go_loopw [7] (fun i wi => ∃ (j nl cl : Nat) (al : Option Addr), j ≤ M ∧ i = .int .i64 (j : Nat) ∧ At4 wi bp (partL r 0) ⟨t0, m0, d0⟩ ⟨t1, m1, d1⟩ ⟨al, nl, cl⟩ ∧ LnO wi w8.heap.size (bp :: (blkL ao ++ X)) al nl cl ((rowLs r).take j) ∧ Fr [bp] w8 wi) (fun i _ => M - (intOf i).toNat)
      case atStart => exact ⟨0, 0, 0, none, by omega, rfl, hP, LnO.nil _ _ _, Fr.refl _ _⟩
      case round =>
        obtain ⟨j, nl, cl, al, hj, rfl, hP, hL, hF⟩ := hrel
        by_cases hjM : j < M
        · obtain ⟨yb, yoff, rfl, hyc⟩ := hY.at j hjM
          have hlj : j < pcs.length := by rw [hY.1]; exact hjM
          have hyj := hF.cell (hyc j hjM) (by have := hyn yb (by simp [blkL, blk]); simpa using this)
          have hxs := Hr6.out (pcs[j]'hlj) (List.getElem_mem _)
          have hst := row_step Hls.out j hlj
          clear hyc
          generalize pcs[j]'hlj = x at hyj hxs hst
          have Hst := Lib.hid hst; clear hst
          obtain ⟨⟨e0, e1, e2, e3⟩, f1, f2, f3⟩ := hP
          obtain ⟨hl1, ts, hl2, hl3, hl4⟩ := hL
          have hnl : nl ≤ 1000 := by rw [← hl1, List.length_take]; omega
          have hbal : bp ∉ blkL al := fun h => by have := (hl3.lt bp (mem_blkL.1 h)).1; omega
          have HP := Lib.hid (show At4 wr bp (partL r 0) ⟨t0, m0, d0⟩ ⟨t1, m1, d1⟩ ⟨al, nl, cl⟩ from ⟨⟨e0, e1, e2, e3⟩, f1, f2, f3⟩)
          clear e0 e1 e2 f1 f2
          go_upto_region 14 with fail
          refine any_start (by kernel_rfl) ?_
          refine any_take [0, 2, 3, 4, 5, 6] (by kernel_rfl) ?_
          simp only [opsAt, List.getElem?_toArray, List.getElem?_cons_zero, List.getElem?_cons_succ]
          repeat (go_big_quiet_step (fail))
          refine wpQuiet_nil ?_
          generalize hwq : wr.drew = wq
          have hkq : Kp wr wq := hwq ▸ Kp.of_drewN wr 1
          replace e3 : wq.cell? ⟨bp, 3, none⟩ = some (.slice al nl cl) := hkq.cell e3
          have e3q := e3
          replace f3 := (HP.out.kp hkq).2.2.2
          have hyq := hkq.cell hyj
          have Htk := Lib.hid (tokens_any wq x hxs)
          clear hwq hyj
          refine any_two 1 7 (by kernel_rfl) ?_ ?_
          · simp only [opsAt, List.getElem?_toArray, List.getElem?_cons_zero, List.getElem?_cons_succ]
            go_wp2_with fail
            refine any_one 7 (by kernel_rfl) ?_
            simp only [opsAt, List.getElem?_toArray, List.getElem?_cons_zero, List.getElem?_cons_succ]
            go_wp2_with fail
            refine any_one 8 (by kernel_rfl) ?_
            simp only [opsAt, List.getElem?_toArray, List.getElem?_cons_zero, List.getElem?_cons_succ]
            go_wp2_with (go_at_call 72; go_loud (refine Htk.out.mono ?_); rintro e wc ⟨hkc, tt, mt, dt, rfl, hT, hmt, hdt, hbt⟩; have e3 := Kp.cell hkc e3; have f3 := Kp.frz hkc e3q f3; have e3c := e3)
            refine any_take [9] (by kernel_rfl) ?_
            simp only [opsAt, List.getElem?_toArray, List.getElem?_cons_zero, List.getElem?_cons_succ]
            repeat (go_big_quiet_step (fail))
            refine wpQuiet_nil ?_
            refine any_one 10 (by kernel_rfl) ?_
            simp only [opsAt, List.getElem?_toArray, List.getElem?_cons_zero, List.getElem?_cons_succ]
            go_wp2_with fail
            have hcs : Cs (wc.alloc (.cells #[iv ((j : Int) % 2), .slice tt mt dt] 45)) (some ⟨wc.heap.size, 0, none⟩) [iv ((j : Int) % 2), .slice tt mt dt] := Cs.new wc [iv ((j : Int) % 2), .slice tt mt dt] 45 (0, 0)
            have hkz : Kp wc (wc.alloc (.cells #[iv ((j : Int) % 2), .slice tt mt dt] 45)) := Kp.new wc _
            generalize wc.alloc (.cells #[iv ((j : Int) % 2), .slice tt mt dt] 45) = wz at hcs hkz ⊢
            have f3 := Kp.frz hkz e3c f3
            have e3 := Kp.cell hkz e3c
            have e3z := e3
            have hkwz : Kp wr wz := Kp.trans hkq (Kp.trans hkc hkz)
            refine any_one 11 (by kernel_rfl) ?_
            simp only [opsAt, List.getElem?_toArray, List.getElem?_cons_zero, List.getElem?_cons_succ]
            go_wp2_with (at_builtin; refine wpList_app rfl (.tmp 47) (.tmp 56) 24 rfl el24 w8.heap.size rfl (hl3.keep hkwz) rfl [iv ((j : Int) % 2), .slice tt mt dt] rfl hcs (by simp [Value.oneCell']) (nl + 1) rfl (lnc ((rowLs r).take j ++ [(((j % 2 : Nat) : Int), tokL x)]) (ts ++ [⟨tt, mt, dt⟩])) (lnc_append _ _ hl2) (by omega) (Nat.le_trans hF.size hkwz.size) ?_; intro ao2 cap2 w9 ha; have e3 := Fr.cell ha.fr e3 hbal; have f3 := Fr.free ha.fr e3z f3 hbal)
            refine any_take [12] (by kernel_rfl) ?_
            simp only [opsAt, List.getElem?_toArray, List.getElem?_cons_zero, List.getElem?_cons_succ]
            repeat (go_big_quiet_step (fail))
            refine wpQuiet_nil ?_
            refine any_one 13 (by kernel_rfl) ?_
            simp only [opsAt, List.getElem?_toArray, List.getElem?_cons_zero, List.getElem?_cons_succ]
            go_wp2_with fail
            refine any_end (by kernel_rfl) ?_
            have Hfin := Lib.hid (all_fin hl1 ts hl2 hl3 hl4 hkwz HP.out hF (by omega) (fun i hi => (hbt i hi)) hkq.size (hkc.trans hkz).size hkz.size (hkz.is hT) hmt hFb ha)
            go_wp2_with fail
            go_roundw
            case rel => exact ⟨j + 1, nl + 1, cap2, ao2, by omega, by go_num, Hfin.out.1, by rw [Hst.out]; exact Hfin.out.2.1, Hfin.out.2.2⟩
            case measure => simp [intOf]; omega
          · simp only [opsAt, List.getElem?_toArray, List.getElem?_cons_zero, List.getElem?_cons_succ]
            go_wp2_with fail
            refine any_two 1 8 (by kernel_rfl) ?_ ?_
            · simp only [opsAt, List.getElem?_toArray, List.getElem?_cons_zero, List.getElem?_cons_succ]
              go_wp2_with fail
              refine any_one 8 (by kernel_rfl) ?_
              simp only [opsAt, List.getElem?_toArray, List.getElem?_cons_zero, List.getElem?_cons_succ]
              go_wp2_with (go_at_call 72; go_loud (refine Htk.out.mono ?_); rintro e wc ⟨hkc, tt, mt, dt, rfl, hT, hmt, hdt, hbt⟩; have e3 := Kp.cell hkc e3; have f3 := Kp.frz hkc e3q f3; have e3c := e3)
              refine any_take [9] (by kernel_rfl) ?_
              simp only [opsAt, List.getElem?_toArray, List.getElem?_cons_zero, List.getElem?_cons_succ]
              repeat (go_big_quiet_step (fail))
              refine wpQuiet_nil ?_
              refine any_one 10 (by kernel_rfl) ?_
              simp only [opsAt, List.getElem?_toArray, List.getElem?_cons_zero, List.getElem?_cons_succ]
              go_wp2_with fail
              have hcs : Cs (wc.alloc (.cells #[iv ((j : Int) % 2), .slice tt mt dt] 45)) (some ⟨wc.heap.size, 0, none⟩) [iv ((j : Int) % 2), .slice tt mt dt] := Cs.new wc [iv ((j : Int) % 2), .slice tt mt dt] 45 (0, 0)
              have hkz : Kp wc (wc.alloc (.cells #[iv ((j : Int) % 2), .slice tt mt dt] 45)) := Kp.new wc _
              generalize wc.alloc (.cells #[iv ((j : Int) % 2), .slice tt mt dt] 45) = wz at hcs hkz ⊢
              have f3 := Kp.frz hkz e3c f3
              have e3 := Kp.cell hkz e3c
              have e3z := e3
              have hkwz : Kp wr wz := Kp.trans hkq (Kp.trans hkc hkz)
              refine any_one 11 (by kernel_rfl) ?_
              simp only [opsAt, List.getElem?_toArray, List.getElem?_cons_zero, List.getElem?_cons_succ]
              go_wp2_with (at_builtin; refine wpList_app rfl (.tmp 47) (.tmp 56) 24 rfl el24 w8.heap.size rfl (hl3.keep hkwz) rfl [iv ((j : Int) % 2), .slice tt mt dt] rfl hcs (by simp [Value.oneCell']) (nl + 1) rfl (lnc ((rowLs r).take j ++ [(((j % 2 : Nat) : Int), tokL x)]) (ts ++ [⟨tt, mt, dt⟩])) (lnc_append _ _ hl2) (by omega) (Nat.le_trans hF.size hkwz.size) ?_; intro ao2 cap2 w9 ha; have e3 := Fr.cell ha.fr e3 hbal; have f3 := Fr.free ha.fr e3z f3 hbal)
              refine any_take [12] (by kernel_rfl) ?_
              simp only [opsAt, List.getElem?_toArray, List.getElem?_cons_zero, List.getElem?_cons_succ]
              repeat (go_big_quiet_step (fail))
              refine wpQuiet_nil ?_
              refine any_one 13 (by kernel_rfl) ?_
              simp only [opsAt, List.getElem?_toArray, List.getElem?_cons_zero, List.getElem?_cons_succ]
              go_wp2_with fail
              refine any_end (by kernel_rfl) ?_
              have Hfin := Lib.hid (all_fin hl1 ts hl2 hl3 hl4 hkwz HP.out hF (by omega) (fun i hi => (hbt i hi)) hkq.size (hkc.trans hkz).size hkz.size (hkz.is hT) hmt hFb ha)
              go_wp2_with fail
              go_roundw
              case rel => exact ⟨j + 1, nl + 1, cap2, ao2, by omega, by go_num, Hfin.out.1, by rw [Hst.out]; exact Hfin.out.2.1, Hfin.out.2.2⟩
              case measure => simp [intOf]; omega
            · simp only [opsAt, List.getElem?_toArray, List.getElem?_cons_zero, List.getElem?_cons_succ]
              go_wp2_with (go_at_call 72; go_loud (refine Htk.out.mono ?_); rintro e wc ⟨hkc, tt, mt, dt, rfl, hT, hmt, hdt, hbt⟩; have e3 := Kp.cell hkc e3; have f3 := Kp.frz hkc e3q f3; have e3c := e3)
              refine any_take [9] (by kernel_rfl) ?_
              simp only [opsAt, List.getElem?_toArray, List.getElem?_cons_zero, List.getElem?_cons_succ]
              repeat (go_big_quiet_step (fail))
              refine wpQuiet_nil ?_
              refine any_two 1 10 (by kernel_rfl) ?_ ?_
              · simp only [opsAt, List.getElem?_toArray, List.getElem?_cons_zero, List.getElem?_cons_succ]
                go_wp2_with fail
                refine any_one 10 (by kernel_rfl) ?_
                simp only [opsAt, List.getElem?_toArray, List.getElem?_cons_zero, List.getElem?_cons_succ]
                go_wp2_with fail
                have hcs : Cs (wc.alloc (.cells #[iv ((j : Int) % 2), .slice tt mt dt] 45)) (some ⟨wc.heap.size, 0, none⟩) [iv ((j : Int) % 2), .slice tt mt dt] := Cs.new wc [iv ((j : Int) % 2), .slice tt mt dt] 45 (0, 0)
                have hkz : Kp wc (wc.alloc (.cells #[iv ((j : Int) % 2), .slice tt mt dt] 45)) := Kp.new wc _
                generalize wc.alloc (.cells #[iv ((j : Int) % 2), .slice tt mt dt] 45) = wz at hcs hkz ⊢
                have f3 := Kp.frz hkz e3c f3
                have e3 := Kp.cell hkz e3c
                have e3z := e3
                have hkwz : Kp wr wz := Kp.trans hkq (Kp.trans hkc hkz)
                refine any_one 11 (by kernel_rfl) ?_
                simp only [opsAt, List.getElem?_toArray, List.getElem?_cons_zero, List.getElem?_cons_succ]
                go_wp2_with (at_builtin; refine wpList_app rfl (.tmp 47) (.tmp 56) 24 rfl el24 w8.heap.size rfl (hl3.keep hkwz) rfl [iv ((j : Int) % 2), .slice tt mt dt] rfl hcs (by simp [Value.oneCell']) (nl + 1) rfl (lnc ((rowLs r).take j ++ [(((j % 2 : Nat) : Int), tokL x)]) (ts ++ [⟨tt, mt, dt⟩])) (lnc_append _ _ hl2) (by omega) (Nat.le_trans hF.size hkwz.size) ?_; intro ao2 cap2 w9 ha; have e3 := Fr.cell ha.fr e3 hbal; have f3 := Fr.free ha.fr e3z f3 hbal)
                refine any_take [12] (by kernel_rfl) ?_
                simp only [opsAt, List.getElem?_toArray, List.getElem?_cons_zero, List.getElem?_cons_succ]
                repeat (go_big_quiet_step (fail))
                refine wpQuiet_nil ?_
                refine any_one 13 (by kernel_rfl) ?_
                simp only [opsAt, List.getElem?_toArray, List.getElem?_cons_zero, List.getElem?_cons_succ]
                go_wp2_with fail
                refine any_end (by kernel_rfl) ?_
                have Hfin := Lib.hid (all_fin hl1 ts hl2 hl3 hl4 hkwz HP.out hF (by omega) (fun i hi => (hbt i hi)) hkq.size (hkc.trans hkz).size hkz.size (hkz.is hT) hmt hFb ha)
                go_wp2_with fail
                go_roundw
                case rel => exact ⟨j + 1, nl + 1, cap2, ao2, by omega, by go_num, Hfin.out.1, by rw [Hst.out]; exact Hfin.out.2.1, Hfin.out.2.2⟩
                case measure => simp [intOf]; omega
              · simp only [opsAt, List.getElem?_toArray, List.getElem?_cons_zero, List.getElem?_cons_succ]
                go_wp2_with fail
                have hcs : Cs (wc.alloc (.cells #[iv ((j : Int) % 2), .slice tt mt dt] 45)) (some ⟨wc.heap.size, 0, none⟩) [iv ((j : Int) % 2), .slice tt mt dt] := Cs.new wc [iv ((j : Int) % 2), .slice tt mt dt] 45 (0, 0)
                have hkz : Kp wc (wc.alloc (.cells #[iv ((j : Int) % 2), .slice tt mt dt] 45)) := Kp.new wc _
                generalize wc.alloc (.cells #[iv ((j : Int) % 2), .slice tt mt dt] 45) = wz at hcs hkz ⊢
                have f3 := Kp.frz hkz e3c f3
                have e3 := Kp.cell hkz e3c
                have e3z := e3
                refine any_one 1 (by kernel_rfl) ?_
                simp only [opsAt, List.getElem?_toArray, List.getElem?_cons_zero, List.getElem?_cons_succ]
                go_wp2_with fail
                have hkwz : Kp wr wz := Kp.trans hkq (Kp.trans hkc hkz)
                refine any_one 11 (by kernel_rfl) ?_
                simp only [opsAt, List.getElem?_toArray, List.getElem?_cons_zero, List.getElem?_cons_succ]
                go_wp2_with (at_builtin; refine wpList_app rfl (.tmp 47) (.tmp 56) 24 rfl el24 w8.heap.size rfl (hl3.keep hkwz) rfl [iv ((j : Int) % 2), .slice tt mt dt] rfl hcs (by simp [Value.oneCell']) (nl + 1) rfl (lnc ((rowLs r).take j ++ [(((j % 2 : Nat) : Int), tokL x)]) (ts ++ [⟨tt, mt, dt⟩])) (lnc_append _ _ hl2) (by omega) (Nat.le_trans hF.size hkwz.size) ?_; intro ao2 cap2 w9 ha; have e3 := Fr.cell ha.fr e3 hbal; have f3 := Fr.free ha.fr e3z f3 hbal)
                refine any_take [12] (by kernel_rfl) ?_
                simp only [opsAt, List.getElem?_toArray, List.getElem?_cons_zero, List.getElem?_cons_succ]
                repeat (go_big_quiet_step (fail))
                refine wpQuiet_nil ?_
                refine any_one 13 (by kernel_rfl) ?_
                simp only [opsAt, List.getElem?_toArray, List.getElem?_cons_zero, List.getElem?_cons_succ]
                go_wp2_with fail
                refine any_end (by kernel_rfl) ?_
                have Hfin := Lib.hid (all_fin hl1 ts hl2 hl3 hl4 hkwz HP.out hF (by omega) (fun i hi => (hbt i hi)) hkq.size (hkc.trans hkz).size hkz.size (hkz.is hT) hmt hFb ha)
                go_wp2_with fail
                go_roundw
                case rel => exact ⟨j + 1, nl + 1, cap2, ao2, by omega, by go_num, Hfin.out.1, by rw [Hst.out]; exact Hfin.out.2.1, Hfin.out.2.2⟩
                case measure => simp [intOf]; omega
        · obtain rfl : j = M := by omega
          rw [List.take_of_length_le (by rw [Hls.out]; unfold lineL; rw [List.length_mapIdx, hY.1]; exact Nat.le_refl _)] at hL
          have hnl : nl ≤ 1000 := by rw [← hL.1, Hls.out]; unfold lineL; rw [List.length_mapIdx, hY.1]; exact hM
          have hkwr : Kp wo wr := (((Fr.of_kp Hd.out.1).trans (Fr.of_kp Hd.out.2.1)).step (Hd.out.2.2.trans hF) (fun i hi => .inr (by simp at hi; omega))).kp
          have hSL : Sta wr (blkL ao ++ X) (fun w => Lns w al nl (rowLs r)) := hL.sta (by omega) (fun i hi => List.mem_cons_of_mem _ hi) (fun i hi hm => by
            obtain ⟨_, ts, _, hl3, _⟩ := hL
            have := (hl3.lt i (mem_blkL.1 hm)).1
            have := hFb i hi; omega)
          have hS0 := (HS.out.1.step hF (Z := blkL ao ++ X) (fun i hi => .inl (by simp at hi; simp [hi])) (fun i hi => .inl (List.mem_cons_of_mem _ hi)))
          have hS1 := (HS.out.2.step hF (Z := blkL ao ++ X) (fun i hi => .inl (by simp at hi; simp [hi])) (fun i hi => .inl (List.mem_cons_of_mem _ hi)))
          have hpv : Sta wr (blkL ao ++ X) (PvR r ⟨partL r 0, ⟨t0, m0, d0⟩, ⟨t1, m1, d1⟩, ⟨al, nl, cl⟩⟩) := fun w' k => ⟨hm0, hm1, by show nl ≤ 7007; omega, hS0 w' k, hS1 w' k, hSL w' k⟩
          obtain ⟨⟨e0, e1, e2, e3⟩, f1, f2, f3⟩ := hP
          unfold tvv at e1 e2 e3
          simp only at e1 e2 e3
          clear hSL hS0 hS1 HS hL hF Hd
          have hcs : Cs (wr.alloc (.cells #[.string (partL r 0), .slice t0 m0 d0, .slice t1 m1 d1, .slice al nl cl] 26)) (some ⟨wr.heap.size, 0, none⟩) [.string (partL r 0), .slice t0 m0 d0, .slice t1 m1 d1, .slice al nl cl] := Cs.new wr [.string (partL r 0), .slice t0 m0 d0, .slice t1 m1 d1, .slice al nl cl] 26 (0, 0)
          have hown2 : Own (wr.alloc (.cells #[.string (partL r 0), .slice t0 m0 d0, .slice t1 m1 d1, .slice al nl cl] 26)) w1.heap.size 26 4 ao k cap (ps.flatMap pvc) := hown.keep (Kp.trans hkwr (Kp.new _ _))
          have hbase : w1.heap.size ≤ (wr.alloc (.cells #[.string (partL r 0), .slice t0 m0 d0, .slice t1 m1 d1, .slice al nl cl] 26)).heap.size := Nat.le_trans hkk.size (Nat.le_trans hkwr.size (by simp))
          have hzs : (ps ++ [(⟨partL r 0, ⟨t0, m0, d0⟩, ⟨t1, m1, d1⟩, ⟨al, nl, cl⟩⟩ : Pv)]).flatMap pvc = ps.flatMap pvc ++ [.string (partL r 0), .slice t0 m0 d0, .slice t1 m1 d1, .slice al nl cl] := by simp [pvc, tvv]
          have hby : (k + 1) * 88 ≤ 140737488355328 := by omega
          have hone : ∀ u ∈ ([.string (partL r 0), .slice t0 m0 d0, .slice t1 m1 d1, .slice al nl cl] : List Value), u.oneCell' = true := by simp [Value.oneCell']
          go_wp2_with (at_builtin; refine wpList_app rfl (.tmp 59) (.tmp 61) 42 rfl el80 w1.heap.size rfl hown2 rfl [.string (partL r 0), .slice t0 m0 d0, .slice t1 m1 d1, .slice al nl cl] rfl hcs hone (k + 1) rfl ((ps ++ [(⟨partL r 0, ⟨t0, m0, d0⟩, ⟨t1, m1, d1⟩, ⟨al, nl, cl⟩⟩ : Pv)]).flatMap pvc) hzs hby hbase ?_; intro ao2 cap2 w9 ha)
          have Hfin := Lib.hid (show PvO w9 w1.heap.size X ao2 (k + 1) cap2 (k + 1) ∧ Kp w1 w9 from ⟨PvO.app (k := k) ps rfl hpl Hps.out (Kp.trans hkwr (Kp.new _ _)) ⟨partL r 0, ⟨t0, m0, d0⟩, ⟨t1, m1, d1⟩, ⟨al, nl, cl⟩⟩ r Hrk.out rfl (hpv.kp (Kp.new _ _)) rfl ha, ((Fr.of_kp (Kp.trans hkk (Kp.trans hkwr (Kp.new _ _)))).step ha.fr (fun i hi => .inr (hown2.lt i (mem_blkL.1 hi)).1)).kp⟩)
          clear ha
          go_wp2_with fail
          go_roundw
          case rel => exact ⟨k + 1, k + 1, cap2, ao2, by omega, by go_num, rfl, Hfin.out.1, Hfin.out.2⟩
          case measure => simp [intOf]; omega
    · obtain rfl : k = 38 := by omega
      have hpost : AllPost w X (.returned (.slice ao n cap)) wr := ⟨Kp.trans hk1 hkk, ao, n, cap, rfl, hO.mono hw1⟩
      have Hpost := Lib.hid hpost; clear hpost hO
      go_wp2_with fail
      go_ret
      exact Hpost.out
end Go.Proofs.YtbdphdgomcabmaaGreatDoor

namespace Go.Proofs.YtbdphdgomcabmaaGreatDoor
open Go.RowKit

/-- The document's table, read. -/
def refL : List (Q.Bt × (List Int × List Int) × List Ln) := rowsL.map fun r => ((partL r 0).data.toList, (tokLQ (partL r 1), tokLQ (partL r 2)), rowLsQ r)
theorem ref_rows : (refL.map fun x => (rowOf x.1).map (fun y => (y.1, y.2.1, y.2.2.1))) = refL.map some := by kernel_rfl
theorem ref_names : (Q.tableL.all fun y => refL.any (fun x => x.1 == y.1)) = true := by kernel_rfl
theorem ref_small : (refL.all fun x => decide (x.2.1.1.length ≤ 2) && decide (x.2.1.2.length ≤ 2) && decide (x.2.2.length ≤ 4) && x.2.2.all (fun l => decide (l.2.length ≤ 5))) = true := by kernel_rfl
theorem ref_mem {k : Nat} {r : ByteArray} (h : rowsL[k]? = some r) : ((partL r 0).data.toList, (tokL (partL r 1), tokL (partL r 2)), rowLs r) ∈ refL := by
  rw [tokL_q, tokL_q, rowLs_q]
  exact List.mem_map.2 ⟨r, List.mem_of_getElem? h, rfl⟩
theorem ref_at {k : Nat} {r : ByteArray} (h : rowsL[k]? = some r) : ∃ y : Row, rowOf (partL r 0).data.toList = some y ∧ y.1 = (partL r 0).data.toList ∧ y.2.1.1 = tokL (partL r 1) ∧ y.2.1.2 = tokL (partL r 2) ∧ y.2.2.1 = rowLs r := by
  have hm := ref_mem h
  obtain ⟨j, hj⟩ := List.getElem?_of_mem hm
  have h1 : (refL.map fun x => (rowOf x.1).map (fun y => (y.1, y.2.1, y.2.2.1)))[j]? = (refL.map some)[j]? := by rw [ref_rows]
  rw [List.getElem?_map, List.getElem?_map, hj] at h1
  simp only [Option.map_some, Option.some.injEq] at h1
  obtain ⟨y, hy, he⟩ := Option.map_eq_some_iff.1 h1
  simp only [Prod.mk.injEq] at he
  exact ⟨y, hy, he.1, by rw [he.2.1], by rw [he.2.1], he.2.2⟩
theorem ref_none {nm : Q.Bt} (h : ∀ (k : Nat) (r : ByteArray), rowsL[k]? = some r → (partL r 0).data.toList ≠ nm) : rowOf nm = none := by
  unfold rowOf
  rw [List.find?_eq_none]
  intro y hy hc
  have h1 := List.all_eq_true.1 ref_names y hy
  obtain ⟨x, hx, hxe⟩ := List.any_eq_true.1 h1
  obtain ⟨r, hr, rfl⟩ := List.mem_map.1 hx
  obtain ⟨k, hk⟩ := List.getElem?_of_mem hr
  exact h k r hk ((beq_iff_eq.1 hxe).trans (beq_iff_eq.1 hc))
/-- What the document's Find answers. -/
def RFindPost (w : World) (nm : Q.Bt) (e : Ending) (w' : World) : Prop := Kp w w' ∧ match rowOf nm with
  | none => e = .returned (.tuple #[zeroP, .bool false])
  | some y => ∃ t0 t1 tl : Tv, e = .returned (.tuple #[.agg #[.string (bs y.1), tvv t0, tvv t1, tvv tl], .bool true]) ∧ PatI w' t0.ao t1.ao tl.ao t0.n t1.n tl.n y.2.1.1 y.2.1.2 y.2.2.1
theorem RFindPost.no {w w' : World} {nm : Q.Bt} (hk : Kp w w') (h : rowOf nm = none) : RFindPost w nm (.returned (.tuple #[zeroP, .bool false])) w' := ⟨hk, by rw [h]⟩
theorem RFindPost.yes {w w' : World} {nm : Q.Bt} {y : Row} {t0 t1 tl : Tv} (hk : Kp w w') (h : rowOf nm = some y) (hp : PatI w' t0.ao t1.ao tl.ao t0.n t1.n tl.n y.2.1.1 y.2.1.2 y.2.2.1) :
    RFindPost w nm (.returned (.tuple #[.agg #[.string (bs y.1), tvv t0, tvv t1, tvv tl], .bool true])) w' := ⟨hk, by rw [h]; exact ⟨t0, t1, tl, rfl, hp⟩⟩
theorem bs_of {s : ByteArray} {x : Q.Bt} (h : x = s.data.toList) : bs x = s := by subst h; exact bs_data s

attribute [local irreducible] tblK tblP tblQ Q.piecesB Q.tableB Q.tableL rowOf rowsL
set_option maxRecDepth 100000 in
set_option maxHeartbeats 4000000 in
theorem rfind_any (w : World) (s : ByteArray) : Calls Tryz.prog 27 #[.string s] w (RFindPost w s.data.toList) := by
  have Ha := Lib.hid (all_any (w.alloc (.cells #[.string ⟨#[]⟩, .slice none 0 0, .slice none 0 0, .slice none 0 0] 26)) [w.heap.size] (by simp))
  have hF4 := Four.new w (.string ⟨#[]⟩) (.slice none 0 0) (.slice none 0 0) (.slice none 0 0) 26
  have HF4 := Lib.hid hF4
  have hk0 := Kp.new w (.cells #[.string ⟨#[]⟩, .slice none 0 0, .slice none 0 0, .slice none 0 0] 26)
  have Hk0 := Lib.hid hk0
  clear hF4 hk0
  go_enter Tryz.func27, Tryz.ntmps27
  go_wp2_with fail
  (with_reducible refine Ha.out.mono ?_)
  rintro e w1 ⟨hk1, ao, n, cap, rfl, hn, ps, hpl, hown, hps⟩
  subst hn
  have HF := Lib.hid (HF4.out.kp hk1)
  have HK := Lib.hid (Kp.trans Hk0.out hk1)
  have hcs := hown.cs
  obtain ⟨b, off, rfl, hc⟩ := hcs.at 0 (by rw [pvc_len]; omega)
  have hcell : ∀ j (h : j < ps.length), w1.cell? ⟨b, off + j * 4, none⟩ = some (.string ps[j].nm) ∧ w1.cell? ⟨b, off + j * 4 + 1, none⟩ = some (tvv ps[j].b0) ∧ w1.cell? ⟨b, off + j * 4 + 2, none⟩ = some (tvv ps[j].b1) ∧ w1.cell? ⟨b, off + j * 4 + 3, none⟩ = some (tvv ps[j].ls) := fun j h => by
    obtain ⟨g0, g1, g2, g3⟩ := pvc_get ps j h
    refine ⟨hc _ _ g0, ?_, ?_, ?_⟩
    · have := hc _ _ g1; rwa [← Nat.add_assoc] at this
    · have := hc _ _ g2; rwa [← Nat.add_assoc] at this
    · have := hc _ _ g3; rwa [← Nat.add_assoc] at this
  have Hps := Lib.hid hps
  have Hcell := Lib.hid hcell
  clear hps hcell hc hcs hown Ha hk1 HF4 Hk0
  go_wp2_with fail
  go_loopw [5] (fun i wr => ∃ k : Nat, k ≤ 38 ∧ i = .int .i64 (k : Nat) ∧ w1 = wr ∧ ∀ (j : Nat) (r : ByteArray), j < k → rowsL[j]? = some r → (partL r 0).data.toList ≠ s.data.toList) (fun i _ => 38 - (intOf i).toNat)
  case atStart => exact ⟨0, by omega, rfl, rfl, fun j r hj => by omega⟩
  case round =>
    obtain ⟨k, hk, rfl, rfl, hno⟩ := hrel
    have Hno := Lib.hid hno
    clear hno
    by_cases hlt : k < 38
    · have hkl : k < ps.length := by omega
      obtain ⟨g0, g1, g2, g3⟩ := Hcell.out k hkl
      obtain ⟨r, hr⟩ : ∃ r, rowsL[k]? = some r := ⟨_, List.getElem?_eq_getElem (by rw [rowsL_length]; omega)⟩
      have hnm := (Hps.out k hkl r hr).1
      by_cases heq : (partL r 0).data.toList = s.data.toList
      · obtain ⟨y, hy1, hy2, hy3, hy4, hy5⟩ := ref_at hr
        have hfin : ∀ w', Fr [w.heap.size] w1 w' → PatI w' (ps[k]'hkl).b0.ao (ps[k]'hkl).b1.ao (ps[k]'hkl).ls.ao (ps[k]'hkl).b0.n (ps[k]'hkl).b1.n (ps[k]'hkl).ls.n y.2.1.1 y.2.1.2 y.2.2.1 := fun w' hk => by
          obtain ⟨_, _, _, q1, q2, q3⟩ := (Hps.out k hkl r hr).2 w' (hk.mono (fun j hj => List.mem_append.2 (.inr hj)))
          rw [hy3, hy4, hy5]
          exact ⟨q1, q2, q3⟩
        have Hfin := Lib.hid hfin
        have hnmy : (ps[k]'hkl).nm = bs y.1 := by rw [hnm, hy2]; exact (bs_data _).symm
        have Hrow := Lib.hid (show rowOf s.data.toList = some y by rw [← heq]; exact hy1)
        have Hb := Lib.hid (show ((bs y.1).toList == s.toList) = true by rw [Lib.toList_data, Lib.toList_data, bs_list, hy2, heq, beq_self_eq_true])
        rw [hnmy] at g0
        generalize ps[k]'hkl = p at g1 g2 g3 Hfin
        obtain ⟨nm, ⟨t0, m0, c0⟩, ⟨t1, m1, c1⟩, ⟨tl, nl, cl⟩⟩ := p
        unfold tvv at g1 g2 g3
        simp only at g1 g2 g3 Hfin
        obtain ⟨wf, hwf, hF, hPf⟩ := HF.out.set (.string (bs y.1)) (.slice t0 m0 c0) (.slice t1 m1 c1) (.slice tl nl cl)
        have hpost : RFindPost w s.data.toList (.returned (.tuple #[.agg #[.string (bs y.1), .slice t0 m0 c0, .slice t1 m1 c1, .slice tl nl cl], .bool true])) wf :=
          RFindPost.yes (t0 := ⟨t0, m0, c0⟩) (t1 := ⟨t1, m1, c1⟩) (tl := ⟨tl, nl, cl⟩) (((Fr.of_kp HK.out).step hF (fun i hi => .inr (by simp at hi; omega))).kp) Hrow.out (Hfin.out _ hF)
        have Hpost := Lib.hid hpost
        have Hwf := Lib.hid hwf
        obtain ⟨s0, s1, s2, s3, f0, f1, f2, f3⟩ := HF.out
        obtain ⟨c0', c1', c2', c3', _, _, _, _⟩ := hPf
        have hb := Hb.out
        clear hfin hpost hwf hF hr hnm heq hnmy hy1 hy2 hy3 hy4 hy5
        go_wp2_with fail
        rw [← Hwf.out]
        refine bodyPost_ret (v := .tuple #[.agg #[.string (bs y.1), .slice t0 m0 c0, .slice t1 m1 c1, .slice tl nl cl], .bool true]) (by simp [results, Tryz.results27, go_sem, c0', c1', c2', c3']) rfl Hpost.out
      · have hb : ((partL r 0).toList == s.toList) = false := by rw [Lib.toList_data, Lib.toList_data, beq_eq_false_iff_ne]; exact heq
        rw [← hnm] at hb
        have Hnext := Lib.hid (show ∀ (j : Nat) (r : ByteArray), j < k + 1 → rowsL[j]? = some r → (partL r 0).data.toList ≠ s.data.toList from fun j r' hj hr' => by
          rcases Nat.lt_or_ge j k with q | q
          · exact Hno.out j r' q hr'
          · obtain rfl : j = k := by omega
            rw [hr] at hr'
            cases hr'
            exact heq)
        generalize ps[k]'hkl = p at g0 g1 g2 g3 hb
        clear hr hnm g1 g2 g3 heq
        go_wp2_with fail
        go_roundw
        case rel => exact ⟨k + 1, by omega, by go_num, trivial, Hnext.out⟩
        case measure => simp [intOf]; omega
    · obtain rfl : k = 38 := by omega
      have hno : rowOf s.data.toList = none := ref_none (fun k r hr => Hno.out k r (by
        have := (List.getElem?_eq_some_iff.1 hr).1
        rw [rowsL_length] at this
        exact this) hr)
      obtain ⟨wf, hwf, hF, hPf⟩ := HF.out.set (.string ⟨#[]⟩) (.slice none 0 0) (.slice none 0 0) (.slice none 0 0)
      have Hpost := Lib.hid (RFindPost.no (((Fr.of_kp HK.out).step hF (fun i hi => .inr (by simp at hi; omega))).kp) hno)
      have Hwf := Lib.hid hwf
      obtain ⟨s0, s1, s2, s3, f0, f1, f2, f3⟩ := HF.out
      obtain ⟨c0', c1', c2', c3', _, _, _, _⟩ := hPf
      clear hno hwf hF
      go_wp2_with fail
      rw [← Hwf.out]
      refine bodyPost_ret (v := .tuple #[zeroP, .bool false]) (by simp [results, Tryz.results27, go_sem, c0', c1', c2', c3']) rfl Hpost.out
end Go.Proofs.YtbdphdgomcabmaaGreatDoor

namespace Go.Proofs.YtbdphdgomcabmaaGreatDoor
open Go.RowKit

/-- What is found: the name, what is known ahead, the messages; is there one? -/
def fnd (nm : Q.Bt) : ByteArray × List Int × List Int × List Ln × Bool := match rowOf nm with
  | none => (⟨#[]⟩, [], [], [], false)
  | some y => (bs y.1, y.2.1.1, y.2.1.2, y.2.2.1, true)
theorem row_small {nm : Q.Bt} {y : Row} (h : rowOf nm = some y) : y.2.2.1.length ≤ 5000 ∧ ∀ l ∈ y.2.2.1, l.2.length ≤ 5000 := by
  have hm := List.mem_of_find?_eq_some h
  have ht : (Q.tableL.all fun y => decide (y.2.2.1.length ≤ 5000) && y.2.2.1.all (fun l => decide (l.2.length ≤ 5000))) = true := by kernel_rfl
  have := List.all_eq_true.1 ht y hm
  simp only [Bool.and_eq_true, decide_eq_true_eq, List.all_eq_true] at this
  exact this
theorem find_all (w : World) (E : Nat → Addr) (m : Int) (hE : Env w E m) (s : ByteArray) (hs : s.size ≤ maxLen) : Calls Tryz.prog 16 #[.string s] w fun e w' => Kp w w' ∧ ∃ t0 t1 tl : Tv,
    e = .returned (.tuple #[.agg #[.string (fnd s.data.toList).1, tvv t0, tvv t1, tvv tl], .bool (fnd s.data.toList).2.2.2.2]) ∧ PatI w' t0.ao t1.ao tl.ao t0.n t1.n tl.n (fnd s.data.toList).2.1 (fnd s.data.toList).2.2.1 (fnd s.data.toList).2.2.2.1 := by
  refine (find_any s m E (E 8) w hs hE.mx hE.errs hE.c5).mono ?_
  rintro e w' ⟨hk, h⟩
  refine ⟨hk, ?_⟩
  unfold fnd
  cases hq : rowOf s.data.toList with
  | none =>
    rw [hq] at h
    exact ⟨nilT, nilT, nilT, h, PatI.none w'⟩
  | some y =>
    rw [hq] at h
    obtain ⟨t0, t1, tl, ts, he, hP⟩ := h
    have hs := row_small hq
    exact ⟨t0, t1, tl, he, hP.patI hs.1 hs.2⟩
theorem rfind_all (w : World) (s : ByteArray) (_ : s.size ≤ maxLen) : Calls Tryz.prog 27 #[.string s] w fun e w' => Kp w w' ∧ ∃ t0 t1 tl : Tv,
    e = .returned (.tuple #[.agg #[.string (fnd s.data.toList).1, tvv t0, tvv t1, tvv tl], .bool (fnd s.data.toList).2.2.2.2]) ∧ PatI w' t0.ao t1.ao tl.ao t0.n t1.n tl.n (fnd s.data.toList).2.1 (fnd s.data.toList).2.2.1 (fnd s.data.toList).2.2.2.1 := by
  refine (rfind_any w s).mono ?_
  rintro e w' ⟨hk, h⟩
  refine ⟨hk, ?_⟩
  unfold fnd
  cases hq : rowOf s.data.toList with
  | none =>
    rw [hq] at h
    exact ⟨nilT, nilT, nilT, h, PatI.none w'⟩
  | some y =>
    rw [hq] at h
    obtain ⟨t0, t1, tl, he, hP⟩ := h
    exact ⟨t0, t1, tl, he, hP⟩
end Go.Proofs.YtbdphdgomcabmaaGreatDoor
