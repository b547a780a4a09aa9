/- Parts of the walks and plain laws, merged: ModP, Modi, OpenS, RefCopy, CpyO, Said, PrintP, Print, KnwP, Knw, KnwQ, SpV, OwP, OwQ, AskP, LstO. Each theorem bears its own conditions; no other. -/
import Derived.Test.YtkmejehhdjdlbaaGreatDoorPo5
import Derived.Lib.ItoaLen
import Derived.Test.YtkmejehhdjdlbaaGreatDoorPo4
import Derived.SliceStrings
import Derived.Test.YtkmejehhdjdlbaaGreatDoorPo1
import Derived.Deep.CutBlock
namespace Go.Proofs.YtkmejehhdjdlbaaGreatDoor
open Go.RowKit

/-- A slice value's parts read a list of texts. -/
def Strs (w : World) (ao : Option Addr) (n : Nat) (ss : List ByteArray) : Prop := ss.length = n ∧ n ≤ maxLen ∧ Cs w ao (ss.map .string)
theorem Kp.strs {w w' : World} (h : Kp w w') {ao : Option Addr} {n : Nat} {ss : List ByteArray} (hx : Strs w ao n ss) : Strs w' ao n ss := ⟨hx.1, hx.2.1, h.cs hx.2.2⟩
theorem Strs.at {w : World} {ao : Option Addr} {n : Nat} {ss : List ByteArray} (h : Strs w ao n ss) (k : Nat) (hk : k < n) :
    ∃ b off, ao = some ⟨b, off, none⟩ ∧ ∀ j, (hj : j < n) → w.cell? ⟨b, off + j, none⟩ = some (.string (ss[j]'(by rw [h.1]; exact hj))) := by
  obtain ⟨h1, _, h2⟩ := h
  obtain ⟨b, off, rfl, hc⟩ := h2.at k (by simp; omega)
  exact ⟨b, off, rfl, fun j hj => hc j _ (by simp [show j < ss.length by omega])⟩
/-- Words as bytes. -/
def wb (ws : List ByteArray) : List Q.Bt := ws.map (·.data.toList)
theorem bs_append (a b : Q.Bt) : bs (a ++ b) = bs a ++ bs b := by
  unfold bs
  apply ByteArray.ext
  simp
theorem bs_plus (a : Q.Bt) (x : ByteArray) : bs (a ++ Q.plusW 0 x.data.toList) = bs a ++ x := by
  unfold Q.plusW
  rw [if_neg (by omega), List.nil_append, bs_append, bs_data]
theorem bs_plus1 (a : Q.Bt) (x : ByteArray) {k : Nat} (h : 0 < k) : bs (a ++ Q.plusW k x.data.toList) = bs a ++ (⟨#[43]⟩ : ByteArray) ++ x := by
  unfold Q.plusW
  rw [if_pos h, ← List.append_assoc, bs_append, bs_append, bs_data]
  rfl
theorem goM_step {srt : List Int → List Int} {k least : Nat} {q : Q.Pn} {ws : List Q.Bt} (h : k < ws.length) : Q.goM srt k least q (ws.drop k) = match Q.wordP srt k least q ws[k] with
    | none => none
    | some (m, q') => Q.goM srt (k + 1) m { q' with nm := q'.nm ++ Q.plusW k ws[k] } (ws.drop (k + 1)) := by
  rw [List.drop_eq_getElem_cons h]
  rfl
/-- What a valid pattern's messages are. -/
theorem lines_of_ok : ∀ (ls : List Ln) (prev : Option Int) (n : Nat), linesOk prev n ls = true → ∀ l ∈ ls, (l.1 = 0 ∨ l.1 = 1) ∧ l.2 ≠ [] ∧ l.2.length ≤ 24 ∧ ∀ t ∈ l.2, 1 ≤ t ∧ t ≤ 7
  | [], _, _, _, l, hl => by simp at hl
  | a :: r, prev, n, h, l, hl => by
    simp only [linesOk, Bool.and_eq_true, decide_eq_true_eq] at h
    obtain ⟨⟨⟨h1, h2⟩, h3⟩, h4⟩ := h
    rcases List.mem_cons.1 hl with rfl | hl
    · simp only [headOk, Bool.and_eq_true, Bool.or_eq_true, beq_iff_eq, bne_iff_ne, ne_eq] at h1
      refine ⟨h1.1.1, fun e => h1.2 (by rw [e]; rfl), by omega, fun t ht => ?_⟩
      have := List.all_eq_true.1 h2 t ht
      simpa using this
    · exact lines_of_ok r _ _ h4 l hl
theorem code0 {b0 b1 : List Int} {ls : List Ln} (h : checkL b0 b1 ls = 0) : okB b0 = true ∧ okB b1 = true ∧ ls ≠ [] ∧ ls.length ≤ 24 ∧ ∀ l ∈ ls, (l.1 = 0 ∨ l.1 = 1) ∧ l.2 ≠ [] ∧ l.2.length ≤ 24 ∧ ∀ t ∈ l.2, 1 ≤ t ∧ t ≤ 7 := by
  obtain ⟨g1, g2, g3⟩ := Q.code_shape (p := ⟨[], b0, b1, ls⟩) h
  refine ⟨g1, g2, ?_, g3, ?_⟩
  · rintro rfl
    unfold checkL at h
    simp [shapedL] at h
  · unfold checkL at h
    split at h
    · rename_i hs
      simp only [shapedL, Bool.and_eq_true] at hs
      exact lines_of_ok _ _ _ hs.2
    · cases h
theorem okB_len {b : List Int} (h : okB b = true) : b.length ≤ 2 := by
  rcases b with _ | ⟨x, _ | ⟨y, _ | ⟨z, r⟩⟩⟩ <;> simp [okB] at h ⊢
section
variable {w : World} {B bx : Nat} {nm : ByteArray} {t0 t1 tf : Tv} {td ts : List Tv} {D ls : List Ln} {b0 b1 : List Int}
theorem MdS.name (h : MdS w B bx nm t0 t1 tf td ts D ls b0 b1) (nm' : ByteArray) : MdS (w.setCell ⟨bx, 0, none⟩ (.string nm')) B bx nm' t0 t1 tf td ts D ls b0 b1 :=
  ⟨h.four.set0 _, h.hd, h.h1, h.hl, h.sep.fr (Fr.set w ⟨bx, 0, none⟩ _) (by intro x hx; simp at hx; have := h.hb; omega), h.hb⟩
end
/-- What Modify has at hand when k words have gone by. -/
structure MdL (w0 w : World) (B bx : Nat) (k : Nat) (q : Q.Pn) : Prop where
  mem : ∃ t0 t1 tf td ts D, MdS w B bx (bs q.nm) t0 t1 tf td ts D q.ls q.b0 q.b1 ∧ (k = 0 → D = [])
  kp : Kp w0 w
  zero : Four w (bx + 1) (.string ⟨#[]⟩) (.slice none 0 0) (.slice none 0 0) (.slice none 0 0)
  ln : ∀ l ∈ q.ls, (l.1 = 0 ∨ l.1 = 1) ∧ l.2 ≠ [] ∧ l.2.length ≤ 24 + k
  ll : q.ls.length ≤ 24
  ne : k = 0 → q.ls ≠ []
  l0 : q.b0.length ≤ 2 + 2 * k
  l1 : q.b1.length ≤ 2 + 2 * k
theorem preL_some {q : Q.Pn} {n : Nat} : Q.preT q n = if q.ls = [] ∨ q.ls.length < n then none else some { q with ls := preL q.ls n } := rfl
theorem modify_mem {α : Type} {P : α → Prop} {l : List α} {f : α → α} {j : Nat} (h : ∀ x ∈ l, P x) (hf : ∀ x ∈ l, P (f x)) : ∀ x ∈ l.modify j f, P x := fun x hx => by
  obtain ⟨i, hi, rfl⟩ := List.getElem_of_mem hx
  have hi' : i < l.length := by simpa using hi
  rw [List.getElem_modify]
  split
  · exact hf _ (List.getElem_mem hi')
  · exact h _ (List.getElem_mem hi')
theorem preL_mem {ls : List Ln} {n k : Nat} (h : ∀ l ∈ ls, (l.1 = 0 ∨ l.1 = 1) ∧ l.2 ≠ [] ∧ l.2.length ≤ 24 + k) : ∀ l ∈ preL ls n, (l.1 = 0 ∨ l.1 = 1) ∧ l.2 ≠ [] ∧ l.2.length ≤ 24 + (k + 1) := by
  have h' : ∀ l ∈ ls, (l.1 = 0 ∨ l.1 = 1) ∧ l.2 ≠ [] ∧ l.2.length ≤ 24 + (k + 1) := fun l hl => ⟨(h l hl).1, (h l hl).2.1, by have := (h l hl).2.2; omega⟩
  unfold preL
  split
  · exact modify_mem h' (fun l hl => ⟨(h l hl).1, by simp, by have := (h l hl).2.2; simp; omega⟩)
  · exact modify_mem h' (fun l hl => ⟨(h l hl).1, by simp, by have := (h l hl).2.2; simp; omega⟩)
theorem preL_length (ls : List Ln) (n : Nat) : (preL ls n).length = ls.length := by unfold preL; split <;> simp
/-- What is answered: an error, or a pattern in rows of the call's own. -/
def ModPost (w : World) (E : Nat → Addr) (p : Q.Pn) (ws : List Q.Bt) (e : Ending) (w' : World) : Prop := Kp w w' ∧ match Q.modP srtI p ws with
  | (some q, _) => ∃ t0 t1 tf td ts D, e = .returned (.tuple #[.agg #[.string (bs q.nm), tvv t0, tvv t1, tvv (subT tf D.length)], .nilIface]) ∧ td.length = D.length ∧ D.length ≤ 1 ∧ ts.length = q.ls.length ∧ Sep w' w.heap.size (rowsP t0 t1 tf (td ++ ts) q.b0 q.b1 (D ++ q.ls))
  | (none, c) => e = .returned (.tuple #[zeroP, .iface 229 (.pointer (some (E c)))])
theorem ModPost.bad {w w' : World} {E : Nat → Addr} {p : Q.Pn} {ws : List Q.Bt} (h : checkL p.b0 p.b1 p.ls ≠ 0) (hk : Kp w w') : ModPost w E p ws (.returned (.tuple #[zeroP, .iface 229 (.pointer (some (E (checkL p.b0 p.b1 p.ls))))])) w' := by
  refine ⟨hk, ?_⟩
  unfold Q.modP
  rw [if_pos (show p.code ≠ 0 from h)]
  rfl
theorem ModPost.arg {w w' : World} {E : Nat → Addr} {p : Q.Pn} {ws : List Q.Bt} (h0 : checkL p.b0 p.b1 p.ls = 0) (h : Q.goM srtI 0 0 p ws = none) (hk : Kp w w') : ModPost w E p ws (.returned (.tuple #[zeroP, .iface 229 (.pointer (some (E 1)))])) w' := by
  refine ⟨hk, ?_⟩
  unfold Q.modP
  rw [if_neg (show ¬ p.code ≠ 0 from fun q => q h0), h]
theorem ModPost.off {w w' : World} {E : Nat → Addr} {p q : Q.Pn} {ws : List Q.Bt} (h0 : checkL p.b0 p.b1 p.ls = 0) (h : Q.goM srtI 0 0 p ws = some q) (hc : checkL q.b0 q.b1 q.ls ≠ 0) (hk : Kp w w') : ModPost w E p ws (.returned (.tuple #[zeroP, .iface 229 (.pointer (some (E (checkL q.b0 q.b1 q.ls))))])) w' := by
  refine ⟨hk, ?_⟩
  unfold Q.modP
  rw [if_neg (show ¬ p.code ≠ 0 from fun q => q h0), h]
  simp only
  rw [if_neg (show ¬ q.code = 0 from hc)]
  rfl
theorem ModPost.fine {w w' : World} {E : Nat → Addr} {p q : Q.Pn} {ws : List Q.Bt} {t0 t1 tf : Tv} {td ts : List Tv} {D : List Ln} (h0 : checkL p.b0 p.b1 p.ls = 0) (h : Q.goM srtI 0 0 p ws = some q) (hc : checkL q.b0 q.b1 q.ls = 0) (hk : Kp w w')
    (hd : td.length = D.length) (h1 : D.length ≤ 1) (hl : ts.length = q.ls.length) (hs : Sep w' w.heap.size (rowsP t0 t1 tf (td ++ ts) q.b0 q.b1 (D ++ q.ls))) :
    ModPost w E p ws (.returned (.tuple #[.agg #[.string (bs q.nm), tvv t0, tvv t1, tvv (subT tf D.length)], .nilIface])) w' := by
  refine ⟨hk, ?_⟩
  unfold Q.modP
  rw [if_neg (show ¬ p.code ≠ 0 from fun q => q h0), h]
  simp only
  rw [if_pos (show q.code = 0 from hc)]
  exact ⟨t0, t1, tf, td, ts, D, rfl, hd, h1, hl, hs⟩
end Go.Proofs.YtkmejehhdjdlbaaGreatDoor

namespace Go.Proofs.YtkmejehhdjdlbaaGreatDoor
open Go.RowKit

theorem word_short {l : Q.Bt} {n : Nat} (h : Q.numP l = some n) : n ≤ 9223372036854775807 ∧ l.length ≤ 24 := by
  rcases Nat.lt_or_ge 3 l.length with h3 | h3
  · cases hp : (l.take 3 == [112, 115, 107]) with
    | false => rw [num_head hp] at h; cases h
    | true =>
      rw [num_rest h3 hp] at h
      cases ha : Lib.atoiAll (l.drop 3) with
      | ok v =>
        rw [ha] at h
        simp only at h
        split at h
        · rename_i hc
          have hw := atoi_wide ha
          have hl := Lib.itoa_length_le v (by omega) hw.2
          rw [hc.2, List.length_drop] at hl
          have := Option.some.inj h
          omega
        · cases h
      | «syntax» => rw [ha] at h; cases h
      | range => rw [ha] at h; cases h
  · rw [num_short h3] at h; cases h
theorem wb_get {ss : List ByteArray} {k : Nat} (h : k < ss.length) (h' : k < (wb ss).length) : (wb ss)[k] = ss[k].data.toList := List.getElem_map (fun x : ByteArray => x.data.toList)
/-- What a round looks at. -/
structure ModI (w0 wr : World) (B bx : Nat) (p : Q.Pn) (ws : List Q.Bt) (k least : Nat) (q : Q.Pn) : Prop where
  l : MdL w0 wr B bx k q
  g : Q.goM srtI 0 0 p ws = Q.goM srtI k least q (ws.drop k)
  n : q.nm.length ≤ 140737488351232 + 25 * k
  s : least ≤ 30000
theorem ModI.step {w0 wr w1 : World} {B bx : Nat} {p : Q.Pn} {ws : List Q.Bt} {k least least' : Nat} {q q1 : Q.Pn} (h : ModI w0 wr B bx p ws k least q) (hk : k < ws.length) (hw : Q.wordP srtI k least q ws[k] = some (least', q1)) (hq : q1.nm = q.nm) (hl : ws[k].length ≤ 24) (hs : least' ≤ 30000)
    (nm1 : ByteArray) (t0 t1 tf : Tv) (td ts : List Tv) (D : List Ln) (hm : MdS w1 B bx nm1 t0 t1 tf td ts D q1.ls q1.b0 q1.b1) (kp : Kp w0 w1) (hb : w0.heap.size ≤ bx) (hz : Four w1 (bx + 1) (.string ⟨#[]⟩) (.slice none 0 0) (.slice none 0 0) (.slice none 0 0))
    (ln : ∀ l ∈ q1.ls, (l.1 = 0 ∨ l.1 = 1) ∧ l.2 ≠ [] ∧ l.2.length ≤ 24 + (k + 1)) (ll : q1.ls.length ≤ 24) (l0 : q1.b0.length ≤ 2 + 2 * (k + 1)) (l1 : q1.b1.length ≤ 2 + 2 * (k + 1)) (u : ByteArray) (hu : u = bs (q.nm ++ Q.plusW k ws[k])) :
    ModI w0 (w1.setCell ⟨bx, 0, none⟩ (.string u)) B bx p ws (k + 1) least' { q1 with nm := q1.nm ++ Q.plusW k ws[k] } := by
  have hf := Fr.set w1 ⟨bx, 0, none⟩ (.string u)
  refine ⟨⟨⟨t0, t1, tf, td, ts, D, ?_, fun h => by omega⟩, kp_step' kp hf (fun j hj => by simp at hj; omega), hz.fr hf (by simp), ln, ll, fun h => by omega, l0, l1⟩, ?_, ?_, hs⟩
  · have := hm.name u
    rw [hq, ← hu]
    exact this
  · rw [h.g, goM_step hk, hw]
  · have := h.n
    unfold Q.plusW
    simp only [hq, List.length_append]
    split <;> simp <;> omega
set_option maxRecDepth 100000 in
set_option maxHeartbeats 8000000 in
theorem modify_wide (w : World) (E : Nat → Addr) (m : Int) (hE : Env w E m) (nm : ByteArray) (a0 a1 al : Option Addr) (n0 c0 n1 c1 nl cl : Nat) (b0 b1 : List Int) (ls : List Ln) (hP : PatI w a0 a1 al n0 n1 nl b0 b1 ls) (hs : ShortM nm n0 n1 nl ls)
    (ao : Option Addr) (nw cw : Nat) (ss : List ByteArray) (hW : Strs w ao nw ss) (hz : ∀ s ∈ ss, s.size ≤ 281474976710656) (hn : nw ≤ 200) :
    Calls Tryz.prog 19 #[patV nm a0 a1 al n0 c0 n1 c1 nl cl, .slice ao nw cw] w (ModPost w E ⟨nm.data.toList, b0, b1, ls⟩ (wb ss)) := by
  have Hs := Lib.hid hs
  have HPI := Lib.hid hP
  have HW := Lib.hid hW
  have Hz := Lib.hid hz
  have HE := Lib.hid hE
  have hw1 : 0 < w.heap.size := World.block_lt_of_cell? w _ hE.c0
  have hkA := Kp.new w (.cells #[.string nm, .slice a0 n0 c0, .slice a1 n1 c1, .slice al nl cl] 26)
  have hkB := Kp.new (w.alloc (.cells #[.string nm, .slice a0 n0 c0, .slice a1 n1 c1, .slice al nl cl] 26)) (.cells #[.string ⟨#[]⟩, .slice none 0 0, .slice none 0 0, .slice none 0 0] 26)
  have hFA := (Four.new w (.string nm) (.slice a0 n0 c0) (.slice a1 n1 c1) (.slice al nl cl) 26).kp hkB
  have hFB := Four.new (w.alloc (.cells #[.string nm, .slice a0 n0 c0, .slice a1 n1 c1, .slice al nl cl] 26)) (.string ⟨#[]⟩) (.slice none 0 0) (.slice none 0 0) (.slice none 0 0) 26
  rw [World.size_alloc] at hFB
  have hkw := Kp.trans hkA hkB
  clear hkA hkB hP hs hW hz hE
  go_enter Tryz.func19, Tryz.ntmps19
  go_upto_region 1 with fail
  obtain ⟨bx, hbx⟩ : ∃ bx, bx = w.heap.size := ⟨_, rfl⟩
  rw [← hbx] at hFA hFB hw1 ⊢
  generalize (w.alloc (.cells #[.string nm, .slice a0 n0 c0, .slice a1 n1 c1, .slice al nl cl] 26)).alloc (.cells #[.string ⟨#[]⟩, .slice none 0 0, .slice none 0 0, .slice none 0 0] 26) = wb1 at *
  have Hbx := Lib.hid hbx
  clear hbx
  have HC := Lib.hid (check_any wb1 E (hkw.errs HE.out.errs) nm a0 a1 al n0 c0 n1 c1 nl cl b0 b1 ls (hkw.is HPI.out.i0) (hkw.is HPI.out.i1) (hkw.lns HPI.out.il))
  have HFA := Lib.hid hFA
  have HFB := Lib.hid hFB
  have Hkw := Lib.hid hkw
  by_cases hc : checkL b0 b1 ls = 0
  · have Hc := Lib.hid hc
    have hcl := code0 hc
    rw [show errV E (checkL b0 b1 ls) = .nilIface by rw [hc]; rfl] at HC
    obtain ⟨y0, y1, y2, y3, z0, z1, z2, z3⟩ := hFA
    clear hc hFB hkw
    go_upto_region 4 with (go_at_call 24; go_loud (refine HC.out.mono ?_); rintro e w2 ⟨rfl, hk2⟩)
    have Hk2 := Lib.hid (Kp.trans Hkw.out hk2)
    have HCl := Lib.hid (cloned_any w2 nm a0 a1 al n0 c0 n1 c1 nl cl b0 b1 ls ⟨Hk2.out.is HPI.out.i0, Hk2.out.is HPI.out.i1, Hk2.out.lns HPI.out.il⟩ Hs.out)
    have hF2 := HFA.out.kp hk2
    have hZ2 := HFB.out.kp hk2
    have hs2 := hZ2.lt
    clear y0 y1 y2 y3 z0 z1 z2 z3
    have HZ2 := Lib.hid hZ2
    have HF2 := Lib.hid hF2
    obtain ⟨y0, y1, y2, y3, z0, z1, z2, z3⟩ := hF2
    clear hk2 hZ2
    go_wp2_with fail
    (with_reducible refine HCl.out.mono ?_)
    rintro e w3 ⟨hk3, t0, t1, tl, ts, rfl, hts, hsep⟩
    unfold tvv
    have hF3 := HF2.out.kp hk3
    obtain ⟨wf, hwf, hF, hPf⟩ := hF3.set (.string nm) (tvv t0) (tvv t1) (tvv tl)
    have hL : MdL w wf w2.heap.size bx 0 ⟨nm.data.toList, b0, b1, ls⟩ := by
      refine ⟨⟨t0, t1, tl, [], ts, [], ⟨?_, rfl, by simp, hts, hsep.fr hF (fun x hx => by simp at hx; omega), by omega⟩, fun _ => rfl⟩, ?_, (HZ2.out.kp hk3).fr hF (by simp), ?_, ?_, fun _ => hcl.2.2.1, ?_, ?_⟩
      · rw [bs_data]; exact hPf
      · exact kp_step' (Kp.trans Hk2.out hk3) hF (fun j hj => by simp at hj; have := Hbx.out; omega)
      · exact fun l hl => by have := hcl.2.2.2.2 l hl; exact ⟨this.1, this.2.1, this.2.2.1⟩
      · exact hcl.2.2.2.1
      · have := okB_len hcl.1; simp only; omega
      · have := okB_len hcl.2.1; simp only; omega
    have HM := Lib.hid (show ModI w wf w2.heap.size bx ⟨nm.data.toList, b0, b1, ls⟩ (wb ss) 0 0 ⟨nm.data.toList, b0, b1, ls⟩ from ⟨hL, rfl, by
      have h1 := Hs.out.nm
      have h2 := Lib.size_eq nm
      simp only; omega, by omega⟩)
    have Hwf := Lib.hid hwf
    have Hhl := Lib.hid (show bx + 1 < w2.heap.size from hs2)
    clear y0 y1 y2 y3 z0 z1 z2 z3 hwf hF hPf hL hsep hts
    obtain ⟨y0, y1, y2, y3, z0, z1, z2, z3⟩ := hF3
    unfold tvv at Hwf
    clear hk3
    generalize w2.heap.size = B at *
    go_wp2_with fail
    rw [← Hwf.out]
    go_loopw [7, 23] (fun v i wr => ∃ (k least : Nat) (q : Q.Pn), k ≤ nw ∧ i = .int .i64 (k : Nat) ∧ v = .int .i64 (least : Nat) ∧ ModI w wr B bx ⟨nm.data.toList, b0, b1, ls⟩ (wb ss) k least q) (fun _ i _ => nw - (intOf i).toNat)
    case atStart => exact ⟨0, 0, _, by omega, rfl, rfl, HM.out⟩
    case round =>
      obtain ⟨k, least, q, hk, rfl, rfl, hM⟩ := hrel
      rename World => wr
      have Hk3 := Lib.hid hM.l.kp
      have hz4 := hM.l.zero
      have HM := Lib.hid hM
      have HZ4 := Lib.hid hz4
      clear hM y0 y1 y2 y3 z0 z1 z2 z3 hz4
      obtain ⟨t0', t1', tf, td, ts', D, hmem, hD⟩ := HM.out.l.mem
      have Hmem := Lib.hid hmem
      have hF4 := hmem.four
      clear hmem
      by_cases hlt : k < nw
      · have hkl : k < ss.length := by rw [HW.out.1]; exact hlt
        obtain ⟨bw, ow, rfl, hcx⟩ := HW.out.at k hlt
        replace hcx := Hk3.out.cell (hcx k hlt)
        have hx := Hz.out ss[k] (List.getElem_mem hkl)
        have hkw' : k < (wb ss).length := by unfold wb; rw [List.length_map]; exact hkl
        have hgs := HM.out.g.trans (goM_step hkw')
        have hxe := wb_get hkl hkw'
        rw [hxe] at hgs
        have Hgs := Lib.hid hgs
        have HN := Lib.hid (number_any ss[k] wr E m (HE.out.keep Hk3.out) hx)
        clear hgs
        generalize ss[k] = x at *
        by_cases hfx : x.data.toList = Q.fallB
        · have hfx' : (x.toList == [102, 97, 108, 108, 98, 97, 99, 107]) = true := by rw [ByteArray.toList_eq]; exact beq_iff_eq.2 hfx
          have hfl : x.data.toList.length ≤ 24 := by rw [hfx]; decide
          by_cases hk0 : k = 0
          · replace hD := hD hk0
            have hne := HM.out.l.ne hk0
            obtain ⟨l, r, hlr⟩ := List.exists_cons_of_ne_nil hne
            have hlm := HM.out.l.ln l (by rw [hlr]; simp)
            have hll := HM.out.l.ll
            subst hD
            rw [hlr] at Hmem hll
            have htd := Hmem.out.hd
            obtain rfl : td = [] := List.eq_nil_of_length_eq_zero htd
            have htl := Hmem.out.hl
            obtain ⟨tq, tr, rfl⟩ : ∃ tq tr, ts' = tq :: tr := by
              cases ts' with
              | nil => simp at htl
              | cons a b => exact ⟨a, b, rfl⟩
            have hl0 := HM.out.l.l0
            have hl1 := HM.out.l.l1
            have Hlr := Lib.hid hlr
            have Hln := Lib.hid (fun l' (hl' : l' ∈ r) => HM.out.l.ln l' (by rw [hlr]; simp [hl']))
            clear htd htl hne hlr
            have HBk := Lib.hid (fun (w4 : World) (hM4 : MdS w4 B bx (bs q.nm) t0' t1' tf [] (tq :: tr) [] (l :: r) q.b0 q.b1) => (show Calls Tryz.prog 53 #[.pointer (some ⟨bx, 0, none⟩)] w4 (BackPost w4 B bx (bs q.nm) t0' t1' tf tq tr l r q.b0 q.b1) by
              obtain ⟨f, xs⟩ := l
              obtain ⟨e, h1, h2⟩ := hlm
              simp only at e h1 h2
              rcases e with rfl | rfl
              · exact back_0 w4 B bx (bs q.nm) t0' t1' tf tq tr xs r q.b0 q.b1 hM4 h1 (by omega) (by omega)
              · exact back_1 w4 B bx (bs q.nm) t0' t1' tf tq tr xs r q.b0 q.b1 hM4 h1 (by omega) (by omega)))
            have hbp : Q.wordP srtI k least q x.data.toList = (if okB l.2 && noneIn (if l.1 = 0 then q.b0 else q.b1) l.2 then some { Q.setBef q l.1 (srtI ((if l.1 = 0 then q.b0 else q.b1) ++ l.2)) with ls := r } else none).map (fun q => (least, q)) := by
              unfold Q.wordP
              rw [if_pos hfx, if_neg (by omega)]
              unfold Q.backP
              rw [Hlr.out]
              rfl
            have Hbp := Lib.hid hbp
            have Hk0 := Lib.hid hk0
            clear hbp hk0
            obtain ⟨y0, y1, y2, y3, z0, z1, z2, z3⟩ := hF4
            clear y0 y1 y2 y3 z0 z1 z2 z3
            go_upto_region 11 with fail
            (with_reducible refine HN.out.mono ?_)
            rintro e w4 ⟨hk4, v, bb, rfl, hv⟩
            have HK4 := Lib.hid (Kp.trans Hk3.out hk4)
            have HZ5 := Lib.hid (HZ4.out.kp hk4)
            have HM4 := Lib.hid (Hmem.out.kp hk4)
            have hk0 := Hk0.out
            clear hk4 hv
            go_upto_region 13 with fail
            (with_reducible refine (HBk.out w4 HM4.out).mono ?_)
            rintro e w5 hpo
            unfold BackPost at hpo
            cases hok : (okB l.2 && noneIn (if l.1 = 0 then q.b0 else q.b1) l.2) with
            | false =>
              rw [hok] at hpo Hbp
              simp only [Bool.false_eq_true, if_false, Option.map_none] at hpo Hbp
              obtain ⟨rfl, hk5⟩ := hpo
              have HK5 := Lib.hid (Kp.trans HK4.out hk5)
              have HZ6 := Lib.hid (HZ5.out.kp hk5)
              have HG := Lib.hid (show Q.goM srtI 0 0 ⟨nm.data.toList, b0, b1, ls⟩ (wb ss) = none by rw [Hgs.out, Hbp.out])
              clear hk5 hok
              go_upto_region 13 with fail
              refine anyP_start (fun w => w.cell? ⟨0, 0, none⟩ = some (.iface 229 (.pointer (some (E 1))))) 3 (fun _ => True) (fun _ _ => False) (by kernel_rfl) (fun _ _ _ _ h => h.elim) ?_
              obtain ⟨wd, hwd⟩ : ∃ wd, wd = w5.drew := ⟨_, rfl⟩
              have hkd : Kp w5 wd := hwd ▸ (⟨rfl, rfl, rfl, Nat.le_refl _, fun _ _ => rfl⟩ : Kp w5 w5.drew)
              rw [← hwd]
              clear hwd
              have hTd := (Kp.trans HK5.out hkd).cell HE.out.c0
              have hPd := Four.kp HZ6.out hkd
              have HKd := Lib.hid (Kp.trans HK5.out hkd)
              obtain ⟨wf2, hwf2, hF2, hPf2⟩ := hPd.set (.string ⟨#[]⟩) (.slice none 0 0) (.slice none 0 0) (.slice none 0 0)
              obtain ⟨y0, y1, y2, y3, z0, z1, z2, z3⟩ := hPd
              obtain ⟨r0, r1, r2, r3, _, _, _, _⟩ := hPf2
              have Hwf2 := Lib.hid hwf2
              have HTf := Lib.hid (hF2.cell hTd (by simp))
              have HKf := Lib.hid (kp_step' HKd.out hF2 (fun j hj => by simp at hj; have := Hbx.out; omega))
              clear hwf2 hF2 hkd
              refine anyT_take puts_true [0] (by kernel_rfl) hTd ?_
              simp only [opsAt, List.getElem?_toArray, List.getElem?_cons_zero]
              repeat (go_big_quiet_step (fail))
              refine wpQuiet_nil ?_
              refine anyT_load puts_true 1 45 (.iface 229 (.pointer (some (E 1)))) rfl rfl (by kernel_rfl) hTd (fun w h => exec_load32 h rfl rfl) ?_
              simp only [Act.put, List.setIfInBounds_toArray, List.set_cons_zero, List.set_cons_succ]
              refine anyP_one 2 (by kernel_rfl) ?_
              simp only [opsAt, List.getElem?_toArray, List.getElem?_cons_zero, List.getElem?_cons_succ]
              clear hTd
              go_wp2_with fail
              rw [← Hwf2.out]
              refine ⟨fun _ => HTf.out, ?_⟩
              refine anyP_one 3 (by kernel_rfl) ?_
              simp only [opsAt, List.getElem?_toArray, List.getElem?_cons_zero, List.getElem?_cons_succ]
              clear y0 y1 y2 y3 z0 z1 z2 z3
              go_wp2_with fail
              refine ⟨fun h => absurd rfl h, ?_⟩
              refine anyP_end (by kernel_rfl) ?_
              go_wp2_with fail
              show bodyPost Tryz.prog Tryz.f19 (ModPost w E ⟨nm.data.toList, b0, b1, ls⟩ (wb ss)) .ret _ _
              refine bodyPost_ret (v := .tuple #[zeroP, .iface 229 (.pointer (some (E 1)))]) (by simp [results, Tryz.results19, go_sem, r0, r1, r2, r3]) rfl ?_
              exact ModPost.arg (p := ⟨nm.data.toList, b0, b1, ls⟩) Hc.out HG.out HKf.out
            | true =>
              rw [hok] at hpo Hbp
              simp only [if_true, Option.map_some] at hpo Hbp
              obtain ⟨t05, t15, rfl, hM5, hkp5⟩ := hpo
              have hokb : l.2.length ≤ 2 := okB_len (by simp only [Bool.and_eq_true] at hok; exact hok.1)
              clear hok
              obtain ⟨q1, hq1⟩ : ∃ q1 : Q.Pn, q1 = { Q.setBef q l.1 (srtI ((if l.1 = 0 then q.b0 else q.b1) ++ l.2)) with ls := r } := ⟨_, rfl⟩
              rw [← hq1] at Hbp
              have hqn : q1.nm = q.nm := by rw [hq1]; unfold Q.setBef; split <;> rfl
              have hqs : q1.ls = r := by rw [hq1]
              have hqb : q1.b0 = if l.1 = 0 then srtI (q.b0 ++ l.2) else q.b0 := by rw [hq1]; unfold Q.setBef; split <;> rfl
              have hqc : q1.b1 = if l.1 = 0 then q.b1 else srtI (q.b1 ++ l.2) := by rw [hq1]; unfold Q.setBef; split <;> rfl
              rw [← hqb, ← hqc, ← hqs] at hM5
              have hb0l : q1.b0.length ≤ 2 + 2 * (k + 1) := by rw [hqb]; split <;> (try rw [srtI_length, List.length_append]) <;> omega
              have hb1l : q1.b1.length ≤ 2 + 2 * (k + 1) := by rw [hqc]; split <;> (try rw [srtI_length, List.length_append]) <;> omega
              have hlsl : q1.ls.length ≤ 24 := by rw [hqs]; simp only [List.length_cons] at hll; omega
              have HZ6 := Lib.hid (hkp5.four HZ5.out (by omega) (by have := Hhl.out; omega))
              have HK6 := Lib.hid (hkp5.keep HK4.out (by have := Hbx.out; omega) (by have := Hbx.out; have := Hhl.out; omega))
              have HS := Lib.hid (HM.out.step (w1 := w5) (q1 := q1) (least' := least) hkw' (hxe ▸ Hbp.out) hqn (by rw [hxe]; exact hfl) HM.out.s (bs q.nm) t05 t15 tf [tq] tr [l] hM5 HK6.out (by have := Hbx.out; omega) HZ6.out
                (fun l' hl' => by have := Hln.out l' (by rw [← hqs]; exact hl'); exact ⟨this.1, this.2.1, by omega⟩) hlsl hb0l hb1l (bs q.nm ++ x) (by rw [hxe, hk0]; exact (bs_plus q.nm x).symm))
              obtain ⟨y0, y1, y2, y3, z0, z1, z2, z3⟩ := hM5.four
              have hqz : (bs q.nm).size ≤ 140737488360000 := by have := HM.out.n; rw [bs_size]; omega
              clear hq1 hqn hqs hqb hqc hb0l hb1l hlsl hM5 hkp5 hl0 hl1 hll hokb
              go_wp2_with fail
              go_roundw
              case rel => exact ⟨k + 1, least, _, by omega, by go_num, by go_num, HS.out⟩
              case measure => simp [intOf]; omega
          · have HG := Lib.hid (show Q.goM srtI 0 0 ⟨nm.data.toList, b0, b1, ls⟩ (wb ss) = none by
              rw [Hgs.out]
              unfold Q.wordP
              rw [if_pos hfx, if_pos (by omega)])
            obtain ⟨y0, y1, y2, y3, z0, z1, z2, z3⟩ := hF4
            clear y0 y1 y2 y3 z0 z1 z2 z3
            go_upto_region 11 with fail
            (with_reducible refine HN.out.mono ?_)
            rintro e w4 ⟨hk4, v, bb, rfl, hv⟩
            have HK4 := Lib.hid (Kp.trans Hk3.out hk4)
            have HZ5 := Lib.hid (HZ4.out.kp hk4)
            clear hk4 hv
            go_upto_region 13 with fail
            refine anyP_start (fun w => w.cell? ⟨0, 0, none⟩ = some (.iface 229 (.pointer (some (E 1))))) 3 (fun _ => True) (fun _ _ => False) (by kernel_rfl) (fun _ _ _ _ h => h.elim) ?_
            obtain ⟨wd, hwd⟩ : ∃ wd, wd = w4.drew := ⟨_, rfl⟩
            have hkd : Kp w4 wd := hwd ▸ (⟨rfl, rfl, rfl, Nat.le_refl _, fun _ _ => rfl⟩ : Kp w4 w4.drew)
            rw [← hwd]
            clear hwd
            have hTd := (Kp.trans HK4.out hkd).cell HE.out.c0
            have hPd := Four.kp HZ5.out hkd
            have HKd := Lib.hid (Kp.trans HK4.out hkd)
            obtain ⟨wf2, hwf2, hF2, hPf2⟩ := hPd.set (.string ⟨#[]⟩) (.slice none 0 0) (.slice none 0 0) (.slice none 0 0)
            obtain ⟨y0, y1, y2, y3, z0, z1, z2, z3⟩ := hPd
            obtain ⟨r0, r1, r2, r3, _, _, _, _⟩ := hPf2
            have Hwf2 := Lib.hid hwf2
            have HTf := Lib.hid (hF2.cell hTd (by simp))
            have HKf := Lib.hid (kp_step' HKd.out hF2 (fun j hj => by simp at hj; have := Hbx.out; omega))
            clear hwf2 hF2 hkd
            refine anyT_take puts_true [0] (by kernel_rfl) hTd ?_
            simp only [opsAt, List.getElem?_toArray, List.getElem?_cons_zero]
            repeat (go_big_quiet_step (fail))
            refine wpQuiet_nil ?_
            refine anyT_load puts_true 1 45 (.iface 229 (.pointer (some (E 1)))) rfl rfl (by kernel_rfl) hTd (fun w h => exec_load32 h rfl rfl) ?_
            simp only [Act.put, List.setIfInBounds_toArray, List.set_cons_zero, List.set_cons_succ]
            refine anyP_one 2 (by kernel_rfl) ?_
            simp only [opsAt, List.getElem?_toArray, List.getElem?_cons_zero, List.getElem?_cons_succ]
            clear hTd
            go_wp2_with fail
            rw [← Hwf2.out]
            refine ⟨fun _ => HTf.out, ?_⟩
            refine anyP_one 3 (by kernel_rfl) ?_
            simp only [opsAt, List.getElem?_toArray, List.getElem?_cons_zero, List.getElem?_cons_succ]
            clear y0 y1 y2 y3 z0 z1 z2 z3
            go_wp2_with fail
            refine ⟨fun h => absurd rfl h, ?_⟩
            refine anyP_end (by kernel_rfl) ?_
            go_wp2_with fail
            show bodyPost Tryz.prog Tryz.f19 (ModPost w E ⟨nm.data.toList, b0, b1, ls⟩ (wb ss)) .ret _ _
            refine bodyPost_ret (v := .tuple #[zeroP, .iface 229 (.pointer (some (E 1)))]) (by simp [results, Tryz.results19, go_sem, r0, r1, r2, r3]) rfl ?_
            exact ModPost.arg (p := ⟨nm.data.toList, b0, b1, ls⟩) Hc.out HG.out HKf.out
        · have hnf : Q.wordP srtI k least q x.data.toList = match Q.numP x.data.toList with | some n => if n < least then none else (Q.preT q n).map (fun q => (n + 1, q)) | none => none := by unfold Q.wordP; rw [if_neg hfx]; cases Q.numP x.data.toList <;> rfl
          have Hnf := Lib.hid hnf
          have hfx' : (x.toList == [102, 97, 108, 108, 98, 97, 99, 107]) = false := by rw [ByteArray.toList_eq]; exact beq_eq_false_iff_ne.2 hfx
          clear hnf
          go_upto_region 11 with fail
          (with_reducible refine HN.out.mono ?_)
          rintro e w4 ⟨hk4, v, bb, rfl, hv⟩
          have HK4 := Lib.hid (Kp.trans Hk3.out hk4)
          have HZ5 := Lib.hid (HZ4.out.kp hk4)
          have HM4 := Lib.hid (Hmem.out.kp hk4)
          obtain ⟨y0, y1, y2, y3, z0, z1, z2, z3⟩ := hF4
          clear y0 y1 y2 y3 z0 z1 z2 z3 hk4
          cases hnum : Q.numP x.data.toList with
          | none =>
            rw [hnum] at hv
            simp only at hv
            subst hv
            have HG := Lib.hid (show Q.goM srtI 0 0 ⟨nm.data.toList, b0, b1, ls⟩ (wb ss) = none by rw [Hgs.out, Hnf.out, hnum])
            clear hnum
            go_upto_region 15 with fail
            refine anyP_start (fun w => w.cell? ⟨0, 0, none⟩ = some (.iface 229 (.pointer (some (E 1))))) 3 (fun _ => True) (fun _ _ => False) (by kernel_rfl) (fun _ _ _ _ h => h.elim) ?_
            obtain ⟨wd, hwd⟩ : ∃ wd, wd = w4.drew := ⟨_, rfl⟩
            have hkd : Kp w4 wd := hwd ▸ (⟨rfl, rfl, rfl, Nat.le_refl _, fun _ _ => rfl⟩ : Kp w4 w4.drew)
            rw [← hwd]
            clear hwd
            have hTd := (Kp.trans HK4.out hkd).cell HE.out.c0
            have hPd := Four.kp HZ5.out hkd
            have HKd := Lib.hid (Kp.trans HK4.out hkd)
            obtain ⟨wf2, hwf2, hF2, hPf2⟩ := hPd.set (.string ⟨#[]⟩) (.slice none 0 0) (.slice none 0 0) (.slice none 0 0)
            obtain ⟨y0, y1, y2, y3, z0, z1, z2, z3⟩ := hPd
            obtain ⟨r0, r1, r2, r3, _, _, _, _⟩ := hPf2
            have Hwf2 := Lib.hid hwf2
            have HTf := Lib.hid (hF2.cell hTd (by simp))
            have HKf := Lib.hid (kp_step' HKd.out hF2 (fun j hj => by simp at hj; have := Hbx.out; omega))
            clear hwf2 hF2 hkd
            refine anyT_take puts_true [0] (by kernel_rfl) hTd ?_
            simp only [opsAt, List.getElem?_toArray, List.getElem?_cons_zero]
            repeat (go_big_quiet_step (fail))
            refine wpQuiet_nil ?_
            refine anyT_load puts_true 1 60 (.iface 229 (.pointer (some (E 1)))) rfl rfl (by kernel_rfl) hTd (fun w h => exec_load32 h rfl rfl) ?_
            simp only [Act.put, List.setIfInBounds_toArray, List.set_cons_zero, List.set_cons_succ]
            refine anyP_one 2 (by kernel_rfl) ?_
            simp only [opsAt, List.getElem?_toArray, List.getElem?_cons_zero, List.getElem?_cons_succ]
            clear hTd
            go_wp2_with fail
            rw [← Hwf2.out]
            refine ⟨fun _ => HTf.out, ?_⟩
            refine anyP_one 3 (by kernel_rfl) ?_
            simp only [opsAt, List.getElem?_toArray, List.getElem?_cons_zero, List.getElem?_cons_succ]
            clear y0 y1 y2 y3 z0 z1 z2 z3
            go_wp2_with fail
            refine ⟨fun h => absurd rfl h, ?_⟩
            refine anyP_end (by kernel_rfl) ?_
            go_wp2_with fail
            show bodyPost Tryz.prog Tryz.f19 (ModPost w E ⟨nm.data.toList, b0, b1, ls⟩ (wb ss)) .ret _ _
            refine bodyPost_ret (v := .tuple #[zeroP, .iface 229 (.pointer (some (E 1)))]) (by simp [results, Tryz.results19, go_sem, r0, r1, r2, r3]) rfl ?_
            exact ModPost.arg (p := ⟨nm.data.toList, b0, b1, ls⟩) Hc.out HG.out HKf.out
          | some n =>
            rw [hnum] at hv
            simp only at hv
            obtain ⟨rfl, rfl⟩ := hv
            have hns := word_short hnum
            rw [hnum] at Hnf
            simp only at Hnf
            clear hnum
            by_cases hnl : n < least
            · have HG := Lib.hid (show Q.goM srtI 0 0 ⟨nm.data.toList, b0, b1, ls⟩ (wb ss) = none by rw [Hgs.out, Hnf.out, if_pos hnl])
              go_upto_region 15 with fail
              refine anyP_start (fun w => w.cell? ⟨0, 0, none⟩ = some (.iface 229 (.pointer (some (E 1))))) 3 (fun _ => True) (fun _ _ => False) (by kernel_rfl) (fun _ _ _ _ h => h.elim) ?_
              obtain ⟨wd, hwd⟩ : ∃ wd, wd = w4.drew := ⟨_, rfl⟩
              have hkd : Kp w4 wd := hwd ▸ (⟨rfl, rfl, rfl, Nat.le_refl _, fun _ _ => rfl⟩ : Kp w4 w4.drew)
              rw [← hwd]
              clear hwd
              have hTd := (Kp.trans HK4.out hkd).cell HE.out.c0
              have hPd := Four.kp HZ5.out hkd
              have HKd := Lib.hid (Kp.trans HK4.out hkd)
              obtain ⟨wf2, hwf2, hF2, hPf2⟩ := hPd.set (.string ⟨#[]⟩) (.slice none 0 0) (.slice none 0 0) (.slice none 0 0)
              obtain ⟨y0, y1, y2, y3, z0, z1, z2, z3⟩ := hPd
              obtain ⟨r0, r1, r2, r3, _, _, _, _⟩ := hPf2
              have Hwf2 := Lib.hid hwf2
              have HTf := Lib.hid (hF2.cell hTd (by simp))
              have HKf := Lib.hid (kp_step' HKd.out hF2 (fun j hj => by simp at hj; have := Hbx.out; omega))
              clear hwf2 hF2 hkd
              refine anyT_take puts_true [0] (by kernel_rfl) hTd ?_
              simp only [opsAt, List.getElem?_toArray, List.getElem?_cons_zero]
              repeat (go_big_quiet_step (fail))
              refine wpQuiet_nil ?_
              refine anyT_load puts_true 1 60 (.iface 229 (.pointer (some (E 1)))) rfl rfl (by kernel_rfl) hTd (fun w h => exec_load32 h rfl rfl) ?_
              simp only [Act.put, List.setIfInBounds_toArray, List.set_cons_zero, List.set_cons_succ]
              refine anyP_one 2 (by kernel_rfl) ?_
              simp only [opsAt, List.getElem?_toArray, List.getElem?_cons_zero, List.getElem?_cons_succ]
              clear hTd
              go_wp2_with fail
              rw [← Hwf2.out]
              refine ⟨fun _ => HTf.out, ?_⟩
              refine anyP_one 3 (by kernel_rfl) ?_
              simp only [opsAt, List.getElem?_toArray, List.getElem?_cons_zero, List.getElem?_cons_succ]
              clear y0 y1 y2 y3 z0 z1 z2 z3
              go_wp2_with fail
              refine ⟨fun h => absurd rfl h, ?_⟩
              refine anyP_end (by kernel_rfl) ?_
              go_wp2_with fail
              show bodyPost Tryz.prog Tryz.f19 (ModPost w E ⟨nm.data.toList, b0, b1, ls⟩ (wb ss)) .ret _ _
              refine bodyPost_ret (v := .tuple #[zeroP, .iface 229 (.pointer (some (E 1)))]) (by simp [results, Tryz.results19, go_sem, r0, r1, r2, r3]) rfl ?_
              exact ModPost.arg (p := ⟨nm.data.toList, b0, b1, ls⟩) Hc.out HG.out HKf.out
            · have HPr := Lib.hid (pre_any w4 B bx (bs q.nm) t0' t1' tf td ts' D q.ls q.b0 q.b1 n HM4.out (fun l hl => ⟨(HM.out.l.ln l hl).2.1, by have := (HM.out.l.ln l hl).2.2; omega⟩) (by have := HM.out.l.ll; omega) hns.1)
              rw [if_neg hnl] at Hnf
              by_cases hpr : q.ls = [] ∨ q.ls.length < n
              · have HG := Lib.hid (show Q.goM srtI 0 0 ⟨nm.data.toList, b0, b1, ls⟩ (wb ss) = none by rw [Hgs.out, Hnf.out, preL_some, if_pos hpr]; rfl)
                unfold PrePost at HPr
                simp only [if_pos hpr] at HPr
                go_upto_region 15 with fail
                (with_reducible refine HPr.out.mono ?_)
                rintro e w5 ⟨rfl, rfl⟩
                go_upto_region 15 with fail
                refine anyP_start (fun w => w.cell? ⟨0, 0, none⟩ = some (.iface 229 (.pointer (some (E 1))))) 3 (fun _ => True) (fun _ _ => False) (by kernel_rfl) (fun _ _ _ _ h => h.elim) ?_
                obtain ⟨wd, hwd⟩ : ∃ wd, wd = w4.drew := ⟨_, rfl⟩
                have hkd : Kp w4 wd := hwd ▸ (⟨rfl, rfl, rfl, Nat.le_refl _, fun _ _ => rfl⟩ : Kp w4 w4.drew)
                rw [← hwd]
                clear hwd
                have hTd := (Kp.trans HK4.out hkd).cell HE.out.c0
                have hPd := Four.kp HZ5.out hkd
                have HKd := Lib.hid (Kp.trans HK4.out hkd)
                obtain ⟨wf2, hwf2, hF2, hPf2⟩ := hPd.set (.string ⟨#[]⟩) (.slice none 0 0) (.slice none 0 0) (.slice none 0 0)
                obtain ⟨y0, y1, y2, y3, z0, z1, z2, z3⟩ := hPd
                obtain ⟨r0, r1, r2, r3, _, _, _, _⟩ := hPf2
                have Hwf2 := Lib.hid hwf2
                have HTf := Lib.hid (hF2.cell hTd (by simp))
                have HKf := Lib.hid (kp_step' HKd.out hF2 (fun j hj => by simp at hj; have := Hbx.out; omega))
                clear hwf2 hF2 hkd
                refine anyT_take puts_true [0] (by kernel_rfl) hTd ?_
                simp only [opsAt, List.getElem?_toArray, List.getElem?_cons_zero]
                repeat (go_big_quiet_step (fail))
                refine wpQuiet_nil ?_
                refine anyT_load puts_true 1 60 (.iface 229 (.pointer (some (E 1)))) rfl rfl (by kernel_rfl) hTd (fun w h => exec_load32 h rfl rfl) ?_
                simp only [Act.put, List.setIfInBounds_toArray, List.set_cons_zero, List.set_cons_succ]
                refine anyP_one 2 (by kernel_rfl) ?_
                simp only [opsAt, List.getElem?_toArray, List.getElem?_cons_zero, List.getElem?_cons_succ]
                clear hTd
                go_wp2_with fail
                rw [← Hwf2.out]
                refine ⟨fun _ => HTf.out, ?_⟩
                refine anyP_one 3 (by kernel_rfl) ?_
                simp only [opsAt, List.getElem?_toArray, List.getElem?_cons_zero, List.getElem?_cons_succ]
                clear y0 y1 y2 y3 z0 z1 z2 z3
                go_wp2_with fail
                refine ⟨fun h => absurd rfl h, ?_⟩
                refine anyP_end (by kernel_rfl) ?_
                go_wp2_with fail
                show bodyPost Tryz.prog Tryz.f19 (ModPost w E ⟨nm.data.toList, b0, b1, ls⟩ (wb ss)) .ret _ _
                refine bodyPost_ret (v := .tuple #[zeroP, .iface 229 (.pointer (some (E 1)))]) (by simp [results, Tryz.results19, go_sem, r0, r1, r2, r3]) rfl ?_
                exact ModPost.arg (p := ⟨nm.data.toList, b0, b1, ls⟩) Hc.out HG.out HKf.out
              · unfold PrePost at HPr
                simp only [if_neg hpr] at HPr
                rw [preL_some, if_neg hpr, Option.map_some] at Hnf
                go_upto_region 10 with fail
                (with_reducible refine HPr.out.mono ?_)
                rintro e w5 ⟨ts5, rfl, hM5, hkp5⟩
                have HZ6 := Lib.hid (hkp5.four HZ5.out (by omega) (by have := Hhl.out; omega))
                have HK6 := Lib.hid (hkp5.keep HK4.out (by have := Hbx.out; omega) (by have := Hbx.out; have := Hhl.out; omega))
                have HM5 := Lib.hid hM5
                obtain ⟨y0, y1, y2, y3, z0, z1, z2, z3⟩ := hM5.four
                clear hM5 hkp5
                have hn24 : n ≤ 24 := by have := HM.out.l.ll; omega
                have HS := Lib.hid (fun (w1 : World) (nm1 : ByteArray) (hm : MdS w1 B bx nm1 t0' t1' tf td ts5 D (preL q.ls n) q.b0 q.b1) (kp : Kp w w1) hz (u : ByteArray) (hu : u = bs (q.nm ++ Q.plusW k x.data.toList)) => HM.out.step (w1 := w1) (q1 := { q with ls := preL q.ls n }) (least' := n + 1) hkw' (hxe ▸ Hnf.out) rfl (by rw [hxe]; exact hns.2) (by omega) nm1 t0' t1' tf td ts5 D hm kp (by have := Hbx.out; omega) hz
                  (preL_mem HM.out.l.ln) (by rw [preL_length]; exact HM.out.l.ll) (by have := HM.out.l.l0; simp only; omega) (by have := HM.out.l.l1; simp only; omega) u (by rw [hxe]; exact hu))
                have hq1 : (bs q.nm).size ≤ 140737488360000 := by have := HM.out.n; rw [bs_size]; omega
                by_cases hk0 : k = 0
                · have HB := Lib.hid (bs_plus q.nm x)
                  subst hk0
                  go_wp2_with fail
                  go_roundw
                  case rel => exact ⟨0 + 1, n + 1, _, by omega, by go_num, by go_num, HS.out w5 _ HM5.out HK6.out HZ6.out _ HB.out.symm⟩
                  case measure => simp [intOf]; omega
                · have HB := Lib.hid (bs_plus1 q.nm x (show 0 < k by omega))
                  have hq2 : (bs q.nm ++ (⟨#[43]⟩ : ByteArray)).size ≤ 140737488360001 := by rw [ByteArray.size_append]; have : (⟨#[43]⟩ : ByteArray).size = 1 := rfl; omega
                  go_wp2_with fail
                  go_roundw
                  case rel => exact ⟨k + 1, n + 1, _, by omega, by go_num, by go_num, HS.out (w5.setCell ⟨bx, 0, none⟩ (.string (bs q.nm ++ (⟨#[43]⟩ : ByteArray)))) _ (HM5.out.name _) (kp_step' HK6.out (Fr.set _ _ _) (by intro j hj; simp at hj; have := Hbx.out; omega)) (HZ6.out.fr (Fr.set _ _ _) (by simp)) _ HB.out.symm⟩
                  case measure => simp [intOf]; omega
      · obtain rfl : k = nw := by omega
        have hG : Q.goM srtI 0 0 ⟨nm.data.toList, b0, b1, ls⟩ (wb ss) = some q := by
          rw [HM.out.g, List.drop_of_length_le (by unfold wb; rw [List.length_map, HW.out.1]; exact Nat.le_refl _)]
          rfl
        have HG := Lib.hid hG
        have hlns := Hmem.out.pat (by have := HM.out.l.ll; omega) (fun l hl => by have := (HM.out.l.ln l hl).2.2; omega)
        have HC2 := Lib.hid (check_any wr E (Hk3.out.errs HE.out.errs) (bs q.nm) t0'.ao t1'.ao (subT tf D.length).ao t0'.n t0'.c t1'.n t1'.c (subT tf D.length).n (subT tf D.length).c q.b0 q.b1 q.ls hlns.i0 hlns.i1 hlns.il)
        obtain ⟨sa, sn, sc, hsub⟩ : ∃ sa sn sc, subT tf D.length = ⟨sa, sn, sc⟩ := ⟨_, _, _, rfl⟩
        rw [hsub] at HC2 hF4
        have Hsub := Lib.hid hsub
        clear hG hlns hsub
        by_cases hc2 : checkL q.b0 q.b1 q.ls = 0
        · have Hc2 := Lib.hid hc2
          rw [show errV E (checkL q.b0 q.b1 q.ls) = .nilIface by rw [hc2]; rfl] at HC2
          have HF4 := Lib.hid hF4
          obtain ⟨y0, y1, y2, y3, z0, z1, z2, z3⟩ := hF4
          unfold tvv at y1 y2 y3
          clear hc2
          go_wp2_with fail
          (with_reducible refine HC2.out.mono ?_)
          rintro e w7 ⟨rfl, hk7⟩
          have hF7 := HF4.out.kp hk7
          have hZ7 := HZ4.out.kp hk7
          have HM7 := Lib.hid (Hmem.out.kp hk7)
          obtain ⟨wf2, hwf2, hF2, hPf2⟩ := hZ7.set (.string (bs q.nm)) (.slice t0'.ao t0'.n t0'.c) (.slice t1'.ao t1'.n t1'.c) (.slice sa sn sc)
          clear y0 y1 y2 y3 z0 z1 z2 z3
          obtain ⟨y0, y1, y2, y3, z0, z1, z2, z3⟩ := hF7
          unfold tvv at y1 y2 y3
          obtain ⟨x0, x1, x2, x3, f0, f1, f2, f3⟩ := hZ7
          obtain ⟨r0, r1, r2, r3, _, _, _, _⟩ := hPf2
          have Hwf2 := Lib.hid hwf2
          have HKf := Lib.hid (kp_step' (Kp.trans Hk3.out hk7) hF2 (fun j hj => by simp at hj; have := Hbx.out; omega))
          have hsp := (HM7.out.sep.fr hF2 (fun x hx => by simp at hx; have := Hhl.out; omega)).base (B' := w.heap.size) (by have := Hhl.out; have := Hbx.out; omega)
          have HQ := Lib.hid (ModPost.fine (E := E) (p := ⟨nm.data.toList, b0, b1, ls⟩) Hc.out HG.out Hc2.out HKf.out HM7.out.hd HM7.out.h1 HM7.out.hl hsp)
          rw [Hsub.out] at HQ
          clear hwf2 hF2 hk7 hsp
          go_wp2_with fail
          rw [← Hwf2.out]
          show bodyPost Tryz.prog Tryz.f19 (ModPost w E ⟨nm.data.toList, b0, b1, ls⟩ (wb ss)) .ret _ _
          refine bodyPost_ret (v := .tuple #[.agg #[.string (bs q.nm), tvv t0', tvv t1', tvv ⟨sa, sn, sc⟩], .nilIface]) (by simp [results, Tryz.results19, go_sem, r0, r1, r2, r3, tvv]) rfl ?_
          exact HQ.out
        · have Hc2 := Lib.hid hc2
          have HEe := Lib.hid (errV_ptr E hc2)
          rw [HEe.out] at HC2
          obtain ⟨y0, y1, y2, y3, z0, z1, z2, z3⟩ := hF4
          unfold tvv at y1 y2 y3
          clear hc2
          go_upto_region 21 with fail
          (with_reducible refine HC2.out.mono ?_)
          rintro e w7 ⟨rfl, hk7⟩
          have hZ7 := HZ4.out.kp hk7
          obtain ⟨wf2, hwf2, hF2, hPf2⟩ := hZ7.set (.string ⟨#[]⟩) (.slice none 0 0) (.slice none 0 0) (.slice none 0 0)
          clear y0 y1 y2 y3 z0 z1 z2 z3
          obtain ⟨y0, y1, y2, y3, z0, z1, z2, z3⟩ := hZ7
          obtain ⟨r0, r1, r2, r3, _, _, _, _⟩ := hPf2
          have Hwf2 := Lib.hid hwf2
          have HKf := Lib.hid (kp_step' (Kp.trans Hk3.out hk7) hF2 (fun j hj => by simp at hj; have := Hbx.out; omega))
          clear hwf2 hF2 hk7
          go_wp2_with fail
          rw [← Hwf2.out]
          show bodyPost Tryz.prog Tryz.f19 (ModPost w E ⟨nm.data.toList, b0, b1, ls⟩ (wb ss)) .ret _ _
          refine bodyPost_ret (v := .tuple #[zeroP, .iface 229 (.pointer (some (E (checkL q.b0 q.b1 q.ls))))]) (by simp [results, Tryz.results19, go_sem, r0, r1, r2, r3]) rfl ?_
          exact ModPost.off (p := ⟨nm.data.toList, b0, b1, ls⟩) Hc.out HG.out Hc2.out HKf.out
  · have Hc := Lib.hid hc
    have HEe := Lib.hid (errV_ptr E hc)
    rw [HEe.out] at HC
    obtain ⟨y0, y1, y2, y3, z0, z1, z2, z3⟩ := hFA
    clear hc hFB hkw
    go_upto_region 3 with (go_at_call 24; go_loud (refine HC.out.mono ?_); rintro e w2 ⟨rfl, hk2⟩)
    have hP4 := HFB.out.kp hk2
    obtain ⟨wf, hwf, hF, hPf⟩ := hP4.set (.string ⟨#[]⟩) (.slice none 0 0) (.slice none 0 0) (.slice none 0 0)
    clear y0 y1 y2 y3 z0 z1 z2 z3
    obtain ⟨y0, y1, y2, y3, z0, z1, z2, z3⟩ := hP4
    obtain ⟨c0, c1, c2, c3, _, _, _, _⟩ := hPf
    have Hwf := Lib.hid hwf
    have HKf := Lib.hid (kp_step' (Kp.trans Hkw.out hk2) hF (fun j hj => by simp at hj; have := Hbx.out; omega))
    clear hwf hF hk2
    go_wp2_with fail
    rw [← Hwf.out]
    show bodyPost Tryz.prog Tryz.f19 (ModPost w E ⟨nm.data.toList, b0, b1, ls⟩ (wb ss)) .ret _ _
    refine bodyPost_ret (v := .tuple #[zeroP, .iface 229 (.pointer (some (E (checkL b0 b1 ls))))]) (by simp [results, Tryz.results19, go_sem, c0, c1, c2, c3]) rfl ?_
    exact ModPost.bad (p := ⟨nm.data.toList, b0, b1, ls⟩) Hc.out HKf.out
theorem modify_any (w : World) (E : Nat → Addr) (m : Int) (hE : Env w E m) (nm : ByteArray) (a0 a1 al : Option Addr) (n0 c0 n1 c1 nl cl : Nat) (b0 b1 : List Int) (ls : List Ln) (hP : PatI w a0 a1 al n0 n1 nl b0 b1 ls) (hs : ShortP nm n0 n1 nl ls)
    (ao : Option Addr) (nw cw : Nat) (ss : List ByteArray) (hW : Strs w ao nw ss) (hz : ∀ s ∈ ss, s.size ≤ 281474976710656) (hn : nw ≤ 200) :
    Calls Tryz.prog 19 #[patV nm a0 a1 al n0 c0 n1 c1 nl cl, .slice ao nw cw] w (ModPost w E ⟨nm.data.toList, b0, b1, ls⟩ (wb ss)) :=
  modify_wide w E m hE nm a0 a1 al n0 c0 n1 c1 nl cl b0 b1 ls hP hs.wide ao nw cw ss hW hz hn
end Go.Proofs.YtkmejehhdjdlbaaGreatDoor

namespace Go.Proofs.YtkmejehhdjdlbaaGreatDoor
open Go.ChangeShapes Go.WideShapes Go.RowKit Go.Deep

set_option maxRecDepth 100000 in
theorem strs_of_trod {H : Type} {enc : TypeId × Value → H} {W : World} {v : Value} {d : DataW H} {p : List MemPlace} {r : Reach} {base : Nat} (hv : Value.okWide Tryz.prog W r base 59 v)
    (h : DataW.Trod enc Tryz.prog W 0 (fun _ => true) true 59 v d p) (hw : ∀ k ∈ d.weights Tryz.prog 59, k ≤ 140737488351232) : ∃ ao n c ss, v = .slice ao n c ∧ Strs W ao n ss ∧ ∀ s ∈ ss, s.size ≤ 281474976710656 := by
  obtain ⟨a0, len0, cap0, rfl⟩ := okWide_slice Tryz.underlying59 hv
  obtain ⟨fuel, hf⟩ := h
  rcases open_strings Tryz.underlying59 Tryz.underlying9 (by kernel_rfl) hf with ⟨hcs, _⟩ | ⟨a, len, cap, ss, hcs, _, hl, hm, hz, hx, hcell, _⟩
  · simp [Value.cells] at hcs
    obtain ⟨rfl, rfl, rfl⟩ := hcs
    exact ⟨none, 0, 0, [], rfl, ⟨rfl, Nat.zero_le _, fun j u hu => by simp at hu⟩, by simp⟩
  · simp [Value.cells] at hcs
    obtain ⟨rfl, rfl, rfl⟩ := hcs
    simp only [if_true] at hz
    simp only [Prod.mk.injEq] at hx
    obtain ⟨rfl, _⟩ := hx
    refine ⟨_, _, _, ss.take len0, rfl, ⟨by simp; omega, Nat.le_trans hl hm, fun j u hu => ?_⟩, fun s hs => ?_⟩
    · have hj : j < len0 := by
        have := (List.getElem?_eq_some_iff.1 hu).1
        simp at this; omega
      have hc := hcell j (by omega)
      obtain ⟨b, off, spot⟩ := a
      have hspot : spot = none := by simpa [Addr.add] using World.cell?_spot (hcell 0 (by omega))
      subst hspot
      rw [Addr.add_lit] at hc
      refine ⟨b, off, rfl, ?_⟩
      rw [hc]
      have hzj : ss[j]? = some ss[j] := List.getElem?_eq_getElem (by omega)
      simp [List.getElem?_map, hj, hzj, List.getD_eq_getElem?_getD] at hu ⊢
      exact hu
    · have h1 : s.data.toList.length ∈ (DataW.slice (strs (ss.take len0)) (strs (ss.drop len0)) : DataW H).weights Tryz.prog 59 := by
        simp only [DataW.weights, Tryz.underlying59, List.mem_cons, List.mem_append]
        refine .inr (.inl (weights_of_mem (d := .lit (.string s.data.toList)) (List.mem_map.2 ⟨s, hs, rfl⟩) ?_))
        simp [DataW.weights]
      have h2 := hw _ h1
      have h3 : s.size = s.data.toList.length := Lib.size_eq s
      omega
end Go.Proofs.YtkmejehhdjdlbaaGreatDoor

namespace Go.Proofs.YtkmejehhdjdlbaaGreatDoor
open Go.RowKit

theorem empty_app {wr w2 : World} {cap m N c : Nat} {zs : List Value} {a : Option Addr} (ha : Appd (wr.alloc (.cells #[] 3)) w2 wr.heap.size 3 1 (some ⟨wr.heap.size, 0, none⟩) cap m N zs a c) : Kp wr w2 :=
  kp_step' (Kp.new wr (.cells #[] 3)) ha.fr (fun j hj => by rw [mem_blkL_some] at hj; omega)
/-- The cells that a round looks at. -/
structure ClY (bx bq o : Nat) (vl : Value) (f : Int) (vt : Value) (w : World) : Prop where
  p : w.cell? ⟨bx, 3, none⟩ = some vl
  c0 : w.cell? ⟨bq, o, none⟩ = some (iv f)
  c1 : w.cell? ⟨bq, o + 1, none⟩ = some vt
theorem ClY.kp {bx bq o : Nat} {vl vt : Value} {f : Int} {w w' : World} (h : ClY bx bq o vl f vt w) (k : Kp w w') : ClY bx bq o vl f vt w' := ⟨k.cell h.p, k.cell h.c0, k.cell h.c1⟩
/-- A round of the copying: the tokens in a list of their own, the message behind the others. -/
theorem cp_step {wq w3 w4 : World} {B k lc : Nat} {lo : Option Addr} {us : List Tv} {ls : List Ln} {R0 R1 : Rw} {lo' : Option Addr} {lc' : Nat} (h : Sep wq B (⟨73, 2, ⟨lo, k, lc⟩, lnc (ls.take k) us⟩ :: R0 :: R1 :: rowsT us (ls.take k))) (hl : us.length = k) (hk : k < ls.length) (hk3 : Kp wq w3) (t : Tv)
    (hO : Own w3 wq.heap.size 3 1 t.ao t.n t.c (ls[k].2.map iv)) (hB : B ≤ wq.heap.size) (ha : Appd (w3.alloc (.cells #[iv ls[k].1, tvv t] 73)) w4 B 73 2 lo lc 1 (k + 1) (lnc (ls.take (k + 1)) (us ++ [t])) lo' lc') :
    Sep w4 B (⟨73, 2, ⟨lo', k + 1, lc'⟩, lnc (ls.take (k + 1)) (us ++ [t])⟩ :: R0 :: R1 :: rowsT (us ++ [t]) (ls.take (k + 1))) := by
  have h1 := (h.new hk3 (r := rowT t ls[k]) hO hB).perm (List.perm_append_singleton (rowT t ls[k]) (⟨73, 2, ⟨lo, k, lc⟩, lnc (ls.take k) us⟩ :: R0 :: R1 :: rowsT us (ls.take k))).symm
  have h2 := h1.kp (Kp.new w3 (.cells #[iv ls[k].1, tvv t] 73))
  have h3 := Sep.app (t := ⟨lo, k, lc⟩) h2 ha
  have e : rowsT (us ++ [t]) (ls.take (k + 1)) = rowsT us (ls.take k) ++ [rowT t ls[k]] := by
    rw [take_step ls k hk]
    exact rowsT_append _ _ _ _ (by rw [List.length_take]; omega)
  rw [e]
  exact h3
end Go.Proofs.YtkmejehhdjdlbaaGreatDoor

namespace Go.Proofs.YtkmejehhdjdlbaaGreatDoor
open Go.RowKit

set_option maxRecDepth 100000 in
set_option maxHeartbeats 8000000 in
theorem copied_any (w : World) (nm : ByteArray) (a0 a1 al : Option Addr) (n0 c0 n1 c1 nl cl : Nat) (b0 b1 : List Int) (ls : List Ln) (hP : PatI w a0 a1 al n0 n1 nl b0 b1 ls) (hs : ShortP ⟨#[]⟩ n0 n1 nl ls) :
    Calls Tryz.prog 42 #[patV nm a0 a1 al n0 c0 n1 c1 nl cl] w (ClonedPost w nm b0 b1 ls) := by
  have Hs := Lib.hid hs
  have HP := Lib.hid hP
  have hkA := Kp.new w (.cells #[.string nm, .slice a0 n0 c0, .slice a1 n1 c1, .slice al nl cl] 26)
  have hkB := Kp.new (w.alloc (.cells #[.string nm, .slice a0 n0 c0, .slice a1 n1 c1, .slice al nl cl] 26)) (.cells #[.string ⟨#[]⟩, .slice none 0 0, .slice none 0 0, .slice none 0 0] 26)
  have hFA := (Four.new w (.string nm) (.slice a0 n0 c0) (.slice a1 n1 c1) (.slice al nl cl) 26).kp hkB
  have hFB := Four.new (w.alloc (.cells #[.string nm, .slice a0 n0 c0, .slice a1 n1 c1, .slice al nl cl] 26)) (.string ⟨#[]⟩) (.slice none 0 0) (.slice none 0 0) (.slice none 0 0) 26
  rw [World.size_alloc] at hFB
  have hkw := Kp.trans hkA hkB
  clear hkA hkB hP hs
  go_enter Tryz.func42, Tryz.ntmps42
  go_upto_region 1 with fail
  obtain ⟨bx, hbx⟩ : ∃ bx, bx = w.heap.size := ⟨_, rfl⟩
  rw [← hbx] at hFA hFB ⊢
  generalize (w.alloc (.cells #[.string nm, .slice a0 n0 c0, .slice a1 n1 c1, .slice al nl cl] 26)).alloc (.cells #[.string ⟨#[]⟩, .slice none 0 0, .slice none 0 0, .slice none 0 0] 26) = wb at *
  have Hbx := Lib.hid hbx
  clear hbx
  have HFA := Lib.hid hFA
  have HFB := Lib.hid hFB
  have Hkw := Lib.hid hkw
  have hbl0 := hFB.lt
  have HI0 := Lib.hid (hkw.is HP.out.i0)
  have hn0 := Hs.out.n0
  obtain ⟨y0, y1, y2, y3, z0, z1, z2, z3⟩ := hFA.kp (Kp.new wb (.cells #[] 3))
  clear hFB hkw hFA
  go_upto_region 2 with (at_builtin; go_loud (refine wpList_app rfl (.tmp 5) (.tmp 8) 22 rfl el22 wb.heap.size rfl (Own.empty wb 3 1) rfl (b0.map iv) (by have := HI0.out.1; simp; omega) ((Kp.new wb (.cells #[] 3)).cs HI0.out.2.2) (by simp [Value.oneCell']) n0 (by omega) (b0.map iv) (by simp) (by omega) (by simp) ?_); intro a c w3 ha; have HA := Lib.hid ha; clear ha y0 y1 y2 y3 z0 z1 z2 z3; obtain ⟨y0, y1, y2, y3, z0, z1, z2, z3⟩ := HFA.out.kp (empty_app HA.out))
  have hk3 := empty_app HA.out
  have hO := HA.out.own
  have hF3 := HFA.out.kp hk3
  have hset := Fr.set w3 ⟨bx, 1, none⟩ (.slice a n0 c)
  have HF4 := Lib.hid (hF3.set1 (.slice a n0 c))
  have HG4 := Lib.hid ((HFB.out.kp hk3).fr hset (by simp))
  have Hk4 := Lib.hid (kp_step' (Kp.trans Hkw.out hk3) hset (by intro j hj; simp at hj; have := Hbx.out; omega))
  have HS4 := Lib.hid (show Sep (w3.setCell ⟨bx, 1, none⟩ (.slice a n0 c)) (bx + 2) [⟨3, 1, ⟨a, n0, c⟩, b0.map iv⟩] from
    ⟨fun r hr => by simp only [List.mem_singleton] at hr; subst hr; exact Own.mono (hset.own hO (fun x hx hq => by have := (hO.lt x (mem_blkL.1 hx)).1; simp at hq; omega)) (fun x hx => by have := (hO.lt x hx).1; omega), by simp⟩)
  clear hk3 hO hF3 hset HA HFA HFB Hkw HI0 y0 y1 y2 y3 z0 z1 z2 z3
  generalize w3.setCell ⟨bx, 1, none⟩ (.slice a n0 c) = w4 at *
  obtain ⟨t0, ht0⟩ : ∃ t0 : Tv, t0 = ⟨a, n0, c⟩ := ⟨_, rfl⟩
  have hbl1 := HG4.out.lt
  have HI1 := Lib.hid (Hk4.out.is HP.out.i1)
  have hn1 := Hs.out.n1
  obtain ⟨y0, y1, y2, y3, z0, z1, z2, z3⟩ := HF4.out.kp (Kp.new w4 (.cells #[] 3))
  go_upto_region 3 with (at_builtin; go_loud (refine wpList_app rfl (.tmp 12) (.tmp 15) 22 rfl el22 w4.heap.size rfl (Own.empty w4 3 1) rfl (b1.map iv) (by have := HI1.out.1; simp; omega) ((Kp.new w4 (.cells #[] 3)).cs HI1.out.2.2) (by simp [Value.oneCell']) n1 (by omega) (b1.map iv) (by simp) (by omega) (by simp) ?_); intro a' c' w5 ha; have HA := Lib.hid ha; clear ha y0 y1 y2 y3 z0 z1 z2 z3; obtain ⟨y0, y1, y2, y3, z0, z1, z2, z3⟩ := HF4.out.kp (empty_app HA.out))
  have hk3 := empty_app HA.out
  have hO := HA.out.own
  have hF3 := HF4.out.kp hk3
  have hset := Fr.set w5 ⟨bx, 2, none⟩ (.slice a' n1 c')
  have hF := hF3.set2 (.slice a' n1 c')
  have hG := (HG4.out.kp hk3).fr hset (by simp)
  have hkr := kp_step' (Kp.trans Hk4.out hk3) hset (by intro j hj; simp at hj; have := Hbx.out; omega)
  have s2 := (HS4.out.new hk3 (r := ⟨3, 1, ⟨a', n1, c'⟩, b1.map iv⟩) hO (by omega)).fr hset (by intro x hx; simp at hx; omega)
  clear hk3 hO hF3 hset HA HF4 HG4 Hk4 HS4 HI1 y0 y1 y2 y3 z0 z1 z2 z3
  generalize w5.setCell ⟨bx, 2, none⟩ (.slice a' n1 c') = wr at *
  obtain ⟨t1, ht1⟩ : ∃ t1 : Tv, t1 = ⟨a', n1, c'⟩ := ⟨_, rfl⟩
  have e0 : (⟨a, n0, c⟩ : Tv) = t0 := ht0.symm
  have e1 : (⟨a', n1, c'⟩ : Tv) = t1 := ht1.symm
  rw [e0, e1] at s2
  have f0 : Value.slice a n0 c = .slice t0.ao t0.n t0.c := by rw [← e0]
  have f1 : Value.slice a' n1 c' = .slice t1.ao t1.n t1.c := by rw [← e1]
  rw [f0, f1] at hF
  clear ht0 ht1 e0 e1 f0 f1
  have hN : nl ≤ 2000 := Hs.out.nl
  have Hll := Lib.hid HP.out.il.1
  have HF2 := Lib.hid hF
  have HG2 := Lib.hid hG
  have hbl := hG.lt
  have hS0 : Sep wr (bx + 2) (⟨73, 2, nilT, lnc (ls.take 0) []⟩ :: ⟨3, 1, t1, b1.map iv⟩ :: ⟨3, 1, t0, b0.map iv⟩ :: rowsT [] (ls.take 0)) :=
    s2.cons (Own.nil _ _ _ _) (fun x hx => by simp [Rw.bl, nilT, blkL, blk] at hx)
  have HS0 := Lib.hid hS0
  have Hkr := Lib.hid hkr
  clear hF hG s2 hS0 hkr
  go_wp2_with fail
  go_loopw [3, 4] (fun lv i wv => ∃ (k lc : Nat) (lo : Option Addr) (us : List Tv), k ≤ nl ∧ i = .int .i64 (k : Nat) ∧ lv = .slice lo k lc ∧ us.length = k ∧ Sep wv (bx + 2) (⟨73, 2, ⟨lo, k, lc⟩, lnc (ls.take k) us⟩ :: ⟨3, 1, t1, b1.map iv⟩ :: ⟨3, 1, t0, b0.map iv⟩ :: rowsT us (ls.take k)) ∧ Kp w wv ∧ Four wv bx (.string nm) (.slice t0.ao t0.n t0.c) (.slice t1.ao t1.n t1.c) (.slice al nl cl) ∧ Four wv (bx + 1) (.string ⟨#[]⟩) (.slice none 0 0) (.slice none 0 0) (.slice none 0 0)) (fun _ i _ => nl - (intOf i).toNat)
  case atStart => exact ⟨0, 0, none, [], by omega, rfl, rfl, rfl, HS0.out, Hkr.out, HF2.out, HG2.out⟩
  case round =>
    clear HS0 Hkr HF2 HG2
    obtain ⟨k, lc, lo, us, hk, rfl, rfl, hus, hS, hkv, hF, hG⟩ := hrel
    rename World => wv
    have hbl := hG.lt
    by_cases hkn : k < nl
    · have hkl : k < ls.length := by rw [Hll.out]; exact hkn
      obtain ⟨bq, off, tp, tn, tc, rfl, hd1, hd2, hI, htn⟩ := HP.out.il.2.2 k hkl
      have hbq : bq < w.heap.size := by have := World.block_lt_of_cell? _ _ hd1; simpa using this
      replace hd1 := hkv.cell hd1
      replace hd2 := hkv.cell hd2
      replace hI := hkv.is hI
      have htn2 : tn ≤ 2000 := by have := Hs.out.ts _ (List.getElem_mem hkl); rw [← hI.1]; exact this
      have Hlnc := Lib.hid (fun (t : Tv) => show lnc (ls.take (k + 1)) (us ++ [t]) = lnc (ls.take k) us ++ [iv ls[k].1, tvv t] by rw [take_step ls k hkl]; exact lnc_append _ _ (by rw [List.length_take]; omega))
      have Hst := Lib.hid (fun (wq w3 w4 : World) (hkq : Kp wv wq) (lo' : Option Addr) (lc' : Nat) (hk3 : Kp wq w3) (t : Tv) (hO : Own w3 wq.heap.size 3 1 t.ao t.n t.c (ls[k].2.map iv)) (ha : Appd (w3.alloc (.cells #[iv ls[k].1, tvv t] 73)) w4 (bx + 2) 73 2 lo lc 1 (k + 1) (lnc (ls.take (k + 1)) (us ++ [t])) lo' lc') => cp_step (hS.kp hkq) hus hkl hk3 t hO (by have := hkq.size; omega) ha)
      have HS := Lib.hid hS
      have HF := Lib.hid hF
      have HG := Lib.hid hG
      have Hkv := Lib.hid hkv
      have Hus := Lib.hid hus
      have y3 := hF.c3
      generalize ls[k] = l at *
      obtain ⟨f, xs⟩ := l
      simp only at hd1 hd2 hI Hlnc Hst
      have HI := Lib.hid hI
      clear hS hF hG hkv hus hI
      go_upto_region 7 with fail
      refine anyP_start (ClY bx bq (off + k * 2) (.slice (some ⟨bq, off, none⟩) nl cl) f (.slice tp tn tc)) 18 (fun _ => True) (fun _ _ => False) (by kernel_rfl) (fun _ _ _ _ h => h.elim) ?_
      obtain ⟨wq, hwq⟩ : ∃ wq, wq = wv.drew := ⟨_, rfl⟩
      have hkq : Kp wv wq := hwq ▸ (⟨rfl, rfl, rfl, Nat.le_refl _, fun _ _ => rfl⟩ : Kp wv wv.drew)
      rw [← hwq]
      have hq : ClY bx bq (off + k * 2) (.slice (some ⟨bq, off, none⟩) nl cl) f (.slice tp tn tc) wq := ⟨hkq.cell y3, hkq.cell hd1, hkq.cell hd2⟩
      have Hkq := Lib.hid hkq
      have hszq : bx + 2 ≤ wq.heap.size := by have := hkq.size; omega
      clear hwq y3 hd1 hd2 hkq
      refine anyP_take puts_true [0, 1, 3, 8, 10] (by kernel_rfl) hq ?_
      simp only [opsAt, List.getElem?_toArray, List.getElem?_cons_zero, List.getElem?_cons_succ]
      repeat (go_big_quiet_step (fail))
      refine wpQuiet_nil ?_
      refine anyP_load puts_true 2 28 (.slice (some ⟨bq, off, none⟩) nl cl) rfl rfl (by kernel_rfl) hq (fun w h => exec_load24 h.p (by first | rfl | simp [Act.eval]) rfl) ?_
      simp only [Act.put, List.setIfInBounds_toArray, List.set_cons_zero, List.set_cons_succ]
      refine anyP_load puts_true 9 35 (.slice (some ⟨bq, off, none⟩) nl cl) rfl rfl (by kernel_rfl) hq (fun w h => exec_load24 h.p (by first | rfl | simp [Act.eval]) rfl) ?_
      simp only [Act.put, List.setIfInBounds_toArray, List.set_cons_zero, List.set_cons_succ]
      refine anyP_take puts_true [4, 5, 11, 12] (by kernel_rfl) hq ?_
      simp only [opsAt, List.getElem?_toArray, List.getElem?_cons_zero, List.getElem?_cons_succ]
      repeat (go_big_quiet_step (fail))
      refine wpQuiet_nil ?_
      refine anyP_load puts_true 6 32 (iv f) rfl rfl (by kernel_rfl) hq (fun w h => exec_load3 h.c0 (by first | rfl | simp [Act.eval]) rfl) ?_
      simp only [Act.put, List.setIfInBounds_toArray, List.set_cons_zero, List.set_cons_succ]
      refine anyP_load puts_true 13 39 (.slice tp tn tc) rfl rfl (by kernel_rfl) hq (fun w h => exec_load22 h.c1 (by first | rfl | simp [Act.eval]) rfl) ?_
      simp only [Act.put, List.setIfInBounds_toArray, List.set_cons_zero, List.set_cons_succ]
      refine anyP_one 7 (by kernel_rfl) ?_
      simp only [opsAt, List.getElem?_toArray, List.getElem?_cons_zero, List.getElem?_cons_succ]
      go_wp2_with fail
      have hk7 := Kp.new wq (.cells #[] 3)
      have hq7 := hq.kp hk7
      refine ⟨fun _ => hq7, ?_⟩
      refine anyP_one 14 (by kernel_rfl) ?_
      simp only [opsAt, List.getElem?_toArray, List.getElem?_cons_zero, List.getElem?_cons_succ]
      go_wp2_with (at_builtin; go_loud (refine wpList_app rfl (.tmp 33) (.tmp 39) 22 rfl el22 wq.heap.size rfl (Own.empty wq 3 1) rfl (xs.map iv) (by have := HI.out.1; simp; omega) ((Kp.trans Hkq.out hk7).cs HI.out.2.2) (by simp [Value.oneCell']) tn (by omega) (xs.map iv) (by simp) (by omega) (by simp) ?_); intro a d w3 ha; have HA := Lib.hid ha; clear ha)
      have hk3 := empty_app HA.out
      have hO3 := HA.out.own
      have hq3 := hq.kp hk3
      refine ⟨fun _ => hq3, ?_⟩
      clear hq7 hk7
      refine anyP_one 15 (by kernel_rfl) ?_
      simp only [opsAt, List.getElem?_toArray, List.getElem?_cons_zero, List.getElem?_cons_succ]
      go_wp2_with fail
      refine ⟨fun _ => hq3, ?_⟩
      refine anyP_one 16 (by kernel_rfl) ?_
      simp only [opsAt, List.getElem?_toArray, List.getElem?_cons_zero, List.getElem?_cons_succ]
      go_wp2_with fail
      have hk8 := Kp.new w3 (.cells #[iv f, .slice a tn d] 73)
      have hq8 := hq3.kp hk8
      refine ⟨fun _ => hq8, ?_⟩
      have Hcs := Lib.hid (Cs.new w3 [iv f, .slice a tn d] 73 (0, 0))
      have HOl := Lib.hid (show Own (w3.alloc (.cells #[iv f, .slice a tn d] 73)) (bx + 2) 73 2 lo k lc (lnc (ls.take k) us) from (Own.keep (Own.keep (Own.keep HS.out.head Hkq.out) hk3) hk8))
      have hsz8 : bx + 2 ≤ (w3.alloc (.cells #[iv f, .slice a tn d] 73)).heap.size := by have := hk3.size; have := hk8.size; omega
      have Hk3 := Lib.hid hk3
      have HO3 := Lib.hid hO3
      have Hk8 := Lib.hid hk8
      clear hk3 hO3 hk8
      refine anyP_one 17 (by kernel_rfl) ?_
      simp only [opsAt, List.getElem?_toArray, List.getElem?_cons_zero, List.getElem?_cons_succ]
      go_wp2_with (at_builtin; go_loud (refine wpList_app rfl (.tmp 26) (.tmp 42) 24 rfl el24 (bx + 2) rfl HOl.out rfl [iv f, .slice a tn d] rfl Hcs.out (by simp [Value.oneCell']) (k + 1) rfl (lnc (ls.take (k + 1)) (us ++ [⟨a, tn, d⟩])) (Hlnc.out ⟨a, tn, d⟩) (by omega) hsz8 ?_); intro lo2 lc2 w9 hb; have HB := Lib.hid hb; clear hb)
      have hbx9 : bx ∉ blkL lo := fun h => by have := (HOl.out.lt bx (mem_blkL.1 h)).1; omega
      have hS9 := Lib.hid (Hst.out wq w3 w9 Hkq.out lo2 lc2 Hk3.out ⟨a, tn, d⟩ HO3.out HB.out)
      have hF9 := Lib.hid ((((HF.out.kp Hkq.out).kp Hk3.out).kp Hk8.out).fr HB.out.fr hbx9)
      have hG9 := Lib.hid ((((HG.out.kp Hkq.out).kp Hk3.out).kp Hk8.out).fr HB.out.fr (fun h => by have := (HOl.out.lt _ (mem_blkL.1 h)).1; omega))
      have hK9 := Lib.hid (kp_step' (Kp.trans (Kp.trans (Kp.trans Hkv.out Hkq.out) Hk3.out) Hk8.out) HB.out.fr (fun j hj => by have := (HOl.out.lt j (mem_blkL.1 hj)).1; have := Hbx.out; omega))
      have hq9 : ClY bx bq (off + k * 2) (.slice (some ⟨bq, off, none⟩) nl cl) f (.slice tp tn tc) w9 := by
        have hbq9 : bq ∉ blkL lo := fun h => by have := (HOl.out.lt bq (mem_blkL.1 h)).1; have := Hbx.out; omega
        exact ⟨HB.out.fr.cell hq8.p hbx9, HB.out.fr.cell hq8.c0 hbq9, HB.out.fr.cell hq8.c1 hbq9⟩
      refine ⟨fun _ => hq9, ?_⟩
      clear hq hq3 hq8
      refine anyP_one 18 (by kernel_rfl) ?_
      simp only [opsAt, List.getElem?_toArray, List.getElem?_cons_zero, List.getElem?_cons_succ]
      clear hq9
      go_wp2_with fail
      refine ⟨fun h => absurd rfl h, ?_⟩
      refine anyP_end (by kernel_rfl) ?_
      go_wp2_with fail
      go_roundw
      case rel => exact ⟨k + 1, lc2, lo2, us ++ [⟨a, tn, d⟩], by omega, by go_num, rfl, by simp [Hus.out], hS9.out, hK9.out, hF9.out, hG9.out⟩
      case measure => simp [intOf]; omega
    · obtain rfl : k = nl := by omega
      have hlk : ls.length = k := Hll.out
      have hS2 := hS.perm (rs' := rowsP t0 t1 ⟨lo, k, lc⟩ us b0 b1 ls) (by
        rw [List.take_of_length_le (by omega)]
        unfold rowsP
        exact (List.perm_middle (l₁ := [_, _])).symm.trans (List.Perm.swap _ _ _))
      have hF5 := hF.set3 (.slice lo k lc)
      have hset := Fr.set wv ⟨bx, 3, none⟩ (.slice lo k lc)
      have hG5 := hG.fr hset (by simp)
      have hS5 := hS2.fr hset (by intro x hx; simp at hx; omega)
      have hk5 := kp_step' hkv hset (by intro j hj; simp at hj; have := Hbx.out; omega)
      obtain ⟨wf, hwf, hFf, h4⟩ := hG5.set (.string nm) (.slice t0.ao t0.n t0.c) (.slice t1.ao t1.n t1.c) (.slice lo k lc)
      have HK := Lib.hid (kp_step' hk5 hFf (by intro j hj; simp at hj; have := Hbx.out; omega))
      have HSf := Lib.hid ((hS5.fr hFf (by intro x hx; simp at hx; omega)).base (B' := w.heap.size) (by have := Hbx.out; omega))
      have Hwf := Lib.hid hwf
      have HF5 := Lib.hid hF5
      have HG5 := Lib.hid hG5
      have Hus := Lib.hid (show us.length = ls.length by omega)
      obtain ⟨q0, q1, q2, q3, _, _, _, _⟩ := h4
      obtain ⟨y0, y1, y2, y3, z0, z1, z2, z3⟩ := hF
      clear hwf hFf hS hS2 hS5 hset hG hus hlk hkv hk5 hF5 hG5
      go_upto_region 9 with fail
      clear y0 y1 y2 y3 z0 z1 z2 z3
      obtain ⟨y0, y1, y2, y3, z0, z1, z2, z3⟩ := HF5.out
      obtain ⟨x0, x1, x2, x3, f0, f1, f2, f3⟩ := HG5.out
      go_wp2_with fail
      rw [← Hwf.out]
      show bodyPost Tryz.prog Tryz.f42 (ClonedPost w nm b0 b1 ls) .ret _ _
      refine bodyPost_ret (v := .agg #[.string nm, tvv t0, tvv t1, tvv ⟨lo, k, lc⟩]) (by simp [results, Tryz.results42, go_sem, q0, q1, q2, q3, tvv]) rfl ?_
      exact ⟨HK.out, t0, t1, ⟨lo, k, lc⟩, us, rfl, Hus.out, HSf.out⟩
end Go.Proofs.YtkmejehhdjdlbaaGreatDoor

namespace Go.Proofs.YtkmejehhdjdlbaaGreatDoor
open Go.RowKit

theorem el59 : El Tryz.prog 59 9 (.string ⟨#[]⟩) 1 16 := ⟨Tryz.underlying59, by kernel_rfl, rfl, by decide, by decide⟩
theorem joinT_lib : ∀ (ws : List Q.Bt), Lib.join ws [44, 32] = Q.joinT ws
  | [] => rfl
  | [x] => by rw [Lib.join_one]; rfl
  | x :: y :: r => by
    rw [Q.joinT, ← joinT_lib (y :: r)]
    simp [Lib.join, List.intercalate, List.intersperse, Q.comma]
theorem tokW_len (t : Int) : (Q.tokW t).length ≤ 3 := by
  unfold Q.tokW
  repeat' split
  all_goals decide
theorem joinT_len : ∀ (ts : List Int), (Q.joinT (ts.map Q.tokW)).length ≤ 5 * ts.length
  | [] => by simp [Q.joinT]
  | [t] => by
    have : (Q.tokW t).length ≤ 3 := tokW_len t
    simp [Q.joinT]; omega
  | t :: u :: r => by
    have h1 : (Q.tokW t).length ≤ 3 := tokW_len t
    have h2 := joinT_len (u :: r)
    simp only [List.map_cons, Q.joinT, List.length_append, List.length_cons, Q.comma] at h2 ⊢
    simp only [List.length_nil]
    omega
def tokS (t : Int) : Value := .string (bs (Q.tokW t))
theorem words_cell (w : World) {t : Int} (h1 : 1 ≤ t) (h7 : t ≤ 7) : (w.alloc (.cells wordsV 143)).cell? ⟨w.heap.size, t.toNat, none⟩ = some (tokS t) := by
  rw [World.cell?_alloc_at _ _ _ _ rfl]
  rcases (show t = 1 ∨ t = 2 ∨ t = 3 ∨ t = 4 ∨ t = 5 ∨ t = 6 ∨ t = 7 by omega) with rfl | rfl | rfl | rfl | rfl | rfl | rfl <;> rfl
theorem row_bytes (f : Int) (ts : List Int) (h : Q.Bt) (hh : Q.headT f = h) : bs (Q.endR (Q.rowT (f, ts))) = bs h ++ ⟨(Lib.join (ts.map Q.tokW) [44, 32]).toArray⟩ ++ (⟨#[10]⟩ : ByteArray) := by
  unfold Q.endR Q.rowT
  rw [joinT_lib, bs_append, bs_append, hh]
  rfl
/-- What is answered: the row with its end. -/
def SaidPost (w : World) (f : Int) (ts : List Int) (e : Ending) (w' : World) : Prop := e = .returned (.string (bs (Q.endR (Q.rowT (f, ts))))) ∧ Kp w w'
set_option maxRecDepth 100000 in
set_option maxHeartbeats 8000000 in
theorem said_0 (w : World) (ao : Option Addr) (n c : Nat) (ts : List Int) (hI : Is w ao n ts) (hn : n ≤ 10000) (hp : 0 < n) (ht : ∀ t ∈ ts, 1 ≤ t ∧ t ≤ 7) :
    Calls Tryz.prog 67 #[iv 0, .slice ao n c] w (SaidPost w 0 ts) := by
  have HI := Lib.hid hI
  have Ht := Lib.hid ht
  have Hlen := Lib.hid hI.1
  clear hI ht
  go_enter Tryz.func67, Tryz.ntmps67
  go_wp2_with fail
  (with_reducible refine (words_any w).mono ?_)
  rintro e w1 ⟨rfl, hk1⟩
  have hk2 := Kp.trans hk1 (Kp.new w1 (.cells wordsV 143))
  have hwc := Lib.hid (fun t h1 h7 => words_cell w1 (t := t) h1 h7)
  obtain ⟨b, hb⟩ : ∃ b, b = w1.heap.size := ⟨_, rfl⟩
  obtain ⟨w2, hw2⟩ : ∃ w2, w2 = w1.alloc (.cells wordsV 143) := ⟨_, rfl⟩
  rw [← hb, ← hw2] at hwc
  rw [← hw2] at hk2
  unfold wordsV at hw2 ⊢
  have Hb := Lib.hid hb
  have Hw2 := Lib.hid hw2
  clear hk1 hb hw2
  go_wp2_with fail
  rw [← Hb.out, ← Hw2.out]
  have Hk2 := Lib.hid hk2
  obtain ⟨B, hB⟩ : ∃ B, B = w2.heap.size := ⟨_, rfl⟩
  have HB := Lib.hid hB
  have hO0 : Own w2 B 9 1 none 0 0 ((ts.take 0).map tokS) := Own.nil _ _ _ _
  clear hk2 hB
  go_loopw [7, 15] (fun v i wr => ∃ (k : Nat) (ao' : Option Addr) (c' : Nat), k ≤ n ∧ i = .int .i64 (k : Nat) ∧ v = .slice ao' k c' ∧ Own wr B 9 1 ao' k c' ((ts.take k).map tokS) ∧ Kp w2 wr) (fun _ i _ => n - (intOf i).toNat)
  case atStart => exact ⟨0, none, 0, by omega, rfl, rfl, hO0, Kp.refl _⟩
  case round =>
    clear hO0
    obtain ⟨k, ao', c', hk, rfl, rfl, hO, hkr⟩ := hrel
    rename World => wr
    by_cases hlt : k < n
    · have hkl : k < ts.length := by rw [Hlen.out]; exact hlt
      obtain ⟨g, o, rfl, hcx⟩ := HI.out.at k hlt
      replace hcx := (Kp.trans Hk2.out hkr).cell (hcx.2 k hlt)
      have htk := Ht.out ts[k] (List.getElem_mem hkl)
      have hwd := hkr.cell (hwc.out ts[k] htk.1 htk.2)
      have hzs := take_step ts k hkl
      generalize ts[k] = t at *
      obtain ⟨j, rfl⟩ : ∃ j : Nat, t = (j : Int) := ⟨t.toNat, by omega⟩
      rw [Int.toNat_natCast] at hwd
      have hj : 1 ≤ j ∧ j ≤ 7 := by omega
      unfold tokS at hwd
      have hk7 := Kp.new wr (.cells #[.string (bs (Q.tokW (j : Int)))] 9)
      have hcs7 := Cs.new wr [.string (bs (Q.tokW (j : Int)))] 9 (0, 0)
      have HO7 := Lib.hid (hO.keep hk7)
      have Hk7 := Lib.hid (Kp.trans hkr hk7)
      have hs7 : B ≤ (wr.alloc (.cells #[.string (bs (Q.tokW (j : Int)))] 9)).heap.size := by rw [HB.out]; exact Hk7.out.size
      have hzz : (ts.take (k + 1)).map tokS = (ts.take k).map tokS ++ [.string (bs (Q.tokW (j : Int)))] := by rw [hzs, List.map_append]; rfl
      clear hk7 hO hkr htk hzs
      go_wp2_with (at_builtin; go_loud (refine wpList_app rfl (.tmp 19) (.tmp 23) 59 rfl el59 B rfl HO7.out rfl [.string (bs (Q.tokW (j : Int)))] rfl hcs7 (by simp [Value.oneCell']) (k + 1) rfl ((ts.take (k + 1)).map tokS) hzz (by omega) hs7 ?_); intro ao2 cap2 w8 ha)
      have hO8 := ha.own
      have hk8 : Kp w2 w8 := kp_step' Hk7.out ha.fr (fun x hx => by rw [← HB.out]; exact (HO7.out.lt x (mem_blkL.1 hx)).1)
      go_roundw
      case rel => exact ⟨k + 1, ao2, cap2, by omega, by go_num, rfl, hO8, hk8⟩
      case measure => simp [intOf]; omega
    · obtain rfl : k = n := by omega
      obtain ⟨g, rfl⟩ := hO.blockOf hp
      have hcp := hO.cap
      have hjl : (ts.map (fun t => bs (Q.tokW t))).length = k := by rw [List.length_map, Hlen.out]
      have hjd : (ts.map (fun t => bs (Q.tokW t))).map (·.data.toList) = ts.map Q.tokW := by rw [List.map_map]; exact List.map_congr_left (fun t _ => rfl)
      have hjn := joinT_len ts
      have HJ := Tryz.strings_Join g 0 c' (ts.map (fun t => bs (Q.tokW t))) (⟨#[44, 32]⟩ : ByteArray) wr (fun j x hx => by
        have hj : j < k := by rw [← hjl]; exact (List.getElem?_eq_some_iff.1 hx).1
        rw [Nat.zero_add, hO.cell j (by omega)]
        rw [List.getElem?_map] at hx ⊢
        rw [List.take_of_length_le (by rw [Hlen.out]; exact Nat.le_refl _)]
        cases hq : ts[j]? with
        | none => rw [hq] at hx; cases hx
        | some t => rw [hq] at hx; cases hx; rfl) ((hO.lt g rfl).2) (by rw [hjl]; omega) (by rw [hjl]; exact hcp) (by rw [hjd, show (⟨#[44, 32]⟩ : ByteArray).data.toList = [44, 32] from rfl, joinT_lib]; have := Hlen.out; omega)
      rw [hjl, hjd, show (⟨#[44, 32]⟩ : ByteArray).data.toList = [44, 32] from rfl] at HJ
      have HJ := Lib.hid HJ
      have hjs : (⟨(Lib.join (ts.map Q.tokW) [44, 32]).toArray⟩ : ByteArray).size ≤ 50000 := by rw [Lib.size_eq]; simp only; rw [joinT_lib]; have := Hlen.out; omega
      have hrow := row_bytes 0 ts [32, 32, 45, 62, 32] rfl
      obtain ⟨J, hJ⟩ : ∃ J : ByteArray, J = ⟨(Lib.join (ts.map Q.tokW) [44, 32]).toArray⟩ := ⟨_, rfl⟩
      rw [← hJ] at HJ hjs hrow
      have Hrow := Lib.hid hrow
      have Hkr := Lib.hid (Kp.trans Hk2.out hkr)
      have hjs2 : ((⟨#[32, 32, 45, 62, 32]⟩ : ByteArray) ++ J).size ≤ 50005 := by rw [ByteArray.size_append]; have : (⟨#[32, 32, 45, 62, 32]⟩ : ByteArray).size = 5 := rfl; omega
      clear hJ hjl hjd hjn hO hkr hcp hrow
      go_wp2_with fail
      (with_reducible refine HJ.out.mono ?_)
      rintro e w9 ⟨rfl, hk9⟩
      go_wp2_with fail
      go_ret
      exact ⟨by rw [Hrow.out]; rfl, Kp.trans Hkr.out hk9⟩
set_option maxRecDepth 100000 in
set_option maxHeartbeats 8000000 in
theorem said_1 (w : World) (ao : Option Addr) (n c : Nat) (ts : List Int) (hI : Is w ao n ts) (hn : n ≤ 10000) (hp : 0 < n) (ht : ∀ t ∈ ts, 1 ≤ t ∧ t ≤ 7) :
    Calls Tryz.prog 67 #[iv 1, .slice ao n c] w (SaidPost w 1 ts) := by
  have HI := Lib.hid hI
  have Ht := Lib.hid ht
  have Hlen := Lib.hid hI.1
  clear hI ht
  go_enter Tryz.func67, Tryz.ntmps67
  go_wp2_with fail
  (with_reducible refine (words_any w).mono ?_)
  rintro e w1 ⟨rfl, hk1⟩
  have hk2 := Kp.trans hk1 (Kp.new w1 (.cells wordsV 143))
  have hwc := Lib.hid (fun t h1 h7 => words_cell w1 (t := t) h1 h7)
  obtain ⟨b, hb⟩ : ∃ b, b = w1.heap.size := ⟨_, rfl⟩
  obtain ⟨w2, hw2⟩ : ∃ w2, w2 = w1.alloc (.cells wordsV 143) := ⟨_, rfl⟩
  rw [← hb, ← hw2] at hwc
  rw [← hw2] at hk2
  unfold wordsV at hw2 ⊢
  have Hb := Lib.hid hb
  have Hw2 := Lib.hid hw2
  clear hk1 hb hw2
  go_wp2_with fail
  rw [← Hb.out, ← Hw2.out]
  have Hk2 := Lib.hid hk2
  obtain ⟨B, hB⟩ : ∃ B, B = w2.heap.size := ⟨_, rfl⟩
  have HB := Lib.hid hB
  have hO0 : Own w2 B 9 1 none 0 0 ((ts.take 0).map tokS) := Own.nil _ _ _ _
  clear hk2 hB
  go_loopw [7, 15] (fun v i wr => ∃ (k : Nat) (ao' : Option Addr) (c' : Nat), k ≤ n ∧ i = .int .i64 (k : Nat) ∧ v = .slice ao' k c' ∧ Own wr B 9 1 ao' k c' ((ts.take k).map tokS) ∧ Kp w2 wr) (fun _ i _ => n - (intOf i).toNat)
  case atStart => exact ⟨0, none, 0, by omega, rfl, rfl, hO0, Kp.refl _⟩
  case round =>
    clear hO0
    obtain ⟨k, ao', c', hk, rfl, rfl, hO, hkr⟩ := hrel
    rename World => wr
    by_cases hlt : k < n
    · have hkl : k < ts.length := by rw [Hlen.out]; exact hlt
      obtain ⟨g, o, rfl, hcx⟩ := HI.out.at k hlt
      replace hcx := (Kp.trans Hk2.out hkr).cell (hcx.2 k hlt)
      have htk := Ht.out ts[k] (List.getElem_mem hkl)
      have hwd := hkr.cell (hwc.out ts[k] htk.1 htk.2)
      have hzs := take_step ts k hkl
      generalize ts[k] = t at *
      obtain ⟨j, rfl⟩ : ∃ j : Nat, t = (j : Int) := ⟨t.toNat, by omega⟩
      rw [Int.toNat_natCast] at hwd
      have hj : 1 ≤ j ∧ j ≤ 7 := by omega
      unfold tokS at hwd
      have hk7 := Kp.new wr (.cells #[.string (bs (Q.tokW (j : Int)))] 9)
      have hcs7 := Cs.new wr [.string (bs (Q.tokW (j : Int)))] 9 (0, 0)
      have HO7 := Lib.hid (hO.keep hk7)
      have Hk7 := Lib.hid (Kp.trans hkr hk7)
      have hs7 : B ≤ (wr.alloc (.cells #[.string (bs (Q.tokW (j : Int)))] 9)).heap.size := by rw [HB.out]; exact Hk7.out.size
      have hzz : (ts.take (k + 1)).map tokS = (ts.take k).map tokS ++ [.string (bs (Q.tokW (j : Int)))] := by rw [hzs, List.map_append]; rfl
      clear hk7 hO hkr htk hzs
      go_wp2_with (at_builtin; go_loud (refine wpList_app rfl (.tmp 19) (.tmp 23) 59 rfl el59 B rfl HO7.out rfl [.string (bs (Q.tokW (j : Int)))] rfl hcs7 (by simp [Value.oneCell']) (k + 1) rfl ((ts.take (k + 1)).map tokS) hzz (by omega) hs7 ?_); intro ao2 cap2 w8 ha)
      have hO8 := ha.own
      have hk8 : Kp w2 w8 := kp_step' Hk7.out ha.fr (fun x hx => by rw [← HB.out]; exact (HO7.out.lt x (mem_blkL.1 hx)).1)
      go_roundw
      case rel => exact ⟨k + 1, ao2, cap2, by omega, by go_num, rfl, hO8, hk8⟩
      case measure => simp [intOf]; omega
    · obtain rfl : k = n := by omega
      obtain ⟨g, rfl⟩ := hO.blockOf hp
      have hcp := hO.cap
      have hjl : (ts.map (fun t => bs (Q.tokW t))).length = k := by rw [List.length_map, Hlen.out]
      have hjd : (ts.map (fun t => bs (Q.tokW t))).map (·.data.toList) = ts.map Q.tokW := by rw [List.map_map]; exact List.map_congr_left (fun t _ => rfl)
      have hjn := joinT_len ts
      have HJ := Tryz.strings_Join g 0 c' (ts.map (fun t => bs (Q.tokW t))) (⟨#[44, 32]⟩ : ByteArray) wr (fun j x hx => by
        have hj : j < k := by rw [← hjl]; exact (List.getElem?_eq_some_iff.1 hx).1
        rw [Nat.zero_add, hO.cell j (by omega)]
        rw [List.getElem?_map] at hx ⊢
        rw [List.take_of_length_le (by rw [Hlen.out]; exact Nat.le_refl _)]
        cases hq : ts[j]? with
        | none => rw [hq] at hx; cases hx
        | some t => rw [hq] at hx; cases hx; rfl) ((hO.lt g rfl).2) (by rw [hjl]; omega) (by rw [hjl]; exact hcp) (by rw [hjd, show (⟨#[44, 32]⟩ : ByteArray).data.toList = [44, 32] from rfl, joinT_lib]; have := Hlen.out; omega)
      rw [hjl, hjd, show (⟨#[44, 32]⟩ : ByteArray).data.toList = [44, 32] from rfl] at HJ
      have HJ := Lib.hid HJ
      have hjs : (⟨(Lib.join (ts.map Q.tokW) [44, 32]).toArray⟩ : ByteArray).size ≤ 50000 := by rw [Lib.size_eq]; simp only; rw [joinT_lib]; have := Hlen.out; omega
      have hrow := row_bytes 1 ts [32, 32, 60, 45, 32] rfl
      obtain ⟨J, hJ⟩ : ∃ J : ByteArray, J = ⟨(Lib.join (ts.map Q.tokW) [44, 32]).toArray⟩ := ⟨_, rfl⟩
      rw [← hJ] at HJ hjs hrow
      have Hrow := Lib.hid hrow
      have Hkr := Lib.hid (Kp.trans Hk2.out hkr)
      have hjs2 : ((⟨#[32, 32, 60, 45, 32]⟩ : ByteArray) ++ J).size ≤ 50005 := by rw [ByteArray.size_append]; have : (⟨#[32, 32, 60, 45, 32]⟩ : ByteArray).size = 5 := rfl; omega
      clear hJ hjl hjd hjn hO hkr hcp hrow
      go_wp2_with fail
      (with_reducible refine HJ.out.mono ?_)
      rintro e w9 ⟨rfl, hk9⟩
      go_wp2_with fail
      go_ret
      exact ⟨by rw [Hrow.out]; rfl, Kp.trans Hkr.out hk9⟩
end Go.Proofs.YtkmejehhdjdlbaaGreatDoor

namespace Go.Proofs.YtkmejehhdjdlbaaGreatDoor
open Go.RowKit

/-- The text and the error's number. -/
def prt (nm : Q.Bt) (b0 b1 : List Int) (ls : List Ln) : Q.Bt × Nat :=
  if checkL b0 b1 ls ≠ 0 then ([], checkL b0 b1 ls) else if 4096 < nm.length ∨ Q.isName nm = false then ([], 8)
  else if 4096 < (Q.printT nm b0 b1 ls).length then ([], 8) else (Q.printT nm b0 b1 ls, 0)
def PrintPost (w : World) (E : Nat → Addr) (nm : Q.Bt) (b0 b1 : List Int) (ls : List Ln) (e : Ending) (w' : World) : Prop := e = .returned (.tuple #[.string (bs (prt nm b0 b1 ls).1), errV E (prt nm b0 b1 ls).2]) ∧ Kp w w'
theorem rowE_len (l : Ln) : (Q.endR (Q.rowT l)).length ≤ 6 + 5 * l.2.length := by
  have h1 := joinT_len l.2
  unfold Q.endR Q.rowT Q.headT
  split <;> simp [Q.inR, Q.outR] <;> omega
/-- What the sides' own rows come to when k of them have gone by. -/
def befT (b0 b1 : List Int) (k : Nat) : Q.Bt := (if k = 0 ∨ b0 = [] then [] else Q.endR (Q.rowT (0, b0))) ++ (if k ≤ 1 ∨ b1 = [] then [] else Q.endR (Q.rowT (1, b1)))
def befA (b0 b1 : List Int) (k : Nat) : Bool := (decide (k ≠ 0) && decide (b0 ≠ [])) || (decide (1 < k) && decide (b1 ≠ []))
def resT (b0 b1 : List Int) : Q.Bt := if b0 = [] ∧ b1 = [] then [] else Q.endR Q.restR
theorem befT_len {b0 b1 : List Int} {k : Nat} (h0 : b0.length ≤ 2) (h1 : b1.length ≤ 2) : (befT b0 b1 k).length ≤ 32 := by
  have e0 : (Q.endR (Q.rowT (0, b0))).length ≤ 6 + 5 * b0.length := rowE_len (0, b0)
  have e1 : (Q.endR (Q.rowT (1, b1))).length ≤ 6 + 5 * b1.length := rowE_len (1, b1)
  unfold befT
  rw [List.length_append]
  split <;> split <;> (try simp only [List.length_nil]) <;> omega
theorem printT_eq (nm : Q.Bt) (b0 b1 : List Int) (ls : List Ln) : Q.printT nm b0 b1 ls = nm ++ [58, 10] ++ befT b0 b1 2 ++ resT b0 b1 ++ (ls.map Q.rowT).flatMap Q.endR := by
  unfold Q.printT Q.rowsT befT resT
  rw [List.flatMap_append, List.flatMap_append, List.flatMap_append]
  by_cases h0 : b0 = [] <;> by_cases h1 : b1 = [] <;> simp [h0, h1]
theorem befA_two (b0 b1 : List Int) : befA b0 b1 2 = !decide (b0 = [] ∧ b1 = []) := by
  unfold befA
  by_cases h0 : b0 = [] <;> by_cases h1 : b1 = [] <;> simp [h0, h1]
theorem rows_len : ∀ (ls : List Ln), (∀ l ∈ ls, l.2.length ≤ 24) → ((ls.map Q.rowT).flatMap Q.endR).length ≤ 126 * ls.length
  | [], _ => by simp
  | l :: r, h => by
    have h1 := rows_len r (fun x hx => h x (by simp [hx]))
    have h2 := rowE_len l
    have h3 := h l (by simp)
    simp only [List.map_cons, List.flatMap_cons, List.length_append, List.length_cons]
    omega
theorem rows_step (ls : List Ln) (k : Nat) (h : k < ls.length) : ((ls.take (k + 1)).map Q.rowT).flatMap Q.endR = ((ls.take k).map Q.rowT).flatMap Q.endR ++ Q.endR (Q.rowT ls[k]) := by
  rw [take_step ls k h, List.map_append, List.flatMap_append]
  simp
theorem resT_len (b0 b1 : List Int) : (resT b0 b1).length ≤ 6 := by
  unfold resT
  split <;> simp [Q.endR, Q.restR]
theorem okB_tok {b : List Int} (h : okB b = true) : ∀ t ∈ b, 1 ≤ t ∧ t ≤ 7 := by
  intro t ht
  rcases b with _ | ⟨x, _ | ⟨y, _ | ⟨z, r⟩⟩⟩
  · simp at ht
  all_goals simp [okB] at h ht
  · omega
  · omega
theorem bs_bef0 (N : Q.Bt) (b0 b1 : List Int) : bs (N ++ befT b0 b1 0) = bs N := by simp [befT]
theorem bs_bef1 (N : Q.Bt) (b0 b1 : List Int) (h : b0 ≠ []) : bs (N ++ befT b0 b1 1) = bs (N ++ befT b0 b1 0) ++ bs (Q.endR (Q.rowT (0, b0))) := by
  rw [← bs_append]; simp [befT, h]
theorem bs_bef1' (N : Q.Bt) (b0 b1 : List Int) (h : b0 = []) : bs (N ++ befT b0 b1 1) = bs (N ++ befT b0 b1 0) := by simp [befT, h]
theorem bs_bef2 (N : Q.Bt) (b0 b1 : List Int) (h : b1 ≠ []) : bs (N ++ befT b0 b1 2) = bs (N ++ befT b0 b1 1) ++ bs (Q.endR (Q.rowT (1, b1))) := by
  rw [← bs_append]; simp [befT, h]
theorem bs_bef2' (N : Q.Bt) (b0 b1 : List Int) (h : b1 = []) : bs (N ++ befT b0 b1 2) = bs (N ++ befT b0 b1 1) := by simp [befT, h]
def rowsK (ls : List Ln) (k : Nat) : Q.Bt := ((ls.take k).map Q.rowT).flatMap Q.endR
theorem bs_rows (N : Q.Bt) (ls : List Ln) (k : Nat) (h : k < ls.length) : bs (N ++ rowsK ls (k + 1)) = bs (N ++ rowsK ls k) ++ bs (Q.endR (Q.rowT (ls[k].1, ls[k].2))) := by
  unfold rowsK
  rw [← bs_append, rows_step ls k h, List.append_assoc]
theorem said_any (w : World) (f : Int) (hf : f = 0 ∨ f = 1) (ao : Option Addr) (n c : Nat) (ts : List Int) (hI : Is w ao n ts) (hn : n ≤ 10000) (hp : 0 < n) (ht : ∀ t ∈ ts, 1 ≤ t ∧ t ≤ 7) : Calls Tryz.prog 67 #[iv f, .slice ao n c] w (SaidPost w f ts) := by
  rcases hf with rfl | rfl
  · exact said_0 w ao n c ts hI hn hp ht
  · exact said_1 w ao n c ts hI hn hp ht
section
variable {w w' : World} {E : Nat → Addr} {nm : Q.Bt} {b0 b1 : List Int} {ls : List Ln}
theorem PrintPost.bad (h : checkL b0 b1 ls ≠ 0) (hk : Kp w w') : PrintPost w E nm b0 b1 ls (.returned (.tuple #[.string ⟨#[]⟩, .iface 229 (.pointer (some (E (checkL b0 b1 ls))))])) w' := by
  refine ⟨?_, hk⟩
  unfold prt
  rw [if_pos h]
  simp only
  rw [errV_ptr E h]
  rfl
theorem PrintPost.txt (h : checkL b0 b1 ls = 0) (hn : 4096 < nm.length ∨ Q.isName nm = false) (hk : Kp w w') : PrintPost w E nm b0 b1 ls (.returned (.tuple #[.string ⟨#[]⟩, .iface 229 (.pointer (some (E 8)))])) w' := by
  refine ⟨?_, hk⟩
  unfold prt
  rw [if_neg (fun q => q h), if_pos hn]
  simp only
  rw [errV_ptr E (by decide)]
  rfl
theorem PrintPost.long (h : checkL b0 b1 ls = 0) (hn : nm.length ≤ 4096) (hi : Q.isName nm = true) (hl : 4096 < (Q.printT nm b0 b1 ls).length) (hk : Kp w w') : PrintPost w E nm b0 b1 ls (.returned (.tuple #[.string ⟨#[]⟩, .iface 229 (.pointer (some (E 8)))])) w' := by
  refine ⟨?_, hk⟩
  unfold prt
  rw [if_neg (fun q => q h), if_neg (by rw [hi]; simp; omega), if_pos hl]
  simp only
  rw [errV_ptr E (by decide)]
  rfl
theorem PrintPost.fine (h : checkL b0 b1 ls = 0) (hn : nm.length ≤ 4096) (hi : Q.isName nm = true) (hl : (Q.printT nm b0 b1 ls).length ≤ 4096) (hk : Kp w w') : PrintPost w E nm b0 b1 ls (.returned (.tuple #[.string (bs (Q.printT nm b0 b1 ls)), .nilIface])) w' := by
  refine ⟨?_, hk⟩
  unfold prt
  rw [if_neg (fun q => q h), if_neg (by rw [hi]; simp; omega), if_neg (by omega)]
  simp only
  rw [errV_nil]
end
end Go.Proofs.YtkmejehhdjdlbaaGreatDoor

namespace Go.Proofs.YtkmejehhdjdlbaaGreatDoor
open Go.RowKit

set_option maxRecDepth 100000 in
set_option maxHeartbeats 8000000 in
theorem print_any (w : World) (E : Nat → Addr) (m : Int) (hE : Env w E m) (nm : ByteArray) (a0 a1 al : Option Addr) (n0 c0 n1 c1 nl cl : Nat) (b0 b1 : List Int) (ls : List Ln) (hP : PatI w a0 a1 al n0 n1 nl b0 b1 ls) (hs : nm.size ≤ 8000000) :
    Calls Tryz.prog 27 #[patV nm a0 a1 al n0 c0 n1 c1 nl cl] w (PrintPost w E nm.data.toList b0 b1 ls) := by
  have i0 : ∀ w, (Instr.index 23 (.agg #[.slice a0 n0 c0, .slice a1 n1 c1]) (.int .i64 0)).run Tryz.prog w = .ok (.slice a0 n0 c0) w := fun _ => by kernel_rfl
  have i1 : ∀ w, (Instr.index 23 (.agg #[.slice a0 n0 c0, .slice a1 n1 c1]) (.int .i64 1)).run Tryz.prog w = .ok (.slice a1 n1 c1) w := fun _ => by kernel_rfl
  have HPI := Lib.hid hP
  have HE := Lib.hid hE
  have Hsz := Lib.hid (Lib.size_eq nm)
  have hk1 := Kp.new w (.cells #[.string nm, .slice a0 n0 c0, .slice a1 n1 c1, .slice al nl cl] 26)
  have hF1 := Four.new w (.string nm) (.slice a0 n0 c0) (.slice a1 n1 c1) (.slice al nl cl) 26
  have HC := Lib.hid (check_any _ E (hk1.errs hE.errs) nm a0 a1 al n0 c0 n1 c1 nl cl b0 b1 ls (hk1.is hP.i0) (hk1.is hP.i1) (hk1.lns hP.il))
  clear hP hE
  obtain ⟨bx, hbx⟩ : ∃ bx, bx = w.heap.size := ⟨_, rfl⟩
  by_cases hc : checkL b0 b1 ls = 0
  · have Hc := Lib.hid hc
    have hcl := code0 hc
    rw [show errV E (checkL b0 b1 ls) = .nilIface by rw [hc]; rfl] at HC
    have HF1 := Lib.hid hF1
    have Hk1 := Lib.hid hk1
    obtain ⟨y0, y1, y2, y3, z0, z1, z2, z3⟩ := hF1
    clear hc hk1 z0 z1 z2 z3
    go_enter Tryz.func27, Tryz.ntmps27
    go_upto_region 2 with fail
    (with_reducible refine HC.out.mono ?_)
    rintro e w2 ⟨rfl, hk2⟩
    have Hk2 := Lib.hid (Kp.trans Hk1.out hk2)
    have hF2 := HF1.out.kp hk2
    rw [← hbx] at hF2 ⊢
    have HF2 := Lib.hid hF2
    clear y0 y1 y2 y3 hk2
    obtain ⟨y0, y1, y2, y3, z0, z1, z2, z3⟩ := hF2
    clear z0 z1 z2 z3 hbx
    by_cases hn : 4096 < nm.size
    · have Hn := Lib.hid hn
      go_upto_region 5 with fail
      refine anyP_start (fun w => w.cell? ⟨5, 0, none⟩ = some (.iface 229 (.pointer (some (E 8))))) 2 (fun _ => True) (fun _ _ => False) (by kernel_rfl) (fun _ _ _ _ h => h.elim) ?_
      obtain ⟨wd, hwd⟩ : ∃ wd, wd = w2.drew := ⟨_, rfl⟩
      have hkd : Kp w2 wd := hwd ▸ (⟨rfl, rfl, rfl, Nat.le_refl _, fun _ _ => rfl⟩ : Kp w2 w2.drew)
      rw [← hwd]
      clear hwd
      have hTd := (Kp.trans Hk2.out hkd).cell HE.out.c5
      have HKd := Lib.hid (Kp.trans Hk2.out hkd)
      clear hkd
      refine anyT_take puts_true [1] (by kernel_rfl) hTd ?_
      simp only [opsAt, List.getElem?_toArray, List.getElem?_cons_zero, List.getElem?_cons_succ]
      repeat (go_big_quiet_step (fail))
      refine wpQuiet_nil ?_
      refine anyT_load puts_true 0 26 (.iface 229 (.pointer (some (E 8)))) rfl rfl (by kernel_rfl) hTd (fun w h => exec_load32 h rfl rfl) ?_
      simp only [Act.put, List.setIfInBounds_toArray, List.set_cons_zero, List.set_cons_succ]
      refine anyP_one 2 (by kernel_rfl) ?_
      simp only [opsAt, List.getElem?_toArray, List.getElem?_cons_zero, List.getElem?_cons_succ]
      clear hTd
      go_wp2_with fail
      refine ⟨fun h => absurd rfl h, ?_⟩
      refine anyP_end (by kernel_rfl) ?_
      go_wp2_with fail
      show bodyPost Tryz.prog Tryz.f27 (PrintPost w E nm.data.toList b0 b1 ls) .ret _ _
      refine bodyPost_ret (v := .tuple #[.string ⟨#[]⟩, .iface 229 (.pointer (some (E 8)))]) (by simp [results, Tryz.results27, go_sem]) rfl ?_
      exact PrintPost.txt Hc.out (.inl (by rw [← Hsz.out]; exact Hn.out)) HKd.out
    · have HN := Lib.hid (named_any nm w2 (by omega))
      have Hnn := Lib.hid (show nm.data.toList.length ≤ 4096 by rw [← Hsz.out]; omega)
      cases hi : Q.isName nm.data.toList with
      | false =>
        rw [hi] at HN
        have Hi := Lib.hid hi
        clear hi
        go_upto_region 5 with fail
        (with_reducible refine HN.out.mono ?_)
        rintro e w3 ⟨rfl, rfl⟩
        go_upto_region 5 with fail
        refine anyP_start (fun w => w.cell? ⟨5, 0, none⟩ = some (.iface 229 (.pointer (some (E 8))))) 2 (fun _ => True) (fun _ _ => False) (by kernel_rfl) (fun _ _ _ _ h => h.elim) ?_
        obtain ⟨wd, hwd⟩ : ∃ wd, wd = w2.drew := ⟨_, rfl⟩
        have hkd : Kp w2 wd := hwd ▸ (⟨rfl, rfl, rfl, Nat.le_refl _, fun _ _ => rfl⟩ : Kp w2 w2.drew)
        rw [← hwd]
        clear hwd
        have hTd := (Kp.trans Hk2.out hkd).cell HE.out.c5
        have HKd := Lib.hid (Kp.trans Hk2.out hkd)
        clear hkd
        refine anyT_take puts_true [1] (by kernel_rfl) hTd ?_
        simp only [opsAt, List.getElem?_toArray, List.getElem?_cons_zero, List.getElem?_cons_succ]
        repeat (go_big_quiet_step (fail))
        refine wpQuiet_nil ?_
        refine anyT_load puts_true 0 26 (.iface 229 (.pointer (some (E 8)))) rfl rfl (by kernel_rfl) hTd (fun w h => exec_load32 h rfl rfl) ?_
        simp only [Act.put, List.setIfInBounds_toArray, List.set_cons_zero, List.set_cons_succ]
        refine anyP_one 2 (by kernel_rfl) ?_
        simp only [opsAt, List.getElem?_toArray, List.getElem?_cons_zero, List.getElem?_cons_succ]
        clear hTd
        go_wp2_with fail
        refine ⟨fun h => absurd rfl h, ?_⟩
        refine anyP_end (by kernel_rfl) ?_
        go_wp2_with fail
        show bodyPost Tryz.prog Tryz.f27 (PrintPost w E nm.data.toList b0 b1 ls) .ret _ _
        refine bodyPost_ret (v := .tuple #[.string ⟨#[]⟩, .iface 229 (.pointer (some (E 8)))]) (by simp [results, Tryz.results27, go_sem]) rfl ?_
        exact PrintPost.txt Hc.out (.inr Hi.out) HKd.out
      | true =>
        rw [hi] at HN
        have Hi := Lib.hid hi
        clear hi
        go_upto_region 5 with fail
        (with_reducible refine HN.out.mono ?_)
        rintro e w3 ⟨rfl, rfl⟩
        go_upto_region 9 with fail
        have hl0 := okB_len hcl.1
        have hl1 := okB_len hcl.2.1
        have ht0 := Lib.hid (okB_tok hcl.1)
        have ht1 := Lib.hid (okB_tok hcl.2.1)
        have Hls := Lib.hid hcl.2.2.2
        have hg0 := HPI.out.i0.1
        have hg1 := HPI.out.i1.1
        obtain ⟨N, hN⟩ : ∃ N, N = nm.data.toList ++ [58, 10] := ⟨_, rfl⟩
        have hNl : N.length ≤ 4098 := by rw [hN, List.length_append]; have := Hnn.out; simp; omega
        have hs0 : nm ++ (⟨#[58, 10]⟩ : ByteArray) = bs (N ++ befT b0 b1 0) := by rw [bs_bef0, hN, bs_append, bs_data]; rfl
        have hbl := fun k => befT_len (k := k) hl0 hl1
        have Hlen := Lib.hid (show ∀ k, (bs (N ++ befT b0 b1 k)).size ≤ 4130 from fun k => by rw [bs_size, List.length_append]; have := hbl k; omega)
        have HN2 := Lib.hid hN
        have Hg0 := Lib.hid hg0
        have Hg1 := Lib.hid hg1
        rw [hs0]
        clear hN hcl hbl hs0
        go_loopw [5, 6, 32] (fun s a i wr => ∃ k : Nat, k ≤ 2 ∧ i = .int .i64 (k : Nat) ∧ s = .string (bs (N ++ befT b0 b1 k)) ∧ a = .bool (befA b0 b1 k) ∧ Kp w2 wr) (fun _ _ i _ => 2 - (intOf i).toNat)
        case atStart => exact ⟨0, by omega, rfl, rfl, rfl, Kp.refl _⟩
        case round =>
          obtain ⟨k, hk, rfl, rfl, rfl, hkr⟩ := hrel
          rename World => wr
          obtain h | h | h : k = 0 ∨ k = 1 ∨ k = 2 := by omega
          · subst h
            rw [show ((0 : Nat) : Int) = 0 from rfl]
            by_cases hz : b0 = []
            · have hz0 : n0 = 0 := by rw [← Hg0.out, hz]; rfl
              subst hz0
              have HB := Lib.hid (bs_bef1' N b0 b1 hz)
              have HA := Lib.hid (show befA b0 b1 1 = befA b0 b1 0 by simp [befA, hz])
              clear hz
              go_wp2_with fail
              go_roundw
              case rel => exact ⟨1, by omega, rfl, by rw [HB.out], by rw [HA.out], hkr⟩
              case measure => simp [intOf]
            · have hz0 : 0 < n0 := by rw [← Hg0.out]; exact List.length_pos_iff.2 hz
              have HB := Lib.hid (bs_bef1 N b0 b1 hz)
              have HA := Lib.hid (show befA b0 b1 1 = true by simp [befA, hz])
              have HSd := Lib.hid (said_0 wr a0 n0 c0 b0 ((Kp.trans Hk2.out hkr).is HPI.out.i0) (by omega) hz0 ht0.out)
              have hz1 := Hlen.out 0
              have hz2 : (bs (Q.endR (Q.rowT (0, b0)))).size ≤ 16 := by rw [bs_size]; have : (Q.endR (Q.rowT (0, b0))).length ≤ 6 + 5 * b0.length := rowE_len (0, b0); omega
              clear hz
              go_wp2_with fail
              (with_reducible refine HSd.out.mono ?_)
              rintro e w4 ⟨rfl, hk4⟩
              go_wp2_with fail
              go_roundw
              case rel => exact ⟨1, by omega, rfl, by rw [HB.out], by rw [HA.out], Kp.trans hkr hk4⟩
              case measure => simp [intOf]
          · subst h
            rw [show ((1 : Nat) : Int) = 1 from rfl]
            by_cases hz : b1 = []
            · have hz0 : n1 = 0 := by rw [← Hg1.out, hz]; rfl
              subst hz0
              have HB := Lib.hid (bs_bef2' N b0 b1 hz)
              have HA := Lib.hid (show befA b0 b1 2 = befA b0 b1 1 by simp [befA, hz])
              clear hz
              go_wp2_with fail
              go_roundw
              case rel => exact ⟨2, by omega, rfl, by rw [HB.out], by rw [HA.out], hkr⟩
              case measure => simp [intOf]
            · have hz0 : 0 < n1 := by rw [← Hg1.out]; exact List.length_pos_iff.2 hz
              have HB := Lib.hid (bs_bef2 N b0 b1 hz)
              have HA := Lib.hid (show befA b0 b1 2 = true by simp [befA, hz])
              have HSd := Lib.hid (said_1 wr a1 n1 c1 b1 ((Kp.trans Hk2.out hkr).is HPI.out.i1) (by omega) hz0 ht1.out)
              have hz1 := Hlen.out 1
              have hz2 : (bs (Q.endR (Q.rowT (1, b1)))).size ≤ 16 := by rw [bs_size]; have : (Q.endR (Q.rowT (1, b1))).length ≤ 6 + 5 * b1.length := rowE_len (1, b1); omega
              clear hz
              go_wp2_with fail
              (with_reducible refine HSd.out.mono ?_)
              rintro e w4 ⟨rfl, hk4⟩
              go_wp2_with fail
              go_roundw
              case rel => exact ⟨2, by omega, rfl, by rw [HB.out], by rw [HA.out], Kp.trans hkr hk4⟩
              case measure => simp [intOf]
          · subst h
            rw [show ((2 : Nat) : Int) = 2 from rfl]
            by_cases hz : b0 = [] ∧ b1 = []
            · skip
              have hres : resT b0 b1 = [] := by unfold resT; rw [if_pos hz]
              have hAA : befA b0 b1 2 = false := by rw [befA_two]; simp [hz]
              have HR := Lib.hid (show bs (N ++ befT b0 b1 2) = bs (N ++ befT b0 b1 2 ++ resT b0 b1) by rw [hres, List.append_nil])
              rw [hAA]
              clear hres hAA hz
              have hF5 := HF2.out.kp hkr
              obtain ⟨y0', y1', y2', y3', _, _, _, _⟩ := hF5
              have HK5 := Lib.hid (Kp.trans Hk2.out hkr)
              have hrl := resT_len b0 b1
              have Hln2 := Lib.hid (Hls.out)
              obtain ⟨M, hM⟩ : ∃ M, M = N ++ befT b0 b1 2 ++ resT b0 b1 := ⟨_, rfl⟩
              have hMl : M.length ≤ 4136 := by have := Hlen.out 2; rw [bs_size] at this; rw [hM, List.length_append]; omega
              have HMe := Lib.hid hM
              rw [← hM] at HR
              clear hM hkr hrl
              go_wp2_with fail
              rw [HR.out]
              have hnl := HPI.out.il.1
              have hrlen := rows_len ls (fun l hl => (Hls.out.2 l hl).2.2.1)
              have Hrl := Lib.hid (show ∀ k, (bs (M ++ rowsK ls k)).size ≤ 8000 from fun k => by
                unfold rowsK
                rw [bs_size, List.length_append]
                have h1 := rows_len (ls.take k) (fun l hl => (Hls.out.2 l (List.mem_of_mem_take hl)).2.2.1)
                have h2 : (ls.take k).length ≤ 24 := by rw [List.length_take]; have := Hls.out.1; omega
                omega)
              have hb0 : bs M = bs (M ++ rowsK ls 0) := by simp [rowsK]
              rw [hb0]
              clear hb0 hrlen hMl
              have Hnl := Lib.hid hnl
              have hnl24 : nl ≤ 24 := by rw [← hnl]; exact Hls.out.1
              clear hnl
              go_loopw [5, 51] (fun s i wv => ∃ k : Nat, k ≤ nl ∧ i = .int .i64 (k : Nat) ∧ s = .string (bs (M ++ rowsK ls k)) ∧ Kp wr wv) (fun _ i _ => nl - (intOf i).toNat)
              case atStart => exact ⟨0, by omega, rfl, rfl, Kp.refl _⟩
              case round =>
                clear y0' y1' y2' y3'
                obtain ⟨k, hk, rfl, rfl, hkv⟩ := hrel
                rename World => wv
                by_cases hlt : k < nl
                · have hkl : k < ls.length := by rw [Hnl.out]; exact hlt
                  obtain ⟨bq, off, tp, tn, tc, rfl, hd1, hd2, hI, htn⟩ := HPI.out.il.2.2 k hkl
                  have HKv := Lib.hid (Kp.trans HK5.out hkv)
                  replace hd1 := HKv.out.cell hd1
                  replace hd2 := HKv.out.cell hd2
                  have hlk := Hls.out.2 ls[k] (List.getElem_mem hkl)
                  have Hrow := Lib.hid (bs_rows M ls k hkl)
                  have hrz : (bs (Q.endR (Q.rowT (ls[k].1, ls[k].2)))).size ≤ 130 := by rw [bs_size]; have : (Q.endR (Q.rowT (ls[k].1, ls[k].2))).length ≤ 6 + 5 * ls[k].2.length := rowE_len ls[k]; omega
                  have hsz := Hrl.out k
                  generalize ls[k] = l at *
                  obtain ⟨f, xs⟩ := l
                  simp only at hd1 hd2 hI htn hlk hrz
                  have hk6 := Kp.new wv (.cells #[iv f, .slice tp tn tc] 73)
                  have hxn : 0 < tn := by rw [← hI.1]; exact List.length_pos_iff.2 hlk.2.1
                  have HSd := Lib.hid (said_any (wv.alloc (.cells #[iv f, .slice tp tn tc] 73)) f hlk.1 tp tn tc xs ((Kp.trans HKv.out hk6).is hI) (by rw [← hI.1]; have := hlk.2.2.1; omega) hxn hlk.2.2.2)
                  have HK6 := Lib.hid (Kp.trans hkv hk6)
                  clear hI hlk hkv hk6
                  go_wp2_with fail
                  (with_reducible refine HSd.out.mono ?_)
                  rintro e w6 ⟨rfl, hk7⟩
                  go_wp2_with fail
                  go_roundw
                  case rel => exact ⟨k + 1, by omega, by go_num, by rw [Hrow.out], Kp.trans HK6.out hk7⟩
                  case measure => simp [intOf]; omega
                · obtain rfl : k = nl := by omega
                  have HK6 := Lib.hid (Kp.trans HK5.out hkv)
                  have hpt : Q.printT nm.data.toList b0 b1 ls = M ++ rowsK ls k := by
                    unfold rowsK
                    rw [printT_eq, ← HN2.out, ← HMe.out, List.take_of_length_le (by rw [Hnl.out]; exact Nat.le_refl _)]
                  rw [← hpt]
                  by_cases hlg : 4096 < (bs (Q.printT nm.data.toList b0 b1 ls)).size
                  · have Hlg := Lib.hid (show 4096 < (Q.printT nm.data.toList b0 b1 ls).length by rw [← bs_size]; exact hlg)
                    clear hpt hkv
                    go_upto_region 23 with fail
                    refine anyP_start (fun w => w.cell? ⟨5, 0, none⟩ = some (.iface 229 (.pointer (some (E 8))))) 2 (fun _ => True) (fun _ _ => False) (by kernel_rfl) (fun _ _ _ _ h => h.elim) ?_
                    obtain ⟨wd, hwd⟩ : ∃ wd, wd = wv.drew := ⟨_, rfl⟩
                    have hkd : Kp wv wd := hwd ▸ (⟨rfl, rfl, rfl, Nat.le_refl _, fun _ _ => rfl⟩ : Kp wv wv.drew)
                    rw [← hwd]
                    clear hwd
                    have hTd := (Kp.trans HK6.out hkd).cell HE.out.c5
                    have HKd := Lib.hid (Kp.trans HK6.out hkd)
                    clear hkd
                    refine anyT_take puts_true [1] (by kernel_rfl) hTd ?_
                    simp only [opsAt, List.getElem?_toArray, List.getElem?_cons_zero, List.getElem?_cons_succ]
                    repeat (go_big_quiet_step (fail))
                    refine wpQuiet_nil ?_
                    refine anyT_load puts_true 0 66 (.iface 229 (.pointer (some (E 8)))) rfl rfl (by kernel_rfl) hTd (fun w h => exec_load32 h rfl rfl) ?_
                    simp only [Act.put, List.setIfInBounds_toArray, List.set_cons_zero, List.set_cons_succ]
                    refine anyP_one 2 (by kernel_rfl) ?_
                    simp only [opsAt, List.getElem?_toArray, List.getElem?_cons_zero, List.getElem?_cons_succ]
                    clear hTd
                    go_wp2_with fail
                    refine ⟨fun h => absurd rfl h, ?_⟩
                    refine anyP_end (by kernel_rfl) ?_
                    go_wp2_with fail
                    show bodyPost Tryz.prog Tryz.f27 (PrintPost w E nm.data.toList b0 b1 ls) .ret _ _
                    refine bodyPost_ret (v := .tuple #[.string ⟨#[]⟩, .iface 229 (.pointer (some (E 8)))]) (by simp [results, Tryz.results27, go_sem]) rfl ?_
                    exact PrintPost.long Hc.out Hnn.out Hi.out Hlg.out HKd.out
                  · have Hlg := Lib.hid (show (Q.printT nm.data.toList b0 b1 ls).length ≤ 4096 by rw [← bs_size]; omega)
                    clear hpt hkv
                    go_wp2_with fail
                    show bodyPost Tryz.prog Tryz.f27 (PrintPost w E nm.data.toList b0 b1 ls) .ret _ _
                    refine bodyPost_ret (v := .tuple #[.string (bs (Q.printT nm.data.toList b0 b1 ls)), .nilIface]) (by simp [results, Tryz.results27, go_sem]) rfl ?_
                    exact PrintPost.fine Hc.out Hnn.out Hi.out Hlg.out HK6.out
            · skip
              have hres : resT b0 b1 = [32, 32, 46, 46, 46, 10] := by unfold resT; rw [if_neg hz]; rfl
              have hAA : befA b0 b1 2 = true := by rw [befA_two]; simp [hz]
              have HR := Lib.hid (show bs (N ++ befT b0 b1 2) ++ (⟨#[32, 32, 46, 46, 46, 10]⟩ : ByteArray) = bs (N ++ befT b0 b1 2 ++ resT b0 b1) by rw [hres, bs_append (N ++ befT b0 b1 2)]; rfl)
              have hz1 := Hlen.out 2
              rw [hAA]
              clear hres hAA hz
              have hF5 := HF2.out.kp hkr
              obtain ⟨y0', y1', y2', y3', _, _, _, _⟩ := hF5
              have HK5 := Lib.hid (Kp.trans Hk2.out hkr)
              have hrl := resT_len b0 b1
              have Hln2 := Lib.hid (Hls.out)
              obtain ⟨M, hM⟩ : ∃ M, M = N ++ befT b0 b1 2 ++ resT b0 b1 := ⟨_, rfl⟩
              have hMl : M.length ≤ 4136 := by have := Hlen.out 2; rw [bs_size] at this; rw [hM, List.length_append]; omega
              have HMe := Lib.hid hM
              rw [← hM] at HR
              clear hM hkr hrl
              go_wp2_with fail
              rw [HR.out]
              have hnl := HPI.out.il.1
              have hrlen := rows_len ls (fun l hl => (Hls.out.2 l hl).2.2.1)
              have Hrl := Lib.hid (show ∀ k, (bs (M ++ rowsK ls k)).size ≤ 8000 from fun k => by
                unfold rowsK
                rw [bs_size, List.length_append]
                have h1 := rows_len (ls.take k) (fun l hl => (Hls.out.2 l (List.mem_of_mem_take hl)).2.2.1)
                have h2 : (ls.take k).length ≤ 24 := by rw [List.length_take]; have := Hls.out.1; omega
                omega)
              have hb0 : bs M = bs (M ++ rowsK ls 0) := by simp [rowsK]
              rw [hb0]
              clear hb0 hrlen hMl
              have Hnl := Lib.hid hnl
              have hnl24 : nl ≤ 24 := by rw [← hnl]; exact Hls.out.1
              clear hnl
              go_loopw [5, 51] (fun s i wv => ∃ k : Nat, k ≤ nl ∧ i = .int .i64 (k : Nat) ∧ s = .string (bs (M ++ rowsK ls k)) ∧ Kp wr wv) (fun _ i _ => nl - (intOf i).toNat)
              case atStart => exact ⟨0, by omega, rfl, rfl, Kp.refl _⟩
              case round =>
                clear y0' y1' y2' y3'
                obtain ⟨k, hk, rfl, rfl, hkv⟩ := hrel
                rename World => wv
                by_cases hlt : k < nl
                · have hkl : k < ls.length := by rw [Hnl.out]; exact hlt
                  obtain ⟨bq, off, tp, tn, tc, rfl, hd1, hd2, hI, htn⟩ := HPI.out.il.2.2 k hkl
                  have HKv := Lib.hid (Kp.trans HK5.out hkv)
                  replace hd1 := HKv.out.cell hd1
                  replace hd2 := HKv.out.cell hd2
                  have hlk := Hls.out.2 ls[k] (List.getElem_mem hkl)
                  have Hrow := Lib.hid (bs_rows M ls k hkl)
                  have hrz : (bs (Q.endR (Q.rowT (ls[k].1, ls[k].2)))).size ≤ 130 := by rw [bs_size]; have : (Q.endR (Q.rowT (ls[k].1, ls[k].2))).length ≤ 6 + 5 * ls[k].2.length := rowE_len ls[k]; omega
                  have hsz := Hrl.out k
                  generalize ls[k] = l at *
                  obtain ⟨f, xs⟩ := l
                  simp only at hd1 hd2 hI htn hlk hrz
                  have hk6 := Kp.new wv (.cells #[iv f, .slice tp tn tc] 73)
                  have hxn : 0 < tn := by rw [← hI.1]; exact List.length_pos_iff.2 hlk.2.1
                  have HSd := Lib.hid (said_any (wv.alloc (.cells #[iv f, .slice tp tn tc] 73)) f hlk.1 tp tn tc xs ((Kp.trans HKv.out hk6).is hI) (by rw [← hI.1]; have := hlk.2.2.1; omega) hxn hlk.2.2.2)
                  have HK6 := Lib.hid (Kp.trans hkv hk6)
                  clear hI hlk hkv hk6
                  go_wp2_with fail
                  (with_reducible refine HSd.out.mono ?_)
                  rintro e w6 ⟨rfl, hk7⟩
                  go_wp2_with fail
                  go_roundw
                  case rel => exact ⟨k + 1, by omega, by go_num, by rw [Hrow.out], Kp.trans HK6.out hk7⟩
                  case measure => simp [intOf]; omega
                · obtain rfl : k = nl := by omega
                  have HK6 := Lib.hid (Kp.trans HK5.out hkv)
                  have hpt : Q.printT nm.data.toList b0 b1 ls = M ++ rowsK ls k := by
                    unfold rowsK
                    rw [printT_eq, ← HN2.out, ← HMe.out, List.take_of_length_le (by rw [Hnl.out]; exact Nat.le_refl _)]
                  rw [← hpt]
                  by_cases hlg : 4096 < (bs (Q.printT nm.data.toList b0 b1 ls)).size
                  · have Hlg := Lib.hid (show 4096 < (Q.printT nm.data.toList b0 b1 ls).length by rw [← bs_size]; exact hlg)
                    clear hpt hkv
                    go_upto_region 23 with fail
                    refine anyP_start (fun w => w.cell? ⟨5, 0, none⟩ = some (.iface 229 (.pointer (some (E 8))))) 2 (fun _ => True) (fun _ _ => False) (by kernel_rfl) (fun _ _ _ _ h => h.elim) ?_
                    obtain ⟨wd, hwd⟩ : ∃ wd, wd = wv.drew := ⟨_, rfl⟩
                    have hkd : Kp wv wd := hwd ▸ (⟨rfl, rfl, rfl, Nat.le_refl _, fun _ _ => rfl⟩ : Kp wv wv.drew)
                    rw [← hwd]
                    clear hwd
                    have hTd := (Kp.trans HK6.out hkd).cell HE.out.c5
                    have HKd := Lib.hid (Kp.trans HK6.out hkd)
                    clear hkd
                    refine anyT_take puts_true [1] (by kernel_rfl) hTd ?_
                    simp only [opsAt, List.getElem?_toArray, List.getElem?_cons_zero, List.getElem?_cons_succ]
                    repeat (go_big_quiet_step (fail))
                    refine wpQuiet_nil ?_
                    refine anyT_load puts_true 0 66 (.iface 229 (.pointer (some (E 8)))) rfl rfl (by kernel_rfl) hTd (fun w h => exec_load32 h rfl rfl) ?_
                    simp only [Act.put, List.setIfInBounds_toArray, List.set_cons_zero, List.set_cons_succ]
                    refine anyP_one 2 (by kernel_rfl) ?_
                    simp only [opsAt, List.getElem?_toArray, List.getElem?_cons_zero, List.getElem?_cons_succ]
                    clear hTd
                    go_wp2_with fail
                    refine ⟨fun h => absurd rfl h, ?_⟩
                    refine anyP_end (by kernel_rfl) ?_
                    go_wp2_with fail
                    show bodyPost Tryz.prog Tryz.f27 (PrintPost w E nm.data.toList b0 b1 ls) .ret _ _
                    refine bodyPost_ret (v := .tuple #[.string ⟨#[]⟩, .iface 229 (.pointer (some (E 8)))]) (by simp [results, Tryz.results27, go_sem]) rfl ?_
                    exact PrintPost.long Hc.out Hnn.out Hi.out Hlg.out HKd.out
                  · have Hlg := Lib.hid (show (Q.printT nm.data.toList b0 b1 ls).length ≤ 4096 by rw [← bs_size]; omega)
                    clear hpt hkv
                    go_wp2_with fail
                    show bodyPost Tryz.prog Tryz.f27 (PrintPost w E nm.data.toList b0 b1 ls) .ret _ _
                    refine bodyPost_ret (v := .tuple #[.string (bs (Q.printT nm.data.toList b0 b1 ls)), .nilIface]) (by simp [results, Tryz.results27, go_sem]) rfl ?_
                    exact PrintPost.fine Hc.out Hnn.out Hi.out Hlg.out HK6.out
  · have Hc := Lib.hid hc
    have HEe := Lib.hid (errV_ptr E hc)
    rw [HEe.out] at HC
    have Hk1 := Lib.hid hk1
    obtain ⟨y0, y1, y2, y3, z0, z1, z2, z3⟩ := hF1
    clear hc hbx hk1
    go_enter Tryz.func27, Tryz.ntmps27
    go_upto_region 2 with fail
    (with_reducible refine HC.out.mono ?_)
    rintro e w2 ⟨rfl, hk2⟩
    have Hk2 := Lib.hid (Kp.trans Hk1.out hk2)
    clear hk2 y0 y1 y2 y3 z0 z1 z2 z3
    go_wp2_with fail
    show bodyPost Tryz.prog Tryz.f27 (PrintPost w E nm.data.toList b0 b1 ls) .ret _ _
    refine bodyPost_ret (v := .tuple #[.string ⟨#[]⟩, .iface 229 (.pointer (some (E (checkL b0 b1 ls))))]) (by simp [results, Tryz.results27, go_sem]) rfl ?_
    exact PrintPost.bad Hc.out Hk2.out
end Go.Proofs.YtkmejehhdjdlbaaGreatDoor

namespace Go.Proofs.YtkmejehhdjdlbaaGreatDoor
open Go.RowKit

def nnB : Q.Bt := [78, 78]
def nnL : List Ln := [(0, [1]), (1, [1, 3])]
def nnT : Q.Bt := [78, 78, 58, 10, 32, 32, 45, 62, 32, 101, 10, 32, 32, 60, 45, 32, 101, 44, 32, 101, 101, 10]
def psk0 : Q.Bt := [112, 115, 107, 48]
theorem nn_row : (rowOf nnB).map (fun y => (y.1, y.2.1, y.2.2.1)) = some (nnB, ([], []), nnL) := by kernel_rfl
theorem nn_none : rowOf [78, 78, 49] = none := by kernel_rfl
theorem nn_read : Q.readP nnT = some (nnB, ⟨[], [], nnL, false⟩) := by kernel_rfl
theorem nn_check : checkL [] [] nnL = 0 := by kernel_rfl
theorem nn_print : prt nnB [] [] nnL = (nnT, 0) := by kernel_rfl
theorem zero_check : checkL [] [] [] = 9 := by kernel_rfl
def nnQ : Q.Pn := ⟨[78, 78, 112, 115, 107, 48], [], [], [(0, [7, 1]), (1, [1, 3])]⟩
theorem nn_mod : Q.modP srtI ⟨nnB, [], [], nnL⟩ [psk0] = (some nnQ, 0) := by kernel_rfl
theorem nnQ_check : checkL nnQ.b0 nnQ.b1 nnQ.ls = 0 := by kernel_rfl
end Go.Proofs.YtkmejehhdjdlbaaGreatDoor

namespace Go.Proofs.YtkmejehhdjdlbaaGreatDoor
open Go.RowKit

set_option maxHeartbeats 4000000 in
theorem all_fn (w : World) : Calls Tryz.prog 35 #[] w fun e w' => e = .returned (.func (.func 78) #[] #[]) ∧ w = w' := by
  go_enter Tryz.func35, Tryz.ntmps35
  go_wp2_with fail
  go_ret
  exact ⟨rfl, rfl⟩
set_option maxHeartbeats 4000000 in
theorem known1_any (v : World) (bc k : Nat) (hk : k < 5) (s : ByteArray) (a0 a1 al : Option Addr) (n0 c0 n1 c1 nl cl : Nat) (h : One1 v bc (iv k)) :
    Calls Tryz.prog 55 #[patV s a0 a1 al n0 c0 n1 c1 nl cl, .pointer (some ⟨bc, 0, none⟩)] v fun e v' => e = .returned (.bool (decide (k + 1 < 5))) ∧ Fr [bc] v v' ∧ One1 v' bc (iv ((k + 1 : Nat) : Int)) := by
  have hk1 := Kp.new v (.cells #[.string s, .slice a0 n0 c0, .slice a1 n1 c1, .slice al nl cl] 26)
  have h1 := h.kp hk1
  have hset := ((Fr.of_kp hk1).mono (Y := [bc]) (by simp)).trans (Fr.set (v.alloc (.cells #[.string s, .slice a0 n0 c0, .slice a1 n1 c1, .slice al nl cl] 26)) ⟨bc, 0, none⟩ (iv ((k + 1 : Nat) : Int)))
  have h2 := h1.set (iv ((k + 1 : Nat) : Int))
  have Hset := Lib.hid hset
  have H2 := Lib.hid h2
  obtain ⟨y0, z0⟩ := h1
  clear h hset h2 hk1
  rcases (show k = 0 ∨ k = 1 ∨ k = 2 ∨ k = 3 ∨ k = 4 by omega) with rfl | rfl | rfl | rfl | rfl
  all_goals
    go_enter Tryz.func55, Tryz.ntmps55
    go_wp2_with fail
    go_ret
    exact ⟨rfl, Hset.out, H2.out⟩
attribute [local irreducible] tblK tblP tblQ Q.piecesB Q.tableB Q.tableL rowOf namesS
/-- Five of the table are taken. -/
theorem five_any (w0 w : World) (E : Nat → Addr) (m : Int) (hE : Env w0 E m) (hk : Kp w0 w) (bc : Nat) (hb : w0.heap.size ≤ bc) (hbw : bc < w.heap.size) (h : One1 w bc (iv 0)) :
    Calls Tryz.prog 78 #[.func (.func 55) #[] #[.pointer (some ⟨bc, 0, none⟩)]] w fun e w' => e = .returned (.tuple #[]) ∧ One1 w' bc (iv 5) ∧ Fr [bc] w w' :=
  all_iter 55 #[.pointer (some ⟨bc, 0, none⟩)] (enters_of Tryz.func55 (by kernel_rfl) rfl) w m E (E 8) [bc] (fun k v => k < 5 ∧ One1 v bc (iv (k : Nat)) ∧ Fr [bc] w v) (fun v => One1 v bc (iv 5) ∧ Fr [bc] w v) (by simpa using hbw)
    (fun k v v' hi hk => ⟨hi.1, hi.2.1.kp hk, hi.2.2.trans ((Fr.of_kp hk).mono (Y := [bc]) (by simp))⟩)
    (fun k v hi => by
      have hv := hE.keep (kp_step' hk hi.2.2 (fun x hx => by simp at hx; omega))
      exact ⟨hv.mx, hv.errs, hv.c5⟩)
    ⟨by omega, h, Fr.refl _ _⟩
    (fun k v y t0 t1 tl ts hkl hr hy hi hP => (known1_any v bc k hi.1 (bs y.1) t0.ao t1.ao tl.ao t0.n t0.c t1.n t1.c tl.n tl.c hi.2.1).mono (fun e v' he => by
      obtain ⟨rfl, hf, ho⟩ := he
      refine ⟨_, rfl, hf, fun hb => ⟨by simpa using hb, ho, hi.2.2.trans hf⟩, fun hb => ⟨?_, hi.2.2.trans hf⟩⟩
      have hk5 : k + 1 = 5 := by
        have h1 := hi.1
        simp at hb
        omega
      rw [hk5] at ho
      exact ho))
    (fun v hi => absurd hi.1 (by rw [namesS_length, tableL_len]; decide))
end Go.Proofs.YtkmejehhdjdlbaaGreatDoor

namespace Go.Proofs.YtkmejehhdjdlbaaGreatDoor
open Go.RowKit

def q2L : List Ln := [(0, [7, 1]), (1, [1, 3])]
abbrev sNN : ByteArray := ⟨#[78, 78]⟩
abbrev sTx : ByteArray := ⟨#[78, 78, 58, 10, 32, 32, 45, 62, 32, 101, 10, 32, 32, 60, 45, 32, 101, 44, 32, 101, 101, 10]⟩
abbrev sPs : ByteArray := ⟨#[112, 115, 107, 48]⟩
abbrev sQ : ByteArray := ⟨#[78, 78, 112, 115, 107, 48]⟩
variable {E : Nat → Addr} {m : Int}
theorem nnL_small : ∀ l ∈ nnL, l.2.length ≤ 2000 := by decide
theorem PatO.patI {w : World} {B : Nat} {t0 t1 tl : Tv} {ts : List Tv} {b0 b1 : List Int} {ls : List Ln} (h : PatO w B t0 t1 tl ts b0 b1 ls) (hn : ls.length ≤ 5000) (ht : ∀ l ∈ ls, l.2.length ≤ 5000) : PatI w t0.ao t1.ao tl.ao t0.n t1.n tl.n b0 b1 ls :=
  ⟨h.is0, h.is1, h.lnsN 5000 (by decide) hn ht⟩
theorem parse_nn (v : World) (hE : Env v E m) : Calls Tryz.prog 29 #[.string sTx] v fun e w' => Kp v w' ∧ ∃ t0 t1 tl : Tv, e = .returned (.tuple #[.agg #[.string sNN, tvv t0, tvv t1, tvv tl], .nilIface]) ∧ PatI w' t0.ao t1.ao tl.ao t0.n t1.n tl.n [] [] nnL ∧ tl.n = 2 := by
  refine (show Calls Tryz.prog 29 #[.string sTx] v _ from parse_fine nnT nnB ⟨[], [], nnL, false⟩ m E (E 8) v hE.mx hE.errs hE.c5 (by decide) nn_read nn_check).mono ?_
  rintro e w' ⟨hk, t0, t1, tl, ts, rfl, hP⟩
  exact ⟨hk, t0, t1, tl, rfl, hP.patI (by decide) (fun l hl => by have := nnL_small l hl; omega), hP.nl⟩
theorem find_nn (v : World) (hE : Env v E m) : Calls Tryz.prog 32 #[.string sNN] v fun e w' => Kp v w' ∧ ∃ t0 t1 tl : Tv, e = .returned (.tuple #[.agg #[.string sNN, tvv t0, tvv t1, tvv tl], .bool true]) ∧ PatI w' t0.ao t1.ao tl.ao t0.n t1.n tl.n [] [] nnL ∧ t0.n = 0 ∧ t1.n = 0 ∧ tl.n = 2 := by
  refine (find_any sNN m E (E 8) v (by decide) hE.mx hE.errs hE.c5).mono ?_
  rintro e w' ⟨hk, h⟩
  have hr := nn_row
  rw [show sNN.data.toList = nnB from rfl] at h
  cases hq : rowOf nnB with
  | none => rw [hq] at hr; cases hr
  | some y =>
    rw [hq] at hr h
    simp only [Option.map_some, Option.some.injEq, Prod.mk.injEq] at hr
    obtain ⟨t0, t1, tl, ts, rfl, hP⟩ := h
    rw [hr.2.1, hr.2.2] at hP
    refine ⟨hk, t0, t1, tl, ?_, hP.patI (by decide) (fun l hl => by have := nnL_small l hl; omega), hP.n0, hP.n1, hP.nl⟩
    rw [hr.1]; rfl
theorem find_nn1 (v : World) (hE : Env v E m) : Calls Tryz.prog 32 #[.string ⟨#[78, 78, 49]⟩] v fun e w' => Kp v w' ∧ e = .returned (.tuple #[zeroP, .bool false]) := by
  refine (find_any ⟨#[78, 78, 49]⟩ m E (E 8) v (by decide) hE.mx hE.errs hE.c5).mono ?_
  rintro e w' ⟨hk, h⟩
  rw [show (⟨#[78, 78, 49]⟩ : ByteArray).data.toList = [78, 78, 49] from rfl, nn_none] at h
  exact ⟨hk, h⟩
theorem print_nn (v : World) (hE : Env v E m) (a0 a1 al : Option Addr) (n0 c0 n1 c1 nl cl : Nat) (hP : PatI v a0 a1 al n0 n1 nl [] [] nnL) :
    Calls Tryz.prog 27 #[patV sNN a0 a1 al n0 c0 n1 c1 nl cl] v fun e w' => Kp v w' ∧ e = .returned (.tuple #[.string sTx, .nilIface]) := by
  refine (print_any v E m hE sNN a0 a1 al n0 c0 n1 c1 nl cl [] [] nnL hP (by decide)).mono ?_
  rintro e w' ⟨h, hk⟩
  rw [show sNN.data.toList = nnB from rfl, nn_print] at h
  refine ⟨hk, ?_⟩
  rw [h]
  simp only [errV_nil]
  rfl
theorem mod_nn (v : World) (hE : Env v E m) (a0 a1 al : Option Addr) (n0 c0 n1 c1 nl cl : Nat) (hP : PatI v a0 a1 al n0 n1 nl [] [] nnL) (h0 : n0 = 0) (h1 : n1 = 0) (hl : nl = 2) (g : Nat) (hg : v.cell? ⟨g, 0, none⟩ = some (.string sPs)) :
    Calls Tryz.prog 19 #[patV sNN a0 a1 al n0 c0 n1 c1 nl cl, .slice (some ⟨g, 0, none⟩) 1 1] v fun e w' => Kp v w' ∧ ∃ t0 t1 tf td ts D, e = .returned (.tuple #[.agg #[.string sQ, tvv t0, tvv t1, tvv (subT tf D.length)], .nilIface]) ∧ DrS w' v.heap.size t0 t1 tf td ts D q2L [] [] := by
  have hW : Strs v (some ⟨g, 0, none⟩) 1 [sPs] := ⟨rfl, by decide, fun j u hu => by
    cases j with
    | zero => exact ⟨_, _, rfl, by cases hu; exact hg⟩
    | succ j => simp at hu⟩
  refine (modify_any v E m hE sNN a0 a1 al n0 c0 n1 c1 nl cl [] [] nnL hP ⟨by decide, by omega, by omega, by omega, nnL_small⟩ _ 1 1 [sPs] hW (by decide) (by decide)).mono ?_
  rintro e w' ⟨hk, h⟩
  rw [show (⟨sNN.data.toList, [], [], nnL⟩ : Q.Pn) = ⟨nnB, [], [], nnL⟩ from rfl, show wb [sPs] = [psk0] from rfl, nn_mod] at h
  obtain ⟨t0, t1, tf, td, ts, D, he, hd, h1, hl, hs⟩ := h
  exact ⟨hk, t0, t1, tf, td, ts, D, he, hd, h1, hl, hs⟩
theorem check_zero (v : World) (hE : Env v E m) : Calls Tryz.prog 24 #[zeroP] v fun e w' => e = .returned (.iface 229 (.pointer (some (E 9)))) ∧ Kp v w' := by
  have hz := PatI.none v
  have h := check_any v E hE.errs ⟨#[]⟩ none none none 0 0 0 0 0 0 [] [] [] hz.i0 hz.i1 hz.il
  rw [zero_check] at h
  exact h
theorem check_q (v : World) (hE : Env v E m) (nm : ByteArray) (a0 a1 al : Option Addr) (n0 c0 n1 c1 nl cl : Nat) (hP : PatI v a0 a1 al n0 n1 nl [] [] q2L) : Calls Tryz.prog 24 #[patV nm a0 a1 al n0 c0 n1 c1 nl cl] v fun e w' => e = .returned .nilIface ∧ Kp v w' := by
  have h := check_any v E hE.errs nm a0 a1 al n0 c0 n1 c1 nl cl [] [] q2L hP.i0 hP.i1 hP.il
  rw [show checkL [] [] q2L = 0 from nnQ_check] at h
  exact h
end Go.Proofs.YtkmejehhdjdlbaaGreatDoor

namespace Go.Proofs.YtkmejehhdjdlbaaGreatDoor
open Go.RowKit

structure SepV (w : World) (B : Nat) (rs : List Rw) : Prop where
  own : ∀ r ∈ rs, OwV w B r.e r.sz r.t r.xs
  ap : rs.Pairwise apartR
section
variable {w w' : World} {B : Nat} {rs rs' R : List Rw} {X : List Nat}
theorem SepV.nil (w : World) (B : Nat) : SepV w B [] := ⟨by simp, List.Pairwise.nil⟩
theorem SepV.fr (h : SepV w B rs) (k : Fr X w w') (hX : ∀ x ∈ X, (∀ r ∈ rs, x ∉ r.bl)) : SepV w' B rs := ⟨fun r hr => (h.own r hr).fr k (fun x hx hq => hX x hq r hr hx), h.ap⟩
theorem SepV.kp (h : SepV w B rs) (k : Kp w w') : SepV w' B rs := h.fr (Fr.of_kp k) (by simp)
theorem SepV.lt (h : SepV w B rs) {r : Rw} (hr : r ∈ rs) {x : Nat} (hx : x ∈ r.bl) : B ≤ x ∧ x < w.heap.size := (h.own r hr).lt x hx
theorem SepV.new (h : SepV w B rs) (k : Fr X w w') (hX : ∀ x ∈ X, x < B ∨ w.heap.size ≤ x) : SepV w' B rs := h.fr k (fun x hx r hr hq => by have := h.lt hr hq; have := hX x hx; omega)
theorem SepV.base {B' : Nat} (h : SepV w B rs) (hB : B' ≤ B) : SepV w B' rs := ⟨fun r hr => (h.own r hr).mono (fun x hx => Nat.le_trans hB ((h.own r hr).lt x hx).1), h.ap⟩
theorem SepV.perm (h : SepV w B rs) (p : rs.Perm rs') : SepV w B rs' := ⟨fun r hr => h.own r (p.mem_iff.2 hr), (p.pairwise_iff (fun {_a _b} hab x hx hy => hab x hy hx)).1 h.ap⟩
theorem SepV.sub (h : SepV w B rs) (p : rs'.Sublist rs) : SepV w B rs' := ⟨fun r hr => h.own r (p.subset hr), h.ap.sublist p⟩
theorem SepV.join {w1 : World} (h : SepV w B rs) (k : Kp w w1) (g : SepV w1 w.heap.size R) (hB : B ≤ w.heap.size) : SepV w1 B (rs ++ R) := by
  refine ⟨fun r hr => ?_, List.pairwise_append.2 ⟨h.ap, g.ap, fun a ha b hb x hx hy => ?_⟩⟩
  · rcases List.mem_append.1 hr with q | q
    · exact (h.kp k).own r q
    · exact (g.base hB).own r q
  · have := (h.lt ha hx).2
    have := (g.lt hb hy).1
    omega
/-- Some rows have changed, in their own blocks. -/
theorem SepV.put (h : SepV w B (rs ++ R)) (f : Fr X w w') (hX : ∀ x ∈ X, (∃ r ∈ rs, x ∈ r.bl) ∨ w.heap.size ≤ x) (h' : SepV w' B rs') (ht : rs'.map (·.t) = rs.map (·.t)) : SepV w' B (rs' ++ R) := by
  obtain ⟨p1, p2, p3⟩ := List.pairwise_append.1 h.ap
  refine ⟨fun r hr => ?_, List.pairwise_append.2 ⟨h'.ap, p2, fun a ha b hb x hx hy => ?_⟩⟩
  · rcases List.mem_append.1 hr with q | q
    · exact h'.own r q
    · refine (h.own r (List.mem_append_right _ q)).fr f (fun x hx hq => ?_)
      rcases hX x hq with ⟨s, hs, hy⟩ | hy
      · exact p3 s hs r q x hy hx
      · have := (h.lt (List.mem_append_right _ q) hx).2; omega
  · have : a.t ∈ rs.map (·.t) := by rw [← ht]; exact List.mem_map.2 ⟨a, ha, rfl⟩
    obtain ⟨s, hs, e⟩ := List.mem_map.1 this
    exact p3 s hs b hb x (by unfold Rw.bl at hx ⊢; rw [e]; exact hx) hy
/-- One element is added to the first row. -/
theorem SepV.app {e : TypeId} {sz N : Nat} {t : Tv} {xs zs : List Value} {ao' : Option Addr} {cap' : Nat} (h : SepV w B (⟨e, sz, t, xs⟩ :: R)) (ha : Apv w w' B e sz t N zs ao' cap') : SepV w' B (⟨e, sz, ⟨ao', N, cap'⟩, zs⟩ :: R) := by
  obtain ⟨p1, p2⟩ := List.pairwise_cons.1 h.ap
  refine ⟨fun r hr => ?_, List.pairwise_cons.2 ⟨fun r hr x hx hy => ?_, p2⟩⟩
  · rcases List.mem_cons.1 hr with rfl | hr
    · exact ha.own
    · exact (h.own r (List.mem_cons_of_mem _ hr)).fr ha.fr (fun x hx hq => p1 r hr x hq hx)
  · rcases ha.move with m | ⟨_, m⟩
    · exact p1 r hr x (by
        have hx' : x ∈ blkL ao' := hx
        rw [m] at hx'
        exact hx') hy
    · have h1 : blk ao' = some x := mem_blkL.1 hx
      rw [m] at h1
      have := Option.some.inj h1
      have := (h.lt (List.mem_cons_of_mem _ hr) hy).2
      omega
theorem SepV.head {r : Rw} (h : SepV w B (r :: R)) : OwV w B r.e r.sz r.t r.xs := h.own r (by simp)
theorem SepV.tail {r : Rw} (h : SepV w B (r :: R)) : SepV w B R := h.sub (List.sublist_cons_self _ _)
theorem Sep.view (h : Sep w B rs) : SepV w B rs := ⟨fun r hr => .inl (h.own r hr), h.ap⟩
theorem OwV.max {e : TypeId} {sz : Nat} {t : Tv} {xs : List Value} (h : OwV w B e sz t xs) : t.n ≤ maxLen := by
  have key : ∀ {ao : Option Addr} {n c : Nat} {ys : List Value}, Own w B e sz ao n c ys → n ≤ maxLen := fun h => by
    rcases h.2 with ⟨_, hn⟩ | ⟨g, cap', cur, hv, _, _, h1, h2, _⟩
    · omega
    · exact Nat.le_trans h1 h2
  rcases h with h | ⟨g, d, pre, _, _, _, h⟩
  · exact key h
  · have := key h; omega
theorem OwV.is {e : TypeId} {t : Tv} {xs : List Int} (h : OwV w B e 1 t (xs.map iv)) : Is w t.ao t.n xs := ⟨by have := h.len; rw [List.length_map] at this; omega, h.max, h.cs⟩
end
/-- A pattern: its slices, what they hold. -/
structure Pq where
  nm : ByteArray
  t0 : Tv
  t1 : Tv
  tl : Tv
  ts : List Tv
  b0 : List Int
  b1 : List Int
  ls : List Ln
def Pq.rows (q : Pq) : List Rw := rowsP q.t0 q.t1 q.tl q.ts q.b0 q.b1 q.ls
def Pq.bl (q : Pq) : List Nat := q.rows.flatMap Rw.bl
def Pq.val (q : Pq) : Value := .agg #[.string q.nm, .slice q.t0.ao q.t0.n q.t0.c, .slice q.t1.ao q.t1.n q.t1.c, .slice q.tl.ao q.tl.n q.tl.c]
structure Pq.Ok (q : Pq) (K : Nat) : Prop where
  hl : q.ts.length = q.ls.length
  l0 : q.b0.length ≤ K
  l1 : q.b1.length ≤ K
  ll : q.ls.length ≤ K
  lt : ∀ l ∈ q.ls, l.2.length ≤ K
section
variable {w w' : World} {B K : Nat} {q : Pq}
theorem Pq.lns (hl : q.ts.length = q.ls.length) (ol : OwV w B 73 2 q.tl (lnc q.ls q.ts)) (ot : ∀ r ∈ rowsT q.ts q.ls, OwV w B r.e r.sz r.t r.xs) (hn : q.ls.length ≤ 140737488351232) (ht : ∀ l ∈ q.ls, l.2.length ≤ 140737488351232) : Lns w q.tl.ao q.tl.n q.ls := by
  have h2 := ol.len
  rw [lnc_length hl] at h2
  have hnl : q.tl.n = q.ls.length := by omega
  rw [hnl]
  refine ⟨rfl, hn, fun j hj => ?_⟩
  obtain ⟨g0, g1⟩ := lnc_get hl j hj
  obtain ⟨b, off, e0, c0⟩ := ol.cs (j * 2) _ g0
  obtain ⟨b', off', e1, c1⟩ := ol.cs (j * 2 + 1) _ g1
  rw [e0] at e1
  simp only [Option.some.injEq, Addr.mk.injEq, and_true] at e1
  obtain ⟨rfl, rfl⟩ := e1
  have hr := ot _ (List.mem_of_getElem? (rowsT_get hl j hj))
  have hi : Is w (q.ts[j]'(by omega)).ao (q.ts[j]'(by omega)).n q.ls[j].2 := OwV.is hr
  have hlt := ht _ (List.getElem_mem hj)
  exact ⟨b, off, _, _, _, e0, c0, by rw [Nat.add_assoc]; exact c1, hi, by rw [← hi.1]; exact hlt⟩
theorem SepV.pat (h : SepV w B q.rows) (hq : q.Ok K) (hK : K ≤ 100000) : PatI w q.t0.ao q.t1.ao q.tl.ao q.t0.n q.t1.n q.tl.n q.b0 q.b1 q.ls :=
  ⟨OwV.is (h.own ⟨3, 1, q.t0, q.b0.map iv⟩ (by simp [Pq.rows, rowsP])), OwV.is (h.own ⟨3, 1, q.t1, q.b1.map iv⟩ (by simp [Pq.rows, rowsP])),
    Pq.lns hq.hl (h.own ⟨73, 2, q.tl, lnc q.ls q.ts⟩ (by simp [Pq.rows, rowsP])) (fun r hr => h.own r (by simp [Pq.rows, rowsP, hr])) (by have := hq.ll; omega) (fun l hl => by have := hq.lt l hl; omega)⟩
/-- One pattern of many. -/
theorem SepV.one {qs : List Pq} {i : Nat} (h : SepV w B (qs.flatMap Pq.rows)) (hi : qs[i]? = some q) : SepV w B q.rows :=
  h.sub (List.sublist_flatten_of_mem (List.mem_map.2 ⟨q, List.mem_of_getElem? hi, rfl⟩))
theorem Pq.mem_bl {x : Nat} : x ∈ q.bl ↔ ∃ r ∈ q.rows, x ∈ r.bl := by unfold Pq.bl; rw [List.mem_flatMap]
theorem SepV.set {qs : List Pq} {i : Nat} {q' : Pq} {X : List Nat} (h : SepV w B (qs.flatMap Pq.rows)) (hi : qs[i]? = some q) (f : Fr X w w') (hX : ∀ x ∈ X, x ∈ q.bl ∨ w.heap.size ≤ x) (h' : SepV w' B q'.rows) (ht : q'.rows.map (·.t) = q.rows.map (·.t)) : SepV w' B ((qs.set i q').flatMap Pq.rows) := by
  obtain ⟨hlt, rfl⟩ := List.getElem?_eq_some_iff.1 hi
  have e1 : qs.flatMap Pq.rows = (qs.take i).flatMap Pq.rows ++ (qs[i].rows ++ (qs.drop (i + 1)).flatMap Pq.rows) := by
    conv => lhs; rw [← List.take_append_drop i qs, List.drop_eq_getElem_cons hlt]
    rw [List.flatMap_append, List.flatMap_cons]
  have e2 : (qs.set i q').flatMap Pq.rows = (qs.take i).flatMap Pq.rows ++ (q'.rows ++ (qs.drop (i + 1)).flatMap Pq.rows) := by
    rw [List.set_eq_take_append_cons_drop, if_pos hlt, List.flatMap_append, List.flatMap_cons]
  rw [e1] at h
  rw [e2]
  have p : ∀ (a b c : List Rw), (a ++ (b ++ c)).Perm (b ++ (a ++ c)) := fun a b c => by
    rw [← List.append_assoc, ← List.append_assoc]
    exact List.perm_append_comm.append_right c
  exact ((h.perm (p _ _ _)).put f (fun x hx => (hX x hx).imp (fun q => Pq.mem_bl.1 q) id) h' ht).perm (p _ _ _).symm
end
end Go.Proofs.YtkmejehhdjdlbaaGreatDoor

namespace Go.Proofs.YtkmejehhdjdlbaaGreatDoor
open Go.RowKit

def Pq.T (q : Pq) : List Tv := q.t0 :: q.t1 :: q.ts
/-- What is said of it. -/
def Pq.ct (q : Pq) : ByteArray × List Int × List Int × List Ln := (q.nm, q.b0, q.b1, q.ls)
def cM (mark : Int) (j : Nat) : List Value := [iv (mark + ((j : Nat) : Int))]
def cN (mark : Int) : List Value := [iv mark, .slice none 0 0]
def fillL (mark : Int) : Nat → List Ln → List Ln
  | _, [] => []
  | j, l :: r => (mark, List.replicate l.2.length (mark + ((j : Nat) : Int))) :: fillL mark (j + 1) r
def Pq.fill (q : Pq) (mark : Int) : Pq := { q with b0 := List.replicate q.b0.length (mark + ((0 : Nat) : Int)), b1 := List.replicate q.b1.length (mark + ((1 : Nat) : Int)), ls := fillL mark 2 q.ls }
theorem fillL_length (mark : Int) : ∀ (j : Nat) (ls : List Ln), (fillL mark j ls).length = ls.length
  | _, [] => rfl
  | j, l :: r => by simp only [fillL, List.length_cons, fillL_length mark (j + 1) r]
theorem fillL_get (mark : Int) : ∀ (j : Nat) (ls : List Ln) (k : Nat) (l : Ln), ls[k]? = some l → (fillL mark j ls)[k]? = some (mark, List.replicate l.2.length (mark + ((j + k : Nat) : Int)))
  | _, [], k, l, h => by simp at h
  | j, a :: r, 0, l, h => by
    simp only [List.getElem?_cons_zero, Option.some.injEq] at h
    subst h
    rfl
  | j, a :: r, k + 1, l, h => by
    simp only [List.getElem?_cons_succ] at h
    have := fillL_get mark (j + 1) r k l h
    simp only [fillL, List.getElem?_cons_succ]
    rw [this, show j + 1 + k = j + (k + 1) by omega]
theorem rep_iv (n : Nat) (v : Int) : rep n [iv v] = (List.replicate n v).map iv := by
  induction n with
  | zero => rfl
  | succ n ih => rw [rep_step, ih]; rfl
theorem ap_t {rs rs' : List Rw} (h : rs.Pairwise apartR) (ht : rs'.map (·.t) = rs.map (·.t)) : rs'.Pairwise apartR := by
  induction rs generalizing rs' with
  | nil =>
    cases rs' with
    | nil => exact List.Pairwise.nil
    | cons a l => simp at ht
  | cons r rs ih =>
    cases rs' with
    | nil => simp at ht
    | cons a l =>
      simp only [List.map_cons, List.cons.injEq] at ht
      obtain ⟨h1, h2⟩ := List.pairwise_cons.1 h
      refine List.pairwise_cons.2 ⟨fun b hb x hx hy => ?_, ih h2 ht.2⟩
      have : b.t ∈ rs.map (·.t) := by rw [← ht.2]; exact List.mem_map.2 ⟨b, hb, rfl⟩
      obtain ⟨s, hs, e⟩ := List.mem_map.1 this
      exact h1 s hs x (by unfold Rw.bl at hx ⊢; rw [← ht.1]; exact hx) (by unfold Rw.bl at hy ⊢; rw [e]; exact hy)
theorem rowsT_map : ∀ {ts : List Tv} {ls : List Ln}, ts.length = ls.length → (rowsT ts ls).map (·.t) = ts
  | [], [], _ => rfl
  | t :: ts, l :: ls, h => by
    simp only [List.length_cons] at h
    simp only [rowsT, List.map_cons]
    rw [rowsT_map (by omega)]; rfl
theorem Pq.rows_t {q : Pq} (hl : q.ts.length = q.ls.length) : q.rows.map (·.t) = q.t0 :: q.t1 :: q.tl :: q.ts := by
  unfold Pq.rows rowsP
  rw [List.map_cons, List.map_cons, List.map_cons, rowsT_map hl]
section
variable {w w' : World} {B K : Nat} {q : Pq}
/-- The rows, one by one. -/
theorem Pq.mk_sep (hl : q.ts.length = q.ls.length) (h0 : OwV w B 3 1 q.t0 (q.b0.map iv)) (h1 : OwV w B 3 1 q.t1 (q.b1.map iv)) (hL : OwV w B 73 2 q.tl (lnc q.ls q.ts))
    (hT : ∀ (j : Nat) (t : Tv) (l : Ln), q.ts[j]? = some t → q.ls[j]? = some l → OwV w B 3 1 t (l.2.map iv)) (ap : q.rows.Pairwise apartR) : SepV w B q.rows := by
  refine ⟨fun r hr => ?_, ap⟩
  unfold Pq.rows rowsP at hr
  rcases List.mem_cons.1 hr with rfl | hr
  · exact h0
  rcases List.mem_cons.1 hr with rfl | hr
  · exact h1
  rcases List.mem_cons.1 hr with rfl | hr
  · exact hL
  obtain ⟨j, t, l, ht, hl2, rfl⟩ := rowsT_mem hl hr
  exact hT j t l ht hl2
theorem Pq.Ok.fill (h : q.Ok K) (mark : Int) : (q.fill mark).Ok K := by
  refine ⟨by unfold Pq.fill; simp only; rw [fillL_length]; exact h.hl, by unfold Pq.fill; simpa using h.l0, by unfold Pq.fill; simpa using h.l1, by unfold Pq.fill; simp only; rw [fillL_length]; exact h.ll, fun l hl => ?_⟩
  unfold Pq.fill at hl
  obtain ⟨j, hj, rfl⟩ := List.getElem_of_mem hl
  simp only [fillL_length] at hj
  have := fillL_get mark 2 q.ls j _ (List.getElem?_eq_getElem hj)
  rw [List.getElem?_eq_getElem (by rw [fillL_length]; exact hj)] at this
  simp only
  rw [Option.some.inj this, List.length_replicate]
  exact h.lt _ (List.getElem_mem hj)
theorem Pq.fill_t (hl : q.ts.length = q.ls.length) (mark : Int) : (q.fill mark).rows.map (·.t) = q.rows.map (·.t) := by
  rw [Pq.rows_t hl, Pq.rows_t (by unfold Pq.fill; simp only; rw [fillL_length]; exact hl)]
  rfl
/-- A list of numbers of a pattern, by its number. -/
theorem Pq.at_T (h : SepV w B q.rows) (hq : q.Ok K) {j : Nat} {t : Tv} (ht : q.T[j]? = some t) : ∃ r ∈ q.rows, r.t = t ∧ r.e = 3 ∧ r.sz = 1 ∧ OwV w B 3 1 t r.xs ∧ r.xs.length ≤ K ∧ q.rows[if j < 2 then j else j + 1]? = some r := by
  have key : ∀ r ∈ q.rows, r.e = 3 → r.sz = 1 → OwV w B 3 1 r.t r.xs := fun r hr e1 e2 => by
    have := h.own r hr
    rwa [e1, e2] at this
  rcases j with _ | _ | j
  · simp only [Pq.T, List.getElem?_cons_zero, Option.some.injEq] at ht
    subst ht
    have hm : (⟨3, 1, q.t0, q.b0.map iv⟩ : Rw) ∈ q.rows := by simp [Pq.rows, rowsP]
    exact ⟨_, hm, rfl, rfl, rfl, key _ hm rfl rfl, by simpa using hq.l0, rfl⟩
  · simp only [Pq.T, List.getElem?_cons_succ, List.getElem?_cons_zero, Option.some.injEq] at ht
    subst ht
    have hm : (⟨3, 1, q.t1, q.b1.map iv⟩ : Rw) ∈ q.rows := by simp [Pq.rows, rowsP]
    exact ⟨_, hm, rfl, rfl, rfl, key _ hm rfl rfl, by simpa using hq.l1, rfl⟩
  · simp only [Pq.T, List.getElem?_cons_succ] at ht
    have hj := (List.getElem?_eq_some_iff.1 ht).1
    have hr := rowsT_get hq.hl j (by rw [← hq.hl]; exact hj)
    rw [List.getElem?_eq_getElem hj] at ht
    obtain rfl := Option.some.inj ht
    have hm : rowT (q.ts[j]) (q.ls[j]'(by rw [← hq.hl]; exact hj)) ∈ q.rows := by
      simp only [Pq.rows, rowsP, List.mem_cons]
      exact .inr (.inr (.inr (List.mem_of_getElem? hr)))
    refine ⟨_, hm, rfl, rfl, rfl, key _ hm rfl rfl, ?_, ?_⟩
    · have := hq.lt _ (List.getElem_mem (by rw [← hq.hl]; exact hj : j < q.ls.length))
      simpa [rowT] using this
    · rw [if_neg (by omega)]
      exact hr
theorem Pq.line (h : SepV w B q.rows) : OwV w B 73 2 q.tl (lnc q.ls q.ts) := h.own ⟨73, 2, q.tl, lnc q.ls q.ts⟩ (by simp [Pq.rows, rowsP])
theorem ap_ix' {l : List Rw} (h : l.Pairwise apartR) {i j : Nat} {a b : Rw} (ha : l[i]? = some a) (hb : l[j]? = some b) {x : Nat} (hx : x ∈ a.bl) (hy : x ∈ b.bl) : i = j := by
  obtain ⟨hi, rfl⟩ := List.getElem?_eq_some_iff.1 ha
  obtain ⟨hj, rfl⟩ := List.getElem?_eq_some_iff.1 hb
  rw [List.pairwise_iff_getElem] at h
  rcases Nat.lt_trichotomy i j with q | q | q
  · exact absurd hy (fun hy => h i j hi hj q x hx hy)
  · exact q
  · exact absurd hy (fun hy => h j i hj hi q x hy hx)
theorem Pq.dj_T (h : SepV w B q.rows) (hq : q.Ok K) : ∀ (i j x : Nat) (t u : Tv), q.T[i]? = some t → q.T[j]? = some u → x ∈ blkL t.ao → x ∈ blkL u.ao → i = j := fun i j x t u ht hu hx hy => by
  obtain ⟨r, _, rfl, _, _, _, _, hr⟩ := Pq.at_T h hq ht
  obtain ⟨s, _, rfl, _, _, _, _, hs⟩ := Pq.at_T h hq hu
  have := ap_ix' h.ap hr hs hx hy
  split at this <;> split at this <;> omega
theorem Pq.dj_L (h : SepV w B q.rows) (hq : q.Ok K) : ∀ (i x : Nat) (t : Tv), q.T[i]? = some t → x ∈ blkL t.ao → x ∉ blkL q.tl.ao := fun i x t ht hx hy => by
  obtain ⟨r, _, rfl, _, _, _, _, hr⟩ := Pq.at_T h hq ht
  have hs : q.rows[2]? = some ⟨73, 2, q.tl, lnc q.ls q.ts⟩ := rfl
  have := ap_ix' h.ap hr hs hx hy
  split at this <;> omega
theorem Pq.bl_T {j : Nat} {t : Tv} (hl : q.ts.length = q.ls.length) (ht : q.T[j]? = some t) {x : Nat} (hx : x ∈ blkL t.ao) : x ∈ q.bl := by
  have hm : t ∈ q.rows.map (·.t) := by
    rw [Pq.rows_t hl]
    have := List.mem_of_getElem? ht
    simp only [Pq.T, List.mem_cons] at this ⊢
    rcases this with h | h | h
    · exact .inl h
    · exact .inr (.inl h)
    · exact .inr (.inr (.inr h))
  obtain ⟨r, hr, rfl⟩ := List.mem_map.1 hm
  exact List.mem_flatMap.2 ⟨r, hr, hx⟩
theorem Pq.bl_L {x : Nat} (hx : x ∈ blkL q.tl.ao) : x ∈ q.bl := List.mem_flatMap.2 ⟨⟨73, 2, q.tl, lnc q.ls q.ts⟩, by simp [Pq.rows, rowsP], hx⟩
/-- Written over: all lists of numbers, then where each message comes from. -/
theorem Pq.fill_sep (hq : q.Ok K) (mark : Int) (ap : q.rows.Pairwise apartR) {ms : List Ln} (hT : ∀ (j : Nat) (t : Tv), q.T[j]? = some t → OwV w B 3 1 t (rep t.n (cM mark j)))
    (hb0 : q.t0.n = q.b0.length) (hb1 : q.t1.n = q.b1.length) (hbs : ∀ (j : Nat) (t : Tv) (l : Ln), q.ts[j]? = some t → q.ls[j]? = some l → t.n = l.2.length)
    (hL : OwV w B 73 2 q.tl (lnc ms q.ts)) (hml : ms.length = q.ls.length) (hm : ∀ l ∈ ms, l.1 = mark) : SepV w B (q.fill mark).rows := by
  refine Pq.mk_sep (q := q.fill mark) (hq.fill mark).hl ?_ ?_ ?_ (fun j t l ht hl => ?_) (ap_t ap (Pq.fill_t hq.hl mark))
  · have := hT 0 q.t0 rfl
    unfold cM at this
    rw [rep_iv, hb0] at this
    exact this
  · have := hT 1 q.t1 rfl
    unfold cM at this
    rw [rep_iv, hb1] at this
    exact this
  · have e : lnc (q.fill mark).ls (q.fill mark).ts = lnc ms q.ts := by
      refine lnc_same _ _ _ ?_
      apply List.ext_getElem?
      intro j
      rw [List.getElem?_map, List.getElem?_map]
      show ((fillL mark 2 q.ls)[j]?).map _ = _
      rcases Nat.lt_or_ge j q.ls.length with h | h
      · rw [fillL_get mark 2 q.ls j _ (List.getElem?_eq_getElem h), List.getElem?_eq_getElem (by omega : j < ms.length)]
        simp only [Option.map_some, Option.some.injEq]
        exact (hm _ (List.getElem_mem _)).symm
      · rw [List.getElem?_eq_none (by rw [fillL_length]; exact h), List.getElem?_eq_none (by omega)]
    rw [e]; exact hL
  · have hj := (List.getElem?_eq_some_iff.1 ht).1
    have hj' : j < q.ls.length := by rw [← hq.hl]; exact hj
    have h1 := fillL_get mark 2 q.ls j _ (List.getElem?_eq_getElem hj')
    have h2 : (fillL mark 2 q.ls)[j]? = some l := hl
    rw [h1] at h2
    obtain rfl := Option.some.inj h2
    have := hT (j + 2) t ht
    unfold cM at this
    rw [rep_iv, hbs j t _ ht (List.getElem?_eq_getElem hj'), show j + 2 = 2 + j by omega] at this
    exact this
/-- A pattern that has been written over and gone on from, 40 elements a list. -/
structure Gon (w : World) (N M : Nat) (q : Pq) (mark : Int) (lg u : Tv) (G : List Tv) : Prop where
  gl : G.length = q.T.length
  gn : lg.n = G.length
  tok : Cs w lg.ao (G.map tvv)
  gro : ∀ (j : Nat) (g t : Tv), G[j]? = some g → q.T[j]? = some t → g.n = t.n + 40 ∧ Cs w g.ao (rep g.n (cM mark j))
  row : ∀ (j : Nat) (t : Tv), q.T[j]? = some t → t.n ≤ 24 ∧ Cs w t.ao (rep t.n (cM mark j))
  un : u.n = q.tl.n + 40
  ul : Cs w u.ao (lnc q.ls q.ts ++ rep 40 (cN mark))
  tl : Cs w q.tl.ao (lnc q.ls q.ts)
  tn : q.tl.n = q.ls.length
  hl : q.ts.length = q.ls.length
  mrk : ∀ l ∈ q.ls, l.1 = mark
  bl : ∀ x, (x ∈ blkL lg.ao ∨ x ∈ blkL u.ao ∨ ∃ g ∈ G, x ∈ blkL g.ao) → x ∈ q.bl ∨ (N ≤ x ∧ x < M)
theorem Gon.fr {X : List Nat} {N M : Nat} {mark : Int} {lg u : Tv} {G : List Tv} (h : Gon w N M q mark lg u G) (k : Fr X w w') (hX : ∀ x ∈ X, x ∉ q.bl ∧ (x < N ∨ M ≤ x)) : Gon w' N M q mark lg u G := by
  have far : ∀ x, (x ∈ blkL lg.ao ∨ x ∈ blkL u.ao ∨ ∃ g ∈ G, x ∈ blkL g.ao) → x ∉ X := fun x hx hq => by
    have h1 := hX x hq
    rcases h.bl x hx with h2 | h2
    · exact h1.1 h2
    · rcases h1.2 with p | p <;> omega
  exact ⟨h.gl, h.gn, k.cs h.tok (fun x hx => far x (.inl hx)), fun j g t hg ht => ⟨(h.gro j g t hg ht).1, k.cs (h.gro j g t hg ht).2 (fun x hx => far x (.inr (.inr ⟨g, List.mem_of_getElem? hg, hx⟩)))⟩,
    fun j t ht => ⟨(h.row j t ht).1, k.cs (h.row j t ht).2 (fun x hx hq => (hX x hq).1 (Pq.bl_T h.hl ht hx))⟩, h.un, k.cs h.ul (fun x hx => far x (.inr (.inl hx))), k.cs h.tl (fun x hx hq => (hX x hq).1 (Pq.bl_L hx)), h.tn, h.hl, h.mrk, h.bl⟩
end
/-- One pattern of many, beside other rows. -/
theorem flat_at {qs : List Pq} {i : Nat} {q q' : Pq} (hi : qs[i]? = some q) : (∃ R, qs.flatMap Pq.rows = (qs.take i).flatMap Pq.rows ++ (q.rows ++ R) ∧ (qs.set i q').flatMap Pq.rows = (qs.take i).flatMap Pq.rows ++ (q'.rows ++ R)) := by
  obtain ⟨hlt, rfl⟩ := List.getElem?_eq_some_iff.1 hi
  refine ⟨(qs.drop (i + 1)).flatMap Pq.rows, ?_, ?_⟩
  · conv => lhs; rw [← List.take_append_drop i qs, List.drop_eq_getElem_cons hlt]
    rw [List.flatMap_append, List.flatMap_cons]
  · rw [List.set_eq_take_append_cons_drop, if_pos hlt, List.flatMap_append, List.flatMap_cons]
theorem perm_mid {α : Type} (e a b c : List α) : (e ++ (a ++ (b ++ c))).Perm (b ++ (e ++ (a ++ c))) := by
  have h1 : (a ++ (b ++ c)).Perm (b ++ (a ++ c)) := by
    rw [← List.append_assoc, ← List.append_assoc]
    exact List.perm_append_comm.append_right c
  refine (h1.append_left e).trans ?_
  rw [← List.append_assoc e b, ← List.append_assoc b e]
  exact List.perm_append_comm.append_right (a ++ c)
section
variable {w w' : World} {B : Nat} {q q' : Pq} {E : List Rw} {qs : List Pq} {i : Nat} {X : List Nat}
theorem SepV.one' (h : SepV w B (E ++ qs.flatMap Pq.rows)) (hi : qs[i]? = some q) : SepV w B q.rows :=
  (h.sub (List.sublist_append_right _ _)).one hi
theorem SepV.set' (h : SepV w B (E ++ qs.flatMap Pq.rows)) (hi : qs[i]? = some q) (f : Fr X w w') (hX : ∀ x ∈ X, x ∈ q.bl ∨ w.heap.size ≤ x) (h' : SepV w' B q'.rows) (ht : q'.rows.map (·.t) = q.rows.map (·.t)) : SepV w' B (E ++ (qs.set i q').flatMap Pq.rows) := by
  obtain ⟨R, e1, e2⟩ := flat_at (q' := q') hi
  rw [e1] at h
  rw [e2]
  exact ((h.perm (perm_mid _ _ _ _)).put f (fun x hx => (hX x hx).imp (fun q => Pq.mem_bl.1 q) id) h' ht).perm (perm_mid _ _ _ _).symm
/-- The first pattern is set apart, and may change. -/
theorem SepV.rest (h : SepV w B (E ++ (q :: qs).flatMap Pq.rows)) (f : Fr X w w') (hX : ∀ x ∈ X, x ∈ q.bl ∨ w.heap.size ≤ x) : SepV w' B (E ++ qs.flatMap Pq.rows) := by
  rw [List.flatMap_cons] at h
  have p := (h.perm (show (E ++ (q.rows ++ qs.flatMap Pq.rows)).Perm (q.rows ++ (E ++ qs.flatMap Pq.rows)) from by
    rw [← List.append_assoc, ← List.append_assoc]
    exact List.perm_append_comm.append_right _))
  obtain ⟨p1, p2, p3⟩ := List.pairwise_append.1 p.ap
  refine ⟨fun r hr => (p.own r (List.mem_append_right _ hr)).fr f (fun x hx hq => ?_), p2⟩
  rcases hX x hq with hy | hy
  · obtain ⟨s, hs, hz⟩ := Pq.mem_bl.1 hy
    exact p3 s hs r hr x hz hx
  · have := (p.lt (List.mem_append_right _ hr) hx).2; omega
end
/-- The first k are written over, each with a mark of its own. -/
def flT (m : Nat → Int) (k : Nat) (qs : List Pq) : List Pq := qs.mapIdx (fun j q => if j < k then q.fill (m j) else q)
theorem flT_length (m : Nat → Int) (k : Nat) (qs : List Pq) : (flT m k qs).length = qs.length := by simp [flT]
theorem flT_get (m : Nat → Int) (k : Nat) (qs : List Pq) (j : Nat) : (flT m k qs)[j]? = (qs[j]?).map (fun q => if j < k then q.fill (m j) else q) := by simp [flT]
theorem flT_set (m : Nat → Int) (k : Nat) (qs : List Pq) {q : Pq} (h : qs[k]? = some q) : (flT m k qs).set k (q.fill (m k)) = flT m (k + 1) qs := by
  apply List.ext_getElem?
  intro j
  rw [List.getElem?_set, flT_length, flT_get, flT_get]
  by_cases hj : k = j
  · subst hj
    have hk := (List.getElem?_eq_some_iff.1 h).1
    rw [if_pos rfl, if_pos hk, h]
    simp
  · rw [if_neg hj]
    cases qs[j]? with
    | none => rfl
    | some p =>
      simp only [Option.map_some, Option.some.injEq]
      by_cases h1 : j < k
      · rw [if_pos h1, if_pos (by omega)]
      · rw [if_neg h1, if_neg (by omega)]
theorem flT_zero (m : Nat → Int) (qs : List Pq) : flT m 0 qs = qs := by
  apply List.ext_getElem?
  intro j
  rw [flT_get]
  cases qs[j]? <;> simp
end Go.Proofs.YtkmejehhdjdlbaaGreatDoor

namespace Go.Proofs.YtkmejehhdjdlbaaGreatDoor
open Go.RowKit

theorem lnc_setf : ∀ {ls : List Ln} {ts : List Tv} (_ : ts.length = ls.length) (j : Nat) (v : Int), (lnc ls ts).set (j * 2) (iv v) = lnc (ls.modify j (fun l => (v, l.2))) ts
  | [], [], _, j, v => by cases j <;> simp [lnc, List.modify]
  | l :: r, t :: s, _, 0, v => rfl
  | l :: r, t :: s, h, j + 1, v => by
    simp only [List.length_cons] at h
    have := lnc_setf (ls := r) (ts := s) (by omega) j v
    rw [show (j + 1) * 2 = j * 2 + 1 + 1 by omega, List.modify_succ_cons]
    simp only [lnc, List.set_cons_succ, this]
/-- The first k messages bear the mark. -/
def Lif (w : World) (B : Nat) (tl : Tv) (ts : List Tv) (mark : Int) (k : Nat) : Prop := ∃ ms : List Ln, ts.length = ms.length ∧ OwV w B 73 2 tl (lnc ms ts) ∧ ∀ (j : Nat) (l : Ln), j < k → ms[j]? = some l → l.1 = mark
section
variable {w w' : World} {B k : Nat} {tl : Tv} {ts : List Tv} {mark : Int}
theorem Lif.fr {X : List Nat} (h : Lif w B tl ts mark k) (f : Fr X w w') (hX : ∀ x ∈ blkL tl.ao, x ∉ X) : Lif w' B tl ts mark k := by
  obtain ⟨ms, h1, h2, h3⟩ := h
  exact ⟨ms, h1, h2.fr f hX, h3⟩
theorem Lif.n (h : Lif w B tl ts mark k) : tl.n = ts.length := by
  obtain ⟨ms, h1, h2, _⟩ := h
  have := h2.len
  rw [lnc_length h1] at this
  omega
theorem Lif.step (h : Lif w B tl ts mark k) (hk : k < ts.length) : ∃ g off u, tl.ao = some ⟨g, off, none⟩ ∧ B ≤ g ∧ g < w.heap.size ∧ w.cell? ⟨g, off + k * 2, none⟩ = some (iv u) ∧ w.frozen? ⟨g, off + k * 2, none⟩ = false ∧ Lif (w.setCell ⟨g, off + k * 2, none⟩ (iv mark)) B tl ts mark (k + 1) := by
  have hn := h.n
  obtain ⟨ms, h1, h2, h3⟩ := h
  obtain ⟨g, off, ea, hat⟩ := h2.at (k * 2) (by omega)
  obtain ⟨c1, c2, c3⟩ := hat (k * 2) (by omega)
  have hg := h2.lt g (by rw [ea]; simp [blkL, blk])
  obtain ⟨g0, _⟩ := lnc_get h1 k (by omega)
  have c4 := c3 (iv mark)
  rw [lnc_setf h1] at c4
  refine ⟨g, off, (ms[k]'(by omega)).1, ea, hg.1, hg.2, by rw [c1]; exact g0, c2, ms.modify k (fun l => (mark, l.2)), by rw [List.length_modify]; exact h1, c4, fun j l hj hl => ?_⟩
  rw [List.getElem?_modify] at hl
  cases hm : ms[j]? with
  | none => rw [hm] at hl; cases hl
  | some l' =>
    rw [hm] at hl
    have hl' : (if k = j then (mark, l'.2) else l') = l := Option.some.inj hl
    by_cases q : k = j
    · rw [if_pos q] at hl'; subst hl'; rfl
    · rw [if_neg q] at hl'; subst hl'; exact h3 j _ (by omega) hm
end
/-- It bears a mark, list by list. -/
structure Pq.Fd (q : Pq) (mark : Int) : Prop where
  b0 : ∀ x ∈ q.b0, x = mark + ((0 : Nat) : Int)
  b1 : ∀ x ∈ q.b1, x = mark + ((1 : Nat) : Int)
  ls : ∀ (j : Nat) (l : Ln), q.ls[j]? = some l → l.1 = mark ∧ ∀ x ∈ l.2, x = mark + ((j + 2 : Nat) : Int)
theorem Pq.fill_fd (q : Pq) (mark : Int) : (q.fill mark).Fd mark := by
  refine ⟨fun x hx => List.eq_of_mem_replicate hx, fun x hx => List.eq_of_mem_replicate hx, fun j l hl => ?_⟩
  have hj : j < q.ls.length := by
    have := (List.getElem?_eq_some_iff.1 hl).1
    unfold Pq.fill at this
    simpa [fillL_length] using this
  have h1 := fillL_get mark 2 q.ls j _ (List.getElem?_eq_getElem hj)
  have h2 : (fillL mark 2 q.ls)[j]? = some l := hl
  rw [h1] at h2
  obtain rfl := Option.some.inj h2
  exact ⟨rfl, fun x hx => by rw [List.eq_of_mem_replicate hx, show 2 + j = j + 2 by omega]⟩
theorem map_rep {l : List Int} {v : Int} (h : ∀ x ∈ l, x = v) : l.map iv = rep l.length [iv v] := by
  rw [rep_iv, List.eq_replicate_of_mem h]
  simp
section
variable {w w' : World} {B K : Nat} {q : Pq} {mark : Int}
theorem Pq.at_F (h : SepV w B q.rows) (hq : q.Ok K) (hf : q.Fd mark) {j : Nat} {t : Tv} (ht : q.T[j]? = some t) : OwV w B 3 1 t (rep t.n (cM mark j)) ∧ t.n ≤ K := by
  have fin : ∀ (l : List Int), OwV w B 3 1 t (l.map iv) → (∀ x ∈ l, x = mark + ((j : Nat) : Int)) → l.length ≤ K → OwV w B 3 1 t (rep t.n (cM mark j)) ∧ t.n ≤ K := fun l h1 h2 h3 => by
    have hn := h1.len
    rw [List.length_map] at hn
    refine ⟨?_, by omega⟩
    unfold cM
    rw [show t.n = l.length by omega, ← map_rep h2]
    exact h1
  rcases j with _ | _ | j
  · simp only [Pq.T, List.getElem?_cons_zero, Option.some.injEq] at ht
    subst ht
    exact fin q.b0 (h.own ⟨3, 1, q.t0, q.b0.map iv⟩ (by simp [Pq.rows, rowsP])) hf.b0 hq.l0
  · simp only [Pq.T, List.getElem?_cons_succ, List.getElem?_cons_zero, Option.some.injEq] at ht
    subst ht
    exact fin q.b1 (h.own ⟨3, 1, q.t1, q.b1.map iv⟩ (by simp [Pq.rows, rowsP])) hf.b1 hq.l1
  · simp only [Pq.T, List.getElem?_cons_succ] at ht
    have hj := (List.getElem?_eq_some_iff.1 ht).1
    have hj' : j < q.ls.length := by rw [← hq.hl]; exact hj
    have hr := rowsT_get hq.hl j hj'
    rw [List.getElem?_eq_getElem hj] at ht
    obtain rfl := Option.some.inj ht
    refine fin q.ls[j].2 (h.own (rowT (q.ts[j]) q.ls[j]) ?_) (hf.ls j _ (List.getElem?_eq_getElem hj')).2 (hq.lt _ (List.getElem_mem hj'))
    simp only [Pq.rows, rowsP, List.mem_cons]
    exact .inr (.inr (.inr (List.mem_of_getElem? hr)))
theorem Pq.n_L (h : SepV w B q.rows) (hl : q.ts.length = q.ls.length) : q.tl.n = q.ls.length := by
  have := (Pq.line h).len
  rw [lnc_length hl] at this
  omega
/-- A row gone on from while blocks of Y are written too. -/
structure Chm (W w : World) (B : Nat) (e : TypeId) (sz : Nat) (t : Tv) (xs cs : List Value) (k : Nat) (u : Tv) (Y : List Nat) : Prop where
  new : OwV w B e sz u (xs ++ rep k cs)
  un : u.n = t.n + k
  old : Cs w t.ao xs
  lt : ∀ x ∈ blkL t.ao, x < W.heap.size
  fr : Fr (blkL t.ao ++ Y) W w
  pl : u.ao = t.ao ∨ ∀ x ∈ blkL u.ao, W.heap.size ≤ x
  hy : ∀ y ∈ Y, y < W.heap.size ∧ y ∉ blkL t.ao
section
variable {W : World} {e : TypeId} {sz k : Nat} {t u : Tv} {xs cs : List Value} {Y : List Nat}
theorem Chm.start (h : OwV W B e sz t xs) (hy : ∀ y ∈ Y, y < W.heap.size ∧ y ∉ blkL t.ao) : Chm W W B e sz t xs cs 0 t Y :=
  ⟨by rw [rep_zero, List.append_nil]; exact h, rfl, h.cs, fun x hx => (h.lt x hx).2, Fr.refl _ _, .inl rfl, hy⟩
theorem Chm.kp (h : Chm W w B e sz t xs cs k u Y) (q : Kp w w') : Chm W w' B e sz t xs cs k u Y :=
  ⟨h.new.kp q, h.un, q.cs h.old, h.lt, h.fr.trans ((Fr.of_kp q).mono (by simp)), h.pl, h.hy⟩
theorem Chm.sto {X : List Nat} (h : Chm W w B e sz t xs cs k u Y) (f : Fr X w w') (hX : ∀ x ∈ X, x ∈ Y) : Chm W w' B e sz t xs cs k u Y := by
  refine ⟨h.new.fr f (fun x hx hq => ?_), h.un, f.cs h.old (fun x hx hq => (h.hy x (hX x hq)).2 hx), h.lt, h.fr.trans (f.mono (fun x hx => List.mem_append_right _ (hX x hx))), h.pl, h.hy⟩
  have h1 := h.hy x (hX x hq)
  rcases h.pl with p | p
  · rw [p] at hx; exact h1.2 hx
  · have := p x hx; omega
theorem Chm.app {ao' : Option Addr} {cap' N : Nat} {zs : List Value} (h : Chm W w B e sz t xs cs k u Y) (hN : N = t.n + (k + 1)) (hz : zs = xs ++ rep (k + 1) cs) (ha : Apv w w' B e sz u N zs ao' cap') : Chm W w' B e sz t xs cs (k + 1) ⟨ao', N, cap'⟩ Y := by
  subst hN
  have hsz := h.fr.size
  refine ⟨by rw [← hz]; exact ha.own, rfl, ?_, h.lt, h.fr.step ha.fr (fun j hj => ?_), ?_, h.hy⟩
  · rcases h.pl with q | q
    · rcases ha.move with m | ⟨m, _⟩
      · have := ha.own.cs
        rw [hz] at this
        have := Cs.pre' this
        rw [show (⟨ao', t.n + (k + 1), cap'⟩ : Tv).ao = ao' from rfl, m, q] at this
        exact this
      · exact (Kp.grow m).cs h.old
    · exact ha.fr.cs h.old (fun x hx hq => by have := h.lt x hx; have := q x hq; omega)
  · rcases h.pl with q | q
    · exact .inl (List.mem_append_left _ (q ▸ hj))
    · exact .inr (q j hj)
  · rcases ha.move with m | ⟨_, m⟩
    · rcases h.pl with q | q
      · exact .inl (m.trans q)
      · exact .inr (fun x hx => q x (by rw [← m]; exact hx))
    · exact .inr (fun x hx => by
        have h1 : blk ao' = some x := mem_blkL.1 hx
        rw [m] at h1
        have := Option.some.inj h1
        omega)
end
/-- Blocks that are of no row, nor new, have changed. -/
theorem Lng.far {N0 : Nat} {e : TypeId} {sz : Nat} {et : TypeId} {K : Nat} {T : List Tv} {X' c : Nat → List Value} {i : Nat} {lg : Tv} {G : List Tv} {X : List Nat} (L : Lng w B N0 e sz et K T X' c i lg G) (f : Fr X w w') (hX : ∀ x ∈ X, x < N0 ∧ ∀ (j : Nat) (t : Tv), T[j]? = some t → x ∉ blkL t.ao) : Lng w' B N0 e sz et K T X' c i lg G := by
  have hlg : ∀ x ∈ blkL lg.ao, x ∉ X := fun x hx hq => by have := (L.lgo.lt x (mem_blkL.1 hx)).1; have := (hX x hq).1; omega
  refine ⟨L.gl, fun j t hj ht => (L.own j t hj ht).fr f (fun x hx hq => (hX x hq).2 j t ht hx), fun j t ht => f.cs (L.row j t ht) (fun x hx hq => (hX x hq).2 j t ht hx), f.own L.lgo hlg, fun j g t hg ht => ?_, L.dj, L.lo, Nat.le_trans L.sz0 f.size⟩
  obtain ⟨h1, h2, h3⟩ := L.gro j g t hg ht
  refine ⟨h1, f.cs h2 (fun x hx hq => ?_), fun x hx => ⟨Nat.lt_of_lt_of_le (h3 x hx).1 f.size, (h3 x hx).2⟩⟩
  rcases (h3 x hx).2.1 with p | p
  · exact (hX x hq).2 j t ht p
  · have := (hX x hq).1; omega
/-- All its lists and its messages gone on from. -/
theorem Gon.of {w wa wb : World} {B N0 : Nat} {lg u : Tv} {G : List Tv} {Y : List Nat} (hS : SepV w B q.rows) (hq : q.Ok 24) (hf : q.Fd mark)
    (L : Lng wa B N0 3 1 22 40 q.T (fun j => rep (q.T.getD j nilT).n (cM mark j)) (cM mark) q.T.length lg G) (hN : w.heap.size ≤ N0) (C : Chm wa wb B 73 2 q.tl (lnc q.ls q.ts) (cN mark) 40 u Y) (hY : ∀ y ∈ Y, y < N0 ∧ y ∉ q.bl) : Gon wb N0 wb.heap.size q mark lg u G := by
  have hd : ∀ (j : Nat) (t : Tv), q.T[j]? = some t → q.T.getD j nilT = t := fun j t ht => by rw [List.getD_eq_getElem?_getD, ht]; rfl
  have htl : ∀ x ∈ blkL q.tl.ao, x < w.heap.size := fun x hx => ((Pq.line hS).lt x hx).2
  have hlg : ∀ x ∈ blkL lg.ao, N0 ≤ x ∧ x < wa.heap.size := fun x hx => L.lgo.lt x (mem_blkL.1 hx)
  have hG : ∀ (j : Nat) (g : Tv), G[j]? = some g → ∃ t, q.T[j]? = some t := fun j g hg => ⟨_, List.getElem?_eq_getElem (by rw [← L.gl]; exact (List.getElem?_eq_some_iff.1 hg).1)⟩
  have farT : ∀ (j : Nat) (t : Tv), q.T[j]? = some t → ∀ x ∈ blkL t.ao, x ∉ blkL q.tl.ao ++ Y := fun j t ht x hx hy => by
    rcases List.mem_append.1 hy with y | y
    · exact Pq.dj_L hS hq j x t ht hx y
    · exact (hY x y).2 (Pq.bl_T hq.hl ht hx)
  have far : ∀ (j : Nat) (g : Tv), G[j]? = some g → ∀ x ∈ blkL g.ao, x ∉ blkL q.tl.ao ++ Y := fun j g hg x hx hy => by
    obtain ⟨t, ht⟩ := hG j g hg
    rcases ((L.gro j g t hg ht).2.2 x hx).2.1 with p | p
    · exact farT j t ht x p hy
    · rcases List.mem_append.1 hy with y | y
      · have := htl x y; omega
      · have := (hY x y).1; omega
  refine ⟨L.gl, by rw [L.n, L.gl], C.fr.cs L.lgo.cs (fun x hx hy => ?_), fun j g t hg ht => ?_, fun j t ht => ⟨(Pq.at_F hS hq hf ht).2, ?_⟩, C.un, C.new.cs, C.old, Pq.n_L hS hq.hl, hq.hl, fun l hl => ?_, fun x hx => ?_⟩
  · have h1 := hlg x hx
    rcases List.mem_append.1 hy with y | y
    · have := htl x y; omega
    · have := (hY x y).1; omega
  · obtain ⟨h1, h2, _⟩ := L.gro j g t hg ht
    rw [hd j t ht, ← rep_add, ← h1] at h2
    exact ⟨h1, C.fr.cs h2 (far j g hg)⟩
  · have h1 := L.row j t ht
    rw [hd j t ht] at h1
    exact C.fr.cs h1 (farT j t ht)
  · obtain ⟨j, hj, rfl⟩ := List.getElem_of_mem hl
    exact (hf.ls j _ (List.getElem?_eq_getElem hj)).1
  · have hsz := C.fr.size
    have hsa := L.sz0
    rcases hx with hx | hx | ⟨g, hg, hx⟩
    · have := hlg x hx
      exact .inr (by omega)
    · have hlt := (C.new.lt x hx).2
      rcases C.pl with p | p
      · rw [p] at hx; exact .inl (Pq.bl_L hx)
      · have := p x hx; exact .inr (by omega)
    · obtain ⟨j, hj, rfl⟩ := List.getElem_of_mem hg
      obtain ⟨t, ht⟩ := hG j _ (List.getElem?_eq_getElem hj)
      have := (L.gro j _ t (List.getElem?_eq_getElem hj) ht).2.2 x hx
      rcases this.2.1 with p | p
      · exact .inl (Pq.bl_T hq.hl ht p)
      · exact .inr (by omega)
/-- What the lists of a pattern are, ahead of the writing over. -/
theorem Pq.fil_in (h : SepV w B q.rows) (hq : q.Ok K) (mark : Int) : Fil w B 3 1 q.T (cM mark) 0 0 ∧ Lif w B q.tl q.ts mark 0 :=
  ⟨Fil.start (fun j t ht => by obtain ⟨r, _, _, _, _, ho, _⟩ := Pq.at_T h hq ht; exact ⟨_, ho⟩) (Pq.dj_T h hq), q.ls, hq.hl, Pq.line h, fun j l hj => absurd hj (by omega)⟩
theorem Pq.fil_out {w0 : World} (h : SepV w0 B q.rows) (hq : q.Ok K) (hF : Fil w B 3 1 q.T (cM mark) q.T.length 0) (hL : Lif w B q.tl q.ts mark q.ts.length) : SepV w B (q.fill mark).rows := by
  obtain ⟨ms, h1, h2, h3⟩ := hL
  have ln : ∀ {t : Tv} {l : List Int}, OwV w0 B 3 1 t (l.map iv) → t.n = l.length := fun h => by have := h.len; rw [List.length_map] at this; omega
  refine Pq.fill_sep hq mark h.ap (hF.done (Nat.le_refl _)) (ln (h.own ⟨3, 1, q.t0, q.b0.map iv⟩ (by simp [Pq.rows, rowsP]))) (ln (h.own ⟨3, 1, q.t1, q.b1.map iv⟩ (by simp [Pq.rows, rowsP]))) (fun j t l ht hl => ?_) h2 (by rw [← h1, hq.hl]) (fun l hl => ?_)
  · have hj := (List.getElem?_eq_some_iff.1 hl).1
    have hr := rowsT_get hq.hl j hj
    have h4 := h.own (rowT (q.ts[j]'(by rw [hq.hl]; exact hj)) q.ls[j]) (by
      simp only [Pq.rows, rowsP, List.mem_cons]
      exact .inr (.inr (.inr (List.mem_of_getElem? hr))))
    rw [List.getElem?_eq_getElem (by rw [hq.hl]; exact hj)] at ht
    rw [List.getElem?_eq_getElem hj] at hl
    obtain rfl := Option.some.inj ht
    obtain rfl := Option.some.inj hl
    exact ln h4
  · obtain ⟨j, hj, rfl⟩ := List.getElem_of_mem hl
    exact h3 j _ (by omega) (List.getElem?_eq_getElem hj)
end
end Go.Proofs.YtkmejehhdjdlbaaGreatDoor

namespace Go.Proofs.YtkmejehhdjdlbaaGreatDoor
open Go.RowKit

abbrev Ct := ByteArray × List Int × List Int × List Ln
def ct0 : Ct := (⟨#[]⟩, [], [], [])
/-- A pattern of the call's own that says this. -/
def OwC (w : World) (B : Nat) (t0 t1 tl : Tv) (c : Ct) : Prop := ∃ ts : List Tv, SepV w B (Pq.rows ⟨c.1, t0, t1, tl, ts, c.2.1, c.2.2.1, c.2.2.2⟩) ∧ Pq.Ok ⟨c.1, t0, t1, tl, ts, c.2.1, c.2.2.1, c.2.2.2⟩ 24
theorem OwC.zero (w : World) (B : Nat) : OwC w B nilT nilT nilT ct0 := by
  refine ⟨[], ⟨fun r hr => ?_, ?_⟩, ⟨rfl, by simp [ct0], by simp [ct0], by simp [ct0], by simp [ct0]⟩⟩
  · simp only [Pq.rows, rowsP, rowsT, ct0, List.mem_cons, List.not_mem_nil, or_false] at hr
    rcases hr with rfl | rfl | rfl <;> exact .inl (Own.nil _ _ _ _)
  · have hn : ∀ x, x ∈ blkL nilT.ao → False := fun x hx => by simp [nilT, blkL, blk] at hx
    unfold Pq.rows rowsP rowsT ct0
    exact List.pairwise_cons.2 ⟨fun r _ x hx => (hn x hx).elim, List.pairwise_cons.2 ⟨fun r _ x hx => (hn x hx).elim, List.pairwise_cons.2 ⟨fun r _ x hx => (hn x hx).elim, List.Pairwise.nil⟩⟩⟩
theorem OwC.of {w : World} {B : Nat} {t0 t1 tl : Tv} {ts : List Tv} {nm : ByteArray} {b0 b1 : List Int} {ls : List Ln} (h : SepV w B (rowsP t0 t1 tl ts b0 b1 ls)) (hl : ts.length = ls.length) (hc : checkL b0 b1 ls = 0) : OwC w B t0 t1 tl (nm, b0, b1, ls) := by
  obtain ⟨k1, k2, _, k4, k5⟩ := code0 hc
  have o1 := okB_len k1
  have o2 := okB_len k2
  exact ⟨ts, h, hl, by simp only; omega, by simp only; omega, k4, fun l hl => (k5 l hl).2.2.1⟩
theorem ap_bl {rs rs' : List Rw} (h : rs.Pairwise apartR) (ht : rs'.map Rw.bl = rs.map Rw.bl) : rs'.Pairwise apartR := by
  induction rs generalizing rs' with
  | nil =>
    cases rs' with
    | nil => exact List.Pairwise.nil
    | cons a l => simp at ht
  | cons r rs ih =>
    cases rs' with
    | nil => simp at ht
    | cons a l =>
      simp only [List.map_cons, List.cons.injEq] at ht
      obtain ⟨h1, h2⟩ := List.pairwise_cons.1 h
      refine List.pairwise_cons.2 ⟨fun b hb x hx hy => ?_, ih h2 ht.2⟩
      have : b.bl ∈ rs.map Rw.bl := by rw [← ht.2]; exact List.mem_map.2 ⟨b, hb, rfl⟩
      obtain ⟨s, hs, e⟩ := List.mem_map.1 this
      exact h1 s hs x (by rw [← ht.1]; exact hx) (by rw [e]; exact hy)
/-- A pattern some message of which is dropped, looked at without it. -/
theorem drS_view {w : World} {B : Nat} {t0 t1 tf : Tv} {td ts : List Tv} {D ls : List Ln} {b0 b1 : List Int} (h : DrS w B t0 t1 tf td ts D ls b0 b1) (hp : 0 < ls.length) : SepV w B (rowsP t0 t1 (subT tf D.length) ts b0 b1 ls) := by
  obtain ⟨g, eg, es, hle, _⟩ := h.at hp
  have hnf := h.nf
  have hO := h.own
  have hbl : blkL (subT tf D.length).ao = blkL tf.ao := by rw [es, eg]; rfl
  have hsub : (⟨3, 1, t0, b0.map iv⟩ :: ⟨3, 1, t1, b1.map iv⟩ :: ⟨73, 2, tf, lnc (D ++ ls) (td ++ ts)⟩ :: rowsT ts ls : List Rw).Sublist (rowsP t0 t1 tf (td ++ ts) b0 b1 (D ++ ls)) := by
    unfold rowsP
    rw [rowsT_append _ _ _ _ h.hd]
    exact (((List.sublist_append_right _ _).cons_cons _).cons_cons _).cons_cons _
  have hS := h.sep.sub hsub
  refine ⟨fun r hr => ?_, ap_bl hS.ap ?_⟩
  · unfold rowsP at hr
    rcases List.mem_cons.1 hr with rfl | hr
    · exact .inl (hS.own ⟨3, 1, t0, b0.map iv⟩ (by simp))
    rcases List.mem_cons.1 hr with rfl | hr
    · exact .inl (hS.own ⟨3, 1, t1, b1.map iv⟩ (by simp))
    rcases List.mem_cons.1 hr with rfl | hr
    · refine .inr ⟨g, D.length, lnc D td, by simp only; rw [es], lnc_length h.hd, ?_, ?_⟩
      · simp only; rw [es, lnc_length h.hl]
      · simp only
        rw [es]
        simp only
        rw [lnc_app _ _ _ _ h.hd, eg, hnf] at hO
        have hcap := hO.cap
        rw [show D.length + (tf.c - D.length) = tf.c by omega]
        exact hO
    · exact .inl (hS.own r (by simp [hr]))
  · unfold rowsP
    simp only [List.map_cons]
    congr 3
/-- What Parse answers. -/
def ctP (s : Q.Bt) : Ct := if 4096 < s.length then ct0 else match Q.readP s with
  | none => ct0
  | some (nm, S) => if checkL S.b0 S.b1 S.ls = 0 then (bs nm, S.b0, S.b1, S.ls) else ct0
def ctF (s : Q.Bt) : Ct := match rowOf s with
  | none => ct0
  | some y => (bs y.1, y.2.1.1, y.2.1.2, y.2.2.1)
def ctM (p : Q.Pn) (ws : List Q.Bt) : Ct := match Q.modP srtI p ws with
  | (some q, _) => (bs q.nm, q.b0, q.b1, q.ls)
  | (none, _) => ct0
attribute [local irreducible] tblK tblP tblQ Q.piecesB Q.tableB Q.tableL rowOf
theorem row_ok {x : Q.Bt} {y : Row} (h : rowOf x = some y) : checkL y.2.1.1 y.2.1.2 y.2.2.1 = 0 := by
  have ht : (Q.tableL.all fun y => decide (checkL y.2.1.1 y.2.1.2 y.2.2.1 = 0)) = true := by kernel_rfl
  have := List.all_eq_true.1 ht y (by unfold rowOf at h; exact List.mem_of_find?_eq_some h)
  simpa using this
theorem parse_ow (w : World) (E : Nat → Addr) (m : Int) (hE : Env w E m) (s : ByteArray) : Calls Tryz.prog 29 #[.string s] w fun e w' => Kp w w' ∧ ∃ (t0 t1 tl : Tv) (v : Value),
    e = .returned (.tuple #[.agg #[.string (ctP s.data.toList).1, tvv t0, tvv t1, tvv tl], v]) ∧ OwC w' w.heap.size t0 t1 tl (ctP s.data.toList) := by
  refine (parse_any s m E (E 8) w hE.mx hE.errs hE.c5).mono ?_
  rintro e w' ⟨hk, h⟩
  refine ⟨hk, ?_⟩
  unfold ctP
  by_cases hl : 4096 < s.data.toList.length
  · rw [if_pos hl] at h ⊢
    exact ⟨nilT, nilT, nilT, _, h, OwC.zero _ _⟩
  · rw [if_neg hl] at h ⊢
    cases hr : Q.readP s.data.toList with
    | none =>
      rw [hr] at h
      exact ⟨nilT, nilT, nilT, _, h, OwC.zero _ _⟩
    | some x =>
      obtain ⟨nm, S⟩ := x
      rw [hr] at h
      simp only at h ⊢
      by_cases hc : checkL S.b0 S.b1 S.ls = 0
      · rw [if_pos hc] at h ⊢
        obtain ⟨t0, t1, tl, ts, he, hP⟩ := h
        exact ⟨t0, t1, tl, _, he, OwC.of hP.sep.view hP.len hc⟩
      · rw [if_neg hc] at h ⊢
        exact ⟨nilT, nilT, nilT, _, h, OwC.zero _ _⟩
theorem find_ow (w : World) (E : Nat → Addr) (m : Int) (hE : Env w E m) (s : ByteArray) (hs : s.size ≤ maxLen) : Calls Tryz.prog 32 #[.string s] w fun e w' => Kp w w' ∧ ∃ (t0 t1 tl : Tv) (v : Value),
    e = .returned (.tuple #[.agg #[.string (ctF s.data.toList).1, tvv t0, tvv t1, tvv tl], v]) ∧ OwC w' w.heap.size t0 t1 tl (ctF s.data.toList) := by
  refine (find_any s m E (E 8) w hs hE.mx hE.errs hE.c5).mono ?_
  rintro e w' ⟨hk, h⟩
  refine ⟨hk, ?_⟩
  unfold ctF
  cases hq : rowOf s.data.toList with
  | none =>
    rw [hq] at h
    exact ⟨nilT, nilT, nilT, _, h, OwC.zero _ _⟩
  | some y =>
    rw [hq] at h
    obtain ⟨t0, t1, tl, ts, he, hP⟩ := h
    exact ⟨t0, t1, tl, _, he, OwC.of hP.sep.view hP.len (row_ok hq)⟩
theorem mod_ow (w : World) (E : Nat → Addr) (m : Int) (hE : Env w E m) (nm : ByteArray) (a0 a1 al : Option Addr) (n0 c0 n1 c1 nl cl : Nat) (b0 b1 : List Int) (ls : List Ln) (hP : PatI w a0 a1 al n0 n1 nl b0 b1 ls) (hs : ShortM nm n0 n1 nl ls)
    (ao : Option Addr) (nw cw : Nat) (ss : List ByteArray) (hW : Strs w ao nw ss) (hz : ∀ s ∈ ss, s.size ≤ 281474976710656) (hn : nw ≤ 200) :
    Calls Tryz.prog 19 #[patV nm a0 a1 al n0 c0 n1 c1 nl cl, .slice ao nw cw] w fun e w' => Kp w w' ∧ ∃ (t0 t1 tl : Tv) (v : Value),
      e = .returned (.tuple #[.agg #[.string (ctM ⟨nm.data.toList, b0, b1, ls⟩ (wb ss)).1, tvv t0, tvv t1, tvv tl], v]) ∧ OwC w' w.heap.size t0 t1 tl (ctM ⟨nm.data.toList, b0, b1, ls⟩ (wb ss)) := by
  refine (modify_wide w E m hE nm a0 a1 al n0 c0 n1 c1 nl cl b0 b1 ls hP hs ao nw cw ss hW hz hn).mono ?_
  rintro e w' ⟨hk, h⟩
  refine ⟨hk, ?_⟩
  have hok : ∀ q c, Q.modP srtI ⟨nm.data.toList, b0, b1, ls⟩ (wb ss) = (some q, c) → q.code = 0 := fun q c hq => by
    unfold Q.modP at hq
    split at hq
    · cases hq
    · cases hg : Q.goM srtI 0 0 ⟨nm.data.toList, b0, b1, ls⟩ (wb ss) with
      | none => rw [hg] at hq; cases hq
      | some q' =>
        rw [hg] at hq
        simp only at hq
        split at hq
        · next h0 => cases hq; exact h0
        · cases hq
  unfold ctM
  generalize Q.modP srtI ⟨nm.data.toList, b0, b1, ls⟩ (wb ss) = x at h hok
  obtain ⟨q, c⟩ := x
  cases q with
  | none => exact ⟨nilT, nilT, nilT, _, h, OwC.zero _ _⟩
  | some q =>
    obtain ⟨t0, t1, tf, td, ts, D, he, hd, h1, hl, hS⟩ := h
    have hc := hok q c rfl
    have k3 := (code0 hc).2.2.1
    exact ⟨t0, t1, subT tf D.length, _, he, OwC.of (drS_view ⟨hd, h1, hl, hS⟩ (List.length_pos_iff.2 k3)) hl hc⟩
end Go.Proofs.YtkmejehhdjdlbaaGreatDoor

namespace Go.Proofs.YtkmejehhdjdlbaaGreatDoor
open Go.RowKit

theorem el66 : El Tryz.prog 66 22 (.slice none 0 0) 1 24 := ⟨Tryz.underlying66, by kernel_rfl, rfl, by decide, by decide⟩
theorem Own.fresh (w : World) (e : TypeId) (sz n : Nat) (cs : List Value) (hl : cs.length = n * sz) (hn : n ≤ maxLen) : Own (w.alloc (.cells cs.toArray e)) w.heap.size e sz (some ⟨w.heap.size, 0, none⟩) n n cs :=
  ⟨hl, .inr ⟨w.heap.size, n, cs.toArray, rfl, Nat.le_refl _, heap_alloc_new w _, Nat.le_refl _, hn, by simp [hl], by simp [← hl]⟩⟩
set_option maxRecDepth 100000 in
set_option maxHeartbeats 8000000 in
theorem lists_any (w : World) (q : Pq) (hl : q.ts.length = q.ls.length) (hn : q.ls.length ≤ 24) (htn : q.tl.n = q.ls.length) (hL : Cs w q.tl.ao (lnc q.ls q.ts)) :
    Calls Tryz.prog 86 #[q.val] w fun e w' => Kp w w' ∧ ∃ (ao : Option Addr) (c : Nat), e = .returned (.slice ao (q.tl.n + 2) c) ∧ Own w' w.heap.size 22 1 ao (q.tl.n + 2) c (q.T.map tvv) := by
  obtain ⟨nm, ⟨a0, n0, c0⟩, ⟨a1, n1, c1⟩, ⟨al, nl, cl⟩, ts, b0, b1, ls⟩ := q
  unfold Pq.val Pq.T
  simp only at hl hn htn hL ⊢
  have hk1 := Kp.new w (.cells #[.string nm, .slice a0 n0 c0, .slice a1 n1 c1, .slice al nl cl] 26)
  have hF1 := Four.new w (.string nm) (.slice a0 n0 c0) (.slice a1 n1 c1) (.slice al nl cl) 26
  have Hl := Lib.hid hl
  have Htn := Lib.hid htn
  have hnl : nl ≤ 24 := by omega
  have hts : ts.length = nl := by omega
  have Hts := Lib.hid hts
  clear hl htn hn hts
  go_enter Tryz.func86, Tryz.ntmps86
  go_upto_region 1 with fail
  obtain ⟨bx, hbx⟩ : ∃ bx, bx = w.heap.size := ⟨_, rfl⟩
  rw [← hbx] at hF1 ⊢
  generalize w.alloc (.cells #[.string nm, .slice a0 n0 c0, .slice a1 n1 c1, .slice al nl cl] 26) = w1 at *
  have hbl := hF1.lt
  have Hbx := Lib.hid hbx
  have HL := Lib.hid (hk1.cs hL)
  have HK1 := Lib.hid hk1
  have HF1 := Lib.hid hF1
  clear hbx hL hk1
  obtain ⟨x0, x1, x2, x3, _, _, _, _⟩ := hF1
  have hk2 := Kp.new w1 (.cells #[.slice a0 n0 c0, .slice a1 n1 c1] 22)
  have HO := Lib.hid (Own.fresh w1 22 1 2 [.slice a0 n0 c0, .slice a1 n1 c1] rfl (by decide))
  have HK2 := Lib.hid hk2
  have hsz := hk2.size
  clear hk2
  go_wp2_with fail
  go_loopw [3, 4] (fun lv i wr => ∃ (k : Nat) (ao : Option Addr) (c : Nat), k ≤ nl ∧ i = .int .i64 (k : Nat) ∧ lv = .slice ao (k + 2) c ∧ Own wr w1.heap.size 22 1 ao (k + 2) c ([.slice a0 n0 c0, .slice a1 n1 c1] ++ (ts.take k).map tvv) ∧ Kp w1 wr) (fun _ i _ => nl - (intOf i).toNat)
  case atStart => exact ⟨0, _, _, by omega, rfl, rfl, by rw [List.take_zero, List.map_nil, List.append_nil]; exact HO.out, HK2.out⟩
  case round =>
    obtain ⟨k, ao, c, hk, rfl, rfl, ho, hkr⟩ := hrel
    rename World => wr
    clear x0 x1 x2 x3
    have HOr := Lib.hid ho
    have HKr := Lib.hid hkr
    obtain ⟨x0, x1, x2, x3, _, _, _, _⟩ := HF1.out.kp hkr
    by_cases hlt : k < nl
    · have hji : ((k : Nat) : Int) < (nl : Nat) := by omega
      obtain ⟨t, ht⟩ : ∃ t, ts[k]? = some t := ⟨_, List.getElem?_eq_getElem (by rw [Hts.out]; exact hlt)⟩
      have hkl : k < ls.length := by rw [← Hl.out, Hts.out]; exact hlt
      obtain ⟨g0, g1⟩ := lnc_get Hl.out k hkl
      obtain ⟨b, off, rfl, hc⟩ := (hkr.cs HL.out).at (k * 2 + 1) (by rw [lnc_length Hl.out]; omega)
      have hc1 := hc _ _ g1
      rw [← Nat.add_assoc] at hc1
      have e1 : ts[k]'(by rw [Hts.out]; exact hlt) = t := by
        rw [List.getElem?_eq_getElem (by rw [Hts.out]; exact hlt)] at ht
        exact Option.some.inj ht
      rw [e1] at hc1
      unfold tvv at hc1
      have htk : ts.take (k + 1) = ts.take k ++ [t] := by
        obtain ⟨h, rfl⟩ := List.getElem?_eq_some_iff.1 ht
        exact take_step _ _ h
      have hkn := Kp.new wr (.cells #[.slice t.ao t.n t.c] 22)
      have hcs : Cs (wr.alloc (.cells #[.slice t.ao t.n t.c] 22)) (some ⟨wr.heap.size, 0, none⟩) [.slice t.ao t.n t.c] := Cs.new wr [.slice t.ao t.n t.c] 22 (0, 0)
      have hown := ho.keep hkn
      have hbs : w1.heap.size ≤ (wr.alloc (.cells #[.slice t.ao t.n t.c] 22)).heap.size := (Kp.trans hkr hkn).size
      have hzs : [.slice a0 n0 c0, .slice a1 n1 c1] ++ (ts.take (k + 1)).map tvv = ([.slice a0 n0 c0, .slice a1 n1 c1] ++ (ts.take k).map tvv) ++ [.slice t.ao t.n t.c] := by rw [htk, List.map_append, List.append_assoc]; rfl
      clear hc g0 g1 ht htk e1 ho hkr hkl
      go_upto_region 4 with (at_builtin; go_loud (refine wpList_app rfl (.tmp 19) (.tmp 26) 66 rfl el66 w1.heap.size rfl hown rfl [.slice t.ao t.n t.c] rfl hcs (by simp [Value.oneCell']) (k + 2 + 1) rfl ([.slice a0 n0 c0, .slice a1 n1 c1] ++ (ts.take (k + 1)).map tvv) hzs (by omega) hbs ?_); intro ao3 cap3 w3 ha)
      have Hfin := Lib.hid (And.intro ha.own ((((Fr.of_kp (Kp.trans HKr.out hkn)).step ha.fr (fun x hx => .inr (HOr.out.lt x (mem_blkL.1 hx)).1)).kp)))
      clear hkn hcs hown hbs hzs ha x0 x1 x2 x3 hc1
      go_wp2_with fail
      go_roundw
      case rel => exact ⟨k + 1, ao3, cap3, by omega, by go_num, rfl, Hfin.out.1, Hfin.out.2⟩
      case measure => simp [intOf]; omega
    · have hke : k = nl := by omega
      have hji : ¬ ((k : Nat) : Int) < (nl : Nat) := by omega
      have Hfin := Lib.hid (show Kp w wr ∧ ∃ (ao' : Option Addr) (c' : Nat), (Value.slice ao (k + 2) c) = .slice ao' (nl + 2) c' ∧ Own wr bx 22 1 ao' (nl + 2) c' ((⟨a0, n0, c0⟩ :: ⟨a1, n1, c1⟩ :: ts : List Tv).map tvv) from by
        have h2 := ho.mono (base' := bx) (fun x hx => by have := (ho.lt x hx).1; omega)
        rw [List.take_of_length_le (by have := Hts.out; omega)] at h2
        subst hke
        exact ⟨Kp.trans HK1.out hkr, ao, c, rfl, h2⟩)
      clear ho hkr hke
      go_wp2_with fail
      go_ret
      obtain ⟨h1, ao', c', h2, h3⟩ := Hfin.out
      rw [Hbx.out] at h3
      exact ⟨h1, ao', c', by first | exact h2 | exact congrArg Ending.returned h2 | (simpa using h2), h3⟩
end Go.Proofs.YtkmejehhdjdlbaaGreatDoor
