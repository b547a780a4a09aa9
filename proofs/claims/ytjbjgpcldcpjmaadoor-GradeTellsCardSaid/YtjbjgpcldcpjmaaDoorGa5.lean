/- Parts of the walks and plain laws, merged: TxtF, Tbl, TxtG, TxtH, Tell. Each theorem bears its own conditions; no other. -/
import Derived.Test.YtjbjgpcldcpjmaaDoorTxtE
import Derived.Test.YtjbjgpcldcpjmaaDoorGa3
import Derived.Test.YtjbjgpcldcpjmaaDoorShelf
import Derived.MapKept
import Derived.Maps.Own
import Derived.StringKeys
import Derived.Test.YtjbjgpcldcpjmaaDoorGa1
namespace Go.Proofs.YtjbjgpcldcpjmaaDoor
open Go.RowKit

theorem wordsT_length : ∀ {ws : List Q.Bt} {ts : List Int}, Q.wordsT ws = some ts → ts.length = ws.length := by
  intro ws
  induction ws with
  | nil => intro ts h; simp only [Q.wordsT, Option.some.injEq] at h; subst h; rfl
  | cons x r ih =>
    intro ts h
    simp only [Q.wordsT] at h
    cases hw : Q.wordT x with
    | none => rw [hw] at h; cases h
    | some t =>
      cases hr : Q.wordsT r with
      | none => rw [hw, hr] at h; cases h
      | some l =>
        rw [hw, hr] at h
        simp only [Option.some.injEq] at h
        subst h
        simp [ih hr]
theorem split_length (l : Q.Bt) : (Lib.split l Q.comma).length ≤ l.length + 1 := by
  have h := pcs_length (bs l)
  have h2 : Lib.countB (bs l) ⟨#[44, 32]⟩ ≤ (bs l).size := Lib.countB_le _ (by decide) _ _ (Nat.le_refl _)
  have h3 := congrArg List.length (pcs_data (bs l))
  rw [List.length_map, h, bs_list] at h3
  rw [bs_size] at h2
  omega
theorem lineP_small {s : Q.Bt} {l : Ln} (h : Q.lineP s = some l) : l.2.length ≤ s.length + 1 := by
  unfold Q.lineP at h
  have hs := split_length (s.drop 5)
  simp only [List.length_drop] at hs
  split at h
  · cases hw : Q.wordsT (Lib.split (s.drop 5) Q.comma) with
    | none => rw [hw] at h; simp at h
    | some x => rw [hw] at h; simp only [Option.map_some, Option.some.injEq] at h; have := wordsT_length hw; rw [← h]; simp only; omega
  · split at h
    · cases hw : Q.wordsT (Lib.split (s.drop 5) Q.comma) with
      | none => rw [hw] at h; simp at h
      | some x => rw [hw] at h; simp only [Option.map_some, Option.some.injEq] at h; have := wordsT_length hw; rw [← h]; simp only; omega
    · cases h
theorem loopP_small (N : Nat) : ∀ (k : Nat) (r : Q.Bt) (S S' : Q.Rd), Q.loopP k r S = some S' → (∀ l ∈ S.ls, l.2.length ≤ N) → r.length + 1 ≤ N → S'.ls.length ≤ S.ls.length + r.length ∧ ∀ l ∈ S'.ls, l.2.length ≤ N := by
  intro k
  induction k with
  | zero => intro r S S' h; cases h
  | succ k ih =>
    intro r S S' h hS hN
    simp only [Q.loopP] at h
    split at h
    · simp only [Option.some.injEq] at h
      subst h
      exact ⟨by omega, hS⟩
    · split at h
      · rename_i s rest hc
        have h1 := Q.cut_shorter hc
        have h2 := cut_take hc
        unfold Q.rowP at h
        split at h
        · split at h
          · have := ih rest (Q.moved S) S' (by simpa using h) (by simp [Q.moved]) (by omega)
            refine ⟨?_, this.2⟩
            have h3 := this.1
            simp only [Q.moved, List.length_nil] at h3
            omega
          · cases h
        · cases hl : Q.lineP s with
          | none => rw [hl] at h; cases h
          | some l =>
            rw [hl] at h
            have := ih rest { S with ls := S.ls ++ [l] } S' (by simpa using h) (fun x hx => by
              simp only [List.mem_append, List.mem_singleton] at hx
              rcases hx with hx | rfl
              · exact hS x hx
              · have := lineP_small hl; omega) (by omega)
            refine ⟨?_, this.2⟩
            have h3 := this.1
            simp only [List.length_append, List.length_singleton] at h3
            omega
      · cases h
theorem readP_small {t nm : Q.Bt} {S : Q.Rd} (h : Q.readP t = some (nm, S)) : S.ls.length ≤ t.length ∧ ∀ l ∈ S.ls, l.2.length ≤ t.length + 1 := by
  rw [Q.readP_eq] at h
  split at h
  · rename_i s rest hc
    have h1 := Q.cut_shorter hc
    split at h
    · cases hg : Q.goP rest Q.rd0 with
      | none => rw [hg] at h; cases h
      | some S1 =>
        rw [hg] at h
        simp only [Option.map_some, Option.some.injEq, Prod.mk.injEq] at h
        obtain ⟨_, rfl⟩ := h
        have := loopP_small (t.length + 1) _ rest Q.rd0 S1 hg (by simp [Q.rd0]) (by omega)
        refine ⟨?_, this.2⟩
        have h3 := this.1
        simp only [Q.rd0, List.length_nil] at h3
        omega
    · cases h
  · cases h
theorem PatO.lnsN {w : World} {B : Nat} {t0 t1 tl : Tv} {ts : List Tv} {b0 b1 : List Int} {ls : List Ln} (N : Nat) (hN : N ≤ 140737488351232) (h : PatO w B t0 t1 tl ts b0 b1 ls) (hn : ls.length ≤ N) (ht : ∀ l ∈ ls, l.2.length ≤ N) : Lns w tl.ao tl.n ls := by
  refine ⟨h.nl.symm, by have := h.nl; omega, fun j hj => ?_⟩
  obtain ⟨b, off, e, hc⟩ := h.ol.cs.at (j * 2) (by rw [lnc_length h.len]; omega)
  obtain ⟨g0, g1⟩ := lnc_get h.len j hj
  have hj' : j < ts.length := by rw [h.len]; exact hj
  have ho := h.ot j _ _ (List.getElem?_eq_getElem hj') (List.getElem?_eq_getElem hj)
  have h1 := ho.1
  have h2 := ht _ (List.getElem_mem hj)
  simp at h1
  exact ⟨b, off, _, _, _, e, hc _ _ g0, by have := hc _ _ g1; rwa [← Nat.add_assoc] at this, ho.is, by omega⟩

set_option maxHeartbeats 2000000 in
theorem exec_load32 {w : World} {p q : Addr} (h : w.cell? p = some (.iface 134 (.pointer (some q)))) {ρ : Operand → Value} {x : Operand} (hx : ρ x = .pointer (some p)) {o : Oper} (ho : o.op = .load 32 x) : (execOp ρ o).run Tryd.prog w = .ok (.value (.iface 134 (.pointer (some q)))) w := by
  simp only [execOp, ho, hx]
  go_simp
theorem puts_true {ops : Array Oper} : Puts ops (fun _ => True) := fun _ _ _ _ _ _ => trivial
abbrev zeroP : Value := .agg #[.string ⟨#[]⟩, .slice none 0 0, .slice none 0 0, .slice none 0 0]
/-- What is answered: an error, or a pattern in lists of the call's own. -/
def ParsePost (w : World) (E : Nat → Addr) (ET : Addr) (s : Q.Bt) (e : Ending) (w' : World) : Prop := Kp w w' ∧
  if 4096 < s.length then e = .returned (.tuple #[zeroP, .iface 134 (.pointer (some ET))]) else match Q.readP s with
  | none => e = .returned (.tuple #[zeroP, .iface 134 (.pointer (some ET))])
  | some (nm, S) => if checkL S.b0 S.b1 S.ls = 0 then ∃ t0 t1 tl ts, e = .returned (.tuple #[.agg #[.string (bs nm), tvv t0, tvv t1, tvv tl], .nilIface]) ∧ PatO w' w.heap.size t0 t1 tl ts S.b0 S.b1 S.ls
    else e = .returned (.tuple #[zeroP, errV E (checkL S.b0 S.b1 S.ls)])
section
variable {w w' : World} {E : Nat → Addr} {ET : Addr} {s : Q.Bt}
theorem ParsePost.big (h : 4096 < s.length) (hk : Kp w w') : ParsePost w E ET s (.returned (.tuple #[zeroP, .iface 134 (.pointer (some ET))])) w' := ⟨hk, by rw [if_pos h]⟩
theorem ParsePost.bad (h : Q.readP s = none) (hk : Kp w w') : ParsePost w E ET s (.returned (.tuple #[zeroP, .iface 134 (.pointer (some ET))])) w' := by
  refine ⟨hk, ?_⟩
  split
  · rfl
  · rw [h]
theorem ParsePost.off {nm : Q.Bt} {S : Q.Rd} (hb : ¬ 4096 < s.length) (h : Q.readP s = some (nm, S)) (hc : ¬ checkL S.b0 S.b1 S.ls = 0) (hk : Kp w w') : ParsePost w E ET s (.returned (.tuple #[zeroP, errV E (checkL S.b0 S.b1 S.ls)])) w' := ⟨hk, by rw [if_neg hb, h]; simp only [if_neg hc]⟩
theorem ParsePost.fine {nm : Q.Bt} {S : Q.Rd} {t0 t1 tl : Tv} {ts : List Tv} (hb : ¬ 4096 < s.length) (h : Q.readP s = some (nm, S)) (hc : checkL S.b0 S.b1 S.ls = 0) (hk : Kp w w') (hp : PatO w' w.heap.size t0 t1 tl ts S.b0 S.b1 S.ls) :
    ParsePost w E ET s (.returned (.tuple #[.agg #[.string (bs nm), tvv t0, tvv t1, tvv tl], .nilIface])) w' := ⟨hk, by rw [if_neg hb, h]; simp only [if_pos hc]; exact ⟨t0, t1, tl, ts, rfl, hp⟩⟩
end
set_option maxHeartbeats 8000000 in
theorem parse_any (s : ByteArray) (m : Int) (E : Nat → Addr) (ET : Addr) (w : World) (hm : MaxV w m) (hE : Errs w E) (hT : w.cell? ⟨5, 0, none⟩ = some (.iface 134 (.pointer (some ET)))) : Calls Tryd.prog 46 #[.string s] w (ParsePost w E ET s.data.toList) := by
  have hsl := Lib.size_eq s
  have hW5 := World.block_lt_of_cell? w _ hT
  obtain ⟨l, hl⟩ : ∃ l, l = s.data.toList := ⟨_, rfl⟩
  have HR := Lib.hid (fun w' (h : s.size < 4294967281) (hm' : MaxV w' m) => read_any s m w' h hm')
  rw [← hl] at HR hsl ⊢
  clear hl
  by_cases hbig : 4096 < l.length
  · have hb : 4096 < s.size := by omega
    have Hbig := Lib.hid hbig
    clear hbig hsl
    go_enter Tryd.func46, Tryd.ntmps46
    go_wp2_with fail
    refine anyP_start (fun w => w.cell? ⟨5, 0, none⟩ = some (.iface 134 (.pointer (some ET)))) 3 (fun _ => True) (fun _ _ => False) (by kernel_rfl) (fun _ _ _ _ h => h.elim) ?_
    obtain ⟨wd, hwd⟩ : ∃ wd, wd = (w.alloc (.cells #[.string ⟨#[]⟩, .slice none 0 0, .slice none 0 0, .slice none 0 0] 26)).drew := ⟨_, rfl⟩
    have hkd : Kp (w.alloc (.cells #[.string ⟨#[]⟩, .slice none 0 0, .slice none 0 0, .slice none 0 0] 26)) wd := hwd ▸ (⟨rfl, rfl, rfl, Nat.le_refl _, fun _ _ => rfl⟩ : Kp (w.alloc (.cells #[.string ⟨#[]⟩, .slice none 0 0, .slice none 0 0, .slice none 0 0] 26)) ((w.alloc (.cells #[.string ⟨#[]⟩, .slice none 0 0, .slice none 0 0, .slice none 0 0] 26))).drew)
    rw [← hwd]
    clear hwd
    have hTd := (Kp.trans (Kp.new w (.cells #[.string ⟨#[]⟩, .slice none 0 0, .slice none 0 0, .slice none 0 0] 26)) hkd).cell hT
    have hPd := (Four.new w (.string ⟨#[]⟩) (.slice none 0 0) (.slice none 0 0) (.slice none 0 0) 26).kp hkd
    have hKd := Lib.hid (Kp.trans (Kp.new w (.cells #[.string ⟨#[]⟩, .slice none 0 0, .slice none 0 0, .slice none 0 0] 26)) hkd)
    obtain ⟨b2, hb2⟩ : ∃ b2, b2 = w.heap.size := ⟨_, rfl⟩
    rw [← hb2] at hPd ⊢
    have Hb2 := Lib.hid hb2
    clear hb2 HR hT
    obtain ⟨wf, hwf, hF, hPf⟩ := hPd.set (.string ⟨#[]⟩) (.slice none 0 0) (.slice none 0 0) (.slice none 0 0)
    obtain ⟨y0, y1, y2, y3, z0, z1, z2, z3⟩ := hPd
    obtain ⟨c0, c1, c2, c3, _, _, _, _⟩ := hPf
    have Hwf := Lib.hid hwf
    have HTf := Lib.hid (hF.cell hTd (by simp; have := Hb2.out; have := hW5; omega))
    have HF := Lib.hid hF
    clear hwf hF
    refine anyP_take puts_true [0] (by kernel_rfl) hTd ?_
    simp only [opsAt, List.getElem?_toArray, List.getElem?_cons_zero]
    repeat (go_big_quiet_step (fail))
    refine wpQuiet_nil ?_
    refine anyP_load puts_true 1 11 (.iface 134 (.pointer (some ET))) rfl rfl (by kernel_rfl) hTd (fun w h => exec_load32 h rfl rfl) ?_
    simp only [Act.put, List.setIfInBounds_toArray, List.set_cons_zero, List.set_cons_succ]
    refine anyP_one 2 (by kernel_rfl) ?_
    simp only [opsAt, List.getElem?_toArray, List.getElem?_cons_zero, List.getElem?_cons_succ]
    clear hTd
    go_wp2_with fail
    rw [← Hwf.out]
    refine ⟨fun _ => HTf.out, ?_⟩
    refine anyP_one 3 (by kernel_rfl) ?_
    simp only [opsAt, List.getElem?_toArray, List.getElem?_cons_zero, List.getElem?_cons_succ]
    clear y0 y1 y2 y3 z0 z1 z2 z3
    go_wp2_with fail
    refine ⟨fun h => absurd rfl h, ?_⟩
    refine anyP_end (by kernel_rfl) ?_
    go_wp2_with fail
    show bodyPost Tryd.prog Tryd.f46 (ParsePost w E ET l) .ret _ _
    refine bodyPost_ret (v := .tuple #[zeroP, .iface 134 (.pointer (some ET))]) (by simp [results, Tryd.results46, go_sem, c0, c1, c2, c3]) rfl ?_
    exact ParsePost.big Hbig.out (((Fr.of_kp hKd.out).step HF.out (fun j hj => .inr (by simp at hj; have := Hb2.out; omega))).kp)
  · have hb : s.size ≤ 4096 := by omega
    have Hbig := Lib.hid hbig
    have hk1 := Kp.new w (.cells #[.string ⟨#[]⟩, .slice none 0 0, .slice none 0 0, .slice none 0 0] 26)
    have HRd := Lib.hid (HR.out (w.alloc (.cells #[.string ⟨#[]⟩, .slice none 0 0, .slice none 0 0, .slice none 0 0] 26)) (by omega) (hk1.maxV hm))
    unfold ReadPost at HRd
    clear hbig
    cases hrd : Q.readP l with
    | none =>
      rw [hrd] at HRd
      have Hrd := Lib.hid hrd
      clear hrd
      go_enter Tryd.func46, Tryd.ntmps46
      go_wp2_with fail
      (with_reducible refine HRd.out.mono ?_)
      rintro e w2 ⟨hk2, rfl⟩
      go_wp2_with fail
      refine anyP_start (fun w => w.cell? ⟨5, 0, none⟩ = some (.iface 134 (.pointer (some ET)))) 3 (fun _ => True) (fun _ _ => False) (by kernel_rfl) (fun _ _ _ _ h => h.elim) ?_
      obtain ⟨wd, hwd⟩ : ∃ wd, wd = (w2.alloc (.cells #[.string ⟨#[]⟩, .slice none 0 0, .slice none 0 0, .slice none 0 0] 26)).drew := ⟨_, rfl⟩
      have hkd : Kp (w2.alloc (.cells #[.string ⟨#[]⟩, .slice none 0 0, .slice none 0 0, .slice none 0 0] 26)) wd := hwd ▸ (⟨rfl, rfl, rfl, Nat.le_refl _, fun _ _ => rfl⟩ : Kp (w2.alloc (.cells #[.string ⟨#[]⟩, .slice none 0 0, .slice none 0 0, .slice none 0 0] 26)) ((w2.alloc (.cells #[.string ⟨#[]⟩, .slice none 0 0, .slice none 0 0, .slice none 0 0] 26))).drew)
      rw [← hwd]
      clear hwd
      have hTd := (Kp.trans (Kp.trans (Kp.trans hk1 hk2) (Kp.new w2 (.cells #[.string ⟨#[]⟩, .slice none 0 0, .slice none 0 0, .slice none 0 0] 26))) hkd).cell hT
      have hPd := (((Four.new w (.string ⟨#[]⟩) (.slice none 0 0) (.slice none 0 0) (.slice none 0 0) 26).kp hk2).kp (Kp.new w2 _)).kp hkd
      have hKd := Lib.hid (Kp.trans (Kp.trans (Kp.trans hk1 hk2) (Kp.new w2 (.cells #[.string ⟨#[]⟩, .slice none 0 0, .slice none 0 0, .slice none 0 0] 26))) hkd)
      obtain ⟨b2, hb2⟩ : ∃ b2, b2 = w.heap.size := ⟨_, rfl⟩
      rw [← hb2] at hPd ⊢
      have Hb2 := Lib.hid hb2
      clear hb2 HR hT
      obtain ⟨wf, hwf, hF, hPf⟩ := hPd.set (.string ⟨#[]⟩) (.slice none 0 0) (.slice none 0 0) (.slice none 0 0)
      obtain ⟨y0, y1, y2, y3, z0, z1, z2, z3⟩ := hPd
      obtain ⟨c0, c1, c2, c3, _, _, _, _⟩ := hPf
      have Hwf := Lib.hid hwf
      have HTf := Lib.hid (hF.cell hTd (by simp; have := Hb2.out; have := hW5; omega))
      have HF := Lib.hid hF
      clear hwf hF
      refine anyP_take puts_true [0] (by kernel_rfl) hTd ?_
      simp only [opsAt, List.getElem?_toArray, List.getElem?_cons_zero]
      repeat (go_big_quiet_step (fail))
      refine wpQuiet_nil ?_
      refine anyP_load puts_true 1 20 (.iface 134 (.pointer (some ET))) rfl rfl (by kernel_rfl) hTd (fun w h => exec_load32 h rfl rfl) ?_
      simp only [Act.put, List.setIfInBounds_toArray, List.set_cons_zero, List.set_cons_succ]
      refine anyP_one 2 (by kernel_rfl) ?_
      simp only [opsAt, List.getElem?_toArray, List.getElem?_cons_zero, List.getElem?_cons_succ]
      clear hTd
      go_wp2_with fail
      rw [← Hwf.out]
      refine ⟨fun _ => HTf.out, ?_⟩
      refine anyP_one 3 (by kernel_rfl) ?_
      simp only [opsAt, List.getElem?_toArray, List.getElem?_cons_zero, List.getElem?_cons_succ]
      clear y0 y1 y2 y3 z0 z1 z2 z3
      go_wp2_with fail
      refine ⟨fun h => absurd rfl h, ?_⟩
      refine anyP_end (by kernel_rfl) ?_
      go_wp2_with fail
      show bodyPost Tryd.prog Tryd.f46 (ParsePost w E ET l) .ret _ _
      refine bodyPost_ret (v := .tuple #[zeroP, .iface 134 (.pointer (some ET))]) (by simp [results, Tryd.results46, go_sem, c0, c1, c2, c3]) rfl ?_
      exact ParsePost.bad Hrd.out (((Fr.of_kp hKd.out).step HF.out (fun j hj => .inr (by simp at hj; have := Hb2.out; omega))).kp)
    | some q =>
      obtain ⟨nm, S⟩ := q
      rw [hrd] at HRd
      have Hrd := Lib.hid hrd
      clear hrd
      go_enter Tryd.func46, Tryd.ntmps46
      go_wp2_with fail
      (with_reducible refine HRd.out.mono ?_)
      rintro e w2 ⟨hk2, t0, t1, tl, ts, rfl, hO⟩
      unfold tvv
      have hsm := readP_small Hrd.out
      have hk3 := Kp.new w2 (.cells #[.string (bs nm), .slice t0.ao t0.n t0.c, .slice t1.ao t1.n t1.c, .slice tl.ao tl.n tl.c] 26)
      have hO3 := hO.kp hk3
      have hE3 := (Kp.trans (Kp.trans hk1 hk2) hk3).errs hE
      have HC := Lib.hid (check_any _ E hE3 (bs nm) t0.ao t1.ao tl.ao t0.n t0.c t1.n t1.c tl.n tl.c S.b0 S.b1 S.ls hO3.is0 hO3.is1 (hO3.lnsN 5000 (by decide) (by have := hsm.1; omega) (fun l' hl' => by have := hsm.2 l' hl'; omega)))
      have HO := Lib.hid hO3
      have hP3 := ((Four.new w (.string ⟨#[]⟩) (.slice none 0 0) (.slice none 0 0) (.slice none 0 0) 26).kp hk2).kp hk3
      have hp3 := Four.new w2 (.string (bs nm)) (.slice t0.ao t0.n t0.c) (.slice t1.ao t1.n t1.c) (.slice tl.ao tl.n tl.c) 26
      have Hk3 := Lib.hid (Kp.trans (Kp.trans hk1 hk2) hk3)
      clear hsm hO hO3 hE3 hk3 HR hT hE hm
      obtain ⟨b2, hb2⟩ : ∃ b2, b2 = w.heap.size := ⟨_, rfl⟩
      have Hbe := Lib.hid hb2
      by_cases hc : checkL S.b0 S.b1 S.ls = 0
      · have Hc := Lib.hid hc
        rw [show errV E (checkL S.b0 S.b1 S.ls) = .nilIface by rw [hc]; rfl] at HC
        clear hc
        go_wp2_with fail
        (with_reducible refine HC.out.mono ?_)
        rintro e w4 ⟨rfl, hk4⟩
        have hP4 := hP3.kp hk4
        have hp4 := hp3.kp hk4
        rw [← hb2] at hP4 ⊢
        clear hb2
        obtain ⟨wf, hwf, hF, hPf⟩ := hP4.set (.string (bs nm)) (.slice t0.ao t0.n t0.c) (.slice t1.ao t1.n t1.c) (.slice tl.ao tl.n tl.c)
        obtain ⟨y0, y1, y2, y3, z0, z1, z2, z3⟩ := hP4
        obtain ⟨x0, x1, x2, x3, _, _, _, _⟩ := hp4
        obtain ⟨c0, c1, c2, c3, _, _, _, _⟩ := hPf
        have hO4 := (HO.out.kp hk4).fr hF (fun j hj => .inl (by simp at hj; have := Hbe.out; simp; omega))
        have HOf := Lib.hid (hO4.base (B' := w.heap.size) (by simp))
        have Hwf := Lib.hid hwf
        have HKf := Lib.hid (((Fr.of_kp (Kp.trans Hk3.out hk4)).step hF (fun j hj => .inr (by simp at hj; have := Hbe.out; omega))).kp)
        clear hwf hF hO4 hk4
        go_wp2_with fail
        rw [← Hwf.out]
        show bodyPost Tryd.prog Tryd.f46 (ParsePost w E ET l) .ret _ _
        refine bodyPost_ret (v := .tuple #[.agg #[.string (bs nm), tvv t0, tvv t1, tvv tl], .nilIface]) (by simp [results, Tryd.results46, go_sem, c0, c1, c2, c3, tvv]) rfl ?_
        exact ParsePost.fine Hbig.out Hrd.out Hc.out HKf.out HOf.out
      · have Hc := Lib.hid hc
        have HE := Lib.hid (show errV E (checkL S.b0 S.b1 S.ls) = .iface 134 (.pointer (some (E (checkL S.b0 S.b1 S.ls)))) by unfold errV; rw [if_neg hc])
        rw [HE.out] at HC
        clear hc
        go_wp2_with fail
        (with_reducible refine HC.out.mono ?_)
        rintro e w4 ⟨rfl, hk4⟩
        have hP4 := hP3.kp hk4
        rw [← hb2] at hP4 ⊢
        clear hb2
        obtain ⟨wf, hwf, hF, hPf⟩ := hP4.set (.string ⟨#[]⟩) (.slice none 0 0) (.slice none 0 0) (.slice none 0 0)
        obtain ⟨y0, y1, y2, y3, z0, z1, z2, z3⟩ := hP4
        obtain ⟨c0, c1, c2, c3, _, _, _, _⟩ := hPf
        have Hwf := Lib.hid hwf
        have HKf := Lib.hid (((Fr.of_kp (Kp.trans Hk3.out hk4)).step hF (fun j hj => .inr (by simp at hj; have := Hbe.out; omega))).kp)
        clear hwf hF hk4
        go_wp2_with fail
        rw [← Hwf.out]
        show bodyPost Tryd.prog Tryd.f46 (ParsePost w E ET l) .ret _ _
        refine bodyPost_ret (v := .tuple #[zeroP, errV E (checkL S.b0 S.b1 S.ls)]) (by rw [HE.out]; simp [results, Tryd.results46, go_sem, c0, c1, c2, c3]) rfl ?_
        exact ParsePost.off Hbig.out Hrd.out Hc.out HKf.out
end Go.Proofs.YtjbjgpcldcpjmaaDoor

namespace Go.Proofs.YtjbjgpcldcpjmaaDoor
open Go.RowKit Go.Maps

set_option maxHeartbeats 2000000 in
theorem after_any (s : ByteArray) (m : Int) (w : World) (hs : s.size < 4294967281) (hm : MaxV w m) : Calls Tryd.prog 49 #[.string s, .string ⟨#[10, 10]⟩] w fun e w' =>
    e = .returned (.slice (some ⟨w.heap.size, 0, none⟩) (Lib.countB s ⟨#[10, 10]⟩ + 1) (Lib.countB s ⟨#[10, 10]⟩ + 1)) ∧ w' = w.alloc (.cells ((Lib.splitB ⟨#[10, 10]⟩ 2 (Lib.countB s ⟨#[10, 10]⟩) s).map Value.string).toArray 9) := by
  have hc : Lib.countB s ⟨#[10, 10]⟩ ≤ s.size := Lib.countB_le _ (by decide) _ _ (Nat.le_refl _)
  have H := Tryd.strings_genSplit s ⟨#[10, 10]⟩ 2 (-1) (Lib.countB s ⟨#[10, 10]⟩ + 1) m w hs hm (by decide) (by decide) (by decide) (by decide) (by simp; omega)
  have hl := Lib.splitB_all ⟨#[10, 10]⟩ (by decide) 2 (Lib.countB s ⟨#[10, 10]⟩) s rfl
  rw [Nat.add_sub_cancel, hl] at H
  change Calls Tryd.prog 53 #[.string s, .string ⟨#[10, 10]⟩, .int .i64 2, .int .i64 (-1)] w _ at H
  have Hl := Lib.hid hl
  have HH := Lib.hid H
  clear hl H hc hm
  obtain ⟨n, hn⟩ : ∃ n, n = Lib.countB s ⟨#[10, 10]⟩ := ⟨_, rfl⟩
  rw [← hn] at HH Hl ⊢
  clear hn
  go_enter Tryd.func49, Tryd.ntmps49
  go_wp2_with fail
  (with_reducible refine HH.out.mono ?_)
  rintro e w1 ⟨rfl, rfl⟩
  go_wp2_with fail
  go_ret
  have := Hl.out
  simp [Lib.cellsOf, this]

/-- Block r is a map that holds these pairs of texts, in this order. -/
def Tbl (w : World) (r : Nat) (K : List (ByteArray × ByteArray)) : Prop := ∃ arr clock, w.heap[r]? = some (.map arr clock) ∧ arr.toList.map (fun e => (e.key, e.val)) = K.map (fun x => (Value.string x.1, Value.agg #[.string x.2]))
theorem Kp.tbl {w w' : World} (h : Kp w w') {r : Nat} {K : List (ByteArray × ByteArray)} (hx : Tbl w r K) : Tbl w' r K := by
  obtain ⟨arr, clock, h1, h2⟩ := hx
  exact ⟨arr, clock, by rw [h.block r (Array.getElem?_eq_some_iff.1 h1).1]; exact h1, h2⟩
theorem Tbl.new (w : World) (clock : Nat) : Tbl (w.alloc (.map #[] clock)) w.heap.size [] := ⟨#[], clock, (MapKept.heap_alloc w _).1, rfl⟩
theorem skeyed : Keyed Tryd.prog 9 := string_keyed Tryd.underlying9
theorem skey {s : ByteArray} (hs : s.size ≤ maxLen) : ∃ l, keyOf Tryd.prog 9 (.string s) = some l := ⟨_, Go.WideMaps.keyOf_string_mk Tryd.underlying9 hs⟩
theorem getMap_run {w : World} {r : Nat} {arr : Array MapEntry} {clock : Nat} (h : w.heap[r]? = some (.map arr clock)) : (getObj r).run Tryd.prog w = .ok (.map arr clock) w := by
  simp [getObj, Sem.run, h]
theorem setMap_run {w : World} {r : Nat} {arr : Array MapEntry} {clock : Nat} (o : Obj) (h : w.heap[r]? = some (.map arr clock)) : (setObj r o).run Tryd.prog w = .ok () { w with heap := w.heap.setIfInBounds r o } := by
  simp [setObj, Sem.run, h]
theorem Tbl.mem {w : World} {r : Nat} {K : List (ByteArray × ByteArray)} {arr : Array MapEntry} (h2 : arr.toList.map (fun e => (e.key, e.val)) = K.map (fun x => (Value.string x.1, Value.agg #[.string x.2]))) (_hw : w = w) (_hr : r = r) :
    ∀ e ∈ arr.toList, ∃ x ∈ K, e.key = .string x.1 ∧ e.val = .agg #[.string x.2] := fun e he => by
  have hm : (e.key, e.val) ∈ K.map (fun x => (Value.string x.1, Value.agg #[.string x.2])) := by rw [← h2]; exact List.mem_map.2 ⟨e, he, rfl⟩
  obtain ⟨x, hx, he⟩ := List.mem_map.1 hm
  simp only [Prod.mk.injEq] at he
  exact ⟨x, hx, he.1.symm, he.2.symm⟩
theorem Tbl.put {w : World} {r : Nat} {K : List (ByteArray × ByteArray)} (h : Tbl w r K) (k t : ByteArray) (hs : ∀ x ∈ K, x.1.size ≤ maxLen) (hks : k.size ≤ maxLen) (hk : ∀ x ∈ K, x.1 ≠ k) :
    ∃ w', (Instr.mapUpdate 94 (.map (some r)) (.string k) (.agg #[.string t])).run Tryd.prog w = .ok () w' ∧ Tbl w' r (K ++ [(k, t)]) ∧ Fr [r] w w' := by
  obtain ⟨arr, clock, h1, h2⟩ := h
  have hmem := Tbl.mem (w := w) (r := r) h2 rfl rfl
  obtain ⟨l, hl⟩ := skey hks
  have hnone : (Instr.findKey 9 (.string k) arr.toList).run Tryd.prog w = .ok none w := by
    rcases skeyed.find w hl arr.toList (fun e he => by obtain ⟨x, hx0, hx, _⟩ := hmem e he; rw [hx]; exact skey (hs x hx0)) with ⟨h, _⟩ | ⟨j, e, _, he, hq⟩
    · exact h
    · obtain ⟨x, hx, hx1, _⟩ := hmem e (List.mem_of_getElem? he)
      rw [hx1] at hq
      simp only [Value.string.injEq] at hq
      exact absurd hq (hk x hx)
  have hlt : r < w.heap.size := (Array.getElem?_eq_some_iff.1 h1).1
  refine ⟨{ w with heap := w.heap.setIfInBounds r (.map (arr.push { key := .string k, val := .agg #[.string t], born := clock }) (clock + 1)) }, ?_, ⟨arr.push { key := .string k, val := .agg #[.string t], born := clock }, clock + 1, by simp [hlt], ?_⟩, ⟨rfl, rfl, rfl, by simp, fun i _ hi => by
      simp only [List.mem_singleton] at hi
      simp [Ne.symm hi]⟩⟩
  · simp only [Instr.mapUpdate, Sem.run_bind, run_underlying Tryd.underlying94, Result.andThen_ok, getMap_run h1, skeyed.check w _ hl, hnone, setMap_run _ h1]
  · rw [Array.toList_push, List.map_append, h2, List.map_append]; rfl
theorem Tbl.get {w : World} {r : Nat} {K : List (ByteArray × ByteArray)} (h : Tbl w r K) (k : ByteArray) (hs : ∀ x ∈ K, x.1.size ≤ maxLen) (hks : k.size ≤ maxLen) :
    ((∀ x ∈ K, x.1 ≠ k) ∧ (Instr.lookup 94 (.map (some r)) (.string k) true).run Tryd.prog w = .ok (.tuple #[.agg #[.string ⟨#[]⟩], .bool false]) w) ∨
    (∃ x ∈ K, x.1 = k ∧ (Instr.lookup 94 (.map (some r)) (.string k) true).run Tryd.prog w = .ok (.tuple #[.agg #[.string x.2], .bool true]) w) := by
  obtain ⟨arr, clock, h1, h2⟩ := h
  have hmem := Tbl.mem (w := w) (r := r) h2 rfl rfl
  obtain ⟨l, hl⟩ := skey hks
  rcases skeyed.find w hl arr.toList (fun e he => by obtain ⟨x, hx0, hx, _⟩ := hmem e he; rw [hx]; exact skey (hs x hx0)) with ⟨h, hn⟩ | ⟨j, e, hrun, he, hq⟩
  · left
    refine ⟨fun x hx hc => ?_, ?_⟩
    · have hm : (Value.string x.1, Value.agg #[.string x.2]) ∈ arr.toList.map (fun e => (e.key, e.val)) := by rw [h2]; exact List.mem_map.2 ⟨x, hx, rfl⟩
      obtain ⟨e, he, heq⟩ := List.mem_map.1 hm
      simp only [Prod.mk.injEq] at heq
      exact hn e he (by rw [heq.1, hc])
    · simp [Instr.lookup, run_underlying Tryd.underlying94, MapKept.run_getObj_map h1, skeyed.check w _ hl, h, Tryd.zeroValue92, Result.andThen]
  · right
    obtain ⟨x, hx, hx1, hx2⟩ := hmem e (List.mem_of_getElem? he)
    rw [hx1] at hq
    simp only [Value.string.injEq] at hq
    refine ⟨x, hx, hq, ?_⟩
    simp [Instr.lookup, run_underlying Tryd.underlying94, MapKept.run_getObj_map h1, skeyed.check w _ hl, hrun, hx2, Result.andThen]
end Go.Proofs.YtjbjgpcldcpjmaaDoor

namespace Go.Proofs.YtjbjgpcldcpjmaaDoor
open Go.RowKit

/-- A piece of the table: its name and its text, if it has a colon. -/
def pieceT (p : Q.Bt) : Option (Q.Bt × Q.Bt) := match Lib.cut p [58] with
  | (x, _, true) => some (x, Lib.trimSuffix p [10])
  | _ => none
def tblQ : List (Q.Bt × Q.Bt) := Q.piecesB.filterMap pieceT
def bs2 (x : Q.Bt × Q.Bt) : ByteArray × ByteArray := (bs x.1, bs x.2)
theorem tbl_read : tblQ.map (fun x => (x.1, Q.readP x.2)) = Q.tableL.map (fun y => (y.1, some (y.1, (⟨y.2.1.1, y.2.1.2, y.2.2.1, y.2.2.2⟩ : Q.Rd)))) := by kernel_rfl
theorem tbl_short : tblQ.all (fun x => decide (x.1.length ≤ 9) && decide (x.2.length ≤ 4096)) = true := by kernel_rfl
theorem tbl_checked : Q.tableL.all (fun y => checkL y.2.1.1 y.2.1.2 y.2.2.1 == 0) = true := by kernel_rfl
theorem names_apart : (Q.tableL.map (·.1)).Nodup := by decide
theorem tbl_names : tblQ.map (·.1) = Q.tableL.map (·.1) := by
  have := congrArg (List.map Prod.fst) tbl_read
  simpa [List.map_map, Function.comp_def] using this
/-- The pieces, as texts. -/
def tblP : List ByteArray := Lib.splitB ⟨#[10, 10]⟩ 2 (Lib.countB (bs Q.tableB) ⟨#[10, 10]⟩) (bs Q.tableB)
theorem tblP_data : tblP.map (·.data.toList) = Q.piecesB := by
  unfold tblP
  rw [Lib.splitB_data]
  rfl
theorem tblP_length : tblP.length = Lib.countB (bs Q.tableB) ⟨#[10, 10]⟩ + 1 := Lib.splitB_all _ (by decide) 2 _ _ rfl
theorem tbl_count : Lib.countB (bs Q.tableB) ⟨#[10, 10]⟩ = 38 := Q.pieces_count
theorem pieces_short : Q.piecesB.all (fun p => decide (p.length ≤ 4096)) = true := by kernel_rfl
theorem after_table (m : Int) (w : World) (hm : MaxV w m) (s : ByteArray) (hs : s = bs Q.tableB) : Calls Tryd.prog 49 #[.string s, .string ⟨#[10, 10]⟩] w fun e w' =>
    e = .returned (.slice (some ⟨w.heap.size, 0, none⟩) 39 39) ∧ w' = w.alloc (.cells (tblP.map Value.string).toArray 9) := by
  subst hs
  have h := after_any (bs Q.tableB) m w (by rw [bs_size]; exact Nat.lt_of_le_of_lt (show Q.tableB.length ≤ 2000 from Nat.le_of_ble_eq_true (by kernel_rfl)) (by decide)) hm
  unfold tblP
  rw [tbl_count] at h ⊢
  exact h
theorem bs_inj {a b : Q.Bt} (h : bs a = bs b) : a = b := by rw [← bs_list a, h, bs_list]
/-- The pairs of the first pieces. -/
def tblK (k : Nat) : List (Q.Bt × Q.Bt) := (Q.piecesB.take k).filterMap pieceT
theorem tblK_sub (k : Nat) : (tblK k).Sublist tblQ := (List.take_sublist _ _).filterMap _
theorem tblK_all : tblK 39 = tblQ := by
  unfold tblK tblQ
  rw [List.take_of_length_le (by rw [← tblP_data, List.length_map, tblP_length, tbl_count]; exact Nat.le_refl _)]
theorem tblK_yes {k : Nat} {q x t : Q.Bt} (hq : Q.piecesB[k]? = some q) (hp : pieceT q = some (x, t)) : tblK (k + 1) = tblK k ++ [(x, t)] := by
  unfold tblK
  rw [List.take_add_one, hq]
  simp [List.filterMap_append, hp]
theorem tblK_no {k : Nat} {q : Q.Bt} (hq : Q.piecesB[k]? = some q) (hp : pieceT q = none) : tblK (k + 1) = tblK k := by
  unfold tblK
  rw [List.take_add_one, hq]
  simp [List.filterMap_append, hp]
theorem tblQ_short {x : Q.Bt × Q.Bt} (h : x ∈ tblQ) : x.1.length ≤ 9 ∧ x.2.length ≤ 4096 := by
  have := List.all_eq_true.1 tbl_short x h
  simpa using this
theorem tblK_key {k : Nat} : ∀ y ∈ (tblK k).map bs2, y.1.size ≤ maxLen := fun y hy => by
  obtain ⟨x, hx, rfl⟩ := List.mem_map.1 hy
  have := (tblQ_short ((tblK_sub k).subset hx)).1
  unfold bs2
  simp only [bs_size]
  exact Nat.le_trans this (by decide)
theorem tblK_new {k : Nat} {q x t : Q.Bt} (hq : Q.piecesB[k]? = some q) (hp : pieceT q = some (x, t)) : (∀ y ∈ (tblK k).map bs2, y.1 ≠ bs x) ∧ (bs x).size ≤ maxLen := by
  have hs := tblK_sub (k + 1)
  rw [tblK_yes hq hp] at hs
  have ha : (tblQ.map Prod.fst).Nodup := by have := names_apart; rwa [← tbl_names] at this
  have hn : ((tblK k ++ [(x, t)]).map Prod.fst).Nodup := (hs.map Prod.fst).nodup ha
  refine ⟨fun y hy hc => ?_, ?_⟩
  · obtain ⟨z, hz, rfl⟩ := List.mem_map.1 hy
    rw [List.map_append, List.nodup_append] at hn
    exact hn.2.2 z.1 (List.mem_map.2 ⟨z, hz, rfl⟩) x (by simp) (bs_inj hc)
  · have := (tblQ_short (hs.subset (by simp : (x, t) ∈ tblK k ++ [(x, t)]))).1
    rw [bs_size]
    exact Nat.le_trans this (by decide)
theorem tblK_zero : tblK 0 = [] := by
  unfold tblK
  rw [List.take_zero]
  rfl
attribute [local irreducible] tblK tblP tblQ Q.piecesB Q.tableB
set_option maxRecDepth 100000 in
set_option maxHeartbeats 8000000 in
theorem table_any (m : Int) (w : World) (hm : MaxV w m) : Calls Tryd.prog 45 #[] w fun e w' => ∃ r, e = .returned (.map (some r)) ∧ Kp w w' ∧ Tbl w' r (tblQ.map bs2) := by
  have hmm := @run_makeMap Tryd.prog
  go_enter Tryd.func45, Tryd.ntmps45
  go_upto_region 2 with fail
  have hk1 := Kp.new w (.map #[] 0)
  have hT1 := Tbl.new w 0
  have hm1 := hk1.maxV hm
  obtain ⟨r, hr⟩ : ∃ r, r = w.heap.size := ⟨_, rfl⟩
  have Hr := Lib.hid hr
  have hr6 : 6 < r := by rw [hr]; exact World.block_lt_of_cell? w _ hm
  rw [← hr] at hT1 ⊢
  clear hr
  generalize w.alloc (.map #[] 0) = w1 at *
  go_wp2_with (go_at_call 49; refine (after_table m _ hm1 _ (by kernel_rfl)).mono ?_; rintro e w2 ⟨rfl, rfl⟩)
  have hk2 := Kp.new w1 (.cells (tblP.map Value.string).toArray 9)
  have hrw : r < w1.heap.size := by obtain ⟨_, _, h, _⟩ := hT1; exact (Array.getElem?_eq_some_iff.1 h).1
  have hcs : ∀ (j : Nat) (p : ByteArray), tblP[j]? = some p → (w1.alloc (.cells (tblP.map Value.string).toArray 9)).cell? ⟨w1.heap.size, j, none⟩ = some (.string p) := fun j p h => by
    rw [World.cell?_alloc_at _ _ _ _ rfl]
    simp [h]
  have hT2 := hk2.tbl hT1
  have hm2 := hk2.maxV hm1
  have Hk2 := Lib.hid (Kp.trans hk1 hk2)
  obtain ⟨bc, hbc⟩ : ∃ bc, bc = w1.heap.size := ⟨_, rfl⟩
  rw [← hbc] at hcs hrw ⊢
  have hb2 : bc < (w1.alloc (.cells (tblP.map Value.string).toArray 9)).heap.size := by rw [hbc]; simp
  generalize w1.alloc (.cells (tblP.map Value.string).toArray 9) = w2 at *
  clear hk1 hm1 hT1 hbc hm hk2
  have Hcs := Lib.hid hcs
  have HT2 := Lib.hid hT2
  have Hm2 := Lib.hid hm2
  clear hcs hT2 hm2
  go_loopw [10] (fun i wr => ∃ k : Nat, k ≤ 39 ∧ i = .int .i64 (k : Nat) ∧ Fr [r] w2 wr ∧ Tbl wr r ((tblK k).map bs2)) (fun i _ => 39 - (intOf i).toNat)
  case atStart => exact ⟨0, by omega, rfl, Fr.refl _ _, by rw [tblK_zero]; exact HT2.out⟩
  case round =>
    obtain ⟨k, hk, rfl, hF, hT⟩ := hrel
    by_cases hlt : k < 39
    · have hkl : k < tblP.length := by rw [tblP_length, tbl_count]; exact hlt
      obtain ⟨p, hp⟩ : ∃ p, tblP[k]? = some p := ⟨_, List.getElem?_eq_getElem hkl⟩
      have hq : Q.piecesB[k]? = some p.data.toList := by rw [← tblP_data, List.getElem?_map, hp]; rfl
      have hc : wr.cell? ⟨bc, k, none⟩ = some (.string p) := hF.cell (Hcs.out k p hp) (by simp; omega)
      have hps : p.data.toList.length ≤ 4096 := by have := List.all_eq_true.1 pieces_short _ (List.mem_of_getElem? hq); simpa using this
      have hsz := Lib.size_eq p
      have HC := Lib.hid (Tryd.strings_Cut p ⟨#[58]⟩ m wr (by omega) (hF.cell Hm2.out (by simp; omega)))
      have HS := Lib.hid (fun w' => Tryd.strings_TrimSuffix p ⟨#[10]⟩ w' (by omega))
      have Hl := Lib.hid (And.intro (show (⟨#[58]⟩ : ByteArray).data.toList = [58] from rfl) (show (⟨#[10]⟩ : ByteArray).data.toList = [10] from rfl))
      rw [Hl.out.1] at HC
      rw [Hl.out.2] at HS
      have Hq := Lib.hid hq
      clear Hl hp hq
      obtain ⟨c, hcc⟩ : ∃ c, c = Lib.cut p.data.toList [58] := ⟨_, rfl⟩
      rw [← hcc] at HC
      have Hcc := Lib.hid hcc
      clear hcc
      obtain ⟨x, rest, ok⟩ := c
      have HT := Lib.hid hT
      have HF := Lib.hid hF
      clear hT hF
      cases ok with
      | false =>
        have Hno := Lib.hid (tblK_no Hq.out (show pieceT p.data.toList = none by unfold pieceT; rw [← Hcc.out]))
        go_wp2_with fail
        (with_reducible refine HC.out.mono ?_)
        rintro e w3 ⟨rfl, n, rfl⟩
        have hkd := Kp.of_drewN wr n
        have Hfin := Lib.hid (And.intro (HF.out.step (Fr.of_kp hkd) (by simp)) (hkd.tbl HT.out))
        clear hkd hc
        go_wp2_with fail
        go_roundw
        case rel => exact ⟨k + 1, by omega, by go_num, Hfin.out.1, by rw [Hno.out]; exact Hfin.out.2⟩
        case measure => simp [intOf]; omega
      | true =>
        have hpt : pieceT p.data.toList = some (x, Lib.trimSuffix p.data.toList [10]) := by unfold pieceT; rw [← Hcc.out]
        have Hyes := Lib.hid (tblK_yes Hq.out hpt)
        have Hnew := Lib.hid (tblK_new Hq.out hpt)
        obtain ⟨tx, htx⟩ : ∃ tx, tx = Lib.trimSuffix p.data.toList [10] := ⟨_, rfl⟩
        rw [← htx] at HS Hyes
        clear hpt htx
        go_wp2_with fail
        (with_reducible refine HC.out.mono ?_)
        rintro e w3 ⟨rfl, n, rfl⟩
        have hkd := Kp.of_drewN wr n
        obtain ⟨wp, hrun, hTp, hFp⟩ := (hkd.tbl HT.out).put (bs x) (bs tx) tblK_key Hnew.out.2 Hnew.out.1
        have Hfin := Lib.hid (And.intro ((HF.out.step (Fr.of_kp hkd) (by simp)).trans hFp) hTp)
        unfold bs at hrun
        clear hkd hc hTp hFp
        go_wp2_with fail
        (with_reducible refine (HS.out _).mono ?_)
        rintro e w4 ⟨rfl, rfl⟩
        go_wp2_with fail
        go_roundw
        case rel => exact ⟨k + 1, by omega, by go_num, Hfin.out.1, by rw [Hyes.out, List.map_append]; exact Hfin.out.2⟩
        case measure => simp [intOf]; omega
    · obtain rfl : k = 39 := by omega
      rw [tblK_all] at hT
      have Hfin := Lib.hid (And.intro (((Fr.of_kp Hk2.out).step hF (fun j hj => .inr (by simp at hj; have := Hr.out; omega))).kp) hT)
      clear hT hF
      go_wp2_with fail
      go_ret
      exact ⟨r, rfl, Hfin.out⟩
end Go.Proofs.YtjbjgpcldcpjmaaDoor

namespace Go.Proofs.YtjbjgpcldcpjmaaDoor
open Go.RowKit

abbrev Row := Q.Bt × (List Int × List Int) × List Q.Ln × Bool
/-- The row of the table that bears a name. -/
def rowOf (nm : Q.Bt) : Option Row := Q.tableL.find? (fun y => y.1 == nm)
theorem rowOf_none {nm : Q.Bt} (h : ∀ x ∈ tblQ, x.1 ≠ nm) : rowOf nm = none := by
  unfold rowOf
  rw [List.find?_eq_none]
  intro y hy hc
  have hm : y.1 ∈ tblQ.map (·.1) := by rw [tbl_names]; exact List.mem_map.2 ⟨y, hy, rfl⟩
  obtain ⟨x, hx, he⟩ := List.mem_map.1 hm
  exact h x hx (by rw [he]; exact beq_iff_eq.1 hc)
theorem find_uniq : ∀ {l : List Row} {y : Row}, (l.map (·.1)).Nodup → y ∈ l → l.find? (fun z => z.1 == y.1) = some y := by
  intro l
  induction l with
  | nil => intro y _ h; cases h
  | cons a r ih =>
    intro y hn h
    rw [List.map_cons, List.nodup_cons] at hn
    rw [List.find?_cons]
    rcases List.mem_cons.1 h with rfl | h
    · simp
    · have hne : a.1 ≠ y.1 := fun e => hn.1 (by rw [e]; exact List.mem_map.2 ⟨y, h, rfl⟩)
      rw [beq_eq_false_iff_ne.2 hne]
      exact ih hn.2 h
theorem rowOf_some {x : Q.Bt × Q.Bt} (hx : x ∈ tblQ) : ∃ y : Row, rowOf x.1 = some y ∧ y.1 = x.1 ∧ Q.readP x.2 = some (y.1, (⟨y.2.1.1, y.2.1.2, y.2.2.1, y.2.2.2⟩ : Q.Rd)) ∧ checkL y.2.1.1 y.2.1.2 y.2.2.1 = 0 := by
  have hm : (x.1, Q.readP x.2) ∈ tblQ.map (fun x => (x.1, Q.readP x.2)) := List.mem_map.2 ⟨x, hx, rfl⟩
  rw [tbl_read] at hm
  obtain ⟨y, hy, he⟩ := List.mem_map.1 hm
  simp only [Prod.mk.injEq] at he
  refine ⟨y, ?_, he.1, he.2.symm, ?_⟩
  · rw [← he.1]; exact find_uniq names_apart hy
  · have := List.all_eq_true.1 tbl_checked y hy
    simpa using this
/-- What is answered: a pattern in lists of the call's own, or none. -/
def FindPost (w : World) (nm : Q.Bt) (e : Ending) (w' : World) : Prop := Kp w w' ∧ match rowOf nm with
  | none => e = .returned (.tuple #[zeroP, .bool false])
  | some y => ∃ t0 t1 tl ts, e = .returned (.tuple #[.agg #[.string (bs y.1), tvv t0, tvv t1, tvv tl], .bool true]) ∧ PatO w' w.heap.size t0 t1 tl ts y.2.1.1 y.2.1.2 y.2.2.1
theorem FindPost.no {w w' : World} {nm : Q.Bt} (hk : Kp w w') (h : rowOf nm = none) : FindPost w nm (.returned (.tuple #[zeroP, .bool false])) w' := ⟨hk, by rw [h]⟩
theorem FindPost.yes {w w' : World} {nm : Q.Bt} {y : Row} {t0 t1 tl : Tv} {ts : List Tv} (hk : Kp w w') (h : rowOf nm = some y) (hp : PatO w' w.heap.size t0 t1 tl ts y.2.1.1 y.2.1.2 y.2.2.1) :
    FindPost w nm (.returned (.tuple #[.agg #[.string (bs y.1), tvv t0, tvv t1, tvv tl], .bool true])) w' := ⟨hk, by rw [h]; exact ⟨t0, t1, tl, ts, rfl, hp⟩⟩
set_option maxHeartbeats 2000000 in
theorem exec_load26 {w : World} {b : Nat} {s : ByteArray} {a0 a1 al : Option Addr} {n0 c0 n1 c1 nl cl : Nat} (h : Four w b (.string s) (.slice a0 n0 c0) (.slice a1 n1 c1) (.slice al nl cl)) {ρ : Operand → Value} {x : Operand} (hx : ρ x = .pointer (some ⟨b, 0, none⟩)) {o : Oper} (ho : o.op = .load 26 x) :
    (execOp ρ o).run Tryd.prog w = .ok (.value (.agg #[.string s, .slice a0 n0 c0, .slice a1 n1 c1, .slice al nl cl])) w := by
  obtain ⟨x0, x1, x2, x3, _, _, _, _⟩ := h
  simp only [execOp, ho, hx]
  go_simp
theorem parse_fine (s : Q.Bt) (nm : Q.Bt) (S : Q.Rd) (m : Int) (E : Nat → Addr) (ET : Addr) (w : World) (hm : MaxV w m) (hE : Errs w E) (hT : w.cell? ⟨5, 0, none⟩ = some (.iface 134 (.pointer (some ET)))) (hs : s.length ≤ 4096) (hr : Q.readP s = some (nm, S)) (hc : checkL S.b0 S.b1 S.ls = 0) :
    Calls Tryd.prog 46 #[.string (bs s)] w (fun e w' => Kp w w' ∧ ∃ t0 t1 tl ts, e = .returned (.tuple #[.agg #[.string (bs nm), tvv t0, tvv t1, tvv tl], .nilIface]) ∧ PatO w' w.heap.size t0 t1 tl ts S.b0 S.b1 S.ls) := by
  refine (parse_any (bs s) m E ET w hm hE hT).mono ?_
  rintro e w' ⟨hk, h⟩
  rw [bs_list, if_neg (by omega), hr] at h
  simp only [if_pos hc] at h
  exact ⟨hk, h⟩
attribute [local irreducible] tblK tblP tblQ Q.piecesB Q.tableB Q.tableL rowOf
set_option maxRecDepth 100000 in
set_option maxHeartbeats 8000000 in
theorem find_any (s : ByteArray) (m : Int) (E : Nat → Addr) (ET : Addr) (w : World) (hs : s.size ≤ maxLen) (hm : MaxV w m) (hE : Errs w E) (hT : w.cell? ⟨5, 0, none⟩ = some (.iface 134 (.pointer (some ET)))) : Calls Tryd.prog 32 #[.string s] w (FindPost w s.data.toList) := by
  have hk1 := Kp.new w (.cells #[.string ⟨#[]⟩, .slice none 0 0, .slice none 0 0, .slice none 0 0] 26)
  have HTb := Lib.hid (table_any m _ (hk1.maxV hm))
  go_enter Tryd.func32, Tryd.ntmps32
  go_wp2_with fail
  (with_reducible refine HTb.out.mono ?_)
  rintro e w2 ⟨r, rfl, hk2, hTl⟩
  have hk12 := Kp.trans hk1 hk2
  rcases hTl.get s (fun x hx => tblK_key (k := 39) x (by rw [tblK_all]; exact hx)) hs with ⟨hn, hrun⟩ | ⟨x, hx, hxe, hrun⟩
  · have hno : rowOf s.data.toList = none := rowOf_none (fun x hx hc => hn (bs2 x) (List.mem_map.2 ⟨x, hx, rfl⟩) (by unfold bs2; simp only; rw [hc, bs_data]))
    have Hno := Lib.hid hno
    have hk3 := Kp.new w2 (.cells #[.string ⟨#[]⟩] 92)
    have hP3 := ((Four.new w (.string ⟨#[]⟩) (.slice none 0 0) (.slice none 0 0) (.slice none 0 0) 26).kp hk2).kp hk3
    have Hk3 := Lib.hid (Kp.trans hk12 hk3)
    obtain ⟨b2, hb2⟩ : ∃ b2, b2 = w.heap.size := ⟨_, rfl⟩
    rw [← hb2] at hP3 ⊢
    have Hb2 := Lib.hid hb2
    obtain ⟨wf, hwf, hF, hPf⟩ := hP3.set (.string ⟨#[]⟩) (.slice none 0 0) (.slice none 0 0) (.slice none 0 0)
    obtain ⟨y0, y1, y2, y3, z0, z1, z2, z3⟩ := hP3
    obtain ⟨c0, c1, c2, c3, _, _, _, _⟩ := hPf
    have Hwf := Lib.hid hwf
    have HK := Lib.hid (((Fr.of_kp Hk3.out).step hF (fun j hj => .inr (by simp at hj; have := Hb2.out; omega))).kp)
    clear hn hno hTl hk3 hk12 hwf hF hb2 hE hm hT HTb
    go_wp2_with fail
    rw [← Hwf.out]
    show bodyPost Tryd.prog Tryd.f32 (FindPost w s.data.toList) .ret _ _
    refine bodyPost_ret (v := .tuple #[zeroP, .bool false]) (by simp [results, Tryd.results32, go_sem, c0, c1, c2, c3]) rfl ?_
    exact FindPost.no HK.out Hno.out
  · obtain ⟨q, hq, rfl⟩ := List.mem_map.1 hx
    obtain ⟨y, hy, hy1, hy2, hy3⟩ := rowOf_some hq
    have hsq : s.data.toList = q.1 := by rw [← hxe]; exact bs_list q.1
    rw [← hsq] at hy
    have hk3 := Kp.new w2 (.cells #[.string (bs q.2)] 92)
    have hk13 := Kp.trans hk12 hk3
    have HPa := Lib.hid (parse_fine q.2 y.1 ⟨y.2.1.1, y.2.1.2, y.2.2.1, y.2.2.2⟩ m E ET _ (hk13.maxV hm) (hk13.errs hE) (hk13.cell hT) (tblQ_short hq).2 hy2 hy3)
    have hP3 := ((Four.new w (.string ⟨#[]⟩) (.slice none 0 0) (.slice none 0 0) (.slice none 0 0) 26).kp hk2).kp hk3
    have Hk3 := Lib.hid hk13
    have Hy := Lib.hid hy
    unfold bs2 at hrun
    clear hq hy hy1 hy2 hy3 hsq hxe hk12 hk13 hk3 hTl hx hE hm hT HTb
    go_wp2_with fail
    (with_reducible refine HPa.out.mono ?_)
    rintro e w4 ⟨hk4, t0, t1, tl, ts, rfl, hO⟩
    unfold tvv
    have hk5 := Kp.new w4 (.cells #[.string (bs y.1), .slice t0.ao t0.n t0.c, .slice t1.ao t1.n t1.c, .slice tl.ao tl.n tl.c] 26)
    have hp5 := Four.new w4 (.string (bs y.1)) (.slice t0.ao t0.n t0.c) (.slice t1.ao t1.n t1.c) (.slice tl.ao tl.n tl.c) 26
    have hP5 := (hP3.kp hk4).kp hk5
    have hO5 := hO.kp hk5
    have Hk5 := Lib.hid (Kp.trans (Kp.trans Hk3.out hk4) hk5)
    have HP3 := Lib.hid hP3
    clear hP3 hO
    go_wp2_with fail
    change Code.wp _ _ _ _ (w4.alloc (.cells #[.string (bs y.1), .slice t0.ao t0.n t0.c, .slice t1.ao t1.n t1.c, .slice tl.ao tl.n tl.c] 26))
    have Hs := Lib.hid (show w.heap.size < w4.heap.size by have := hk4.size; have := World.block_lt_of_cell? _ _ HP3.out.c0; simp only at this; omega)
    have hOb := hO5.base (B' := w.heap.size + 1) (by have := World.block_lt_of_cell? _ _ HP3.out.c0; simp only at this; omega)
    generalize (w4.alloc (.cells #[.string (bs y.1), .slice t0.ao t0.n t0.c, .slice t1.ao t1.n t1.c, .slice tl.ao tl.n tl.c] 26)) = w5 at *
    obtain ⟨b2, hb2⟩ : ∃ b2, b2 = w.heap.size := ⟨_, rfl⟩
    obtain ⟨b6, hb6⟩ : ∃ b6, b6 = w4.heap.size := ⟨_, rfl⟩
    rw [← hb2] at hP5 ⊢
    rw [← hb6] at hp5 ⊢
    have hne : b2 ≠ b6 := by have := Hs.out; omega
    refine anyP_start (fun w => Four w b6 (.string (bs y.1)) (.slice t0.ao t0.n t0.c) (.slice t1.ao t1.n t1.c) (.slice tl.ao tl.n tl.c)) 4 (fun _ => True) (fun _ _ => False) (by kernel_rfl) (fun _ _ _ _ h => h.elim) ?_
    obtain ⟨wd, hwd⟩ : ∃ wd, wd = w5.drew := ⟨_, rfl⟩
    have hkd : Kp w5 wd := hwd ▸ (⟨rfl, rfl, rfl, Nat.le_refl _, fun _ _ => rfl⟩ : Kp w5 w5.drew)
    rw [← hwd]
    have hpd := hp5.kp hkd
    have hPd := hP5.kp hkd
    obtain ⟨wf, hwf, hF, hPf⟩ := hPd.set (.string (bs y.1)) (.slice t0.ao t0.n t0.c) (.slice t1.ao t1.n t1.c) (.slice tl.ao tl.n tl.c)
    have HSf := Lib.hid (hpd.fr hF (by simp; omega))
    have HOf := Lib.hid (((hOb.kp hkd).fr hF (fun j hj => .inl (by simp at hj; omega))).base (B' := w.heap.size) (by omega))
    have HK := Lib.hid (((Fr.of_kp (Kp.trans Hk5.out hkd)).step hF (fun j hj => .inr (by simp at hj; omega))).kp)
    obtain ⟨y0, y1, y2, y3, z0, z1, z2, z3⟩ := hPd
    obtain ⟨c0, c1, c2, c3, _, _, _, _⟩ := hPf
    have Hwf := Lib.hid hwf
    clear hwf hF hwd hkd hP5 hp5 hO5 hOb hk5 hk4 hb2 hb6
    refine anyP_take puts_true [1, 2] (by kernel_rfl) hpd ?_
    simp only [opsAt, List.getElem?_toArray, List.getElem?_cons_zero, List.getElem?_cons_succ]
    repeat (go_big_quiet_step (fail))
    refine wpQuiet_nil ?_
    refine anyP_load puts_true 0 23 (.agg #[.string (bs y.1), .slice t0.ao t0.n t0.c, .slice t1.ao t1.n t1.c, .slice tl.ao tl.n tl.c]) rfl rfl (by kernel_rfl) hpd (fun w h => exec_load26 h rfl rfl) ?_
    simp only [Act.put, List.setIfInBounds_toArray, List.set_cons_zero, List.set_cons_succ]
    refine anyP_one 3 (by kernel_rfl) ?_
    simp only [opsAt, List.getElem?_toArray, List.getElem?_cons_zero, List.getElem?_cons_succ]
    clear hpd
    go_wp2_with fail
    rw [← Hwf.out]
    refine ⟨fun _ => HSf.out, ?_⟩
    refine anyP_one 4 (by kernel_rfl) ?_
    simp only [opsAt, List.getElem?_toArray, List.getElem?_cons_zero, List.getElem?_cons_succ]
    clear y0 y1 y2 y3 z0 z1 z2 z3
    go_wp2_with fail
    refine ⟨fun h => absurd rfl h, ?_⟩
    refine anyP_end (by kernel_rfl) ?_
    go_wp2_with fail
    show bodyPost Tryd.prog Tryd.f32 (FindPost w s.data.toList) .ret _ _
    refine bodyPost_ret (v := .tuple #[.agg #[.string (bs y.1), tvv t0, tvv t1, tvv tl], .bool true]) (by simp [results, Tryd.results32, go_sem, c0, c1, c2, c3, tvv]) rfl ?_
    exact FindPost.yes HK.out Hy.out HOf.out
end Go.Proofs.YtjbjgpcldcpjmaaDoor

namespace Go.Proofs.YtjbjgpcldcpjmaaDoor
open Go.RowKit

def flagL (t : Int) : Int := if t = 3 then 1 else if t = 4 then 2 else if t = 5 then 4 else if t = 6 then 8 else 0
abbrev uv (z : Int) : Value := .int .u64 z
theorem flag_any (t : Int) (w : World) : Calls Tryd.prog 21 #[iv t] w fun e w' => e = .returned (uv (flagL t)) ∧ w = w' := by
  unfold flagL
  by_cases h3 : t = 3
  · subst h3
    go_enter Tryd.func21, Tryd.ntmps21
    go_wp2_with fail
    go_ret
    exact ⟨rfl, rfl⟩
  · by_cases h4 : t = 4
    · subst h4
      go_enter Tryd.func21, Tryd.ntmps21
      go_wp2_with fail
      go_ret
      exact ⟨rfl, rfl⟩
    · by_cases h5 : t = 5
      · subst h5
        go_enter Tryd.func21, Tryd.ntmps21
        go_wp2_with fail
        go_ret
        exact ⟨rfl, rfl⟩
      · by_cases h6 : t = 6
        · subst h6
          go_enter Tryd.func21, Tryd.ntmps21
          go_wp2_with fail
          go_ret
          exact ⟨rfl, rfl⟩
        · rw [if_neg h3, if_neg h4, if_neg h5, if_neg h6]
          go_enter Tryd.func21, Tryd.ntmps21
          go_wp2_with fail
          go_ret
          exact ⟨rfl, rfl⟩
/-- The flags met so far. -/
def flagsV (a b c d : Bool) : Int := (if a then 1 else 0) + (if b then 2 else 0) + (if c then 4 else 0) + (if d then 8 else 0)
/-- The teller's block. -/
structure TellAt (w : World) (b : Nat) (F x y : Int) : Prop where
  c0 : w.cell? ⟨b, 0, none⟩ = some (uv F)
  c1 : w.cell? ⟨b, 1, none⟩ = some (iv x)
  c2 : w.cell? ⟨b, 2, none⟩ = some (iv y)
  f0 : w.frozen? ⟨b, 0, none⟩ = false
  f1 : w.frozen? ⟨b, 1, none⟩ = false
  f2 : w.frozen? ⟨b, 2, none⟩ = false
theorem TellAt.fr {X : List Nat} {w w' : World} {b : Nat} {F x y : Int} (h : TellAt w b F x y) (k : Fr X w w') (hb : b ∉ X) : TellAt w' b F x y :=
  ⟨k.cell h.c0 hb, k.cell h.c1 hb, k.cell h.c2 hb, k.free h.c0 h.f0 hb, k.free h.c1 h.f1 hb, k.free h.c2 h.f2 hb⟩
theorem TellAt.kp {w w' : World} {b : Nat} {F x y : Int} (h : TellAt w b F x y) (k : Kp w w') : TellAt w' b F x y := h.fr (Fr.of_kp k) (by simp)
def flagAt (a b c d : Bool) (f : Int) : Bool := if f = 1 then a else if f = 2 then b else if f = 4 then c else d
theorem flag_and (a b c d : Bool) (f : Int) (hf : f = 1 ∨ f = 2 ∨ f = 4 ∨ f = 8) : (bits BinOp.and IntKind.u64 (flagsV a b c d) f != 0) = flagAt a b c d f := by
  rcases hf with rfl | rfl | rfl | rfl <;> cases a <;> cases b <;> cases c <;> cases d <;> kernel_rfl
theorem flag_or (a b c d : Bool) (t : Int) : bits BinOp.or IntKind.u64 (flagsV a b c d) (flagL t) = flagsV (a || t == 3) (b || t == 4) (c || t == 5) (d || t == 6) := by
  unfold flagL
  by_cases h3 : t = 3
  · subst h3
    cases a <;> cases b <;> cases c <;> cases d <;> kernel_rfl
  · by_cases h4 : t = 4
    · subst h4
      cases a <;> cases b <;> cases c <;> cases d <;> kernel_rfl
    · by_cases h5 : t = 5
      · subst h5
        cases a <;> cases b <;> cases c <;> cases d <;> kernel_rfl
      · by_cases h6 : t = 6
        · subst h6
          cases a <;> cases b <;> cases c <;> cases d <;> kernel_rfl
        · rw [if_neg h3, if_neg h4, if_neg h5, if_neg h6, beq_eq_false_iff_ne.2 h3, beq_eq_false_iff_ne.2 h4, beq_eq_false_iff_ne.2 h5, beq_eq_false_iff_ne.2 h6]
          cases a <;> cases b <;> cases c <;> cases d <;> kernel_rfl
theorem has_any (bx bt : Nat) (a b c d : Bool) (f x y : Int) (hf : f = 1 ∨ f = 2 ∨ f = 4 ∨ f = 8) (w : World) (hb : w.cell? ⟨bx, 0, none⟩ = some (.pointer (some ⟨bt, 0, none⟩))) (ht : TellAt w bt (flagsV a b c d) x y) :
    Calls Tryd.prog 34 #[uv f, .pointer (some ⟨bx, 0, none⟩)] w fun e w' => e = .returned (.bool (flagAt a b c d f)) ∧ w = w' := by
  obtain ⟨c0, _, _, _, _, _⟩ := ht
  rw [← flag_and a b c d f hf]
  obtain ⟨F, hF⟩ : ∃ F, F = flagsV a b c d := ⟨_, rfl⟩
  rw [← hF] at c0 ⊢
  clear hF hf
  go_enter Tryd.func34, Tryd.ntmps34
  go_wp2_with fail
  go_ret
  exact ⟨rfl, rfl⟩
/-- The word for the other side's messages. -/
theorem both_any (bt : Nat) (s : Int) (hs : s = 0 ∨ s = 1) (F x y : Int) (hx : 0 ≤ x ∧ x ≤ 2) (hy : 0 ≤ y ∧ y ≤ 2) (w : World) (ht : TellAt w bt F x y) :
    Calls Tryd.prog 35 #[.pointer (some ⟨bt, 0, none⟩), iv s] w fun e w' => e = .returned (iv (3 + (if s = 0 then x else y))) ∧ w = w' := by
  obtain ⟨_, c1, c2, _, _, _⟩ := ht
  rcases hs with rfl | rfl
  · rcases (show x = 0 ∨ x = 1 ∨ x = 2 by omega) with rfl | rfl | rfl <;>
      (go_enter Tryd.func35, Tryd.ntmps35; go_wp2_with fail; go_ret; exact ⟨by rfl, rfl⟩)
  · rcases (show y = 0 ∨ y = 1 ∨ y = 2 by omega) with rfl | rfl | rfl <;>
      (go_enter Tryd.func35, Tryd.ntmps35; go_wp2_with fail; go_ret; exact ⟨by rfl, rfl⟩)
end Go.Proofs.YtjbjgpcldcpjmaaDoor
