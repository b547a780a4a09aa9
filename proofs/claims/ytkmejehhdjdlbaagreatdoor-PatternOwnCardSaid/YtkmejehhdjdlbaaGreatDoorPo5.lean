/- Parts of the walks and plain laws, merged: TxtF, Clone, Cloned, Tbl, TxtG, TxtH, Env, AllP, AllI, AllJ, EnvL, Num, Ins, Mod, DrS, Kept, Pre, SortI, Back. Each theorem bears its own conditions; no other. -/
import Derived.Test.YtkmejehhdjdlbaaGreatDoorTxtE
import Derived.Test.YtkmejehhdjdlbaaGreatDoorPo4
import Derived.Lib.SliceRun
import Derived.Test.YtkmejehhdjdlbaaGreatDoorPo2
import Derived.MapKept
import Derived.Maps.Own
import Derived.StringKeys
import Derived.Test.YtkmejehhdjdlbaaGreatDoorPo1
import Derived.LaidEqlPtr
import Derived.Lib.SmallJoins
import Derived.Lib.LaidTab
import Derived.Lib.ItoaNum
import Derived.Stop.LaidTwo
import Derived.Shelf.Vars
import Derived.Lib.AppendIntMem
import Derived.Sort.OwnSortedInts
namespace Go.Proofs.YtkmejehhdjdlbaaGreatDoor
open Go.RowKit

theorem wordsT_length : ∀ {ws : List Q.Bt} {ts : List Int}, Q.wordsT ws = some ts → ts.length = ws.length := by
  intro ws
  induction ws with
  | nil => intro ts h; simp only [Q.wordsT, Option.some.injEq] at h; subst h; rfl
  | cons x r ih =>
    intro ts h
    simp only [Q.wordsT] at h
    cases hw : Q.wordT x with
    | none => rw [hw] at h; cases h
    | some t =>
      cases hr : Q.wordsT r with
      | none => rw [hw, hr] at h; cases h
      | some l =>
        rw [hw, hr] at h
        simp only [Option.some.injEq] at h
        subst h
        simp [ih hr]
theorem split_length (l : Q.Bt) : (Lib.split l Q.comma).length ≤ l.length + 1 := by
  have h := pcs_length (bs l)
  have h2 : Lib.countB (bs l) ⟨#[44, 32]⟩ ≤ (bs l).size := Lib.countB_le _ (by decide) _ _ (Nat.le_refl _)
  have h3 := congrArg List.length (pcs_data (bs l))
  rw [List.length_map, h, bs_list] at h3
  rw [bs_size] at h2
  omega
theorem lineP_small {s : Q.Bt} {l : Ln} (h : Q.lineP s = some l) : l.2.length ≤ s.length + 1 := by
  unfold Q.lineP at h
  have hs := split_length (s.drop 5)
  simp only [List.length_drop] at hs
  split at h
  · cases hw : Q.wordsT (Lib.split (s.drop 5) Q.comma) with
    | none => rw [hw] at h; simp at h
    | some x => rw [hw] at h; simp only [Option.map_some, Option.some.injEq] at h; have := wordsT_length hw; rw [← h]; simp only; omega
  · split at h
    · cases hw : Q.wordsT (Lib.split (s.drop 5) Q.comma) with
      | none => rw [hw] at h; simp at h
      | some x => rw [hw] at h; simp only [Option.map_some, Option.some.injEq] at h; have := wordsT_length hw; rw [← h]; simp only; omega
    · cases h
theorem loopP_small (N : Nat) : ∀ (k : Nat) (r : Q.Bt) (S S' : Q.Rd), Q.loopP k r S = some S' → (∀ l ∈ S.ls, l.2.length ≤ N) → r.length + 1 ≤ N → S'.ls.length ≤ S.ls.length + r.length ∧ ∀ l ∈ S'.ls, l.2.length ≤ N := by
  intro k
  induction k with
  | zero => intro r S S' h; cases h
  | succ k ih =>
    intro r S S' h hS hN
    simp only [Q.loopP] at h
    split at h
    · simp only [Option.some.injEq] at h
      subst h
      exact ⟨by omega, hS⟩
    · split at h
      · rename_i s rest hc
        have h1 := Q.cut_shorter hc
        have h2 := cut_take hc
        unfold Q.rowP at h
        split at h
        · split at h
          · have := ih rest (Q.moved S) S' (by simpa using h) (by simp [Q.moved]) (by omega)
            refine ⟨?_, this.2⟩
            have h3 := this.1
            simp only [Q.moved, List.length_nil] at h3
            omega
          · cases h
        · cases hl : Q.lineP s with
          | none => rw [hl] at h; cases h
          | some l =>
            rw [hl] at h
            have := ih rest { S with ls := S.ls ++ [l] } S' (by simpa using h) (fun x hx => by
              simp only [List.mem_append, List.mem_singleton] at hx
              rcases hx with hx | rfl
              · exact hS x hx
              · have := lineP_small hl; omega) (by omega)
            refine ⟨?_, this.2⟩
            have h3 := this.1
            simp only [List.length_append, List.length_singleton] at h3
            omega
      · cases h
theorem readP_small {t nm : Q.Bt} {S : Q.Rd} (h : Q.readP t = some (nm, S)) : S.ls.length ≤ t.length ∧ ∀ l ∈ S.ls, l.2.length ≤ t.length + 1 := by
  rw [Q.readP_eq] at h
  split at h
  · rename_i s rest hc
    have h1 := Q.cut_shorter hc
    split at h
    · cases hg : Q.goP rest Q.rd0 with
      | none => rw [hg] at h; cases h
      | some S1 =>
        rw [hg] at h
        simp only [Option.map_some, Option.some.injEq, Prod.mk.injEq] at h
        obtain ⟨_, rfl⟩ := h
        have := loopP_small (t.length + 1) _ rest Q.rd0 S1 hg (by simp [Q.rd0]) (by omega)
        refine ⟨?_, this.2⟩
        have h3 := this.1
        simp only [Q.rd0, List.length_nil] at h3
        omega
    · cases h
  · cases h
theorem PatO.lnsN {w : World} {B : Nat} {t0 t1 tl : Tv} {ts : List Tv} {b0 b1 : List Int} {ls : List Ln} (N : Nat) (hN : N ≤ 140737488351232) (h : PatO w B t0 t1 tl ts b0 b1 ls) (hn : ls.length ≤ N) (ht : ∀ l ∈ ls, l.2.length ≤ N) : Lns w tl.ao tl.n ls := by
  refine ⟨h.nl.symm, by have := h.nl; omega, fun j hj => ?_⟩
  obtain ⟨b, off, e, hc⟩ := h.ol.cs.at (j * 2) (by rw [lnc_length h.len]; omega)
  obtain ⟨g0, g1⟩ := lnc_get h.len j hj
  have hj' : j < ts.length := by rw [h.len]; exact hj
  have ho := h.ot j _ _ (List.getElem?_eq_getElem hj') (List.getElem?_eq_getElem hj)
  have h1 := ho.1
  have h2 := ht _ (List.getElem_mem hj)
  simp at h1
  exact ⟨b, off, _, _, _, e, hc _ _ g0, by have := hc _ _ g1; rwa [← Nat.add_assoc] at this, ho.is, by omega⟩

set_option maxHeartbeats 2000000 in
theorem exec_load32 {w : World} {p q : Addr} (h : w.cell? p = some (.iface 229 (.pointer (some q)))) {ρ : Operand → Value} {x : Operand} (hx : ρ x = .pointer (some p)) {o : Oper} (ho : o.op = .load 30 x) : (execOp ρ o).run Tryz.prog w = .ok (.value (.iface 229 (.pointer (some q)))) w := by
  simp only [execOp, ho, hx]
  go_simp
theorem puts_true {ops : Array Oper} : Puts ops (fun _ => True) := fun _ _ _ _ _ _ => trivial
abbrev zeroP : Value := .agg #[.string ⟨#[]⟩, .slice none 0 0, .slice none 0 0, .slice none 0 0]
/-- What is answered: an error, or a pattern in lists of the call's own. -/
def ParsePost (w : World) (E : Nat → Addr) (ET : Addr) (s : Q.Bt) (e : Ending) (w' : World) : Prop := Kp w w' ∧
  if 4096 < s.length then e = .returned (.tuple #[zeroP, .iface 229 (.pointer (some ET))]) else match Q.readP s with
  | none => e = .returned (.tuple #[zeroP, .iface 229 (.pointer (some ET))])
  | some (nm, S) => if checkL S.b0 S.b1 S.ls = 0 then ∃ t0 t1 tl ts, e = .returned (.tuple #[.agg #[.string (bs nm), tvv t0, tvv t1, tvv tl], .nilIface]) ∧ PatO w' w.heap.size t0 t1 tl ts S.b0 S.b1 S.ls
    else e = .returned (.tuple #[zeroP, errV E (checkL S.b0 S.b1 S.ls)])
section
variable {w w' : World} {E : Nat → Addr} {ET : Addr} {s : Q.Bt}
theorem ParsePost.big (h : 4096 < s.length) (hk : Kp w w') : ParsePost w E ET s (.returned (.tuple #[zeroP, .iface 229 (.pointer (some ET))])) w' := ⟨hk, by rw [if_pos h]⟩
theorem ParsePost.bad (h : Q.readP s = none) (hk : Kp w w') : ParsePost w E ET s (.returned (.tuple #[zeroP, .iface 229 (.pointer (some ET))])) w' := by
  refine ⟨hk, ?_⟩
  split
  · rfl
  · rw [h]
theorem ParsePost.off {nm : Q.Bt} {S : Q.Rd} (hb : ¬ 4096 < s.length) (h : Q.readP s = some (nm, S)) (hc : ¬ checkL S.b0 S.b1 S.ls = 0) (hk : Kp w w') : ParsePost w E ET s (.returned (.tuple #[zeroP, errV E (checkL S.b0 S.b1 S.ls)])) w' := ⟨hk, by rw [if_neg hb, h]; simp only [if_neg hc]⟩
theorem ParsePost.fine {nm : Q.Bt} {S : Q.Rd} {t0 t1 tl : Tv} {ts : List Tv} (hb : ¬ 4096 < s.length) (h : Q.readP s = some (nm, S)) (hc : checkL S.b0 S.b1 S.ls = 0) (hk : Kp w w') (hp : PatO w' w.heap.size t0 t1 tl ts S.b0 S.b1 S.ls) :
    ParsePost w E ET s (.returned (.tuple #[.agg #[.string (bs nm), tvv t0, tvv t1, tvv tl], .nilIface])) w' := ⟨hk, by rw [if_neg hb, h]; simp only [if_pos hc]; exact ⟨t0, t1, tl, ts, rfl, hp⟩⟩
end
set_option maxHeartbeats 8000000 in
theorem parse_any (s : ByteArray) (m : Int) (E : Nat → Addr) (ET : Addr) (w : World) (hm : MaxV w m) (hE : Errs w E) (hT : w.cell? ⟨5, 0, none⟩ = some (.iface 229 (.pointer (some ET)))) : Calls Tryz.prog 29 #[.string s] w (ParsePost w E ET s.data.toList) := by
  have hsl := Lib.size_eq s
  have hW5 := World.block_lt_of_cell? w _ hT
  obtain ⟨l, hl⟩ : ∃ l, l = s.data.toList := ⟨_, rfl⟩
  have HR := Lib.hid (fun w' (h : s.size < 4294967281) (hm' : MaxV w' m) => read_any s m w' h hm')
  rw [← hl] at HR hsl ⊢
  clear hl
  by_cases hbig : 4096 < l.length
  · have hb : 4096 < s.size := by omega
    have Hbig := Lib.hid hbig
    clear hbig hsl
    go_enter Tryz.func29, Tryz.ntmps29
    go_wp2_with fail
    refine anyP_start (fun w => w.cell? ⟨5, 0, none⟩ = some (.iface 229 (.pointer (some ET)))) 3 (fun _ => True) (fun _ _ => False) (by kernel_rfl) (fun _ _ _ _ h => h.elim) ?_
    obtain ⟨wd, hwd⟩ : ∃ wd, wd = (w.alloc (.cells #[.string ⟨#[]⟩, .slice none 0 0, .slice none 0 0, .slice none 0 0] 26)).drew := ⟨_, rfl⟩
    have hkd : Kp (w.alloc (.cells #[.string ⟨#[]⟩, .slice none 0 0, .slice none 0 0, .slice none 0 0] 26)) wd := hwd ▸ (⟨rfl, rfl, rfl, Nat.le_refl _, fun _ _ => rfl⟩ : Kp (w.alloc (.cells #[.string ⟨#[]⟩, .slice none 0 0, .slice none 0 0, .slice none 0 0] 26)) ((w.alloc (.cells #[.string ⟨#[]⟩, .slice none 0 0, .slice none 0 0, .slice none 0 0] 26))).drew)
    rw [← hwd]
    clear hwd
    have hTd := (Kp.trans (Kp.new w (.cells #[.string ⟨#[]⟩, .slice none 0 0, .slice none 0 0, .slice none 0 0] 26)) hkd).cell hT
    have hPd := (Four.new w (.string ⟨#[]⟩) (.slice none 0 0) (.slice none 0 0) (.slice none 0 0) 26).kp hkd
    have hKd := Lib.hid (Kp.trans (Kp.new w (.cells #[.string ⟨#[]⟩, .slice none 0 0, .slice none 0 0, .slice none 0 0] 26)) hkd)
    obtain ⟨b2, hb2⟩ : ∃ b2, b2 = w.heap.size := ⟨_, rfl⟩
    rw [← hb2] at hPd ⊢
    have Hb2 := Lib.hid hb2
    clear hb2 HR hT
    obtain ⟨wf, hwf, hF, hPf⟩ := hPd.set (.string ⟨#[]⟩) (.slice none 0 0) (.slice none 0 0) (.slice none 0 0)
    obtain ⟨y0, y1, y2, y3, z0, z1, z2, z3⟩ := hPd
    obtain ⟨c0, c1, c2, c3, _, _, _, _⟩ := hPf
    have Hwf := Lib.hid hwf
    have HTf := Lib.hid (hF.cell hTd (by simp; have := Hb2.out; have := hW5; omega))
    have HF := Lib.hid hF
    clear hwf hF
    refine anyP_take puts_true [0] (by kernel_rfl) hTd ?_
    simp only [opsAt, List.getElem?_toArray, List.getElem?_cons_zero]
    repeat (go_big_quiet_step (fail))
    refine wpQuiet_nil ?_
    refine anyP_load puts_true 1 11 (.iface 229 (.pointer (some ET))) rfl rfl (by kernel_rfl) hTd (fun w h => exec_load32 h rfl rfl) ?_
    simp only [Act.put, List.setIfInBounds_toArray, List.set_cons_zero, List.set_cons_succ]
    refine anyP_one 2 (by kernel_rfl) ?_
    simp only [opsAt, List.getElem?_toArray, List.getElem?_cons_zero, List.getElem?_cons_succ]
    clear hTd
    go_wp2_with fail
    rw [← Hwf.out]
    refine ⟨fun _ => HTf.out, ?_⟩
    refine anyP_one 3 (by kernel_rfl) ?_
    simp only [opsAt, List.getElem?_toArray, List.getElem?_cons_zero, List.getElem?_cons_succ]
    clear y0 y1 y2 y3 z0 z1 z2 z3
    go_wp2_with fail
    refine ⟨fun h => absurd rfl h, ?_⟩
    refine anyP_end (by kernel_rfl) ?_
    go_wp2_with fail
    show bodyPost Tryz.prog Tryz.f29 (ParsePost w E ET l) .ret _ _
    refine bodyPost_ret (v := .tuple #[zeroP, .iface 229 (.pointer (some ET))]) (by simp [results, Tryz.results29, go_sem, c0, c1, c2, c3]) rfl ?_
    exact ParsePost.big Hbig.out (((Fr.of_kp hKd.out).step HF.out (fun j hj => .inr (by simp at hj; have := Hb2.out; omega))).kp)
  · have hb : s.size ≤ 4096 := by omega
    have Hbig := Lib.hid hbig
    have hk1 := Kp.new w (.cells #[.string ⟨#[]⟩, .slice none 0 0, .slice none 0 0, .slice none 0 0] 26)
    have HRd := Lib.hid (HR.out (w.alloc (.cells #[.string ⟨#[]⟩, .slice none 0 0, .slice none 0 0, .slice none 0 0] 26)) (by omega) (hk1.maxV hm))
    unfold ReadPost at HRd
    clear hbig
    cases hrd : Q.readP l with
    | none =>
      rw [hrd] at HRd
      have Hrd := Lib.hid hrd
      clear hrd
      go_enter Tryz.func29, Tryz.ntmps29
      go_wp2_with fail
      (with_reducible refine HRd.out.mono ?_)
      rintro e w2 ⟨hk2, rfl⟩
      go_wp2_with fail
      refine anyP_start (fun w => w.cell? ⟨5, 0, none⟩ = some (.iface 229 (.pointer (some ET)))) 3 (fun _ => True) (fun _ _ => False) (by kernel_rfl) (fun _ _ _ _ h => h.elim) ?_
      obtain ⟨wd, hwd⟩ : ∃ wd, wd = (w2.alloc (.cells #[.string ⟨#[]⟩, .slice none 0 0, .slice none 0 0, .slice none 0 0] 26)).drew := ⟨_, rfl⟩
      have hkd : Kp (w2.alloc (.cells #[.string ⟨#[]⟩, .slice none 0 0, .slice none 0 0, .slice none 0 0] 26)) wd := hwd ▸ (⟨rfl, rfl, rfl, Nat.le_refl _, fun _ _ => rfl⟩ : Kp (w2.alloc (.cells #[.string ⟨#[]⟩, .slice none 0 0, .slice none 0 0, .slice none 0 0] 26)) ((w2.alloc (.cells #[.string ⟨#[]⟩, .slice none 0 0, .slice none 0 0, .slice none 0 0] 26))).drew)
      rw [← hwd]
      clear hwd
      have hTd := (Kp.trans (Kp.trans (Kp.trans hk1 hk2) (Kp.new w2 (.cells #[.string ⟨#[]⟩, .slice none 0 0, .slice none 0 0, .slice none 0 0] 26))) hkd).cell hT
      have hPd := (((Four.new w (.string ⟨#[]⟩) (.slice none 0 0) (.slice none 0 0) (.slice none 0 0) 26).kp hk2).kp (Kp.new w2 _)).kp hkd
      have hKd := Lib.hid (Kp.trans (Kp.trans (Kp.trans hk1 hk2) (Kp.new w2 (.cells #[.string ⟨#[]⟩, .slice none 0 0, .slice none 0 0, .slice none 0 0] 26))) hkd)
      obtain ⟨b2, hb2⟩ : ∃ b2, b2 = w.heap.size := ⟨_, rfl⟩
      rw [← hb2] at hPd ⊢
      have Hb2 := Lib.hid hb2
      clear hb2 HR hT
      obtain ⟨wf, hwf, hF, hPf⟩ := hPd.set (.string ⟨#[]⟩) (.slice none 0 0) (.slice none 0 0) (.slice none 0 0)
      obtain ⟨y0, y1, y2, y3, z0, z1, z2, z3⟩ := hPd
      obtain ⟨c0, c1, c2, c3, _, _, _, _⟩ := hPf
      have Hwf := Lib.hid hwf
      have HTf := Lib.hid (hF.cell hTd (by simp; have := Hb2.out; have := hW5; omega))
      have HF := Lib.hid hF
      clear hwf hF
      refine anyP_take puts_true [0] (by kernel_rfl) hTd ?_
      simp only [opsAt, List.getElem?_toArray, List.getElem?_cons_zero]
      repeat (go_big_quiet_step (fail))
      refine wpQuiet_nil ?_
      refine anyP_load puts_true 1 20 (.iface 229 (.pointer (some ET))) rfl rfl (by kernel_rfl) hTd (fun w h => exec_load32 h rfl rfl) ?_
      simp only [Act.put, List.setIfInBounds_toArray, List.set_cons_zero, List.set_cons_succ]
      refine anyP_one 2 (by kernel_rfl) ?_
      simp only [opsAt, List.getElem?_toArray, List.getElem?_cons_zero, List.getElem?_cons_succ]
      clear hTd
      go_wp2_with fail
      rw [← Hwf.out]
      refine ⟨fun _ => HTf.out, ?_⟩
      refine anyP_one 3 (by kernel_rfl) ?_
      simp only [opsAt, List.getElem?_toArray, List.getElem?_cons_zero, List.getElem?_cons_succ]
      clear y0 y1 y2 y3 z0 z1 z2 z3
      go_wp2_with fail
      refine ⟨fun h => absurd rfl h, ?_⟩
      refine anyP_end (by kernel_rfl) ?_
      go_wp2_with fail
      show bodyPost Tryz.prog Tryz.f29 (ParsePost w E ET l) .ret _ _
      refine bodyPost_ret (v := .tuple #[zeroP, .iface 229 (.pointer (some ET))]) (by simp [results, Tryz.results29, go_sem, c0, c1, c2, c3]) rfl ?_
      exact ParsePost.bad Hrd.out (((Fr.of_kp hKd.out).step HF.out (fun j hj => .inr (by simp at hj; have := Hb2.out; omega))).kp)
    | some q =>
      obtain ⟨nm, S⟩ := q
      rw [hrd] at HRd
      have Hrd := Lib.hid hrd
      clear hrd
      go_enter Tryz.func29, Tryz.ntmps29
      go_wp2_with fail
      (with_reducible refine HRd.out.mono ?_)
      rintro e w2 ⟨hk2, t0, t1, tl, ts, rfl, hO⟩
      unfold tvv
      have hsm := readP_small Hrd.out
      have hk3 := Kp.new w2 (.cells #[.string (bs nm), .slice t0.ao t0.n t0.c, .slice t1.ao t1.n t1.c, .slice tl.ao tl.n tl.c] 26)
      have hO3 := hO.kp hk3
      have hE3 := (Kp.trans (Kp.trans hk1 hk2) hk3).errs hE
      have HC := Lib.hid (check_any _ E hE3 (bs nm) t0.ao t1.ao tl.ao t0.n t0.c t1.n t1.c tl.n tl.c S.b0 S.b1 S.ls hO3.is0 hO3.is1 (hO3.lnsN 5000 (by decide) (by have := hsm.1; omega) (fun l' hl' => by have := hsm.2 l' hl'; omega)))
      have HO := Lib.hid hO3
      have hP3 := ((Four.new w (.string ⟨#[]⟩) (.slice none 0 0) (.slice none 0 0) (.slice none 0 0) 26).kp hk2).kp hk3
      have hp3 := Four.new w2 (.string (bs nm)) (.slice t0.ao t0.n t0.c) (.slice t1.ao t1.n t1.c) (.slice tl.ao tl.n tl.c) 26
      have Hk3 := Lib.hid (Kp.trans (Kp.trans hk1 hk2) hk3)
      clear hsm hO hO3 hE3 hk3 HR hT hE hm
      obtain ⟨b2, hb2⟩ : ∃ b2, b2 = w.heap.size := ⟨_, rfl⟩
      have Hbe := Lib.hid hb2
      by_cases hc : checkL S.b0 S.b1 S.ls = 0
      · have Hc := Lib.hid hc
        rw [show errV E (checkL S.b0 S.b1 S.ls) = .nilIface by rw [hc]; rfl] at HC
        clear hc
        go_wp2_with fail
        (with_reducible refine HC.out.mono ?_)
        rintro e w4 ⟨rfl, hk4⟩
        have hP4 := hP3.kp hk4
        have hp4 := hp3.kp hk4
        rw [← hb2] at hP4 ⊢
        clear hb2
        obtain ⟨wf, hwf, hF, hPf⟩ := hP4.set (.string (bs nm)) (.slice t0.ao t0.n t0.c) (.slice t1.ao t1.n t1.c) (.slice tl.ao tl.n tl.c)
        obtain ⟨y0, y1, y2, y3, z0, z1, z2, z3⟩ := hP4
        obtain ⟨x0, x1, x2, x3, _, _, _, _⟩ := hp4
        obtain ⟨c0, c1, c2, c3, _, _, _, _⟩ := hPf
        have hO4 := (HO.out.kp hk4).fr hF (fun j hj => .inl (by simp at hj; have := Hbe.out; simp; omega))
        have HOf := Lib.hid (hO4.base (B' := w.heap.size) (by simp))
        have Hwf := Lib.hid hwf
        have HKf := Lib.hid (((Fr.of_kp (Kp.trans Hk3.out hk4)).step hF (fun j hj => .inr (by simp at hj; have := Hbe.out; omega))).kp)
        clear hwf hF hO4 hk4
        go_wp2_with fail
        rw [← Hwf.out]
        show bodyPost Tryz.prog Tryz.f29 (ParsePost w E ET l) .ret _ _
        refine bodyPost_ret (v := .tuple #[.agg #[.string (bs nm), tvv t0, tvv t1, tvv tl], .nilIface]) (by simp [results, Tryz.results29, go_sem, c0, c1, c2, c3, tvv]) rfl ?_
        exact ParsePost.fine Hbig.out Hrd.out Hc.out HKf.out HOf.out
      · have Hc := Lib.hid hc
        have HE := Lib.hid (show errV E (checkL S.b0 S.b1 S.ls) = .iface 229 (.pointer (some (E (checkL S.b0 S.b1 S.ls)))) by unfold errV; rw [if_neg hc])
        rw [HE.out] at HC
        clear hc
        go_wp2_with fail
        (with_reducible refine HC.out.mono ?_)
        rintro e w4 ⟨rfl, hk4⟩
        have hP4 := hP3.kp hk4
        rw [← hb2] at hP4 ⊢
        clear hb2
        obtain ⟨wf, hwf, hF, hPf⟩ := hP4.set (.string ⟨#[]⟩) (.slice none 0 0) (.slice none 0 0) (.slice none 0 0)
        obtain ⟨y0, y1, y2, y3, z0, z1, z2, z3⟩ := hP4
        obtain ⟨c0, c1, c2, c3, _, _, _, _⟩ := hPf
        have Hwf := Lib.hid hwf
        have HKf := Lib.hid (((Fr.of_kp (Kp.trans Hk3.out hk4)).step hF (fun j hj => .inr (by simp at hj; have := Hbe.out; omega))).kp)
        clear hwf hF hk4
        go_wp2_with fail
        rw [← Hwf.out]
        show bodyPost Tryz.prog Tryz.f29 (ParsePost w E ET l) .ret _ _
        refine bodyPost_ret (v := .tuple #[zeroP, errV E (checkL S.b0 S.b1 S.ls)]) (by rw [HE.out]; simp [results, Tryz.results29, go_sem, c0, c1, c2, c3]) rfl ?_
        exact ParsePost.off Hbig.out Hrd.out Hc.out HKf.out
end Go.Proofs.YtkmejehhdjdlbaaGreatDoor

namespace Go.Proofs.YtkmejehhdjdlbaaGreatDoor
open Go.RowKit

/-- An empty row in a new block. -/
theorem Own.empty (w : World) (e : TypeId) (sz : Nat) : Own (w.alloc (.cells #[] e)) w.heap.size e sz (some ⟨w.heap.size, 0, none⟩) 0 0 [] :=
  ⟨by simp, .inr ⟨w.heap.size, 0, #[], rfl, Nat.le_refl _, heap_alloc_new w _, Nat.le_refl _, Nat.zero_le _, by simp, by simp⟩⟩
def ClonePost (w : World) (n : Nat) (l : List Int) (e : Ending) (w' : World) : Prop := Kp w w' ∧ ∃ a c, e = .returned (.slice a n c) ∧ Own w' w.heap.size 3 1 a n c (l.map iv)
set_option maxRecDepth 100000 in
set_option maxHeartbeats 2000000 in
theorem clone_any (w : World) (ao : Option Addr) (n cap : Nat) (l : List Int) (hl : Is w ao n l) (hn : n ≤ 1000000) : Calls Tryz.prog 90 #[.slice ao n cap] w (ClonePost w n l) := by
  have Hl := Lib.hid hl.1
  have q22 : ∀ (w : World) (a : Option Addr) (n c n' c' : Nat), (binOp .eql 22 (.slice a n c) (.slice none n' c')).run Tryz.prog w = .ok (.bool a.isNone) w := fun w a n c n' c' => Lib.run_eql_slice_nil w _ _ a n c n' c' Tryz.underlying22
  cases ao with
  | none =>
    have hl0 : l = [] := by
      cases l with
      | nil => rfl
      | cons x r => obtain ⟨b, off, e, _⟩ := hl.2.2 0 (iv x) rfl; cases e
    subst hl0
    obtain rfl : n = 0 := Hl.out.symm
    go_enter Tryz.func90, Tryz.ntmps90
    go_wp2_with fail
    go_ret
    exact ⟨Kp.refl _, none, 0, rfl, Own.nil _ _ _ _⟩
  | some a =>
    have hk1 := Kp.new w (.cells #[] 3)
    have hO := Own.empty w 3 1
    have hsz : w.heap.size ≤ (w.alloc (.cells #[] 3)).heap.size := hk1.size
    go_enter Tryz.func90, Tryz.ntmps90
    go_wp2_with (at_builtin; go_loud (refine wpList_app rfl (.tmp 5) (.tmp 6) 22 rfl el22 w.heap.size rfl hO rfl (l.map iv) (by simp [Hl.out]) (hk1.cs hl.2.2) (by simp [Value.oneCell']) n (by omega) (l.map iv) (by simp) (by omega) hsz ?_); intro ao2 cap2 w2 ha)
    go_ret
    exact ⟨kp_own hk1 (Kp.refl _) (Nat.le_refl _) hO ha, ao2, cap2, rfl, ha.own⟩

/-- The cells of a list of messages that lies there. -/
theorem lns_cells {w : World} {al : Option Addr} {nl : Nat} {ls : List Ln} (h : Lns w al nl ls) :
    ∃ ts : List Tv, ts.length = ls.length ∧ Cs w al (lnc ls ts) ∧ ∀ (j : Nat) (t : Tv) (l : Ln), ts[j]? = some t → ls[j]? = some l → Is w t.ao t.n l.2 := by
  obtain ⟨_, _, h⟩ := h
  have hx : ∀ j : Nat, ∃ t : Tv, ∀ (hj : j < ls.length), ∃ b off, al = some ⟨b, off, none⟩ ∧ w.cell? ⟨b, off + j * 2, none⟩ = some (iv ls[j].1) ∧ w.cell? ⟨b, off + j * 2 + 1, none⟩ = some (tvv t) ∧ Is w t.ao t.n ls[j].2 := fun j => by
    by_cases hj : j < ls.length
    · obtain ⟨b, off, tp, tn, tc, h1, h2, h3, h4, _⟩ := h j hj
      exact ⟨⟨tp, tn, tc⟩, fun _ => ⟨b, off, h1, h2, h3, h4⟩⟩
    · exact ⟨nilT, fun q => absurd q hj⟩
  obtain ⟨f, hf⟩ := Classical.axiomOfChoice hx
  have hlen : ((List.range ls.length).map f).length = ls.length := by simp
  have hget : ∀ j (hj : j < ls.length), ((List.range ls.length).map f)[j]'(by rw [hlen]; exact hj) = f j := fun j hj => by simp
  refine ⟨(List.range ls.length).map f, hlen, fun i u hu => ?_, fun j t l ht hl => ?_⟩
  · have hi : i < ls.length * 2 := by
      have := (List.getElem?_eq_some_iff.1 hu).1
      rwa [lnc_length hlen] at this
    have hj : i / 2 < ls.length := by omega
    obtain ⟨b, off, h1, h2, h3, _⟩ := hf (i / 2) hj
    obtain ⟨g0, g1⟩ := lnc_get hlen (i / 2) hj
    rcases Nat.mod_two_eq_zero_or_one i with h0 | h0
    · have e : i / 2 * 2 = i := by omega
      rw [e] at g0 h2
      rw [g0] at hu
      simp only [Option.some.injEq] at hu
      subst hu
      exact ⟨b, off, h1, h2⟩
    · have e : i / 2 * 2 + 1 = i := by omega
      rw [e] at g1
      rw [Nat.add_assoc, e] at h3
      rw [g1] at hu
      simp only [Option.some.injEq] at hu
      subst hu
      rw [hget _ hj]
      exact ⟨b, off, h1, h3⟩
  · obtain ⟨hj, rfl⟩ := List.getElem?_eq_some_iff.1 hl
    have ht' := (List.getElem?_eq_some_iff.1 ht).2
    rw [hget _ hj] at ht'
    subst ht'
    obtain ⟨_, _, _, _, _, h4⟩ := hf j hj
    exact h4
theorem lnc_one : ∀ {ls : List Ln} {ts : List Tv}, ∀ u ∈ lnc ls ts, u.oneCell' = true
  | [], _, u, h => by simp [lnc] at h
  | _ :: _, [], u, h => by simp [lnc] at h
  | l :: r, t :: s, u, h => by
    simp only [lnc, List.mem_cons] at h
    rcases h with rfl | rfl | h
    · rfl
    · rfl
    · exact lnc_one u h
def CloneLPost (w : World) (n : Nat) (xs : List Value) (e : Ending) (w' : World) : Prop := Kp w w' ∧ ∃ a c, e = .returned (.slice a n c) ∧ Own w' w.heap.size 73 2 a n c xs
set_option maxRecDepth 100000 in
set_option maxHeartbeats 2000000 in
theorem cloneL_any (w : World) (ao : Option Addr) (n cap : Nat) (xs : List Value) (hl : xs.length = n * 2) (hc : Cs w ao xs) (h1 : ∀ u ∈ xs, u.oneCell' = true) (hn : n ≤ 1000000) : Calls Tryz.prog 91 #[.slice ao n cap] w (CloneLPost w n xs) := by
  have Hl := Lib.hid hl
  have q24 : ∀ (w : World) (a : Option Addr) (n c n' c' : Nat), (binOp .eql 24 (.slice a n c) (.slice none n' c')).run Tryz.prog w = .ok (.bool a.isNone) w := fun w a n c n' c' => Lib.run_eql_slice_nil w _ _ a n c n' c' Tryz.underlying24
  cases ao with
  | none =>
    have hl0 : xs = [] := by
      cases xs with
      | nil => rfl
      | cons x r => obtain ⟨b, off, e, _⟩ := hc 0 x rfl; cases e
    subst hl0
    obtain rfl : n = 0 := by simp at hl; omega
    clear hl
    go_enter Tryz.func91, Tryz.ntmps91
    go_wp2_with fail
    go_ret
    exact ⟨Kp.refl _, none, 0, rfl, Own.nil _ _ _ _⟩
  | some a =>
    have hk1 := Kp.new w (.cells #[] 73)
    have hO := Own.empty w 73 2
    have hsz : w.heap.size ≤ (w.alloc (.cells #[] 73)).heap.size := hk1.size
    go_enter Tryz.func91, Tryz.ntmps91
    go_wp2_with (at_builtin; go_loud (refine wpList_app rfl (.tmp 5) (.tmp 6) 24 rfl el24 w.heap.size rfl hO rfl xs Hl.out (hk1.cs hc) h1 n (by omega) xs (by simp) (by omega) hsz ?_); intro ao2 cap2 w2 ha)
    go_ret
    exact ⟨kp_own hk1 (Kp.refl _) (Nat.le_refl _) hO ha, ao2, cap2, rfl, ha.own⟩
end Go.Proofs.YtkmejehhdjdlbaaGreatDoor

namespace Go.Proofs.YtkmejehhdjdlbaaGreatDoor
open Go.RowKit

def ClonedPost (w : World) (nm : ByteArray) (b0 b1 : List Int) (ls : List Ln) (e : Ending) (w' : World) : Prop :=
  Kp w w' ∧ ∃ t0 t1 tl ts, e = .returned (.agg #[.string nm, tvv t0, tvv t1, tvv tl]) ∧ ts.length = ls.length ∧ Sep w' w.heap.size (rowsP t0 t1 tl ts b0 b1 ls)
theorem lnc_set : ∀ (ls : List Ln) (ts : List Tv) (j : Nat) (t : Tv), ts.length = ls.length → (lnc ls ts).set (j * 2 + 1) (tvv t) = lnc ls (ts.set j t)
  | [], [], _, _, _ => by simp [lnc]
  | l :: ls, s :: ts, 0, t, _ => by simp [lnc]
  | l :: ls, s :: ts, j + 1, t, h => by
    simp only [List.length_cons] at h
    have e : (j + 1) * 2 + 1 = (j * 2 + 1) + 1 + 1 := by omega
    rw [e]
    simp only [lnc, List.set_cons_succ]
    rw [lnc_set ls ts j t (by omega)]
/-- When k of the two rows are copied. -/
def ClA (w : World) (bx : Nat) (nm : ByteArray) (a0 a1 al : Option Addr) (n0 c0 n1 c1 nl cl : Nat) (b0 b1 : List Int) (k : Nat) (wr : World) : Prop :=
  ∃ t0 t1, Four wr bx (.string nm) (tvv t0) (tvv t1) (.slice al nl cl) ∧ Four wr (bx + 1) (.string ⟨#[]⟩) (.slice none 0 0) (.slice none 0 0) (.slice none 0 0) ∧ Kp w wr ∧
    (k = 0 → t0 = ⟨a0, n0, c0⟩) ∧ (k ≤ 1 → t1 = ⟨a1, n1, c1⟩) ∧ (k = 1 → Sep wr (bx + 2) [⟨3, 1, t0, b0.map iv⟩]) ∧ (k = 2 → Sep wr (bx + 2) [⟨3, 1, t1, b1.map iv⟩, ⟨3, 1, t0, b0.map iv⟩])
theorem Four.lt {w : World} {b : Nat} {x y z u : Value} (h : Four w b x y z u) : b < w.heap.size := World.block_lt_of_cell? w _ h.c0
theorem cl_step {w w3 : World} {B g n c k : Nat} {us : List Tv} {ls : List Ln} {R0 R1 : Rw} (h : Sep w B (⟨73, 2, ⟨some ⟨g, 0, none⟩, n, c⟩, lnc ls us⟩ :: R0 :: R1 :: rowsT (us.take k) (ls.take k))) (hl : us.length = ls.length) (hk : k < ls.length) (hk3 : Kp w w3) (t : Tv) (hO : Own w3 w.heap.size 3 1 t.ao t.n t.c (ls[k].2.map iv)) (hB : B ≤ w.heap.size) :
    Sep (w3.setCell ⟨g, k * 2 + 1, none⟩ (tvv t)) B (⟨73, 2, ⟨some ⟨g, 0, none⟩, n, c⟩, lnc ls (us.set k t)⟩ :: R0 :: R1 :: rowsT ((us.set k t).take (k + 1)) (ls.take (k + 1))) := by
  have h1 := (h.new hk3 (r := rowT t ls[k]) hO hB).perm (List.perm_append_singleton (rowT t ls[k]) (⟨73, 2, ⟨some ⟨g, 0, none⟩, n, c⟩, lnc ls us⟩ :: R0 :: R1 :: rowsT (us.take k) (ls.take k))).symm
  have h2 := Sep.store h1 (k * 2 + 1) (tvv t)
  rw [lnc_set ls us k t hl] at h2
  have e : rowsT ((us.set k t).take (k + 1)) (ls.take (k + 1)) = rowsT (us.take k) (ls.take k) ++ [rowT t ls[k]] := by
    have hku : k < us.length := by omega
    rw [take_step ls k hk, take_step (us.set k t) k (by rw [List.length_set]; exact hku), List.getElem_set_self, List.take_set_of_le (Nat.le_refl k)]
    exact rowsT_append _ _ _ _ (by rw [List.length_take, List.length_take]; omega)
  rw [e]
  exact h2
/-- The cells that a round looks at. -/
structure ClC (bx g o : Nat) (vl vt : Value) (w : World) : Prop where
  p : w.cell? ⟨bx, 3, none⟩ = some vl
  c : w.cell? ⟨g, o, none⟩ = some vt
theorem ClC.kp {bx g o : Nat} {vl vt : Value} {w w' : World} (h : ClC bx g o vl vt w) (k : Kp w w') : ClC bx g o vl vt w' := ⟨k.cell h.p, k.cell h.c⟩
set_option maxRecDepth 100000 in
set_option maxHeartbeats 8000000 in
theorem cloned_any (w : World) (nm : ByteArray) (a0 a1 al : Option Addr) (n0 c0 n1 c1 nl cl : Nat) (b0 b1 : List Int) (ls : List Ln) (hP : PatI w a0 a1 al n0 n1 nl b0 b1 ls) (hs : ShortM nm n0 n1 nl ls) :
    Calls Tryz.prog 51 #[patV nm a0 a1 al n0 c0 n1 c1 nl cl] w (ClonedPost w nm b0 b1 ls) := by
  have Hs := Lib.hid hs
  have HP := Lib.hid hP
  have hkA := Kp.new w (.cells #[.string nm, .slice a0 n0 c0, .slice a1 n1 c1, .slice al nl cl] 26)
  have hkB := Kp.new (w.alloc (.cells #[.string nm, .slice a0 n0 c0, .slice a1 n1 c1, .slice al nl cl] 26)) (.cells #[.string ⟨#[]⟩, .slice none 0 0, .slice none 0 0, .slice none 0 0] 26)
  have hFA := (Four.new w (.string nm) (.slice a0 n0 c0) (.slice a1 n1 c1) (.slice al nl cl) 26).kp hkB
  have hFB := Four.new (w.alloc (.cells #[.string nm, .slice a0 n0 c0, .slice a1 n1 c1, .slice al nl cl] 26)) (.string ⟨#[]⟩) (.slice none 0 0) (.slice none 0 0) (.slice none 0 0) 26
  rw [World.size_alloc] at hFB
  have hkw := Kp.trans hkA hkB
  clear hkA hkB hP hs
  go_enter Tryz.func51, Tryz.ntmps51
  go_upto_region 1 with fail
  obtain ⟨bx, hbx⟩ : ∃ bx, bx = w.heap.size := ⟨_, rfl⟩
  rw [← hbx] at hFA hFB ⊢
  generalize (w.alloc (.cells #[.string nm, .slice a0 n0 c0, .slice a1 n1 c1, .slice al nl cl] 26)).alloc (.cells #[.string ⟨#[]⟩, .slice none 0 0, .slice none 0 0, .slice none 0 0] 26) = wb at *
  have Hbx := Lib.hid hbx
  clear hbx
  have hA : ClA w bx nm a0 a1 al n0 c0 n1 c1 nl cl b0 b1 0 wb := ⟨⟨a0, n0, c0⟩, ⟨a1, n1, c1⟩, hFA, hFB, hkw, fun _ => rfl, fun _ => rfl, fun h => by omega, fun h => by omega⟩
  clear hFA hFB hkw
  go_wp2_with fail
  go_loopw [5] (fun i wr => ∃ k : Nat, k ≤ 2 ∧ i = .int .i64 (k : Nat) ∧ ClA w bx nm a0 a1 al n0 c0 n1 c1 nl cl b0 b1 k wr) (fun i _ => 2 - (intOf i).toNat)
  case atStart => exact ⟨0, by omega, rfl, hA⟩
  case round =>
    clear hA
    obtain ⟨k, hk, rfl, t0, t1, hF, hG, hkr, e0, e1, s1, s2⟩ := hrel
    rename World => wr
    obtain h | h | h : k = 0 ∨ k = 1 ∨ k = 2 := by omega
    · subst h
      rw [show ((0 : Nat) : Int) = 0 from rfl]
      replace e0 := e0 rfl
      replace e1 := e1 (by omega)
      subst e0; subst e1
      clear s1 s2
      have HC := Lib.hid (clone_any wr a0 n0 c0 b0 (hkr.is HP.out.i0) (by have := Hs.out.n0; omega))
      have HF := Lib.hid hF
      have hbl := hG.lt
      unfold tvv at hF
      obtain ⟨y0, y1, y2, y3, z0, z1, z2, z3⟩ := hF
      go_wp2_with fail
      (with_reducible refine HC.out.mono ?_)
      rintro e w3 ⟨hk3, a, c, rfl, hO⟩
      have hF3 := HF.out.kp hk3
      have hset := Fr.set w3 ⟨bx, 1, none⟩ (.slice a n0 c)
      have Hfin := Lib.hid (show ClA w bx nm a0 a1 al n0 c0 n1 c1 nl cl b0 b1 1 (w3.setCell ⟨bx, 1, none⟩ (.slice a n0 c)) from
        ⟨⟨a, n0, c⟩, ⟨a1, n1, c1⟩, hF3.set1 _, (hG.kp hk3).fr hset (by simp), kp_step' (Kp.trans hkr hk3) hset (by intro j hj; simp at hj; have := Hbx.out; omega), fun h => by omega, fun _ => rfl,
          fun _ => ⟨fun r hr => by simp only [List.mem_singleton] at hr; subst hr; exact Own.mono (hset.own hO (fun x hx hq => by have := (hO.lt x (mem_blkL.1 hx)).1; simp at hq; omega)) (fun x hx => by have := (hO.lt x hx).1; omega), by simp⟩, fun h => by omega⟩)
      clear y0 y1 y2 y3 z0 z1 z2 z3 hset
      obtain ⟨y0, y1, y2, y3, z0, z1, z2, z3⟩ := hF3
      unfold tvv at y1 y2
      clear hk3 hO hG hkr
      go_wp2_with fail
      go_roundw
      case rel => exact ⟨1, by omega, rfl, Hfin.out⟩
      case measure => simp [intOf]
    · subst h
      rw [show ((1 : Nat) : Int) = 1 from rfl]
      replace e1 := e1 (by omega)
      replace s1 := s1 rfl
      subst e1
      clear s2 e0
      have HC := Lib.hid (clone_any wr a1 n1 c1 b1 (hkr.is HP.out.i1) (by have := Hs.out.n1; omega))
      have HF := Lib.hid hF
      have hbl := hG.lt
      unfold tvv at hF
      obtain ⟨y0, y1, y2, y3, z0, z1, z2, z3⟩ := hF
      go_wp2_with fail
      (with_reducible refine HC.out.mono ?_)
      rintro e w3 ⟨hk3, a, c, rfl, hO⟩
      have hF3 := HF.out.kp hk3
      have hset := Fr.set w3 ⟨bx, 2, none⟩ (.slice a n1 c)
      have Hfin := Lib.hid (show ClA w bx nm a0 a1 al n0 c0 n1 c1 nl cl b0 b1 2 (w3.setCell ⟨bx, 2, none⟩ (.slice a n1 c)) from
        ⟨t0, ⟨a, n1, c⟩, hF3.set2 _, (hG.kp hk3).fr hset (by simp), kp_step' (Kp.trans hkr hk3) hset (by intro j hj; simp at hj; have := Hbx.out; omega), fun h => by omega, fun h => by omega,
          fun h => by omega, fun _ => (s1.new hk3 (r := ⟨3, 1, ⟨a, n1, c⟩, b1.map iv⟩) hO (by omega)).fr hset (by intro x hx; simp at hx; omega)⟩)
      clear y0 y1 y2 y3 z0 z1 z2 z3 hset
      obtain ⟨y0, y1, y2, y3, z0, z1, z2, z3⟩ := hF3
      unfold tvv at y1 y2
      clear hk3 hO hG hkr s1
      go_wp2_with fail
      go_roundw
      case rel => exact ⟨2, by omega, rfl, Hfin.out⟩
      case measure => simp [intOf]
    · subst h
      rw [show ((2 : Nat) : Int) = 2 from rfl]
      replace s2 := s2 rfl
      clear s1 e0 e1
      obtain ⟨ts0, hts, hcs, hti⟩ := lns_cells HP.out.il
      have HC := Lib.hid (cloneL_any wr al nl cl (lnc ls ts0) (by rw [lnc_length hts, HP.out.il.1]) (hkr.cs hcs) lnc_one (by have := Hs.out.nl; omega))
      have Hti := Lib.hid hti
      have HF := Lib.hid hF
      have hbl := hG.lt
      unfold tvv at hF
      obtain ⟨y0, y1, y2, y3, z0, z1, z2, z3⟩ := hF
      clear hti hcs
      go_wp2_with fail
      (with_reducible refine HC.out.mono ?_)
      rintro e w3 ⟨hk3, a, c, rfl, hO⟩
      have hF3 := HF.out.kp hk3
      have hset := Fr.set w3 ⟨bx, 3, none⟩ (.slice a nl c)
      have hF4 := hF3.set3 (.slice a nl c)
      have hG4 := (hG.kp hk3).fr hset (by simp)
      have hk4 := kp_step' (Kp.trans hkr hk3) hset (by intro j hj; simp at hj; have := Hbx.out; omega)
      have hS4 := (s2.new hk3 (r := ⟨73, 2, ⟨a, nl, c⟩, lnc ls ts0⟩) hO (by omega)).fr hset (by intro x hx; simp at hx; omega)
      clear y0 y1 y2 y3 z0 z1 z2 z3 hset hk3 hO hG hkr s2 HF HC
      obtain ⟨y0, y1, y2, y3, z0, z1, z2, z3⟩ := hF3
      unfold tvv at y1 y2
      go_upto_region 7 with fail
      generalize w3.setCell ⟨bx, 3, none⟩ (.slice a nl c) = w4 at *
      clear y0 y1 y2 y3 z0 z1 z2 z3
      have HF4 := Lib.hid hF4
      obtain ⟨y0, y1, y2, y3, z0, z1, z2, z3⟩ := hF4
      go_wp2_with fail
      have hN : nl ≤ 2000 := Hs.out.nl
      have hll := HP.out.il.1
      have hS0 : Sep w4 (bx + 2) (⟨73, 2, ⟨a, nl, c⟩, lnc ls ts0⟩ :: ⟨3, 1, t1, b1.map iv⟩ :: ⟨3, 1, t0, b0.map iv⟩ :: rowsT (ts0.take 0) (ls.take 0)) := hS4
      clear y0 y1 y2 y3 z0 z1 z2 z3
      go_loopw [24] (fun i wr => ∃ (k : Nat) (us : List Tv), k ≤ nl ∧ i = .int .i64 (k : Nat) ∧ us.length = ls.length ∧ (∀ j, k ≤ j → us[j]? = ts0[j]?) ∧ Sep wr (bx + 2) (⟨73, 2, ⟨a, nl, c⟩, lnc ls us⟩ :: ⟨3, 1, t1, b1.map iv⟩ :: ⟨3, 1, t0, b0.map iv⟩ :: rowsT (us.take k) (ls.take k)) ∧ Kp w wr ∧ Four wr bx (.string nm) (.slice t0.ao t0.n t0.c) (.slice t1.ao t1.n t1.c) (.slice a nl c) ∧ Four wr (bx + 1) (.string ⟨#[]⟩) (.slice none 0 0) (.slice none 0 0) (.slice none 0 0)) (fun i _ => nl - (intOf i).toNat)
      case atStart => exact ⟨0, ts0, by omega, rfl, hts, fun _ _ => rfl, hS0, hk4, HF4.out, hG4⟩
      case round =>
        clear hS0 hS4 hk4 hG4 HF4
        obtain ⟨k, us, hk, rfl, hus, heq, hS, hkv, hF, hG⟩ := hrel
        rename World => wv
        by_cases hkn : k < nl
        · have hkl : k < ls.length := by omega
          have hku : k < us.length := by omega
          obtain ⟨g, ea⟩ := Own.blockOf hS.head (by simp only; omega)
          simp only at ea
          subst ea
          obtain ⟨_, g1⟩ := lnc_get hus k hkl
          have hcg : wv.cell? ⟨g, k * 2 + 1, none⟩ = some (tvv (us[k]'hku)) := by
            have := Own.cell hS.head (k * 2 + 1) (by simp only; omega)
            rw [this]; exact g1
          have hIu : Is wv (us[k]'hku).ao (us[k]'hku).n ls[k].2 := by
            have e1 : ts0[k]? = some (us[k]'hku) := by rw [← heq k (Nat.le_refl _)]; exact List.getElem?_eq_getElem hku
            exact hkv.is (Hti.out k _ _ e1 (List.getElem?_eq_getElem hkl))
          have hun : (us[k]'hku).n ≤ 2000 := by
            have := Hs.out.ts _ (List.getElem_mem hkl)
            have := hIu.1
            omega
          have HC := Lib.hid (fun (wq : World) (hkq : Kp wv wq) => clone_any wq (us[k]'hku).ao (us[k]'hku).n (us[k]'hku).c ls[k].2 (hkq.is hIu) (by omega))
          have Hst := Lib.hid (fun (wq w3 : World) (hkq : Kp wv wq) (hk3 : Kp wq w3) (t : Tv) (hO : Own w3 wq.heap.size 3 1 t.ao t.n t.c (ls[k].2.map iv)) => cl_step (hS.kp hkq) hus hkl hk3 t hO (by have := hG.lt; have := hkq.size; omega))
          have HF := Lib.hid hF
          have HG := Lib.hid hG
          have Hkv := Lib.hid hkv
          have hfz : ∀ (wq w3 : World), Kp wv wq → Kp wq w3 → w3.frozen? ⟨g, k * 2 + 1, none⟩ = false := fun wq w3 h1 h2 => Own.free (Own.keep (Own.keep hS.head h1) h2) (k * 2 + 1)
          have hbg : bx + 2 ≤ g ∧ g < wv.heap.size := Rw.lt hS.head (x := g) (mem_blkL_some.2 rfl)
          have Hus := Lib.hid heq
          have HS := Lib.hid hS
          have y3 := hF.c3
          clear hS hF hG hkv heq g1 hIu hun
          obtain ⟨ua, un, uc, hue⟩ : ∃ ua un uc, us[k]'hku = ⟨ua, un, uc⟩ := ⟨_, _, _, rfl⟩
          rw [hue] at hcg HC
          unfold tvv at hcg
          simp only at hcg HC
          go_upto_region 10 with fail
          refine anyP_start (ClC bx g (k * 2 + 1) (.slice (some ⟨g, 0, none⟩) nl c) (.slice ua un uc)) 12 (fun _ => True) (fun _ _ => False) (by kernel_rfl) (fun _ _ _ _ h => h.elim) ?_
          obtain ⟨wq, hwq⟩ : ∃ wq, wq = wv.drew := ⟨_, rfl⟩
          have hkq : Kp wv wq := hwq ▸ (⟨rfl, rfl, rfl, Nat.le_refl _, fun _ _ => rfl⟩ : Kp wv wv.drew)
          have HCq := Lib.hid (HC.out wq hkq)
          rw [← hwq]
          have hq : ClC bx g (k * 2 + 1) (.slice (some ⟨g, 0, none⟩) nl c) (.slice ua un uc) wq := ⟨hkq.cell y3, hkq.cell hcg⟩
          clear hwq HC y3 hcg
          refine anyP_take puts_true [0, 2, 3, 5] (by kernel_rfl) hq ?_
          simp only [opsAt, List.getElem?_toArray, List.getElem?_cons_zero, List.getElem?_cons_succ]
          repeat (go_big_quiet_step (fail))
          refine wpQuiet_nil ?_
          refine anyP_load puts_true 1 28 (.slice (some ⟨g, 0, none⟩) nl c) rfl rfl (by kernel_rfl) hq (fun w h => exec_load24 h.p rfl rfl) ?_
          simp only [Act.put, List.setIfInBounds_toArray, List.set_cons_zero, List.set_cons_succ]
          refine anyP_load puts_true 4 31 (.slice (some ⟨g, 0, none⟩) nl c) rfl rfl (by kernel_rfl) hq (fun w h => exec_load24 h.p rfl rfl) ?_
          simp only [Act.put, List.setIfInBounds_toArray, List.set_cons_zero, List.set_cons_succ]
          refine anyP_take puts_true [6, 7] (by kernel_rfl) hq ?_
          simp only [opsAt, List.getElem?_toArray, List.getElem?_cons_zero, List.getElem?_cons_succ]
          repeat (go_big_quiet_step (fail))
          refine wpQuiet_nil ?_
          refine anyP_load puts_true 8 35 (.slice ua un uc) rfl rfl (by kernel_rfl) hq (fun w h => exec_load22 h.c (by simp [Act.eval]) rfl) ?_
          simp only [Act.put, List.setIfInBounds_toArray, List.set_cons_zero, List.set_cons_succ]
          refine anyP_one 9 (by kernel_rfl) ?_
          simp only [opsAt, List.getElem?_toArray, List.getElem?_cons_zero, List.getElem?_cons_succ]
          go_wp2_with (go_at_call 90; go_loud (refine HCq.out.mono ?_); rintro e w3 ⟨hk3, a, d, rfl, hO⟩)
          have hq3 := hq.kp hk3
          refine ⟨fun _ => hq3, ?_⟩
          have Hs3 := Lib.hid (Hst.out wq w3 hkq hk3 ⟨a, un, d⟩ hO)
          unfold tvv at Hs3
          simp only at Hs3
          have hlt3 := hk3.size
          have hltq := hkq.size
          have hset := Fr.set w3 ⟨g, k * 2 + 1, none⟩ (.slice a un d)
          have hfz3 : w3.frozen? ⟨g, k * 2 + 1, none⟩ = false := hfz wq w3 hkq hk3
          refine anyP_one 10 (by kernel_rfl) ?_
          simp only [opsAt, List.getElem?_toArray, List.getElem?_cons_zero, List.getElem?_cons_succ]
          go_wp2_with fail
          refine ⟨fun _ => hq3, ?_⟩
          refine anyP_one 11 (by kernel_rfl) ?_
          simp only [opsAt, List.getElem?_toArray, List.getElem?_cons_zero, List.getElem?_cons_succ]
          go_wp2_with fail
          refine ⟨fun _ => hq3, ?_⟩
          obtain ⟨_, c3⟩ := hq3
          refine anyP_one 12 (by kernel_rfl) ?_
          simp only [opsAt, List.getElem?_toArray, List.getElem?_cons_zero, List.getElem?_cons_succ]
          clear hq
          go_wp2_with fail
          refine ⟨fun h => absurd rfl h, ?_⟩
          refine anyP_end (by kernel_rfl) ?_
          have Hfin := Lib.hid (And.intro (kp_step' (Kp.trans (Kp.trans Hkv.out hkq) hk3) hset (by intro j hj; simp at hj; have := Hbx.out; omega)) (And.intro (((HF.out.kp hkq).kp hk3).fr hset (by simp; omega)) (((HG.out.kp hkq).kp hk3).fr hset (by simp; omega))))
          clear hset c3 hfz3 hk3 hkq hO
          go_wp2_with fail
          go_roundw
          case rel => exact ⟨k + 1, us.set k ⟨a, un, d⟩, by omega, by go_num, by simp [hus], fun j hj => by rw [List.getElem?_set_ne (by omega)]; exact Hus.out j (by omega), Hs3.out, Hfin.out.1, Hfin.out.2.1, Hfin.out.2.2⟩
          case measure => simp [intOf]; omega
        · obtain rfl : k = nl := by omega
          have Hk := Lib.hid hkv
          have hlk : ls.length = k := hll
          have hS2 := (hS.perm (rs' := rowsP t0 t1 ⟨a, k, c⟩ us b0 b1 ls) (by
            rw [List.take_of_length_le (by omega), List.take_of_length_le (by omega)]
            unfold rowsP
            exact (List.perm_middle (l₁ := [_, _])).symm.trans (List.Perm.swap _ _ _)))
          have HS2 := Lib.hid hS2
          clear hS hS2 heq hkv
          obtain ⟨wf, hwf, hFf, h4⟩ := hG.set (.string nm) (.slice t0.ao t0.n t0.c) (.slice t1.ao t1.n t1.c) (.slice a k c)
          have HK := Lib.hid (kp_step' Hk.out hFf (by intro j hj; simp at hj; have := Hbx.out; omega))
          have HSf := Lib.hid ((HS2.out.fr hFf (by intro x hx; simp at hx; omega)).base (B' := w.heap.size) (by have := Hbx.out; omega))
          have Hwf := Lib.hid hwf
          obtain ⟨q0, q1, q2, q3, _, _, _, _⟩ := h4
          obtain ⟨y0, y1, y2, y3, z0, z1, z2, z3⟩ := hF
          obtain ⟨x0, x1, x2, x3, f0, f1, f2, f3⟩ := hG
          clear hwf hFf
          go_wp2_with fail
          rw [← Hwf.out]
          show bodyPost Tryz.prog Tryz.f51 (ClonedPost w nm b0 b1 ls) .ret _ _
          refine bodyPost_ret (v := .agg #[.string nm, tvv t0, tvv t1, tvv ⟨a, k, c⟩]) (by simp [results, Tryz.results51, go_sem, q0, q1, q2, q3, tvv]) rfl ?_
          exact ⟨HK.out, t0, t1, ⟨a, k, c⟩, us, rfl, hus, HSf.out⟩
end Go.Proofs.YtkmejehhdjdlbaaGreatDoor

namespace Go.Proofs.YtkmejehhdjdlbaaGreatDoor
open Go.RowKit Go.Maps

set_option maxHeartbeats 2000000 in
theorem after_any (s : ByteArray) (m : Int) (w : World) (hs : s.size < 4294967281) (hm : MaxV w m) : Calls Tryz.prog 110 #[.string s, .string ⟨#[10, 10]⟩] w fun e w' =>
    e = .returned (.slice (some ⟨w.heap.size, 0, none⟩) (Lib.countB s ⟨#[10, 10]⟩ + 1) (Lib.countB s ⟨#[10, 10]⟩ + 1)) ∧ w' = w.alloc (.cells ((Lib.splitB ⟨#[10, 10]⟩ 2 (Lib.countB s ⟨#[10, 10]⟩) s).map Value.string).toArray 9) := by
  have hc : Lib.countB s ⟨#[10, 10]⟩ ≤ s.size := Lib.countB_le _ (by decide) _ _ (Nat.le_refl _)
  have H := Tryz.strings_genSplit s ⟨#[10, 10]⟩ 2 (-1) (Lib.countB s ⟨#[10, 10]⟩ + 1) m w hs hm (by decide) (by decide) (by decide) (by decide) (by simp; omega)
  have hl := Lib.splitB_all ⟨#[10, 10]⟩ (by decide) 2 (Lib.countB s ⟨#[10, 10]⟩) s rfl
  rw [Nat.add_sub_cancel, hl] at H
  change Calls Tryz.prog 131 #[.string s, .string ⟨#[10, 10]⟩, .int .i64 2, .int .i64 (-1)] w _ at H
  have Hl := Lib.hid hl
  have HH := Lib.hid H
  clear hl H hc hm
  obtain ⟨n, hn⟩ : ∃ n, n = Lib.countB s ⟨#[10, 10]⟩ := ⟨_, rfl⟩
  rw [← hn] at HH Hl ⊢
  clear hn
  go_enter Tryz.func110, Tryz.ntmps110
  go_wp2_with fail
  (with_reducible refine HH.out.mono ?_)
  rintro e w1 ⟨rfl, rfl⟩
  go_wp2_with fail
  go_ret
  have := Hl.out
  simp [Lib.cellsOf, this]

/-- Block r is a map that holds these pairs of texts, in this order. -/
def Born (arr : Array MapEntry) (clock : Nat) : Prop := (∀ x ∈ arr.toList, x.born < clock) ∧ (arr.toList.map (·.born)).Nodup
theorem Born.push {arr : Array MapEntry} {clock : Nat} (h : Born arr clock) (k v : Value) : Born (arr.push { key := k, val := v, born := clock }) (clock + 1) := by
  obtain ⟨h1, h2⟩ := h
  refine ⟨fun x hx => ?_, ?_⟩
  · rw [Array.toList_push] at hx
    rcases List.mem_append.1 hx with q | q
    · have := h1 x q; omega
    · simp only [List.mem_singleton] at q; rw [q]; exact Nat.lt_succ_self _
  · rw [Array.toList_push, List.map_append]
    refine List.nodup_append.2 ⟨h2, by simp, fun a ha b hb => ?_⟩
    obtain ⟨x, hx, rfl⟩ := List.mem_map.1 ha
    simp only [List.map_cons, List.map_nil, List.mem_singleton] at hb
    have := h1 x hx
    omega
def Tbl (w : World) (r : Nat) (K : List (ByteArray × ByteArray)) : Prop := ∃ arr clock, w.heap[r]? = some (.map arr clock) ∧ arr.toList.map (fun e => (e.key, e.val)) = K.map (fun x => (Value.string x.1, Value.agg #[.string x.2])) ∧ Born arr clock
theorem Kp.tbl {w w' : World} (h : Kp w w') {r : Nat} {K : List (ByteArray × ByteArray)} (hx : Tbl w r K) : Tbl w' r K := by
  obtain ⟨arr, clock, h1, h2, h3⟩ := hx
  exact ⟨arr, clock, by rw [h.block r (Array.getElem?_eq_some_iff.1 h1).1]; exact h1, h2, h3⟩
theorem Tbl.new (w : World) (clock : Nat) : Tbl (w.alloc (.map #[] clock)) w.heap.size [] := ⟨#[], clock, (MapKept.heap_alloc w _).1, rfl, by simp [Born]⟩
theorem skeyed : Keyed Tryz.prog 9 := string_keyed Tryz.underlying9
theorem skey {s : ByteArray} (hs : s.size ≤ maxLen) : ∃ l, keyOf Tryz.prog 9 (.string s) = some l := ⟨_, Go.WideMaps.keyOf_string_mk Tryz.underlying9 hs⟩
theorem getMap_run {w : World} {r : Nat} {arr : Array MapEntry} {clock : Nat} (h : w.heap[r]? = some (.map arr clock)) : (getObj r).run Tryz.prog w = .ok (.map arr clock) w := by
  simp [getObj, Sem.run, h]
theorem setMap_run {w : World} {r : Nat} {arr : Array MapEntry} {clock : Nat} (o : Obj) (h : w.heap[r]? = some (.map arr clock)) : (setObj r o).run Tryz.prog w = .ok () { w with heap := w.heap.setIfInBounds r o } := by
  simp [setObj, Sem.run, h]
theorem Tbl.mem {w : World} {r : Nat} {K : List (ByteArray × ByteArray)} {arr : Array MapEntry} (h2 : arr.toList.map (fun e => (e.key, e.val)) = K.map (fun x => (Value.string x.1, Value.agg #[.string x.2]))) (_hw : w = w) (_hr : r = r) :
    ∀ e ∈ arr.toList, ∃ x ∈ K, e.key = .string x.1 ∧ e.val = .agg #[.string x.2] := fun e he => by
  have hm : (e.key, e.val) ∈ K.map (fun x => (Value.string x.1, Value.agg #[.string x.2])) := by rw [← h2]; exact List.mem_map.2 ⟨e, he, rfl⟩
  obtain ⟨x, hx, he⟩ := List.mem_map.1 hm
  simp only [Prod.mk.injEq] at he
  exact ⟨x, hx, he.1.symm, he.2.symm⟩
theorem Tbl.put {w : World} {r : Nat} {K : List (ByteArray × ByteArray)} (h : Tbl w r K) (k t : ByteArray) (hs : ∀ x ∈ K, x.1.size ≤ maxLen) (hks : k.size ≤ maxLen) (hk : ∀ x ∈ K, x.1 ≠ k) :
    ∃ w', (Instr.mapUpdate 116 (.map (some r)) (.string k) (.agg #[.string t])).run Tryz.prog w = .ok () w' ∧ Tbl w' r (K ++ [(k, t)]) ∧ Fr [r] w w' := by
  obtain ⟨arr, clock, h1, h2, h3⟩ := h
  have hmem := Tbl.mem (w := w) (r := r) h2 rfl rfl
  obtain ⟨l, hl⟩ := skey hks
  have hnone : (Instr.findKey 9 (.string k) arr.toList).run Tryz.prog w = .ok none w := by
    rcases skeyed.find w hl arr.toList (fun e he => by obtain ⟨x, hx0, hx, _⟩ := hmem e he; rw [hx]; exact skey (hs x hx0)) with ⟨h, _⟩ | ⟨j, e, _, he, hq⟩
    · exact h
    · obtain ⟨x, hx, hx1, _⟩ := hmem e (List.mem_of_getElem? he)
      rw [hx1] at hq
      simp only [Value.string.injEq] at hq
      exact absurd hq (hk x hx)
  have hlt : r < w.heap.size := (Array.getElem?_eq_some_iff.1 h1).1
  refine ⟨{ w with heap := w.heap.setIfInBounds r (.map (arr.push { key := .string k, val := .agg #[.string t], born := clock }) (clock + 1)) }, ?_, ⟨arr.push { key := .string k, val := .agg #[.string t], born := clock }, clock + 1, by simp [hlt], ?_, h3.push _ _⟩, ⟨rfl, rfl, rfl, by simp, fun i _ hi => by
      simp only [List.mem_singleton] at hi
      simp [Ne.symm hi]⟩⟩
  · simp only [Instr.mapUpdate, Sem.run_bind, run_underlying Tryz.underlying116, Result.andThen_ok, getMap_run h1, skeyed.check w _ hl, hnone, setMap_run _ h1]
  · rw [Array.toList_push, List.map_append, h2, List.map_append]; rfl
theorem Tbl.get {w : World} {r : Nat} {K : List (ByteArray × ByteArray)} (h : Tbl w r K) (k : ByteArray) (hs : ∀ x ∈ K, x.1.size ≤ maxLen) (hks : k.size ≤ maxLen) :
    ((∀ x ∈ K, x.1 ≠ k) ∧ (Instr.lookup 116 (.map (some r)) (.string k) true).run Tryz.prog w = .ok (.tuple #[.agg #[.string ⟨#[]⟩], .bool false]) w) ∨
    (∃ x ∈ K, x.1 = k ∧ (Instr.lookup 116 (.map (some r)) (.string k) true).run Tryz.prog w = .ok (.tuple #[.agg #[.string x.2], .bool true]) w) := by
  obtain ⟨arr, clock, h1, h2, h3⟩ := h
  have hmem := Tbl.mem (w := w) (r := r) h2 rfl rfl
  obtain ⟨l, hl⟩ := skey hks
  rcases skeyed.find w hl arr.toList (fun e he => by obtain ⟨x, hx0, hx, _⟩ := hmem e he; rw [hx]; exact skey (hs x hx0)) with ⟨h, hn⟩ | ⟨j, e, hrun, he, hq⟩
  · left
    refine ⟨fun x hx hc => ?_, ?_⟩
    · have hm : (Value.string x.1, Value.agg #[.string x.2]) ∈ arr.toList.map (fun e => (e.key, e.val)) := by rw [h2]; exact List.mem_map.2 ⟨x, hx, rfl⟩
      obtain ⟨e, he, heq⟩ := List.mem_map.1 hm
      simp only [Prod.mk.injEq] at heq
      exact hn e he (by rw [heq.1, hc])
    · simp [Instr.lookup, run_underlying Tryz.underlying116, MapKept.run_getObj_map h1, skeyed.check w _ hl, h, Result.andThen]
  · right
    obtain ⟨x, hx, hx1, hx2⟩ := hmem e (List.mem_of_getElem? he)
    rw [hx1] at hq
    simp only [Value.string.injEq] at hq
    refine ⟨x, hx, hq, ?_⟩
    simp [Instr.lookup, run_underlying Tryz.underlying116, MapKept.run_getObj_map h1, skeyed.check w _ hl, hrun, hx2, Result.andThen]
end Go.Proofs.YtkmejehhdjdlbaaGreatDoor

namespace Go.Proofs.YtkmejehhdjdlbaaGreatDoor
open Go.RowKit

/-- A piece of the table: its name and its text, if it has a colon. -/
def pieceT (p : Q.Bt) : Option (Q.Bt × Q.Bt) := match Lib.cut p [58] with
  | (x, _, true) => some (x, Lib.trimSuffix p [10])
  | _ => none
def tblQ : List (Q.Bt × Q.Bt) := Q.piecesB.filterMap pieceT
def bs2 (x : Q.Bt × Q.Bt) : ByteArray × ByteArray := (bs x.1, bs x.2)
theorem tbl_read : tblQ.map (fun x => (x.1, Q.readP x.2)) = Q.tableL.map (fun y => (y.1, some (y.1, (⟨y.2.1.1, y.2.1.2, y.2.2.1, y.2.2.2⟩ : Q.Rd)))) := by kernel_rfl
theorem tbl_short : tblQ.all (fun x => decide (x.1.length ≤ 9) && decide (x.2.length ≤ 4096)) = true := by kernel_rfl
theorem tbl_checked : Q.tableL.all (fun y => checkL y.2.1.1 y.2.1.2 y.2.2.1 == 0) = true := by kernel_rfl
theorem names_apart : (Q.tableL.map (·.1)).Nodup := by decide
theorem tbl_names : tblQ.map (·.1) = Q.tableL.map (·.1) := by
  have := congrArg (List.map Prod.fst) tbl_read
  simpa [List.map_map, Function.comp_def] using this
/-- The pieces, as texts. -/
def tblP : List ByteArray := Lib.splitB ⟨#[10, 10]⟩ 2 (Lib.countB (bs Q.tableB) ⟨#[10, 10]⟩) (bs Q.tableB)
theorem tblP_data : tblP.map (·.data.toList) = Q.piecesB := by
  unfold tblP
  rw [Lib.splitB_data]
  rfl
theorem tblP_length : tblP.length = Lib.countB (bs Q.tableB) ⟨#[10, 10]⟩ + 1 := Lib.splitB_all _ (by decide) 2 _ _ rfl
theorem tbl_count : Lib.countB (bs Q.tableB) ⟨#[10, 10]⟩ = 38 := Q.pieces_count
theorem pieces_short : Q.piecesB.all (fun p => decide (p.length ≤ 4096)) = true := by kernel_rfl
theorem after_table (m : Int) (w : World) (hm : MaxV w m) (s : ByteArray) (hs : s = bs Q.tableB) : Calls Tryz.prog 110 #[.string s, .string ⟨#[10, 10]⟩] w fun e w' =>
    e = .returned (.slice (some ⟨w.heap.size, 0, none⟩) 39 39) ∧ w' = w.alloc (.cells (tblP.map Value.string).toArray 9) := by
  subst hs
  have h := after_any (bs Q.tableB) m w (by rw [bs_size]; exact Nat.lt_of_le_of_lt (show Q.tableB.length ≤ 2000 from Nat.le_of_ble_eq_true (by kernel_rfl)) (by decide)) hm
  unfold tblP
  rw [tbl_count] at h ⊢
  exact h
theorem bs_inj {a b : Q.Bt} (h : bs a = bs b) : a = b := by rw [← bs_list a, h, bs_list]
/-- The pairs of the first pieces. -/
def tblK (k : Nat) : List (Q.Bt × Q.Bt) := (Q.piecesB.take k).filterMap pieceT
theorem tblK_sub (k : Nat) : (tblK k).Sublist tblQ := (List.take_sublist _ _).filterMap _
theorem tblK_all : tblK 39 = tblQ := by
  unfold tblK tblQ
  rw [List.take_of_length_le (by rw [← tblP_data, List.length_map, tblP_length, tbl_count]; exact Nat.le_refl _)]
theorem tblK_yes {k : Nat} {q x t : Q.Bt} (hq : Q.piecesB[k]? = some q) (hp : pieceT q = some (x, t)) : tblK (k + 1) = tblK k ++ [(x, t)] := by
  unfold tblK
  rw [List.take_add_one, hq]
  simp [List.filterMap_append, hp]
theorem tblK_no {k : Nat} {q : Q.Bt} (hq : Q.piecesB[k]? = some q) (hp : pieceT q = none) : tblK (k + 1) = tblK k := by
  unfold tblK
  rw [List.take_add_one, hq]
  simp [List.filterMap_append, hp]
theorem tblQ_short {x : Q.Bt × Q.Bt} (h : x ∈ tblQ) : x.1.length ≤ 9 ∧ x.2.length ≤ 4096 := by
  have := List.all_eq_true.1 tbl_short x h
  simpa using this
theorem tblK_key {k : Nat} : ∀ y ∈ (tblK k).map bs2, y.1.size ≤ maxLen := fun y hy => by
  obtain ⟨x, hx, rfl⟩ := List.mem_map.1 hy
  have := (tblQ_short ((tblK_sub k).subset hx)).1
  unfold bs2
  simp only [bs_size]
  exact Nat.le_trans this (by decide)
theorem tblK_new {k : Nat} {q x t : Q.Bt} (hq : Q.piecesB[k]? = some q) (hp : pieceT q = some (x, t)) : (∀ y ∈ (tblK k).map bs2, y.1 ≠ bs x) ∧ (bs x).size ≤ maxLen := by
  have hs := tblK_sub (k + 1)
  rw [tblK_yes hq hp] at hs
  have ha : (tblQ.map Prod.fst).Nodup := by have := names_apart; rwa [← tbl_names] at this
  have hn : ((tblK k ++ [(x, t)]).map Prod.fst).Nodup := (hs.map Prod.fst).nodup ha
  refine ⟨fun y hy hc => ?_, ?_⟩
  · obtain ⟨z, hz, rfl⟩ := List.mem_map.1 hy
    rw [List.map_append, List.nodup_append] at hn
    exact hn.2.2 z.1 (List.mem_map.2 ⟨z, hz, rfl⟩) x (by simp) (bs_inj hc)
  · have := (tblQ_short (hs.subset (by simp : (x, t) ∈ tblK k ++ [(x, t)]))).1
    rw [bs_size]
    exact Nat.le_trans this (by decide)
theorem tblK_zero : tblK 0 = [] := by
  unfold tblK
  rw [List.take_zero]
  rfl
attribute [local irreducible] tblK tblP tblQ Q.piecesB Q.tableB
set_option maxRecDepth 100000 in
set_option maxHeartbeats 8000000 in
theorem table_any (m : Int) (w : World) (hm : MaxV w m) : Calls Tryz.prog 74 #[] w fun e w' => ∃ r, e = .returned (.map (some r)) ∧ Kp w w' ∧ Tbl w' r (tblQ.map bs2) := by
  have hmm := @run_makeMap Tryz.prog
  go_enter Tryz.func74, Tryz.ntmps74
  go_upto_region 2 with fail
  have hk1 := Kp.new w (.map #[] 0)
  have hT1 := Tbl.new w 0
  have hm1 := hk1.maxV hm
  obtain ⟨r, hr⟩ : ∃ r, r = w.heap.size := ⟨_, rfl⟩
  have Hr := Lib.hid hr
  have hr6 : 8 < r := by rw [hr]; exact World.block_lt_of_cell? w _ hm
  rw [← hr] at hT1 ⊢
  clear hr
  generalize w.alloc (.map #[] 0) = w1 at *
  go_wp2_with (go_at_call 110; refine (after_table m _ hm1 _ (by kernel_rfl)).mono ?_; rintro e w2 ⟨rfl, rfl⟩)
  have hk2 := Kp.new w1 (.cells (tblP.map Value.string).toArray 9)
  have hrw : r < w1.heap.size := by obtain ⟨_, _, h, _⟩ := hT1; exact (Array.getElem?_eq_some_iff.1 h).1
  have hcs : ∀ (j : Nat) (p : ByteArray), tblP[j]? = some p → (w1.alloc (.cells (tblP.map Value.string).toArray 9)).cell? ⟨w1.heap.size, j, none⟩ = some (.string p) := fun j p h => by
    rw [World.cell?_alloc_at _ _ _ _ rfl]
    simp [h]
  have hT2 := hk2.tbl hT1
  have hm2 := hk2.maxV hm1
  have Hk2 := Lib.hid (Kp.trans hk1 hk2)
  obtain ⟨bc, hbc⟩ : ∃ bc, bc = w1.heap.size := ⟨_, rfl⟩
  rw [← hbc] at hcs hrw ⊢
  have hb2 : bc < (w1.alloc (.cells (tblP.map Value.string).toArray 9)).heap.size := by rw [hbc]; simp
  generalize w1.alloc (.cells (tblP.map Value.string).toArray 9) = w2 at *
  clear hk1 hm1 hT1 hbc hm hk2
  have Hcs := Lib.hid hcs
  have HT2 := Lib.hid hT2
  have Hm2 := Lib.hid hm2
  clear hcs hT2 hm2
  go_loopw [10] (fun i wr => ∃ k : Nat, k ≤ 39 ∧ i = .int .i64 (k : Nat) ∧ Fr [r] w2 wr ∧ Tbl wr r ((tblK k).map bs2)) (fun i _ => 39 - (intOf i).toNat)
  case atStart => exact ⟨0, by omega, rfl, Fr.refl _ _, by rw [tblK_zero]; exact HT2.out⟩
  case round =>
    obtain ⟨k, hk, rfl, hF, hT⟩ := hrel
    by_cases hlt : k < 39
    · have hkl : k < tblP.length := by rw [tblP_length, tbl_count]; exact hlt
      obtain ⟨p, hp⟩ : ∃ p, tblP[k]? = some p := ⟨_, List.getElem?_eq_getElem hkl⟩
      have hq : Q.piecesB[k]? = some p.data.toList := by rw [← tblP_data, List.getElem?_map, hp]; rfl
      have hc : wr.cell? ⟨bc, k, none⟩ = some (.string p) := hF.cell (Hcs.out k p hp) (by simp; omega)
      have hps : p.data.toList.length ≤ 4096 := by have := List.all_eq_true.1 pieces_short _ (List.mem_of_getElem? hq); simpa using this
      have hsz := Lib.size_eq p
      have HC := Lib.hid (Tryz.strings_Cut p ⟨#[58]⟩ m wr (by omega) (hF.cell Hm2.out (by simp; omega)))
      have HS := Lib.hid (fun w' => Tryz.strings_TrimSuffix p ⟨#[10]⟩ w' (by omega))
      have Hl := Lib.hid (And.intro (show (⟨#[58]⟩ : ByteArray).data.toList = [58] from rfl) (show (⟨#[10]⟩ : ByteArray).data.toList = [10] from rfl))
      rw [Hl.out.1] at HC
      rw [Hl.out.2] at HS
      have Hq := Lib.hid hq
      clear Hl hp hq
      obtain ⟨c, hcc⟩ : ∃ c, c = Lib.cut p.data.toList [58] := ⟨_, rfl⟩
      rw [← hcc] at HC
      have Hcc := Lib.hid hcc
      clear hcc
      obtain ⟨x, rest, ok⟩ := c
      have HT := Lib.hid hT
      have HF := Lib.hid hF
      clear hT hF
      cases ok with
      | false =>
        have Hno := Lib.hid (tblK_no Hq.out (show pieceT p.data.toList = none by unfold pieceT; rw [← Hcc.out]))
        go_wp2_with fail
        (with_reducible refine HC.out.mono ?_)
        rintro e w3 ⟨rfl, n, rfl⟩
        have hkd := Kp.of_drewN wr n
        have Hfin := Lib.hid (And.intro (HF.out.step (Fr.of_kp hkd) (by simp)) (hkd.tbl HT.out))
        clear hkd hc
        go_wp2_with fail
        go_roundw
        case rel => exact ⟨k + 1, by omega, by go_num, Hfin.out.1, by rw [Hno.out]; exact Hfin.out.2⟩
        case measure => simp [intOf]; omega
      | true =>
        have hpt : pieceT p.data.toList = some (x, Lib.trimSuffix p.data.toList [10]) := by unfold pieceT; rw [← Hcc.out]
        have Hyes := Lib.hid (tblK_yes Hq.out hpt)
        have Hnew := Lib.hid (tblK_new Hq.out hpt)
        obtain ⟨tx, htx⟩ : ∃ tx, tx = Lib.trimSuffix p.data.toList [10] := ⟨_, rfl⟩
        rw [← htx] at HS Hyes
        clear hpt htx
        go_wp2_with fail
        (with_reducible refine HC.out.mono ?_)
        rintro e w3 ⟨rfl, n, rfl⟩
        have hkd := Kp.of_drewN wr n
        obtain ⟨wp, hrun, hTp, hFp⟩ := (hkd.tbl HT.out).put (bs x) (bs tx) tblK_key Hnew.out.2 Hnew.out.1
        have Hfin := Lib.hid (And.intro ((HF.out.step (Fr.of_kp hkd) (by simp)).trans hFp) hTp)
        unfold bs at hrun
        clear hkd hc hTp hFp
        go_wp2_with fail
        (with_reducible refine (HS.out _).mono ?_)
        rintro e w4 ⟨rfl, rfl⟩
        go_wp2_with fail
        go_roundw
        case rel => exact ⟨k + 1, by omega, by go_num, Hfin.out.1, by rw [Hyes.out, List.map_append]; exact Hfin.out.2⟩
        case measure => simp [intOf]; omega
    · obtain rfl : k = 39 := by omega
      rw [tblK_all] at hT
      have Hfin := Lib.hid (And.intro (((Fr.of_kp Hk2.out).step hF (fun j hj => .inr (by simp at hj; have := Hr.out; omega))).kp) hT)
      clear hT hF
      go_wp2_with fail
      go_ret
      exact ⟨r, rfl, Hfin.out⟩
end Go.Proofs.YtkmejehhdjdlbaaGreatDoor

namespace Go.Proofs.YtkmejehhdjdlbaaGreatDoor
open Go.RowKit

abbrev Row := Q.Bt × (List Int × List Int) × List Q.Ln × Bool
/-- The row of the table that bears a name. -/
def rowOf (nm : Q.Bt) : Option Row := Q.tableL.find? (fun y => y.1 == nm)
theorem rowOf_none {nm : Q.Bt} (h : ∀ x ∈ tblQ, x.1 ≠ nm) : rowOf nm = none := by
  unfold rowOf
  rw [List.find?_eq_none]
  intro y hy hc
  have hm : y.1 ∈ tblQ.map (·.1) := by rw [tbl_names]; exact List.mem_map.2 ⟨y, hy, rfl⟩
  obtain ⟨x, hx, he⟩ := List.mem_map.1 hm
  exact h x hx (by rw [he]; exact beq_iff_eq.1 hc)
theorem find_uniq : ∀ {l : List Row} {y : Row}, (l.map (·.1)).Nodup → y ∈ l → l.find? (fun z => z.1 == y.1) = some y := by
  intro l
  induction l with
  | nil => intro y _ h; cases h
  | cons a r ih =>
    intro y hn h
    rw [List.map_cons, List.nodup_cons] at hn
    rw [List.find?_cons]
    rcases List.mem_cons.1 h with rfl | h
    · simp
    · have hne : a.1 ≠ y.1 := fun e => hn.1 (by rw [e]; exact List.mem_map.2 ⟨y, h, rfl⟩)
      rw [beq_eq_false_iff_ne.2 hne]
      exact ih hn.2 h
theorem rowOf_some {x : Q.Bt × Q.Bt} (hx : x ∈ tblQ) : ∃ y : Row, rowOf x.1 = some y ∧ y.1 = x.1 ∧ Q.readP x.2 = some (y.1, (⟨y.2.1.1, y.2.1.2, y.2.2.1, y.2.2.2⟩ : Q.Rd)) ∧ checkL y.2.1.1 y.2.1.2 y.2.2.1 = 0 := by
  have hm : (x.1, Q.readP x.2) ∈ tblQ.map (fun x => (x.1, Q.readP x.2)) := List.mem_map.2 ⟨x, hx, rfl⟩
  rw [tbl_read] at hm
  obtain ⟨y, hy, he⟩ := List.mem_map.1 hm
  simp only [Prod.mk.injEq] at he
  refine ⟨y, ?_, he.1, he.2.symm, ?_⟩
  · rw [← he.1]; exact find_uniq names_apart hy
  · have := List.all_eq_true.1 tbl_checked y hy
    simpa using this
/-- What is answered: a pattern in lists of the call's own, or none. -/
def FindPost (w : World) (nm : Q.Bt) (e : Ending) (w' : World) : Prop := Kp w w' ∧ match rowOf nm with
  | none => e = .returned (.tuple #[zeroP, .bool false])
  | some y => ∃ t0 t1 tl ts, e = .returned (.tuple #[.agg #[.string (bs y.1), tvv t0, tvv t1, tvv tl], .bool true]) ∧ PatO w' w.heap.size t0 t1 tl ts y.2.1.1 y.2.1.2 y.2.2.1
theorem FindPost.no {w w' : World} {nm : Q.Bt} (hk : Kp w w') (h : rowOf nm = none) : FindPost w nm (.returned (.tuple #[zeroP, .bool false])) w' := ⟨hk, by rw [h]⟩
theorem FindPost.yes {w w' : World} {nm : Q.Bt} {y : Row} {t0 t1 tl : Tv} {ts : List Tv} (hk : Kp w w') (h : rowOf nm = some y) (hp : PatO w' w.heap.size t0 t1 tl ts y.2.1.1 y.2.1.2 y.2.2.1) :
    FindPost w nm (.returned (.tuple #[.agg #[.string (bs y.1), tvv t0, tvv t1, tvv tl], .bool true])) w' := ⟨hk, by rw [h]; exact ⟨t0, t1, tl, ts, rfl, hp⟩⟩
set_option maxHeartbeats 2000000 in
theorem exec_load26 {w : World} {b : Nat} {s : ByteArray} {a0 a1 al : Option Addr} {n0 c0 n1 c1 nl cl : Nat} (h : Four w b (.string s) (.slice a0 n0 c0) (.slice a1 n1 c1) (.slice al nl cl)) {ρ : Operand → Value} {x : Operand} (hx : ρ x = .pointer (some ⟨b, 0, none⟩)) {o : Oper} (ho : o.op = .load 26 x) :
    (execOp ρ o).run Tryz.prog w = .ok (.value (.agg #[.string s, .slice a0 n0 c0, .slice a1 n1 c1, .slice al nl cl])) w := by
  obtain ⟨x0, x1, x2, x3, _, _, _, _⟩ := h
  simp only [execOp, ho, hx]
  go_simp
theorem parse_fine (s : Q.Bt) (nm : Q.Bt) (S : Q.Rd) (m : Int) (E : Nat → Addr) (ET : Addr) (w : World) (hm : MaxV w m) (hE : Errs w E) (hT : w.cell? ⟨5, 0, none⟩ = some (.iface 229 (.pointer (some ET)))) (hs : s.length ≤ 4096) (hr : Q.readP s = some (nm, S)) (hc : checkL S.b0 S.b1 S.ls = 0) :
    Calls Tryz.prog 29 #[.string (bs s)] w (fun e w' => Kp w w' ∧ ∃ t0 t1 tl ts, e = .returned (.tuple #[.agg #[.string (bs nm), tvv t0, tvv t1, tvv tl], .nilIface]) ∧ PatO w' w.heap.size t0 t1 tl ts S.b0 S.b1 S.ls) := by
  refine (parse_any (bs s) m E ET w hm hE hT).mono ?_
  rintro e w' ⟨hk, h⟩
  rw [bs_list, if_neg (by omega), hr] at h
  simp only [if_pos hc] at h
  exact ⟨hk, h⟩
attribute [local irreducible] tblK tblP tblQ Q.piecesB Q.tableB Q.tableL rowOf
set_option maxRecDepth 100000 in
set_option maxHeartbeats 8000000 in
theorem find_any (s : ByteArray) (m : Int) (E : Nat → Addr) (ET : Addr) (w : World) (hs : s.size ≤ maxLen) (hm : MaxV w m) (hE : Errs w E) (hT : w.cell? ⟨5, 0, none⟩ = some (.iface 229 (.pointer (some ET)))) : Calls Tryz.prog 32 #[.string s] w (FindPost w s.data.toList) := by
  have hk1 := Kp.new w (.cells #[.string ⟨#[]⟩, .slice none 0 0, .slice none 0 0, .slice none 0 0] 26)
  have HTb := Lib.hid (table_any m _ (hk1.maxV hm))
  go_enter Tryz.func32, Tryz.ntmps32
  go_wp2_with fail
  (with_reducible refine HTb.out.mono ?_)
  rintro e w2 ⟨r, rfl, hk2, hTl⟩
  have hk12 := Kp.trans hk1 hk2
  rcases hTl.get s (fun x hx => tblK_key (k := 39) x (by rw [tblK_all]; exact hx)) hs with ⟨hn, hrun⟩ | ⟨x, hx, hxe, hrun⟩
  · have hno : rowOf s.data.toList = none := rowOf_none (fun x hx hc => hn (bs2 x) (List.mem_map.2 ⟨x, hx, rfl⟩) (by unfold bs2; simp only; rw [hc, bs_data]))
    have Hno := Lib.hid hno
    have hk3 := Kp.new w2 (.cells #[.string ⟨#[]⟩] 114)
    have hP3 := ((Four.new w (.string ⟨#[]⟩) (.slice none 0 0) (.slice none 0 0) (.slice none 0 0) 26).kp hk2).kp hk3
    have Hk3 := Lib.hid (Kp.trans hk12 hk3)
    obtain ⟨b2, hb2⟩ : ∃ b2, b2 = w.heap.size := ⟨_, rfl⟩
    rw [← hb2] at hP3 ⊢
    have Hb2 := Lib.hid hb2
    obtain ⟨wf, hwf, hF, hPf⟩ := hP3.set (.string ⟨#[]⟩) (.slice none 0 0) (.slice none 0 0) (.slice none 0 0)
    obtain ⟨y0, y1, y2, y3, z0, z1, z2, z3⟩ := hP3
    obtain ⟨c0, c1, c2, c3, _, _, _, _⟩ := hPf
    have Hwf := Lib.hid hwf
    have HK := Lib.hid (((Fr.of_kp Hk3.out).step hF (fun j hj => .inr (by simp at hj; have := Hb2.out; omega))).kp)
    clear hn hno hTl hk3 hk12 hwf hF hb2 hE hm hT HTb
    go_wp2_with fail
    rw [← Hwf.out]
    show bodyPost Tryz.prog Tryz.f32 (FindPost w s.data.toList) .ret _ _
    refine bodyPost_ret (v := .tuple #[zeroP, .bool false]) (by simp [results, Tryz.results32, go_sem, c0, c1, c2, c3]) rfl ?_
    exact FindPost.no HK.out Hno.out
  · obtain ⟨q, hq, rfl⟩ := List.mem_map.1 hx
    obtain ⟨y, hy, hy1, hy2, hy3⟩ := rowOf_some hq
    have hsq : s.data.toList = q.1 := by rw [← hxe]; exact bs_list q.1
    rw [← hsq] at hy
    have hk3 := Kp.new w2 (.cells #[.string (bs q.2)] 114)
    have hk13 := Kp.trans hk12 hk3
    have HPa := Lib.hid (parse_fine q.2 y.1 ⟨y.2.1.1, y.2.1.2, y.2.2.1, y.2.2.2⟩ m E ET _ (hk13.maxV hm) (hk13.errs hE) (hk13.cell hT) (tblQ_short hq).2 hy2 hy3)
    have hP3 := ((Four.new w (.string ⟨#[]⟩) (.slice none 0 0) (.slice none 0 0) (.slice none 0 0) 26).kp hk2).kp hk3
    have Hk3 := Lib.hid hk13
    have Hy := Lib.hid hy
    unfold bs2 at hrun
    clear hq hy hy1 hy2 hy3 hsq hxe hk12 hk13 hk3 hTl hx hE hm hT HTb
    go_wp2_with fail
    (with_reducible refine HPa.out.mono ?_)
    rintro e w4 ⟨hk4, t0, t1, tl, ts, rfl, hO⟩
    unfold tvv
    have hk5 := Kp.new w4 (.cells #[.string (bs y.1), .slice t0.ao t0.n t0.c, .slice t1.ao t1.n t1.c, .slice tl.ao tl.n tl.c] 26)
    have hp5 := Four.new w4 (.string (bs y.1)) (.slice t0.ao t0.n t0.c) (.slice t1.ao t1.n t1.c) (.slice tl.ao tl.n tl.c) 26
    have hP5 := (hP3.kp hk4).kp hk5
    have hO5 := hO.kp hk5
    have Hk5 := Lib.hid (Kp.trans (Kp.trans Hk3.out hk4) hk5)
    have HP3 := Lib.hid hP3
    clear hP3 hO
    go_wp2_with fail
    change Code.wp _ _ _ _ (w4.alloc (.cells #[.string (bs y.1), .slice t0.ao t0.n t0.c, .slice t1.ao t1.n t1.c, .slice tl.ao tl.n tl.c] 26))
    have Hs := Lib.hid (show w.heap.size < w4.heap.size by have := hk4.size; have := World.block_lt_of_cell? _ _ HP3.out.c0; simp only at this; omega)
    have hOb := hO5.base (B' := w.heap.size + 1) (by have := World.block_lt_of_cell? _ _ HP3.out.c0; simp only at this; omega)
    generalize (w4.alloc (.cells #[.string (bs y.1), .slice t0.ao t0.n t0.c, .slice t1.ao t1.n t1.c, .slice tl.ao tl.n tl.c] 26)) = w5 at *
    obtain ⟨b2, hb2⟩ : ∃ b2, b2 = w.heap.size := ⟨_, rfl⟩
    obtain ⟨b6, hb6⟩ : ∃ b6, b6 = w4.heap.size := ⟨_, rfl⟩
    rw [← hb2] at hP5 ⊢
    rw [← hb6] at hp5 ⊢
    have hne : b2 ≠ b6 := by have := Hs.out; omega
    refine anyP_start (fun w => Four w b6 (.string (bs y.1)) (.slice t0.ao t0.n t0.c) (.slice t1.ao t1.n t1.c) (.slice tl.ao tl.n tl.c)) 4 (fun _ => True) (fun _ _ => False) (by kernel_rfl) (fun _ _ _ _ h => h.elim) ?_
    obtain ⟨wd, hwd⟩ : ∃ wd, wd = w5.drew := ⟨_, rfl⟩
    have hkd : Kp w5 wd := hwd ▸ (⟨rfl, rfl, rfl, Nat.le_refl _, fun _ _ => rfl⟩ : Kp w5 w5.drew)
    rw [← hwd]
    have hpd := hp5.kp hkd
    have hPd := hP5.kp hkd
    obtain ⟨wf, hwf, hF, hPf⟩ := hPd.set (.string (bs y.1)) (.slice t0.ao t0.n t0.c) (.slice t1.ao t1.n t1.c) (.slice tl.ao tl.n tl.c)
    have HSf := Lib.hid (hpd.fr hF (by simp; omega))
    have HOf := Lib.hid (((hOb.kp hkd).fr hF (fun j hj => .inl (by simp at hj; omega))).base (B' := w.heap.size) (by omega))
    have HK := Lib.hid (((Fr.of_kp (Kp.trans Hk5.out hkd)).step hF (fun j hj => .inr (by simp at hj; omega))).kp)
    obtain ⟨y0, y1, y2, y3, z0, z1, z2, z3⟩ := hPd
    obtain ⟨c0, c1, c2, c3, _, _, _, _⟩ := hPf
    have Hwf := Lib.hid hwf
    clear hwf hF hwd hkd hP5 hp5 hO5 hOb hk5 hk4 hb2 hb6
    refine anyP_take puts_true [1, 2] (by kernel_rfl) hpd ?_
    simp only [opsAt, List.getElem?_toArray, List.getElem?_cons_zero, List.getElem?_cons_succ]
    repeat (go_big_quiet_step (fail))
    refine wpQuiet_nil ?_
    refine anyP_load puts_true 0 23 (.agg #[.string (bs y.1), .slice t0.ao t0.n t0.c, .slice t1.ao t1.n t1.c, .slice tl.ao tl.n tl.c]) rfl rfl (by kernel_rfl) hpd (fun w h => exec_load26 h rfl rfl) ?_
    simp only [Act.put, List.setIfInBounds_toArray, List.set_cons_zero, List.set_cons_succ]
    refine anyP_one 3 (by kernel_rfl) ?_
    simp only [opsAt, List.getElem?_toArray, List.getElem?_cons_zero, List.getElem?_cons_succ]
    clear hpd
    go_wp2_with fail
    rw [← Hwf.out]
    refine ⟨fun _ => HSf.out, ?_⟩
    refine anyP_one 4 (by kernel_rfl) ?_
    simp only [opsAt, List.getElem?_toArray, List.getElem?_cons_zero, List.getElem?_cons_succ]
    clear y0 y1 y2 y3 z0 z1 z2 z3
    go_wp2_with fail
    refine ⟨fun h => absurd rfl h, ?_⟩
    refine anyP_end (by kernel_rfl) ?_
    go_wp2_with fail
    show bodyPost Tryz.prog Tryz.f32 (FindPost w s.data.toList) .ret _ _
    refine bodyPost_ret (v := .tuple #[.agg #[.string (bs y.1), tvv t0, tvv t1, tvv tl], .bool true]) (by simp [results, Tryz.results32, go_sem, c0, c1, c2, c3, tvv]) rfl ?_
    exact FindPost.yes HK.out Hy.out HOf.out
end Go.Proofs.YtkmejehhdjdlbaaGreatDoor

namespace Go.Proofs.YtkmejehhdjdlbaaGreatDoor
open Go.RowKit

/-- The errors' numbers. -/
def codes : List Nat := [1, 8, 9, 10, 11, 12]
structure Env (w : World) (E : Nat → Addr) (m : Int) : Prop where
  errs : Errs w E
  c0 : w.cell? ⟨0, 0, none⟩ = some (.iface 229 (.pointer (some (E 1))))
  c5 : w.cell? ⟨5, 0, none⟩ = some (.iface 229 (.pointer (some (E 8))))
  c6 : ∃ te pe, w.cell? ⟨6, 0, none⟩ = some (.iface te pe)
  c7 : ∃ te pe, w.cell? ⟨7, 0, none⟩ = some (.iface te pe)
  tab : Lib.TabIs Tryz.prog w "internal/strconv.uint64pow10" .u64 Lib.pow10Tab
  mx : MaxV w m
  bk : ∀ c ∈ codes, ∃ cs t, w.heap[(E c).block]? = some (.cells cs t (0, 0))
  ne : ∀ c ∈ codes, ∀ d ∈ codes, c ≠ d → E c ≠ E d
theorem blk_keep {w w' : World} (h : Kp w w') {b : Nat} (hb : ∃ cs t, w.heap[b]? = some (.cells cs t (0, 0))) : ∃ cs t, w'.heap[b]? = some (.cells cs t (0, 0)) := by
  obtain ⟨cs, t, e⟩ := hb
  exact ⟨cs, t, by rw [h.block b (Array.getElem?_eq_some_iff.1 e).1]; exact e⟩
theorem gTab : Tryz.prog.globalNamed "internal/strconv.uint64pow10" = some 9 := by kernel_rfl
theorem Env.keep {w w' : World} {E : Nat → Addr} {m : Int} (h : Env w E m) (k : Kp w w') : Env w' E m := by
  obtain ⟨t6, p6, e6⟩ := h.c6
  obtain ⟨t7, p7, e7⟩ := h.c7
  exact ⟨k.errs h.errs, k.cell h.c0, k.cell h.c5, ⟨t6, p6, k.cell e6⟩, ⟨t7, p7, k.cell e7⟩, Go.Joins.tab_stays gTab h.tab k (Nat.le_refl _), k.maxV h.mx, fun c hc => blk_keep k (h.bk c hc), h.ne⟩

theorem eq_same (w : World) (a : Addr) : (binOp .eql 30 (.iface 229 (.pointer (some a))) (.iface 229 (.pointer (some a)))).run Tryz.prog w = .ok (.bool true) w := by
  obtain ⟨i, hi, hc⟩ := Option.map_eq_some_iff.1 (show (Tryz.prog.info? 229).map (·.comparable) = some true by kernel_rfl)
  obtain ⟨j, hj, _⟩ := Option.map_eq_some_iff.1 (show (Tryz.prog.info? 231).map (·.size) = some 1 by kernel_rfl)
  exact run_eql_iface_ptr_same w a Tryz.underlying30 Tryz.underlying229 hi hc hj
theorem errV_nil (E : Nat → Addr) : errV E 0 = .nilIface := by unfold errV; rw [if_pos rfl]
theorem errV_ptr (E : Nat → Addr) {c : Nat} (h : c ≠ 0) : errV E c = .iface 229 (.pointer (some (E c))) := by unfold errV; rw [if_neg h]
end Go.Proofs.YtkmejehhdjdlbaaGreatDoor

namespace Go.Proofs.YtkmejehhdjdlbaaGreatDoor
open Go.RowKit
open Go.WideElems (Fit rd rg)

/-- How a row reads: as nothing. -/
def rowR : Value → Option (DataW Unit × List MemPlace) := fun _ => some (.nil, [])
theorem rg_key {s : ByteArray} (hs : s.size ≤ maxLen) {e : MapEntry} (he : e.key = .string s) : rd Tryz.prog 9 rowR e = some (.string s.data.toList, .nil) ∧ rg Tryz.prog 9 rowR e = (.string s.data.toList, .nil) := by
  have h : rd Tryz.prog 9 rowR e = some (.string s.data.toList, .nil) := by
    unfold rd rowR
    rw [he, Go.WideMaps.keyOf_string_mk Tryz.underlying9 hs]
    rfl
  exact ⟨h, Go.WideElems.rg_of h⟩
theorem Tbl.keys {arr : Array MapEntry} {K : List (ByteArray × ByteArray)} (h : arr.toList.map (fun e => (e.key, e.val)) = K.map (fun x => (Value.string x.1, Value.agg #[.string x.2]))) : arr.toList.map (·.key) = K.map (fun x => Value.string x.1) := by
  have := congrArg (List.map Prod.fst) h
  rw [List.map_map, List.map_map] at this
  exact this
theorem Tbl.owns {w : World} {r : Nat} {K : List (ByteArray × ByteArray)} (h : Tbl w r K) (hs : ∀ x ∈ K, x.1.size ≤ maxLen) (hn : (K.map (·.1)).Nodup) (hl : K.length ≤ maxLen) :
    ∃ D : DataW Unit, w.ownsMap Tryz.prog 9 rowR r K.length D ∧ (strKeys D).Perm (K.map (·.1.data.toList)) ∧ Maps.size D = K.length := by
  obtain ⟨arr, clock, h1, h2, h3⟩ := h
  have hk := Tbl.keys h2
  have hlen : arr.toList.length = K.length := by have := congrArg List.length h2; simpa using this
  have hmem : ∀ e ∈ arr.toList, ∃ s : ByteArray, s.size ≤ maxLen ∧ e.key = .string s := fun e he => by
    have : e.key ∈ K.map (fun x => Value.string x.1) := by rw [← hk]; exact List.mem_map.2 ⟨e, he, rfl⟩
    obtain ⟨x, hx, hxe⟩ := List.mem_map.1 this
    exact ⟨x.1, hs x hx, hxe.symm⟩
  refine ⟨.map ((arr.toList.map (rg Tryz.prog 9 rowR)).foldr DataW.insert []), ⟨arr, clock, h1, ⟨by rw [← Array.length_toList, hlen]; exact hl, ⟨h3.1, h3.2, ?_⟩, fun e he => ?_⟩, by rw [← Array.length_toList, hlen]; exact Nat.le_refl _, rfl⟩, ?_, ?_⟩
  · rw [hk]
    have : K.map (fun x => Value.string x.1) = (K.map (·.1)).map Value.string := by rw [List.map_map]; rfl
    rw [this]
    exact List.pairwise_map.2 (hn.imp (fun hab e => hab (Value.string.inj e)))
  · obtain ⟨s, hs1, hs2⟩ := hmem e he
    exact ⟨_, (rg_key hs1 hs2).1⟩
  · show (((arr.toList.map (rg Tryz.prog 9 rowR)).foldr DataW.insert []).map fun p => strOf p.1).Perm _
    refine ((Go.WideShapes.sorted_perm _).map _).trans (List.Perm.of_eq ?_)
    rw [List.map_map]
    have e1 : ∀ e ∈ arr.toList, ((fun p : Lit × DataW Unit => strOf p.1) ∘ rg Tryz.prog 9 rowR) e = (fun v : Value => match v with | .string s => s.data.toList | _ => []) e.key := fun e he => by
      obtain ⟨s, hs1, hs2⟩ := hmem e he
      rw [hs2]
      simp only [Function.comp, (rg_key hs1 hs2).2]
      rfl
    rw [List.map_congr_left e1]
    have e2 := congrArg (List.map (fun v : Value => match v with | .string s => s.data.toList | _ => [])) hk
    rw [List.map_map, List.map_map] at e2
    exact e2
  · show ((arr.toList.map (rg Tryz.prog 9 rowR)).foldr DataW.insert []).length = _
    rw [Go.length_sorted, List.length_map, hlen]
/-- The names in order. -/
def namesS : List Q.Bt := (Q.tableL.map (·.1)).mergeSort (fun x y => decide (x ≤ y))
theorem namesS_length : namesS.length = Q.tableL.length := by simp [namesS]
theorem namesS_mem {x : Q.Bt} (h : x ∈ namesS) : ∃ y : Row, rowOf x = some y ∧ y.1 = x := by
  have h1 : x ∈ Q.tableL.map (·.1) := by simpa [namesS] using h
  rw [← tbl_names] at h1
  obtain ⟨q, hq, rfl⟩ := List.mem_map.1 h1
  obtain ⟨y, hy, hy1, _⟩ := rowOf_some hq
  exact ⟨y, hy, hy1⟩
theorem namesS_short {x : Q.Bt} (h : x ∈ namesS) : x.length ≤ 9 := by
  have h1 : x ∈ Q.tableL.map (·.1) := by simpa [namesS] using h
  rw [← tbl_names] at h1
  obtain ⟨q, hq, rfl⟩ := List.mem_map.1 h1
  exact (tblQ_short hq).1
theorem tblQ_keys : ((tblQ.map bs2).map (·.1)).Nodup := by
  rw [List.map_map]
  have : tblQ.map (Prod.fst ∘ bs2) = (tblQ.map (·.1)).map bs := by rw [List.map_map]; rfl
  rw [this, tbl_names]
  exact List.pairwise_map.2 (names_apart.imp (fun hab e => hab (bs_inj e)))
theorem tblQ_names : (tblQ.map bs2).map (·.1.data.toList) = Q.tableL.map (·.1) := by
  rw [← tbl_names, List.map_map]
  exact List.map_congr_left (fun x _ => bs_list x.1)
theorem tableL_len : Q.tableL.length = 38 := by decide
end Go.Proofs.YtkmejehhdjdlbaaGreatDoor

namespace Go.Proofs.YtkmejehhdjdlbaaGreatDoor
open Go.RowKit

theorem Own.value {w : World} {B : Nat} {e : TypeId} {sz n : Nat} {v : Value} {xs : List Value} (h : w.ownsRow B e sz v n xs) : ∃ ao c, v = .slice ao n c ∧ Own w B e sz ao n c xs := by
  obtain ⟨h1, h2⟩ := h
  rcases h2 with ⟨rfl, rfl⟩ | ⟨g, cap, cur, rfl, h3⟩
  · exact ⟨none, 0, rfl, h1, .inl ⟨rfl, rfl⟩⟩
  · exact ⟨_, cap, rfl, h1, .inr ⟨g, cap, cur, rfl, h3⟩⟩
attribute [local irreducible] tblK tblP tblQ Q.piecesB Q.tableB Q.tableL rowOf namesS
set_option maxRecDepth 100000 in
set_option maxHeartbeats 8000000 in
theorem all_iter (n : Nat) (caps : Array Value) (hen : ∀ (args : Array Value) (w : World), (callFunc n args).run Tryz.prog w = .ok (.enter n args) w) (w : World) (m : Int) (E : Nat → Addr) (ET : Addr) (X : List Nat) (Inv : Nat → World → Prop) (Fin : World → Prop) (hX : ∀ x ∈ X, x < w.heap.size)
    (hkp : ∀ k v v', Inv k v → Kp v v' → Inv k v') (henv : ∀ k v, Inv k v → MaxV v m ∧ Errs v E ∧ v.cell? ⟨5, 0, none⟩ = some (.iface 229 (.pointer (some ET)))) (h0 : Inv 0 w)
    (hy : ∀ k v (y : Row) t0 t1 tl ts, (hk : k < namesS.length) → rowOf namesS[k] = some y → y.1 = namesS[k] → Inv k v → PatO v w.heap.size t0 t1 tl ts y.2.1.1 y.2.1.2 y.2.2.1 →
      Calls Tryz.prog n (#[.agg #[.string (bs y.1), tvv t0, tvv t1, tvv tl]] ++ caps) v fun e v' => ∃ b, e = .returned (.bool b) ∧ Fr X v v' ∧ (b = true → Inv (k + 1) v') ∧ (b = false → Fin v'))
    (hend : ∀ v, Inv namesS.length v → Fin v) :
    Calls Tryz.prog 78 #[.func (.func n) #[] caps] w fun e w' => e = .returned (.tuple #[]) ∧ Fin w' := by
  have hm := henv 0 w h0
  have HTb := Lib.hid (table_any m w hm.1)
  have HX := Lib.hid hX
  have HKp := Lib.hid hkp
  have HEnv := Lib.hid henv
  have HY := Lib.hid hy
  have HEnd := Lib.hid hend
  have H0 := Lib.hid h0
  clear hX hkp henv hy hend h0 hm
  go_enter Tryz.func78, Tryz.ntmps78
  go_wp2_with fail
  (with_reducible refine HTb.out.mono ?_)
  rintro e w2 ⟨r, rfl, hk2, hT⟩
  obtain ⟨D, hD, hDp, hDs⟩ := hT.owns (fun x hx => tblK_key (k := 39) x (by rw [tblK_all]; exact hx)) tblQ_keys (by rw [List.length_map, ← List.length_map (f := (·.1)), tbl_names, List.length_map, tableL_len]; decide)
  have hKl : (tblQ.map bs2).length = 38 := by rw [List.length_map, ← List.length_map (f := (·.1)), tbl_names, List.length_map, tableL_len]
  rw [hKl] at hDs
  have HK := Lib.hid (callsIn_wide.1 (Tryz.maps_Keys_80 (some r) w2))
  have HS := Lib.hid (callsIn_wide.1 (Tryz.slices_Sorted_keys_79_80 r _ D _ w2 hD (by rw [hDs]; decide) (by rw [hDs]; decide)))
  have Hk2 := Lib.hid hk2
  have HDp := Lib.hid hDp
  clear hD hDs hT hk2 hKl hDp HTb
  go_wp2_with fail
  (with_reducible refine HK.out.mono ?_)
  rintro e w3 ⟨rfl, rfl⟩
  go_wp2_with fail
  (with_reducible refine HS.out.mono ?_)
  rintro e w4 ⟨v, ss, rfl, hperm, hO, hnil, hbel⟩
  obtain ⟨ao, c, rfl, hOw⟩ := Own.value hO
  clear hO hnil
  have hos : ss.mergeSort (fun x y => decide (x ≤ y)) = namesS := (mergeSort_of_perm (hperm.trans (HDp.out.trans (List.Perm.of_eq tblQ_names)))).trans (by unfold namesS; rfl)
  have hsl : ss.length = 38 := by rw [← List.length_mergeSort (le := fun x y => decide (x ≤ y)), hos, namesS_length, tableL_len]
  rw [hos, hsl] at hOw
  have HO := Lib.hid hOw
  have hk3 : Kp w w4 := Kp.trans (Kp.trans Hk2.out (Kp.new w2 _)) hbel
  have HI := Lib.hid (HKp.out 0 w w4 H0.out hk3)
  have hB : w.heap.size ≤ (w2.alloc (.cells #[.map (some r)] 116)).heap.size := (Kp.trans Hk2.out (Kp.new w2 _)).size
  generalize (w2.alloc (.cells #[.map (some r)] 116)).heap.size = B at *
  obtain ⟨g, rfl⟩ := hOw.blockOf (by decide)
  have hBg : B ≤ g := (hOw.lt g rfl).1
  have hsz : w.heap.size ≤ w4.heap.size := hk3.size
  clear hperm hbel hos hOw hk3
  rw [hsl]
  clear hsl
  go_wp2_with fail
  go_loopw [10] (fun i wr => ∃ k : Nat, k ≤ 38 ∧ i = .int .i64 (k : Nat) ∧ Inv k wr ∧ Own wr B 9 1 (some ⟨g, 0, none⟩) 38 c (namesS.map encStr) ∧ w.heap.size ≤ wr.heap.size) (fun i _ => 38 - (intOf i).toNat)
  case atStart => exact ⟨0, by omega, rfl, HI.out, HO.out, hsz⟩
  case round =>
    clear hsz
    obtain ⟨k, hk, rfl, hi, hO, hsz⟩ := hrel
    rename World => wr
    have Hi := Lib.hid hi
    have HO2 := Lib.hid hO
    by_cases hlt : k < 38
    · have hkl : k < namesS.length := by rw [namesS_length, tableL_len]; exact hlt
      have hcx := hO.cell k (by omega)
      have hget : (namesS.map encStr)[k]? = some (.string (bs namesS[k])) := by rw [List.getElem?_map, List.getElem?_eq_getElem hkl]; rfl
      rw [hget] at hcx
      obtain ⟨y, hy, hy1⟩ := namesS_mem (List.getElem_mem hkl)
      have hsh := namesS_short (List.getElem_mem hkl)
      obtain ⟨hm, hE, hT⟩ := HEnv.out k wr hi
      have HF := Lib.hid (find_any (bs namesS[k]) m E ET wr (by rw [bs_size]; unfold maxLen; omega) hm hE hT)
      rw [bs_list] at HF
      have HYk := Lib.hid (fun v t0 t1 tl ts => HY.out k v y t0 t1 tl ts hkl hy hy1)
      unfold FindPost at HF
      rw [hy] at HF
      have Hy := Lib.hid hy
      clear hi hO hget hy hy1 hm hE hT
      generalize namesS[k] = x at *
      go_wp2_with fail
      (with_reducible refine HF.out.mono ?_)
      rintro e w5 ⟨hk5, t0, t1, tl, ts, rfl, hP⟩
      have HYk2 := Lib.hid (HYk.out (w5.alloc (.cells #[.string (bs y.1), .slice t0.ao t0.n t0.c, .slice t1.ao t1.n t1.c, .slice tl.ao tl.n tl.c] 26)) t0 t1 tl ts (HKp.out k wr _ Hi.out (Kp.trans hk5 (Kp.new w5 _))) ((hP.kp (Kp.new w5 _)).base hsz))
      have hk6 := Kp.trans hk5 (Kp.new w5 (.cells #[.string (bs y.1), .slice t0.ao t0.n t0.c, .slice t1.ao t1.n t1.c, .slice tl.ao tl.n tl.c] 26))
      have HO6 := Lib.hid (HO2.out.keep hk6)
      have hs6 := Nat.le_trans hsz hk6.size
      unfold tvv at HYk2 ⊢
      clear hP hk5 hk6 hsz
      go_wp2_with fail
      generalize w5.alloc (.cells #[.string (bs y.1), .slice t0.ao t0.n t0.c, .slice t1.ao t1.n t1.c, .slice tl.ao tl.n tl.c] 26) = w6 at *
      (with_reducible refine HYk2.out.mono ?_)
      rintro e w7 ⟨b, rfl, hf, hb1, hb0⟩
      have HX2 := HX.out
      have hO7 := hf.own HO6.out (fun x hx hq => by have := HX2 _ hq; have := (HO6.out.lt x (mem_blkL.1 hx)).1; omega)
      have hs7 := Nat.le_trans hs6 hf.size
      clear HX2 hf
      cases b with
      | true =>
        have HI7 := Lib.hid (hb1 rfl)
        clear hb0 hb1
        go_wp2_with fail
        go_roundw
        case rel => exact ⟨k + 1, by omega, by go_num, HI7.out, hO7, hs7⟩
        case measure => simp [intOf]; omega
      | false =>
        have HI7 := Lib.hid (hb0 rfl)
        clear hb0 hb1 hO7 hs7
        go_wp2_with fail
        refine bodyPost_ret (v := .tuple #[]) (by simp [results, Tryz.results78, go_sem]) rfl ?_
        exact ⟨rfl, HI7.out⟩
    · obtain rfl : k = 38 := by omega
      have hnl : namesS.length = 38 := by rw [namesS_length, tableL_len]
      rw [← hnl] at hi
      have HFi := Lib.hid (HEnd.out wr hi)
      clear hi hO hsz
      go_wp2_with fail
      go_end0
      exact ⟨rfl, HFi.out⟩
end Go.Proofs.YtkmejehhdjdlbaaGreatDoor

namespace Go.Proofs.YtkmejehhdjdlbaaGreatDoor
open Go.RowKit

attribute [local irreducible] tblK tblP tblQ Q.piecesB Q.tableB Q.tableL rowOf namesS
set_option maxRecDepth 100000 in
set_option maxHeartbeats 8000000 in
theorem all_iter2 (n : Nat) (caps : Array Value) (hen : ∀ (args : Array Value) (w : World), (callFunc n args).run Tryz.prog w = .ok (.enter n args) w) (w : World) (m : Int) (E : Nat → Addr) (ET : Addr) (X : List Nat) (Inv : Nat → Nat → World → Prop) (Fin : World → Prop) (hX : ∀ x ∈ X, x < w.heap.size)
    (hkp : ∀ N k v v', Inv N k v → Kp v v' → Inv N k v') (henv : ∀ N k v, Inv N k v → MaxV v m ∧ Errs v E ∧ v.cell? ⟨5, 0, none⟩ = some (.iface 229 (.pointer (some ET)))) (h0 : ∀ v, Kp w v → Inv v.heap.size 0 v) (hw : MaxV w m)
    (hy : ∀ N k v0 v (y : Row) t0 t1 tl ts, w.heap.size ≤ N → N ≤ v0.heap.size → (hk : k < namesS.length) → rowOf namesS[k] = some y → y.1 = namesS[k] → Inv N k v0 → Kp v0 v → PatO v v0.heap.size t0 t1 tl ts y.2.1.1 y.2.1.2 y.2.2.1 →
      Calls Tryz.prog n (#[.agg #[.string (bs y.1), tvv t0, tvv t1, tvv tl]] ++ caps) v fun e v' => ∃ b, e = .returned (.bool b) ∧ (∃ Y, Fr Y v v' ∧ ∀ x ∈ Y, x ∈ X ∨ N ≤ x) ∧ (b = true → Inv N (k + 1) v') ∧ (b = false → Fin v'))
    (hend : ∀ N v, Inv N namesS.length v → Fin v) :
    Calls Tryz.prog 78 #[.func (.func n) #[] caps] w fun e w' => e = .returned (.tuple #[]) ∧ Fin w' := by
  have HTb := Lib.hid (table_any m w hw)
  have HX := Lib.hid hX
  have HKp := Lib.hid hkp
  have HEnv := Lib.hid henv
  have HY := Lib.hid hy
  have HEnd := Lib.hid hend
  have H0 := Lib.hid h0
  clear hX hkp henv hy hend h0 hw
  go_enter Tryz.func78, Tryz.ntmps78
  go_wp2_with fail
  (with_reducible refine HTb.out.mono ?_)
  rintro e w2 ⟨r, rfl, hk2, hT⟩
  obtain ⟨D, hD, hDp, hDs⟩ := hT.owns (fun x hx => tblK_key (k := 39) x (by rw [tblK_all]; exact hx)) tblQ_keys (by rw [List.length_map, ← List.length_map (f := (·.1)), tbl_names, List.length_map, tableL_len]; decide)
  have hKl : (tblQ.map bs2).length = 38 := by rw [List.length_map, ← List.length_map (f := (·.1)), tbl_names, List.length_map, tableL_len]
  rw [hKl] at hDs
  have HK := Lib.hid (callsIn_wide.1 (Tryz.maps_Keys_80 (some r) w2))
  have HS := Lib.hid (callsIn_wide.1 (Tryz.slices_Sorted_keys_79_80 r _ D _ w2 hD (by rw [hDs]; decide) (by rw [hDs]; decide)))
  have Hk2 := Lib.hid hk2
  have HDp := Lib.hid hDp
  clear hD hDs hT hk2 hKl hDp HTb
  go_wp2_with fail
  (with_reducible refine HK.out.mono ?_)
  rintro e w3 ⟨rfl, rfl⟩
  go_wp2_with fail
  (with_reducible refine HS.out.mono ?_)
  rintro e w4 ⟨v, ss, rfl, hperm, hO, hnil, hbel⟩
  obtain ⟨ao, c, rfl, hOw⟩ := Own.value hO
  clear hO hnil
  have hos : ss.mergeSort (fun x y => decide (x ≤ y)) = namesS := (mergeSort_of_perm (hperm.trans (HDp.out.trans (List.Perm.of_eq tblQ_names)))).trans (by unfold namesS; rfl)
  have hsl : ss.length = 38 := by rw [← List.length_mergeSort (le := fun x y => decide (x ≤ y)), hos, namesS_length, tableL_len]
  rw [hos, hsl] at hOw
  have HO := Lib.hid hOw
  have hk3 : Kp w w4 := Kp.trans (Kp.trans Hk2.out (Kp.new w2 _)) hbel
  have HI := Lib.hid (H0.out w4 hk3)
  have hB : w.heap.size ≤ (w2.alloc (.cells #[.map (some r)] 116)).heap.size := (Kp.trans Hk2.out (Kp.new w2 _)).size
  generalize (w2.alloc (.cells #[.map (some r)] 116)).heap.size = B at *
  obtain ⟨g, rfl⟩ := hOw.blockOf (by decide)
  have hBg : B ≤ g := (hOw.lt g rfl).1
  have hsz : w.heap.size ≤ w4.heap.size := hk3.size
  have hgN : g < w4.heap.size := (hOw.lt g rfl).2
  have hNN : w4.heap.size ≤ w4.heap.size := Nat.le_refl _
  obtain ⟨N, hN⟩ : ∃ N, N = w4.heap.size := ⟨_, rfl⟩
  have hwN : w.heap.size ≤ N := by rw [hN]; exact hsz
  rw [← hN] at HI hgN hsz
  have hN4 : N ≤ w4.heap.size := Nat.le_of_eq hN
  clear hNN hN
  clear hperm hbel hos hOw hk3
  rw [hsl]
  clear hsl
  go_wp2_with fail
  go_loopw [10] (fun i wr => ∃ k : Nat, k ≤ 38 ∧ i = .int .i64 (k : Nat) ∧ Inv N k wr ∧ Own wr B 9 1 (some ⟨g, 0, none⟩) 38 c (namesS.map encStr) ∧ N ≤ wr.heap.size) (fun i _ => 38 - (intOf i).toNat)
  case atStart => exact ⟨0, by omega, rfl, HI.out, HO.out, hN4⟩
  case round =>
    clear hsz hN4
    obtain ⟨k, hk, rfl, hi, hO, hsz⟩ := hrel
    rename World => wr
    have Hi := Lib.hid hi
    have HO2 := Lib.hid hO
    by_cases hlt : k < 38
    · have hkl : k < namesS.length := by rw [namesS_length, tableL_len]; exact hlt
      have hcx := hO.cell k (by omega)
      have hget : (namesS.map encStr)[k]? = some (.string (bs namesS[k])) := by rw [List.getElem?_map, List.getElem?_eq_getElem hkl]; rfl
      rw [hget] at hcx
      obtain ⟨y, hy, hy1⟩ := namesS_mem (List.getElem_mem hkl)
      have hsh := namesS_short (List.getElem_mem hkl)
      obtain ⟨hm, hE, hT⟩ := HEnv.out N k wr hi
      have HF := Lib.hid (find_any (bs namesS[k]) m E ET wr (by rw [bs_size]; unfold maxLen; omega) hm hE hT)
      rw [bs_list] at HF
      have HYk := Lib.hid (fun v t0 t1 tl ts => HY.out N k wr v y t0 t1 tl ts hwN hsz hkl hy hy1 hi)
      unfold FindPost at HF
      rw [hy] at HF
      have Hy := Lib.hid hy
      clear hO hget hy hy1 hm hE hT
      clear hi
      generalize namesS[k] = x at *
      go_wp2_with fail
      (with_reducible refine HF.out.mono ?_)
      rintro e w5 ⟨hk5, t0, t1, tl, ts, rfl, hP⟩
      have HYk2 := Lib.hid (HYk.out (w5.alloc (.cells #[.string (bs y.1), .slice t0.ao t0.n t0.c, .slice t1.ao t1.n t1.c, .slice tl.ao tl.n tl.c] 26)) t0 t1 tl ts (Kp.trans hk5 (Kp.new w5 _)) (hP.kp (Kp.new w5 _)))
      have hk6 := Kp.trans hk5 (Kp.new w5 (.cells #[.string (bs y.1), .slice t0.ao t0.n t0.c, .slice t1.ao t1.n t1.c, .slice tl.ao tl.n tl.c] 26))
      have HO6 := Lib.hid (HO2.out.keep hk6)
      have hs6 := Nat.le_trans hsz hk6.size
      unfold tvv at HYk2 ⊢
      clear hP hk5 hk6 hsz
      go_wp2_with fail
      generalize w5.alloc (.cells #[.string (bs y.1), .slice t0.ao t0.n t0.c, .slice t1.ao t1.n t1.c, .slice tl.ao tl.n tl.c] 26) = w6 at *
      (with_reducible refine HYk2.out.mono ?_)
      rintro e w7 ⟨b, rfl, ⟨Y, hf, hY⟩, hb1, hb0⟩
      have HX2 := HX.out
      have hgB := (HO6.out.lt g rfl).1
      have hO7 := hf.own HO6.out (fun x hx hq => by
        have hxg : x = g := by simpa [blkL, blk, eq_comm] using hx
        rcases hY x hq with h | h
        · have := HX2 _ h; omega
        · omega)
      have hs7 := Nat.le_trans hs6 hf.size
      clear HX2 hf hgB hY
      cases b with
      | true =>
        have HI7 := Lib.hid (hb1 rfl)
        clear hb0 hb1
        go_wp2_with fail
        go_roundw
        case rel => exact ⟨k + 1, by omega, by go_num, HI7.out, hO7, hs7⟩
        case measure => simp [intOf]; omega
      | false =>
        have HI7 := Lib.hid (hb0 rfl)
        clear hb0 hb1 hO7 hs7
        go_wp2_with fail
        refine bodyPost_ret (v := .tuple #[]) (by simp [results, Tryz.results78, go_sem]) rfl ?_
        exact ⟨rfl, HI7.out⟩
    · obtain rfl : k = 38 := by omega
      have hnl : namesS.length = 38 := by rw [namesS_length, tableL_len]
      rw [← hnl] at hi
      have HFi := Lib.hid (HEnd.out N wr hi)
      clear hi hO hsz
      go_wp2_with fail
      go_end0
      exact ⟨rfl, HFi.out⟩
end Go.Proofs.YtkmejehhdjdlbaaGreatDoor

namespace Go.Proofs.YtkmejehhdjdlbaaGreatDoor
open Go.ChangeShapes Go.WideShapes Go.RowKit

theorem text_ne {w : World} {a b : Addr} {s t : ByteArray} {x y : List UInt8} (ha : w.cell? a = some (.string s)) (hb : w.cell? b = some (.string t)) (hs : s.data.toList = x) (ht : t.data.toList = y) (hxy : x ≠ y) : a ≠ b := by
  rintro rfl
  rw [ha] at hb
  simp only [Option.some.injEq, Value.string.injEq] at hb
  subst hb
  exact hxy (hs.symm.trans ht)
theorem gl0 : Tryz.prog.globalNamed "pintle/api.ErrArg" = some 0 := by kernel_rfl
theorem gl0t : (Tryz.prog.globals[0]?).map (·.type) = some 30 := by kernel_rfl
theorem gl5 : Tryz.prog.globalNamed "pintle/api.ErrText" = some 5 := by kernel_rfl
theorem gl5t : (Tryz.prog.globals[5]?).map (·.type) = some 30 := by kernel_rfl
theorem gl1 : Tryz.prog.globalNamed "pintle/api.ErrInvalid" = some 1 := by kernel_rfl
theorem gl1t : (Tryz.prog.globals[1]?).map (·.type) = some 30 := by kernel_rfl
theorem gl2 : Tryz.prog.globalNamed "pintle/api.ErrTwice" = some 2 := by kernel_rfl
theorem gl2t : (Tryz.prog.globals[2]?).map (·.type) = some 30 := by kernel_rfl
theorem gl3 : Tryz.prog.globalNamed "pintle/api.ErrLacks" = some 3 := by kernel_rfl
theorem gl3t : (Tryz.prog.globals[3]?).map (·.type) = some 30 := by kernel_rfl
theorem gl4 : Tryz.prog.globalNamed "pintle/api.ErrUnsafe" = some 4 := by kernel_rfl
theorem gl4t : (Tryz.prog.globals[4]?).map (·.type) = some 30 := by kernel_rfl
theorem gl7 : Tryz.prog.globalNamed "strconv.ErrRange" = some 7 := by kernel_rfl
theorem gl7t : (Tryz.prog.globals[7]?).map (·.type) = some 30 := by kernel_rfl
theorem gl6 : Tryz.prog.globalNamed "strconv.ErrSyntax" = some 6 := by kernel_rfl
theorem gl6t : (Tryz.prog.globals[6]?).map (·.type) = some 30 := by kernel_rfl
theorem maxV_of_shaped {W : World} (h : W.ShapedOpen Tryz.prog) : ∃ m, MaxV W m :=
  Go.Proofs.cell_of_shapedOpen_int (P := Tryz.prog) (g := 8) (t := 3) (zero := #[.int .i64 0]) (k := .i64) h (of_decide_eq_true (by kernel_rfl)) (by kernel_rfl) rfl (by kernel_rfl) (by kernel_rfl) Tryz.underlying3
theorem env_of {W : World} (h : laidMetH Tryz.prog [("math/bits.deBruijn32tab", Rows.laid_math_bits_deBruijn32tab), ("math/bits.deBruijn64tab", Rows.laid_math_bits_deBruijn64tab), ("internal/strconv.uint64pow10", Rows.laid_internal_strconv_uint64pow10), ("unicode/utf8.acceptRanges", Rows.laid_unicode_utf8_acceptRanges), ("pintle/api.ErrArg", Rows.laid_pintle_api_ErrArg), ("pintle/api.ErrText", Rows.laid_pintle_api_ErrText), ("pintle/api.ErrInvalid", Rows.laid_pintle_api_ErrInvalid), ("pintle/api.ErrTwice", Rows.laid_pintle_api_ErrTwice), ("pintle/api.ErrLacks", Rows.laid_pintle_api_ErrLacks), ("pintle/api.ErrUnsafe", Rows.laid_pintle_api_ErrUnsafe), ("strconv.ErrRange", Rows.laid_strconv_ErrRange), ("strconv.ErrSyntax", Rows.laid_strconv_ErrSyntax), ("unicode/utf8.first", Rows.laid_unicode_utf8_first)] W) (hS : W.ShapedOpen Tryz.prog) : ∃ E m, Env W E m := by
  obtain ⟨m, hm⟩ := maxV_of_shaped hS
  rw [MakeChecks.laidMetH_plain _ _ _ (by kernel_rfl)] at h
  have hT := Lib.tabIs_of_head (k := .u64) (zs := Lib.pow10Tab) (t := 233) (e := 195) (n := 20) gTab (by kernel_rfl) (by kernel_rfl) (by kernel_rfl) (by kernel_rfl) (by kernel_rfl) (h.tail.tail)
  obtain ⟨a1, a8, s1, s8, u1, u8, v1, v8, hv1, hv8, hc1, hs1, _, hc8, hs8, _, _, hb1, hb8⟩ := laid_sentinels2 (h.tail.tail.tail.tail) gl0 gl0t gl5 gl5t Tryz.underlying30 row107 Tryz.underlying229 Tryz.underlying231 rfl rfl Tryz.underlying9 cells125 cells9
  obtain ⟨a9, a10, s9, s10, u9, u10, v9, v10, hv9, hv10, hc9, hs9, _, hc10, hs10, _, _, hb9, hb10⟩ := laid_sentinels2 (h.tail.tail.tail.tail.tail.tail) gl1 gl1t gl2 gl2t Tryz.underlying30 row107 Tryz.underlying229 Tryz.underlying231 rfl rfl Tryz.underlying9 cells125 cells9
  obtain ⟨a11, a12, s11, s12, u11, u12, v11, v12, hv11, hv12, hc11, hs11, _, hc12, hs12, _, _, hb11, hb12⟩ := laid_sentinels2 (h.tail.tail.tail.tail.tail.tail.tail.tail) gl3 gl3t gl4 gl4t Tryz.underlying30 row107 Tryz.underlying229 Tryz.underlying231 rfl rfl Tryz.underlying9 cells125 cells9
  obtain ⟨a6, a7, s6, s7, u6, u7, v6, v7, hv6, hv7, hc6, hs6, _, hc7, hs7, _, _, hb6, hb7⟩ := laid_sentinels2 (h.tail.tail.tail.tail.tail.tail.tail.tail.tail.tail) gl7 gl7t gl6 gl6t Tryz.underlying30 row107 Tryz.underlying229 Tryz.underlying231 rfl rfl Tryz.underlying9 cells125 cells9
  refine ⟨fun i => if i = 1 then a1 else if i = 8 then a8 else if i = 9 then a9 else if i = 10 then a10 else if i = 11 then a11 else a12, m, ⟨?_, ?_, ?_, ?_⟩, ?_, ?_, ⟨_, _, World.var?_cell gl6 hv7 0⟩, ⟨_, _, World.var?_cell gl7 hv6 0⟩, hT, hm, ?_, ?_⟩
  · show W.cell? ⟨1, 0, none⟩ = _; simpa using World.var?_cell gl1 hv9 0
  · show W.cell? ⟨2, 0, none⟩ = _; simpa using World.var?_cell gl2 hv10 0
  · show W.cell? ⟨3, 0, none⟩ = _; simpa using World.var?_cell gl3 hv11 0
  · show W.cell? ⟨4, 0, none⟩ = _; simpa using World.var?_cell gl4 hv12 0
  · show W.cell? ⟨0, 0, none⟩ = _; simpa using World.var?_cell gl0 hv1 0
  · show W.cell? ⟨5, 0, none⟩ = _; simpa using World.var?_cell gl5 hv8 0
  · intro c hc
    simp only [codes, List.mem_cons, List.not_mem_nil, or_false] at hc
    rcases hc with rfl | rfl | rfl | rfl | rfl | rfl
    · exact ⟨u1, v1, by simpa using hb1⟩
    · exact ⟨u8, v8, by simpa using hb8⟩
    · exact ⟨u9, v9, by simpa using hb9⟩
    · exact ⟨u10, v10, by simpa using hb10⟩
    · exact ⟨u11, v11, by simpa using hb11⟩
    · exact ⟨u12, v12, by simpa using hb12⟩
  · intro c hc d hd hcd
    simp only [codes, List.mem_cons, List.not_mem_nil, or_false] at hc hd
    rcases hc with rfl | rfl | rfl | rfl | rfl | rfl <;> rcases hd with rfl | rfl | rfl | rfl | rfl | rfl <;> first | exact absurd rfl hcd | (simp only [Nat.reduceEqDiff, if_false, if_true]; exact text_ne (by assumption) (by assumption) (by assumption) (by assumption) (by decide))
/-- An input that fits, at a world written out. -/
theorem witness_zip {H : Type} {enc : TypeId × Value → H} {C : Checked} {os : Os} {f : FuncId} {fn : Func} {s : OpenSpec} {conds : List PathCond} {apart : Bool} {laid : List (String × DataW Unit)} (modest : Bool) (w0 : World) (args : Array Value) (hos : w0.os = os)
    (hv : (w0.forCall (fun _ _ => 0) ⟨#[], args, []⟩).variablesZipB C.prog = true)
    (hr : ((w0.forCall (fun _ _ => 0) ⟨#[], args, []⟩).heap.toList.drop C.prog.globals.size).take ((begin C.prog (fun _ _ => 0) default).world.heap.size - C.prog.globals.size) =
      (begin C.prog (fun _ _ => 0) default).world.heap.toList.drop C.prog.globals.size)
    (hok : Input.okWideB C.prog (w0.forCall (fun _ _ => 0) ⟨#[], args, []⟩) f ⟨#[], args, []⟩ = true)
    (hrow : s.preRow enc C.prog fn conds apart laid (w0.forCall (fun _ _ => 0) ⟨#[], args, []⟩).memory args) :
    ∃ (w : World) (tape : Tape) (i : Input), w.os = os ∧ (w.forCall tape i).Shaped C.prog ∧ i.vars = [] ∧ Input.okWide C.prog (w.forCall tape i) .any w.heap.size f i ∧
      s.preRow enc C.prog fn conds apart laid (w.forCall tape i).memory i.args ∧ ({ modest := modest } : Assume).holds C.prog (lone (Frame.enter C.prog f i.args .normal) [] (w.forCall tape i)) :=
  ⟨w0, fun _ _ => 0, ⟨#[], args, []⟩, hos, World.shaped_of_ZipB hv hr, (Input.okWide_of_okWideB (base := 0) hok).1, (Input.okWide_of_okWideB hok).2, hrow, by
    simp only [Assume.holds]
    exact ⟨by simp, by simp, fun _ => Modest.zero, by simp, by simp⟩⟩
end Go.Proofs.YtkmejehhdjdlbaaGreatDoor

namespace Go.Proofs.YtkmejehhdjdlbaaGreatDoor
open Go.RowKit

/-- What is answered of a word: its number, if it has one. -/
def NumPost (w : World) (l : Q.Bt) (e : Ending) (w' : World) : Prop := Kp w w' ∧ ∃ (v : Int) (b : Bool), e = .returned (.tuple #[iv v, .bool b]) ∧ match Q.numP l with | some n => v = (n : Int) ∧ b = true | none => b = false
theorem NumPost.no {w w' : World} {l : Q.Bt} (v : Int) (hk : Kp w w') (h : Q.numP l = none) : NumPost w l (.returned (.tuple #[iv v, .bool false])) w' := ⟨hk, v, false, rfl, by rw [h]⟩
theorem NumPost.yes {w w' : World} {l : Q.Bt} {v : Int} {n : Nat} (hk : Kp w w') (h : Q.numP l = some n) (hv : v = (n : Int)) : NumPost w l (.returned (.tuple #[iv v, .bool true])) w' := ⟨hk, v, true, rfl, by rw [h]; exact ⟨hv, rfl⟩⟩
theorem num_short {l : Q.Bt} (h : l.length ≤ 3) : Q.numP l = none := by
  unfold Q.numP
  rw [if_neg]
  simp; omega
theorem num_head {l : Q.Bt} (h : (l.take 3 == [112, 115, 107]) = false) : Q.numP l = none := by
  unfold Q.numP
  rw [if_neg]
  simp only [Bool.and_eq_true, not_and]
  intro hp
  exfalso
  obtain ⟨r, rfl⟩ : ∃ r, l = Q.headPsk ++ r := Q.pre_get hp
  simp [Q.headPsk] at h
theorem num_rest {l : Q.Bt} (h3 : 3 < l.length) (h : (l.take 3 == [112, 115, 107]) = true) : Q.numP l = match Lib.atoiAll (l.drop 3) with
    | .ok v => if 0 ≤ v ∧ Lib.itoa v = l.drop 3 then some v.toNat else none
    | _ => none := by
  have hp : Lib.hasPrefix l Q.headPsk = true := by
    have e : l = [112, 115, 107] ++ l.drop 3 := by
      rw [← beq_iff_eq.1 h, List.take_append_drop]
    rw [e]
    simp [Lib.hasPrefix, Q.headPsk]
  unfold Q.numP
  rw [if_pos (by simp [hp]; omega)]
  rfl
theorem atoi_wide {l : Q.Bt} {v : Int} (h : Lib.atoiAll l = .ok v) : -9223372036854775808 ≤ v ∧ v ≤ 9223372036854775807 := by
  cases l with
  | nil => simp [Lib.atoiAll] at h
  | cons c r =>
    simp only [Lib.atoiAll] at h
    cases hm : Lib.parseMag (if c.toNat = 43 ∨ c.toNat = 45 then r else c :: r) with
    | «syntax» => rw [hm] at h; cases h
    | range => rw [hm] at h; cases h
    | ok u =>
      rw [hm] at h
      simp only at h
      by_cases hn : c.toNat = 45
      · simp only [hn, not_true, false_and, if_false, true_and, if_true] at h
        by_cases hu : 9223372036854775808 < u
        · rw [if_pos hu] at h; cases h
        · rw [if_neg hu] at h
          cases h
          omega
      · simp only [hn, not_false_eq_true, true_and, false_and, if_false] at h
        by_cases hu : 9223372036854775808 ≤ u
        · rw [if_pos hu] at h; cases h
        · rw [if_neg hu] at h
          cases h
          omega
theorem extract_take (s : ByteArray) : (s.extract 0 3).toList = s.data.toList.take 3 := by
  rw [ByteArray.toList_eq]
  simp
theorem extract_drop (s : ByteArray) : (s.extract 3 s.size).data.toList = s.data.toList.drop 3 := by
  simp
  rw [List.take_of_length_le]
  simp
set_option maxRecDepth 100000 in
set_option maxHeartbeats 4000000 in
theorem number_any (s : ByteArray) (w : World) (E : Nat → Addr) (m : Int) (hV : Env w E m) (hs : s.size ≤ 281474976710656) : Calls Tryz.prog 52 #[.string s] w (NumPost w s.data.toList) := by
  have Hsl := Lib.hid (Lib.size_eq s)
  by_cases h3 : s.size ≤ 3
  · have Hn := Lib.hid (num_short (l := s.data.toList) (by rw [← Hsl.out]; exact h3))
    go_enter Tryz.func52, Tryz.ntmps52
    go_wp2_with fail
    show bodyPost Tryz.prog Tryz.f52 (NumPost w s.data.toList) .ret _ _
    exact bodyPost_ret (v := .tuple #[iv 0, .bool false]) (by simp [results, Tryz.results52, go_sem]) rfl (NumPost.no 0 (Kp.refl _) Hn.out)
  · have ht := extract_take s
    cases hp : ((s.extract 0 3).toList == [112, 115, 107]) with
    | false =>
      have Hn := Lib.hid (num_head (l := s.data.toList) (by rw [← ht]; exact hp))
      clear ht
      go_enter Tryz.func52, Tryz.ntmps52
      go_wp2_with fail
      show bodyPost Tryz.prog Tryz.f52 (NumPost w s.data.toList) .ret _ _
      exact bodyPost_ret (v := .tuple #[iv 0, .bool false]) (by simp [results, Tryz.results52, go_sem]) rfl (NumPost.no 0 (Kp.refl _) Hn.out)
    | true =>
      have hr := num_rest (l := s.data.toList) (by rw [← Hsl.out]; omega) (by rw [← ht]; exact hp)
      clear ht
      rw [← extract_drop] at hr
      have hsz : (s.extract 3 s.size).size ≤ 281474976710656 := by simp; omega
      obtain ⟨l, hl⟩ : ∃ l, l = s.data.toList := ⟨_, rfl⟩
      rw [← hl] at hr ⊢
      clear hl Hsl
      have HV := Lib.hid hV
      obtain ⟨te6, pe6, e6⟩ := hV.c6
      obtain ⟨te7, pe7, e7⟩ := hV.c7
      cases ha : Lib.atoiAll (s.extract 3 s.size).data.toList with
      | «syntax» =>
        rw [ha] at hr
        have HA := Lib.hid (Tryz.strconv_Atoi_syntax (s.extract 3 s.size) hsz ha _ w e6 (.inr ⟨_, _, rfl⟩))
        have Hn := Lib.hid hr
        clear hr ha e6 e7 hsz hV
        go_enter Tryz.func52, Tryz.ntmps52
        go_wp2_with fail
        (with_reducible refine HA.out.mono ?_)
        rintro e w1 ⟨n1, rfl, _, _, hk1⟩
        go_upto_region 4 with fail
        refine any_start (by kernel_rfl) ?_
        refine any_take [0, 1, 2, 3, 4, 5, 6, 7, 8, 10, 11] (by kernel_rfl) ?_
        simp only [opsAt, List.getElem?_toArray, List.getElem?_cons_zero, List.getElem?_cons_succ]
        repeat (go_big_quiet_step (fail))
        refine wpQuiet_nil ?_
        refine any_one 9 (by kernel_rfl) ?_
        simp only [opsAt, List.getElem?_toArray, List.getElem?_cons_zero, List.getElem?_cons_succ]
        go_wp2_with fail
        refine any_take [12, 13, 14] (by kernel_rfl) ?_
        simp only [opsAt, List.getElem?_toArray, List.getElem?_cons_zero, List.getElem?_cons_succ]
        repeat (go_big_quiet_step (fail))
        refine wpQuiet_nil ?_
        refine any_one 15 (by kernel_rfl) ?_
        simp only [opsAt, List.getElem?_toArray, List.getElem?_cons_zero, List.getElem?_cons_succ]
        go_wp2_with fail
        refine any_end (by kernel_rfl) ?_
        go_wp2_with fail
        show bodyPost Tryz.prog Tryz.f52 (NumPost w l) .ret _ _
        exact bodyPost_ret (v := .tuple #[iv 0, .bool false]) (by simp [results, Tryz.results52, go_sem]) rfl (NumPost.no 0 (Kp.trans hk1 (Kp.of_drewN w1 1)) Hn.out)
      | range =>
        rw [ha] at hr
        have HA := Lib.hid (Tryz.strconv_Atoi_range (s.extract 3 s.size) hsz ha _ w e7 (.inr ⟨_, _, rfl⟩))
        have Hn := Lib.hid hr
        obtain ⟨v, hv⟩ : ∃ v, v = Lib.atoiSat (s.extract 3 s.size).data.toList := ⟨_, rfl⟩
        rw [← hv] at HA
        clear hv hr ha e6 e7 hsz hV
        go_enter Tryz.func52, Tryz.ntmps52
        go_wp2_with fail
        (with_reducible refine HA.out.mono ?_)
        rintro e w1 ⟨n1, rfl, _, _, hk1⟩
        go_upto_region 4 with fail
        refine any_start (by kernel_rfl) ?_
        refine any_take [0, 1, 2, 3, 4, 5, 6, 7, 8, 10, 11] (by kernel_rfl) ?_
        simp only [opsAt, List.getElem?_toArray, List.getElem?_cons_zero, List.getElem?_cons_succ]
        repeat (go_big_quiet_step (fail))
        refine wpQuiet_nil ?_
        refine any_one 9 (by kernel_rfl) ?_
        simp only [opsAt, List.getElem?_toArray, List.getElem?_cons_zero, List.getElem?_cons_succ]
        go_wp2_with fail
        refine any_take [12, 13, 14] (by kernel_rfl) ?_
        simp only [opsAt, List.getElem?_toArray, List.getElem?_cons_zero, List.getElem?_cons_succ]
        repeat (go_big_quiet_step (fail))
        refine wpQuiet_nil ?_
        refine any_one 15 (by kernel_rfl) ?_
        simp only [opsAt, List.getElem?_toArray, List.getElem?_cons_zero, List.getElem?_cons_succ]
        go_wp2_with fail
        refine any_end (by kernel_rfl) ?_
        go_wp2_with fail
        show bodyPost Tryz.prog Tryz.f52 (NumPost w l) .ret _ _
        exact bodyPost_ret (v := .tuple #[iv v, .bool false]) (by simp [results, Tryz.results52, go_sem]) rfl (NumPost.no v (Kp.trans hk1 (Kp.of_drewN w1 1)) Hn.out)
      | ok v =>
        rw [ha] at hr
        simp only at hr
        have HA := Lib.hid ((Tryz.strconv_Atoi_ok (s.extract 3 s.size) (by omega) v ha w).mono (R' := fun e w' => e = .returned (.tuple #[iv v, .nilIface]) ∧ Kp w w') (by
          rintro e w' ⟨rfl, rfl | ⟨t, rfl⟩⟩
          · exact ⟨rfl, Kp.refl _⟩
          · exact ⟨rfl, Go.Joins.below_bytesWorld _ _ _ _ (Nat.le_refl _)⟩))
        obtain ⟨v0, v1⟩ := atoi_wide ha
        clear ha e6 e7 hsz hV
        by_cases hv0 : 0 ≤ v
        · have HI := Lib.hid (fun (w1 : World) (hk : Kp w w1) => (Tryz.strconv_Itoa v v0 v1 w1 (HV.out.keep hk).tab).mono (R' := fun e w' => e = .returned (.string (bs (Lib.itoa v))) ∧ Kp w1 w') (by
            rintro e w' ⟨rfl, k, os, rfl⟩
            exact ⟨rfl, Lib.below_grow _ _ (Nat.le_refl _) k os⟩))
          have Hb := Lib.hid (show (bs (Lib.itoa v)).toList = Lib.itoa v by rw [ByteArray.toList_eq]; exact bs_list _)
          obtain ⟨t, htt⟩ : ∃ t, t = bs (Lib.itoa v) := ⟨_, rfl⟩
          rw [← htt] at HI Hb
          clear htt
          cases hq : (t.toList == (s.extract 3 s.size).toList) with
          | true =>
            have Hn := Lib.hid (show Q.numP l = some v.toNat by
              rw [hr, if_pos ⟨hv0, by rw [← Hb.out, beq_iff_eq.1 hq, ByteArray.toList_eq]⟩])
            clear hr
            go_enter Tryz.func52, Tryz.ntmps52
            go_wp2_with fail
            (with_reducible refine HA.out.mono ?_)
            rintro e w1 ⟨rfl, hk1⟩
            have hkd : Kp w w1.drew := Kp.trans hk1 (Kp.of_drewN w1 1)
            have HI1 := Lib.hid (HI.out w1.drew hkd)
            go_upto_region 4 with fail
            refine any_start (by kernel_rfl) ?_
            refine any_take [0, 1, 2, 3, 4, 5, 6, 7, 8, 10, 11] (by kernel_rfl) ?_
            simp only [opsAt, List.getElem?_toArray, List.getElem?_cons_zero, List.getElem?_cons_succ]
            repeat (go_big_quiet_step (fail))
            refine wpQuiet_nil ?_
            refine any_one 9 (by kernel_rfl) ?_
            simp only [opsAt, List.getElem?_toArray, List.getElem?_cons_zero, List.getElem?_cons_succ]
            go_wp2_with (go_at_call 93; go_loud (refine HI1.out.mono ?_); rintro e w2 ⟨rfl, hk2⟩)
            refine any_take [12, 13, 14] (by kernel_rfl) ?_
            simp only [opsAt, List.getElem?_toArray, List.getElem?_cons_zero, List.getElem?_cons_succ]
            repeat (go_big_quiet_step (fail))
            refine wpQuiet_nil ?_
            refine any_one 15 (by kernel_rfl) ?_
            simp only [opsAt, List.getElem?_toArray, List.getElem?_cons_zero, List.getElem?_cons_succ]
            go_wp2_with fail
            refine any_end (by kernel_rfl) ?_
            go_wp2_with fail
            show bodyPost Tryz.prog Tryz.f52 (NumPost w l) .ret _ _
            exact bodyPost_ret (v := .tuple #[iv v, .bool true]) (by simp [results, Tryz.results52, go_sem]) rfl (NumPost.yes (Kp.trans hkd hk2) Hn.out (by omega))
          | false =>
            have Hn := Lib.hid (show Q.numP l = none by
              rw [hr, if_neg]
              rintro ⟨_, e⟩
              rw [Hb.out, e, ByteArray.toList_eq] at hq
              simp at hq)
            clear hr
            go_enter Tryz.func52, Tryz.ntmps52
            go_wp2_with fail
            (with_reducible refine HA.out.mono ?_)
            rintro e w1 ⟨rfl, hk1⟩
            have hkd : Kp w w1.drew := Kp.trans hk1 (Kp.of_drewN w1 1)
            have HI1 := Lib.hid (HI.out w1.drew hkd)
            go_upto_region 4 with fail
            refine any_start (by kernel_rfl) ?_
            refine any_take [0, 1, 2, 3, 4, 5, 6, 7, 8, 10, 11] (by kernel_rfl) ?_
            simp only [opsAt, List.getElem?_toArray, List.getElem?_cons_zero, List.getElem?_cons_succ]
            repeat (go_big_quiet_step (fail))
            refine wpQuiet_nil ?_
            refine any_one 9 (by kernel_rfl) ?_
            simp only [opsAt, List.getElem?_toArray, List.getElem?_cons_zero, List.getElem?_cons_succ]
            go_wp2_with (go_at_call 93; go_loud (refine HI1.out.mono ?_); rintro e w2 ⟨rfl, hk2⟩)
            refine any_take [12, 13, 14] (by kernel_rfl) ?_
            simp only [opsAt, List.getElem?_toArray, List.getElem?_cons_zero, List.getElem?_cons_succ]
            repeat (go_big_quiet_step (fail))
            refine wpQuiet_nil ?_
            refine any_one 15 (by kernel_rfl) ?_
            simp only [opsAt, List.getElem?_toArray, List.getElem?_cons_zero, List.getElem?_cons_succ]
            go_wp2_with fail
            refine any_end (by kernel_rfl) ?_
            go_wp2_with fail
            show bodyPost Tryz.prog Tryz.f52 (NumPost w l) .ret _ _
            exact bodyPost_ret (v := .tuple #[iv v, .bool false]) (by simp [results, Tryz.results52, go_sem]) rfl (NumPost.no v (Kp.trans hkd hk2) Hn.out)
        · have Hn := Lib.hid (show Q.numP l = none by rw [hr, if_neg (fun h => hv0 h.1)])
          have hvn : (decide (0 ≤ v)) = false := by simpa using hv0
          clear hr
          go_enter Tryz.func52, Tryz.ntmps52
          go_wp2_with fail
          (with_reducible refine HA.out.mono ?_)
          rintro e w1 ⟨rfl, hk1⟩
          go_upto_region 4 with fail
          refine any_start (by kernel_rfl) ?_
          refine any_take [0, 1, 2, 3, 4, 5, 6, 7, 8, 10, 11] (by kernel_rfl) ?_
          simp only [opsAt, List.getElem?_toArray, List.getElem?_cons_zero, List.getElem?_cons_succ]
          repeat (go_big_quiet_step (fail))
          refine wpQuiet_nil ?_
          refine any_one 9 (by kernel_rfl) ?_
          simp only [opsAt, List.getElem?_toArray, List.getElem?_cons_zero, List.getElem?_cons_succ]
          go_wp2_with fail
          refine any_take [12, 13, 14] (by kernel_rfl) ?_
          simp only [opsAt, List.getElem?_toArray, List.getElem?_cons_zero, List.getElem?_cons_succ]
          repeat (go_big_quiet_step (fail))
          refine wpQuiet_nil ?_
          refine any_one 15 (by kernel_rfl) ?_
          simp only [opsAt, List.getElem?_toArray, List.getElem?_cons_zero, List.getElem?_cons_succ]
          go_wp2_with fail
          refine any_end (by kernel_rfl) ?_
          go_wp2_with fail
          show bodyPost Tryz.prog Tryz.f52 (NumPost w l) .ret _ _
          exact bodyPost_ret (v := .tuple #[iv v, .bool false]) (by simp [results, Tryz.results52, go_sem]) rfl (NumPost.no v (Kp.trans hk1 (Kp.of_drewN w1 1)) Hn.out)
end Go.Proofs.YtkmejehhdjdlbaaGreatDoor

namespace Go.Proofs.YtkmejehhdjdlbaaGreatDoor
open Go.RowKit

def setAll (l : List Value) : Nat → List Value → List Value
  | _, [] => l
  | o, v :: r => setAll (l.set o v) (o + 1) r
theorem setAll_length : ∀ (vs : List Value) (l : List Value) (o : Nat), (setAll l o vs).length = l.length
  | [], _, _ => rfl
  | v :: r, l, o => by simp only [setAll]; rw [setAll_length r]; simp
theorem setAll_get : ∀ (vs : List Value) (l : List Value) (o j : Nat), o + vs.length ≤ l.length → (setAll l o vs)[j]? = if o ≤ j ∧ j < o + vs.length then vs[j - o]? else l[j]?
  | [], l, o, j, _ => by simp only [setAll, List.length_nil]; rw [if_neg (by omega)]
  | v :: r, l, o, j, h => by
    simp only [List.length_cons] at h
    simp only [setAll]
    rw [setAll_get r (l.set o v) (o + 1) j (by simp; omega)]
    by_cases h1 : o + 1 ≤ j ∧ j < o + 1 + r.length
    · rw [if_pos h1, if_pos (by simp; omega), show j - o = (j - (o + 1)) + 1 by omega]
      rfl
    · rw [if_neg h1]
      by_cases h2 : j = o
      · subst h2
        rw [if_pos (by simp), List.getElem?_set_self (by omega), Nat.sub_self]; rfl
      · rw [if_neg (by simp; omega), List.getElem?_set_ne (by omega)]
theorem Own.stores {base : Nat} {e : TypeId} {size g n cap : Nat} : ∀ (vs : List Value) (o : Nat) (w : World) (xs : List Value), Own w base e size (some ⟨g, 0, none⟩) n cap xs → Own (w.setCells g o vs) base e size (some ⟨g, 0, none⟩) n cap (setAll xs o vs)
  | [], _, _, _, h => h
  | v :: r, o, _w, _xs, h => Own.stores r (o + 1) _ _ (h.store o v)
theorem Fr.stores (g : Nat) : ∀ (vs : List Value) (o : Nat) (w : World), Fr [g] w (w.setCells g o vs)
  | [], _, w => Fr.refl _ w
  | v :: r, o, w => (Fr.set w ⟨g, o, none⟩ v).trans (Fr.stores g r (o + 1) _)
/-- A row looked at beyond its end. -/
theorem Own.longer {w : World} {base : Nat} {e : TypeId} {g n cap : Nat} {xs : List Value} (h : Own w base e 1 (some ⟨g, 0, none⟩) n cap xs) (N : Nat) (hN : N ≤ cap) (hn : n ≤ N) : ∃ ys, Own w base e 1 (some ⟨g, 0, none⟩) N cap (xs ++ ys) ∧ ys.length = N - n := by
  have hl := h.1
  rcases h.2 with ⟨hv, _⟩ | ⟨g', cap', cur, hv, hb, hg, h1, h2, h3, h4⟩
  · simp at hv
  · simp only [Value.slice.injEq, Option.some.injEq, Addr.mk.injEq, and_true, true_and] at hv
    obtain ⟨rfl, rfl⟩ := hv
    have hcl : cur.toList.length = cap := by simp [h3]
    refine ⟨(cur.toList.take N).drop n, ⟨?_, .inr ⟨g, cap, cur, rfl, hb, hg, hN, h2, h3, ?_⟩⟩, by simp; omega⟩
    · simp only [Nat.mul_one] at hl ⊢
      simp [hl]; omega
    · rw [← h4]
      simp only [Nat.mul_one]
      rw [show cur.toList.take n = (cur.toList.take N).take n by rw [List.take_take, Nat.min_eq_left hn], List.take_append_drop]
theorem setAll_head (L : List Value) (xs : List Value) (v : Value) (h : L.length = xs.length + 1) : setAll (setAll L 1 xs) 0 [v] = v :: xs := by
  refine List.ext_getElem? fun j => ?_
  rw [setAll_get [v] _ 0 j (by rw [setAll_length]; simp; omega)]
  rcases j with _ | j
  · rw [if_pos (by simp)]; rfl
  · rw [if_neg (by simp), setAll_get xs L 1 (j + 1) (by omega)]
    by_cases hj : j < xs.length
    · rw [if_pos (by omega), Nat.add_sub_cancel]; rfl
    · rw [if_neg (by omega), List.getElem?_eq_none (by omega), List.getElem?_eq_none (by simp; omega)]
/-- What the insertion leaves. -/
def InsPost (w : World) (B : Nat) (ao : Option Addr) (xs : List Int) (e : Ending) (w' : World) : Prop :=
  ∃ t' : Tv, e = .returned (tvv t') ∧ Own w' B 3 1 t'.ao t'.n t'.c ((7 :: xs).map iv) ∧ Fr (blkL ao) w w' ∧ ∀ x ∈ blkL t'.ao, x ∈ blkL ao ∨ w.heap.size ≤ x
theorem insert_any (w : World) (B : Nat) (ao : Option Addr) (n c : Nat) (xs : List Int) (h : Own w B 3 1 ao n c (xs.map iv)) (hx : xs ≠ []) (hn : n ≤ 100000) (hB : B ≤ w.heap.size) (vb : Nat) (hv : w.heap[vb]? = some (.cells #[iv 7] 3 (0, 0))) (hvb : vb ∉ blkL ao) :
    Calls Tryz.prog 97 #[.slice ao n c, iv 0, .slice (some ⟨vb, 0, none⟩) 1 1] w (InsPost w B ao xs) := by
  have hl : xs.length = n := by have := h.1; simpa using this
  have hpos : 0 < xs.length := List.length_pos_iff.2 hx
  obtain ⟨g, rfl⟩ := h.blockOf (by omega)
  have hcap := h.cap
  have hgv : vb ≠ g := fun e => hvb (mem_blkL_some.2 e)
  have hgl := h.lt g rfl
  have hcs : ∀ j v, (xs.map iv)[j]? = some v → w.cell? ⟨g, 0 + j, none⟩ = some v := fun j v hj => by
    have hjl : j < n := by have := (List.getElem?_eq_some_iff.1 hj).1; simp at this; omega
    rw [Nat.zero_add, h.cell j (by omega)]; exact hj
  have hvs : ∀ j v, [iv 7][j]? = some v → w.cell? ⟨vb, 0 + j, none⟩ = some v := fun j v hj => by
    rw [cell_of_row w vb (0 + j) _ _ _ hv]
    simpa using hj
  by_cases hroom : n + 1 ≤ c
  · obtain ⟨ys, hL, hys⟩ := h.longer (n + 1) hroom (by omega)
    have hLl : (xs.map iv ++ ys).length = n + 1 := by have := hL.1; simpa using this
    have hcc : c ≤ 9223372036854775807 := by
      rcases h.2 with ⟨q, _⟩ | ⟨_, _, _, q, _, _, _, q2, _, _⟩
      · simp at q
      · simp only [Value.slice.injEq] at q; unfold maxLen at q2; omega
    have hc := Any2.slices_Insert_int_shift Tryz.lays2x21 g 0 n c 0 vb 0 1 1 (xs.map iv) [iv 7] w (by omega) (by omega) hroom hcc hgv (by simp [hl]) rfl hcs
      (fun j hj => by rw [Nat.zero_add, hL.cell j (by omega), List.getElem?_eq_getElem (by omega)]; rfl) (fun j _ => h.free _) hvs (by simp [Value.oneCell']) (by simp [Value.oneCell'])
      3 3 1 c (by simp [World.shape?, hv]) (by
        rcases h.2 with ⟨q, _⟩ | ⟨g', cap', cur, q, _, q2, _, _, q3, _⟩
        · simp at q
        · simp only [Value.slice.injEq, Option.some.injEq, Addr.mk.injEq, and_true, true_and] at q
          obtain ⟨rfl, rfl⟩ := q
          simp [World.shape?, q2, q3]) (by omega) (by simp [World.frozen?, hv]) (by simp [World.frozen?, hv])
    refine hc.mono ?_
    rintro e w' ⟨rfl, rfl⟩
    have h1 := Own.stores [iv 7] (0 + 0) _ _ (Own.stores ((xs.map iv).drop 0) (0 + (0 + 1)) _ _ (hL.keep (Kp.of_drewN w 1)))
    have h2 : setAll (setAll (xs.map iv ++ ys) (0 + (0 + 1)) ((xs.map iv).drop 0)) (0 + 0) [iv 7] = (7 :: xs).map iv := setAll_head _ _ _ (by rw [hLl]; simp [hl])
    rw [h2] at h1
    refine ⟨⟨some ⟨g, 0, none⟩, n + 1, c⟩, rfl, h1, ?_, fun x hx => .inl hx⟩
    exact (((Fr.drewN _ w 1).trans (Fr.stores g _ _ _)).trans (Fr.stores g _ _ _)).mono (fun x hx => by simp at hx; subst hx; exact mem_blkL_some.2 rfl)
  · have hc := Any2.slices_Insert_int_grow Tryz.lays2x21 g 0 n c 0 vb 0 1 1 (xs.map iv) [iv 7] w (by omega) (by omega) hcap (by omega) (by omega) (by simp [hl]) rfl hcs hvs (by simp [Value.oneCell']) (by simp [Value.oneCell'])
    refine hc.mono ?_
    rintro e w' ⟨rfl, rfl⟩
    have hge := grownCap_ge w (n + 1) c 3
    have hle := grownCap_le_maxLen w (n + 1) c 3 (by unfold maxLen; omega)
    unfold InsPost
    rw [show Tryz.lays2x21_ren.t 3 = 3 from rfl]
    generalize hC : ((xs.map iv).take 0).toArray ++ Builtin.zeroCells (Value.int .i64 0).cells (n + 1 - 0) ++ Builtin.zeroCells (Value.int .i64 0).cells (grownCap w (n + 1) c 3 - (n + 1)) = C
    have hCs : C.size = grownCap w (n + 1) c 3 := by
      rw [← hC]
      simp only [Array.size_append, size_zeroCells, List.take_zero, List.size_toArray, List.length_nil]
      rw [show (Value.int .i64 0).cells.size = 1 from rfl]
      omega
    generalize grownCap w (n + 1) c 3 = G at *
    have h0 : Own (w.alloc (.cells C 3)) w.heap.size 3 1 (some ⟨w.heap.size, 0, none⟩) (n + 1) G (C.toList.take (n + 1)) :=
      ⟨by simp [hCs]; omega, .inr ⟨w.heap.size, G, C, rfl, Nat.le_refl _, heap_alloc_new w _, hge, hle, by omega, by simp⟩⟩
    have h1 := Own.stores ((xs.map iv).drop 0) (0 + 1) _ _ ((Own.stores [iv 7] 0 _ _ (h0.keep (Kp.of_drewN _ 1))).keep (Kp.of_drewN _ 1))
    have h2 : setAll (setAll (C.toList.take (n + 1)) 0 [iv 7]) (0 + 1) ((xs.map iv).drop 0) = (7 :: xs).map iv := by
      have hLl : (C.toList.take (n + 1)).length = n + 1 := by simp [hCs]; omega
      refine List.ext_getElem? fun j => ?_
      rw [setAll_get _ _ _ _ (by rw [setAll_length, hLl]; simp [hl]; omega)]
      rcases j with _ | j
      · rw [if_neg (by omega), setAll_get [iv 7] _ 0 0 (by rw [hLl]; simp), if_pos (by simp)]; rfl
      · by_cases hj : j < xs.length
        · rw [if_pos (by simp; omega), Nat.zero_add, Nat.add_sub_cancel]; simp
        · rw [if_neg (by simp; omega), List.getElem?_eq_none (by rw [setAll_length, hLl]; omega), List.getElem?_eq_none (by simp; omega)]
    rw [h2] at h1
    refine ⟨⟨some ⟨w.heap.size, 0, none⟩, n + 1, G⟩, rfl, h1.mono (fun x hx => by simp [blk] at hx; omega), ?_, fun x hx => .inr (by rw [mem_blkL_some] at hx; omega)⟩
    have hk : Kp w ((((w.alloc (.cells C 3)).drew.setCells w.heap.size 0 [iv 7]).drew).setCells w.heap.size (0 + 1) ((xs.map iv).drop 0)) := by
      refine kp_step' (Kp.trans (kp_step' (Kp.trans (Kp.new w (.cells C 3)) (Kp.of_drewN _ 1)) (Fr.stores w.heap.size [iv 7] 0 _) (fun j hj => by simp at hj; omega)) (Kp.of_drewN _ 1)) (Fr.stores w.heap.size _ _ _) (fun j hj => by simp at hj; omega)
    exact (Fr.of_kp hk).mono (by simp)
end Go.Proofs.YtkmejehhdjdlbaaGreatDoor

namespace Go.Proofs.YtkmejehhdjdlbaaGreatDoor
open Go.RowKit

/-- A list without its first element. -/
def subT (tf : Tv) (d : Nat) : Tv := if d = 0 then tf else ⟨if tf.c = 1 then tf.ao else tf.ao.map (·.add 2), tf.n - 1, tf.c - 1⟩
/-- The pattern's variable at block bx; its rows; d of its messages are dropped. -/
structure MdS (w : World) (B bx : Nat) (nm : ByteArray) (t0 t1 tf : Tv) (td ts : List Tv) (D ls : List Ln) (b0 b1 : List Int) : Prop where
  four : Four w bx (.string nm) (tvv t0) (tvv t1) (tvv (subT tf D.length))
  hd : td.length = D.length
  h1 : D.length ≤ 1
  hl : ts.length = ls.length
  sep : Sep w B (rowsP t0 t1 tf (td ++ ts) b0 b1 (D ++ ls))
  hb : bx < B
theorem lnc_app : ∀ (ls ms : List Ln) (ts us : List Tv), ts.length = ls.length → lnc (ls ++ ms) (ts ++ us) = lnc ls ts ++ lnc ms us
  | [], ms, [], us, _ => rfl
  | l :: ls, ms, t :: ts, us, h => by
    simp only [List.length_cons] at h
    simp only [List.cons_append, lnc]
    rw [lnc_app ls ms ts us (by omega)]
section
variable {w : World} {B bx : Nat} {nm : ByteArray} {t0 t1 tf : Tv} {td ts : List Tv} {D ls : List Ln} {b0 b1 : List Int}
theorem MdS.nf (h : MdS w B bx nm t0 t1 tf td ts D ls b0 b1) : tf.n = D.length + ls.length := by
  have h1 := (h.sep.own ⟨73, 2, tf, lnc (D ++ ls) (td ++ ts)⟩ (by simp [rowsP])).1
  simp only at h1
  rw [lnc_length (by simp [h.hd, h.hl])] at h1
  simp at h1
  omega
theorem MdS.own (h : MdS w B bx nm t0 t1 tf td ts D ls b0 b1) : Own w B 73 2 tf.ao tf.n tf.c (lnc (D ++ ls) (td ++ ts)) := h.sep.own ⟨73, 2, tf, lnc (D ++ ls) (td ++ ts)⟩ (by simp [rowsP])
/-- Where the messages lie. -/
theorem MdS.at (h : MdS w B bx nm t0 t1 tf td ts D ls b0 b1) (hn : 0 < ls.length) :
    ∃ g, tf.ao = some ⟨g, 0, none⟩ ∧ subT tf D.length = ⟨some ⟨g, D.length * 2, none⟩, ls.length, tf.c - D.length⟩ ∧ ls.length ≤ tf.c - D.length ∧ bx < g ∧ g < w.heap.size := by
  have hnf := h.nf
  obtain ⟨g, e⟩ := h.own.blockOf (by omega)
  have hc := h.own.cap
  have hlt := h.own.lt g (by rw [e]; rfl)
  have hb := h.hb
  refine ⟨g, e, ?_, by omega, by omega, hlt.2⟩
  have h1 := h.h1
  unfold subT
  rcases Nat.eq_zero_or_pos D.length with q | q
  · rw [if_pos q, q]
    obtain ⟨ao, n, c⟩ := tf
    simp only at e hnf ⊢
    rw [e, hnf, q]; simp
  · have q1 : D.length = 1 := by omega
    rw [if_neg (by omega), if_neg (by omega), e, q1, hnf, q1, Option.map_some, Addr.add_lit]
    simp
theorem MdS.cells (h : MdS w B bx nm t0 t1 tf td ts D ls b0 b1) {g : Nat} (hg : tf.ao = some ⟨g, 0, none⟩) (j : Nat) (hj : j < ls.length) :
    w.cell? ⟨g, D.length * 2 + j * 2, none⟩ = some (iv ls[j].1) ∧ w.cell? ⟨g, D.length * 2 + j * 2 + 1, none⟩ = some (tvv (ts[j]'(by rw [h.hl]; exact hj))) ∧ w.frozen? ⟨g, D.length * 2 + j * 2 + 1, none⟩ = false := by
  have ho := h.own
  rw [hg] at ho
  have hnf := h.nf
  obtain ⟨g0, g1⟩ := lnc_get (ls := ls) h.hl j hj
  have hll := lnc_length (ls := D) h.hd
  refine ⟨?_, ?_, ho.free _⟩
  · rw [ho.cell _ (by omega), lnc_app _ _ _ _ h.hd, List.getElem?_append_right (by omega), show D.length * 2 + j * 2 - (lnc D td).length = j * 2 by omega]
    exact g0
  · rw [ho.cell _ (by omega), lnc_app _ _ _ _ h.hd, List.getElem?_append_right (by omega), show D.length * 2 + j * 2 + 1 - (lnc D td).length = j * 2 + 1 by omega]
    exact g1
theorem MdS.row (h : MdS w B bx nm t0 t1 tf td ts D ls b0 b1) (j : Nat) (hj : j < ls.length) : Own w B 3 1 (ts[j]'(by rw [h.hl]; exact hj)).ao (ts[j]'(by rw [h.hl]; exact hj)).n (ts[j]'(by rw [h.hl]; exact hj)).c (ls[j].2.map iv) := by
  refine h.sep.own (rowT (ts[j]'(by rw [h.hl]; exact hj)) ls[j]) ?_
  have : (rowsT ts ls)[j]? = _ := rowsT_get h.hl j hj
  simp only [rowsP, List.mem_cons]
  refine .inr (.inr (.inr ?_))
  rw [rowsT_append _ _ _ _ h.hd]
  exact List.mem_append_right _ (List.mem_of_getElem? this)
theorem MdS.kp {w' : World} (h : MdS w B bx nm t0 t1 tf td ts D ls b0 b1) (k : Kp w w') : MdS w' B bx nm t0 t1 tf td ts D ls b0 b1 := ⟨h.four.kp k, h.hd, h.h1, h.hl, h.sep.kp k, h.hb⟩
theorem MdS.lns (h : MdS w B bx nm t0 t1 tf td ts D ls b0 b1) (hn : ls.length ≤ 100000) (ht : ∀ l ∈ ls, l.2.length ≤ 100000) : Lns w (subT tf D.length).ao (subT tf D.length).n ls := by
  rcases Nat.eq_zero_or_pos ls.length with q | q
  · obtain rfl : ls = [] := List.eq_nil_of_length_eq_zero q
    have hnf := h.nf
    have h1 := h.h1
    have e : (subT tf D.length).n = 0 := by
      unfold subT
      split <;> simp at hnf ⊢ <;> omega
    rw [e]
    exact ⟨rfl, Nat.zero_le _, fun j hj => absurd hj (by simp)⟩
  · obtain ⟨g, hg, he, _⟩ := h.at q
    rw [he]
    refine ⟨rfl, by simp only; omega, fun j hj => ?_⟩
    obtain ⟨c0, c1, _⟩ := h.cells hg j hj
    have hi := (h.row j hj).is
    exact ⟨g, D.length * 2, _, _, _, rfl, c0, c1, hi, by rw [← hi.1]; have := ht _ (List.getElem_mem hj); omega⟩
theorem MdS.pat (h : MdS w B bx nm t0 t1 tf td ts D ls b0 b1) (hn : ls.length ≤ 100000) (ht : ∀ l ∈ ls, l.2.length ≤ 100000) : PatI w t0.ao t1.ao (subT tf D.length).ao t0.n t1.n (subT tf D.length).n b0 b1 ls :=
  ⟨Own.is (h.sep.own ⟨3, 1, t0, b0.map iv⟩ (by simp [rowsP])), Own.is (h.sep.own ⟨3, 1, t1, b1.map iv⟩ (by simp [rowsP])), h.lns hn ht⟩
end
theorem perm_a {α : Type} (a b c r : α) (A C : List α) : (a :: b :: c :: (A ++ r :: C)).Perm (r :: a :: b :: c :: (A ++ C)) := List.perm_middle (l₁ := a :: b :: c :: A)
theorem perm_b {α : Type} (r a b c : α) (X : List α) : (r :: a :: b :: c :: X).Perm (c :: r :: a :: b :: X) := List.perm_middle (l₁ := [r, a, b])
theorem lnc_same : ∀ (ls ms : List Ln) (ts : List Tv), ls.map (·.1) = ms.map (·.1) → lnc ls ts = lnc ms ts
  | [], [], _, _ => rfl
  | l :: ls, m :: ms, [], _ => rfl
  | l :: ls, m :: ms, t :: ts, h => by
    simp only [List.map_cons, List.cons.injEq] at h
    simp only [lnc]
    rw [h.1, lnc_same ls ms ts h.2]
section
variable {w : World} {B bx : Nat} {nm : ByteArray} {t0 t1 tf : Tv} {td ts : List Tv} {D ls : List Ln} {b0 b1 : List Int}
/-- The tokens of one message have changed: the list, and then its place among the messages. -/
theorem MdS.tok {w1 : World} {g j : Nat} {t t' : Tv} {l : Ln} {xs : List Int} (h : MdS w B bx nm t0 t1 tf td ts D ls b0 b1) (hg : tf.ao = some ⟨g, 0, none⟩) (ht : ts[j]? = some t) (hl : ls[j]? = some l) (f : Fr (blkL t.ao) w w1)
    (ho : Own w1 B 3 1 t'.ao t'.n t'.c (xs.map iv)) (hb : ∀ x ∈ blkL t'.ao, x ∈ blkL t.ao ∨ w.heap.size ≤ x) :
    MdS (w1.setCell ⟨g, D.length * 2 + j * 2 + 1, none⟩ (tvv t')) B bx nm t0 t1 tf td (ts.set j t') D (ls.set j (l.1, xs)) b0 b1 := by
  obtain ⟨hj, hl2⟩ := List.getElem?_eq_some_iff.1 hl
  obtain ⟨hjt, ht2⟩ := List.getElem?_eq_some_iff.1 ht
  have hJ : D.length + j < (D ++ ls).length := by simp; omega
  have hall : (td ++ ts).length = (D ++ ls).length := by simp [h.hd, h.hl]
  have e1 : (td ++ ts)[D.length + j]'(by omega) = t := by rw [List.getElem_append_right (by rw [h.hd]; omega)]; simp only [h.hd]; rw [← ht2]; congr 1; omega
  have e2 : (D ++ ls)[D.length + j] = l := by rw [List.getElem_append_right (by omega)]; rw [← hl2]; congr 1; omega
  have hsp := rowsT_split hall (D.length + j) hJ
  rw [e1, e2] at hsp
  have hs := h.sep
  unfold rowsP at hs
  rw [hsp] at hs
  have hs1 := hs.perm (perm_a _ _ _ _ _ _)
  have hs2 := hs1.upd (r' := rowT t' (l.1, xs)) f ho hb
  have hs3 := hs2.perm (perm_b _ _ _ _ _)
  obtain ⟨fa, fn, fc⟩ := tf
  simp only at hg
  subst hg
  have hs4 := Sep.store hs3 ((D.length + j) * 2 + 1) (tvv t')
  rw [lnc_set _ _ _ _ hall] at hs4
  have e3 : (td ++ ts).set (D.length + j) t' = td ++ ts.set j t' := by rw [List.set_append_right _ _ (by rw [h.hd]; omega), h.hd, Nat.add_sub_cancel_left]
  have e4 : (D ++ ls).set (D.length + j) (l.1, xs) = D ++ ls.set j (l.1, xs) := by rw [List.set_append_right _ _ (by omega), Nat.add_sub_cancel_left]
  have e5 : lnc (D ++ ls) (td ++ ts.set j t') = lnc (D ++ ls.set j (l.1, xs)) (td ++ ts.set j t') := lnc_same _ _ _ (by
    rw [List.map_append, List.map_append, List.map_set, ← hl2]
    congr 1
    have := List.set_getElem_self (show j < (ls.map (fun x : Ln => x.1)).length by simpa using hj)
    rw [List.getElem_map] at this
    exact this.symm)
  have hall' : (td ++ ts.set j t').length = (D ++ ls.set j (l.1, xs)).length := by simp [h.hd, h.hl]
  have hsp' := rowsT_split hall' (D.length + j) (by simp; omega)
  have e6 : (td ++ ts.set j t')[D.length + j]'(by simp [h.hd]; omega) = t' := Option.some.inj ((List.getElem?_eq_getElem _).symm.trans (by rw [← e3, List.getElem?_set_self (by omega)]))
  have e7 : (D ++ ls.set j (l.1, xs))[D.length + j]'(by simp; omega) = (l.1, xs) := Option.some.inj ((List.getElem?_eq_getElem _).symm.trans (by rw [← e4, List.getElem?_set_self (by omega)]))
  rw [e6, e7] at hsp'
  have e8 : (td ++ ts.set j t').take (D.length + j) = (td ++ ts).take (D.length + j) := by rw [← e3, List.take_set_of_le (Nat.le_refl _)]
  have e9 : (D ++ ls.set j (l.1, xs)).take (D.length + j) = (D ++ ls).take (D.length + j) := by rw [← e4, List.take_set_of_le (Nat.le_refl _)]
  have ea : (td ++ ts.set j t').drop (D.length + j + 1) = (td ++ ts).drop (D.length + j + 1) := by rw [← e3, List.drop_set_of_lt (by omega)]
  have eb : (D ++ ls.set j (l.1, xs)).drop (D.length + j + 1) = (D ++ ls).drop (D.length + j + 1) := by rw [← e4, List.drop_set_of_lt (by omega)]
  rw [e8, e9, ea, eb] at hsp'
  have hpos : (D.length + j) * 2 + 1 = D.length * 2 + j * 2 + 1 := by omega
  rw [hpos, e3, e5] at hs4
  have hbg := Rw.lt hs3.head (x := g) (mem_blkL_some.2 rfl)
  have hrow := h.row j hj
  refine ⟨?_, h.hd, h.h1, by simp [h.hl], ?_, h.hb⟩
  · refine ((h.four.fr f (fun q => ?_))).fr (Fr.set _ _ _) (by have := h.hb; have := hbg.1; simp; omega)
    have hr : Own w B 3 1 t.ao t.n t.c (l.2.map iv) := by rw [← ht2, ← hl2]; exact hrow
    have := (hr.lt bx (mem_blkL.1 q)).1
    have := h.hb
    omega
  · refine hs4.perm ?_
    unfold rowsP
    rw [hsp']
    exact ((perm_a _ _ _ _ _ _).trans (perm_b _ _ _ _ _)).symm
/-- The list of messages lies apart from each message's tokens. -/
theorem MdS.apart {g j : Nat} {t : Tv} (h : MdS w B bx nm t0 t1 tf td ts D ls b0 b1) (hg : tf.ao = some ⟨g, 0, none⟩) (ht : ts[j]? = some t) : g ∉ blkL t.ao := fun hq => by
  obtain ⟨hjt, ht2⟩ := List.getElem?_eq_some_iff.1 ht
  have hj : j < ls.length := by rw [← h.hl]; exact hjt
  have hp := (List.pairwise_cons.1 (List.pairwise_cons.1 (List.pairwise_cons.1 h.sep.ap).2).2).1
  have hm : rowT t ls[j] ∈ rowsT (td ++ ts) (D ++ ls) := by
    rw [rowsT_append _ _ _ _ h.hd]
    refine List.mem_append_right _ ?_
    rw [← ht2]
    exact List.mem_of_getElem? (rowsT_get h.hl j hj)
  exact hp _ hm g (by unfold Rw.bl; rw [hg]; exact mem_blkL_some.2 rfl) hq
end
theorem Kp.frz {w w' : World} (h : Kp w w') {p : Addr} {u : Value} (hc : w.cell? p = some u) {f : Bool} (hf : w.frozen? p = f) : w'.frozen? p = f := (Fr.of_kp h).free hc hf (by simp)
end Go.Proofs.YtkmejehhdjdlbaaGreatDoor

namespace Go.Proofs.YtkmejehhdjdlbaaGreatDoor
open Go.RowKit

structure DrS (w : World) (B : Nat) (t0 t1 tf : Tv) (td ts : List Tv) (D ls : List Ln) (b0 b1 : List Int) : Prop where
  hd : td.length = D.length
  h1 : D.length ≤ 1
  hl : ts.length = ls.length
  sep : Sep w B (rowsP t0 t1 tf (td ++ ts) b0 b1 (D ++ ls))
section
variable {w : World} {B : Nat} {t0 t1 tf : Tv} {td ts : List Tv} {D ls : List Ln} {b0 b1 : List Int}
theorem DrS.kp {w' : World} (h : DrS w B t0 t1 tf td ts D ls b0 b1) (k : Kp w w') : DrS w' B t0 t1 tf td ts D ls b0 b1 := ⟨h.hd, h.h1, h.hl, h.sep.kp k⟩
theorem DrS.fr {w' : World} {X : List Nat} (h : DrS w B t0 t1 tf td ts D ls b0 b1) (k : Fr X w w') (hX : ∀ x ∈ X, x < B ∨ w.heap.size ≤ x) : DrS w' B t0 t1 tf td ts D ls b0 b1 := ⟨h.hd, h.h1, h.hl, h.sep.fr k hX⟩
theorem DrS.base {B' : Nat} (h : DrS w B t0 t1 tf td ts D ls b0 b1) (hB : B' ≤ B) : DrS w B' t0 t1 tf td ts D ls b0 b1 := ⟨h.hd, h.h1, h.hl, h.sep.base hB⟩
theorem DrS.nf (h : DrS w B t0 t1 tf td ts D ls b0 b1) : tf.n = D.length + ls.length := by
  have h1 := (h.sep.own ⟨73, 2, tf, lnc (D ++ ls) (td ++ ts)⟩ (by simp [rowsP])).1
  simp only at h1
  rw [lnc_length (by simp [h.hd, h.hl])] at h1
  simp at h1
  omega
theorem DrS.own (h : DrS w B t0 t1 tf td ts D ls b0 b1) : Own w B 73 2 tf.ao tf.n tf.c (lnc (D ++ ls) (td ++ ts)) := h.sep.own ⟨73, 2, tf, lnc (D ++ ls) (td ++ ts)⟩ (by simp [rowsP])
/-- Where the messages lie. -/
theorem DrS.at (h : DrS w B t0 t1 tf td ts D ls b0 b1) (hn : 0 < ls.length) :
    ∃ g, tf.ao = some ⟨g, 0, none⟩ ∧ subT tf D.length = ⟨some ⟨g, D.length * 2, none⟩, ls.length, tf.c - D.length⟩ ∧ ls.length ≤ tf.c - D.length ∧ g < w.heap.size := by
  have hnf := h.nf
  obtain ⟨g, e⟩ := h.own.blockOf (by omega)
  have hc := h.own.cap
  have hlt := h.own.lt g (by rw [e]; rfl)
  refine ⟨g, e, ?_, by omega, hlt.2⟩
  have h1 := h.h1
  unfold subT
  rcases Nat.eq_zero_or_pos D.length with q | q
  · rw [if_pos q, q]
    obtain ⟨ao, n, c⟩ := tf
    simp only at e hnf ⊢
    rw [e, hnf, q]; simp
  · have q1 : D.length = 1 := by omega
    rw [if_neg (by omega), if_neg (by omega), e, q1, hnf, q1, Option.map_some, Addr.add_lit]
    simp
theorem DrS.cells (h : DrS w B t0 t1 tf td ts D ls b0 b1) {g : Nat} (hg : tf.ao = some ⟨g, 0, none⟩) (j : Nat) (hj : j < ls.length) :
    w.cell? ⟨g, D.length * 2 + j * 2, none⟩ = some (iv ls[j].1) ∧ w.cell? ⟨g, D.length * 2 + j * 2 + 1, none⟩ = some (tvv (ts[j]'(by rw [h.hl]; exact hj))) ∧ w.frozen? ⟨g, D.length * 2 + j * 2 + 1, none⟩ = false := by
  have ho := h.own
  rw [hg] at ho
  have hnf := h.nf
  obtain ⟨g0, g1⟩ := lnc_get (ls := ls) h.hl j hj
  have hll := lnc_length (ls := D) h.hd
  refine ⟨?_, ?_, ho.free _⟩
  · rw [ho.cell _ (by omega), lnc_app _ _ _ _ h.hd, List.getElem?_append_right (by omega), show D.length * 2 + j * 2 - (lnc D td).length = j * 2 by omega]
    exact g0
  · rw [ho.cell _ (by omega), lnc_app _ _ _ _ h.hd, List.getElem?_append_right (by omega), show D.length * 2 + j * 2 + 1 - (lnc D td).length = j * 2 + 1 by omega]
    exact g1
theorem DrS.row (h : DrS w B t0 t1 tf td ts D ls b0 b1) (j : Nat) (hj : j < ls.length) : Own w B 3 1 (ts[j]'(by rw [h.hl]; exact hj)).ao (ts[j]'(by rw [h.hl]; exact hj)).n (ts[j]'(by rw [h.hl]; exact hj)).c (ls[j].2.map iv) := by
  refine h.sep.own (rowT (ts[j]'(by rw [h.hl]; exact hj)) ls[j]) ?_
  have : (rowsT ts ls)[j]? = _ := rowsT_get h.hl j hj
  simp only [rowsP, List.mem_cons]
  refine .inr (.inr (.inr ?_))
  rw [rowsT_append _ _ _ _ h.hd]
  exact List.mem_append_right _ (List.mem_of_getElem? this)
theorem DrS.lns (h : DrS w B t0 t1 tf td ts D ls b0 b1) (hn : ls.length ≤ 100000) (ht : ∀ l ∈ ls, l.2.length ≤ 100000) : Lns w (subT tf D.length).ao (subT tf D.length).n ls := by
  rcases Nat.eq_zero_or_pos ls.length with q | q
  · obtain rfl : ls = [] := List.eq_nil_of_length_eq_zero q
    have hnf := h.nf
    have h1 := h.h1
    have e : (subT tf D.length).n = 0 := by
      unfold subT
      split <;> simp at hnf ⊢ <;> omega
    rw [e]
    exact ⟨rfl, Nat.zero_le _, fun j hj => absurd hj (by simp)⟩
  · obtain ⟨g, hg, he, _⟩ := h.at q
    rw [he]
    refine ⟨rfl, by simp only; omega, fun j hj => ?_⟩
    obtain ⟨c0, c1, _⟩ := h.cells hg j hj
    have hi := (h.row j hj).is
    exact ⟨g, D.length * 2, _, _, _, rfl, c0, c1, hi, by rw [← hi.1]; have := ht _ (List.getElem_mem hj); omega⟩
theorem DrS.pat (h : DrS w B t0 t1 tf td ts D ls b0 b1) (hn : ls.length ≤ 100000) (ht : ∀ l ∈ ls, l.2.length ≤ 100000) : PatI w t0.ao t1.ao (subT tf D.length).ao t0.n t1.n (subT tf D.length).n b0 b1 ls :=
  ⟨Own.is (h.sep.own ⟨3, 1, t0, b0.map iv⟩ (by simp [rowsP])), Own.is (h.sep.own ⟨3, 1, t1, b1.map iv⟩ (by simp [rowsP])), h.lns hn ht⟩
end
end Go.Proofs.YtkmejehhdjdlbaaGreatDoor

namespace Go.Proofs.YtkmejehhdjdlbaaGreatDoor
open Go.RowKit

/-- What a write to block bx, or from block B on, leaves as it is. -/
def Stb (bx B : Nat) (P : World → Prop) : Prop := ∀ (X : List Nat) (w1 w2 : World), P w1 → Fr X w1 w2 → (∀ x ∈ X, x = bx ∨ B ≤ x) → P w2
def Kept (bx B : Nat) (w w' : World) : Prop := ∀ P : World → Prop, Stb bx B P → P w → P w'
theorem Kept.kp {bx B : Nat} {w w' : World} (h : Kp w w') : Kept bx B w w' := fun _ hs hp => hs [] w w' hp (Fr.of_kp h) (by simp)
theorem Kept.step {bx B : Nat} {X : List Nat} {w w1 w2 : World} (h : Kept bx B w w1) (f : Fr X w1 w2) (hX : ∀ x ∈ X, x = bx ∨ B ≤ x) : Kept bx B w w2 := fun P hs hp => hs X w1 w2 (h P hs hp) f hX
theorem Kept.keep {bx B : Nat} {w0 w w' : World} (h : Kept bx B w w') (k : Kp w0 w) (h1 : w0.heap.size ≤ bx) (h2 : w0.heap.size ≤ B) : Kp w0 w' :=
  h (fun v => Kp w0 v) (fun _ _ _ hp f hX => kp_step' hp f (fun x hx => by rcases hX x hx with q | q <;> omega)) k
theorem Kept.four {bx B b : Nat} {w w' : World} {x y z u : Value} (h : Kept bx B w w') (k : Four w b x y z u) (h1 : b ≠ bx) (h2 : b < B) : Four w' b x y z u :=
  h (fun v => Four v b x y z u) (fun X _ _ hp f hX => hp.fr f (fun hq => by rcases hX b hq with q | q <;> omega)) k
end Go.Proofs.YtkmejehhdjdlbaaGreatDoor

namespace Go.Proofs.YtkmejehhdjdlbaaGreatDoor
open Go.RowKit

def preL (ls : List Ln) (n : Nat) : List Ln := if n = 0 then ls.modify 0 (fun l => (l.1, 7 :: l.2)) else ls.modify (n - 1) (fun l => (l.1, l.2 ++ [7]))
theorem modify_set {α : Type} (l : List α) (f : α → α) (j : Nat) (h : j < l.length) : l.modify j f = l.set j (f l[j]) := by
  refine List.ext_getElem? fun i => ?_
  rw [List.getElem?_modify]
  by_cases e : j = i
  · subst e
    rw [List.getElem?_set_self h, List.getElem?_eq_getElem h]; simp
  · rw [List.getElem?_set_ne e]; simp [e]
/-- What is left behind. -/
def PrePost (w : World) (B bx : Nat) (nm : ByteArray) (t0 t1 tf : Tv) (td : List Tv) (D ls : List Ln) (b0 b1 : List Int) (n : Nat) (e : Ending) (w' : World) : Prop :=
  if ls = [] ∨ ls.length < n then e = .returned (.bool false) ∧ w = w'
  else ∃ ts', e = .returned (.bool true) ∧ MdS w' B bx nm t0 t1 tf td ts' D (preL ls n) b0 b1 ∧ Kept bx B w w'
structure ClP (bx g o : Nat) (vl vt : Value) (w : World) : Prop where
  p : w.cell? ⟨bx, 3, none⟩ = some vl
  c : w.cell? ⟨g, o, none⟩ = some vt
theorem ClP.kp {bx g o : Nat} {vl vt : Value} {w w' : World} (h : ClP bx g o vl vt w) (k : Kp w w') : ClP bx g o vl vt w' := ⟨k.cell h.p, k.cell h.c⟩
theorem ClP.fr {X : List Nat} {bx g o : Nat} {vl vt : Value} {w w' : World} (h : ClP bx g o vl vt w) (k : Fr X w w') (h1 : bx ∉ X) (h2 : g ∉ X) : ClP bx g o vl vt w' := ⟨k.cell h.p h1, k.cell h.c h2⟩
set_option maxRecDepth 100000 in
set_option maxHeartbeats 8000000 in
theorem pre_any (w : World) (B bx : Nat) (nm : ByteArray) (t0 t1 tf : Tv) (td ts : List Tv) (D ls : List Ln) (b0 b1 : List Int) (n : Nat) (h : MdS w B bx nm t0 t1 tf td ts D ls b0 b1) (hne : ∀ l ∈ ls, l.2 ≠ [] ∧ l.2.length ≤ 10000) (hll : ls.length ≤ 10000) (hn : n ≤ 9223372036854775807) :
    Calls Tryz.prog 54 #[.pointer (some ⟨bx, 0, none⟩), iv (n : Int)] w (PrePost w B bx nm t0 t1 tf td D ls b0 b1 n) := by
  have H := Lib.hid h
  have Hne := Lib.hid hne
  obtain ⟨sa, sn, sc, hsub⟩ : ∃ sa sn sc, subT tf D.length = ⟨sa, sn, sc⟩ := ⟨_, _, _, rfl⟩
  have hsn : sn = ls.length := by
    have := (h.lns (by omega) (fun l hl => by have := (hne l hl).2; omega)).1
    rw [hsub] at this; exact this.symm
  have y3 := h.four.c3
  rw [hsub] at y3
  unfold tvv at y3
  simp only at y3
  have Hsub := Lib.hid hsub
  have Hsn := Lib.hid hsn
  clear h hne hsub hsn
  by_cases h0 : ls = []
  · have hs0 : sn = 0 := by rw [Hsn.out, h0]; rfl
    subst hs0
    have HP := Lib.hid (show ∀ (w' : World), w = w' → PrePost w B bx nm t0 t1 tf td D ls b0 b1 n (.returned (.bool false)) w' from fun w' e => by unfold PrePost; rw [if_pos (.inl h0)]; exact ⟨rfl, e⟩)
    clear h0
    go_enter Tryz.func54, Tryz.ntmps54
    go_wp2_with fail
    go_ret
    exact HP.out _ rfl
  · have hpos : 0 < sn := by rw [Hsn.out]; exact List.length_pos_iff.2 h0
    by_cases h1 : sn < n
    · have HP := Lib.hid (show ∀ (w' : World), w = w' → PrePost w B bx nm t0 t1 tf td D ls b0 b1 n (.returned (.bool false)) w' from fun w' e => by unfold PrePost; rw [if_pos (.inr (by rw [← Hsn.out]; exact h1))]; exact ⟨rfl, e⟩)
      clear h0
      go_enter Tryz.func54, Tryz.ntmps54
      go_wp2_with fail
      go_ret
      exact HP.out _ rfl
    · obtain ⟨g, hg, he, hcap, hbg, hgw⟩ := H.out.at (by rw [← Hsn.out]; exact hpos)
      have HP := Lib.hid (show ∀ (w' : World) (ts' : List Tv), MdS w' B bx nm t0 t1 tf td ts' D (preL ls n) b0 b1 → Kept bx B w w' → PrePost w B bx nm t0 t1 tf td D ls b0 b1 n (.returned (.bool true)) w' from fun w' ts' a b => by
        unfold PrePost; rw [if_neg (by rw [not_or]; exact ⟨h0, by rw [← Hsn.out]; exact h1⟩)]; exact ⟨ts', rfl, a, b⟩)
      rw [Hsub.out] at he
      simp only [Tv.mk.injEq] at he
      obtain ⟨rfl, hx, hsc⟩ := he
      clear hx
      have Hg := Lib.hid hg
      rw [← Hsn.out, ← hsc] at hcap
      have hnsc : sc ≠ 0 := by omega
      clear hg hsc h0
      obtain ⟨dl, hdl⟩ : ∃ dl, dl = D.length * 2 := ⟨_, rfl⟩
      rw [← hdl] at y3
      have Hdl := Lib.hid hdl
      clear hdl Hsub
      by_cases hn0 : n = 0
      · subst hn0
        rw [show ((0 : Nat) : Int) = 0 from rfl]
        have hz0 : ((sn : Int) == 0) = false := by simp; omega
        have hz1 : ¬ (sn : Int) < 0 := by omega
        go_enter Tryz.func54, Tryz.ntmps54
        go_upto_region 1 with fail
        have hj : 0 < ls.length := by rw [← Hsn.out]; exact hpos
        obtain ⟨j, hjj⟩ : ∃ j, j = 0 := ⟨_, rfl⟩
        have Hjj := Lib.hid hjj
        have hj : j < ls.length := by rw [hjj]; exact hj
        have hjt : j < ts.length := by rw [H.out.hl]; exact hj
        obtain ⟨_, cj1, fj1⟩ := H.out.cells Hg.out j hj
        have hrow := H.out.row j hj
        have hneq := Hne.out _ (List.getElem_mem hj)
        have Hts := Lib.hid (List.getElem?_eq_getElem hjt)
        have Hls := Lib.hid (List.getElem?_eq_getElem hj)
        rw [← Hdl.out] at cj1 fj1
        generalize ts[j]'hjt = t at *
        generalize ls[j]'hj = l at *
        obtain ⟨ta, tn, tc⟩ := t
        unfold tvv at cj1
        simp only at cj1 hrow
        have htn : tn ≤ 10000 := by have := hrow.1; simp at this; omega
        rw [hjj, Nat.zero_mul, Nat.add_zero] at cj1 fj1
        clear hjj
        refine anyP_start (ClP bx g (dl + 1) (.slice (some ⟨g, dl, none⟩) sn sc) (.slice ta tn tc)) 15 (fun _ => True) (fun _ _ => False) (by kernel_rfl) (fun _ _ _ _ h => h.elim) ?_
        obtain ⟨wq, hwq⟩ : ∃ wq, wq = w.drew := ⟨_, rfl⟩
        have hkq : Kp w wq := hwq ▸ (⟨rfl, rfl, rfl, Nat.le_refl _, fun _ _ => rfl⟩ : Kp w w.drew)
        rw [← hwq]
        have hq : ClP bx g (dl + 1) (.slice (some ⟨g, dl, none⟩) sn sc) (.slice ta tn tc) wq := ⟨hkq.cell y3, hkq.cell cj1⟩
        have HM := Lib.hid (H.out.kp hkq)
        have Hrow := Lib.hid (hrow.keep hkq)
        have Hkq := Lib.hid hkq
        have hfq : ∀ (X : List Nat) (w1 : World), Fr X wq w1 → g ∉ X → w1.frozen? ⟨g, dl + 1, none⟩ = false := fun X w1 f hX => f.free (hkq.cell cj1) (Kp.frz hkq cj1 fj1) hX
        have Hfq := Lib.hid hfq
        have hgq : g < wq.heap.size := Nat.lt_of_lt_of_le hgw hkq.size
        have hBq : B ≤ wq.heap.size := by have := (HM.out.own.lt g (by rw [Hg.out]; rfl)); omega
        clear hwq y3 cj1 fj1 hrow hkq hfq
        refine anyP_take puts_true [0, 1, 2, 4, 5, 6] (by kernel_rfl) hq ?_
        simp only [opsAt, List.getElem?_toArray, List.getElem?_cons_zero, List.getElem?_cons_succ]
        repeat (go_big_quiet_step (fail))
        refine wpQuiet_nil ?_
        refine anyP_load puts_true 3 8 (.slice (some ⟨g, dl, none⟩) sn sc) rfl rfl (by kernel_rfl) hq (fun w h => exec_load24 h.p (by first | rfl | simp [Act.eval]) rfl) ?_
        simp only [Act.put, List.setIfInBounds_toArray, List.set_cons_zero, List.set_cons_succ]
        refine anyP_load puts_true 7 12 (.slice (some ⟨g, dl, none⟩) sn sc) rfl rfl (by kernel_rfl) hq (fun w h => exec_load24 h.p (by first | rfl | simp [Act.eval]) rfl) ?_
        simp only [Act.put, List.setIfInBounds_toArray, List.set_cons_zero, List.set_cons_succ]
        refine anyP_take puts_true [8, 9] (by kernel_rfl) hq ?_
        simp only [opsAt, List.getElem?_toArray, List.getElem?_cons_zero, List.getElem?_cons_succ]
        repeat (go_big_quiet_step (fail))
        refine wpQuiet_nil ?_
        refine anyP_load puts_true 10 15 (.slice ta tn tc) rfl rfl (by kernel_rfl) hq (fun w h => exec_load22 h.c (by first | rfl | simp [Act.eval]) rfl) ?_
        simp only [Act.put, List.setIfInBounds_toArray, List.set_cons_zero, List.set_cons_succ]
        have hkb := Kp.new wq (.cells #[iv 7] 3)
        have hqb := hq.kp hkb
        refine anyP_one 11 (by kernel_rfl) ?_
        simp only [opsAt, List.getElem?_toArray, List.getElem?_cons_zero, List.getElem?_cons_succ]
        go_wp2_with fail
        refine ⟨fun _ => hqb, ?_⟩
        have hnb : g ∉ blkL ta ∧ bx ∉ blkL ta := by
          refine ⟨HM.out.apart Hg.out Hts.out, fun q => ?_⟩
          have := (Hrow.out.lt bx (mem_blkL.1 q)).1; have := HM.out.hb; omega
        have HI := Lib.hid (insert_any (wq.alloc (.cells #[iv 7] 3)) B ta tn tc l.2 (Hrow.out.keep hkb) hneq.1 (by omega) (by have := hkb.size; omega) wq.heap.size (heap_alloc_new wq _) (fun q => by have := (Hrow.out.lt _ (mem_blkL.1 q)).2; omega))
        refine anyP_one 12 (by kernel_rfl) ?_
        simp only [opsAt, List.getElem?_toArray, List.getElem?_cons_zero, List.getElem?_cons_succ]
        go_wp2_with (go_at_call 97; go_loud (refine HI.out.mono ?_); rintro e w6 ⟨⟨ua, un, uc⟩, rfl, hO6, hF6, hb6⟩; unfold tvv)
        obtain ⟨t6, ht6⟩ : ∃ t6 : Tv, t6 = ⟨ua, un, uc⟩ := ⟨_, rfl⟩
        have hO6 : Own w6 B 3 1 t6.ao t6.n t6.c ((7 :: l.2).map iv) := by rw [ht6]; exact hO6
        have hb6 : ∀ x ∈ blkL t6.ao, x ∈ blkL ta ∨ (wq.alloc (.cells #[iv 7] 3)).heap.size ≤ x := by rw [ht6]; exact hb6
        have hq6 := hqb.fr hF6 hnb.2 hnb.1
        refine ⟨fun _ => hq6, ?_⟩
        have hFq6 : Fr (blkL ta) wq w6 := ((Fr.of_kp hkb).mono (by simp)).trans hF6
        have f6 := Hfq.out _ _ hFq6 hnb.1
        have hM6 := HM.out.tok (w1 := w6) (t' := t6) Hg.out Hts.out Hls.out hFq6 hO6 (fun x hx => by
          rcases hb6 x hx with q | q
          · exact .inl q
          · have := hkb.size; exact .inr (by omega))
        have HM6 := Lib.hid hM6
        have HF6 := Lib.hid hFq6
        clear hq hqb hO6 hF6 hb6 hM6 hkb hFq6
        refine anyP_one 13 (by kernel_rfl) ?_
        simp only [opsAt, List.getElem?_toArray, List.getElem?_cons_zero, List.getElem?_cons_succ]
        go_wp2_with fail
        refine ⟨fun _ => hq6, ?_⟩
        refine anyP_one 14 (by kernel_rfl) ?_
        simp only [opsAt, List.getElem?_toArray, List.getElem?_cons_zero, List.getElem?_cons_succ]
        go_wp2_with fail
        refine ⟨fun _ => hq6, ?_⟩
        obtain ⟨_, c6⟩ := hq6
        refine anyP_one 15 (by kernel_rfl) ?_
        simp only [opsAt, List.getElem?_toArray, List.getElem?_cons_zero, List.getElem?_cons_succ]
        go_wp2_with fail
        refine ⟨fun h => absurd rfl h, ?_⟩
        refine anyP_end (by kernel_rfl) ?_
        go_wp2_with fail
        go_ret
        have hM7 := HM6.out
        rw [ht6] at hM7
        unfold tvv at hM7
        have hBg : B ≤ g := (HM.out.own.lt g (by rw [Hg.out]; rfl)).1
        have hK : Kept bx B w w6 := (Kept.kp Hkq.out).step HF6.out (fun x hx => .inr (Hrow.out.lt x (mem_blkL.1 hx)).1)
        have e1 : D.length * 2 + j * 2 + 1 = dl + 1 := by rw [Hdl.out, Hjj.out]
        have e2 : ls.set j (l.1, 7 :: l.2) = preL ls 0 := by
          obtain ⟨q1, q2⟩ := List.getElem?_eq_some_iff.1 Hls.out
          unfold preL
          rw [if_pos rfl, modify_set ls _ 0 (by rw [← Hjj.out]; exact q1), ← q2]
          simp only [Hjj.out]
        rw [e1, e2] at hM7
        exact HP.out _ _ hM7 (hK.step (Fr.set w6 ⟨g, dl + 1, none⟩ _) (fun x hx => by simp at hx; omega))
      · go_enter Tryz.func54, Tryz.ntmps54
        go_upto_region 5 with fail
        obtain ⟨j, hjj⟩ : ∃ j, n = j + 1 := ⟨n - 1, by omega⟩
        have Hjj := Lib.hid hjj
        have hj : j < ls.length := by rw [← Hsn.out]; omega
        have hjs : j < sn := by omega
        have hji : ((n : Int)) - 1 = (j : Int) := by omega
        have hjt : j < ts.length := by rw [H.out.hl]; exact hj
        obtain ⟨_, cj1, fj1⟩ := H.out.cells Hg.out j hj
        have hrow := H.out.row j hj
        have hneq := Hne.out _ (List.getElem_mem hj)
        have Hts := Lib.hid (List.getElem?_eq_getElem hjt)
        have Hls := Lib.hid (List.getElem?_eq_getElem hj)
        rw [← Hdl.out] at cj1 fj1
        generalize ts[j]'hjt = t at *
        generalize ls[j]'hj = l at *
        obtain ⟨ta, tn, tc⟩ := t
        unfold tvv at cj1
        simp only at cj1 hrow
        have htn : tn ≤ 10000 := by have := hrow.1; simp at this; omega
        clear hjj
        refine anyP_start (ClP bx g (dl + j * 2 + 1) (.slice (some ⟨g, dl, none⟩) sn sc) (.slice ta tn tc)) 19 (fun _ => True) (fun _ _ => False) (by kernel_rfl) (fun _ _ _ _ h => h.elim) ?_
        obtain ⟨wq, hwq⟩ : ∃ wq, wq = w.drew := ⟨_, rfl⟩
        have hkq : Kp w wq := hwq ▸ (⟨rfl, rfl, rfl, Nat.le_refl _, fun _ _ => rfl⟩ : Kp w w.drew)
        rw [← hwq]
        have hq : ClP bx g (dl + j * 2 + 1) (.slice (some ⟨g, dl, none⟩) sn sc) (.slice ta tn tc) wq := ⟨hkq.cell y3, hkq.cell cj1⟩
        have HM := Lib.hid (H.out.kp hkq)
        have Hrow := Lib.hid (hrow.keep hkq)
        have Hkq := Lib.hid hkq
        have hfq : ∀ (X : List Nat) (w1 : World), Fr X wq w1 → g ∉ X → w1.frozen? ⟨g, dl + j * 2 + 1, none⟩ = false := fun X w1 f hX => f.free (hkq.cell cj1) (Kp.frz hkq cj1 fj1) hX
        have Hfq := Lib.hid hfq
        have hgq : g < wq.heap.size := Nat.lt_of_lt_of_le hgw hkq.size
        have hBq : B ≤ wq.heap.size := by have := (HM.out.own.lt g (by rw [Hg.out]; rfl)); omega
        clear hwq y3 cj1 fj1 hrow hkq hfq
        refine anyP_take puts_true [0, 1, 2, 4, 5, 6, 7, 8, 10, 11] (by kernel_rfl) hq ?_
        simp only [opsAt, List.getElem?_toArray, List.getElem?_cons_zero, List.getElem?_cons_succ]
        repeat (go_big_quiet_step (fail))
        refine wpQuiet_nil ?_
        refine anyP_load puts_true 3 42 (.slice (some ⟨g, dl, none⟩) sn sc) rfl rfl (by kernel_rfl) hq (fun w h => exec_load24 h.p (by first | rfl | simp [Act.eval]) rfl) ?_
        simp only [Act.put, List.setIfInBounds_toArray, List.set_cons_zero, List.set_cons_succ]
        refine anyP_load puts_true 9 48 (.slice (some ⟨g, dl, none⟩) sn sc) rfl rfl (by kernel_rfl) hq (fun w h => exec_load24 h.p (by first | rfl | simp [Act.eval]) rfl) ?_
        simp only [Act.put, List.setIfInBounds_toArray, List.set_cons_zero, List.set_cons_succ]
        refine anyP_take puts_true [12, 13] (by kernel_rfl) hq ?_
        simp only [opsAt, List.getElem?_toArray, List.getElem?_cons_zero, List.getElem?_cons_succ]
        repeat (go_big_quiet_step (fail))
        refine wpQuiet_nil ?_
        refine anyP_load puts_true 14 53 (.slice ta tn tc) rfl rfl (by kernel_rfl) hq (fun w h => exec_load22 h.c (by first | rfl | simp [Act.eval]) rfl) ?_
        simp only [Act.put, List.setIfInBounds_toArray, List.set_cons_zero, List.set_cons_succ]
        have hkb := Kp.new wq (.cells #[iv 7] 3)
        have hqb := hq.kp hkb
        refine anyP_one 15 (by kernel_rfl) ?_
        simp only [opsAt, List.getElem?_toArray, List.getElem?_cons_zero, List.getElem?_cons_succ]
        go_wp2_with fail
        refine ⟨fun _ => hqb, ?_⟩
        have hnb : g ∉ blkL ta ∧ bx ∉ blkL ta := by
          refine ⟨HM.out.apart Hg.out Hts.out, fun q => ?_⟩
          have := (Hrow.out.lt bx (mem_blkL.1 q)).1; have := HM.out.hb; omega
        have hcs : Cs (wq.alloc (.cells #[iv 7] 3)) (some ⟨wq.heap.size, 0, none⟩) [iv 7] := Cs.new wq [iv 7] 3 (0, 0)
        have hrk := Hrow.out.keep hkb
        have hsb : B ≤ (wq.alloc (.cells #[iv 7] 3)).heap.size := Nat.le_trans hBq hkb.size
        refine anyP_one 16 (by kernel_rfl) ?_
        simp only [opsAt, List.getElem?_toArray, List.getElem?_cons_zero, List.getElem?_cons_succ]
        go_wp2_with (at_builtin; go_loud (refine wpList_app rfl (.tmp 53) (.tmp 54) 22 rfl el22 B rfl hrk rfl [iv 7] rfl hcs (by simp [Value.oneCell']) (tn + 1) rfl ((l.2 ++ [7]).map iv) (by simp) (by omega) hsb ?_); intro ao2 cap2 w6 ha)
        obtain ⟨t6, ht6⟩ : ∃ t6 : Tv, t6 = ⟨ao2, tn + 1, cap2⟩ := ⟨_, rfl⟩
        have hO6 : Own w6 B 3 1 t6.ao t6.n t6.c ((l.2 ++ [7]).map iv) := by rw [ht6]; exact ha.own
        have hF6 := ha.fr
        have hb6 : ∀ x ∈ blkL t6.ao, x ∈ blkL ta ∨ (wq.alloc (.cells #[iv 7] 3)).heap.size ≤ x := by
          rw [ht6]
          intro x hx
          rcases ha.fresh x (mem_blkL.1 hx) with q | q
          · exact .inl (mem_blkL.2 q)
          · exact .inr (by rw [q]; exact Nat.le_refl _)
        have hq6 := hqb.fr hF6 hnb.2 hnb.1
        refine ⟨fun _ => hq6, ?_⟩
        have hFq6 : Fr (blkL ta) wq w6 := ((Fr.of_kp hkb).mono (by simp)).trans hF6
        have f6 := Hfq.out _ _ hFq6 hnb.1
        have hM6 := HM.out.tok (w1 := w6) (t' := t6) Hg.out Hts.out Hls.out hFq6 hO6 (fun x hx => by
          rcases hb6 x hx with q | q
          · exact .inl q
          · have := hkb.size; exact .inr (by omega))
        have HM6 := Lib.hid hM6
        have HF6 := Lib.hid hFq6
        clear hq hqb hO6 hF6 hb6 hM6 hkb hFq6
        refine anyP_one 17 (by kernel_rfl) ?_
        simp only [opsAt, List.getElem?_toArray, List.getElem?_cons_zero, List.getElem?_cons_succ]
        go_wp2_with fail
        refine ⟨fun _ => hq6, ?_⟩
        refine anyP_one 18 (by kernel_rfl) ?_
        simp only [opsAt, List.getElem?_toArray, List.getElem?_cons_zero, List.getElem?_cons_succ]
        go_wp2_with fail
        refine ⟨fun _ => hq6, ?_⟩
        obtain ⟨_, c6⟩ := hq6
        refine anyP_one 19 (by kernel_rfl) ?_
        simp only [opsAt, List.getElem?_toArray, List.getElem?_cons_zero, List.getElem?_cons_succ]
        go_wp2_with fail
        refine ⟨fun h => absurd rfl h, ?_⟩
        refine anyP_end (by kernel_rfl) ?_
        go_wp2_with fail
        go_ret
        have hM7 := HM6.out
        rw [ht6] at hM7
        unfold tvv at hM7
        have hBg : B ≤ g := (HM.out.own.lt g (by rw [Hg.out]; rfl)).1
        have hK : Kept bx B w w6 := (Kept.kp Hkq.out).step HF6.out (fun x hx => .inr (Hrow.out.lt x (mem_blkL.1 hx)).1)
        have e1 : D.length * 2 + j * 2 + 1 = dl + j * 2 + 1 := by rw [Hdl.out]
        have e2 : ls.set j (l.1, l.2 ++ [7]) = preL ls n := by
          obtain ⟨q1, q2⟩ := List.getElem?_eq_some_iff.1 Hls.out
          have q3 : n - 1 = j := by have := Hjj.out; omega
          unfold preL
          rw [if_neg hn0, q3, modify_set ls _ j q1, q2]
        rw [e1, e2] at hM7
        exact HP.out _ _ hM7 (hK.step (Fr.set w6 ⟨g, dl + j * 2 + 1, none⟩ _) (fun x hx => by simp at hx; omega))
end Go.Proofs.YtkmejehhdjdlbaaGreatDoor

namespace Go.Proofs.YtkmejehhdjdlbaaGreatDoor
open Go.RowKit

def srtI (xs : List Int) : List Int := xs.mergeSort (fun x y => decide (x ≤ y))
theorem srtI_length (xs : List Int) : (srtI xs).length = xs.length := by simp [srtI]
theorem sort_any (w : World) (B : Nat) (ao : Option Addr) (n c : Nat) (xs : List Int) (h : Own w B 3 1 ao n c (xs.map iv)) (hx : 0 < n) (hn : n ≤ 100000) :
    Calls Tryz.prog 96 #[.slice ao n c] w fun e w' => e = .returned (.tuple #[]) ∧ Own w' B 3 1 ao n c ((srtI xs).map iv) ∧ Fr (blkL ao) w w' := by
  have hl : xs.length = n := by have := h.1; simpa using this
  subst hl
  have h0 := h
  rcases h.2 with ⟨_, q⟩ | ⟨g, cap, cur, hv, hb, hg, h1, h2, h3, h4⟩
  · omega
  simp only [Value.slice.injEq] at hv
  obtain ⟨rfl, _, rfl⟩ := hv
  have hgl := (h.lt g rfl).2
  have hH := Go.holds_of_blockI hg (by simpa using h4)
  refine (Tryz.slices_Sort_int g 0 c xs w hH hgl (by omega)).mono ?_
  rintro e w' ⟨rfl, k, os, rfl⟩
  have hr := Go.ownsRow_sortedI (n := k) (os := os) (ts := srtI xs) (ss := xs) (base := B) (srtI_length xs) hb hg h1 h2 h3
  have hf := Go.grownBy_sortedI (w := w) (g := g) (n := k) (os := os) (srtI xs).toArray
  exact ⟨rfl, hr, Fr.of_grown (ao := some ⟨g, 0, none⟩) hf⟩
theorem contains_any (w : World) (ao : Option Addr) (n c : Nat) (xs : List Int) (x : Int) (h : Is w ao n xs) : Calls Tryz.prog 95 #[.slice ao n c, iv x] w fun e w' => e = .returned (.bool (xs.contains x)) ∧ w' = w := by
  obtain ⟨h1, h2, h3⟩ := h
  rcases Nat.eq_zero_or_pos n with q | q
  · subst q
    obtain rfl : xs = [] := List.eq_nil_of_length_eq_zero h1
    exact Tryz.slices_Contains_int_empty ao c x w
  · obtain ⟨b, off, rfl, hc⟩ := h3.at 0 (by simp; omega)
    have := Tryz.slices_Contains_int b off n c xs x w (by omega) (by unfold maxLen at h2; omega) (fun j hj => hc j _ (by simp [List.getD, hj]))
    rw [List.take_of_length_le (by omega)] at this
    exact this
end Go.Proofs.YtkmejehhdjdlbaaGreatDoor

namespace Go.Proofs.YtkmejehhdjdlbaaGreatDoor
open Go.RowKit

def inL (xs : List Int) (x : Int) : Bool := xs.contains x
def noneIn (b xs : List Int) : Bool := xs.all (fun t => !inL b t)
theorem noneIn_step {b xs : List Int} {k : Nat} (h : k < xs.length) (h1 : noneIn b (xs.take k) = true) (h2 : inL b xs[k] = false) : noneIn b (xs.take (k + 1)) = true := by
  unfold noneIn at h1 ⊢
  rw [take_step xs k h, List.all_append, h1]
  simp [h2]
theorem noneIn_no {b xs : List Int} {k : Nat} (h : k < xs.length) (h2 : inL b xs[k] = true) : noneIn b xs = false := by
  cases hq : noneIn b xs with
  | false => rfl
  | true =>
    have := List.all_eq_true.1 hq _ (List.getElem_mem h)
    rw [h2] at this; cases this
section
variable {w w1 : World} {B bx : Nat} {nm : ByteArray} {t0 t1 tf : Tv} {td ts : List Tv} {D ls : List Ln} {b0 b1 : List Int}
theorem MdS.bx0 (h : MdS w B bx nm t0 t1 tf td ts D ls b0 b1) : bx ∉ blkL t0.ao := fun q => by
  have := (Rw.lt (h.sep.own ⟨3, 1, t0, b0.map iv⟩ (by simp [rowsP])) (x := bx) q).1
  have := h.hb
  omega
theorem MdS.bx1 (h : MdS w B bx nm t0 t1 tf td ts D ls b0 b1) : bx ∉ blkL t1.ao := fun q => by
  have := (Rw.lt (h.sep.own ⟨3, 1, t1, b1.map iv⟩ (by simp [rowsP])) (x := bx) q).1
  have := h.hb
  omega
theorem MdS.own0 (h : MdS w B bx nm t0 t1 tf td ts D ls b0 b1) : Own w B 3 1 t0.ao t0.n t0.c (b0.map iv) := h.sep.own ⟨3, 1, t0, b0.map iv⟩ (by simp [rowsP])
theorem MdS.own1 (h : MdS w B bx nm t0 t1 tf td ts D ls b0 b1) : Own w B 3 1 t1.ao t1.n t1.c (b1.map iv) := h.sep.own ⟨3, 1, t1, b1.map iv⟩ (by simp [rowsP])
/-- What is known ahead of the initiator has changed. -/
theorem MdS.put0 {t : Tv} {b : List Int} (h : MdS w B bx nm t0 t1 tf td ts D ls b0 b1) (f : Fr (blkL t0.ao) w w1) (ho : Own w1 B 3 1 t.ao t.n t.c (b.map iv)) (hb : ∀ x ∈ blkL t.ao, x ∈ blkL t0.ao ∨ w.heap.size ≤ x) :
    MdS (w1.setCell ⟨bx, 1, none⟩ (tvv t)) B bx nm t t1 tf td ts D ls b b1 :=
  ⟨(h.four.fr f h.bx0).set1 _, h.hd, h.h1, h.hl, (Sep.upd (r' := ⟨3, 1, t, b.map iv⟩) h.sep f ho hb).fr (Fr.set w1 ⟨bx, 1, none⟩ (tvv t)) (by intro x hx; simp at hx; have := h.hb; omega), h.hb⟩
theorem MdS.sort0 {b : List Int} (h : MdS w B bx nm t0 t1 tf td ts D ls b0 b1) (f : Fr (blkL t0.ao) w w1) (ho : Own w1 B 3 1 t0.ao t0.n t0.c (b.map iv)) : MdS w1 B bx nm t0 t1 tf td ts D ls b b1 :=
  ⟨h.four.fr f h.bx0, h.hd, h.h1, h.hl, Sep.upd (r' := ⟨3, 1, t0, b.map iv⟩) h.sep f ho (fun _x hx => .inl hx), h.hb⟩
theorem MdS.put1 {t : Tv} {b : List Int} (h : MdS w B bx nm t0 t1 tf td ts D ls b0 b1) (f : Fr (blkL t1.ao) w w1) (ho : Own w1 B 3 1 t.ao t.n t.c (b.map iv)) (hb : ∀ x ∈ blkL t.ao, x ∈ blkL t1.ao ∨ w.heap.size ≤ x) :
    MdS (w1.setCell ⟨bx, 2, none⟩ (tvv t)) B bx nm t0 t tf td ts D ls b0 b :=
  ⟨(h.four.fr f h.bx1).set2 _, h.hd, h.h1, h.hl, ((Sep.upd (r' := ⟨3, 1, t, b.map iv⟩) (h.sep.perm (List.Perm.swap _ _ _)) f ho hb).perm (List.Perm.swap _ _ _)).fr (Fr.set w1 ⟨bx, 2, none⟩ (tvv t)) (by intro x hx; simp at hx; have := h.hb; omega), h.hb⟩
theorem MdS.sort1 {b : List Int} (h : MdS w B bx nm t0 t1 tf td ts D ls b0 b1) (f : Fr (blkL t1.ao) w w1) (ho : Own w1 B 3 1 t1.ao t1.n t1.c (b.map iv)) : MdS w1 B bx nm t0 t1 tf td ts D ls b0 b :=
  ⟨h.four.fr f h.bx1, h.hd, h.h1, h.hl, (Sep.upd (r' := ⟨3, 1, t1, b.map iv⟩) (h.sep.perm (List.Perm.swap _ _ _)) f ho (fun _x hx => .inl hx)).perm (List.Perm.swap _ _ _), h.hb⟩
/-- The first message is dropped. -/
theorem MdS.drop {tq : Tv} {l : Ln} (h : MdS w B bx nm t0 t1 tf [] (tq :: ts) [] (l :: ls) b0 b1) : MdS (w.setCell ⟨bx, 3, none⟩ (tvv (subT tf 1))) B bx nm t0 t1 tf [tq] ts [l] ls b0 b1 :=
  ⟨h.four.set3 _, rfl, by simp, by have := h.hl; simp at this; exact this, h.sep.fr (Fr.set w ⟨bx, 3, none⟩ _) (by intro x hx; simp at hx; have := h.hb; omega), h.hb⟩
end
/-- What is left behind. -/
def BackPost (w : World) (B bx : Nat) (nm : ByteArray) (_t0 _t1 tf tq : Tv) (ts : List Tv) (l : Ln) (r : List Ln) (b0 b1 : List Int) (e : Ending) (w' : World) : Prop :=
  if okB l.2 && noneIn (if l.1 = 0 then b0 else b1) l.2 then
    ∃ t0' t1', e = .returned (.bool true) ∧ MdS w' B bx nm t0' t1' tf [tq] ts [l] r (if l.1 = 0 then srtI (b0 ++ l.2) else b0) (if l.1 = 0 then b1 else srtI (b1 ++ l.2)) ∧ Kept bx B w w'
  else e = .returned (.bool false) ∧ Kp w w'
/-- The cells that a round looks at. -/
structure ClB (bl bx o : Nat) (f : Int) (vt vb : Value) (w : World) : Prop where
  c0 : w.cell? ⟨bl, 0, none⟩ = some (iv f)
  c1 : w.cell? ⟨bl, 1, none⟩ = some vt
  p : w.cell? ⟨bx, o, none⟩ = some vb
theorem ClB.kp {bl bx o : Nat} {f : Int} {vt vb : Value} {w w' : World} (h : ClB bl bx o f vt vb w) (k : Kp w w') : ClB bl bx o f vt vb w' := ⟨k.cell h.c0, k.cell h.c1, k.cell h.p⟩
theorem ClB.fr {X : List Nat} {bl bx o : Nat} {f : Int} {vt vb : Value} {w w' : World} (h : ClB bl bx o f vt vb w) (k : Fr X w w') (h1 : bl ∉ X) (h2 : bx ∉ X) : ClB bl bx o f vt vb w' := ⟨k.cell h.c0 h1, k.cell h.c1 h1, k.cell h.p h2⟩
set_option maxRecDepth 100000 in
set_option maxHeartbeats 8000000 in
theorem back_0 (w : World) (B bx : Nat) (nm : ByteArray) (t0 t1 tf tq : Tv) (ts : List Tv) (xs : List Int) (r : List Ln) (b0 b1 : List Int) (h : MdS w B bx nm t0 t1 tf [] (tq :: ts) [] ((0, xs) :: r) b0 b1) (hx : xs ≠ []) (hxl : xs.length ≤ 10000) (hb0 : b0.length ≤ 10000) :
    Calls Tryz.prog 53 #[.pointer (some ⟨bx, 0, none⟩)] w (BackPost w B bx nm t0 t1 tf tq ts (0, xs) r b0 b1) := by
  obtain ⟨ta, tn, tc⟩ := tq
  obtain ⟨ba, bn, bc⟩ := t0
  obtain ⟨fa, fn, fc⟩ := tf
  obtain ⟨g, hg, _, hcap, hbg, hgw⟩ := h.at (by simp)
  simp only at hg
  subst hg
  have hfn := h.nf
  simp only [List.length_nil, List.length_cons, Nat.zero_add] at hfn
  simp only [List.length_cons, List.length_nil, Nat.sub_zero] at hcap
  have H := Lib.hid h
  obtain ⟨d0, d1, _⟩ := h.cells rfl 0 (by simp)
  unfold tvv at d1
  simp only [List.length_nil, Nat.zero_mul, Nat.zero_add, List.getElem_cons_zero] at d0 d1
  have hrow : Own w B 3 1 ta tn tc (xs.map iv) := h.row 0 (by simp)
  have hxt : xs.length = tn := by have := hrow.1; simpa using this
  have hbn : b0.length = bn := by have := h.own0.1; simpa using this
  have y3 : w.cell? ⟨bx, 3, none⟩ = some (.slice (some ⟨g, 0, none⟩) fn fc) := h.four.c3
  have y1 : w.cell? ⟨bx, 1, none⟩ = some (.slice ba bn bc) := h.four.c1
  have hfz3 := h.four.f3
  have Hrow := Lib.hid hrow
  have Hxt := Lib.hid hxt
  have htn : 0 < tn := by rw [← hxt]; exact List.length_pos_iff.2 hx
  have htn2 : tn ≤ 10000 := by omega
  have hbn2 : bn ≤ 10000 := by omega
  have hfn0 : 0 < fn := by omega
  have hfc0 : fn ≤ fc := by omega
  have Hfn := Lib.hid hfn
  have Hbn := Lib.hid hbn
  clear hfn hcap hxt hbn hx hxl hb0 hrow
  have hk1 := Kp.new w (.cells #[iv 0, .slice ta tn tc] 73)
  obtain ⟨q0, q1, _, _⟩ := Two2.new w (iv 0) (.slice ta tn tc) 73
  obtain ⟨bl, hbl⟩ : ∃ bl, bl = w.heap.size := ⟨_, rfl⟩
  rw [← hbl] at q0 q1
  have Hbl := Lib.hid hbl
  clear h
  go_enter Tryz.func53, Tryz.ntmps53
  go_upto_region 4 with fail
  rw [← hbl]
  clear hbl
  generalize w.alloc (.cells #[iv 0, .slice ta tn tc] 73) = w1 at *
  have e3 := hk1.cell y3
  have e1 := hk1.cell y1
  clear d0 d1 y3 y1
  go_wp2_with fail
  (with_reducible refine (known_any w1 ta tn tc xs (hk1.is Hrow.out.is)).mono ?_)
  rintro e w2 ⟨rfl, hk2⟩
  have hk02 := Kp.trans hk1 hk2
  cases hok : okB xs with
  | false =>
    have HP := Lib.hid (show BackPost w B bx nm ⟨ba, bn, bc⟩ t1 ⟨some ⟨g, 0, none⟩, fn, fc⟩ ⟨ta, tn, tc⟩ ts (0, xs) r b0 b1 (.returned (.bool false)) w2 from by
      unfold BackPost; simp only [hok, Bool.false_and, Bool.false_eq_true, if_false]; exact ⟨by first | rfl | trivial, hk02⟩)
    clear hok
    go_wp2_with fail
    go_ret
    exact HP.out
  | true =>
    have Hok := Lib.hid hok
    clear hok
    replace q0 := hk2.cell q0
    replace q1 := hk2.cell q1
    replace e3 := hk2.cell e3
    replace e1 := hk2.cell e1
    have Hk02 := Lib.hid hk02
    clear hk1 hk2 hk02
    go_wp2_with fail
    go_loopw [25] (fun i wr => ∃ k : Nat, k ≤ tn ∧ i = .int .i64 (k : Nat) ∧ Kp w2 wr ∧ noneIn b0 (xs.take k) = true) (fun i _ => tn - (intOf i).toNat)
    case atStart => exact ⟨0, by omega, rfl, Kp.refl _, rfl⟩
    case round =>
      obtain ⟨k, hk, rfl, hkr, hno⟩ := hrel
      rename World => wr
      replace q0 := hkr.cell q0
      replace q1 := hkr.cell q1
      replace e3 := hkr.cell e3
      replace e1 := hkr.cell e1
      have hkw := Kp.trans Hk02.out hkr
      have Hno := Lib.hid hno
      clear hno
      by_cases hkn : k < tn
      · have hkl : k < xs.length := by rw [Hxt.out]; exact hkn
        obtain ⟨bt, ot, hta, _, hct⟩ := Hrow.out.is.at k hkn
        subst hta
        have ck := hkw.cell (hct k hkn)
        have HC := Lib.hid (fun m => (contains_any (wr.drewN m) ba bn bc b0 (xs[k]'hkl) ((Kp.trans hkw (Kp.of_drewN wr m)).is H.out.own0.is)).mono (R' := fun e w' => e = .returned (.bool (inL b0 (xs[k]'hkl))) ∧ w' = wr.drewN m) (fun _ _ q => q))
        cases hin : inL b0 (xs[k]'hkl) with
        | true =>
          have Hf := Lib.hid (noneIn_no hkl hin)
          rw [hin] at HC
          have Hkw := Lib.hid hkw
          clear hct hin hkr hkw
          generalize xs[k]'hkl = x at *
          go_wp2_with fail
          go_quiet ((go_at_call 95; exact Calls.quiet_of_same (HC.out _)))
          go_wp2_with fail
          go_ret
          show BackPost w B bx nm ⟨ba, bn, bc⟩ t1 ⟨some ⟨g, 0, none⟩, fn, fc⟩ ⟨some ⟨bt, ot, none⟩, tn, tc⟩ ts (0, xs) r b0 b1 (.returned (.bool false)) _
          unfold BackPost
          simp only [Hf.out, Bool.and_false, Bool.false_eq_true, if_false, if_true]
          exact ⟨trivial, Kp.trans Hkw.out (Kp.of_drewN _ _)⟩
        | false =>
          have Hn := Lib.hid (noneIn_step hkl Hno.out hin)
          rw [hin] at HC
          have Hkr := Lib.hid hkr
          clear hct hin hkr hkw Hno
          generalize xs[k]'hkl = x at *
          go_wp2_with fail
          go_quiet ((go_at_call 95; exact Calls.quiet_of_same (HC.out _)))
          go_wp2_with fail
          go_roundw
          case rel => exact ⟨k + 1, by omega, by go_num, Kp.trans Hkr.out (Kp.of_drewN _ _), Hn.out⟩
          case measure => simp [intOf]; omega
      · obtain rfl : k = tn := by omega
        rw [List.take_of_length_le (by rw [Hxt.out]; exact Nat.le_refl _)] at Hno
        have HM := Lib.hid (H.out.kp hkw)
        have HKw := Lib.hid hkw
        have hblw : bl < wr.heap.size := World.block_lt_of_cell? wr _ q0
        go_upto_region 12 with fail
        refine anyP_start (ClB bl bx 1 0 (.slice ta k tc) (.slice ba bn bc)) 16 (fun _ => True) (fun _ _ => False) (by kernel_rfl) (fun _ _ _ _ h => h.elim) ?_
        obtain ⟨wq, hwq⟩ : ∃ wq, wq = wr.drew := ⟨_, rfl⟩
        have hkq : Kp wr wq := hwq ▸ (⟨rfl, rfl, rfl, Nat.le_refl _, fun _ _ => rfl⟩ : Kp wr wr.drew)
        rw [← hwq]
        have hq : ClB bl bx 1 0 (.slice ta k tc) (.slice ba bn bc) wq := ⟨hkq.cell q0, hkq.cell q1, hkq.cell e1⟩
        have HMq := Lib.hid (HM.out.kp hkq)
        have HKq := Lib.hid (Kp.trans HKw.out hkq)
        have hcs := HKq.out.cs Hrow.out.cs
        have hBq : B ≤ wq.heap.size := by have := HMq.out.own.lt g rfl; omega
        have hblq : bl < wq.heap.size := Nat.lt_of_lt_of_le hblw hkq.size
        have hnbl : bl ∉ blkL ba := fun q => by have := (H.out.own0.lt bl (mem_blkL.1 q)).2; have := Hbl.out; omega
        have hnbx := HMq.out.bx0
        simp only at hnbx
        have hown := HMq.out.own0
        simp only at hown
        clear hwq q0 q1 e1 e3 hkw hkr hkq
        refine anyT_take puts_true [0, 1, 3, 4, 6, 7, 10, 13, 14] (by kernel_rfl) hq ?_
        simp only [opsAt, List.getElem?_toArray, List.getElem?_cons_zero, List.getElem?_cons_succ]
        repeat (go_big_quiet_step (fail))
        refine wpQuiet_nil ?_
        refine anyT_load puts_true 2 41 (iv 0) rfl rfl (by kernel_rfl) hq (fun w h => exec_load3 (h.c0) (by first | rfl | simp [Act.eval]) rfl) ?_
        simp only [Act.put, List.setIfInBounds_toArray, List.set_cons_zero, List.set_cons_succ]
        refine anyT_load puts_true 5 44 (iv 0) rfl rfl (by kernel_rfl) hq (fun w h => exec_load3 (h.c0) (by first | rfl | simp [Act.eval]) rfl) ?_
        simp only [Act.put, List.setIfInBounds_toArray, List.set_cons_zero, List.set_cons_succ]
        refine anyT_load puts_true 11 50 (.slice ta k tc) rfl rfl (by kernel_rfl) hq (fun w h => exec_load22 (h.c1) (by first | rfl | simp [Act.eval]) rfl) ?_
        simp only [Act.put, List.setIfInBounds_toArray, List.set_cons_zero, List.set_cons_succ]
        refine anyT_take puts_true [8] (by kernel_rfl) hq ?_
        simp only [opsAt, List.getElem?_toArray, List.getElem?_cons_zero, List.getElem?_cons_succ]
        repeat (go_big_quiet_step (fail))
        refine wpQuiet_nil ?_
        refine anyT_load puts_true 9 48 (.slice ba bn bc) rfl rfl (by kernel_rfl) hq (fun w h => exec_load22 (h.p) (by first | rfl | simp [Act.eval]) rfl) ?_
        simp only [Act.put, List.setIfInBounds_toArray, List.set_cons_zero, List.set_cons_succ]
        refine anyP_one 12 (by kernel_rfl) ?_
        simp only [opsAt, List.getElem?_toArray, List.getElem?_cons_zero, List.getElem?_cons_succ]
        go_wp2_with (at_builtin; go_loud (refine wpList_app rfl (.tmp 48) (.tmp 50) 22 rfl el22 B rfl hown rfl (xs.map iv) (by simp [Hxt.out]) hcs (by simp [Value.oneCell']) (bn + k) rfl ((b0 ++ xs).map iv) (by simp) (by omega) hBq ?_); intro ao2 cap2 w6 ha)
        have hq6 := hq.fr ha.fr hnbl hnbx
        have hM6 := HMq.out.put0 (t := ⟨ao2, bn + k, cap2⟩) (b := b0 ++ xs) ha.fr ha.own (fun x hx => by
          rcases ha.fresh x (mem_blkL.1 hx) with q | q
          · exact .inl (mem_blkL.2 q)
          · exact .inr (by omega))
        have f6 := ha.fr.free hq.p HMq.out.four.f1 hnbx
        have hK6 : Kept bx B w w6 := (Kept.kp HKq.out).step ha.fr (fun x hx => .inr (hown.lt x (mem_blkL.1 hx)).1)
        have HK6 := Lib.hid hK6
        have HM6 := Lib.hid hM6
        have hbl6 : bl ∉ blkL ao2 := fun q => by
          rcases ha.fresh bl (mem_blkL.1 q) with q2 | q2
          · exact hnbl (mem_blkL.2 q2)
          · omega
        have hs6 := ha.fr.size
        clear ha hq hM6 hK6 hcs hown HMq
        refine ⟨fun _ => hq6, ?_⟩
        refine anyT_take puts_true [15] (by kernel_rfl) hq6 ?_
        simp only [opsAt, List.getElem?_toArray, List.getElem?_cons_zero, List.getElem?_cons_succ]
        repeat (go_big_quiet_step (fail))
        refine wpQuiet_nil ?_
        obtain ⟨s0, s1, sp⟩ := hq6
        refine anyP_one 16 (by kernel_rfl) ?_
        simp only [opsAt, List.getElem?_toArray, List.getElem?_cons_zero, List.getElem?_cons_succ]
        go_wp2_with fail
        refine ⟨fun h => absurd rfl h, ?_⟩
        refine anyP_end (by kernel_rfl) ?_
        go_upto_region 13 with fail
        have hset := Fr.set w6 ⟨bx, 1, none⟩ (.slice ao2 (bn + k) cap2)
        have HM7 := Lib.hid (show MdS (w6.setCell ⟨bx, 1, none⟩ (.slice ao2 (bn + k) cap2)) B bx nm ⟨ao2, bn + k, cap2⟩ t1 ⟨some ⟨g, 0, none⟩, fn, fc⟩ [] (⟨ta, k, tc⟩ :: ts) [] ((0, xs) :: r) (b0 ++ xs) b1 from HM6.out)
        have HK7 := Lib.hid (HK6.out.step hset (fun x hx => .inl (by simpa using hx)))
        have hblx : bl ≠ bx := by have := H.out.hb; have := H.out.own.lt g rfl; have := Hbl.out; omega
        have s0' := hset.cell s0 (by simpa using hblx)
        have s1' := hset.cell s1 (by simpa using hblx)
        clear s0 s1 sp hset HM6 HK6
        generalize w6.setCell ⟨bx, 1, none⟩ (.slice ao2 (bn + k) cap2) = w7 at *
        have sp : w7.cell? ⟨bx, 1, none⟩ = some (.slice ao2 (bn + k) cap2) := HM7.out.four.c1
        refine anyP_start (ClB bl bx 1 0 (.slice ta k tc) (.slice ao2 (bn + k) cap2)) 7 (fun _ => True) (fun _ _ => False) (by kernel_rfl) (fun _ _ _ _ h => h.elim) ?_
        obtain ⟨wp, hwp⟩ : ∃ wp, wp = w7.drew := ⟨_, rfl⟩
        have hkp : Kp w7 wp := hwp ▸ (⟨rfl, rfl, rfl, Nat.le_refl _, fun _ _ => rfl⟩ : Kp w7 w7.drew)
        rw [← hwp]
        have hq : ClB bl bx 1 0 (.slice ta k tc) (.slice ao2 (bn + k) cap2) wp := ⟨hkp.cell s0', hkp.cell s1', hkp.cell sp⟩
        have HM8 := Lib.hid (HM7.out.kp hkp)
        have HK8 := Lib.hid (HK7.out.step (Fr.of_kp hkp) (by simp))
        have HS := Lib.hid (sort_any wp B ao2 (bn + k) cap2 (b0 ++ xs) HM8.out.own0 (by omega) (by omega))
        clear hwp s0' s1' sp hkp HM7 HK7
        refine anyT_take puts_true [0, 1, 3, 4] (by kernel_rfl) hq ?_
        simp only [opsAt, List.getElem?_toArray, List.getElem?_cons_zero, List.getElem?_cons_succ]
        repeat (go_big_quiet_step (fail))
        refine wpQuiet_nil ?_
        refine anyT_load puts_true 2 57 (iv 0) rfl rfl (by kernel_rfl) hq (fun w h => exec_load3 (h.c0) (by first | rfl | simp [Act.eval]) rfl) ?_
        simp only [Act.put, List.setIfInBounds_toArray, List.set_cons_zero, List.set_cons_succ]
        refine anyT_take puts_true [5] (by kernel_rfl) hq ?_
        simp only [opsAt, List.getElem?_toArray, List.getElem?_cons_zero, List.getElem?_cons_succ]
        repeat (go_big_quiet_step (fail))
        refine wpQuiet_nil ?_
        refine anyT_load puts_true 6 61 (.slice ao2 (bn + k) cap2) rfl rfl (by kernel_rfl) hq (fun w h => exec_load22 (h.p) (by first | rfl | simp [Act.eval]) rfl) ?_
        simp only [Act.put, List.setIfInBounds_toArray, List.set_cons_zero, List.set_cons_succ]
        refine anyP_one 7 (by kernel_rfl) ?_
        simp only [opsAt, List.getElem?_toArray, List.getElem?_cons_zero, List.getElem?_cons_succ]
        go_wp2_with (go_at_call 96; go_loud (refine HS.out.mono ?_); rintro e w9 ⟨rfl, hO9, hF9⟩)
        refine ⟨fun h => absurd rfl h, ?_⟩
        refine anyP_end (by kernel_rfl) ?_
        have hM9 := HM8.out.sort0 hF9 hO9
        have hK9 : Kept bx B w w9 := HK8.out.step hF9 (fun x hx => .inr (HM8.out.own0.lt x (mem_blkL.1 hx)).1)
        have HK9 := Lib.hid hK9
        have HM9 := Lib.hid hM9
        have y3 : w9.cell? ⟨bx, 3, none⟩ = some (.slice (some ⟨g, 0, none⟩) fn fc) := hM9.four.c3
        have z3 := hM9.four.f3
        have hfn1 : 1 ≤ fn := hfn0
        have HP := Lib.hid (show ∀ w' : World, w' = w9.setCell ⟨bx, 3, none⟩ (tvv (subT ⟨some ⟨g, 0, none⟩, fn, fc⟩ 1)) → BackPost w B bx nm ⟨ba, bn, bc⟩ t1 ⟨some ⟨g, 0, none⟩, fn, fc⟩ ⟨ta, k, tc⟩ ts (0, xs) r b0 b1 (.returned (.bool true)) w' from fun w' e => by
          unfold BackPost
          simp only [Hok.out, Hno.out, Bool.and_self, if_true]
          subst e
          exact ⟨_, _, by first | rfl | trivial, HM9.out.drop, HK9.out.step (Fr.set w9 ⟨bx, 3, none⟩ _) (fun x hx => .inl (by simpa using hx))⟩)
        clear hM9 hK9 hO9 hF9 HM8 HK8
        by_cases hc1 : fc = 1
        · have hf1 : fn = 1 := by omega
          subst hc1; subst hf1
          go_wp2_with fail
          go_ret
          exact HP.out _ rfl
        · have hfc1 : fc ≠ 1 := hc1
          go_wp2_with fail
          go_ret
          refine HP.out _ ?_
          unfold subT
          simp [hc1, tvv, Addr.add_lit]
set_option maxRecDepth 100000 in
set_option maxHeartbeats 8000000 in
theorem back_1 (w : World) (B bx : Nat) (nm : ByteArray) (t0 t1 tf tq : Tv) (ts : List Tv) (xs : List Int) (r : List Ln) (b0 b1 : List Int) (h : MdS w B bx nm t0 t1 tf [] (tq :: ts) [] ((1, xs) :: r) b0 b1) (hx : xs ≠ []) (hxl : xs.length ≤ 10000) (hb0 : b1.length ≤ 10000) :
    Calls Tryz.prog 53 #[.pointer (some ⟨bx, 0, none⟩)] w (BackPost w B bx nm t0 t1 tf tq ts (1, xs) r b0 b1) := by
  obtain ⟨ta, tn, tc⟩ := tq
  obtain ⟨ba, bn, bc⟩ := t1
  obtain ⟨fa, fn, fc⟩ := tf
  obtain ⟨g, hg, _, hcap, hbg, hgw⟩ := h.at (by simp)
  simp only at hg
  subst hg
  have hfn := h.nf
  simp only [List.length_nil, List.length_cons, Nat.zero_add] at hfn
  simp only [List.length_cons, List.length_nil, Nat.sub_zero] at hcap
  have H := Lib.hid h
  obtain ⟨d0, d1, _⟩ := h.cells rfl 0 (by simp)
  unfold tvv at d1
  simp only [List.length_nil, Nat.zero_mul, Nat.zero_add, List.getElem_cons_zero] at d0 d1
  have hrow : Own w B 3 1 ta tn tc (xs.map iv) := h.row 0 (by simp)
  have hxt : xs.length = tn := by have := hrow.1; simpa using this
  have hbn : b1.length = bn := by have := h.own1.1; simpa using this
  have y3 : w.cell? ⟨bx, 3, none⟩ = some (.slice (some ⟨g, 0, none⟩) fn fc) := h.four.c3
  have y2 : w.cell? ⟨bx, 2, none⟩ = some (.slice ba bn bc) := h.four.c2
  have hfz3 := h.four.f3
  have Hrow := Lib.hid hrow
  have Hxt := Lib.hid hxt
  have htn : 0 < tn := by rw [← hxt]; exact List.length_pos_iff.2 hx
  have htn2 : tn ≤ 10000 := by omega
  have hbn2 : bn ≤ 10000 := by omega
  have hfn0 : 0 < fn := by omega
  have hfc0 : fn ≤ fc := by omega
  have Hfn := Lib.hid hfn
  have Hbn := Lib.hid hbn
  clear hfn hcap hxt hbn hx hxl hb0 hrow
  have hk1 := Kp.new w (.cells #[iv 1, .slice ta tn tc] 73)
  obtain ⟨q0, q1, _, _⟩ := Two2.new w (iv 1) (.slice ta tn tc) 73
  obtain ⟨bl, hbl⟩ : ∃ bl, bl = w.heap.size := ⟨_, rfl⟩
  rw [← hbl] at q0 q1
  have Hbl := Lib.hid hbl
  clear h
  go_enter Tryz.func53, Tryz.ntmps53
  go_upto_region 4 with fail
  rw [← hbl]
  clear hbl
  generalize w.alloc (.cells #[iv 1, .slice ta tn tc] 73) = w1 at *
  have e3 := hk1.cell y3
  have e1 := hk1.cell y2
  clear d0 d1 y3 y2
  go_wp2_with fail
  (with_reducible refine (known_any w1 ta tn tc xs (hk1.is Hrow.out.is)).mono ?_)
  rintro e w2 ⟨rfl, hk2⟩
  have hk02 := Kp.trans hk1 hk2
  cases hok : okB xs with
  | false =>
    have HP := Lib.hid (show BackPost w B bx nm t0 ⟨ba, bn, bc⟩ ⟨some ⟨g, 0, none⟩, fn, fc⟩ ⟨ta, tn, tc⟩ ts (1, xs) r b0 b1 (.returned (.bool false)) w2 from by
      unfold BackPost; simp only [hok, Bool.false_and, Bool.false_eq_true, if_false]; exact ⟨by first | rfl | trivial, hk02⟩)
    clear hok
    go_wp2_with fail
    go_ret
    exact HP.out
  | true =>
    have Hok := Lib.hid hok
    clear hok
    replace q0 := hk2.cell q0
    replace q1 := hk2.cell q1
    replace e3 := hk2.cell e3
    replace e1 := hk2.cell e1
    have Hk02 := Lib.hid hk02
    clear hk1 hk2 hk02
    go_wp2_with fail
    go_loopw [25] (fun i wr => ∃ k : Nat, k ≤ tn ∧ i = .int .i64 (k : Nat) ∧ Kp w2 wr ∧ noneIn b1 (xs.take k) = true) (fun i _ => tn - (intOf i).toNat)
    case atStart => exact ⟨0, by omega, rfl, Kp.refl _, rfl⟩
    case round =>
      obtain ⟨k, hk, rfl, hkr, hno⟩ := hrel
      rename World => wr
      replace q0 := hkr.cell q0
      replace q1 := hkr.cell q1
      replace e3 := hkr.cell e3
      replace e1 := hkr.cell e1
      have hkw := Kp.trans Hk02.out hkr
      have Hno := Lib.hid hno
      clear hno
      by_cases hkn : k < tn
      · have hkl : k < xs.length := by rw [Hxt.out]; exact hkn
        obtain ⟨bt, ot, hta, _, hct⟩ := Hrow.out.is.at k hkn
        subst hta
        have ck := hkw.cell (hct k hkn)
        have HC := Lib.hid (fun m => (contains_any (wr.drewN m) ba bn bc b1 (xs[k]'hkl) ((Kp.trans hkw (Kp.of_drewN wr m)).is H.out.own1.is)).mono (R' := fun e w' => e = .returned (.bool (inL b1 (xs[k]'hkl))) ∧ w' = wr.drewN m) (fun _ _ q => q))
        cases hin : inL b1 (xs[k]'hkl) with
        | true =>
          have Hf := Lib.hid (noneIn_no hkl hin)
          rw [hin] at HC
          have Hkw := Lib.hid hkw
          clear hct hin hkr hkw
          generalize xs[k]'hkl = x at *
          go_wp2_with fail
          go_quiet ((go_at_call 95; exact Calls.quiet_of_same (HC.out _)))
          go_wp2_with fail
          go_ret
          show BackPost w B bx nm t0 ⟨ba, bn, bc⟩ ⟨some ⟨g, 0, none⟩, fn, fc⟩ ⟨some ⟨bt, ot, none⟩, tn, tc⟩ ts (1, xs) r b0 b1 (.returned (.bool false)) _
          unfold BackPost
          simp only [Hf.out, Bool.and_false, Bool.false_eq_true, if_false, Int.reduceEq]
          exact ⟨trivial, Kp.trans Hkw.out (Kp.of_drewN _ _)⟩
        | false =>
          have Hn := Lib.hid (noneIn_step hkl Hno.out hin)
          rw [hin] at HC
          have Hkr := Lib.hid hkr
          clear hct hin hkr hkw Hno
          generalize xs[k]'hkl = x at *
          go_wp2_with fail
          go_quiet ((go_at_call 95; exact Calls.quiet_of_same (HC.out _)))
          go_wp2_with fail
          go_roundw
          case rel => exact ⟨k + 1, by omega, by go_num, Kp.trans Hkr.out (Kp.of_drewN _ _), Hn.out⟩
          case measure => simp [intOf]; omega
      · obtain rfl : k = tn := by omega
        rw [List.take_of_length_le (by rw [Hxt.out]; exact Nat.le_refl _)] at Hno
        have HM := Lib.hid (H.out.kp hkw)
        have HKw := Lib.hid hkw
        have hblw : bl < wr.heap.size := World.block_lt_of_cell? wr _ q0
        go_upto_region 12 with fail
        refine anyP_start (ClB bl bx 2 1 (.slice ta k tc) (.slice ba bn bc)) 16 (fun _ => True) (fun _ _ => False) (by kernel_rfl) (fun _ _ _ _ h => h.elim) ?_
        obtain ⟨wq, hwq⟩ : ∃ wq, wq = wr.drew := ⟨_, rfl⟩
        have hkq : Kp wr wq := hwq ▸ (⟨rfl, rfl, rfl, Nat.le_refl _, fun _ _ => rfl⟩ : Kp wr wr.drew)
        rw [← hwq]
        have hq : ClB bl bx 2 1 (.slice ta k tc) (.slice ba bn bc) wq := ⟨hkq.cell q0, hkq.cell q1, hkq.cell e1⟩
        have HMq := Lib.hid (HM.out.kp hkq)
        have HKq := Lib.hid (Kp.trans HKw.out hkq)
        have hcs := HKq.out.cs Hrow.out.cs
        have hBq : B ≤ wq.heap.size := by have := HMq.out.own.lt g rfl; omega
        have hblq : bl < wq.heap.size := Nat.lt_of_lt_of_le hblw hkq.size
        have hnbl : bl ∉ blkL ba := fun q => by have := (H.out.own1.lt bl (mem_blkL.1 q)).2; have := Hbl.out; omega
        have hnbx := HMq.out.bx1
        simp only at hnbx
        have hown := HMq.out.own1
        simp only at hown
        clear hwq q0 q1 e1 e3 hkw hkr hkq
        refine anyT_take puts_true [0, 1, 3, 4, 6, 7, 10, 13, 14] (by kernel_rfl) hq ?_
        simp only [opsAt, List.getElem?_toArray, List.getElem?_cons_zero, List.getElem?_cons_succ]
        repeat (go_big_quiet_step (fail))
        refine wpQuiet_nil ?_
        refine anyT_load puts_true 2 41 (iv 1) rfl rfl (by kernel_rfl) hq (fun w h => exec_load3 (h.c0) (by first | rfl | simp [Act.eval]) rfl) ?_
        simp only [Act.put, List.setIfInBounds_toArray, List.set_cons_zero, List.set_cons_succ]
        refine anyT_load puts_true 5 44 (iv 1) rfl rfl (by kernel_rfl) hq (fun w h => exec_load3 (h.c0) (by first | rfl | simp [Act.eval]) rfl) ?_
        simp only [Act.put, List.setIfInBounds_toArray, List.set_cons_zero, List.set_cons_succ]
        refine anyT_load puts_true 11 50 (.slice ta k tc) rfl rfl (by kernel_rfl) hq (fun w h => exec_load22 (h.c1) (by first | rfl | simp [Act.eval]) rfl) ?_
        simp only [Act.put, List.setIfInBounds_toArray, List.set_cons_zero, List.set_cons_succ]
        refine anyT_take puts_true [8] (by kernel_rfl) hq ?_
        simp only [opsAt, List.getElem?_toArray, List.getElem?_cons_zero, List.getElem?_cons_succ]
        repeat (go_big_quiet_step (fail))
        refine wpQuiet_nil ?_
        refine anyT_load puts_true 9 48 (.slice ba bn bc) rfl rfl (by kernel_rfl) hq (fun w h => exec_load22 (h.p) (by first | rfl | simp [Act.eval]) rfl) ?_
        simp only [Act.put, List.setIfInBounds_toArray, List.set_cons_zero, List.set_cons_succ]
        refine anyP_one 12 (by kernel_rfl) ?_
        simp only [opsAt, List.getElem?_toArray, List.getElem?_cons_zero, List.getElem?_cons_succ]
        go_wp2_with (at_builtin; go_loud (refine wpList_app rfl (.tmp 48) (.tmp 50) 22 rfl el22 B rfl hown rfl (xs.map iv) (by simp [Hxt.out]) hcs (by simp [Value.oneCell']) (bn + k) rfl ((b1 ++ xs).map iv) (by simp) (by omega) hBq ?_); intro ao2 cap2 w6 ha)
        have hq6 := hq.fr ha.fr hnbl hnbx
        have hM6 := HMq.out.put1 (t := ⟨ao2, bn + k, cap2⟩) (b := b1 ++ xs) ha.fr ha.own (fun x hx => by
          rcases ha.fresh x (mem_blkL.1 hx) with q | q
          · exact .inl (mem_blkL.2 q)
          · exact .inr (by omega))
        have f6 := ha.fr.free hq.p HMq.out.four.f2 hnbx
        have hK6 : Kept bx B w w6 := (Kept.kp HKq.out).step ha.fr (fun x hx => .inr (hown.lt x (mem_blkL.1 hx)).1)
        have HK6 := Lib.hid hK6
        have HM6 := Lib.hid hM6
        have hbl6 : bl ∉ blkL ao2 := fun q => by
          rcases ha.fresh bl (mem_blkL.1 q) with q2 | q2
          · exact hnbl (mem_blkL.2 q2)
          · omega
        have hs6 := ha.fr.size
        clear ha hq hM6 hK6 hcs hown HMq
        refine ⟨fun _ => hq6, ?_⟩
        refine anyT_take puts_true [15] (by kernel_rfl) hq6 ?_
        simp only [opsAt, List.getElem?_toArray, List.getElem?_cons_zero, List.getElem?_cons_succ]
        repeat (go_big_quiet_step (fail))
        refine wpQuiet_nil ?_
        obtain ⟨s0, s1, sp⟩ := hq6
        refine anyP_one 16 (by kernel_rfl) ?_
        simp only [opsAt, List.getElem?_toArray, List.getElem?_cons_zero, List.getElem?_cons_succ]
        go_wp2_with fail
        refine ⟨fun h => absurd rfl h, ?_⟩
        refine anyP_end (by kernel_rfl) ?_
        go_upto_region 13 with fail
        have hset := Fr.set w6 ⟨bx, 2, none⟩ (.slice ao2 (bn + k) cap2)
        have HM7 := Lib.hid (show MdS (w6.setCell ⟨bx, 2, none⟩ (.slice ao2 (bn + k) cap2)) B bx nm t0 ⟨ao2, bn + k, cap2⟩ ⟨some ⟨g, 0, none⟩, fn, fc⟩ [] (⟨ta, k, tc⟩ :: ts) [] ((1, xs) :: r) b0 (b1 ++ xs) from HM6.out)
        have HK7 := Lib.hid (HK6.out.step hset (fun x hx => .inl (by simpa using hx)))
        have hblx : bl ≠ bx := by have := H.out.hb; have := H.out.own.lt g rfl; have := Hbl.out; omega
        have s0' := hset.cell s0 (by simpa using hblx)
        have s1' := hset.cell s1 (by simpa using hblx)
        clear s0 s1 sp hset HM6 HK6
        generalize w6.setCell ⟨bx, 2, none⟩ (.slice ao2 (bn + k) cap2) = w7 at *
        have sp : w7.cell? ⟨bx, 2, none⟩ = some (.slice ao2 (bn + k) cap2) := HM7.out.four.c2
        refine anyP_start (ClB bl bx 2 1 (.slice ta k tc) (.slice ao2 (bn + k) cap2)) 7 (fun _ => True) (fun _ _ => False) (by kernel_rfl) (fun _ _ _ _ h => h.elim) ?_
        obtain ⟨wp, hwp⟩ : ∃ wp, wp = w7.drew := ⟨_, rfl⟩
        have hkp : Kp w7 wp := hwp ▸ (⟨rfl, rfl, rfl, Nat.le_refl _, fun _ _ => rfl⟩ : Kp w7 w7.drew)
        rw [← hwp]
        have hq : ClB bl bx 2 1 (.slice ta k tc) (.slice ao2 (bn + k) cap2) wp := ⟨hkp.cell s0', hkp.cell s1', hkp.cell sp⟩
        have HM8 := Lib.hid (HM7.out.kp hkp)
        have HK8 := Lib.hid (HK7.out.step (Fr.of_kp hkp) (by simp))
        have HS := Lib.hid (sort_any wp B ao2 (bn + k) cap2 (b1 ++ xs) HM8.out.own1 (by omega) (by omega))
        clear hwp s0' s1' sp hkp HM7 HK7
        refine anyT_take puts_true [0, 1, 3, 4] (by kernel_rfl) hq ?_
        simp only [opsAt, List.getElem?_toArray, List.getElem?_cons_zero, List.getElem?_cons_succ]
        repeat (go_big_quiet_step (fail))
        refine wpQuiet_nil ?_
        refine anyT_load puts_true 2 57 (iv 1) rfl rfl (by kernel_rfl) hq (fun w h => exec_load3 (h.c0) (by first | rfl | simp [Act.eval]) rfl) ?_
        simp only [Act.put, List.setIfInBounds_toArray, List.set_cons_zero, List.set_cons_succ]
        refine anyT_take puts_true [5] (by kernel_rfl) hq ?_
        simp only [opsAt, List.getElem?_toArray, List.getElem?_cons_zero, List.getElem?_cons_succ]
        repeat (go_big_quiet_step (fail))
        refine wpQuiet_nil ?_
        refine anyT_load puts_true 6 61 (.slice ao2 (bn + k) cap2) rfl rfl (by kernel_rfl) hq (fun w h => exec_load22 (h.p) (by first | rfl | simp [Act.eval]) rfl) ?_
        simp only [Act.put, List.setIfInBounds_toArray, List.set_cons_zero, List.set_cons_succ]
        refine anyP_one 7 (by kernel_rfl) ?_
        simp only [opsAt, List.getElem?_toArray, List.getElem?_cons_zero, List.getElem?_cons_succ]
        go_wp2_with (go_at_call 96; go_loud (refine HS.out.mono ?_); rintro e w9 ⟨rfl, hO9, hF9⟩)
        refine ⟨fun h => absurd rfl h, ?_⟩
        refine anyP_end (by kernel_rfl) ?_
        have hM9 := HM8.out.sort1 hF9 hO9
        have hK9 : Kept bx B w w9 := HK8.out.step hF9 (fun x hx => .inr (HM8.out.own1.lt x (mem_blkL.1 hx)).1)
        have HK9 := Lib.hid hK9
        have HM9 := Lib.hid hM9
        have y3 : w9.cell? ⟨bx, 3, none⟩ = some (.slice (some ⟨g, 0, none⟩) fn fc) := hM9.four.c3
        have z3 := hM9.four.f3
        have hfn1 : 1 ≤ fn := hfn0
        have HP := Lib.hid (show ∀ w' : World, w' = w9.setCell ⟨bx, 3, none⟩ (tvv (subT ⟨some ⟨g, 0, none⟩, fn, fc⟩ 1)) → BackPost w B bx nm t0 ⟨ba, bn, bc⟩ ⟨some ⟨g, 0, none⟩, fn, fc⟩ ⟨ta, k, tc⟩ ts (1, xs) r b0 b1 (.returned (.bool true)) w' from fun w' e => by
          unfold BackPost
          simp only [Hok.out, Hno.out, Bool.and_self, if_true, Int.reduceEq, if_false]
          subst e
          exact ⟨_, _, by first | rfl | trivial, HM9.out.drop, HK9.out.step (Fr.set w9 ⟨bx, 3, none⟩ _) (fun x hx => .inl (by simpa using hx))⟩)
        clear hM9 hK9 hO9 hF9 HM8 HK8
        by_cases hc1 : fc = 1
        · have hf1 : fn = 1 := by omega
          subst hc1; subst hf1
          go_wp2_with fail
          go_ret
          exact HP.out _ rfl
        · have hfc1 : fc ≠ 1 := hc1
          go_wp2_with fail
          go_ret
          refine HP.out _ ?_
          unfold subT
          simp [hc1, tvv, Addr.add_lit]
end Go.Proofs.YtkmejehhdjdlbaaGreatDoor
