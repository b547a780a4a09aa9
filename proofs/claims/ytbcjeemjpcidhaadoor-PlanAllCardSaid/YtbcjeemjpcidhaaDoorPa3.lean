/- Parts of the walks and plain laws, merged: TxtF, Tbl, Maps, BkMap, Jumps, TxtG, TxtH, AllP, AllI, AllY, Split, Tokens, RowsOf, RowLaw, AllA. Each theorem bears its own conditions; no other. -/
import Derived.Test.YtbcjeemjpcidhaaDoorTxtE
import Derived.Test.YtbcjeemjpcidhaaDoorPa2
import Derived.Test.YtbcjeemjpcidhaaDoorPa1
import Derived.MapKept
import Derived.Maps.Own
import Derived.StringKeys
import Derived.Test.YtbcjeemjpcidhaaDoorShaped
import Derived.Test.YtbcjeemjpcidhaaDoorTakes
import Derived.WalkLawsBesides
import Derived.ScopeJumps
import Derived.WalkMore
import Derived.Maps.RangeWalk
import Derived.LaidEqlPtr
import Derived.Lib.SmallJoins
import Derived.Lib.LaidTab
import Derived.Lib.ItoaNum
import Derived.RangeFuncNested
import Derived.RangeFuncCalls
import Derived.RangeFuncLeaves
import Derived.TacticsInMore
import Derived.Sort.OwnSortedInts
import Derived.Lib.AppendIntMem
import Derived.Lib.AtoiAll
import Derived.Deep.QuietTactic
import Derived.Lib.SliceRun
namespace Go.Proofs.YtbcjeemjpcidhaaDoor
open Go.RowKit

theorem wordsT_length : ∀ {ws : List Q.Bt} {ts : List Int}, Q.wordsT ws = some ts → ts.length = ws.length := by
  intro ws
  induction ws with
  | nil => intro ts h; simp only [Q.wordsT, Option.some.injEq] at h; subst h; rfl
  | cons x r ih =>
    intro ts h
    simp only [Q.wordsT] at h
    cases hw : Q.wordT x with
    | none => rw [hw] at h; cases h
    | some t =>
      cases hr : Q.wordsT r with
      | none => rw [hw, hr] at h; cases h
      | some l =>
        rw [hw, hr] at h
        simp only [Option.some.injEq] at h
        subst h
        simp [ih hr]
theorem split_length (l : Q.Bt) : (Lib.split l Q.comma).length ≤ l.length + 1 := by
  have h := pcs_length (bs l)
  have h2 : Lib.countB (bs l) ⟨#[44, 32]⟩ ≤ (bs l).size := Lib.countB_le _ (by decide) _ _ (Nat.le_refl _)
  have h3 := congrArg List.length (pcs_data (bs l))
  rw [List.length_map, h, bs_list] at h3
  rw [bs_size] at h2
  omega
theorem lineP_small {s : Q.Bt} {l : Ln} (h : Q.lineP s = some l) : l.2.length ≤ s.length + 1 := by
  unfold Q.lineP at h
  have hs := split_length (s.drop 5)
  simp only [List.length_drop] at hs
  split at h
  · cases hw : Q.wordsT (Lib.split (s.drop 5) Q.comma) with
    | none => rw [hw] at h; simp at h
    | some x => rw [hw] at h; simp only [Option.map_some, Option.some.injEq] at h; have := wordsT_length hw; rw [← h]; simp only; omega
  · split at h
    · cases hw : Q.wordsT (Lib.split (s.drop 5) Q.comma) with
      | none => rw [hw] at h; simp at h
      | some x => rw [hw] at h; simp only [Option.map_some, Option.some.injEq] at h; have := wordsT_length hw; rw [← h]; simp only; omega
    · cases h
theorem loopP_small (N : Nat) : ∀ (k : Nat) (r : Q.Bt) (S S' : Q.Rd), Q.loopP k r S = some S' → (∀ l ∈ S.ls, l.2.length ≤ N) → r.length + 1 ≤ N → S'.ls.length ≤ S.ls.length + r.length ∧ ∀ l ∈ S'.ls, l.2.length ≤ N := by
  intro k
  induction k with
  | zero => intro r S S' h; cases h
  | succ k ih =>
    intro r S S' h hS hN
    simp only [Q.loopP] at h
    split at h
    · simp only [Option.some.injEq] at h
      subst h
      exact ⟨by omega, hS⟩
    · split at h
      · rename_i s rest hc
        have h1 := Q.cut_shorter hc
        have h2 := cut_take hc
        unfold Q.rowP at h
        split at h
        · split at h
          · have := ih rest (Q.moved S) S' (by simpa using h) (by simp [Q.moved]) (by omega)
            refine ⟨?_, this.2⟩
            have h3 := this.1
            simp only [Q.moved, List.length_nil] at h3
            omega
          · cases h
        · cases hl : Q.lineP s with
          | none => rw [hl] at h; cases h
          | some l =>
            rw [hl] at h
            have := ih rest { S with ls := S.ls ++ [l] } S' (by simpa using h) (fun x hx => by
              simp only [List.mem_append, List.mem_singleton] at hx
              rcases hx with hx | rfl
              · exact hS x hx
              · have := lineP_small hl; omega) (by omega)
            refine ⟨?_, this.2⟩
            have h3 := this.1
            simp only [List.length_append, List.length_singleton] at h3
            omega
      · cases h
theorem readP_small {t nm : Q.Bt} {S : Q.Rd} (h : Q.readP t = some (nm, S)) : S.ls.length ≤ t.length ∧ ∀ l ∈ S.ls, l.2.length ≤ t.length + 1 := by
  rw [Q.readP_eq] at h
  split at h
  · rename_i s rest hc
    have h1 := Q.cut_shorter hc
    split at h
    · cases hg : Q.goP rest Q.rd0 with
      | none => rw [hg] at h; cases h
      | some S1 =>
        rw [hg] at h
        simp only [Option.map_some, Option.some.injEq, Prod.mk.injEq] at h
        obtain ⟨_, rfl⟩ := h
        have := loopP_small (t.length + 1) _ rest Q.rd0 S1 hg (by simp [Q.rd0]) (by omega)
        refine ⟨?_, this.2⟩
        have h3 := this.1
        simp only [Q.rd0, List.length_nil] at h3
        omega
    · cases h
  · cases h
theorem PatO.lnsN {w : World} {B : Nat} {t0 t1 tl : Tv} {ts : List Tv} {b0 b1 : List Int} {ls : List Ln} (N : Nat) (hN : N ≤ 140737488351232) (h : PatO w B t0 t1 tl ts b0 b1 ls) (hn : ls.length ≤ N) (ht : ∀ l ∈ ls, l.2.length ≤ N) : Lns w tl.ao tl.n ls := by
  refine ⟨h.nl.symm, by have := h.nl; omega, fun j hj => ?_⟩
  obtain ⟨b, off, e, hc⟩ := h.ol.cs.at (j * 2) (by rw [lnc_length h.len]; omega)
  obtain ⟨g0, g1⟩ := lnc_get h.len j hj
  have hj' : j < ts.length := by rw [h.len]; exact hj
  have ho := h.ot j _ _ (List.getElem?_eq_getElem hj') (List.getElem?_eq_getElem hj)
  have h1 := ho.1
  have h2 := ht _ (List.getElem_mem hj)
  simp at h1
  exact ⟨b, off, _, _, _, e, hc _ _ g0, by have := hc _ _ g1; rwa [← Nat.add_assoc] at this, ho.is, by omega⟩

set_option maxHeartbeats 2000000 in
theorem exec_load32 {w : World} {p q : Addr} (h : w.cell? p = some (.iface 154 (.pointer (some q)))) {ρ : Operand → Value} {x : Operand} (hx : ρ x = .pointer (some p)) {o : Oper} (ho : o.op = .load 32 x) : (execOp ρ o).run Tryd.prog w = .ok (.value (.iface 154 (.pointer (some q)))) w := by
  simp only [execOp, ho, hx]
  go_simp
theorem puts_true {ops : Array Oper} : Puts ops (fun _ => True) := fun _ _ _ _ _ _ => trivial
abbrev zeroP : Value := .agg #[.string ⟨#[]⟩, .slice none 0 0, .slice none 0 0, .slice none 0 0]
/-- What is answered: an error, or a pattern in lists of the call's own. -/
def ParsePost (w : World) (E : Nat → Addr) (ET : Addr) (s : Q.Bt) (e : Ending) (w' : World) : Prop := Kp w w' ∧
  if 4096 < s.length then e = .returned (.tuple #[zeroP, .iface 154 (.pointer (some ET))]) else match Q.readP s with
  | none => e = .returned (.tuple #[zeroP, .iface 154 (.pointer (some ET))])
  | some (nm, S) => if checkL S.b0 S.b1 S.ls = 0 then ∃ t0 t1 tl ts, e = .returned (.tuple #[.agg #[.string (bs nm), tvv t0, tvv t1, tvv tl], .nilIface]) ∧ PatO w' w.heap.size t0 t1 tl ts S.b0 S.b1 S.ls
    else e = .returned (.tuple #[zeroP, errV E (checkL S.b0 S.b1 S.ls)])
section
variable {w w' : World} {E : Nat → Addr} {ET : Addr} {s : Q.Bt}
theorem ParsePost.big (h : 4096 < s.length) (hk : Kp w w') : ParsePost w E ET s (.returned (.tuple #[zeroP, .iface 154 (.pointer (some ET))])) w' := ⟨hk, by rw [if_pos h]⟩
theorem ParsePost.bad (h : Q.readP s = none) (hk : Kp w w') : ParsePost w E ET s (.returned (.tuple #[zeroP, .iface 154 (.pointer (some ET))])) w' := by
  refine ⟨hk, ?_⟩
  split
  · rfl
  · rw [h]
theorem ParsePost.off {nm : Q.Bt} {S : Q.Rd} (hb : ¬ 4096 < s.length) (h : Q.readP s = some (nm, S)) (hc : ¬ checkL S.b0 S.b1 S.ls = 0) (hk : Kp w w') : ParsePost w E ET s (.returned (.tuple #[zeroP, errV E (checkL S.b0 S.b1 S.ls)])) w' := ⟨hk, by rw [if_neg hb, h]; simp only [if_neg hc]⟩
theorem ParsePost.fine {nm : Q.Bt} {S : Q.Rd} {t0 t1 tl : Tv} {ts : List Tv} (hb : ¬ 4096 < s.length) (h : Q.readP s = some (nm, S)) (hc : checkL S.b0 S.b1 S.ls = 0) (hk : Kp w w') (hp : PatO w' w.heap.size t0 t1 tl ts S.b0 S.b1 S.ls) :
    ParsePost w E ET s (.returned (.tuple #[.agg #[.string (bs nm), tvv t0, tvv t1, tvv tl], .nilIface])) w' := ⟨hk, by rw [if_neg hb, h]; simp only [if_pos hc]; exact ⟨t0, t1, tl, ts, rfl, hp⟩⟩
end
set_option maxHeartbeats 8000000 in
theorem parse_any (s : ByteArray) (m : Int) (E : Nat → Addr) (ET : Addr) (w : World) (hm : MaxV w m) (hE : Errs w E) (hT : w.cell? ⟨2, 0, none⟩ = some (.iface 154 (.pointer (some ET)))) : Calls Tryd.prog 28 #[.string s] w (ParsePost w E ET s.data.toList) := by
  have hsl := Lib.size_eq s
  have hW5 := World.block_lt_of_cell? w _ hT
  obtain ⟨l, hl⟩ : ∃ l, l = s.data.toList := ⟨_, rfl⟩
  have HR := Lib.hid (fun w' (h : s.size < 4294967281) (hm' : MaxV w' m) => read_any s m w' h hm')
  rw [← hl] at HR hsl ⊢
  clear hl
  by_cases hbig : 4096 < l.length
  · have hb : 4096 < s.size := by omega
    have Hbig := Lib.hid hbig
    clear hbig hsl
    go_enter Tryd.func28, Tryd.ntmps28
    go_wp2_with fail
    refine anyP_start (fun w => w.cell? ⟨2, 0, none⟩ = some (.iface 154 (.pointer (some ET)))) 3 (fun _ => True) (fun _ _ => False) (by kernel_rfl) (fun _ _ _ _ h => h.elim) ?_
    obtain ⟨wd, hwd⟩ : ∃ wd, wd = (w.alloc (.cells #[.string ⟨#[]⟩, .slice none 0 0, .slice none 0 0, .slice none 0 0] 29)).drew := ⟨_, rfl⟩
    have hkd : Kp (w.alloc (.cells #[.string ⟨#[]⟩, .slice none 0 0, .slice none 0 0, .slice none 0 0] 29)) wd := hwd ▸ (⟨rfl, rfl, rfl, Nat.le_refl _, fun _ _ => rfl⟩ : Kp (w.alloc (.cells #[.string ⟨#[]⟩, .slice none 0 0, .slice none 0 0, .slice none 0 0] 29)) ((w.alloc (.cells #[.string ⟨#[]⟩, .slice none 0 0, .slice none 0 0, .slice none 0 0] 29))).drew)
    rw [← hwd]
    clear hwd
    have hTd := (Kp.trans (Kp.new w (.cells #[.string ⟨#[]⟩, .slice none 0 0, .slice none 0 0, .slice none 0 0] 29)) hkd).cell hT
    have hPd := (Four.new w (.string ⟨#[]⟩) (.slice none 0 0) (.slice none 0 0) (.slice none 0 0) 29).kp hkd
    have hKd := Lib.hid (Kp.trans (Kp.new w (.cells #[.string ⟨#[]⟩, .slice none 0 0, .slice none 0 0, .slice none 0 0] 29)) hkd)
    obtain ⟨b2, hb2⟩ : ∃ b2, b2 = w.heap.size := ⟨_, rfl⟩
    rw [← hb2] at hPd ⊢
    have Hb2 := Lib.hid hb2
    clear hb2 HR hT
    obtain ⟨wf, hwf, hF, hPf⟩ := hPd.set (.string ⟨#[]⟩) (.slice none 0 0) (.slice none 0 0) (.slice none 0 0)
    obtain ⟨y0, y1, y2, y3, z0, z1, z2, z3⟩ := hPd
    obtain ⟨c0, c1, c2, c3, _, _, _, _⟩ := hPf
    have Hwf := Lib.hid hwf
    have HTf := Lib.hid (hF.cell hTd (by simp; have := Hb2.out; have := hW5; omega))
    have HF := Lib.hid hF
    clear hwf hF
    refine anyP_take puts_true [0] (by kernel_rfl) hTd ?_
    simp only [opsAt, List.getElem?_toArray, List.getElem?_cons_zero]
    repeat (go_big_quiet_step (fail))
    refine wpQuiet_nil ?_
    refine anyP_load puts_true 1 11 (.iface 154 (.pointer (some ET))) rfl rfl (by kernel_rfl) hTd (fun w h => exec_load32 h rfl rfl) ?_
    simp only [Act.put, List.setIfInBounds_toArray, List.set_cons_zero, List.set_cons_succ]
    refine anyP_one 2 (by kernel_rfl) ?_
    simp only [opsAt, List.getElem?_toArray, List.getElem?_cons_zero, List.getElem?_cons_succ]
    clear hTd
    go_wp2_with fail
    rw [← Hwf.out]
    refine ⟨fun _ => HTf.out, ?_⟩
    refine anyP_one 3 (by kernel_rfl) ?_
    simp only [opsAt, List.getElem?_toArray, List.getElem?_cons_zero, List.getElem?_cons_succ]
    clear y0 y1 y2 y3 z0 z1 z2 z3
    go_wp2_with fail
    refine ⟨fun h => absurd rfl h, ?_⟩
    refine anyP_end (by kernel_rfl) ?_
    go_wp2_with fail
    show bodyPost Tryd.prog Tryd.f28 (ParsePost w E ET l) .ret _ _
    refine bodyPost_ret (v := .tuple #[zeroP, .iface 154 (.pointer (some ET))]) (by simp [results, Tryd.results28, go_sem, c0, c1, c2, c3]) rfl ?_
    exact ParsePost.big Hbig.out (((Fr.of_kp hKd.out).step HF.out (fun j hj => .inr (by simp at hj; have := Hb2.out; omega))).kp)
  · have hb : s.size ≤ 4096 := by omega
    have Hbig := Lib.hid hbig
    have hk1 := Kp.new w (.cells #[.string ⟨#[]⟩, .slice none 0 0, .slice none 0 0, .slice none 0 0] 29)
    have HRd := Lib.hid (HR.out (w.alloc (.cells #[.string ⟨#[]⟩, .slice none 0 0, .slice none 0 0, .slice none 0 0] 29)) (by omega) (hk1.maxV hm))
    unfold ReadPost at HRd
    clear hbig
    cases hrd : Q.readP l with
    | none =>
      rw [hrd] at HRd
      have Hrd := Lib.hid hrd
      clear hrd
      go_enter Tryd.func28, Tryd.ntmps28
      go_wp2_with fail
      (with_reducible refine HRd.out.mono ?_)
      rintro e w2 ⟨hk2, rfl⟩
      go_wp2_with fail
      refine anyP_start (fun w => w.cell? ⟨2, 0, none⟩ = some (.iface 154 (.pointer (some ET)))) 3 (fun _ => True) (fun _ _ => False) (by kernel_rfl) (fun _ _ _ _ h => h.elim) ?_
      obtain ⟨wd, hwd⟩ : ∃ wd, wd = (w2.alloc (.cells #[.string ⟨#[]⟩, .slice none 0 0, .slice none 0 0, .slice none 0 0] 29)).drew := ⟨_, rfl⟩
      have hkd : Kp (w2.alloc (.cells #[.string ⟨#[]⟩, .slice none 0 0, .slice none 0 0, .slice none 0 0] 29)) wd := hwd ▸ (⟨rfl, rfl, rfl, Nat.le_refl _, fun _ _ => rfl⟩ : Kp (w2.alloc (.cells #[.string ⟨#[]⟩, .slice none 0 0, .slice none 0 0, .slice none 0 0] 29)) ((w2.alloc (.cells #[.string ⟨#[]⟩, .slice none 0 0, .slice none 0 0, .slice none 0 0] 29))).drew)
      rw [← hwd]
      clear hwd
      have hTd := (Kp.trans (Kp.trans (Kp.trans hk1 hk2) (Kp.new w2 (.cells #[.string ⟨#[]⟩, .slice none 0 0, .slice none 0 0, .slice none 0 0] 29))) hkd).cell hT
      have hPd := (((Four.new w (.string ⟨#[]⟩) (.slice none 0 0) (.slice none 0 0) (.slice none 0 0) 29).kp hk2).kp (Kp.new w2 _)).kp hkd
      have hKd := Lib.hid (Kp.trans (Kp.trans (Kp.trans hk1 hk2) (Kp.new w2 (.cells #[.string ⟨#[]⟩, .slice none 0 0, .slice none 0 0, .slice none 0 0] 29))) hkd)
      obtain ⟨b2, hb2⟩ : ∃ b2, b2 = w.heap.size := ⟨_, rfl⟩
      rw [← hb2] at hPd ⊢
      have Hb2 := Lib.hid hb2
      clear hb2 HR hT
      obtain ⟨wf, hwf, hF, hPf⟩ := hPd.set (.string ⟨#[]⟩) (.slice none 0 0) (.slice none 0 0) (.slice none 0 0)
      obtain ⟨y0, y1, y2, y3, z0, z1, z2, z3⟩ := hPd
      obtain ⟨c0, c1, c2, c3, _, _, _, _⟩ := hPf
      have Hwf := Lib.hid hwf
      have HTf := Lib.hid (hF.cell hTd (by simp; have := Hb2.out; have := hW5; omega))
      have HF := Lib.hid hF
      clear hwf hF
      refine anyP_take puts_true [0] (by kernel_rfl) hTd ?_
      simp only [opsAt, List.getElem?_toArray, List.getElem?_cons_zero]
      repeat (go_big_quiet_step (fail))
      refine wpQuiet_nil ?_
      refine anyP_load puts_true 1 20 (.iface 154 (.pointer (some ET))) rfl rfl (by kernel_rfl) hTd (fun w h => exec_load32 h rfl rfl) ?_
      simp only [Act.put, List.setIfInBounds_toArray, List.set_cons_zero, List.set_cons_succ]
      refine anyP_one 2 (by kernel_rfl) ?_
      simp only [opsAt, List.getElem?_toArray, List.getElem?_cons_zero, List.getElem?_cons_succ]
      clear hTd
      go_wp2_with fail
      rw [← Hwf.out]
      refine ⟨fun _ => HTf.out, ?_⟩
      refine anyP_one 3 (by kernel_rfl) ?_
      simp only [opsAt, List.getElem?_toArray, List.getElem?_cons_zero, List.getElem?_cons_succ]
      clear y0 y1 y2 y3 z0 z1 z2 z3
      go_wp2_with fail
      refine ⟨fun h => absurd rfl h, ?_⟩
      refine anyP_end (by kernel_rfl) ?_
      go_wp2_with fail
      show bodyPost Tryd.prog Tryd.f28 (ParsePost w E ET l) .ret _ _
      refine bodyPost_ret (v := .tuple #[zeroP, .iface 154 (.pointer (some ET))]) (by simp [results, Tryd.results28, go_sem, c0, c1, c2, c3]) rfl ?_
      exact ParsePost.bad Hrd.out (((Fr.of_kp hKd.out).step HF.out (fun j hj => .inr (by simp at hj; have := Hb2.out; omega))).kp)
    | some q =>
      obtain ⟨nm, S⟩ := q
      rw [hrd] at HRd
      have Hrd := Lib.hid hrd
      clear hrd
      go_enter Tryd.func28, Tryd.ntmps28
      go_wp2_with fail
      (with_reducible refine HRd.out.mono ?_)
      rintro e w2 ⟨hk2, t0, t1, tl, ts, rfl, hO⟩
      unfold tvv
      have hsm := readP_small Hrd.out
      have hk3 := Kp.new w2 (.cells #[.string (bs nm), .slice t0.ao t0.n t0.c, .slice t1.ao t1.n t1.c, .slice tl.ao tl.n tl.c] 29)
      have hO3 := hO.kp hk3
      have hE3 := (Kp.trans (Kp.trans hk1 hk2) hk3).errs hE
      have HC := Lib.hid (check_any _ E hE3 (bs nm) t0.ao t1.ao tl.ao t0.n t0.c t1.n t1.c tl.n tl.c S.b0 S.b1 S.ls hO3.is0 hO3.is1 (hO3.lnsN 5000 (by decide) (by have := hsm.1; omega) (fun l' hl' => by have := hsm.2 l' hl'; omega)))
      have HO := Lib.hid hO3
      have hP3 := ((Four.new w (.string ⟨#[]⟩) (.slice none 0 0) (.slice none 0 0) (.slice none 0 0) 29).kp hk2).kp hk3
      have hp3 := Four.new w2 (.string (bs nm)) (.slice t0.ao t0.n t0.c) (.slice t1.ao t1.n t1.c) (.slice tl.ao tl.n tl.c) 29
      have Hk3 := Lib.hid (Kp.trans (Kp.trans hk1 hk2) hk3)
      clear hsm hO hO3 hE3 hk3 HR hT hE hm
      obtain ⟨b2, hb2⟩ : ∃ b2, b2 = w.heap.size := ⟨_, rfl⟩
      have Hbe := Lib.hid hb2
      by_cases hc : checkL S.b0 S.b1 S.ls = 0
      · have Hc := Lib.hid hc
        rw [show errV E (checkL S.b0 S.b1 S.ls) = .nilIface by rw [hc]; rfl] at HC
        clear hc
        go_wp2_with fail
        (with_reducible refine HC.out.mono ?_)
        rintro e w4 ⟨rfl, hk4⟩
        have hP4 := hP3.kp hk4
        have hp4 := hp3.kp hk4
        rw [← hb2] at hP4 ⊢
        clear hb2
        obtain ⟨wf, hwf, hF, hPf⟩ := hP4.set (.string (bs nm)) (.slice t0.ao t0.n t0.c) (.slice t1.ao t1.n t1.c) (.slice tl.ao tl.n tl.c)
        obtain ⟨y0, y1, y2, y3, z0, z1, z2, z3⟩ := hP4
        obtain ⟨x0, x1, x2, x3, _, _, _, _⟩ := hp4
        obtain ⟨c0, c1, c2, c3, _, _, _, _⟩ := hPf
        have hO4 := (HO.out.kp hk4).fr hF (fun j hj => .inl (by simp at hj; have := Hbe.out; simp; omega))
        have HOf := Lib.hid (hO4.base (B' := w.heap.size) (by simp))
        have Hwf := Lib.hid hwf
        have HKf := Lib.hid (((Fr.of_kp (Kp.trans Hk3.out hk4)).step hF (fun j hj => .inr (by simp at hj; have := Hbe.out; omega))).kp)
        clear hwf hF hO4 hk4
        go_wp2_with fail
        rw [← Hwf.out]
        show bodyPost Tryd.prog Tryd.f28 (ParsePost w E ET l) .ret _ _
        refine bodyPost_ret (v := .tuple #[.agg #[.string (bs nm), tvv t0, tvv t1, tvv tl], .nilIface]) (by simp [results, Tryd.results28, go_sem, c0, c1, c2, c3, tvv]) rfl ?_
        exact ParsePost.fine Hbig.out Hrd.out Hc.out HKf.out HOf.out
      · have Hc := Lib.hid hc
        have HE := Lib.hid (show errV E (checkL S.b0 S.b1 S.ls) = .iface 154 (.pointer (some (E (checkL S.b0 S.b1 S.ls)))) by unfold errV; rw [if_neg hc])
        rw [HE.out] at HC
        clear hc
        go_wp2_with fail
        (with_reducible refine HC.out.mono ?_)
        rintro e w4 ⟨rfl, hk4⟩
        have hP4 := hP3.kp hk4
        rw [← hb2] at hP4 ⊢
        clear hb2
        obtain ⟨wf, hwf, hF, hPf⟩ := hP4.set (.string ⟨#[]⟩) (.slice none 0 0) (.slice none 0 0) (.slice none 0 0)
        obtain ⟨y0, y1, y2, y3, z0, z1, z2, z3⟩ := hP4
        obtain ⟨c0, c1, c2, c3, _, _, _, _⟩ := hPf
        have Hwf := Lib.hid hwf
        have HKf := Lib.hid (((Fr.of_kp (Kp.trans Hk3.out hk4)).step hF (fun j hj => .inr (by simp at hj; have := Hbe.out; omega))).kp)
        clear hwf hF hk4
        go_wp2_with fail
        rw [← Hwf.out]
        show bodyPost Tryd.prog Tryd.f28 (ParsePost w E ET l) .ret _ _
        refine bodyPost_ret (v := .tuple #[zeroP, errV E (checkL S.b0 S.b1 S.ls)]) (by rw [HE.out]; simp [results, Tryd.results28, go_sem, c0, c1, c2, c3]) rfl ?_
        exact ParsePost.off Hbig.out Hrd.out Hc.out HKf.out
end Go.Proofs.YtbcjeemjpcidhaaDoor

namespace Go.Proofs.YtbcjeemjpcidhaaDoor
open Go.RowKit Go.Maps

set_option maxHeartbeats 2000000 in
theorem after_any (s : ByteArray) (m : Int) (w : World) (hs : s.size < 4294967281) (hm : MaxV w m) : Calls Tryd.prog 25 #[.string s, .string ⟨#[10, 10]⟩] w fun e w' =>
    e = .returned (.slice (some ⟨w.heap.size, 0, none⟩) (Lib.countB s ⟨#[10, 10]⟩ + 1) (Lib.countB s ⟨#[10, 10]⟩ + 1)) ∧ w' = w.alloc (.cells ((Lib.splitB ⟨#[10, 10]⟩ 2 (Lib.countB s ⟨#[10, 10]⟩) s).map Value.string).toArray 9) := by
  have hc : Lib.countB s ⟨#[10, 10]⟩ ≤ s.size := Lib.countB_le _ (by decide) _ _ (Nat.le_refl _)
  have H := Tryd.strings_genSplit s ⟨#[10, 10]⟩ 2 (-1) (Lib.countB s ⟨#[10, 10]⟩ + 1) m w hs hm (by decide) (by decide) (by decide) (by decide) (by simp; omega)
  have hl := Lib.splitB_all ⟨#[10, 10]⟩ (by decide) 2 (Lib.countB s ⟨#[10, 10]⟩) s rfl
  rw [Nat.add_sub_cancel, hl] at H
  change Calls Tryd.prog 38 #[.string s, .string ⟨#[10, 10]⟩, .int .i64 2, .int .i64 (-1)] w _ at H
  have Hl := Lib.hid hl
  have HH := Lib.hid H
  clear hl H hc hm
  obtain ⟨n, hn⟩ : ∃ n, n = Lib.countB s ⟨#[10, 10]⟩ := ⟨_, rfl⟩
  rw [← hn] at HH Hl ⊢
  clear hn
  go_enter Tryd.func25, Tryd.ntmps25
  go_wp2_with fail
  (with_reducible refine HH.out.mono ?_)
  rintro e w1 ⟨rfl, rfl⟩
  go_wp2_with fail
  go_ret
  have := Hl.out
  simp [Lib.cellsOf, this]

/-- Block r is a map that holds these pairs of texts, in this order. -/
def Born (arr : Array MapEntry) (clock : Nat) : Prop := (∀ x ∈ arr.toList, x.born < clock) ∧ (arr.toList.map (·.born)).Nodup
theorem Born.push {arr : Array MapEntry} {clock : Nat} (h : Born arr clock) (k v : Value) : Born (arr.push { key := k, val := v, born := clock }) (clock + 1) := by
  obtain ⟨h1, h2⟩ := h
  refine ⟨fun x hx => ?_, ?_⟩
  · rw [Array.toList_push] at hx
    rcases List.mem_append.1 hx with q | q
    · have := h1 x q; omega
    · simp only [List.mem_singleton] at q; rw [q]; exact Nat.lt_succ_self _
  · rw [Array.toList_push, List.map_append]
    refine List.nodup_append.2 ⟨h2, by simp, fun a ha b hb => ?_⟩
    obtain ⟨x, hx, rfl⟩ := List.mem_map.1 ha
    simp only [List.map_cons, List.map_nil, List.mem_singleton] at hb
    have := h1 x hx
    omega
def Tbl (w : World) (r : Nat) (K : List (ByteArray × ByteArray)) : Prop := ∃ arr clock, w.heap[r]? = some (.map arr clock) ∧ arr.toList.map (fun e => (e.key, e.val)) = K.map (fun x => (Value.string x.1, Value.agg #[.string x.2])) ∧ Born arr clock
theorem Kp.tbl {w w' : World} (h : Kp w w') {r : Nat} {K : List (ByteArray × ByteArray)} (hx : Tbl w r K) : Tbl w' r K := by
  obtain ⟨arr, clock, h1, h2, h3⟩ := hx
  exact ⟨arr, clock, by rw [h.block r (Array.getElem?_eq_some_iff.1 h1).1]; exact h1, h2, h3⟩
theorem Tbl.new (w : World) (clock : Nat) : Tbl (w.alloc (.map #[] clock)) w.heap.size [] := ⟨#[], clock, (MapKept.heap_alloc w _).1, rfl, by simp [Born]⟩
theorem skeyed : Keyed Tryd.prog 9 := string_keyed Tryd.underlying9
theorem skey {s : ByteArray} (hs : s.size ≤ maxLen) : ∃ l, keyOf Tryd.prog 9 (.string s) = some l := ⟨_, Go.WideMaps.keyOf_string_mk Tryd.underlying9 hs⟩
theorem getMap_run {w : World} {r : Nat} {arr : Array MapEntry} {clock : Nat} (h : w.heap[r]? = some (.map arr clock)) : (getObj r).run Tryd.prog w = .ok (.map arr clock) w := by
  simp [getObj, Sem.run, h]
theorem setMap_run {w : World} {r : Nat} {arr : Array MapEntry} {clock : Nat} (o : Obj) (h : w.heap[r]? = some (.map arr clock)) : (setObj r o).run Tryd.prog w = .ok () { w with heap := w.heap.setIfInBounds r o } := by
  simp [setObj, Sem.run, h]
theorem Tbl.mem {w : World} {r : Nat} {K : List (ByteArray × ByteArray)} {arr : Array MapEntry} (h2 : arr.toList.map (fun e => (e.key, e.val)) = K.map (fun x => (Value.string x.1, Value.agg #[.string x.2]))) (_hw : w = w) (_hr : r = r) :
    ∀ e ∈ arr.toList, ∃ x ∈ K, e.key = .string x.1 ∧ e.val = .agg #[.string x.2] := fun e he => by
  have hm : (e.key, e.val) ∈ K.map (fun x => (Value.string x.1, Value.agg #[.string x.2])) := by rw [← h2]; exact List.mem_map.2 ⟨e, he, rfl⟩
  obtain ⟨x, hx, he⟩ := List.mem_map.1 hm
  simp only [Prod.mk.injEq] at he
  exact ⟨x, hx, he.1.symm, he.2.symm⟩
theorem Tbl.put {w : World} {r : Nat} {K : List (ByteArray × ByteArray)} (h : Tbl w r K) (k t : ByteArray) (hs : ∀ x ∈ K, x.1.size ≤ maxLen) (hks : k.size ≤ maxLen) (hk : ∀ x ∈ K, x.1 ≠ k) :
    ∃ w', (Instr.mapUpdate 46 (.map (some r)) (.string k) (.agg #[.string t])).run Tryd.prog w = .ok () w' ∧ Tbl w' r (K ++ [(k, t)]) ∧ Fr [r] w w' := by
  obtain ⟨arr, clock, h1, h2, h3⟩ := h
  have hmem := Tbl.mem (w := w) (r := r) h2 rfl rfl
  obtain ⟨l, hl⟩ := skey hks
  have hnone : (Instr.findKey 9 (.string k) arr.toList).run Tryd.prog w = .ok none w := by
    rcases skeyed.find w hl arr.toList (fun e he => by obtain ⟨x, hx0, hx, _⟩ := hmem e he; rw [hx]; exact skey (hs x hx0)) with ⟨h, _⟩ | ⟨j, e, _, he, hq⟩
    · exact h
    · obtain ⟨x, hx, hx1, _⟩ := hmem e (List.mem_of_getElem? he)
      rw [hx1] at hq
      simp only [Value.string.injEq] at hq
      exact absurd hq (hk x hx)
  have hlt : r < w.heap.size := (Array.getElem?_eq_some_iff.1 h1).1
  refine ⟨{ w with heap := w.heap.setIfInBounds r (.map (arr.push { key := .string k, val := .agg #[.string t], born := clock }) (clock + 1)) }, ?_, ⟨arr.push { key := .string k, val := .agg #[.string t], born := clock }, clock + 1, by simp [hlt], ?_, h3.push _ _⟩, ⟨rfl, rfl, rfl, by simp, fun i _ hi => by
      simp only [List.mem_singleton] at hi
      simp [Ne.symm hi]⟩⟩
  · simp only [Instr.mapUpdate, Sem.run_bind, run_underlying Tryd.underlying46, Result.andThen_ok, getMap_run h1, skeyed.check w _ hl, hnone, setMap_run _ h1]
  · rw [Array.toList_push, List.map_append, h2, List.map_append]; rfl
theorem Tbl.get {w : World} {r : Nat} {K : List (ByteArray × ByteArray)} (h : Tbl w r K) (k : ByteArray) (hs : ∀ x ∈ K, x.1.size ≤ maxLen) (hks : k.size ≤ maxLen) :
    ((∀ x ∈ K, x.1 ≠ k) ∧ (Instr.lookup 46 (.map (some r)) (.string k) true).run Tryd.prog w = .ok (.tuple #[.agg #[.string ⟨#[]⟩], .bool false]) w) ∨
    (∃ x ∈ K, x.1 = k ∧ (Instr.lookup 46 (.map (some r)) (.string k) true).run Tryd.prog w = .ok (.tuple #[.agg #[.string x.2], .bool true]) w) := by
  obtain ⟨arr, clock, h1, h2, h3⟩ := h
  have hmem := Tbl.mem (w := w) (r := r) h2 rfl rfl
  obtain ⟨l, hl⟩ := skey hks
  rcases skeyed.find w hl arr.toList (fun e he => by obtain ⟨x, hx0, hx, _⟩ := hmem e he; rw [hx]; exact skey (hs x hx0)) with ⟨h, hn⟩ | ⟨j, e, hrun, he, hq⟩
  · left
    refine ⟨fun x hx hc => ?_, ?_⟩
    · have hm : (Value.string x.1, Value.agg #[.string x.2]) ∈ arr.toList.map (fun e => (e.key, e.val)) := by rw [h2]; exact List.mem_map.2 ⟨x, hx, rfl⟩
      obtain ⟨e, he, heq⟩ := List.mem_map.1 hm
      simp only [Prod.mk.injEq] at heq
      exact hn e he (by rw [heq.1, hc])
    · simp [Instr.lookup, run_underlying Tryd.underlying46, MapKept.run_getObj_map h1, skeyed.check w _ hl, h, Result.andThen]
  · right
    obtain ⟨x, hx, hx1, hx2⟩ := hmem e (List.mem_of_getElem? he)
    rw [hx1] at hq
    simp only [Value.string.injEq] at hq
    refine ⟨x, hx, hq, ?_⟩
    simp [Instr.lookup, run_underlying Tryd.underlying46, MapKept.run_getObj_map h1, skeyed.check w _ hl, hrun, hx2, Result.andThen]
end Go.Proofs.YtbcjeemjpcidhaaDoor

namespace Go.Proofs.YtbcjeemjpcidhaaDoor
open Go.RowKit

structure Mv where
  op : Int
  key : Int
  wth : Int
  deriving DecidableEq
def mvc (m : Mv) : List Value := [iv m.op, iv m.key, iv m.wth]
/-- A slice value's parts read a list of moves. -/
def Mvs (w : World) (ao : Option Addr) (n : Nat) (ms : List Mv) : Prop := ms.length = n ∧ n ≤ maxLen ∧ Cs w ao (ms.flatMap mvc)
theorem Kp.mvs {w w' : World} (h : Kp w w') {ao : Option Addr} {n : Nat} {ms : List Mv} (hx : Mvs w ao n ms) : Mvs w' ao n ms := ⟨hx.1, hx.2.1, h.cs hx.2.2⟩
theorem mvc_length (ms : List Mv) : (ms.flatMap mvc).length = ms.length * 3 := by
  induction ms with
  | nil => rfl
  | cons m r ih => simp only [List.flatMap_cons, List.length_append, ih, List.length_cons, mvc, List.length_nil]; omega
theorem mvc_get (ms : List Mv) (j : Nat) (h : j < ms.length) : (ms.flatMap mvc)[j * 3]? = some (iv ms[j].op) ∧ (ms.flatMap mvc)[j * 3 + 1]? = some (iv ms[j].key) ∧ (ms.flatMap mvc)[j * 3 + 2]? = some (iv ms[j].wth) := by
  induction ms generalizing j with
  | nil => simp at h
  | cons m r ih =>
    rcases j with _ | j
    · simp [mvc, List.flatMap_cons]
    · have := ih j (by simpa using h)
      have e : ∀ i, ((m :: r).flatMap mvc)[(j + 1) * 3 + i]? = (r.flatMap mvc)[j * 3 + i]? := fun i => by
        rw [List.flatMap_cons, List.getElem?_append_right (by simp [mvc]; omega)]
        congr 1
        simp [mvc]; omega
      have e0 := e 0
      simp only [Nat.add_zero] at e0
      simp only [List.getElem_cons_succ]
      exact ⟨by rw [e0]; exact this.1, by rw [e 1]; exact this.2.1, by rw [e 2]; exact this.2.2⟩

abbrev TK := Int × Bool
def keyV (k : TK) : Value := .agg #[.int .i64 k.1, .bool k.2]

theorem run_checkKey61_in (w : World) (b : Bool) (n : Nat) (k : TK) : (Instr.checkKey b (n + 2) 62 (keyV k)).run Tryd.prog w = .ok () w := by
  have p0 := part3 w #[.int .i64 k.1, .bool k.2] 0 (.int .i64 k.1) rfl
  have p1 := part4 w #[.int .i64 k.1, .bool k.2] 1 (.bool k.2) rfl
  unfold keyV
  simp [Instr.checkKey, run_underlying Tryd.underlying62, run_underlying Tryd.underlying3, run_underlying Tryd.underlying4, p0, p1]
theorem run_checkKey61 (w : World) (b : Bool) (k : TK) : (Instr.checkKey b 10000 62 (keyV k)).run Tryd.prog w = .ok () w := run_checkKey61_in w b 9998 k

theorem run_findAsking (w : World) (k : TK) : ∀ (es : List MapEntry) (i : Nat), (∀ e ∈ es, ∃ k' : TK, e.key = keyV k') →
    ((∀ e ∈ es, e.key ≠ keyV k) → (Instr.findAsking 62 (keyV k) es i).run Tryd.prog w = .ok none w) ∧
    ((∃ e ∈ es, e.key = keyV k) → ∃ j e, e ∈ es ∧ e.key = keyV k ∧ (Instr.findAsking 62 (keyV k) es i).run Tryd.prog w = .ok (some (j, e.val)) w)
  | [], i, _ => ⟨fun _ => by simp [Instr.findAsking], fun ⟨e, he, _⟩ => by simp at he⟩
  | x :: es, i, h => by
    obtain ⟨k', hk'⟩ := h x (by simp)
    have ih := run_findAsking w k es (i + 1) (fun e he => h e (by simp [he]))
    have he : (Op.equal 62 (keyV k) x.key).run Tryd.prog w = .ok (k.1 == k'.1 && k.2 == k'.2) w := by rw [hk']; exact eq61 w k.1 k'.1 k.2 k'.2
    by_cases hkk : k = k'
    · subst hkk
      refine ⟨fun hn => absurd hk' (hn x (by simp)), fun _ => ⟨i, x, by simp, hk', ?_⟩⟩
      simp [Instr.findAsking, he]
    · have hf : (k.1 == k'.1 && k.2 == k'.2) = false := by
        cases hq : (k.1 == k'.1 && k.2 == k'.2) with
        | false => rfl
        | true =>
          simp only [Bool.and_eq_true, beq_iff_eq] at hq
          exact absurd (Prod.ext hq.1 hq.2) hkk
      rw [hf] at he
      have hne : x.key ≠ keyV k := by
        rw [hk']
        intro hc
        simp only [keyV, Value.agg.injEq] at hc
        have := congrArg Array.toList hc
        simp at this
        exact hkk (Prod.ext this.1.symm this.2.symm)
      have hstep : (Instr.findAsking 62 (keyV k) (x :: es) i).run Tryd.prog w = (Instr.findAsking 62 (keyV k) es (i + 1)).run Tryd.prog w := by
        simp [Instr.findAsking, he]
      refine ⟨fun hn => by rw [hstep]; exact ih.1 (fun e he => hn e (by simp [he])), fun ⟨e, hm, hk2⟩ => ?_⟩
      rcases List.mem_cons.1 hm with rfl | hm
      · exact absurd hk2 hne
      · obtain ⟨j, e', h1, h2, h3⟩ := ih.2 ⟨e, hm, hk2⟩
        exact ⟨j, e', by simp [h1], h2, by rw [hstep]; exact h3⟩

theorem run_findKey61 (w : World) (k : TK) (es : List MapEntry) (h : ∀ e ∈ es, ∃ k' : TK, e.key = keyV k') :
    ((∀ e ∈ es, e.key ≠ keyV k) → (Instr.findKey 62 (keyV k) es).run Tryd.prog w = .ok none w) ∧
    ((∃ e ∈ es, e.key = keyV k) → ∃ j e, e ∈ es ∧ e.key = keyV k ∧ (Instr.findKey 62 (keyV k) es).run Tryd.prog w = .ok (some (j, e.val)) w) := by
  have hf := run_findAsking w k es 0 h
  cases es with
  | nil => exact ⟨fun _ => by simp [Instr.findKey, run_underlying Tryd.underlying62, Instr.findNow], fun ⟨e, he, _⟩ => by simp at he⟩
  | cons x es =>
    obtain ⟨k', hk'⟩ := h x (by simp)
    have hstep : (Instr.findKey 62 (keyV k) (x :: es)).run Tryd.prog w = (Instr.findAsking 62 (keyV k) (x :: es)).run Tryd.prog w := by
      simp [Instr.findKey, run_underlying Tryd.underlying62, Instr.findNow, Instr.sameNow]
    rw [hstep]
    exact hf

/-- The moves of a token, of a side. -/
def movesL (ini : Bool) (t : Int) (s : Bool) : List Mv :=
  if t = 1 then (if s then [⟨7, 1, 0⟩, ⟨3, 1, 0⟩] else [⟨8, 3, 0⟩, ⟨3, 3, 0⟩])
  else if t = 2 then (if s then [⟨9, 2, 0⟩] else [⟨10, 4, 0⟩])
  else if t = 7 then [⟨12, 0, 0⟩]
  else if ini then [⟨11, wantI t, wantR t + 2⟩] else [⟨11, wantR t, wantI t + 2⟩]

def MvsB (B : Nat) (w : World) (ao : Option Addr) (n : Nat) (ms : List Mv) : Prop := Mvs w ao n ms ∧ ∀ j ∈ blkL ao, B ≤ j
theorem Kp.mvsB {B : Nat} {w w' : World} (h : Kp w w') {ao : Option Addr} {n : Nat} {ms : List Mv} (hx : MvsB B w ao n ms) : MvsB B w' ao n ms := ⟨h.mvs hx.1, hx.2⟩
/-- The entries' stamps: below the clock, no two the same. -/
def Stp (arr : Array MapEntry) (clock : Nat) : Prop := (∀ e ∈ arr.toList, e.born < clock) ∧ (arr.toList.map (·.born)).Nodup
theorem Stp.nil (clock : Nat) : Stp #[] clock := ⟨fun e he => by simp at he, by simp⟩
theorem Stp.push {arr : Array MapEntry} {clock : Nat} (h : Stp arr clock) (key val : Value) : Stp (arr.push { key := key, val := val, born := clock }) (clock + 1) := by
  obtain ⟨h1, h2⟩ := h
  refine ⟨fun e he => ?_, ?_⟩
  · rw [Array.toList_push, List.mem_append, List.mem_singleton] at he
    rcases he with he | rfl
    · have := h1 e he; omega
    · exact Nat.lt_succ_self _
  · rw [Array.toList_push, List.map_append, List.nodup_append]
    refine ⟨h2, by simp, fun a ha b hb hab => ?_⟩
    obtain ⟨e, he, rfl⟩ := List.mem_map.1 ha
    simp only [List.map_cons, List.map_nil, List.mem_singleton] at hb
    have := h1 e he
    omega
/-- Block r is a map with these keys, and behind each its moves, in blocks from B on. -/
def MapIn (w : World) (r B : Nat) (ini : Bool) (K : List TK) : Prop := ∃ arr clock, w.heap[r]? = some (.map arr clock) ∧
  (∀ e ∈ arr.toList, ∃ k ∈ K, e.key = keyV k ∧ ∃ ao n cap, e.val = .slice ao n cap ∧ MvsB B w ao n (movesL ini k.1 k.2)) ∧ (∀ k ∈ K, ∃ e ∈ arr.toList, e.key = keyV k) ∧ Stp arr clock

theorem cell_map {w : World} {r : Nat} {arr : Array MapEntry} {clock : Nat} (h : w.heap[r]? = some (.map arr clock)) (j : Nat) : w.cell? ⟨r, j, none⟩ = none := by
  simp [World.cell?, h]
theorem Fr.cs_map {w w' : World} {r : Nat} {arr : Array MapEntry} {clock : Nat} (h : w.heap[r]? = some (.map arr clock)) (k : Fr [r] w w') {ao : Option Addr} {xs : List Value} (hx : Cs w ao xs) : Cs w' ao xs := fun j u hu => by
  obtain ⟨b, off, e, hc⟩ := hx j u hu
  refine ⟨b, off, e, k.cell hc ?_⟩
  simp only [List.mem_singleton]
  rintro rfl
  rw [cell_map h] at hc
  cases hc
theorem Fr.mvs_map {w w' : World} {r : Nat} {arr : Array MapEntry} {clock : Nat} (h : w.heap[r]? = some (.map arr clock)) (k : Fr [r] w w') {ao : Option Addr} {n : Nat} {ms : List Mv} (hx : Mvs w ao n ms) : Mvs w' ao n ms := ⟨hx.1, hx.2.1, Fr.cs_map h k hx.2.2⟩
theorem Fr.mvsB_map {B : Nat} {w w' : World} {r : Nat} {arr : Array MapEntry} {clock : Nat} (h : w.heap[r]? = some (.map arr clock)) (k : Fr [r] w w') {ao : Option Addr} {n : Nat} {ms : List Mv} (hx : MvsB B w ao n ms) : MvsB B w' ao n ms := ⟨Fr.mvs_map h k hx.1, hx.2⟩
theorem Kp.mapIn {w w' : World} (h : Kp w w') {r B : Nat} {ini : Bool} {K : List TK} (hx : MapIn w r B ini K) : MapIn w' r B ini K := by
  obtain ⟨arr, clock, h1, h2, h3⟩ := hx
  refine ⟨arr, clock, ?_, fun e he => ?_, h3⟩
  · rw [h.block r (Array.getElem?_eq_some_iff.1 h1).1]; exact h1
  · obtain ⟨k, hk, hkey, ao, n, cap, hv, hm⟩ := h2 e he
    exact ⟨k, hk, hkey, ao, n, cap, hv, h.mvsB hm⟩
theorem MapIn.new (w : World) (B : Nat) (ini : Bool) (clock : Nat) : MapIn (w.alloc (.map #[] clock)) w.heap.size B ini [] :=
  ⟨#[], clock, heap_alloc_new w _, fun e he => by simp at he, fun k hk => by simp at hk, Stp.nil _⟩

theorem MapIn.low {w : World} {r B B' : Nat} (hB : B' ≤ B) {ini : Bool} {K : List TK} (h : MapIn w r B ini K) : MapIn w r B' ini K := by
  obtain ⟨arr, clock, h1, h2, h3⟩ := h
  refine ⟨arr, clock, h1, fun e he => ?_, h3⟩
  obtain ⟨k, hk, hkey, ao, n, cap, hv, hm, hb⟩ := h2 e he
  exact ⟨k, hk, hkey, ao, n, cap, hv, hm, fun j hj => Nat.le_trans hB (hb j hj)⟩
/-- The map is kept, where its own blocks are. -/
theorem MapIn.keep {w w' : World} {r B : Nat} {ini : Bool} {K : List TK} (h : MapIn w r B ini K) {X : List Nat} (k : Fr X w w') (hr : r ∉ X) (hX : ∀ j ∈ X, j < B ∨ w.heap.size ≤ j) : MapIn w' r B ini K := by
  obtain ⟨arr, clock, h1, h2, h3⟩ := h
  refine ⟨arr, clock, ?_, fun e he => ?_, h3⟩
  · rw [k.block r (Array.getElem?_eq_some_iff.1 h1).1 hr]; exact h1
  · obtain ⟨q, hq, hkey, ao, n, cap, hv, hm, hb⟩ := h2 e he
    refine ⟨q, hq, hkey, ao, n, cap, hv, ⟨hm.1, hm.2.1, fun j u hu => ?_⟩, hb⟩
    obtain ⟨b, off, e', hc⟩ := hm.2.2 j u hu
    refine ⟨b, off, e', k.cell hc (fun hx => ?_)⟩
    have h4 := hb b (by rw [e']; exact mem_blkL_some.2 rfl)
    have h5 := World.block_lt_of_cell? w _ hc
    have := hX b hx
    simp only at h5
    omega
theorem keyV_inj {k k' : TK} (h : keyV k = keyV k') : k = k' := by
  simp only [keyV, Value.agg.injEq] at h
  have := congrArg Array.toList h
  simp at this
  exact Prod.ext this.1 this.2

theorem MapIn.put {w : World} {r B : Nat} {ini : Bool} {K : List TK} (h : MapIn w r B ini K) (k : TK) (hk : k ∉ K) {ao : Option Addr} {n cap : Nat} (hm : MvsB B w ao n (movesL ini k.1 k.2)) :
    ∃ w', (Instr.mapUpdate 57 (.map (some r)) (keyV k) (.slice ao n cap)).run Tryd.prog w = .ok () w' ∧ MapIn w' r B ini (k :: K) ∧ Fr [r] w w' := by
  obtain ⟨arr, clock, h1, h2, h3⟩ := h
  have hkeys : ∀ e ∈ arr.toList, ∃ k' : TK, e.key = keyV k' := fun e he => by obtain ⟨k', _, h, _⟩ := h2 e he; exact ⟨k', h⟩
  have hnone := (run_findKey61 w k arr.toList hkeys).1 (fun e he hc => by
    obtain ⟨k', hk', h, _⟩ := h2 e he
    exact hk (by rw [keyV_inj (hc.symm.trans h)]; exact hk'))
  have hlt : r < w.heap.size := (Array.getElem?_eq_some_iff.1 h1).1
  have hFr : Fr [r] w { w with heap := w.heap.setIfInBounds r (.map (arr.push { key := keyV k, val := .slice ao n cap, born := clock }) (clock + 1)) } :=
    ⟨rfl, rfl, rfl, by simp, fun i _ hi => by
      simp only [List.mem_singleton] at hi
      simp [Ne.symm hi]⟩
  refine ⟨_, ?_, ⟨arr.push { key := keyV k, val := .slice ao n cap, born := clock }, clock + 1, by simp [hlt], fun e he => ?_, fun k' hk' => ?_, h3.2.push _ _⟩, hFr⟩
  · simp only [Instr.mapUpdate, Sem.run_bind, run_underlying Tryd.underlying57, Result.andThen_ok, getMap_run h1, run_checkKey61, hnone, setMap_run _ h1]
  · rw [Array.toList_push, List.mem_append, List.mem_singleton] at he
    rcases he with he | rfl
    · obtain ⟨k', hk', hkey, ao', n', cap', hv, hm'⟩ := h2 e he
      exact ⟨k', by simp [hk'], hkey, ao', n', cap', hv, Fr.mvsB_map h1 hFr hm'⟩
    · exact ⟨k, by simp, rfl, ao, n, cap, rfl, Fr.mvsB_map h1 hFr hm⟩
  · rcases List.mem_cons.1 hk' with rfl | hk'
    · exact ⟨_, by rw [Array.toList_push]; exact List.mem_append_right _ (List.mem_singleton.2 rfl), rfl⟩
    · obtain ⟨e, he, hke⟩ := h3.1 k' hk'
      exact ⟨e, by rw [Array.toList_push]; exact List.mem_append_left _ he, hke⟩

theorem MapIn.get {w : World} {r B : Nat} {ini : Bool} {K : List TK} (h : MapIn w r B ini K) (k : TK) (hk : k ∈ K) :
    ∃ ao n cap, (Instr.lookup 57 (.map (some r)) (keyV k) false).run Tryd.prog w = .ok (.slice ao n cap) w ∧ MvsB B w ao n (movesL ini k.1 k.2) := by
  obtain ⟨arr, clock, h1, h2, h3⟩ := h
  have hkeys : ∀ e ∈ arr.toList, ∃ k' : TK, e.key = keyV k' := fun e he => by obtain ⟨k', _, h, _⟩ := h2 e he; exact ⟨k', h⟩
  obtain ⟨j, e, he, hke, hrun⟩ := (run_findKey61 w k arr.toList hkeys).2 (h3.1 k hk)
  obtain ⟨k', _, hk', ao, n, cap, hv, hm⟩ := h2 e he
  obtain rfl : k = k' := keyV_inj (hke.symm.trans hk')
  rw [hv] at hrun
  refine ⟨ao, n, cap, ?_, hm⟩
  simp [Instr.lookup, run_underlying Tryd.underlying57, getMap_run h1, run_checkKey61, hrun]
end Go.Proofs.YtbcjeemjpcidhaaDoor

namespace Go.Proofs.YtbcjeemjpcidhaaDoor
open Go.RowKit

def mvv (m : Mv) : Value := .agg #[iv m.op, iv m.key, iv m.wth]
theorem mvv_inj {m m' : Mv} (h : mvv m = mvv m') : m = m' := by
  simp only [mvv, Value.agg.injEq] at h
  have := congrArg Array.toList h
  simp at this
  obtain ⟨a, b, c⟩ := m
  obtain ⟨a', b', c'⟩ := m'
  simp at this
  simp [this]
theorem run_checkKey42_in (w : World) (b : Bool) (n : Nat) (m : Mv) : (Instr.checkKey b (n + 2) 56 (mvv m)).run Tryd.prog w = .ok () w := by
  have p0 := part3 w #[iv m.op, iv m.key, iv m.wth] 0 (iv m.op) rfl
  have p1 := part3 w #[iv m.op, iv m.key, iv m.wth] 1 (iv m.key) rfl
  have p2 := part3 w #[iv m.op, iv m.key, iv m.wth] 2 (iv m.wth) rfl
  unfold mvv
  simp [Instr.checkKey, run_underlying Tryd.underlying56, run_underlying Tryd.underlying3, p0, p1, p2]
theorem run_checkKey42 (w : World) (b : Bool) (m : Mv) : (Instr.checkKey b 10000 56 (mvv m)).run Tryd.prog w = .ok () w := run_checkKey42_in w b 9998 m
theorem mv_dec (m m' : Mv) : (m.op == m'.op && (m.key == m'.key && m.wth == m'.wth)) = decide (m = m') := by
  obtain ⟨a, b, c⟩ := m
  obtain ⟨a', b', c'⟩ := m'
  rw [Bool.eq_iff_iff]
  simp
theorem eqq42 (w : World) (m m' : Mv) : (Op.equal 56 (mvv m) (mvv m')).run Tryd.prog w = .ok (decide (m = m')) w := by
  have := eq42_in w 9998 m.op m.key m.wth m'.op m'.key m'.wth
  rw [mv_dec] at this
  unfold mvv
  simpa [Op.equal, Op.maxDepth] using this
theorem run_findAsk42 (w : World) (m : Mv) : ∀ (es : List MapEntry) (i : Nat), (∀ e ∈ es, ∃ m' : Mv, e.key = mvv m') →
    ((∀ e ∈ es, e.key ≠ mvv m) → (Instr.findAsking 56 (mvv m) es i).run Tryd.prog w = .ok none w) ∧
    ((∃ e ∈ es, e.key = mvv m) → ∃ j e, es[j]? = some e ∧ e.key = mvv m ∧ (Instr.findAsking 56 (mvv m) es i).run Tryd.prog w = .ok (some (i + j, e.val)) w)
  | [], i, _ => ⟨fun _ => by simp [Instr.findAsking], fun ⟨e, he, _⟩ => by simp at he⟩
  | x :: es, i, h => by
    obtain ⟨m', hm'⟩ := h x (by simp)
    have ih := run_findAsk42 w m es (i + 1) (fun e he => h e (by simp [he]))
    have he : (Op.equal 56 (mvv m) x.key).run Tryd.prog w = .ok (decide (m = m')) w := by rw [hm']; exact eqq42 w m m'
    by_cases hmm : m = m'
    · subst hmm
      refine ⟨fun hn => absurd hm' (hn x (by simp)), fun _ => ⟨0, x, by simp, hm', ?_⟩⟩
      simp [Instr.findAsking, he]
    · rw [decide_eq_false hmm] at he
      have hne : x.key ≠ mvv m := by
        rw [hm']
        intro hc
        exact hmm (mvv_inj hc).symm
      have hstep : (Instr.findAsking 56 (mvv m) (x :: es) i).run Tryd.prog w = (Instr.findAsking 56 (mvv m) es (i + 1)).run Tryd.prog w := by
        simp [Instr.findAsking, he]
      refine ⟨fun hn => by rw [hstep]; exact ih.1 (fun e he => hn e (by simp [he])), fun ⟨e, hm, hk2⟩ => ?_⟩
      rcases List.mem_cons.1 hm with rfl | hm
      · exact absurd hk2 hne
      · obtain ⟨j, e', h1, h2, h3⟩ := ih.2 ⟨e, hm, hk2⟩
        exact ⟨j + 1, e', by simpa using h1, h2, by refine hstep.trans (h3.trans ?_); rw [show i + 1 + j = i + (j + 1) by omega]⟩
theorem run_findKey42 (w : World) (m : Mv) (es : List MapEntry) (h : ∀ e ∈ es, ∃ m' : Mv, e.key = mvv m') :
    ((∀ e ∈ es, e.key ≠ mvv m) → (Instr.findKey 56 (mvv m) es).run Tryd.prog w = .ok none w) ∧
    ((∃ e ∈ es, e.key = mvv m) → ∃ j e, es[j]? = some e ∧ e.key = mvv m ∧ (Instr.findKey 56 (mvv m) es).run Tryd.prog w = .ok (some (j, e.val)) w) := by
  have hf := run_findAsk42 w m es 0 h
  cases es with
  | nil => exact ⟨fun _ => by simp [Instr.findKey, run_underlying Tryd.underlying56, Instr.findNow], fun ⟨e, he, _⟩ => by simp at he⟩
  | cons x es =>
    have hstep : (Instr.findKey 56 (mvv m) (x :: es)).run Tryd.prog w = (Instr.findAsking 56 (mvv m) (x :: es) 0).run Tryd.prog w := by
      simp [Instr.findKey, run_underlying Tryd.underlying56, Instr.findNow, Instr.sameNow]
    rw [hstep]
    refine ⟨hf.1, fun hx => ?_⟩
    obtain ⟨j, e, h1, h2, h3⟩ := hf.2 hx
    exact ⟨j, e, h1, h2, by rw [h3, Nat.zero_add]⟩

/-- Block r is a map; D says what number stands behind a move. -/
def BkIn (w : World) (r : Nat) (D : Mv → Option Int) : Prop := ∃ arr clock, w.heap[r]? = some (.map arr clock) ∧
  (∀ e ∈ arr.toList, ∃ m t, e.key = mvv m ∧ e.val = iv t ∧ D m = some t) ∧ (∀ m t, D m = some t → ∃ e ∈ arr.toList, e.key = mvv m)
theorem BkIn.new (w : World) (clock : Nat) : BkIn (w.alloc (.map #[] clock)) w.heap.size (fun _ => none) :=
  ⟨#[], clock, heap_alloc_new w _, fun e he => by simp at he, fun m t h => by cases h⟩
theorem BkIn.fr {w w' : World} {r : Nat} {D : Mv → Option Int} (h : BkIn w r D) {X : List Nat} (k : Fr X w w') (hr : r ∉ X) : BkIn w' r D := by
  obtain ⟨arr, clock, h1, h2, h3⟩ := h
  refine ⟨arr, clock, ?_, h2, h3⟩
  rw [k.block r (Array.getElem?_eq_some_iff.1 h1).1 hr]; exact h1
theorem BkIn.kp {w w' : World} {r : Nat} {D : Mv → Option Int} (h : BkIn w r D) (k : Kp w w') : BkIn w' r D := h.fr (Fr.of_kp k) (by simp)
theorem BkIn.congr {w : World} {r : Nat} {D D' : Mv → Option Int} (h : BkIn w r D) (hD : ∀ m, D m = D' m) : BkIn w r D' := by
  have : D = D' := funext hD
  rwa [← this]
theorem BkIn.lt {w : World} {r : Nat} {D : Mv → Option Int} (h : BkIn w r D) : r < w.heap.size := by
  obtain ⟨arr, clock, h1, _⟩ := h
  exact (Array.getElem?_eq_some_iff.1 h1).1
def updD (D : Mv → Option Int) (m : Mv) (t : Int) : Mv → Option Int := fun x => if x = m then some t else D x
theorem sameBits_mvv (n : Nat) (m : Mv) : Instr.sameBits (n + 2) (mvv m) (mvv m) = true := by
  simp [Instr.sameBits, mvv]

theorem BkIn.put {w : World} {r : Nat} {D : Mv → Option Int} (h : BkIn w r D) (m : Mv) (t : Int) (hD : D m = none ∨ D m = some t) :
    ∃ w', (Instr.mapUpdate 64 (.map (some r)) (mvv m) (iv t)).run Tryd.prog w = .ok () w' ∧ BkIn w' r (updD D m t) ∧ Fr [r] w w' := by
  obtain ⟨arr, clock, h1, h2, h3⟩ := h
  have hkeys : ∀ e ∈ arr.toList, ∃ m' : Mv, e.key = mvv m' := fun e he => by obtain ⟨m', _, h, _⟩ := h2 e he; exact ⟨m', h⟩
  have hlt : r < w.heap.size := (Array.getElem?_eq_some_iff.1 h1).1
  have hFr : ∀ o, Fr [r] w { w with heap := w.heap.setIfInBounds r o } := fun o =>
    ⟨rfl, rfl, rfl, by simp, fun i _ hi => by
      simp only [List.mem_singleton] at hi
      simp [Ne.symm hi]⟩
  rcases hD with hD | hD
  · have hnone := (run_findKey42 w m arr.toList hkeys).1 (fun e he hc => by
      obtain ⟨m', t', hk, _, hd⟩ := h2 e he
      rw [mvv_inj (hk.symm.trans hc), hD] at hd
      cases hd)
    refine ⟨_, ?_, ⟨arr.push { key := mvv m, val := iv t, born := clock }, clock + 1, by simp [hlt], fun e he => ?_, fun m' t' hd => ?_⟩, hFr (.map (arr.push { key := mvv m, val := iv t, born := clock }) (clock + 1))⟩
    · simp only [Instr.mapUpdate, Sem.run_bind, run_underlying Tryd.underlying64, Result.andThen_ok, getMap_run h1, run_checkKey42, hnone, setMap_run _ h1]
    · rw [Array.toList_push, List.mem_append, List.mem_singleton] at he
      rcases he with he | rfl
      · obtain ⟨m', t', hk, hv, hd⟩ := h2 e he
        refine ⟨m', t', hk, hv, ?_⟩
        unfold updD
        rw [if_neg (fun hm => by rw [hm, hD] at hd; cases hd)]
        exact hd
      · exact ⟨m, t, rfl, rfl, by simp [updD]⟩
    · unfold updD at hd
      split at hd
      · rename_i hm
        subst hm
        exact ⟨_, by rw [Array.toList_push]; exact List.mem_append_right _ (List.mem_singleton.2 rfl), rfl⟩
      · obtain ⟨e, he, hk⟩ := h3 m' t' hd
        exact ⟨e, by rw [Array.toList_push]; exact List.mem_append_left _ he, hk⟩
  · obtain ⟨j, e, hj, hk, hrun⟩ := (run_findKey42 w m arr.toList hkeys).2 (h3 m t hD)
    have hja : arr[j]? = some e := by simpa using hj
    have hupd : updD D m t = D := by
      funext x
      unfold updD
      split
      · rename_i hx; subst hx; exact hD.symm
      · rfl
    rw [hupd]
    refine ⟨_, ?_, ⟨arr.modify j fun e => { e with key := mvv m, val := iv t }, clock, by simp [hlt], fun e' he' => ?_, fun m' t' hd => ?_⟩, hFr (.map (arr.modify j fun e => { e with key := mvv m, val := iv t }) clock)⟩
    · simp only [Instr.mapUpdate, Sem.run_bind, run_underlying Tryd.underlying64, Result.andThen_ok, getMap_run h1, run_checkKey42, hrun, hja, Option.map_some, Option.getD_some, hk, Instr.keyThatStays]
      rw [show Instr.sameBits 10000 (mvv m) (mvv m) = true from sameBits_mvv 9998 m]
      simp only [if_true, Sem.run_pure, Result.andThen_ok, setMap_run _ h1]
    · rw [Array.toList_modify] at he'
      obtain ⟨i, hi, rfl⟩ := List.getElem_of_mem he'
      rw [List.getElem_modify]
      split
      · exact ⟨m, t, rfl, rfl, hD⟩
      · exact h2 _ (List.getElem_mem _)
    · obtain ⟨e', he', hk'⟩ := h3 m' t' hd
      obtain ⟨i, hi, rfl⟩ := List.getElem_of_mem he'
      by_cases hij : j = i
      · subst hij
        have : arr.toList[j] = e := by
          have := List.getElem?_eq_getElem hi
          rw [hj] at this
          exact (Option.some.inj this).symm
        rw [this, hk] at hk'
        refine ⟨{ e with key := mvv m, val := iv t }, ?_, by rw [← hk']⟩
        rw [Array.toList_modify]
        refine List.mem_iff_getElem.2 ⟨j, by simpa using hi, ?_⟩
        rw [List.getElem_modify, if_pos rfl, this]
      · refine ⟨arr.toList[i], ?_, hk'⟩
        rw [Array.toList_modify]
        refine List.mem_iff_getElem.2 ⟨i, by simpa using hi, ?_⟩
        rw [List.getElem_modify, if_neg hij]

theorem BkIn.get {w : World} {r : Nat} {D : Mv → Option Int} (h : BkIn w r D) (m : Mv) :
    (Instr.lookup 64 (.map (some r)) (mvv m) true).run Tryd.prog w = .ok (.tuple #[iv ((D m).getD 0), .bool (D m).isSome]) w := by
  obtain ⟨arr, clock, h1, h2, h3⟩ := h
  have hkeys : ∀ e ∈ arr.toList, ∃ m' : Mv, e.key = mvv m' := fun e he => by obtain ⟨m', _, h, _⟩ := h2 e he; exact ⟨m', h⟩
  cases hD : D m with
  | none =>
    have hnone := (run_findKey42 w m arr.toList hkeys).1 (fun e he hc => by
      obtain ⟨m', t', hk, _, hd⟩ := h2 e he
      rw [mvv_inj (hk.symm.trans hc), hD] at hd
      cases hd)
    have hz := Tryd.zeroValue3
    simp [Instr.lookup, run_underlying Tryd.underlying64, getMap_run h1, run_checkKey42, hnone, hz]
  | some t =>
    obtain ⟨j, e, hj, hk, hrun⟩ := (run_findKey42 w m arr.toList hkeys).2 (h3 m t hD)
    obtain ⟨m', t', hk', hv, hd⟩ := h2 e (List.mem_of_getElem? hj)
    rw [← mvv_inj (hk.symm.trans hk'), hD] at hd
    cases hd
    rw [hv] at hrun
    simp [Instr.lookup, run_underlying Tryd.underlying64, getMap_run h1, run_checkKey42, hrun]
end Go.Proofs.YtbcjeemjpcidhaaDoor

namespace Go.Proofs.YtbcjeemjpcidhaaDoor
open Go.RowKit

/-- As Q; by a goto to label l: J l. -/
def Exit.jumps (J : Nat → Act → World → Prop) (Q : Exit → Act → World → Prop) : Exit → Act → World → Prop
  | .goto l, a, w => J l a w
  | e, a, w => Q e a w
theorem jumps_mono {J J' : Nat → Act → World → Prop} {Q : Exit → Act → World → Prop} (h : ∀ l a w, J l a w → J' l a w) : ∀ e a w, Exit.jumps J Q e a w → Exit.jumps J' Q e a w := by
  intro e a w hq
  cases e <;> first | exact hq | exact h _ _ _ hq

section
variable {P : Program} {a : Act} {w : World} {Q : Exit → Act → World → Prop}
theorem wp_scope_labels {c : Code} (J : Nat → Act → World → Prop) (μ : Nat → Act → World → Nat)
    (first : c.wp P (Exit.jumps J Q) a w)
    (pass : ∀ l a w, J l a w → ∃ rest, findLabel c l = some rest ∧ rest.wp P (Exit.jumps (fun l' a' w' => J l' a' w' ∧ μ l' a' w' < μ l a w) Q) a w) : (Code.scope c).wp P Q a w := by
  intro b k cs
  have hg : ∀ l rest, findLabel c l = some rest → gotoIn l (.inScope c :: k) = some (.code rest :: .inScope c :: k) := fun l rest h => by simp [gotoIn, h]
  have key : ∀ n l a w rest, μ l a w = n → J l a w → findLabel c l = some rest → ∃ e a' w', Q e a' w' ∧ Arrives P (lone (b.at a (.code rest :: .inScope c :: k)) cs w) b k cs e a' w' := by
    intro n
    induction n using Nat.strongRecOn with
    | _ n ih =>
      intro l a w rest hn hJ hf
      obtain ⟨rest', hf', hp⟩ := pass l a w hJ
      rw [hf] at hf'
      obtain rfl : rest = rest' := Option.some.inj hf'
      obtain ⟨e, a₁, w₁, hq, harr⟩ := hp b (.inScope c :: k) cs
      cases e with
      | normal => exact ⟨.normal, a₁, w₁, hq, Steps.trans harr (.one step_inScope)⟩
      | exit id => exact ⟨.exit id, a₁, w₁, hq, fun k' hk => harr k' (by simp [exitTo, hk])⟩
      | goto l' =>
        obtain ⟨hJ', hlt⟩ := hq
        obtain ⟨rest2, hf2, _⟩ := pass l' a₁ w₁ hJ'
        obtain ⟨e₂, a₂, w₂, hq₂, harr₂⟩ := ih _ (by omega) l' a₁ w₁ rest2 rfl hJ' hf2
        exact ⟨e₂, a₂, w₂, hq₂, .of_steps (harr _ (hg _ _ hf2)) harr₂⟩
      | ret => exact ⟨_, a₁, w₁, hq, harr⟩
      | panic ch => exact ⟨_, a₁, w₁, hq, harr⟩
      | outgrown => exact ⟨_, a₁, w₁, hq, harr⟩
  obtain ⟨e, a₁, w₁, hq, harr⟩ := first b (.inScope c :: k) cs
  cases e with
  | normal => exact ⟨.normal, a₁, w₁, hq, .head step_scope (Steps.trans harr (.one step_inScope))⟩
  | exit id => exact ⟨.exit id, a₁, w₁, hq, fun k' hk => .head step_scope (harr k' (by simp [exitTo, hk]))⟩
  | goto l' =>
    obtain ⟨rest2, hf2, _⟩ := pass l' a₁ w₁ hq
    obtain ⟨e₂, a₂, w₂, hq₂, harr₂⟩ := key _ l' a₁ w₁ rest2 rfl hq hf2
    exact ⟨e₂, a₂, w₂, hq₂, .of_steps (.head step_scope (harr _ (hg _ _ hf2))) harr₂⟩
  | ret => exact ⟨_, a₁, w₁, hq, .of_steps (.one step_scope) harr⟩
  | panic ch => exact ⟨_, a₁, w₁, hq, .of_steps (.one step_scope) harr⟩
  | outgrown => exact ⟨_, a₁, w₁, hq, .of_steps (.one step_scope) harr⟩
end

/-! ### A loop over a map -/
/-- Block r goes over the map of block b; the stamps in 'seen' have been. -/
def Rg (w : World) (b r : Nat) (es : Array MapEntry) (seen : Array Nat) : Prop := ∃ clock since c0, w.heap[b]? = some (.map es clock) ∧ w.heap[r]? = some (.mapIter (some b) since seen c0) ∧ (∀ x ∈ es.toList, x.born < since) ∧ since ≤ c0 ∧ since ≤ clock ∧ (es.toList.map (·.born)).Nodup
theorem Rg.lt {w : World} {b r : Nat} {es : Array MapEntry} {seen : Array Nat} (h : Rg w b r es seen) : b < w.heap.size ∧ r < w.heap.size ∧ r ≠ b := by
  obtain ⟨clock, since, c0, h1, h2, _⟩ := h
  refine ⟨(Array.getElem?_eq_some_iff.1 h1).1, (Array.getElem?_eq_some_iff.1 h2).1, ?_⟩
  rintro rfl
  rw [h1] at h2; cases h2
theorem Rg.fr {X : List Nat} {w w' : World} {b r : Nat} {es : Array MapEntry} {seen : Array Nat} (h : Rg w b r es seen) (k : Fr X w w') (hb : b ∉ X) (hr : r ∉ X) : Rg w' b r es seen := by
  obtain ⟨lb, lr, _⟩ := h.lt
  obtain ⟨clock, since, c0, h1, h2, h3⟩ := h
  exact ⟨clock, since, c0, (k.block b lb hb).trans h1, (k.block r lr hr).trans h2, h3⟩
theorem Rg.left {w : World} {b r : Nat} {es : Array MapEntry} {seen : Array Nat} (h : Rg w b r es seen) : w.rangeLeft b r = (leftOf es seen).size := by
  obtain ⟨clock, since, c0, h1, h2, _⟩ := h
  simp only [World.rangeLeft, h1, h2]
theorem Rg.start {w : World} {b : Nat} {es : Array MapEntry} {clock : Nat} (h : w.heap[b]? = some (.map es clock)) (hs : Stp es clock) : Rg (w.alloc (.mapIter (some b) clock #[] clock)) b w.heap.size es #[] := by
  have hb := (Array.getElem?_eq_some_iff.1 h).1
  refine ⟨clock, clock, clock, ?_, heap_alloc_new w _, hs.1, Nat.le_refl _, Nat.le_refl _, hs.2⟩
  rw [(Kp.new w (.mapIter (some b) clock #[] clock)).block b hb]; exact h
theorem Rg.next {P : Program} {w : World} {b r : Nat} {es : Array MapEntry} {seen : Array Nat} (h : Rg w b r es seen) (ty : TypeId) :
    ((leftOf es seen).size = 0 ∧ (Instr.next (.pointer (some ⟨r, 0, none⟩)) false ty).run P w = .ok (.tuple #[.bool false]) w) ∨
    ∃ e ∈ es.toList, ∃ w', (Instr.next (.pointer (some ⟨r, 0, none⟩)) false ty).run P w = .ok (.tuple #[.bool true, e.key, e.val]) w' ∧ Rg w' b r es (seen.push e.born) ∧ (leftOf es (seen.push e.born)).size < (leftOf es seen).size ∧ Fr [r] w w' ∧
      (Instr.entry (.pointer (some ⟨r, 0, none⟩))).run P w' = .ok (.tuple #[e.key, e.val]) w' := by
  obtain ⟨_, lr, hne⟩ := h.lt
  obtain ⟨clock, since, c0, h1, h2, h3, h4, h5, h6⟩ := h
  rcases run_next_at (P := P) w ty r b since c0 seen es clock h2 h1 h3 h4 with h | ⟨e, he, w1, hw, hrun⟩
  · exact .inl h
  · obtain ⟨hm, hs⟩ := mem_left he
    have hw1 : w1.heap = w.heap ∧ w1.os = w.os ∧ w1.tape = w.tape ∧ w1.output = w.output := by rcases hw with rfl | rfl <;> exact ⟨rfl, rfl, rfl, rfl⟩
    have hset := MapKept.heap_set (w := w1) (o' := .mapIter (some b) since (seen.push e.born) clock) (show w1.heap[r]? = _ by rw [hw1.1]; exact h2)
    have hb' : (Go.ChangeMaps.setBlock w1 r (.mapIter (some b) since (seen.push e.born) clock)).heap[b]? = some (.map es clock) := (hset.2 b (fun e1 => hne e1.symm)).trans (by rw [hw1.1]; exact h1)
    refine .inr ⟨e, hm, _, hrun, ⟨clock, since, clock, hb', hset.1, h3, h5, h5, h6⟩, left_shrinks es seen e he, ?_, run_entry_at _ r b since seen es clock e hset.1 hb' hm h6⟩
    refine ⟨hw1.2.1, hw1.2.2.1, hw1.2.2.2, by simp [Go.ChangeMaps.setBlock, hw1.1], fun i _ hi => ?_⟩
    rw [show (Go.ChangeMaps.setBlock w1 r (.mapIter (some b) since (seen.push e.born) clock)).heap[i]? = w1.heap[i]? from hset.2 i (fun e1 => hi (by simp [e1])), hw1.1]
theorem Rg.all {es : Array MapEntry} {seen : Array Nat} (h : (leftOf es seen).size = 0) : ∀ x ∈ es.toList, seen.contains x.born = true := all_seen es seen h
end Go.Proofs.YtbcjeemjpcidhaaDoor

namespace Go.Proofs.YtbcjeemjpcidhaaDoor
open Go.RowKit

/-- A piece of the table: its name and its text, if it has a colon. -/
def pieceT (p : Q.Bt) : Option (Q.Bt × Q.Bt) := match Lib.cut p [58] with
  | (x, _, true) => some (x, Lib.trimSuffix p [10])
  | _ => none
def tblQ : List (Q.Bt × Q.Bt) := Q.piecesB.filterMap pieceT
def bs2 (x : Q.Bt × Q.Bt) : ByteArray × ByteArray := (bs x.1, bs x.2)
theorem tbl_read : tblQ.map (fun x => (x.1, Q.readP x.2)) = Q.tableL.map (fun y => (y.1, some (y.1, (⟨y.2.1.1, y.2.1.2, y.2.2.1, y.2.2.2⟩ : Q.Rd)))) := by kernel_rfl
theorem tbl_short : tblQ.all (fun x => decide (x.1.length ≤ 9) && decide (x.2.length ≤ 4096)) = true := by kernel_rfl
theorem tbl_checked : Q.tableL.all (fun y => checkL y.2.1.1 y.2.1.2 y.2.2.1 == 0) = true := by kernel_rfl
theorem names_apart : (Q.tableL.map (·.1)).Nodup := by decide
theorem tbl_names : tblQ.map (·.1) = Q.tableL.map (·.1) := by
  have := congrArg (List.map Prod.fst) tbl_read
  simpa [List.map_map, Function.comp_def] using this
/-- The pieces, as texts. -/
def tblP : List ByteArray := Lib.splitB ⟨#[10, 10]⟩ 2 (Lib.countB (bs Q.tableB) ⟨#[10, 10]⟩) (bs Q.tableB)
theorem tblP_data : tblP.map (·.data.toList) = Q.piecesB := by
  unfold tblP
  rw [Lib.splitB_data]
  rfl
theorem tblP_length : tblP.length = Lib.countB (bs Q.tableB) ⟨#[10, 10]⟩ + 1 := Lib.splitB_all _ (by decide) 2 _ _ rfl
theorem tbl_count : Lib.countB (bs Q.tableB) ⟨#[10, 10]⟩ = 38 := Q.pieces_count
theorem pieces_short : Q.piecesB.all (fun p => decide (p.length ≤ 4096)) = true := by kernel_rfl
theorem after_table (m : Int) (w : World) (hm : MaxV w m) (s : ByteArray) (hs : s = bs Q.tableB) : Calls Tryd.prog 25 #[.string s, .string ⟨#[10, 10]⟩] w fun e w' =>
    e = .returned (.slice (some ⟨w.heap.size, 0, none⟩) 39 39) ∧ w' = w.alloc (.cells (tblP.map Value.string).toArray 9) := by
  subst hs
  have h := after_any (bs Q.tableB) m w (by rw [bs_size]; exact Nat.lt_of_le_of_lt (show Q.tableB.length ≤ 2000 from Nat.le_of_ble_eq_true (by kernel_rfl)) (by decide)) hm
  unfold tblP
  rw [tbl_count] at h ⊢
  exact h
theorem bs_inj {a b : Q.Bt} (h : bs a = bs b) : a = b := by rw [← bs_list a, h, bs_list]
/-- The pairs of the first pieces. -/
def tblK (k : Nat) : List (Q.Bt × Q.Bt) := (Q.piecesB.take k).filterMap pieceT
theorem tblK_sub (k : Nat) : (tblK k).Sublist tblQ := (List.take_sublist _ _).filterMap _
theorem tblK_all : tblK 39 = tblQ := by
  unfold tblK tblQ
  rw [List.take_of_length_le (by rw [← tblP_data, List.length_map, tblP_length, tbl_count]; exact Nat.le_refl _)]
theorem tblK_yes {k : Nat} {q x t : Q.Bt} (hq : Q.piecesB[k]? = some q) (hp : pieceT q = some (x, t)) : tblK (k + 1) = tblK k ++ [(x, t)] := by
  unfold tblK
  rw [List.take_add_one, hq]
  simp [List.filterMap_append, hp]
theorem tblK_no {k : Nat} {q : Q.Bt} (hq : Q.piecesB[k]? = some q) (hp : pieceT q = none) : tblK (k + 1) = tblK k := by
  unfold tblK
  rw [List.take_add_one, hq]
  simp [List.filterMap_append, hp]
theorem tblQ_short {x : Q.Bt × Q.Bt} (h : x ∈ tblQ) : x.1.length ≤ 9 ∧ x.2.length ≤ 4096 := by
  have := List.all_eq_true.1 tbl_short x h
  simpa using this
theorem tblK_key {k : Nat} : ∀ y ∈ (tblK k).map bs2, y.1.size ≤ maxLen := fun y hy => by
  obtain ⟨x, hx, rfl⟩ := List.mem_map.1 hy
  have := (tblQ_short ((tblK_sub k).subset hx)).1
  unfold bs2
  simp only [bs_size]
  exact Nat.le_trans this (by decide)
theorem tblK_new {k : Nat} {q x t : Q.Bt} (hq : Q.piecesB[k]? = some q) (hp : pieceT q = some (x, t)) : (∀ y ∈ (tblK k).map bs2, y.1 ≠ bs x) ∧ (bs x).size ≤ maxLen := by
  have hs := tblK_sub (k + 1)
  rw [tblK_yes hq hp] at hs
  have ha : (tblQ.map Prod.fst).Nodup := by have := names_apart; rwa [← tbl_names] at this
  have hn : ((tblK k ++ [(x, t)]).map Prod.fst).Nodup := (hs.map Prod.fst).nodup ha
  refine ⟨fun y hy hc => ?_, ?_⟩
  · obtain ⟨z, hz, rfl⟩ := List.mem_map.1 hy
    rw [List.map_append, List.nodup_append] at hn
    exact hn.2.2 z.1 (List.mem_map.2 ⟨z, hz, rfl⟩) x (by simp) (bs_inj hc)
  · have := (tblQ_short (hs.subset (by simp : (x, t) ∈ tblK k ++ [(x, t)]))).1
    rw [bs_size]
    exact Nat.le_trans this (by decide)
theorem tblK_zero : tblK 0 = [] := by
  unfold tblK
  rw [List.take_zero]
  rfl
attribute [local irreducible] tblK tblP tblQ Q.piecesB Q.tableB
set_option maxRecDepth 100000 in
set_option maxHeartbeats 8000000 in
theorem table_any (m : Int) (w : World) (hm : MaxV w m) : Calls Tryd.prog 12 #[] w fun e w' => ∃ r, e = .returned (.map (some r)) ∧ Kp w w' ∧ Tbl w' r (tblQ.map bs2) := by
  have hmm := @run_makeMap Tryd.prog
  go_enter Tryd.func12, Tryd.ntmps12
  go_upto_region 2 with fail
  have hk1 := Kp.new w (.map #[] 0)
  have hT1 := Tbl.new w 0
  have hm1 := hk1.maxV hm
  obtain ⟨r, hr⟩ : ∃ r, r = w.heap.size := ⟨_, rfl⟩
  have Hr := Lib.hid hr
  have hr6 : 5 < r := by rw [hr]; exact World.block_lt_of_cell? w _ hm
  rw [← hr] at hT1 ⊢
  clear hr
  generalize w.alloc (.map #[] 0) = w1 at *
  go_wp2_with (go_at_call 25; refine (after_table m _ hm1 _ (by kernel_rfl)).mono ?_; rintro e w2 ⟨rfl, rfl⟩)
  have hk2 := Kp.new w1 (.cells (tblP.map Value.string).toArray 9)
  have hrw : r < w1.heap.size := by obtain ⟨_, _, h, _⟩ := hT1; exact (Array.getElem?_eq_some_iff.1 h).1
  have hcs : ∀ (j : Nat) (p : ByteArray), tblP[j]? = some p → (w1.alloc (.cells (tblP.map Value.string).toArray 9)).cell? ⟨w1.heap.size, j, none⟩ = some (.string p) := fun j p h => by
    rw [World.cell?_alloc_at _ _ _ _ rfl]
    simp [h]
  have hT2 := hk2.tbl hT1
  have hm2 := hk2.maxV hm1
  have Hk2 := Lib.hid (Kp.trans hk1 hk2)
  obtain ⟨bc, hbc⟩ : ∃ bc, bc = w1.heap.size := ⟨_, rfl⟩
  rw [← hbc] at hcs hrw ⊢
  have hb2 : bc < (w1.alloc (.cells (tblP.map Value.string).toArray 9)).heap.size := by rw [hbc]; simp
  generalize w1.alloc (.cells (tblP.map Value.string).toArray 9) = w2 at *
  clear hk1 hm1 hT1 hbc hm hk2
  have Hcs := Lib.hid hcs
  have HT2 := Lib.hid hT2
  have Hm2 := Lib.hid hm2
  clear hcs hT2 hm2
  go_loopw [10] (fun i wr => ∃ k : Nat, k ≤ 39 ∧ i = .int .i64 (k : Nat) ∧ Fr [r] w2 wr ∧ Tbl wr r ((tblK k).map bs2)) (fun i _ => 39 - (intOf i).toNat)
  case atStart => exact ⟨0, by omega, rfl, Fr.refl _ _, by rw [tblK_zero]; exact HT2.out⟩
  case round =>
    obtain ⟨k, hk, rfl, hF, hT⟩ := hrel
    by_cases hlt : k < 39
    · have hkl : k < tblP.length := by rw [tblP_length, tbl_count]; exact hlt
      obtain ⟨p, hp⟩ : ∃ p, tblP[k]? = some p := ⟨_, List.getElem?_eq_getElem hkl⟩
      have hq : Q.piecesB[k]? = some p.data.toList := by rw [← tblP_data, List.getElem?_map, hp]; rfl
      have hc : wr.cell? ⟨bc, k, none⟩ = some (.string p) := hF.cell (Hcs.out k p hp) (by simp; omega)
      have hps : p.data.toList.length ≤ 4096 := by have := List.all_eq_true.1 pieces_short _ (List.mem_of_getElem? hq); simpa using this
      have hsz := Lib.size_eq p
      have HC := Lib.hid (Tryd.strings_Cut p ⟨#[58]⟩ m wr (by omega) (hF.cell Hm2.out (by simp; omega)))
      have HS := Lib.hid (fun w' => Tryd.strings_TrimSuffix p ⟨#[10]⟩ w' (by omega))
      have Hl := Lib.hid (And.intro (show (⟨#[58]⟩ : ByteArray).data.toList = [58] from rfl) (show (⟨#[10]⟩ : ByteArray).data.toList = [10] from rfl))
      rw [Hl.out.1] at HC
      rw [Hl.out.2] at HS
      have Hq := Lib.hid hq
      clear Hl hp hq
      obtain ⟨c, hcc⟩ : ∃ c, c = Lib.cut p.data.toList [58] := ⟨_, rfl⟩
      rw [← hcc] at HC
      have Hcc := Lib.hid hcc
      clear hcc
      obtain ⟨x, rest, ok⟩ := c
      have HT := Lib.hid hT
      have HF := Lib.hid hF
      clear hT hF
      cases ok with
      | false =>
        have Hno := Lib.hid (tblK_no Hq.out (show pieceT p.data.toList = none by unfold pieceT; rw [← Hcc.out]))
        go_wp2_with fail
        (with_reducible refine HC.out.mono ?_)
        rintro e w3 ⟨rfl, n, rfl⟩
        have hkd := Kp.of_drewN wr n
        have Hfin := Lib.hid (And.intro (HF.out.step (Fr.of_kp hkd) (by simp)) (hkd.tbl HT.out))
        clear hkd hc
        go_wp2_with fail
        go_roundw
        case rel => exact ⟨k + 1, by omega, by go_num, Hfin.out.1, by rw [Hno.out]; exact Hfin.out.2⟩
        case measure => simp [intOf]; omega
      | true =>
        have hpt : pieceT p.data.toList = some (x, Lib.trimSuffix p.data.toList [10]) := by unfold pieceT; rw [← Hcc.out]
        have Hyes := Lib.hid (tblK_yes Hq.out hpt)
        have Hnew := Lib.hid (tblK_new Hq.out hpt)
        obtain ⟨tx, htx⟩ : ∃ tx, tx = Lib.trimSuffix p.data.toList [10] := ⟨_, rfl⟩
        rw [← htx] at HS Hyes
        clear hpt htx
        go_wp2_with fail
        (with_reducible refine HC.out.mono ?_)
        rintro e w3 ⟨rfl, n, rfl⟩
        have hkd := Kp.of_drewN wr n
        obtain ⟨wp, hrun, hTp, hFp⟩ := (hkd.tbl HT.out).put (bs x) (bs tx) tblK_key Hnew.out.2 Hnew.out.1
        have Hfin := Lib.hid (And.intro ((HF.out.step (Fr.of_kp hkd) (by simp)).trans hFp) hTp)
        unfold bs at hrun
        clear hkd hc hTp hFp
        go_wp2_with fail
        (with_reducible refine (HS.out _).mono ?_)
        rintro e w4 ⟨rfl, rfl⟩
        go_wp2_with fail
        go_roundw
        case rel => exact ⟨k + 1, by omega, by go_num, Hfin.out.1, by rw [Hyes.out, List.map_append]; exact Hfin.out.2⟩
        case measure => simp [intOf]; omega
    · obtain rfl : k = 39 := by omega
      rw [tblK_all] at hT
      have Hfin := Lib.hid (And.intro (((Fr.of_kp Hk2.out).step hF (fun j hj => .inr (by simp at hj; have := Hr.out; omega))).kp) hT)
      clear hT hF
      go_wp2_with fail
      go_ret
      exact ⟨r, rfl, Hfin.out⟩
end Go.Proofs.YtbcjeemjpcidhaaDoor

namespace Go.Proofs.YtbcjeemjpcidhaaDoor
open Go.RowKit

abbrev Row := Q.Bt × (List Int × List Int) × List Q.Ln × Bool
/-- The row of the table that bears a name. -/
def rowOf (nm : Q.Bt) : Option Row := Q.tableL.find? (fun y => y.1 == nm)
theorem rowOf_none {nm : Q.Bt} (h : ∀ x ∈ tblQ, x.1 ≠ nm) : rowOf nm = none := by
  unfold rowOf
  rw [List.find?_eq_none]
  intro y hy hc
  have hm : y.1 ∈ tblQ.map (·.1) := by rw [tbl_names]; exact List.mem_map.2 ⟨y, hy, rfl⟩
  obtain ⟨x, hx, he⟩ := List.mem_map.1 hm
  exact h x hx (by rw [he]; exact beq_iff_eq.1 hc)
theorem find_uniq : ∀ {l : List Row} {y : Row}, (l.map (·.1)).Nodup → y ∈ l → l.find? (fun z => z.1 == y.1) = some y := by
  intro l
  induction l with
  | nil => intro y _ h; cases h
  | cons a r ih =>
    intro y hn h
    rw [List.map_cons, List.nodup_cons] at hn
    rw [List.find?_cons]
    rcases List.mem_cons.1 h with rfl | h
    · simp
    · have hne : a.1 ≠ y.1 := fun e => hn.1 (by rw [e]; exact List.mem_map.2 ⟨y, h, rfl⟩)
      rw [beq_eq_false_iff_ne.2 hne]
      exact ih hn.2 h
theorem rowOf_some {x : Q.Bt × Q.Bt} (hx : x ∈ tblQ) : ∃ y : Row, rowOf x.1 = some y ∧ y.1 = x.1 ∧ Q.readP x.2 = some (y.1, (⟨y.2.1.1, y.2.1.2, y.2.2.1, y.2.2.2⟩ : Q.Rd)) ∧ checkL y.2.1.1 y.2.1.2 y.2.2.1 = 0 := by
  have hm : (x.1, Q.readP x.2) ∈ tblQ.map (fun x => (x.1, Q.readP x.2)) := List.mem_map.2 ⟨x, hx, rfl⟩
  rw [tbl_read] at hm
  obtain ⟨y, hy, he⟩ := List.mem_map.1 hm
  simp only [Prod.mk.injEq] at he
  refine ⟨y, ?_, he.1, he.2.symm, ?_⟩
  · rw [← he.1]; exact find_uniq names_apart hy
  · have := List.all_eq_true.1 tbl_checked y hy
    simpa using this
/-- What is answered: a pattern in lists of the call's own, or none. -/
def FindPost (w : World) (nm : Q.Bt) (e : Ending) (w' : World) : Prop := Kp w w' ∧ match rowOf nm with
  | none => e = .returned (.tuple #[zeroP, .bool false])
  | some y => ∃ t0 t1 tl ts, e = .returned (.tuple #[.agg #[.string (bs y.1), tvv t0, tvv t1, tvv tl], .bool true]) ∧ PatO w' w.heap.size t0 t1 tl ts y.2.1.1 y.2.1.2 y.2.2.1
theorem FindPost.no {w w' : World} {nm : Q.Bt} (hk : Kp w w') (h : rowOf nm = none) : FindPost w nm (.returned (.tuple #[zeroP, .bool false])) w' := ⟨hk, by rw [h]⟩
theorem FindPost.yes {w w' : World} {nm : Q.Bt} {y : Row} {t0 t1 tl : Tv} {ts : List Tv} (hk : Kp w w') (h : rowOf nm = some y) (hp : PatO w' w.heap.size t0 t1 tl ts y.2.1.1 y.2.1.2 y.2.2.1) :
    FindPost w nm (.returned (.tuple #[.agg #[.string (bs y.1), tvv t0, tvv t1, tvv tl], .bool true])) w' := ⟨hk, by rw [h]; exact ⟨t0, t1, tl, ts, rfl, hp⟩⟩
set_option maxHeartbeats 2000000 in
theorem exec_load26 {w : World} {b : Nat} {s : ByteArray} {a0 a1 al : Option Addr} {n0 c0 n1 c1 nl cl : Nat} (h : Four w b (.string s) (.slice a0 n0 c0) (.slice a1 n1 c1) (.slice al nl cl)) {ρ : Operand → Value} {x : Operand} (hx : ρ x = .pointer (some ⟨b, 0, none⟩)) {o : Oper} (ho : o.op = .load 29 x) :
    (execOp ρ o).run Tryd.prog w = .ok (.value (.agg #[.string s, .slice a0 n0 c0, .slice a1 n1 c1, .slice al nl cl])) w := by
  obtain ⟨x0, x1, x2, x3, _, _, _, _⟩ := h
  simp only [execOp, ho, hx]
  go_simp
theorem parse_fine (s : Q.Bt) (nm : Q.Bt) (S : Q.Rd) (m : Int) (E : Nat → Addr) (ET : Addr) (w : World) (hm : MaxV w m) (hE : Errs w E) (hT : w.cell? ⟨2, 0, none⟩ = some (.iface 154 (.pointer (some ET)))) (hs : s.length ≤ 4096) (hr : Q.readP s = some (nm, S)) (hc : checkL S.b0 S.b1 S.ls = 0) :
    Calls Tryd.prog 28 #[.string (bs s)] w (fun e w' => Kp w w' ∧ ∃ t0 t1 tl ts, e = .returned (.tuple #[.agg #[.string (bs nm), tvv t0, tvv t1, tvv tl], .nilIface]) ∧ PatO w' w.heap.size t0 t1 tl ts S.b0 S.b1 S.ls) := by
  refine (parse_any (bs s) m E ET w hm hE hT).mono ?_
  rintro e w' ⟨hk, h⟩
  rw [bs_list, if_neg (by omega), hr] at h
  simp only [if_pos hc] at h
  exact ⟨hk, h⟩
attribute [local irreducible] tblK tblP tblQ Q.piecesB Q.tableB Q.tableL rowOf
set_option maxRecDepth 100000 in
set_option maxHeartbeats 8000000 in
theorem find_any (s : ByteArray) (m : Int) (E : Nat → Addr) (ET : Addr) (w : World) (hs : s.size ≤ maxLen) (hm : MaxV w m) (hE : Errs w E) (hT : w.cell? ⟨2, 0, none⟩ = some (.iface 154 (.pointer (some ET)))) : Calls Tryd.prog 13 #[.string s] w (FindPost w s.data.toList) := by
  have hk1 := Kp.new w (.cells #[.string ⟨#[]⟩, .slice none 0 0, .slice none 0 0, .slice none 0 0] 29)
  have HTb := Lib.hid (table_any m _ (hk1.maxV hm))
  go_enter Tryd.func13, Tryd.ntmps13
  go_wp2_with fail
  (with_reducible refine HTb.out.mono ?_)
  rintro e w2 ⟨r, rfl, hk2, hTl⟩
  have hk12 := Kp.trans hk1 hk2
  rcases hTl.get s (fun x hx => tblK_key (k := 39) x (by rw [tblK_all]; exact hx)) hs with ⟨hn, hrun⟩ | ⟨x, hx, hxe, hrun⟩
  · have hno : rowOf s.data.toList = none := rowOf_none (fun x hx hc => hn (bs2 x) (List.mem_map.2 ⟨x, hx, rfl⟩) (by unfold bs2; simp only; rw [hc, bs_data]))
    have Hno := Lib.hid hno
    have hk3 := Kp.new w2 (.cells #[.string ⟨#[]⟩] 48)
    have hP3 := ((Four.new w (.string ⟨#[]⟩) (.slice none 0 0) (.slice none 0 0) (.slice none 0 0) 29).kp hk2).kp hk3
    have Hk3 := Lib.hid (Kp.trans hk12 hk3)
    obtain ⟨b2, hb2⟩ : ∃ b2, b2 = w.heap.size := ⟨_, rfl⟩
    rw [← hb2] at hP3 ⊢
    have Hb2 := Lib.hid hb2
    obtain ⟨wf, hwf, hF, hPf⟩ := hP3.set (.string ⟨#[]⟩) (.slice none 0 0) (.slice none 0 0) (.slice none 0 0)
    obtain ⟨y0, y1, y2, y3, z0, z1, z2, z3⟩ := hP3
    obtain ⟨c0, c1, c2, c3, _, _, _, _⟩ := hPf
    have Hwf := Lib.hid hwf
    have HK := Lib.hid (((Fr.of_kp Hk3.out).step hF (fun j hj => .inr (by simp at hj; have := Hb2.out; omega))).kp)
    clear hn hno hTl hk3 hk12 hwf hF hb2 hE hm hT HTb
    go_wp2_with fail
    rw [← Hwf.out]
    show bodyPost Tryd.prog Tryd.f13 (FindPost w s.data.toList) .ret _ _
    refine bodyPost_ret (v := .tuple #[zeroP, .bool false]) (by simp [results, Tryd.results13, go_sem, c0, c1, c2, c3]) rfl ?_
    exact FindPost.no HK.out Hno.out
  · obtain ⟨q, hq, rfl⟩ := List.mem_map.1 hx
    obtain ⟨y, hy, hy1, hy2, hy3⟩ := rowOf_some hq
    have hsq : s.data.toList = q.1 := by rw [← hxe]; exact bs_list q.1
    rw [← hsq] at hy
    have hk3 := Kp.new w2 (.cells #[.string (bs q.2)] 48)
    have hk13 := Kp.trans hk12 hk3
    have HPa := Lib.hid (parse_fine q.2 y.1 ⟨y.2.1.1, y.2.1.2, y.2.2.1, y.2.2.2⟩ m E ET _ (hk13.maxV hm) (hk13.errs hE) (hk13.cell hT) (tblQ_short hq).2 hy2 hy3)
    have hP3 := ((Four.new w (.string ⟨#[]⟩) (.slice none 0 0) (.slice none 0 0) (.slice none 0 0) 29).kp hk2).kp hk3
    have Hk3 := Lib.hid hk13
    have Hy := Lib.hid hy
    unfold bs2 at hrun
    clear hq hy hy1 hy2 hy3 hsq hxe hk12 hk13 hk3 hTl hx hE hm hT HTb
    go_wp2_with fail
    (with_reducible refine HPa.out.mono ?_)
    rintro e w4 ⟨hk4, t0, t1, tl, ts, rfl, hO⟩
    unfold tvv
    have hk5 := Kp.new w4 (.cells #[.string (bs y.1), .slice t0.ao t0.n t0.c, .slice t1.ao t1.n t1.c, .slice tl.ao tl.n tl.c] 29)
    have hp5 := Four.new w4 (.string (bs y.1)) (.slice t0.ao t0.n t0.c) (.slice t1.ao t1.n t1.c) (.slice tl.ao tl.n tl.c) 29
    have hP5 := (hP3.kp hk4).kp hk5
    have hO5 := hO.kp hk5
    have Hk5 := Lib.hid (Kp.trans (Kp.trans Hk3.out hk4) hk5)
    have HP3 := Lib.hid hP3
    clear hP3 hO
    go_wp2_with fail
    change Code.wp _ _ _ _ (w4.alloc (.cells #[.string (bs y.1), .slice t0.ao t0.n t0.c, .slice t1.ao t1.n t1.c, .slice tl.ao tl.n tl.c] 29))
    have Hs := Lib.hid (show w.heap.size < w4.heap.size by have := hk4.size; have := World.block_lt_of_cell? _ _ HP3.out.c0; simp only at this; omega)
    have hOb := hO5.base (B' := w.heap.size + 1) (by have := World.block_lt_of_cell? _ _ HP3.out.c0; simp only at this; omega)
    generalize (w4.alloc (.cells #[.string (bs y.1), .slice t0.ao t0.n t0.c, .slice t1.ao t1.n t1.c, .slice tl.ao tl.n tl.c] 29)) = w5 at *
    obtain ⟨b2, hb2⟩ : ∃ b2, b2 = w.heap.size := ⟨_, rfl⟩
    obtain ⟨b6, hb6⟩ : ∃ b6, b6 = w4.heap.size := ⟨_, rfl⟩
    rw [← hb2] at hP5 ⊢
    rw [← hb6] at hp5 ⊢
    have hne : b2 ≠ b6 := by have := Hs.out; omega
    refine anyP_start (fun w => Four w b6 (.string (bs y.1)) (.slice t0.ao t0.n t0.c) (.slice t1.ao t1.n t1.c) (.slice tl.ao tl.n tl.c)) 4 (fun _ => True) (fun _ _ => False) (by kernel_rfl) (fun _ _ _ _ h => h.elim) ?_
    obtain ⟨wd, hwd⟩ : ∃ wd, wd = w5.drew := ⟨_, rfl⟩
    have hkd : Kp w5 wd := hwd ▸ (⟨rfl, rfl, rfl, Nat.le_refl _, fun _ _ => rfl⟩ : Kp w5 w5.drew)
    rw [← hwd]
    have hpd := hp5.kp hkd
    have hPd := hP5.kp hkd
    obtain ⟨wf, hwf, hF, hPf⟩ := hPd.set (.string (bs y.1)) (.slice t0.ao t0.n t0.c) (.slice t1.ao t1.n t1.c) (.slice tl.ao tl.n tl.c)
    have HSf := Lib.hid (hpd.fr hF (by simp; omega))
    have HOf := Lib.hid (((hOb.kp hkd).fr hF (fun j hj => .inl (by simp at hj; omega))).base (B' := w.heap.size) (by omega))
    have HK := Lib.hid (((Fr.of_kp (Kp.trans Hk5.out hkd)).step hF (fun j hj => .inr (by simp at hj; omega))).kp)
    obtain ⟨y0, y1, y2, y3, z0, z1, z2, z3⟩ := hPd
    obtain ⟨c0, c1, c2, c3, _, _, _, _⟩ := hPf
    have Hwf := Lib.hid hwf
    clear hwf hF hwd hkd hP5 hp5 hO5 hOb hk5 hk4 hb2 hb6
    refine anyP_take puts_true [1, 2] (by kernel_rfl) hpd ?_
    simp only [opsAt, List.getElem?_toArray, List.getElem?_cons_zero, List.getElem?_cons_succ]
    repeat (go_big_quiet_step (fail))
    refine wpQuiet_nil ?_
    refine anyP_load puts_true 0 23 (.agg #[.string (bs y.1), .slice t0.ao t0.n t0.c, .slice t1.ao t1.n t1.c, .slice tl.ao tl.n tl.c]) rfl rfl (by kernel_rfl) hpd (fun w h => exec_load26 h rfl rfl) ?_
    simp only [Act.put, List.setIfInBounds_toArray, List.set_cons_zero, List.set_cons_succ]
    refine anyP_one 3 (by kernel_rfl) ?_
    simp only [opsAt, List.getElem?_toArray, List.getElem?_cons_zero, List.getElem?_cons_succ]
    clear hpd
    go_wp2_with fail
    rw [← Hwf.out]
    refine ⟨fun _ => HSf.out, ?_⟩
    refine anyP_one 4 (by kernel_rfl) ?_
    simp only [opsAt, List.getElem?_toArray, List.getElem?_cons_zero, List.getElem?_cons_succ]
    clear y0 y1 y2 y3 z0 z1 z2 z3
    go_wp2_with fail
    refine ⟨fun h => absurd rfl h, ?_⟩
    refine anyP_end (by kernel_rfl) ?_
    go_wp2_with fail
    show bodyPost Tryd.prog Tryd.f13 (FindPost w s.data.toList) .ret _ _
    refine bodyPost_ret (v := .tuple #[.agg #[.string (bs y.1), tvv t0, tvv t1, tvv tl], .bool true]) (by simp [results, Tryd.results13, go_sem, c0, c1, c2, c3, tvv]) rfl ?_
    exact FindPost.yes HK.out Hy.out HOf.out
end Go.Proofs.YtbcjeemjpcidhaaDoor

namespace Go.Proofs.YtbcjeemjpcidhaaDoor
open Go.RowKit
open Go.WideElems (Fit rd rg)

/-- How a row reads: as nothing. -/
def rowR : Value → Option (DataW Unit × List MemPlace) := fun _ => some (.nil, [])
theorem rg_key {s : ByteArray} (hs : s.size ≤ maxLen) {e : MapEntry} (he : e.key = .string s) : rd Tryd.prog 9 rowR e = some (.string s.data.toList, .nil) ∧ rg Tryd.prog 9 rowR e = (.string s.data.toList, .nil) := by
  have h : rd Tryd.prog 9 rowR e = some (.string s.data.toList, .nil) := by
    unfold rd rowR
    rw [he, Go.WideMaps.keyOf_string_mk Tryd.underlying9 hs]
    rfl
  exact ⟨h, Go.WideElems.rg_of h⟩
theorem Tbl.keys {arr : Array MapEntry} {K : List (ByteArray × ByteArray)} (h : arr.toList.map (fun e => (e.key, e.val)) = K.map (fun x => (Value.string x.1, Value.agg #[.string x.2]))) : arr.toList.map (·.key) = K.map (fun x => Value.string x.1) := by
  have := congrArg (List.map Prod.fst) h
  rw [List.map_map, List.map_map] at this
  exact this
theorem Tbl.owns {w : World} {r : Nat} {K : List (ByteArray × ByteArray)} (h : Tbl w r K) (hs : ∀ x ∈ K, x.1.size ≤ maxLen) (hn : (K.map (·.1)).Nodup) (hl : K.length ≤ maxLen) :
    ∃ D : DataW Unit, w.ownsMap Tryd.prog 9 rowR r K.length D ∧ (strKeys D).Perm (K.map (·.1.data.toList)) ∧ Maps.size D = K.length := by
  obtain ⟨arr, clock, h1, h2, h3⟩ := h
  have hk := Tbl.keys h2
  have hlen : arr.toList.length = K.length := by have := congrArg List.length h2; simpa using this
  have hmem : ∀ e ∈ arr.toList, ∃ s : ByteArray, s.size ≤ maxLen ∧ e.key = .string s := fun e he => by
    have : e.key ∈ K.map (fun x => Value.string x.1) := by rw [← hk]; exact List.mem_map.2 ⟨e, he, rfl⟩
    obtain ⟨x, hx, hxe⟩ := List.mem_map.1 this
    exact ⟨x.1, hs x hx, hxe.symm⟩
  refine ⟨.map ((arr.toList.map (rg Tryd.prog 9 rowR)).foldr DataW.insert []), ⟨arr, clock, h1, ⟨by rw [← Array.length_toList, hlen]; exact hl, ⟨h3.1, h3.2, ?_⟩, fun e he => ?_⟩, by rw [← Array.length_toList, hlen]; exact Nat.le_refl _, rfl⟩, ?_, ?_⟩
  · rw [hk]
    have : K.map (fun x => Value.string x.1) = (K.map (·.1)).map Value.string := by rw [List.map_map]; rfl
    rw [this]
    exact List.pairwise_map.2 (hn.imp (fun hab e => hab (Value.string.inj e)))
  · obtain ⟨s, hs1, hs2⟩ := hmem e he
    exact ⟨_, (rg_key hs1 hs2).1⟩
  · show (((arr.toList.map (rg Tryd.prog 9 rowR)).foldr DataW.insert []).map fun p => strOf p.1).Perm _
    refine ((Go.WideShapes.sorted_perm _).map _).trans (List.Perm.of_eq ?_)
    rw [List.map_map]
    have e1 : ∀ e ∈ arr.toList, ((fun p : Lit × DataW Unit => strOf p.1) ∘ rg Tryd.prog 9 rowR) e = (fun v : Value => match v with | .string s => s.data.toList | _ => []) e.key := fun e he => by
      obtain ⟨s, hs1, hs2⟩ := hmem e he
      rw [hs2]
      simp only [Function.comp, (rg_key hs1 hs2).2]
      rfl
    rw [List.map_congr_left e1]
    have e2 := congrArg (List.map (fun v : Value => match v with | .string s => s.data.toList | _ => [])) hk
    rw [List.map_map, List.map_map] at e2
    exact e2
  · show ((arr.toList.map (rg Tryd.prog 9 rowR)).foldr DataW.insert []).length = _
    rw [Go.length_sorted, List.length_map, hlen]
/-- The names in order. -/
def namesS : List Q.Bt := (Q.tableL.map (·.1)).mergeSort (fun x y => decide (x ≤ y))
theorem namesS_length : namesS.length = Q.tableL.length := by simp [namesS]
theorem namesS_mem {x : Q.Bt} (h : x ∈ namesS) : ∃ y : Row, rowOf x = some y ∧ y.1 = x := by
  have h1 : x ∈ Q.tableL.map (·.1) := by simpa [namesS] using h
  rw [← tbl_names] at h1
  obtain ⟨q, hq, rfl⟩ := List.mem_map.1 h1
  obtain ⟨y, hy, hy1, _⟩ := rowOf_some hq
  exact ⟨y, hy, hy1⟩
theorem namesS_short {x : Q.Bt} (h : x ∈ namesS) : x.length ≤ 9 := by
  have h1 : x ∈ Q.tableL.map (·.1) := by simpa [namesS] using h
  rw [← tbl_names] at h1
  obtain ⟨q, hq, rfl⟩ := List.mem_map.1 h1
  exact (tblQ_short hq).1
theorem tblQ_keys : ((tblQ.map bs2).map (·.1)).Nodup := by
  rw [List.map_map]
  have : tblQ.map (Prod.fst ∘ bs2) = (tblQ.map (·.1)).map bs := by rw [List.map_map]; rfl
  rw [this, tbl_names]
  exact List.pairwise_map.2 (names_apart.imp (fun hab e => hab (bs_inj e)))
theorem tblQ_names : (tblQ.map bs2).map (·.1.data.toList) = Q.tableL.map (·.1) := by
  rw [← tbl_names, List.map_map]
  exact List.map_congr_left (fun x _ => bs_list x.1)
theorem tableL_len : Q.tableL.length = 38 := by decide
end Go.Proofs.YtbcjeemjpcidhaaDoor

namespace Go.Proofs.YtbcjeemjpcidhaaDoor
open Go.RowKit

theorem Own.value {w : World} {B : Nat} {e : TypeId} {sz n : Nat} {v : Value} {xs : List Value} (h : w.ownsRow B e sz v n xs) : ∃ ao c, v = .slice ao n c ∧ Own w B e sz ao n c xs := by
  obtain ⟨h1, h2⟩ := h
  rcases h2 with ⟨rfl, rfl⟩ | ⟨g, cap, cur, rfl, h3⟩
  · exact ⟨none, 0, rfl, h1, .inl ⟨rfl, rfl⟩⟩
  · exact ⟨_, cap, rfl, h1, .inr ⟨g, cap, cur, rfl, h3⟩⟩
attribute [local irreducible] tblK tblP tblQ Q.piecesB Q.tableB Q.tableL rowOf namesS
end Go.Proofs.YtbcjeemjpcidhaaDoor

namespace Go.Proofs.YtbcjeemjpcidhaaDoor
open Go.RowKit

attribute [local irreducible] tblK tblP tblQ Q.piecesB Q.tableB Q.tableL rowOf namesS
set_option maxRecDepth 100000 in
set_option maxHeartbeats 8000000 in
/-- A range over the table's iterator. N0: where the heap ends as the rounds begin; X: the blocks that a round may turn, besides those from N0 on. -/
theorem all_yield (l : Nat) (w : World) (m : Int) (E : Nat → Addr) (ET : Addr) (X : List Nat) (Inv : Nat → Nat → World → Prop) (Fin : World → Prop) (hX : ∀ x ∈ X, x < w.heap.size) (hm0 : MaxV w m)
    (hkp : ∀ N0 k v v', Inv N0 k v → Kp v v' → Inv N0 k v') (henv : ∀ N0 k v, Inv N0 k v → MaxV v m ∧ Errs v E ∧ v.cell? ⟨2, 0, none⟩ = some (.iface 154 (.pointer (some ET)))) (h0 : ∀ v, Kp w v → Inv v.heap.size 0 v)
    (hy : ∀ N0 k v (y : Row) t0 t1 tl ts, (hk : k < namesS.length) → rowOf namesS[k] = some y → y.1 = namesS[k] → Inv N0 k v → PatO v w.heap.size t0 t1 tl ts y.2.1.1 y.2.1.2 y.2.2.1 →
      YieldAt Fence.wide 2 Tryd.prog l #[.agg #[.string (bs y.1), tvv t0, tvv t1, tvv tl]] v fun e v' => ∃ b Y, e = .returned (.bool b) ∧ Fr Y v v' ∧ (∀ j ∈ Y, j ∈ X ∨ N0 ≤ j) ∧ (b = true → Inv N0 (k + 1) v') ∧ (b = false → Fin v'))
    (hend : ∀ N0 v, Inv N0 namesS.length v → Fin v) :
    Calls Tryd.prog 9 #[.func (.yield l) #[] #[]] w fun e w' => e = .returned (.tuple #[]) ∧ Fin w' := by
  have HTb := Lib.hid (table_any m w hm0)
  have HX := Lib.hid hX
  have HKp := Lib.hid hkp
  have HEnv := Lib.hid henv
  have HY := Lib.hid hy
  have HEnd := Lib.hid hend
  have H0 := Lib.hid h0
  clear hX hkp henv hy hend h0 hm0
  go_enter Tryd.func9, Tryd.ntmps9
  go_wp2_with fail
  (with_reducible refine HTb.out.mono ?_)
  rintro e w2 ⟨r, rfl, hk2, hT⟩
  obtain ⟨D, hD, hDp, hDs⟩ := hT.owns (fun x hx => tblK_key (k := 39) x (by rw [tblK_all]; exact hx)) tblQ_keys (by rw [List.length_map, ← List.length_map (f := (·.1)), tbl_names, List.length_map, tableL_len]; decide)
  have hKl : (tblQ.map bs2).length = 38 := by rw [List.length_map, ← List.length_map (f := (·.1)), tbl_names, List.length_map, tableL_len]
  rw [hKl] at hDs
  have HK := Lib.hid (callsIn_wide.1 (Tryd.maps_Keys_11 (some r) w2))
  have HS := Lib.hid (callsIn_wide.1 (Tryd.slices_Sorted_keys_10_11 r _ D _ w2 hD (by rw [hDs]; decide) (by rw [hDs]; decide)))
  have Hk2 := Lib.hid hk2
  have HDp := Lib.hid hDp
  clear hD hDs hT hk2 hKl hDp HTb
  go_wp2_with fail
  (with_reducible refine HK.out.mono ?_)
  rintro e w3 ⟨rfl, rfl⟩
  go_wp2_with fail
  (with_reducible refine HS.out.mono ?_)
  rintro e w4 ⟨v, ss, rfl, hperm, hO, hnil, hbel⟩
  obtain ⟨ao, c, rfl, hOw⟩ := Own.value hO
  clear hO hnil
  have hos : ss.mergeSort (fun x y => decide (x ≤ y)) = namesS := (mergeSort_of_perm (hperm.trans (HDp.out.trans (List.Perm.of_eq tblQ_names)))).trans (by unfold namesS; rfl)
  have hsl : ss.length = 38 := by rw [← List.length_mergeSort (le := fun x y => decide (x ≤ y)), hos, namesS_length, tableL_len]
  rw [hos, hsl] at hOw
  have HO := Lib.hid hOw
  have hk3 : Kp w w4 := Kp.trans (Kp.trans Hk2.out (Kp.new w2 _)) hbel
  have HI := Lib.hid (H0.out w4 hk3)
  obtain ⟨N0, hN0⟩ : ∃ N0, N0 = w4.heap.size := ⟨_, rfl⟩
  rw [← hN0] at HI
  have hB : w.heap.size ≤ (w2.alloc (.cells #[.map (some r)] 46)).heap.size := (Kp.trans Hk2.out (Kp.new w2 _)).size
  generalize (w2.alloc (.cells #[.map (some r)] 46)).heap.size = B at *
  obtain ⟨g, rfl⟩ := hOw.blockOf (by decide)
  have hBg : B ≤ g := (hOw.lt g rfl).1
  have hgN : g < N0 := by rw [hN0]; exact (hOw.lt g rfl).2
  clear hN0
  have hsz : w.heap.size ≤ w4.heap.size := hk3.size
  clear hperm hbel hos hOw hk3
  rw [hsl]
  clear hsl
  go_wp2_with fail
  go_loopw [10] (fun i wr => ∃ k : Nat, k ≤ 38 ∧ i = .int .i64 (k : Nat) ∧ Inv N0 k wr ∧ Own wr B 9 1 (some ⟨g, 0, none⟩) 38 c (namesS.map encStr) ∧ w.heap.size ≤ wr.heap.size) (fun i _ => 38 - (intOf i).toNat)
  case atStart => exact ⟨0, by omega, rfl, HI.out, HO.out, hsz⟩
  case round =>
    clear hsz
    obtain ⟨k, hk, rfl, hi, hO, hsz⟩ := hrel
    rename World => wr
    have Hi := Lib.hid hi
    have HO2 := Lib.hid hO
    by_cases hlt : k < 38
    · have hkl : k < namesS.length := by rw [namesS_length, tableL_len]; exact hlt
      have hcx := hO.cell k (by omega)
      have hget : (namesS.map encStr)[k]? = some (.string (bs namesS[k])) := by rw [List.getElem?_map, List.getElem?_eq_getElem hkl]; rfl
      rw [hget] at hcx
      obtain ⟨y, hy, hy1⟩ := namesS_mem (List.getElem_mem hkl)
      have hsh := namesS_short (List.getElem_mem hkl)
      obtain ⟨hm, hE, hT⟩ := HEnv.out N0 k wr hi
      have HF := Lib.hid (find_any (bs namesS[k]) m E ET wr (by rw [bs_size]; unfold maxLen; omega) hm hE hT)
      rw [bs_list] at HF
      have HYk := Lib.hid (fun v t0 t1 tl ts => HY.out N0 k v y t0 t1 tl ts hkl hy hy1)
      unfold FindPost at HF
      rw [hy] at HF
      have Hy := Lib.hid hy
      clear hi hO hget hy hy1 hm hE hT
      generalize namesS[k] = x at *
      go_wp2_with fail
      (with_reducible refine HF.out.mono ?_)
      rintro e w5 ⟨hk5, t0, t1, tl, ts, rfl, hP⟩
      have HYk2 := Lib.hid (HYk.out (w5.alloc (.cells #[.string (bs y.1), .slice t0.ao t0.n t0.c, .slice t1.ao t1.n t1.c, .slice tl.ao tl.n tl.c] 29)) t0 t1 tl ts (HKp.out N0 k wr _ Hi.out (Kp.trans hk5 (Kp.new w5 _))) ((hP.kp (Kp.new w5 _)).base hsz))
      have hk6 := Kp.trans hk5 (Kp.new w5 (.cells #[.string (bs y.1), .slice t0.ao t0.n t0.c, .slice t1.ao t1.n t1.c, .slice tl.ao tl.n tl.c] 29))
      have HO6 := Lib.hid (HO2.out.keep hk6)
      have hs6 := Nat.le_trans hsz hk6.size
      unfold tvv at HYk2 ⊢
      have hF6 := Four.new w5 (.string (bs y.1)) (.slice t0.ao t0.n t0.c) (.slice t1.ao t1.n t1.c) (.slice tl.ao tl.n tl.c) 29
      clear hP hk5 hk6 hsz
      go_upto_region 4 with fail
      generalize w5.alloc (.cells #[.string (bs y.1), .slice t0.ao t0.n t0.c, .slice t1.ao t1.n t1.c, .slice tl.ao tl.n tl.c] 29) = w6 at *
      generalize w5.heap.size = bp at *
      obtain ⟨x0, x1, x2, x3, _, _, _, _⟩ := hF6
      obtain ⟨fn, tmps, asg, bdy, hyy, hR⟩ := HYk2.out
      have HR := Lib.hid hR
      clear hR HYk2
      refine (wpIn_wide (n := 3)).1 ?_
      gi_wp2_with fail
      refine HR.out.mono ?_
      rintro e w7 ⟨b, Y, rfl, hf, hYX, hb1, hb0⟩
      have HX2 := HX.out
      have hO7 := hf.own HO6.out (fun x hx hq => by have h1 := mem_blkL_some.1 hx; rcases hYX _ hq with h2 | h2; (have := HX2 _ h2; omega); omega)
      have hs7 := Nat.le_trans hs6 hf.size
      clear HX2 hf hYX
      cases b with
      | true =>
        have HI7 := Lib.hid (hb1 rfl)
        clear hb0 hb1
        gi_wp2_with fail
        go_wp2_with fail
        go_roundw
        case rel => exact ⟨k + 1, by omega, by go_num, HI7.out, hO7, hs7⟩
        case measure => simp [intOf]; omega
      | false =>
        have HI7 := Lib.hid (hb0 rfl)
        clear hb0 hb1 hO7 hs7
        gi_wp2_with fail
        go_wp2_with fail
        refine bodyPost_ret (v := .tuple #[]) (by simp [results, Tryd.results9, go_sem]) rfl ?_
        exact ⟨rfl, HI7.out⟩
    · obtain rfl : k = 38 := by omega
      have hnl : namesS.length = 38 := by rw [namesS_length, tableL_len]
      rw [← hnl] at hi
      have HFi := Lib.hid (HEnd.out N0 wr hi)
      clear hi hO hsz
      go_wp2_with fail
      go_end0
      exact ⟨rfl, HFi.out⟩
end Go.Proofs.YtbcjeemjpcidhaaDoor

namespace Go.Proofs.YtbcjeemjpcidhaaDoor
open Go.RowKit

def cutAt (s : ByteArray) (c : UInt8) (k : Nat) : Bool := k == s.size || (s.data.toList.getD k 0 == c)
def splitTo (s : ByteArray) (c : UInt8) : Nat → List ByteArray × Nat
  | 0 => ([], 0)
  | k + 1 => if cutAt s c k then ((splitTo s c k).1 ++ [s.extract (splitTo s c k).2 k], k + 1) else splitTo s c k
def splitL (s : ByteArray) (c : UInt8) : List ByteArray := (splitTo s c (s.size + 1)).1
theorem splitTo_le (s : ByteArray) (c : UInt8) (k : Nat) : (splitTo s c k).2 ≤ k ∧ (splitTo s c k).1.length ≤ k := by
  induction k with
  | zero => exact ⟨Nat.le_refl _, Nat.le_refl _⟩
  | succ k ih =>
    unfold splitTo
    split
    · exact ⟨Nat.le_refl _, by simp; omega⟩
    · omega
theorem el100 : El Tryd.prog 41 9 (.string ⟨#[]⟩) 1 16 := ⟨Tryd.underlying41, by kernel_rfl, rfl, by decide, by decide⟩
def SplitPost (w : World) (ss : List ByteArray) (e : Ending) (w' : World) : Prop := Kp w w' ∧ ∃ ao n cap, e = .returned (.slice ao n cap) ∧ Strs w' ao n ss ∧ ∀ k ∈ blkL ao, w.heap.size ≤ k
theorem Own.strs {w : World} {base : Nat} {e : TypeId} {ao : Option Addr} {n cap : Nat} {ss : List ByteArray} (h : Own w base e 1 ao n cap (ss.map .string)) : Strs w ao n ss := by
  have hl := h.1
  refine ⟨by simpa using hl, ?_, h.cs⟩
  rcases h.2 with ⟨_, hn⟩ | ⟨g, cap', cur, hv, _, _, h1, h2, _⟩
  · omega
  · exact Nat.le_trans h1 h2

theorem getD_byte {s : ByteArray} {k : Nat} (h : k < s.size) : s.data.toList.getD k 0 = s[k]'h := by
  have h' : k < s.data.toList.length := by simpa using h
  rw [List.getD, List.getElem?_eq_getElem h']
  rfl
theorem byte_at {s : ByteArray} {c : UInt8} {k : Nat} (h : k < s.size) (hc : cutAt s c k = true) (hk : ¬ k = s.size) : (((s[k]'h).toNat : Int) == (c.toNat : Int)) = true := by
  unfold cutAt at hc
  rw [getD_byte h, Bool.or_eq_true, beq_iff_eq, beq_iff_eq] at hc
  rcases hc with hc | hc
  · exact absurd hc hk
  · rw [hc]; simp
theorem byte_not {s : ByteArray} {c : UInt8} {k : Nat} (h : k < s.size) (hc : cutAt s c k = false) : (((s[k]'h).toNat : Int) == (c.toNat : Int)) = false := by
  unfold cutAt at hc
  rw [getD_byte h, Bool.or_eq_false_iff] at hc
  have h2 : s[k]'h ≠ c := by simpa using hc.2
  cases hq : (((s[k]'h).toNat : Int) == (c.toNat : Int)) with
  | false => rfl
  | true => exact absurd (UInt8.toNat_inj.1 (by have := beq_iff_eq.1 hq; omega)) h2
set_option maxRecDepth 100000 in
set_option maxHeartbeats 4000000 in
theorem split_any (w : World) (s : ByteArray) (c : UInt8) (hs : s.size ≤ 1000) : Calls Tryd.prog 45 #[.string s, .int .u8 (c.toNat : Int)] w (SplitPost w (splitL s c)) := by
  have hc := c.toNat_lt
  go_enter Tryd.func45, Tryd.ntmps45
  go_wp2_with fail
  go_loopw [5, 6, 7] (fun l at_ i wr => ∃ k n cap p ao, k ≤ s.size + 1 ∧ i = .int .i64 (k : Nat) ∧ at_ = .int .i64 (p : Nat) ∧ p = (splitTo s c k).2 ∧ l = .slice ao n cap ∧ n ≤ k ∧ Own wr w.heap.size 9 1 ao n cap ((splitTo s c k).1.map .string) ∧ Kp w wr) (fun _ _ i _ => s.size + 1 - (intOf i).toNat)
  case atStart => exact ⟨0, 0, 0, 0, none, by omega, rfl, rfl, rfl, rfl, by omega, Own.nil _ _ _ _, Kp.refl _⟩
  case round =>
    obtain ⟨k, n, cap, p, ao, hk, rfl, rfl, hp, rfl, hn, hO, hkk⟩ := hrel
    have hle := (splitTo_le s c k).1
    rw [← hp] at hle
    have Hp := Lib.hid hp; clear hp
    by_cases hlt : k ≤ s.size
    · have hstep : splitTo s c (k + 1) = if cutAt s c k then ((splitTo s c k).1 ++ [s.extract p k], k + 1) else splitTo s c k := by
        rw [Hp.out]; rfl
      have Hstep := Lib.hid hstep; clear hstep
      cases hcut : cutAt s c k with
      | true =>
        have H1 := Lib.hid (show (splitTo s c (k + 1)).1 = (splitTo s c k).1 ++ [s.extract p k] by rw [Hstep.out, hcut]; rfl)
        have H2 := Lib.hid (show (splitTo s c (k + 1)).2 = k + 1 by rw [Hstep.out, hcut]; rfl)
        have Hz := Lib.hid (show ((splitTo s c (k + 1)).1.map Value.string) = (splitTo s c k).1.map Value.string ++ [.string (s.extract p k)] by rw [H1.out]; simp)
        by_cases hks : k = s.size
        · have hb : ((k : Int) == (s.size : Int)) = true := by simp [hks]
          clear hcut hks
          go_wp2_with (at_builtin; refine wpList_app rfl (.tmp 25) (.tmp 30) 41 rfl el100 w.heap.size rfl (hO.keep (Kp.new _ _)) rfl [.string (s.extract p k)] rfl (Cs.new wr [.string (s.extract p k)] 9 (0, 0)) (by simp [Value.oneCell']) (n + 1) rfl ((splitTo s c (k + 1)).1.map .string) Hz.out (by omega) (Nat.le_trans hkk.size (by simp)) ?_; intro ao2 cap2 w2 ha)
          have hk2 : Kp w w2 := kp_own hkk (Kp.new wr (.cells #[.string (s.extract p k)] 9)) (Nat.le_refl _) hO ha
          have hO2 := ha.own
          clear ha
          go_roundw
          case rel => exact ⟨k + 1, n + 1, cap2, k + 1, ao2, by omega, by go_num, by go_num, H2.out.symm, rfl, by omega, hO2, hk2⟩
          case measure => simp [intOf]; omega
        · have hk1 : k < s.size := by omega
          have hb : ((k : Int) == (s.size : Int)) = false := by simp; omega
          have hb2 : (((s[k]'hk1).toNat : Int) == (c.toNat : Int)) = true := byte_at hk1 hcut hks
          clear hcut hks
          go_wp2_with (at_builtin; refine wpList_app rfl (.tmp 25) (.tmp 30) 41 rfl el100 w.heap.size rfl (hO.keep (Kp.new _ _)) rfl [.string (s.extract p k)] rfl (Cs.new wr [.string (s.extract p k)] 9 (0, 0)) (by simp [Value.oneCell']) (n + 1) rfl ((splitTo s c (k + 1)).1.map .string) Hz.out (by omega) (Nat.le_trans hkk.size (by simp)) ?_; intro ao2 cap2 w2 ha)
          have hk2 : Kp w w2 := kp_own hkk (Kp.new wr (.cells #[.string (s.extract p k)] 9)) (Nat.le_refl _) hO ha
          have hO2 := ha.own
          clear ha
          go_roundw
          case rel => exact ⟨k + 1, n + 1, cap2, k + 1, ao2, by omega, by go_num, by go_num, H2.out.symm, rfl, by omega, hO2, hk2⟩
          case measure => simp [intOf]; omega
      | false =>
        have H1 := Lib.hid (show splitTo s c (k + 1) = splitTo s c k by rw [Hstep.out, hcut]; rfl)
        have hks : k ≠ s.size := fun h => by simp [cutAt, h] at hcut
        have hk1 : k < s.size := by omega
        have hb : ((k : Int) == (s.size : Int)) = false := by simp; omega
        have hb2 : (((s[k]'hk1).toNat : Int) == (c.toNat : Int)) = false := byte_not hk1 hcut
        clear hcut hks
        go_wp2_with fail
        go_roundw
        case rel => exact ⟨k + 1, n, cap, p, ao, by omega, by go_num, rfl, by rw [H1.out]; exact Hp.out, rfl, by omega, by rw [H1.out]; exact hO, hkk⟩
        case measure => simp [intOf]; omega
    · obtain rfl : k = s.size + 1 := by omega
      have hpost : SplitPost w (splitL s c) (.returned (.slice ao n cap)) wr := ⟨hkk, ao, n, cap, rfl, hO.strs, fun k hk => (hO.lt k (mem_blkL.1 hk)).1⟩
      have Hpost := Lib.hid hpost; clear hpost hO
      go_wp2_with fail
      go_ret
      exact Hpost.out
end Go.Proofs.YtbcjeemjpcidhaaDoor

namespace Go.Proofs.YtbcjeemjpcidhaaDoor
open Go.RowKit

def wordL (t : Nat) : ByteArray :=
  if t = 1 then ⟨#[101]⟩ else if t = 2 then ⟨#[115]⟩ else if t = 3 then ⟨#[101, 101]⟩ else if t = 4 then ⟨#[101, 115]⟩ else if t = 5 then ⟨#[115, 101]⟩ else if t = 6 then ⟨#[115, 115]⟩ else ⟨#[112, 115, 107]⟩
set_option maxHeartbeats 1000000 in
theorem word_any (w : World) (t : Nat) (h1 : 1 ≤ t) (h7 : t ≤ 7) : Calls Tryd.prog 69 #[iv (t : Int)] w fun e w' => e = .returned (.string (wordL t)) ∧ w' = w := by
  rcases (show t = 1 ∨ t = 2 ∨ t = 3 ∨ t = 4 ∨ t = 5 ∨ t = 6 ∨ t = 7 by omega) with rfl | rfl | rfl | rfl | rfl | rfl | rfl
  all_goals
    go_enter Tryd.func69, Tryd.ntmps69
    go_wp2
    go_ret
    exact ⟨rfl, rfl⟩

def tokOf (x : ByteArray) : Nat → List Int
  | 0 => []
  | j + 1 => tokOf x j ++ (if ((wordL (j + 1)).toList == x.toList) = true then [((j + 1 : Nat) : Int)] else [])
def tokL (s : ByteArray) : List Int := if s.size = 0 then [] else (splitL s 32).flatMap (tokOf · 7)
def RTokPost (w : World) (xs : List Int) (e : Ending) (w' : World) : Prop := Kp w w' ∧ ∃ ao n cap, e = .returned (.slice ao n cap) ∧ Is w' ao n xs ∧ n ≤ 7007 ∧ n ≤ cap ∧ ∀ k ∈ blkL ao, w.heap.size ≤ k ∧ k < w'.heap.size
theorem flatMap_take {α β : Type} (f : α → List β) (l : List α) (k : Nat) (h : k < l.length) : (l.take (k + 1)).flatMap f = (l.take k).flatMap f ++ f l[k] := by
  rw [take_step l k h, List.flatMap_append]; simp
theorem empty_iff (s : ByteArray) : s.toList.isEmpty = decide (s.size = 0) := by
  rw [ByteArray.toList_eq]
  show s.data.toList.isEmpty = decide (s.data.size = 0)
  rw [← Array.length_toList]
  cases s.data.toList <;> simp

set_option maxRecDepth 100000 in
set_option maxHeartbeats 4000000 in
theorem tokens_any (w : World) (s : ByteArray) (hs : s.size ≤ 1000) : Calls Tryd.prog 46 #[.string s] w (RTokPost w (tokL s)) := by
  by_cases h0 : s.size = 0
  · have hpost : RTokPost w (tokL s) (.returned (.slice none 0 0)) w := ⟨Kp.refl _, none, 0, 0, rfl, by unfold tokL; rw [if_pos h0]; exact Is.zero _ _, by omega, by omega, fun k hk => by simp [blkL, blk] at hk⟩
    have Hpost := Lib.hid hpost
    have hb : s.toList.isEmpty = true := by rw [empty_iff, h0]; rfl
    clear hpost h0
    go_enter Tryd.func46, Tryd.ntmps46
    go_wp2_with fail
    go_ret
    exact Hpost.out
  · have hb : s.toList.isEmpty = false := by rw [empty_iff]; simpa using h0
    have hsp := split_any w s 32 hs
    rw [show ((UInt8.toNat 32 : Nat) : Int) = 32 from rfl] at hsp
    have Hsp := Lib.hid hsp; clear hsp
    have HT := Lib.hid (show tokL s = (splitL s 32).flatMap (tokOf · 7) by unfold tokL; rw [if_neg h0])
    clear h0
    go_enter Tryd.func46, Tryd.ntmps46
    go_wp2_with fail
    (with_reducible refine Hsp.out.mono ?_)
    rintro e w1 ⟨hk1, bo, m, bc, rfl, hS, _⟩
    have hm : m ≤ 1001 := by rw [← hS.1]; have := (splitTo_le s 32 (s.size + 1)).2; unfold splitL; omega
    obtain ⟨ss, hss⟩ : ∃ ss, ss = splitL s 32 := ⟨_, rfl⟩
    rw [← hss] at hS HT
    clear hss
    have Hl := Lib.hid hS.1
    go_wp2_with fail
    go_loopw [3, 5] (fun l i wr => ∃ k n cap ao, k ≤ m ∧ i = .int .i64 (k : Nat) ∧ l = .slice ao n cap ∧ n ≤ 7 * k ∧ Own wr w1.heap.size 3 1 ao n cap (((ss.take k).flatMap (tokOf · 7)).map iv) ∧ Kp w1 wr) (fun _ i _ => m - (intOf i).toNat)
    case atStart => exact ⟨0, 0, 0, none, by omega, rfl, rfl, by omega, Own.nil _ _ _ _, Kp.refl _⟩
    case round =>
      obtain ⟨k, n, cap, ao, hk, rfl, rfl, hn, hO, hkk⟩ := hrel
      by_cases hlt : k < m
      · obtain ⟨b, off, rfl, hcc⟩ := hS.at k hlt
        have hck := hcc k hlt
        have hkl : k < ss.length := by rw [Hl.out]; exact hlt
        have hsucc := flatMap_take (tokOf · 7) ss k hkl
        clear hcc
        generalize ss[k]'hkl = x at hck hsucc
        have Hsucc := Lib.hid hsucc; clear hsucc
        have hO0 : Own wr w1.heap.size 3 1 ao n cap ((((ss.take k).flatMap (tokOf · 7)) ++ tokOf x 0).map iv) := by rw [show tokOf x 0 = [] from rfl, List.append_nil]; exact hO
        obtain ⟨X, hX⟩ : ∃ X, X = (ss.take k).flatMap (tokOf · 7) := ⟨_, rfl⟩
        rw [← hX] at hO0 Hsucc
        clear hX hO
        obtain ⟨wo, rfl⟩ : ∃ wo : World, wo = wr := ⟨_, rfl⟩
        go_wp2_with fail
        go_loopw [3, 6] (fun l i wr => ∃ j n cap ao, j ≤ 7 ∧ i = .int .i64 ((j + 1 : Nat) : Int) ∧ l = .slice ao n cap ∧ n ≤ 7 * k + j ∧ Own wr w1.heap.size 3 1 ao n cap ((X ++ tokOf x j).map iv) ∧ Kp w1 wr) (fun _ i _ => 8 - (intOf i).toNat)
        case atStart => exact ⟨0, n, cap, ao, by omega, rfl, rfl, by omega, hO0, hkk⟩
        case round =>
          clear hO0 hkk hn
          obtain ⟨j, n, cap, ao, hj, rfl, rfl, hn, hO, hkk⟩ := hrel
          have hck := Kp.cell hkk hck
          by_cases hj7 : j < 7
          · have Hstep := Lib.hid (show tokOf x (j + 1) = tokOf x j ++ (if ((wordL (j + 1)).toList == x.toList) = true then [((j + 1 : Nat) : Int)] else []) from rfl)
            have Hw := Lib.hid (show ∀ q, Calls Tryd.prog 69 #[iv ((j + 1 : Nat) : Int)] (wr.drewN q) fun e w' => e = .returned (.string (wordL (j + 1))) ∧ w' = wr.drewN q from fun q => word_any (wr.drewN q) (j + 1) (by omega) (by omega))
            cases hq : (wordL (j + 1)).toList == x.toList with
            | true =>
              have Hs2 := Lib.hid (show (X ++ tokOf x (j + 1)).map iv = (X ++ tokOf x j).map iv ++ [iv ((j : Int) + 1)] by rw [Hstep.out, hq]; simp)
              go_wp2_with fail
              go_quiet ((go_at_call 69; exact Calls.quiet_of_same (Hw.out _)))
              have hOq := hO.keep (Kp.of_drewN wr nq)
              have hkq := Kp.trans hkk (Kp.of_drewN wr nq)
              clear hO
              go_wp2_with (at_builtin; refine wpList_app rfl (.tmp 28) (.tmp 30) 25 rfl el22 w1.heap.size rfl (hOq.keep (Kp.new _ _)) rfl [iv ((j : Int) + 1)] rfl (Cs.new (wr.drewN nq) [iv ((j : Int) + 1)] 3 (0, 0)) (by simp [Value.oneCell']) (n + 1) rfl ((X ++ tokOf x (j + 1)).map iv) Hs2.out (by omega) (Nat.le_trans hkq.size (by simp)) ?_; intro ao2 cap2 w2 ha)
              have hk2 : Kp w1 w2 := kp_own hkq (Kp.new _ _) (Nat.le_refl _) hOq ha
              have hO2 := ha.own
              clear ha
              go_roundw
              case rel => exact ⟨j + 1, n + 1, cap2, ao2, by omega, by go_num, rfl, by omega, hO2, hk2⟩
              case measure => simp [intOf]; omega
            | false =>
              have Hs2 := Lib.hid (show tokOf x (j + 1) = tokOf x j by rw [Hstep.out, hq]; simp)
              go_wp2_with fail
              go_quiet ((go_at_call 69; exact Calls.quiet_of_same (Hw.out _)))
              have hOq := hO.keep (Kp.of_drewN wr nq)
              have hkq := Kp.trans hkk (Kp.of_drewN wr nq)
              clear hO
              go_wp2_with fail
              go_roundw
              case rel => exact ⟨j + 1, n, cap, ao, by omega, by go_num, rfl, by omega, by rw [Hs2.out]; exact hOq, hkq⟩
              case measure => simp [intOf]; omega
          · obtain rfl : j = 7 := by omega
            have hfin : Own wr w1.heap.size 3 1 ao n cap (((ss.take (k + 1)).flatMap (tokOf · 7)).map iv) := by rw [Hsucc.out]; exact hO
            have Hfin := Lib.hid hfin
            clear hfin hO
            go_wp2_with fail
            go_roundw
            case rel => exact ⟨k + 1, n, cap, ao, by omega, by go_num, rfl, by omega, Hfin.out, hkk⟩
            case measure => simp [intOf]; omega
      · obtain rfl : k = ss.length := by rw [Hl.out]; omega
        rw [List.take_of_length_le (Nat.le_refl _), ← HT.out] at hO
        have hpost : RTokPost w (tokL s) (.returned (.slice ao n cap)) wr := ⟨Kp.trans hk1 hkk, ao, n, cap, rfl, hO.is, by omega, hO.cap, fun k hk => ⟨Nat.le_trans hk1.size (hO.lt k (mem_blkL.1 hk)).1, (hO.lt k (mem_blkL.1 hk)).2⟩⟩
        have Hpost := Lib.hid hpost
        clear hpost hO
        have hml : m = ss.length := Hl.out.symm
        subst hml
        go_wp2_with fail
        go_ret
        exact Hpost.out
end Go.Proofs.YtbcjeemjpcidhaaDoor

namespace Go.Proofs.YtbcjeemjpcidhaaDoor
open Go.RowKit

/-- The rows of the table, as texts. -/
def rowsL : List ByteArray := [⟨#[73, 49, 75, 124, 124, 115, 124, 101, 32, 101, 115, 32, 115, 59, 101, 32, 101, 101, 59, 115, 101]⟩, ⟨#[73, 49, 75, 49, 124, 124, 115, 124, 101, 32, 115, 59, 101, 32, 101, 101, 32, 101, 115, 59, 115, 101]⟩, ⟨#[73, 49, 78, 124, 124, 124, 101, 32, 115, 59, 101, 32, 101, 101, 59, 115, 101]⟩, ⟨#[73, 49, 88, 124, 124, 124, 101, 32, 115, 59, 101, 32, 101, 101, 32, 115, 32, 101, 115, 59, 115, 101]⟩, ⟨#[73, 49, 88, 49, 124, 124, 124, 101, 32, 115, 59, 101, 32, 101, 101, 32, 115, 59, 115, 101, 32, 101, 115]⟩, ⟨#[73, 75, 124, 124, 115, 124, 101, 32, 101, 115, 32, 115, 32, 115, 115, 59, 101, 32, 101, 101, 32, 115, 101]⟩, ⟨#[73, 75, 49, 124, 124, 115, 124, 101, 32, 115, 59, 101, 32, 101, 101, 32, 115, 101, 32, 101, 115]⟩, ⟨#[73, 78, 124, 124, 124, 101, 32, 115, 59, 101, 32, 101, 101, 32, 115, 101]⟩, ⟨#[73, 88, 124, 124, 124, 101, 32, 115, 59, 101, 32, 101, 101, 32, 115, 101, 32, 115, 32, 101, 115]⟩, ⟨#[73, 88, 49, 124, 124, 124, 101, 32, 115, 59, 101, 32, 101, 101, 32, 115, 101, 32, 115, 59, 101, 115]⟩, ⟨#[75, 124, 115, 124, 115, 124, 101, 32, 101, 115, 32, 115, 115]⟩, ⟨#[75, 49, 75, 124, 115, 124, 115, 124, 101, 32, 101, 115, 59, 101, 32, 101, 101, 59, 115, 101]⟩, ⟨#[75, 49, 75, 49, 124, 115, 124, 115, 124, 101, 59, 101, 32, 101, 101, 32, 101, 115, 59, 115, 101]⟩, ⟨#[75, 49, 78, 124, 115, 124, 124, 101, 59, 101, 32, 101, 101, 59, 115, 101]⟩, ⟨#[75, 49, 88, 124, 115, 124, 124, 101, 59, 101, 32, 101, 101, 32, 115, 32, 101, 115, 59, 115, 101]⟩, ⟨#[75, 49, 88, 49, 124, 115, 124, 124, 101, 59, 101, 32, 101, 101, 32, 115, 59, 115, 101, 32, 101, 115]⟩, ⟨#[75, 75, 124, 115, 124, 115, 124, 101, 32, 101, 115, 32, 115, 115, 59, 101, 32, 101, 101, 32, 115, 101]⟩, ⟨#[75, 75, 49, 124, 115, 124, 115, 124, 101, 59, 101, 32, 101, 101, 32, 115, 101, 32, 101, 115]⟩, ⟨#[75, 78, 124, 115, 124, 124, 101, 59, 101, 32, 101, 101, 32, 115, 101]⟩, ⟨#[75, 88, 124, 115, 124, 124, 101, 59, 101, 32, 101, 101, 32, 115, 101, 32, 115, 32, 101, 115]⟩, ⟨#[75, 88, 49, 124, 115, 124, 124, 101, 59, 101, 32, 101, 101, 32, 115, 101, 32, 115, 59, 101, 115]⟩, ⟨#[78, 124, 124, 115, 124, 101, 32, 101, 115]⟩, ⟨#[78, 75, 124, 124, 115, 124, 101, 32, 101, 115, 59, 101, 32, 101, 101]⟩, ⟨#[78, 75, 49, 124, 124, 115, 124, 101, 59, 101, 32, 101, 101, 32, 101, 115]⟩, ⟨#[78, 78, 124, 124, 124, 101, 59, 101, 32, 101, 101]⟩, ⟨#[78, 88, 124, 124, 124, 101, 59, 101, 32, 101, 101, 32, 115, 32, 101, 115]⟩, ⟨#[78, 88, 49, 124, 124, 124, 101, 59, 101, 32, 101, 101, 32, 115, 59, 101, 115]⟩, ⟨#[88, 124, 124, 115, 124, 101, 32, 101, 115, 32, 115, 32, 115, 115]⟩, ⟨#[88, 49, 75, 124, 124, 115, 124, 101, 32, 101, 115, 59, 101, 32, 101, 101, 59, 115, 59, 115, 101]⟩, ⟨#[88, 49, 75, 49, 124, 124, 115, 124, 101, 59, 101, 32, 101, 101, 32, 101, 115, 59, 115, 59, 115, 101]⟩, ⟨#[88, 49, 78, 124, 124, 124, 101, 59, 101, 32, 101, 101, 59, 115, 59, 115, 101]⟩, ⟨#[88, 49, 88, 124, 124, 124, 101, 59, 101, 32, 101, 101, 32, 115, 32, 101, 115, 59, 115, 59, 115, 101]⟩, ⟨#[88, 49, 88, 49, 124, 124, 124, 101, 59, 101, 32, 101, 101, 32, 115, 59, 101, 115, 32, 115, 59, 115, 101]⟩, ⟨#[88, 75, 124, 124, 115, 124, 101, 32, 101, 115, 59, 101, 32, 101, 101, 59, 115, 32, 115, 101]⟩, ⟨#[88, 75, 49, 124, 124, 115, 124, 101, 59, 101, 32, 101, 101, 32, 101, 115, 59, 115, 32, 115, 101]⟩, ⟨#[88, 78, 124, 124, 124, 101, 59, 101, 32, 101, 101, 59, 115, 32, 115, 101]⟩, ⟨#[88, 88, 124, 124, 124, 101, 59, 101, 32, 101, 101, 32, 115, 32, 101, 115, 59, 115, 32, 115, 101]⟩, ⟨#[88, 88, 49, 124, 124, 124, 101, 59, 101, 32, 101, 101, 32, 115, 59, 101, 115, 32, 115, 32, 115, 101]⟩]
theorem rowsL_length : rowsL.length = 38 := rfl
def RowsPost (w : World) (e : Ending) (w' : World) : Prop := Kp w w' ∧ ∃ b, e = .returned (.slice (some ⟨b, 0, none⟩) 38 38) ∧ Strs w' (some ⟨b, 0, none⟩) 38 rowsL

set_option maxRecDepth 100000 in
set_option maxHeartbeats 4000000 in
theorem rows_any (w : World) : Calls Tryd.prog 44 #[] w (RowsPost w) := by
  have hpost : RowsPost w (.returned (.slice (some ⟨w.heap.size, 0, none⟩) 38 38)) (w.alloc (.cells (rowsL.map Value.string).toArray 9)) := ⟨Kp.new _ _, w.heap.size, rfl, rfl, by unfold maxLen; omega, Cs.new w (rowsL.map Value.string) 9 (0, 0)⟩
  have Hpost := Lib.hid hpost; clear hpost
  go_enter Tryd.func44, Tryd.ntmps44
  go_wp2_with fail
  go_ret
  exact Hpost.out
end Go.Proofs.YtbcjeemjpcidhaaDoor

namespace Go.Proofs.YtbcjeemjpcidhaaDoor
open Go.RowKit

/-- A text's parts, its lines, and what a row holds. -/
def partL (r : ByteArray) (j : Nat) : ByteArray := (splitL r 124).getD j ⟨#[]⟩
def lineL (l : List ByteArray) (k : Nat) : List Ln := l.mapIdx fun i x => (((k + i) % 2 : Nat), tokL x)
def rowLs (r : ByteArray) : List Ln := lineL (splitL (partL r 3) 59) 0
/-- No part of a row is long. -/
def rowOk (r : ByteArray) : Bool := (splitL r 124).length == 4 && decide (r.size ≤ 1000) && decide ((partL r 1).size ≤ 1000) && decide ((partL r 2).size ≤ 1000) && decide ((partL r 3).size ≤ 1000) && ((splitL (partL r 3) 59).all fun x => decide (x.size ≤ 1000)) && decide ((splitL (partL r 3) 59).length ≤ 1000)
theorem rows_ok : (rowsL.all rowOk) = true := by kernel_rfl
/-- Tokens, as the kernel reckons them. -/
def tokQ (x : ByteArray) : Nat → List Int
  | 0 => []
  | j + 1 => tokQ x j ++ (if ((wordL (j + 1)).data.toList == x.data.toList) = true then [((j + 1 : Nat) : Int)] else [])
theorem tokOf_q (x : ByteArray) (j : Nat) : tokOf x j = tokQ x j := by
  induction j with
  | zero => rfl
  | succ j ih => unfold tokOf tokQ; rw [ih, ByteArray.toList_eq, ByteArray.toList_eq]
def tokLQ (s : ByteArray) : List Int := if s.size = 0 then [] else (splitL s 32).flatMap (tokQ · 7)
theorem tokL_q (s : ByteArray) : tokL s = tokLQ s := by
  unfold tokL tokLQ
  have : (fun x => tokOf x 7) = fun x => tokQ x 7 := funext fun x => tokOf_q x 7
  rw [this]
def rowLsQ (r : ByteArray) : List Ln := (splitL (partL r 3) 59).mapIdx fun i x => (((0 + i) % 2 : Nat), tokLQ x)
theorem rowLs_q (r : ByteArray) : rowLs r = rowLsQ r := by
  unfold rowLs lineL rowLsQ
  congr 1
  funext i x
  rw [tokL_q]
end Go.Proofs.YtbcjeemjpcidhaaDoor

namespace Go.Proofs.YtbcjeemjpcidhaaDoor
open Go.RowKit

/-- It holds, and goes on to hold when only the blocks of X change. -/
def Sta (w : World) (X : List Nat) (P : World → Prop) : Prop := ∀ w', Fr X w w' → P w'
theorem Sta.now {w : World} {X : List Nat} {P : World → Prop} (h : Sta w X P) : P w := h w (Fr.refl _ _)
theorem Sta.step {a b : World} {X Y Z : List Nat} {P : World → Prop} (h : Sta a X P) (k : Fr Y a b) (hY : ∀ j ∈ Y, j ∈ X ∨ a.heap.size ≤ j) (hZ : ∀ j ∈ Z, j ∈ X ∨ a.heap.size ≤ j) : Sta b Z P := fun w' k' =>
  h w' (((Fr.refl X a).step k hY).step k' hZ)
theorem Sta.kp {a b : World} {X : List Nat} {P : World → Prop} (h : Sta a X P) (k : Kp a b) : Sta b X P := h.step (Fr.of_kp k) (by simp) (fun _ hj => .inl hj)
theorem Sta.new {w : World} {ao : Option Addr} {n : Nat} {xs : List Int} {X : List Nat} (h : Is w ao n xs) (hX : ∀ k ∈ blkL ao, k ∉ X) : Sta w X (fun w => Is w ao n xs) := fun _ k => ⟨h.1, h.2.1, k.cs h.2.2 hX⟩
/-- Messages of the call's own, each with a list of its own; the blocks of X may change. -/
def LnO (w : World) (B : Nat) (X : List Nat) (ao : Option Addr) (n cap : Nat) (ls : List Ln) : Prop :=
  ls.length = n ∧ ∃ ts : List Tv, ts.length = ls.length ∧ Own w B 60 2 ao n cap (lnc ls ts) ∧ ∀ (j : Nat) (h : j < ls.length) (h' : j < ts.length), ts[j].n ≤ 7007 ∧ Sta w (blkL ao ++ X) (fun w => Is w ts[j].ao ts[j].n ls[j].2)
theorem LnO.nil (w : World) (B : Nat) (X : List Nat) : LnO w B X none 0 0 [] := ⟨rfl, [], rfl, Own.nil _ _ _ _, fun j h => by simp at h⟩
theorem LnO.lns {w : World} {B : Nat} {X : List Nat} {ao : Option Addr} {n cap : Nat} {ls : List Ln} (h : LnO w B X ao n cap ls) (hn : n ≤ 140737488351232) : Lns w ao n ls := by
  obtain ⟨h1, ts, h2, h3, h4⟩ := h
  refine ⟨h1, hn, fun j hj => ?_⟩
  obtain ⟨b, off, rfl, hc⟩ := h3.cs.at (j * 2) (by rw [lnc_length h2]; omega)
  obtain ⟨g0, g1⟩ := lnc_get h2 j hj
  obtain ⟨q1, q2⟩ := h4 j hj (by omega)
  exact ⟨b, off, _, _, _, rfl, hc _ _ g0, by have := hc _ _ g1; rwa [← Nat.add_assoc] at this, q2.now, by omega⟩
/-- The messages hold on while the blocks of X change. -/
theorem LnO.sta {w : World} {B : Nat} {X Y : List Nat} {ao : Option Addr} {n cap : Nat} {ls : List Ln} (h : LnO w B X ao n cap ls) (hn : n ≤ 140737488351232) (hY : ∀ j ∈ Y, j ∈ X) (hB : ∀ j ∈ Y, j ∉ blkL ao) : Sta w Y (fun w => Lns w ao n ls) := by
  intro w' k
  obtain ⟨h1, ts, h2, h3, h4⟩ := h
  refine LnO.lns (X := []) (B := B) (cap := cap) ⟨h1, ts, h2, k.own h3 (fun j hj hj2 => hB j hj2 hj), fun j hj hj' => ⟨(h4 j hj hj').1, ?_⟩⟩ hn
  exact (h4 j hj hj').2.step k (fun i hi => .inl (List.mem_append.2 (.inr (hY i hi)))) (fun i hi => .inl (List.mem_append.2 (.inl (by simpa using hi))))
theorem LnO.keep {w w' : World} {B : Nat} {X Y : List Nat} {ao : Option Addr} {n cap : Nat} {ls : List Ln} (h : LnO w B X ao n cap ls) (k : Fr Y w w') (hY : ∀ j ∈ Y, j ∈ X ∨ w.heap.size ≤ j) (hB : ∀ j ∈ Y, j ∉ blkL ao) : LnO w' B X ao n cap ls := by
  obtain ⟨h1, ts, h2, h3, h4⟩ := h
  exact ⟨h1, ts, h2, k.own h3 (fun j hj hj2 => hB j hj2 hj), fun j hj hj' => ⟨(h4 j hj hj').1, (h4 j hj hj').2.step k (fun i hi => (hY i hi).imp (fun q => List.mem_append.2 (.inr q)) id) (fun i hi => .inl hi)⟩⟩
/-- One more message. -/
theorem LnO.app {a w w' : World} {B : Nat} {X : List Nat} {ao ao' : Option Addr} {n cap cap' N : Nat} {ls : List Ln} (h : LnO a B X ao n cap ls) (ts : List Tv) (h2 : ts.length = ls.length) (h4 : ∀ (j : Nat) (h : j < ls.length) (h' : j < ts.length), ts[j].n ≤ 7007 ∧ Sta a (blkL ao ++ X) (fun w => Is w ts[j].ao ts[j].n ls[j].2))
    (k : Kp a w) (l : Ln) (t : Tv) (ht : Is w t.ao t.n l.2) (htn : t.n ≤ 7007) (hX : ∀ j ∈ blkL t.ao, j < w.heap.size ∧ j ∉ blkL ao ++ X) (hN : N = n + 1)
    (ha : Appd w w' B 60 2 ao cap 1 N (lnc (ls ++ [l]) (ts ++ [t])) ao' cap') : LnO w' B X ao' N cap' (ls ++ [l]) := by
  have hf := ha.fr
  have hb' : ∀ j ∈ blkL ao', j ∈ blkL ao ∨ j = w.heap.size := fun j hj => by
    rcases ha.fresh j (mem_blkL.1 hj) with q | q
    · exact .inl (mem_blkL.2 q)
    · exact .inr q
  have hsz := k.size
  refine ⟨by rw [List.length_append, h.1, hN]; rfl, ts ++ [t], by simp [h2], ha.own, fun j hj hj' => ?_⟩
  by_cases hlt : j < ls.length
  · rw [List.getElem_append_left hlt, List.getElem_append_left (by omega)]
    refine ⟨(h4 j hlt (by omega)).1, ((h4 j hlt (by omega)).2.kp k).step hf (fun i hi => .inl (List.mem_append.2 (.inl hi))) (fun i hi => ?_)⟩
    rcases List.mem_append.1 hi with q | q
    · rcases hb' i q with q | q
      · exact .inl (List.mem_append.2 (.inl q))
      · exact .inr (by omega)
    · exact .inl (List.mem_append.2 (.inr q))
  · have hje : j = ls.length := by simp at hj; omega
    subst hje
    rw [List.getElem_concat_length rfl]
    have : (ts ++ [t])[ls.length]'hj' = t := by simp [← h2]
    rw [this]
    refine ⟨htn, Sta.step (Sta.new ht (fun i hi => (hX i hi).2)) hf (fun i hi => .inl (List.mem_append.2 (.inl hi))) (fun i hi => ?_)⟩
    rcases List.mem_append.1 hi with q | q
    · rcases hb' i q with q | q
      · exact .inl (List.mem_append.2 (.inl q))
      · exact .inr (by omega)
    · exact .inl (List.mem_append.2 (.inr q))

/-- A pattern among the cells of a list. -/
structure Pv where
  nm : ByteArray
  b0 : Tv
  b1 : Tv
  ls : Tv
def pvc (p : Pv) : List Value := [.string p.nm, tvv p.b0, tvv p.b1, tvv p.ls]
theorem pvc_len (ps : List Pv) : (ps.flatMap pvc).length = ps.length * 4 := by
  induction ps with
  | nil => rfl
  | cons p r ih => simp only [List.flatMap_cons, List.length_append, ih, List.length_cons, pvc, List.length_nil]; omega
theorem pvc_get (ps : List Pv) (j : Nat) (h : j < ps.length) : (ps.flatMap pvc)[j * 4]? = some (.string ps[j].nm) ∧ (ps.flatMap pvc)[j * 4 + 1]? = some (tvv ps[j].b0) ∧ (ps.flatMap pvc)[j * 4 + 2]? = some (tvv ps[j].b1) ∧ (ps.flatMap pvc)[j * 4 + 3]? = some (tvv ps[j].ls) := by
  induction ps generalizing j with
  | nil => simp at h
  | cons p r ih =>
    rw [List.flatMap_cons]
    rcases j with _ | j
    · exact ⟨rfl, rfl, rfl, rfl⟩
    · have := ih j (by simpa using h)
      simp only [List.getElem_cons_succ]
      rw [show (j + 1) * 4 = j * 4 + 4 by omega]
      have e : ∀ i, (pvc p ++ r.flatMap pvc)[i + 4]? = (r.flatMap pvc)[i]? := fun i => by
        rw [List.getElem?_append_right (by simp [pvc])]
        rfl
      rw [show j * 4 + 4 + 1 = j * 4 + 1 + 4 by omega, show j * 4 + 4 + 2 = j * 4 + 2 + 4 by omega, show j * 4 + 4 + 3 = j * 4 + 3 + 4 by omega, e, e, e, e]
      exact this
/-- A pattern's lists read what its row says. -/
def PvR (r : ByteArray) (p : Pv) (w : World) : Prop := p.b0.n ≤ 7007 ∧ p.b1.n ≤ 7007 ∧ p.ls.n ≤ 7007 ∧ Is w p.b0.ao p.b0.n (tokL (partL r 1)) ∧ Is w p.b1.ao p.b1.n (tokL (partL r 2)) ∧ Lns w p.ls.ao p.ls.n (rowLs r)
/-- The first k patterns of the table, in a list of the call's own. -/
def PvO (w : World) (B : Nat) (X : List Nat) (ao : Option Addr) (n cap : Nat) (k : Nat) : Prop :=
  n = k ∧ ∃ ps : List Pv, ps.length = k ∧ Own w B 29 4 ao n cap (ps.flatMap pvc) ∧ ∀ (j : Nat) (h : j < ps.length) (r : ByteArray), rowsL[j]? = some r → ps[j].nm = partL r 0 ∧ Sta w (blkL ao ++ X) (PvR r ps[j])
theorem PvO.nil (w : World) (B : Nat) (X : List Nat) : PvO w B X none 0 0 0 := ⟨rfl, [], rfl, Own.nil _ _ _ _, fun j h => by simp at h⟩
theorem PvO.app {a w w' : World} {B : Nat} {X : List Nat} {ao ao' : Option Addr} {n cap cap' N k : Nat} (ps : List Pv) (h1 : n = k) (h2 : ps.length = k) (h4 : ∀ (j : Nat) (h : j < ps.length) (r : ByteArray), rowsL[j]? = some r → ps[j].nm = partL r 0 ∧ Sta a (blkL ao ++ X) (PvR r ps[j]))
    (hk : Kp a w) (p : Pv) (r : ByteArray) (hr : rowsL[k]? = some r) (hnm : p.nm = partL r 0) (hp : Sta w (blkL ao ++ X) (PvR r p)) (hN : N = n + 1)
    (ha : Appd w w' B 29 4 ao cap 1 N ((ps ++ [p]).flatMap pvc) ao' cap') : PvO w' B X ao' N cap' (k + 1) := by
  have hf := ha.fr
  have hb' : ∀ j ∈ blkL ao' ++ X, j ∈ blkL ao ++ X ∨ w.heap.size ≤ j := fun j hj => by
    rcases List.mem_append.1 hj with hj | hj
    · rcases ha.fresh j (mem_blkL.1 hj) with q | q
      · exact .inl (List.mem_append.2 (.inl (mem_blkL.2 q)))
      · exact .inr (by omega)
    · exact .inl (List.mem_append.2 (.inr hj))
  refine ⟨by omega, ps ++ [p], by simp [h2], ha.own, fun j hj r' hr' => ?_⟩
  by_cases hlt : j < ps.length
  · rw [List.getElem_append_left hlt]
    obtain ⟨q1, q2⟩ := h4 j hlt r' hr'
    exact ⟨q1, (q2.kp hk).step hf (fun i hi => .inl (List.mem_append.2 (.inl hi))) hb'⟩
  · have hje : j = ps.length := by simp at hj; omega
    subst hje
    rw [h2] at hr'
    rw [hr] at hr'
    cases hr'
    rw [List.getElem_concat_length rfl]
    exact ⟨hnm, hp.step hf (fun i hi => .inl (List.mem_append.2 (.inl hi))) hb'⟩
theorem el80 : El Tryd.prog 89 29 (.agg #[.string ⟨#[]⟩, .slice none 0 0, .slice none 0 0, .slice none 0 0]) 4 88 := ⟨Tryd.underlying89, by kernel_rfl, rfl, by decide, by decide⟩
end Go.Proofs.YtbcjeemjpcidhaaDoor
