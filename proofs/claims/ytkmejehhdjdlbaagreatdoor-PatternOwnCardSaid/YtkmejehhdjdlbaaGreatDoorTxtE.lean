/- A pattern's text, read. Conditions: it is shorter than the library's bound; the library's variable lies there. -/
import Derived.Test.YtkmejehhdjdlbaaGreatDoorPo4
import Derived.Test.YtkmejehhdjdlbaaGreatDoorPo1
namespace Go.Proofs.YtkmejehhdjdlbaaGreatDoor
open Go.RowKit

/-- What reading a text leaves: a pattern in lists of the call's own, or none. -/
def ReadPost (w : World) (s : Q.Bt) (e : Ending) (w' : World) : Prop := Kp w w' ∧ match Q.readP s with
  | some (nm, S) => ∃ t0 t1 tl ts, e = .returned (.tuple #[.agg #[.string (bs nm), tvv t0, tvv t1, tvv tl], .bool true]) ∧ PatO w' w.heap.size t0 t1 tl ts S.b0 S.b1 S.ls
  | none => e = .returned (.tuple #[.agg #[.string ⟨#[]⟩, .slice none 0 0, .slice none 0 0, .slice none 0 0], .bool false])
abbrev dfr (bP bK : Nat) : Deferred := { target := Target.fn (Fn.func 104) #[.pointer (some ⟨bP, 0, none⟩), .pointer (some ⟨bK, 0, none⟩)], args := #[] }
theorem read_bad (w w' : World) (s : Q.Bt) (bP bK : Nat) (hne : bP ≠ bK) {x y z u v : Value} (hP : Four w' bP x y z u) (hK : One1 w' bK v) (hk : Kp w w') (hbP : w.heap.size ≤ bP) (hbK : w.heap.size ≤ bK) (hn : Q.readP s = none)
    (tmps : Array Value) (h2 : tmps[2]? = some (.pointer (some ⟨bP, 0, none⟩))) (h3 : tmps[3]? = some (.pointer (some ⟨bK, 0, none⟩))) :
    bodyPostD Tryz.prog Tryz.f70 (ReadPost w s) (Exit.panic badC) { tmps := tmps, defers := [dfr bP bK] } w' := by
  refine leaves_cons (f := 104) (args := #[.pointer (some ⟨bP, 0, none⟩), .pointer (some ⟨bK, 0, none⟩)]) (by simp) (by simp [go_sem]) ?_
  refine (catch_bad bP bK hne w' _ _ _ _ _ hP hK).mono ?_
  rintro e u' w'' ⟨rfl, rfl, hF, hP2, hK2⟩
  have Hk := Lib.hid (show Kp w w'' from ((Fr.of_kp hk).step hF (fun j hj => .inr (by simp at hj; rcases hj with rfl | rfl <;> assumption))).kp)
  obtain ⟨c0, c1, c2, c3, _, _, _, _⟩ := hP2
  obtain ⟨k0, _⟩ := hK2
  simp [Leaves, settle, results, Tryz.results70, go_sem, h2, h3, c0, c1, c2, c3, k0]
  exact ⟨Hk.out, by rw [hn]⟩
theorem read_ok (w w' : World) (s : Q.Bt) (bP bK : Nat) {nm : Q.Bt} {S : Q.Rd} {t0 t1 tl : Tv} {ts : List Tv} (hP : Four w' bP (.string (bs nm)) (tvv t0) (tvv t1) (tvv tl)) (hK : One1 w' bK (.bool true)) (hk : Kp w w') (hp : PatO w' w.heap.size t0 t1 tl ts S.b0 S.b1 S.ls) (hn : Q.readP s = some (nm, S))
    (tmps : Array Value) (h2 : tmps[2]? = some (.pointer (some ⟨bP, 0, none⟩))) (h3 : tmps[3]? = some (.pointer (some ⟨bK, 0, none⟩))) :
    bodyPostD Tryz.prog Tryz.f70 (ReadPost w s) Exit.ret { tmps := tmps, defers := [dfr bP bK] } w' := by
  refine leaves_cons (f := 104) (args := #[.pointer (some ⟨bP, 0, none⟩), .pointer (some ⟨bK, 0, none⟩)]) (by simp) (by simp [go_sem]) ?_
  refine (catch_idle bP bK w').mono ?_
  rintro e u' w'' ⟨rfl, rfl, rfl⟩
  obtain ⟨c0, c1, c2, c3, _, _, _, _⟩ := hP
  obtain ⟨k0, _⟩ := hK
  unfold tvv at c1 c2 c3
  simp [Leaves, settle, results, Tryz.results70, go_sem, h2, h3, c0, c1, c2, c3, k0]
  exact ⟨hk, by rw [hn]; exact ⟨t0, t1, tl, ts, rfl, hp⟩⟩
theorem cut_take {r s rest : Q.Bt} {b : Bool} (h : Lib.cut r [10] = (s, rest, b)) : s.length ≤ r.length := by
  unfold Lib.cut at h
  split at h
  · simp only [Prod.mk.injEq] at h
    rw [← h.1]; simp; omega
  · simp only [Prod.mk.injEq] at h
    rw [← h.1]; exact Nat.le_refl _
theorem Four.set0 {w : World} {b : Nat} {x y z u : Value} (h : Four w b x y z u) (v : Value) : Four (w.setCell ⟨b, 0, none⟩ v) b v y z u :=
  ⟨World.cell?_setCell_same _ _ _ h.c0, by rw [World.cell?_setCell_other _ _ _ _ (by simp)]; exact h.c1, by rw [World.cell?_setCell_other _ _ _ _ (by simp)]; exact h.c2, by rw [World.cell?_setCell_other _ _ _ _ (by simp)]; exact h.c3,
    by rw [World.frozen?_setCell]; exact h.f0, by rw [World.frozen?_setCell]; exact h.f1, by rw [World.frozen?_setCell]; exact h.f2, by rw [World.frozen?_setCell]; exact h.f3⟩
theorem Four.set1 {w : World} {b : Nat} {x y z u : Value} (h : Four w b x y z u) (v : Value) : Four (w.setCell ⟨b, 1, none⟩ v) b x v z u :=
  ⟨by rw [World.cell?_setCell_other _ _ _ _ (by simp)]; exact h.c0, World.cell?_setCell_same _ _ _ h.c1, by rw [World.cell?_setCell_other _ _ _ _ (by simp)]; exact h.c2, by rw [World.cell?_setCell_other _ _ _ _ (by simp)]; exact h.c3,
    by rw [World.frozen?_setCell]; exact h.f0, by rw [World.frozen?_setCell]; exact h.f1, by rw [World.frozen?_setCell]; exact h.f2, by rw [World.frozen?_setCell]; exact h.f3⟩
theorem Four.set2 {w : World} {b : Nat} {x y z u : Value} (h : Four w b x y z u) (v : Value) : Four (w.setCell ⟨b, 2, none⟩ v) b x y v u :=
  ⟨by rw [World.cell?_setCell_other _ _ _ _ (by simp)]; exact h.c0, by rw [World.cell?_setCell_other _ _ _ _ (by simp)]; exact h.c1, World.cell?_setCell_same _ _ _ h.c2, by rw [World.cell?_setCell_other _ _ _ _ (by simp)]; exact h.c3,
    by rw [World.frozen?_setCell]; exact h.f0, by rw [World.frozen?_setCell]; exact h.f1, by rw [World.frozen?_setCell]; exact h.f2, by rw [World.frozen?_setCell]; exact h.f3⟩
theorem Four.set3 {w : World} {b : Nat} {x y z u : Value} (h : Four w b x y z u) (v : Value) : Four (w.setCell ⟨b, 3, none⟩ v) b x y z v :=
  ⟨by rw [World.cell?_setCell_other _ _ _ _ (by simp)]; exact h.c0, by rw [World.cell?_setCell_other _ _ _ _ (by simp)]; exact h.c1, by rw [World.cell?_setCell_other _ _ _ _ (by simp)]; exact h.c2, World.cell?_setCell_same _ _ _ h.c3,
    by rw [World.frozen?_setCell]; exact h.f0, by rw [World.frozen?_setCell]; exact h.f1, by rw [World.frozen?_setCell]; exact h.f2, by rw [World.frozen?_setCell]; exact h.f3⟩
/-- How long a text lies there. -/
def lenAt (w : World) (b : Nat) : Nat := match w.cell? ⟨b, 0, none⟩ with
  | some (.string s) => s.size
  | _ => 0
theorem PatO.base {w : World} {B B' : Nat} {t0 t1 tl : Tv} {ts : List Tv} {b0 b1 : List Int} {ls : List Ln} (h : PatO w B t0 t1 tl ts b0 b1 ls) (hB : B' ≤ B) : PatO w B' t0 t1 tl ts b0 b1 ls :=
  ⟨h.len, h.o0.mono (fun k hk => Nat.le_trans hB (h.o0.lt k hk).1), h.o1.mono (fun k hk => Nat.le_trans hB (h.o1.lt k hk).1), h.ol.mono (fun k hk => Nat.le_trans hB (h.ol.lt k hk).1), fun j t l ht hl => (h.ot j t l ht hl).mono (fun k hk => Nat.le_trans hB ((h.ot j t l ht hl).lt k hk).1), h.dj⟩
theorem Own.blockOf {w : World} {base : Nat} {e : TypeId} {size : Nat} {ao : Option Addr} {n cap : Nat} {xs : List Value} (h : Own w base e size ao n cap xs) (hn : 0 < n) : ∃ g, ao = some ⟨g, 0, none⟩ := by
  obtain ⟨g, _, hg, _⟩ := h.block hn
  exact ⟨g, hg⟩
theorem el24 : El Tryz.prog 24 73 (.agg #[.int .i64 0, .slice none 0 0]) 2 32 := ⟨Tryz.underlying24, by kernel_rfl, rfl, by decide, by decide⟩
theorem puts_keep {ops : Array Oper} {D : List Deferred} {x2 x3 : Option Value} (h : (ops.toList.all fun o => o.dst != some 2 && o.dst != some 3) = true) : Puts ops (fun a => a.defers = D ∧ a.tmps[2]? = x2 ∧ a.tmps[3]? = x3) := by
  intro i o ho a v
  have hm : o ∈ ops.toList := Array.mem_toList_iff.2 (Array.mem_of_getElem? ho)
  have hd := List.all_eq_true.1 h o hm
  unfold Act.put
  cases hd' : o.dst with
  | none => exact id
  | some k =>
    rw [hd'] at hd
    simp at hd
    rintro ⟨h1, h2, h3⟩
    refine ⟨h1, ?_, ?_⟩
    · rw [← h2]; simp [hd.1]
    · rw [← h3]; simp [hd.2]
set_option maxRecDepth 100000 in
set_option maxHeartbeats 40000000 in
theorem read_any (s : ByteArray) (m : Int) (w : World) (hs : s.size < 4294967281) (hm : MaxV w m) : Calls Tryz.prog 70 #[.string s] w (ReadPost w s.data.toList) := by
  have hmf : ∀ (fn : Fn) (first cap : Array Value) (w : World), (Instr.makeFunc fn first cap).run Tryz.prog w = .ok (.func fn first cap) w := fun _ _ _ _ => rfl
  go_enter_defers Tryz.func70, Tryz.ntmps70
  obtain ⟨w3, hw3⟩ : ∃ w3, w3 = ((w.alloc (.cells #[.string ⟨#[]⟩, .slice none 0 0, .slice none 0 0, .slice none 0 0] 26)).alloc (.cells #[.bool false] 4)).alloc (.cells #[.string s] 151) := ⟨_, rfl⟩
  have hP := ((Four.new w (.string ⟨#[]⟩) (.slice none 0 0) (.slice none 0 0) (.slice none 0 0) 26).kp (Kp.new _ (.cells #[.bool false] 4))).kp (Kp.new _ (.cells #[.string s] 151))
  have hK := (One1.new (w.alloc (.cells #[.string ⟨#[]⟩, .slice none 0 0, .slice none 0 0, .slice none 0 0] 26)) (.bool false) 4).kp (Kp.new _ (.cells #[.string s] 151))
  have hR := One1.new ((w.alloc (.cells #[.string ⟨#[]⟩, .slice none 0 0, .slice none 0 0, .slice none 0 0] 26)).alloc (.cells #[.bool false] 4)) (.string s) 151
  have hk3 : Kp w w3 := by rw [hw3]; exact Kp.trans (Kp.trans (Kp.new _ _) (Kp.new _ _)) (Kp.new _ _)
  have hsz : w3.heap.size = w.heap.size + 3 := by rw [hw3]; simp
  rw [← hw3] at hP hK hR
  simp only [World.size_alloc] at hK hR
  obtain ⟨bR, hbR⟩ : ∃ bR, bR = w.heap.size + 1 + 1 := ⟨_, rfl⟩
  obtain ⟨bK, hbK⟩ : ∃ bK, bK = w.heap.size + 1 := ⟨_, rfl⟩
  obtain ⟨bP, hbP⟩ : ∃ bP, bP = w.heap.size := ⟨_, rfl⟩
  go_wp2_with fail
  rw [← hw3, ← hbR]
  rw [← hbR] at hR
  rw [← hbK] at hK ⊢
  rw [← hbP] at hP ⊢
  have hP0 : w.heap.size ≤ bP := by omega
  have hPK : bP < bK := by omega
  have hKR : bK < bR := by omega
  have hR3 : bR < w3.heap.size := by omega
  clear hw3 hsz hbR hbK hbP
  have hm3 := hk3.maxV hm
  have HRow := Lib.hid (rowR_any bR s m w3 hs hm3 hR.c hR.f)
  have hsl := Lib.size_eq s
  have Hbad := Lib.hid (fun (w' : World) (x y z u v : Value) (hP : Four w' bP x y z u) (hK : One1 w' bK v) (hk : Kp w w') (hn : Q.readP s.data.toList = none) => read_bad w w' s.data.toList bP bK (by omega) hP hK hk hP0 (by omega) hn)
  obtain ⟨l, hl⟩ : ∃ l, l = s.data.toList := ⟨_, rfl⟩
  have Hl := Lib.hid hl
  rw [← hl] at HRow Hbad hsl ⊢
  have Hm := Lib.hid hm
  clear hl hm
  obtain ⟨c, hc⟩ : ∃ c, c = Lib.cut l [10] := ⟨_, rfl⟩
  have Hc := Lib.hid hc
  unfold RowPost at HRow
  rw [← hc] at HRow
  clear hc
  obtain ⟨x, r0, ok⟩ := c
  cases ok with
  | false =>
    have Hno := Lib.hid (show Q.readP l = none by rw [Q.readP_eq, ← Hc.out])
    (with_reducible refine HRow.out.mono ?_)
    rintro e w4 ⟨rfl, hk4⟩
    unfold badE
    have Hy := Lib.hid (fun tmps h2 h3 => Hbad.out w4 _ _ _ _ _ (hP.kp hk4) (hK.kp hk4) (Kp.trans hk3 hk4) Hno.out tmps h2 h3)
    go_wp2_with fail
    refine Hy.out _ ?_ ?_ <;> rfl
  | true =>
    have Hrd := Lib.hid (show Q.readP l = if Lib.hasSuffix x [58] && Q.isName (Lib.trimSuffix x [58]) then (Q.goP r0 Q.rd0).map (fun S => (Lib.trimSuffix x [58], S)) else none by rw [Q.readP_eq, ← Hc.out])
    have hr0 : r0.length < l.length := Q.cut_shorter Hc.out.symm
    (with_reducible refine HRow.out.mono ?_)
    rintro e w4 ⟨rfl, hF4, hR4, hfR4⟩
    have hP4 := hP.fr hF4 (by simp; omega)
    have hK4 := hK.fr hF4 (by simp; omega)
    have hk4 : Kp w w4 := ((Fr.of_kp hk3).step hF4 (fun j hj => .inr (by simp at hj; omega))).kp
    have Hm4 := Lib.hid (hk4.maxV Hm.out)
    have hxl : x.length ≤ l.length := cut_take Hc.out.symm
    have HSx := Lib.hid (Tryz.strings_CutSuffix (bs x) ⟨#[58]⟩ w4 (by rw [bs_size]; omega))
    have Hl2 := Lib.hid (And.intro (bs_list x) (show (⟨#[58]⟩ : ByteArray).data.toList = [58] from rfl))
    rw [Hl2.out.1, Hl2.out.2] at HSx
    obtain ⟨nm, hnm⟩ : ∃ nm, nm = Lib.trimSuffix x [58] := ⟨_, rfl⟩
    have hnl : nm.length ≤ x.length := by rw [hnm]; exact Lib.trimSuffix_le _ _
    rw [← hnm] at HSx Hrd
    clear hnm Hl2 hF4 hR hK hP
    change Hid (Calls _ _ _ _ (fun e w'' => e = .returned (.tuple #[.string (bs nm), .bool (Lib.hasSuffix x [58])]) ∧ w'' = w4)) at HSx
    have HNm := Lib.hid (named_any (bs nm) w4 (by rw [bs_size]; omega))
    rw [bs_list] at HNm
    cases hsf : Lib.hasSuffix x [58] with
    | false =>
      rw [hsf] at HSx Hrd
      have Hno := Lib.hid (show Q.readP l = none by rw [Hrd.out]; rfl)
      have Hy := Lib.hid (fun tmps h2 h3 => Hbad.out w4 _ _ _ _ _ hP4 hK4 hk4 Hno.out tmps h2 h3)
      clear hsf
      go_wp2_with fail
      (with_reducible refine HSx.out.mono ?_)
      rintro e w5 ⟨rfl, rfl⟩
      go_wp2_with fail
      (with_reducible refine (ask_false _).mono ?_)
      rintro e w6 ⟨rfl, rfl⟩
      unfold badE
      go_wp2_with fail
      rw [Hl.out] at Hy
      refine Hy.out _ ?_ ?_ <;> rfl
    | true =>
      rw [hsf] at HSx Hrd
      clear hsf
      cases hin : Q.isName nm with
      | false =>
        rw [hin] at HNm Hrd
        have Hno := Lib.hid (show Q.readP l = none by rw [Hrd.out]; rfl)
        have Hy := Lib.hid (fun tmps h2 h3 => Hbad.out w4 _ _ _ _ _ hP4 hK4 hk4 Hno.out tmps h2 h3)
        clear hin
        go_wp2_with fail
        (with_reducible refine HSx.out.mono ?_)
        rintro e w5 ⟨rfl, rfl⟩
        go_wp2_with fail
        (with_reducible refine HNm.out.mono ?_)
        rintro e w6 ⟨rfl, rfl⟩
        go_wp2_with fail
        (with_reducible refine (ask_false _).mono ?_)
        rintro e w7 ⟨rfl, rfl⟩
        unfold badE
        go_wp2_with fail
        rw [Hl.out] at Hy
        refine Hy.out _ ?_ ?_ <;> rfl
      | true =>
        rw [hin] at HNm Hrd
        clear hin
        have hset := Fr.set w4 ⟨bP, 0, none⟩ (.string (bs nm))
        have hP5 := hP4.set0 (.string (bs nm))
        have hK5 := hK4.fr hset (by simp; omega)
        have hR5 := One1.fr ⟨hR4, hfR4⟩ hset (by simp; omega)
        have hk5 : Kp w (w4.setCell ⟨bP, 0, none⟩ (.string (bs nm))) := ((Fr.of_kp hk4).step hset (fun j hj => .inr (by simp at hj; omega))).kp
        obtain ⟨y0, y1, y2, y3, z0, z1, z2, z3⟩ := hP4
        have hs5 : bR < (w4.setCell ⟨bP, 0, none⟩ (.string (bs nm))).heap.size := Nat.lt_of_lt_of_le (World.block_lt_of_cell? w4 _ hR4) hset.size
        obtain ⟨w5, hw5⟩ : ∃ w5, w5 = w4.setCell ⟨bP, 0, none⟩ (.string (bs nm)) := ⟨_, rfl⟩
        rw [← hw5] at hP5 hK5 hR5 hk5 hs5
        have Hw5 := Lib.hid hw5
        clear hset hw5
        go_wp2_with fail
        (with_reducible refine HSx.out.mono ?_)
        rintro e w6 ⟨rfl, rfl⟩
        go_wp2_with fail
        (with_reducible refine HNm.out.mono ?_)
        rintro e w7 ⟨rfl, rfl⟩
        go_wp2_with fail
        (with_reducible refine (ask_true _).mono ?_)
        rintro e w8 ⟨rfl, rfl⟩
        go_upto_region 6 with fail
        rw [← Hw5.out]
        clear y0 y1 y2 y3 z0 z1 z2 z3 Hw5 HNm HSx hR4 hfR4 hK4 hk4
        have Hm5 := Lib.hid (hk5.maxV Hm.out)
        go_wp2_with fail
        go_loopw [7] (fun v wr => ∃ (S : Q.Rd) (r : Q.Bt) (t0 t1 tl : Tv) (ts : List Tv), v = .bool S.rest ∧ Fr [bP, bR] w5 wr ∧ Four wr bP (.string (bs nm)) (tvv t0) (tvv t1) (tvv tl) ∧ One1 wr bR (.string (bs r)) ∧ PatO wr w5.heap.size t0 t1 tl ts S.b0 S.b1 S.ls ∧ Q.goP r0 Q.rd0 = Q.goP r S ∧ S.ls.length + r.length ≤ r0.length ∧ ∀ l ∈ S.ls, l.1 = 0 ∨ l.1 = 1) (fun _ wr => lenAt wr bR)
        case atStart => exact ⟨Q.rd0, r0, nilT, nilT, nilT, [], rfl, Fr.refl _ _, hP5, hR5, PatO.nil _ _, rfl, by simp [Q.rd0], by simp [Q.rd0]⟩
        case round =>
          clear hP5 hR5
          obtain ⟨S, r, t0, t1, tl, ts, rfl, hF, hP, hR, hO, hG, hB, hL⟩ := hrel
          have hlen : lenAt wr bR = r.length := by unfold lenAt; rw [hR.c]; exact bs_size r
          cases hr : r with
          | nil =>
            subst hr
            rw [Q.goP_nil] at hG
            have Hyes := Lib.hid (show Q.readP l = some (nm, S) by rw [Hrd.out, hG]; rfl)
            have hKr := hK5.fr hF (by simp; omega)
            have hkr : Kp w wr := ((Fr.of_kp hk5).step hF (fun j hj => .inr (by simp at hj; omega))).kp
            have he : (bs []) = (⟨#[]⟩ : ByteArray) := rfl
            rw [he] at hR
            obtain ⟨r1, r2⟩ := hR
            obtain ⟨wq, hwq, hFq, hPq⟩ := hP.set (.string (bs nm)) (tvv t0) (tvv t1) (tvv tl)
            have hKq := hKr.fr hFq (by simp; omega)
            have hset := Fr.set wq ⟨bK, 0, none⟩ (.bool true)
            have hOq : PatO (wq.setCell ⟨bK, 0, none⟩ (.bool true)) w5.heap.size t0 t1 tl ts S.b0 S.b1 S.ls := (hO.fr hFq (by simp; omega)).fr hset (by simp; omega)
            have hPz := hPq.fr hset (by simp; omega)
            have hKz := hKq.set (.bool true)
            have hkz : Kp w (wq.setCell ⟨bK, 0, none⟩ (.bool true)) := (((Fr.of_kp hkr).step hFq (fun j hj => .inr (by simp at hj; omega))).step hset (fun j hj => .inr (by simp at hj; omega))).kp
            have Hy := Lib.hid (fun tmps h2 h3 => read_ok w _ l bP bK hPz hKz hkz (hOq.base hk5.size) Hyes.out tmps h2 h3)
            rw [hwq] at Hy
            obtain ⟨y0, y1, y2, y3, z0, z1, z2, z3⟩ := hP
            obtain ⟨v0, v1⟩ := hKr
            unfold tvv at y1 y2 y3 Hy
            clear hwq hFq hPq hKq hset hOq hPz hKz hkz hG hF hO hB hkr hlen
            go_wp2_with fail
            rw [Hl.out] at Hy
            refine Hy.out _ ?_ ?_ <;> rfl
          | cons a r' =>
            have hne : r ≠ [] := by rw [hr]; simp
            rw [Q.goP_cons S hne] at hG
            have hkr : Kp w wr := ((Fr.of_kp hk5).step hF (fun j hj => .inr (by simp at hj; omega))).kp
            have hKr := hK5.fr hF (by simp; omega)
            have HRw := Lib.hid (rowR_any bR (bs r) m wr (by rw [bs_size]; omega) (hkr.maxV Hm.out) hR.c hR.f)
            rw [bs_list] at HRw
            unfold RowPost at HRw
            obtain ⟨c, hc⟩ : ∃ c, c = Lib.cut r [10] := ⟨_, rfl⟩
            rw [← hc] at HRw hG
            have Hc := Lib.hid hc
            clear hc
            obtain ⟨x, r1, ok⟩ := c
            have hrc := hR.c
            have Hne := Lib.hid hne
            clear hne hr
            have hie : (bs r).toList.isEmpty = false := by
              rw [Lib.toList_data, bs_list]
              cases r with
              | nil => exact absurd rfl Hne.out
              | cons _ _ => rfl
            cases ok with
            | false =>
              have Hno := Lib.hid (show Q.readP l = none by rw [Hrd.out, hG]; rfl)
              have Hy := Lib.hid (fun w' hk9 tmps h2 h3 => Hbad.out w' _ _ _ _ _ (hP.kp hk9) (hKr.kp hk9) (Kp.trans hkr hk9) Hno.out tmps h2 h3)
              rw [Hl.out] at Hy
              clear hG
              go_wp2_with fail
              (with_reducible refine HRw.out.mono ?_)
              rintro e w9 ⟨rfl, hk9⟩
              unfold badE
              go_wp2_with fail
              refine Hy.out _ hk9 _ ?_ ?_ <;> rfl
            | true =>
              have hr1 : r1.length < r.length := Q.cut_shorter Hc.out.symm
              have hxr : x.length ≤ r.length := cut_take Hc.out.symm
              have hG : Q.goP r0 Q.rd0 = (Q.rowP S x).bind (Q.goP r1) := hG
              go_wp2_with fail
              (with_reducible refine HRw.out.mono ?_)
              rintro e w9 ⟨rfl, hF9, hc9, hf9⟩
              have hP9 := hP.fr hF9 (by simp; omega)
              have hK9 := hKr.fr hF9 (by simp; omega)
              have hO9 := hO.fr hF9 (by simp; omega)
              have hk9 : Kp w w9 := ((Fr.of_kp hkr).step hF9 (fun j hj => .inr (by simp at hj; omega))).kp
              have hF59 : Fr [bP, bR] w5 w9 := hF.trans (hF9.mono (by simp))
              have hR9 : One1 w9 bR (.string (bs r1)) := ⟨hc9, hf9⟩
              have Hn := Lib.hid (show tl.n = S.ls.length from hO9.nl)
              have hs9 : w5.heap.size ≤ w9.heap.size := hF59.size
              clear hP hKr hO hkr hF hR HRw hrc hF9 hie hc9 hf9
              have HR9 := Lib.hid hR9
              have HG := Lib.hid hG
              clear hR9 hG
              cases hq : ((bs x).toList == [32, 32, 46, 46, 46]) with
              | true =>
                obtain rfl : x = Q.restR := by rw [← bs_list x, ← Lib.toList_data, beq_iff_eq.1 hq]; rfl
                have HL := Lib.hid hL
                have hgo : Q.goP r0 Q.rd0 = (if Q.restOk S then some (Q.moved S) else none).bind (Q.goP r1) := by rw [HG.out]; unfold Q.rowP; rw [if_pos rfl]
                have hm9 := hk9.maxV Hm.out
                obtain ⟨wd, hwd⟩ : ∃ wd, wd = w9.drew := ⟨_, rfl⟩
                have hkd : Kp w9 wd := hwd ▸ (⟨rfl, rfl, rfl, Nat.le_refl _, fun _ _ => rfl⟩ : Kp w9 w9.drew)
                have hc3 : wd.cell? ⟨bP, 3, none⟩ = some (.slice tl.ao tl.n tl.c) := hkd.cell hP9.c3
                have Hwd := Lib.hid hwd
                have hOd := hO9.kp hkd
                clear hwd
                cases hro : Q.restOk S with
                | false =>
                  have Hno := Lib.hid (show Q.readP l = none by rw [Hrd.out, hgo, hro]; rfl)
                  have Hy := Lib.hid (fun tmps h2 h3 => Hbad.out wd _ _ _ _ _ (hP9.kp hkd) (hK9.kp hkd) (Kp.trans hk9 hkd) Hno.out tmps h2 h3)
                  rw [Hl.out] at Hy
                  clear hgo HG
                  obtain ⟨S0, S1, Sl, Sr⟩ := S
                  unfold Q.restOk at hro
                  cases Sr with
                  | true => 
                    clear hro
                    go_upto_region 11 with fail
                    refine region_tailq 33 (by kernel_rfl) (by kernel_rfl) ?_
                    rw [← Hwd.out]
                    simp only [List.take_succ_cons, List.take_zero, List.drop_succ_cons, List.drop_zero]
                    repeat (go_big_quiet_step (fail))
                    refine wpQuiet_nil ?_
                    go_wp2_with fail
                    (with_reducible refine (ask_false _).mono ?_)
                    rintro e w10 ⟨rfl, rfl⟩
                    unfold badE
                    go_wp2_with fail
                    refine Hy.out _ ?_ ?_ <;> rfl
                  | false =>
                    rcases Sl with _ | ⟨la, _ | ⟨lb, _ | ⟨lc, lr⟩⟩⟩
                    · obtain ⟨ao, n, cp⟩ := tl
                      obtain rfl : n = 0 := Hn.out
                      clear hro
                      go_upto_region 11 with fail
                      refine region_tailq 33 (by kernel_rfl) (by kernel_rfl) ?_
                      rw [← Hwd.out]
                      simp only [List.take_succ_cons, List.take_zero, List.drop_succ_cons, List.drop_zero]
                      repeat (go_big_quiet_step (fail))
                      refine wpQuiet_nil ?_
                      go_wp2_with fail
                      (with_reducible refine (ask_false _).mono ?_)
                      rintro e w10 ⟨rfl, rfl⟩
                      unfold badE
                      go_wp2_with fail
                      refine Hy.out _ ?_ ?_ <;> rfl
                    · exact absurd hro (by simp)
                    · obtain ⟨ao, n, cp⟩ := tl
                      obtain rfl : n = 2 := Hn.out
                      obtain ⟨g, rfl⟩ := hOd.ol.blockOf (show 0 < 2 by decide)
                      have ga : wd.cell? ⟨g, 0, none⟩ = some (iv la.1) := by rw [hOd.ol.cell 0 (show 0 < 2 * 2 by decide)]; rcases ts with _ | ⟨t, _ | ⟨u, _⟩⟩ <;> first | rfl | (have := hOd.len; simp at this)
                      have gb : wd.cell? ⟨g, 2, none⟩ = some (iv lb.1) := by rw [hOd.ol.cell 2 (show 2 < 2 * 2 by decide)]; rcases ts with _ | ⟨t, _ | ⟨u, _⟩⟩ <;> first | rfl | (have := hOd.len; simp at this)
                      have hro : ¬ la.1 < lb.1 := by simpa using hro
                      have hdl : decide (la.1 < lb.1) = false := by simp [hro]
                      clear hro
                      go_upto_region 11 with fail
                      refine region_tailq 33 (by kernel_rfl) (by kernel_rfl) ?_
                      rw [← Hwd.out]
                      simp only [List.take_succ_cons, List.take_zero, List.drop_succ_cons, List.drop_zero]
                      repeat (go_big_quiet_step (fail))
                      refine wpQuiet_nil ?_
                      go_wp2_with fail
                      (with_reducible refine (ask_false _).mono ?_)
                      rintro e w10 ⟨rfl, rfl⟩
                      unfold badE
                      go_wp2_with fail
                      refine Hy.out _ ?_ ?_ <;> rfl
                    · obtain ⟨ao, n, cp⟩ := tl
                      have hn3 : n = lr.length + 3 := by have := Hn.out; simpa using this
                      have d1 : 0 < n := by omega
                      have d2 : decide ((n : Int) ≤ 2) = false := by simp; omega
                      have hn3' : 3 ≤ n := by omega
                      clear hro hn3
                      go_upto_region 11 with fail
                      refine region_tailq 33 (by kernel_rfl) (by kernel_rfl) ?_
                      rw [← Hwd.out]
                      simp only [List.take_succ_cons, List.take_zero, List.drop_succ_cons, List.drop_zero]
                      repeat (go_big_quiet_step (fail))
                      refine wpQuiet_nil ?_
                      go_wp2_with fail
                      (with_reducible refine (ask_false _).mono ?_)
                      rintro e w10 ⟨rfl, rfl⟩
                      unfold badE
                      go_wp2_with fail
                      refine Hy.out _ ?_ ?_ <;> rfl
                | true =>
                  have HGo := Lib.hid (show Q.goP r0 Q.rd0 = Q.goP r1 (Q.moved S) by rw [hgo, hro]; rfl)
                  have Hro := Lib.hid hro
                  have hPd := hP9.kp hkd
                  have hRd := HR9.out.kp hkd
                  have hln := hO9.len
                  clear hgo HG
                  obtain ⟨S0, S1, Sl, Sr⟩ := S
                  obtain ⟨ao, n, cp⟩ := tl
                  have hn : n = Sl.length := Hn.out
                  unfold Q.restOk at hro
                  cases Sr with
                  | true => exact absurd hro (by simp)
                  | false =>
                    rcases Sl with _ | ⟨la, _ | ⟨lb, _ | ⟨lc, lr⟩⟩⟩
                    · exact absurd hro (by simp)
                    · have hn1 : n = 1 := hn
                      obtain ⟨g, rfl⟩ := hOd.ol.blockOf (show 0 < n by omega)
                      have d1 : 0 < n := by omega
                      have d2 : decide ((n : Int) ≤ 2) = true := by simp; omega
                      have d3 : ((n : Int) == 1) = true := by simp; omega
                      have d4 : decide (n = 1) = true := by simp; omega
                      clear hro hn hn1
                      go_upto_region 11 with fail
                      refine region_tailq 33 (by kernel_rfl) (by kernel_rfl) ?_
                      rw [← Hwd.out]
                      simp only [List.take_succ_cons, List.take_zero, List.drop_succ_cons, List.drop_zero]
                      repeat (go_big_quiet_step (fail))
                      refine wpQuiet_nil ?_
                      go_wp2_with fail
                      (with_reducible refine (ask_true _).mono ?_)
                      rintro e w10 ⟨rfl, rfl⟩
                      go_wp2_with fail
                      go_loopw [82] (fun i wr2 => ∃ k : Nat, k ≤ n ∧ i = .int .i64 (k : Nat) ∧ Fr [bP] wd wr2 ∧ Four wr2 bP (.string (bs nm)) (tvv (selT ([la].take k) (ts.take k) (t0, t1)).1) (tvv (selT ([la].take k) (ts.take k) (t0, t1)).2) (tvv ⟨some ⟨g, 0, none⟩, n, cp⟩)) (fun i _ => n - (intOf i).toNat)
                      case atStart => exact ⟨0, by omega, rfl, Fr.refl _ _, hPd⟩
                      case round =>
                        obtain ⟨k, hk, rfl, hF2, hP2⟩ := hrel
                        have hO2 := hOd.fr hF2 (by simp; omega)
                        by_cases hlt : k < n
                        · have hkl : k < ([la]).length := by exact Nat.lt_of_lt_of_eq hlt Hn.out
                          obtain ⟨lk, hlk⟩ : ∃ lk, ([la])[k]? = some lk := ⟨_, List.getElem?_eq_getElem hkl⟩
                          obtain ⟨tk, htk⟩ : ∃ tk, ts[k]? = some tk := ⟨_, List.getElem?_eq_getElem (by rw [hln]; exact hkl)⟩
                          have hsel := selT_step (t0, t1) hlk htk
                          have hgc := lnc_get hln k hkl
                          have hg0 : wr.cell? ⟨g, k * 2, none⟩ = some (iv lk.1) := by
                            rw [hO2.ol.cell (k * 2) (show k * 2 < n * 2 by omega), hgc.1]
                            rw [List.getElem?_eq_getElem hkl] at hlk
                            rw [Option.some.inj hlk]
                          have hg1 : wr.cell? ⟨g, k * 2 + 1, none⟩ = some (.slice tk.ao tk.n tk.c) := by
                            rw [hO2.ol.cell (k * 2 + 1) (show k * 2 + 1 < n * 2 by omega), hgc.2]
                            rw [List.getElem?_eq_getElem (by rw [hln]; exact hkl)] at htk
                            rw [Option.some.inj htk]; rfl
                          have Hl0 := Lib.hid (HL.out lk (List.mem_of_getElem? hlk))
                          have Hsel := Lib.hid hsel
                          have HP2 := Lib.hid hP2
                          clear hgc hlk htk hsel
                          rcases Hl0.out with h0 | h0
                          · rw [h0] at hg0
                            have Hsel := Lib.hid (Hsel.out.trans (if_pos h0))
                            clear h0
                            go_upto_region 15 with fail
                            have hkn := Kp.new wr (.cells #[iv 0, .slice tk.ao tk.n tk.c] 73)
                            have hcs0 : (wr.alloc (.cells #[iv 0, .slice tk.ao tk.n tk.c] 73)).cell? ⟨wr.heap.size, 0, none⟩ = some (iv 0) := by rw [World.cell?_alloc_at _ _ _ _ rfl]; rfl
                            have hcs1 : (wr.alloc (.cells #[iv 0, .slice tk.ao tk.n tk.c] 73)).cell? ⟨wr.heap.size, 1, none⟩ = some (.slice tk.ao tk.n tk.c) := by rw [World.cell?_alloc_at _ _ _ _ rfl]; rfl
                            have hP4 := HP2.out.kp hkn
                            have hP3 := hP4.set1 (.slice tk.ao tk.n tk.c)
                            have hset := Fr.set (wr.alloc (.cells #[iv 0, .slice tk.ao tk.n tk.c] 73)) ⟨bP, 1, none⟩ (.slice tk.ao tk.n tk.c)
                            have Hfin := Lib.hid (And.intro ((hF2.trans ((Fr.of_kp hkn).mono (by simp))).trans hset) hP3)
                            clear hkn hP3 hset hg0 hg1
                            change Code.wp _ _ _ _ (wr.alloc (.cells #[iv 0, .slice tk.ao tk.n tk.c] 73))
                            generalize (wr.alloc (.cells #[iv 0, .slice tk.ao tk.n tk.c] 73)) = wa at *
                            obtain ⟨bN, hbN⟩ : ∃ bN, bN = wr.heap.size := ⟨_, rfl⟩
                            rw [← hbN] at hcs0 hcs1 ⊢
                            clear hbN
                            obtain ⟨y0, y1, y2, y3, z0, z1, z2, z3⟩ := hP4
                            go_wp2_with fail
                            go_roundw
                            case rel => exact ⟨k + 1, by omega, by go_num, Hfin.out.1, by rw [Hsel.out]; exact Hfin.out.2⟩
                            case measure => simp [intOf]; omega
                          · rw [h0] at hg0
                            have Hsel := Lib.hid (Hsel.out.trans (if_neg (by omega)))
                            clear h0
                            go_upto_region 15 with fail
                            have hkn := Kp.new wr (.cells #[iv 1, .slice tk.ao tk.n tk.c] 73)
                            have hcs0 : (wr.alloc (.cells #[iv 1, .slice tk.ao tk.n tk.c] 73)).cell? ⟨wr.heap.size, 0, none⟩ = some (iv 1) := by rw [World.cell?_alloc_at _ _ _ _ rfl]; rfl
                            have hcs1 : (wr.alloc (.cells #[iv 1, .slice tk.ao tk.n tk.c] 73)).cell? ⟨wr.heap.size, 1, none⟩ = some (.slice tk.ao tk.n tk.c) := by rw [World.cell?_alloc_at _ _ _ _ rfl]; rfl
                            have hP4 := HP2.out.kp hkn
                            have hP3 := hP4.set2 (.slice tk.ao tk.n tk.c)
                            have hset := Fr.set (wr.alloc (.cells #[iv 1, .slice tk.ao tk.n tk.c] 73)) ⟨bP, 2, none⟩ (.slice tk.ao tk.n tk.c)
                            have Hfin := Lib.hid (And.intro ((hF2.trans ((Fr.of_kp hkn).mono (by simp))).trans hset) hP3)
                            clear hkn hP3 hset hg0 hg1
                            change Code.wp _ _ _ _ (wr.alloc (.cells #[iv 1, .slice tk.ao tk.n tk.c] 73))
                            generalize (wr.alloc (.cells #[iv 1, .slice tk.ao tk.n tk.c] 73)) = wa at *
                            obtain ⟨bN, hbN⟩ : ∃ bN, bN = wr.heap.size := ⟨_, rfl⟩
                            rw [← hbN] at hcs0 hcs1 ⊢
                            clear hbN
                            obtain ⟨y0, y1, y2, y3, z0, z1, z2, z3⟩ := hP4
                            go_wp2_with fail
                            go_roundw
                            case rel => exact ⟨k + 1, by omega, by go_num, Hfin.out.1, by rw [Hsel.out]; exact Hfin.out.2⟩
                            case measure => simp [intOf]; omega
                        · obtain rfl : k = n := by omega
                          have hse := selT_all ([la]) ts (t0, t1) hln
                          have hnk : ([la]).length = k := Hn.out.symm
                          rw [hnk] at hse
                          rw [hse] at hP2
                          have hset := Fr.set wr ⟨bP, 3, none⟩ (.slice none 0 0)
                          have hP3 := hP2.set3 (.slice none 0 0)
                          have hO3 := (hO2.fr hset (fun j hj => .inl (by simp at hj; omega))).moved (S := ⟨S0, S1, [la], false⟩) HL.out Hro.out
                          have hR3 := (hRd.fr hF2 (by simp; omega)).fr hset (by simp; omega)
                          have hF3 := ((hF59.trans ((Fr.of_kp hkd).mono (by simp))).trans (hF2.mono (by simp))).trans (hset.mono (show ∀ j ∈ [bP], j ∈ [bP, bR] by simp))
                          have Hfin := Lib.hid (And.intro hF3 (And.intro hP3 (And.intro hR3 hO3)))
                          have Hms := Lib.hid (show lenAt (wr.setCell ⟨bP, 3, none⟩ (.slice none 0 0)) bR = r1.length by unfold lenAt; rw [hR3.c]; exact bs_size r1)
                          obtain ⟨y0, y1, y2, y3, z0, z1, z2, z3⟩ := hP2
                          clear hset hP3 hO3 hR3 hF3 hse hnk hO2
                          go_wp2_with fail
                          go_roundw
                          case rel => exact ⟨Q.moved ⟨S0, S1, [la], false⟩, r1, (selT ([la]) ts (t0, t1)).1, (selT ([la]) ts (t0, t1)).2, nilT, [], rfl, Hfin.out.1, Hfin.out.2.1, Hfin.out.2.2.1, Hfin.out.2.2.2, HGo.out, by simp [Q.moved]; omega, by simp [Q.moved]⟩
                          case measure => rw [Hms.out, hlen]; exact hr1
                    · have hn1 : n = 2 := hn
                      obtain ⟨g, rfl⟩ := hOd.ol.blockOf (show 0 < n by omega)
                      have d1 : 0 < n := by omega
                      have d5 : 1 < n := by omega
                      have d2 : decide ((n : Int) ≤ 2) = true := by simp; omega
                      have d3 : ((n : Int) == 1) = false := by simp; omega
                      have d4 : decide (n = 1) = false := by simp; omega
                      have hdl : decide (la.1 < lb.1) = true := by simpa using hro
                      have ga : wd.cell? ⟨g, 0, none⟩ = some (iv la.1) := by rw [hOd.ol.cell 0 (show 0 < n * 2 by omega)]; rcases ts with _ | ⟨t, _ | ⟨u, _⟩⟩ <;> first | rfl | (have := hOd.len; simp at this)
                      have gb : wd.cell? ⟨g, 2, none⟩ = some (iv lb.1) := by rw [hOd.ol.cell 2 (show 2 < n * 2 by omega)]; rcases ts with _ | ⟨t, _ | ⟨u, _⟩⟩ <;> first | rfl | (have := hOd.len; simp at this)
                      clear hro hn hn1
                      go_upto_region 11 with fail
                      refine region_tailq 33 (by kernel_rfl) (by kernel_rfl) ?_
                      rw [← Hwd.out]
                      simp only [List.take_succ_cons, List.take_zero, List.drop_succ_cons, List.drop_zero]
                      repeat (go_big_quiet_step (fail))
                      refine wpQuiet_nil ?_
                      go_wp2_with fail
                      (with_reducible refine (ask_true _).mono ?_)
                      rintro e w10 ⟨rfl, rfl⟩
                      go_wp2_with fail
                      go_loopw [82] (fun i wr2 => ∃ k : Nat, k ≤ n ∧ i = .int .i64 (k : Nat) ∧ Fr [bP] wd wr2 ∧ Four wr2 bP (.string (bs nm)) (tvv (selT ([la, lb].take k) (ts.take k) (t0, t1)).1) (tvv (selT ([la, lb].take k) (ts.take k) (t0, t1)).2) (tvv ⟨some ⟨g, 0, none⟩, n, cp⟩)) (fun i _ => n - (intOf i).toNat)
                      case atStart => exact ⟨0, by omega, rfl, Fr.refl _ _, hPd⟩
                      case round =>
                        obtain ⟨k, hk, rfl, hF2, hP2⟩ := hrel
                        have hO2 := hOd.fr hF2 (by simp; omega)
                        by_cases hlt : k < n
                        · have hkl : k < ([la, lb]).length := by exact Nat.lt_of_lt_of_eq hlt Hn.out
                          obtain ⟨lk, hlk⟩ : ∃ lk, ([la, lb])[k]? = some lk := ⟨_, List.getElem?_eq_getElem hkl⟩
                          obtain ⟨tk, htk⟩ : ∃ tk, ts[k]? = some tk := ⟨_, List.getElem?_eq_getElem (by rw [hln]; exact hkl)⟩
                          have hsel := selT_step (t0, t1) hlk htk
                          have hgc := lnc_get hln k hkl
                          have hg0 : wr.cell? ⟨g, k * 2, none⟩ = some (iv lk.1) := by
                            rw [hO2.ol.cell (k * 2) (show k * 2 < n * 2 by omega), hgc.1]
                            rw [List.getElem?_eq_getElem hkl] at hlk
                            rw [Option.some.inj hlk]
                          have hg1 : wr.cell? ⟨g, k * 2 + 1, none⟩ = some (.slice tk.ao tk.n tk.c) := by
                            rw [hO2.ol.cell (k * 2 + 1) (show k * 2 + 1 < n * 2 by omega), hgc.2]
                            rw [List.getElem?_eq_getElem (by rw [hln]; exact hkl)] at htk
                            rw [Option.some.inj htk]; rfl
                          have Hl0 := Lib.hid (HL.out lk (List.mem_of_getElem? hlk))
                          have Hsel := Lib.hid hsel
                          have HP2 := Lib.hid hP2
                          clear hgc hlk htk hsel
                          rcases Hl0.out with h0 | h0
                          · rw [h0] at hg0
                            have Hsel := Lib.hid (Hsel.out.trans (if_pos h0))
                            clear h0
                            go_upto_region 15 with fail
                            have hkn := Kp.new wr (.cells #[iv 0, .slice tk.ao tk.n tk.c] 73)
                            have hcs0 : (wr.alloc (.cells #[iv 0, .slice tk.ao tk.n tk.c] 73)).cell? ⟨wr.heap.size, 0, none⟩ = some (iv 0) := by rw [World.cell?_alloc_at _ _ _ _ rfl]; rfl
                            have hcs1 : (wr.alloc (.cells #[iv 0, .slice tk.ao tk.n tk.c] 73)).cell? ⟨wr.heap.size, 1, none⟩ = some (.slice tk.ao tk.n tk.c) := by rw [World.cell?_alloc_at _ _ _ _ rfl]; rfl
                            have hP4 := HP2.out.kp hkn
                            have hP3 := hP4.set1 (.slice tk.ao tk.n tk.c)
                            have hset := Fr.set (wr.alloc (.cells #[iv 0, .slice tk.ao tk.n tk.c] 73)) ⟨bP, 1, none⟩ (.slice tk.ao tk.n tk.c)
                            have Hfin := Lib.hid (And.intro ((hF2.trans ((Fr.of_kp hkn).mono (by simp))).trans hset) hP3)
                            clear hkn hP3 hset hg0 hg1
                            change Code.wp _ _ _ _ (wr.alloc (.cells #[iv 0, .slice tk.ao tk.n tk.c] 73))
                            generalize (wr.alloc (.cells #[iv 0, .slice tk.ao tk.n tk.c] 73)) = wa at *
                            obtain ⟨bN, hbN⟩ : ∃ bN, bN = wr.heap.size := ⟨_, rfl⟩
                            rw [← hbN] at hcs0 hcs1 ⊢
                            clear hbN
                            obtain ⟨y0, y1, y2, y3, z0, z1, z2, z3⟩ := hP4
                            go_wp2_with fail
                            go_roundw
                            case rel => exact ⟨k + 1, by omega, by go_num, Hfin.out.1, by rw [Hsel.out]; exact Hfin.out.2⟩
                            case measure => simp [intOf]; omega
                          · rw [h0] at hg0
                            have Hsel := Lib.hid (Hsel.out.trans (if_neg (by omega)))
                            clear h0
                            go_upto_region 15 with fail
                            have hkn := Kp.new wr (.cells #[iv 1, .slice tk.ao tk.n tk.c] 73)
                            have hcs0 : (wr.alloc (.cells #[iv 1, .slice tk.ao tk.n tk.c] 73)).cell? ⟨wr.heap.size, 0, none⟩ = some (iv 1) := by rw [World.cell?_alloc_at _ _ _ _ rfl]; rfl
                            have hcs1 : (wr.alloc (.cells #[iv 1, .slice tk.ao tk.n tk.c] 73)).cell? ⟨wr.heap.size, 1, none⟩ = some (.slice tk.ao tk.n tk.c) := by rw [World.cell?_alloc_at _ _ _ _ rfl]; rfl
                            have hP4 := HP2.out.kp hkn
                            have hP3 := hP4.set2 (.slice tk.ao tk.n tk.c)
                            have hset := Fr.set (wr.alloc (.cells #[iv 1, .slice tk.ao tk.n tk.c] 73)) ⟨bP, 2, none⟩ (.slice tk.ao tk.n tk.c)
                            have Hfin := Lib.hid (And.intro ((hF2.trans ((Fr.of_kp hkn).mono (by simp))).trans hset) hP3)
                            clear hkn hP3 hset hg0 hg1
                            change Code.wp _ _ _ _ (wr.alloc (.cells #[iv 1, .slice tk.ao tk.n tk.c] 73))
                            generalize (wr.alloc (.cells #[iv 1, .slice tk.ao tk.n tk.c] 73)) = wa at *
                            obtain ⟨bN, hbN⟩ : ∃ bN, bN = wr.heap.size := ⟨_, rfl⟩
                            rw [← hbN] at hcs0 hcs1 ⊢
                            clear hbN
                            obtain ⟨y0, y1, y2, y3, z0, z1, z2, z3⟩ := hP4
                            go_wp2_with fail
                            go_roundw
                            case rel => exact ⟨k + 1, by omega, by go_num, Hfin.out.1, by rw [Hsel.out]; exact Hfin.out.2⟩
                            case measure => simp [intOf]; omega
                        · obtain rfl : k = n := by omega
                          have hse := selT_all ([la, lb]) ts (t0, t1) hln
                          have hnk : ([la, lb]).length = k := Hn.out.symm
                          rw [hnk] at hse
                          rw [hse] at hP2
                          have hset := Fr.set wr ⟨bP, 3, none⟩ (.slice none 0 0)
                          have hP3 := hP2.set3 (.slice none 0 0)
                          have hO3 := (hO2.fr hset (fun j hj => .inl (by simp at hj; omega))).moved (S := ⟨S0, S1, [la, lb], false⟩) HL.out Hro.out
                          have hR3 := (hRd.fr hF2 (by simp; omega)).fr hset (by simp; omega)
                          have hF3 := ((hF59.trans ((Fr.of_kp hkd).mono (by simp))).trans (hF2.mono (by simp))).trans (hset.mono (show ∀ j ∈ [bP], j ∈ [bP, bR] by simp))
                          have Hfin := Lib.hid (And.intro hF3 (And.intro hP3 (And.intro hR3 hO3)))
                          have Hms := Lib.hid (show lenAt (wr.setCell ⟨bP, 3, none⟩ (.slice none 0 0)) bR = r1.length by unfold lenAt; rw [hR3.c]; exact bs_size r1)
                          obtain ⟨y0, y1, y2, y3, z0, z1, z2, z3⟩ := hP2
                          clear hset hP3 hO3 hR3 hF3 hse hnk hO2
                          go_wp2_with fail
                          go_roundw
                          case rel => exact ⟨Q.moved ⟨S0, S1, [la, lb], false⟩, r1, (selT ([la, lb]) ts (t0, t1)).1, (selT ([la, lb]) ts (t0, t1)).2, nilT, [], rfl, Hfin.out.1, Hfin.out.2.1, Hfin.out.2.2.1, Hfin.out.2.2.2, HGo.out, by simp [Q.moved]; omega, by simp [Q.moved]⟩
                          case measure => rw [Hms.out, hlen]; exact hr1
                    · exact absurd hro (by simp)
              | false =>
                have hxr : x ≠ Q.restR := fun e => by rw [e, Lib.toList_data] at hq; exact absurd hq (by decide)
                have HL := Lib.hid hL
                cases hlp : Q.lineP x with
                | none =>
                  have Hno := Lib.hid (show Q.readP l = none by rw [Hrd.out, HG.out]; unfold Q.rowP; rw [if_neg hxr, hlp]; rfl)
                  have Hy := Lib.hid (fun w' (hk' : Kp w9 w') tmps h2 h3 => Hbad.out w' _ _ _ _ _ (hP9.kp hk') (hK9.kp hk') (Kp.trans hk9 hk') Hno.out tmps h2 h3)
                  rw [Hl.out] at Hy
                  have HLn := Lib.hid (fun w' (hm' : MaxV w' m) => line_any (bs x) m w' (by rw [bs_size]; omega) hm')
                  unfold LinePost at HLn
                  rw [bs_list, hlp] at HLn
                  have hm9 := hk9.maxV Hm.out
                  clear hxr HG hlp
                  go_upto_region 10 with fail
                  refine anyP_start (fun w => w.cell? ⟨bP, 3, none⟩ = some (.slice tl.ao tl.n tl.c)) 7 (fun a => a.defers = [dfr bP bK] ∧ a.tmps[2]? = some (.pointer (some ⟨bP, 0, none⟩)) ∧ a.tmps[3]? = some (.pointer (some ⟨bK, 0, none⟩))) (fun c w' => c = badC ∧ Kp w9 w') (by kernel_rfl) ?hp ?_
                  case hp =>
                    rintro c ⟨tmps, defers⟩ w' ⟨hd, h2, h3⟩ ⟨rfl, hk'⟩
                    simp only at hd h2 h3
                    subst hd
                    exact Hy.out _ hk' _ h2 h3
                  generalize hwq : w9.drew = wd
                  have hkd : Kp w9 wd := hwq ▸ (⟨rfl, rfl, rfl, Nat.le_refl _, fun _ _ => rfl⟩ : Kp w9 w9.drew)
                  clear hwq
                  have hS : wd.cell? ⟨bP, 3, none⟩ = some (.slice tl.ao tl.n tl.c) := hkd.cell hP9.c3
                  refine anyP_take (puts_keep (by kernel_rfl)) [0, 2] (by kernel_rfl) hS ?_
                  simp only [opsAt, List.getElem?_toArray, List.getElem?_cons_zero, List.getElem?_cons_succ]
                  repeat (go_big_quiet_step (fail))
                  refine wpQuiet_nil ?_
                  refine anyP_load (puts_keep (by kernel_rfl)) 1 39 (.slice tl.ao tl.n tl.c) rfl rfl (by kernel_rfl) hS (fun w h => exec_load24 h rfl rfl) ?_
                  simp only [Act.put, List.setIfInBounds_toArray, List.set_cons_zero, List.set_cons_succ]
                  refine anyP_one 3 (by kernel_rfl) ?_
                  simp only [opsAt, List.getElem?_toArray, List.getElem?_cons_zero, List.getElem?_cons_succ]
                  have HTk := Lib.hid (HLn.out wd (hkd.maxV hm9))
                  clear hS
                  go_wp2_with fail
                  (with_reducible refine HTk.out.mono ?_)
                  rintro e w10 ⟨hk10, rfl⟩
                  exact ⟨rfl, Kp.trans hkd hk10⟩
                | some ln =>
                  have HG2 := Lib.hid (show Q.goP r0 Q.rd0 = Q.goP r1 { S with ls := S.ls ++ [ln] } by rw [HG.out]; unfold Q.rowP; rw [if_neg hxr, hlp]; rfl)
                  have HLn := Lib.hid (fun w' (hm' : MaxV w' m) => line_any (bs x) m w' (by rw [bs_size]; omega) hm')
                  unfold LinePost LineV at HLn
                  rw [bs_list, hlp] at HLn
                  have hm9 := hk9.maxV Hm.out
                  have Hlf := Lib.hid (lineP_from hlp)
                  clear hxr HG hlp
                  go_upto_region 10 with fail
                  refine anyP_start (fun w => w.cell? ⟨bP, 3, none⟩ = some (.slice tl.ao tl.n tl.c)) 7 (fun a => a.defers = [dfr bP bK] ∧ a.tmps[2]? = some (.pointer (some ⟨bP, 0, none⟩)) ∧ a.tmps[3]? = some (.pointer (some ⟨bK, 0, none⟩))) (fun _ _ => False) (by kernel_rfl) (fun _ _ _ _ h => h.elim) ?_
                  generalize hwq : w9.drew = wd
                  have hkd : Kp w9 wd := hwq ▸ (⟨rfl, rfl, rfl, Nat.le_refl _, fun _ _ => rfl⟩ : Kp w9 w9.drew)
                  clear hwq
                  have hS : wd.cell? ⟨bP, 3, none⟩ = some (.slice tl.ao tl.n tl.c) := hkd.cell hP9.c3
                  refine anyP_take (puts_keep (by kernel_rfl)) [0, 2] (by kernel_rfl) hS ?_
                  simp only [opsAt, List.getElem?_toArray, List.getElem?_cons_zero, List.getElem?_cons_succ]
                  repeat (go_big_quiet_step (fail))
                  refine wpQuiet_nil ?_
                  refine anyP_load (puts_keep (by kernel_rfl)) 1 39 (.slice tl.ao tl.n tl.c) rfl rfl (by kernel_rfl) hS (fun w h => exec_load24 h rfl rfl) ?_
                  simp only [Act.put, List.setIfInBounds_toArray, List.set_cons_zero, List.set_cons_succ]
                  refine anyP_one 3 (by kernel_rfl) ?_
                  simp only [opsAt, List.getElem?_toArray, List.getElem?_cons_zero, List.getElem?_cons_succ]
                  have HTk := Lib.hid (HLn.out wd (hkd.maxV hm9))
                  go_wp2_with fail
                  (with_reducible refine HTk.out.mono ?_)
                  rintro e w10 ⟨hk10, t, rfl, ho10⟩
                  have hS10 := hk10.cell hS
                  clear hS
                  go_wp2_with fail
                  refine ⟨fun _ => hS10, ?_⟩
                  refine anyP_one 4 (by kernel_rfl) ?_
                  simp only [opsAt, List.getElem?_toArray, List.getElem?_cons_zero, List.getElem?_cons_succ]
                  have hkn := Kp.new w10 (.cells #[iv ln.1, tvv t] 73)
                  have hcs : Cs (w10.alloc (.cells #[iv ln.1, tvv t] 73)) (some ⟨w10.heap.size, 0, none⟩) [iv ln.1, tvv t] := Cs.new w10 [iv ln.1, tvv t] 73 (0, 0)
                  have hS11 := hkn.cell hS10
                  have hk911 : Kp w9 (w10.alloc (.cells #[iv ln.1, tvv t] 73)) := Kp.trans (Kp.trans hkd hk10) hkn
                  have hod := hO9.kp hkd
                  have ho11 := ho10.keep hkn
                  have hwds : wd.heap.size ≤ (w10.alloc (.cells #[iv ln.1, tvv t] 73)).heap.size := (Kp.trans hk10 hkn).size
                  clear hS10
                  unfold tvv
                  go_wp2_with fail
                  refine ⟨fun _ => hS11, ?_⟩
                  change wpAnyN _ _ _ _ _ _ _ _ _ (w10.alloc (.cells #[iv ln.1, tvv t] 73))
                  generalize w10.alloc (.cells #[iv ln.1, tvv t] 73) = w11 at *
                  obtain ⟨b4, hb4⟩ : ∃ b4, b4 = w10.heap.size := ⟨_, rfl⟩
                  rw [← hb4] at hcs ⊢
                  clear hb4 hkn
                  refine anyP_one 5 (by kernel_rfl) ?_
                  simp only [opsAt, List.getElem?_toArray, List.getElem?_cons_zero, List.getElem?_cons_succ]
                  have hO11 := hO9.kp hk911
                  have hbs : w5.heap.size ≤ w11.heap.size := Nat.le_trans hs9 hk911.size
                  have hln := hO9.len
                  go_wp2_with (at_builtin; go_loud (refine wpList_app rfl (.tmp 39) (.tmp 42) 24 rfl el24 w5.heap.size rfl hO11.ol rfl [iv ln.1, tvv t] rfl hcs (by simp [Value.oneCell', tvv]) (tl.n + 1) rfl (lnc (S.ls ++ [ln]) (ts ++ [t])) (lnc_append _ _ hln) (by have := Hn.out; omega) hbs ?_); intro ao2 cap2 w12 ha)
                  have hn3 : bP ∉ blkL tl.ao := fun h => by have := (hO9.row (i := 2) h).1; omega
                  have hnR : bR ∉ blkL tl.ao := fun h => by have := (hO9.row (i := 2) h).1; omega
                  have hS12 := ha.fr.cell hS11 hn3
                  refine ⟨fun _ => hS12, ?_⟩
                  refine anyP_take (puts_keep (by kernel_rfl)) [6] (by kernel_rfl) hS12 ?_
                  simp only [opsAt, List.getElem?_toArray, List.getElem?_cons_zero, List.getElem?_cons_succ]
                  repeat (go_big_quiet_step (fail))
                  refine wpQuiet_nil ?_
                  refine anyP_one 7 (by kernel_rfl) ?_
                  simp only [opsAt, List.getElem?_toArray, List.getElem?_cons_zero, List.getElem?_cons_succ]
                  have hset := Fr.set w12 ⟨bP, 3, none⟩ (.slice ao2 (tl.n + 1) cap2)
                  have hO12 := (hO11.appw (l := ln) (t := t) (s := wd.heap.size) (ho11.mono (fun k hk => by have := (ho11.lt k hk).1; have := hkd.size; omega)) (fun i y hy => (hod.row hy).2) (fun y hy => (ho11.lt y (mem_blkL.1 hy)).1) ha).fr hset (fun j hj => .inl (by simp at hj; omega))
                  have hP12 := ((hP9.kp hk911).fr ha.fr hn3).set3 (.slice ao2 (tl.n + 1) cap2)
                  have hf12 := ((hP9.kp hk911).fr ha.fr hn3).f3
                  have hR12 := ((HR9.out.kp hk911).fr ha.fr hnR).fr hset (by simp; omega)
                  have hF12 : Fr [bP, bR] w5 (w12.setCell ⟨bP, 3, none⟩ (.slice ao2 (tl.n + 1) cap2)) := ((hF59.trans ((Fr.of_kp hk911).mono (by simp))).step ha.fr (fun j hj => .inr (hO11.row (i := 2) hj).1)).trans (hset.mono (by simp))
                  have Hfin := Lib.hid (And.intro hF12 (And.intro hP12 (And.intro hR12 hO12)))
                  have Hms := Lib.hid (show lenAt (w12.setCell ⟨bP, 3, none⟩ (.slice ao2 (tl.n + 1) cap2)) bR = r1.length by unfold lenAt; rw [hR12.c]; exact bs_size r1)
                  clear hset hO12 hP12 hR12 hF12 ha hcs hO11 hod ho11 ho10
                  go_wp2_with fail
                  refine ⟨fun h => absurd rfl h, ?_⟩
                  refine anyP_end (by kernel_rfl) ?_
                  clear hS12 hf12 hS11
                  go_wp2_with fail
                  go_roundw
                  case rel => exact ⟨{ S with ls := S.ls ++ [ln] }, r1, t0, t1, ⟨ao2, tl.n + 1, cap2⟩, ts ++ [t], rfl, Hfin.out.1, Hfin.out.2.1, Hfin.out.2.2.1, Hfin.out.2.2.2, HG2.out, by simp; omega, fun l' hl' => by
                    simp only [List.mem_append, List.mem_singleton] at hl'
                    rcases hl' with h | rfl
                    · exact HL.out l' h
                    · exact Hlf.out⟩
                  case measure => rw [Hms.out, hlen]; exact hr1
end Go.Proofs.YtkmejehhdjdlbaaGreatDoor
