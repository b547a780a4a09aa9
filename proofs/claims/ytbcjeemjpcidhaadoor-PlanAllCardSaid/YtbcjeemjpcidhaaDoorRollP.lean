/- 'Roll' up to its first label. Conditions: the moves lie there (Mvs). -/
import Derived.Test.YtbcjeemjpcidhaaDoorRollHT
import Derived.Test.YtbcjeemjpcidhaaDoorRollHF
import Derived.Test.YtbcjeemjpcidhaaDoorPa4
import Derived.Test.YtbcjeemjpcidhaaDoorUnrollT
import Derived.Test.YtbcjeemjpcidhaaDoorUnrollF
import Derived.Test.YtbcjeemjpcidhaaDoorPa1
import Derived.Test.YtbcjeemjpcidhaaDoorPa2
import Derived.Test.YtbcjeemjpcidhaaDoorAll
import Derived.Test.YtbcjeemjpcidhaaDoorTakes
import Derived.Test.YtbcjeemjpcidhaaDoorShaped
namespace Go.Proofs.YtbcjeemjpcidhaaDoor
open Go.RowKit

theorem wpList_range58 {w : World} {ops : Array Oper} {rest : List Oper} {o : Oper} {a : Act} {Q : Exit → Act → World → Prop} (hg : o.guard = none) (m : Operand) (hop : o.op = Op.range 57 m) {b : Nat} {es : Array MapEntry} {clock : Nat} (hm : a.eval m = .map (some b)) (h : w.heap[b]? = some (.map es clock))
    (hK : wpList Tryd.prog ops Q rest (a.put o.dst (.pointer (some ⟨w.heap.size, 0, none⟩))) (w.alloc (.mapIter (some b) clock #[] clock))) : wpList Tryd.prog ops Q (o :: rest) a w := by
  refine wpList_plain hg fun K' hK' => ?_
  unfold Oper.wp
  simp [execOp, hop, hm, run_range_map w 57 _ _ b es clock Tryd.underlying57 h, Result.andThen]
  exact hK' _ _ hK
theorem wpList_next {P : Program} {w : World} {ops : Array Oper} {rest : List Oper} {o : Oper} {a : Act} {Q : Exit → Act → World → Prop} (hg : o.guard = none) (it : Operand) (hop : o.op = Op.next it false) {b r : Nat} {es : Array MapEntry} {seen : Array Nat} (hit : a.eval it = .pointer (some ⟨r, 0, none⟩)) (h : Rg w b r es seen)
    (hDone : (leftOf es seen).size = 0 → wpList P ops Q rest (a.put o.dst (.tuple #[.bool false])) w)
    (hMore : ∀ e ∈ es.toList, ∀ w', Rg w' b r es (seen.push e.born) → (leftOf es (seen.push e.born)).size < (leftOf es seen).size → Fr [r] w w' → (Instr.entry (.pointer (some ⟨r, 0, none⟩))).run P w' = .ok (.tuple #[e.key, e.val]) w' → wpList P ops Q rest (a.put o.dst (.tuple #[.bool true, e.key, e.val])) w') :
    wpList P ops Q (o :: rest) a w := by
  refine wpList_plain hg fun K' hK' => ?_
  unfold Oper.wp
  rcases h.next (P := P) o.type with ⟨h0, hrun⟩ | ⟨e, he, w', hrun, hrg, hlt, hfr, hen⟩
  · simp [execOp, hop, hit, hrun, Result.andThen]
    exact hK' _ _ (hDone h0)
  · simp [execOp, hop, hit, hrun, Result.andThen]
    exact hK' _ _ (hMore e he w' hrg hlt hfr hen)

theorem wp_makeMap68 {w : World} {o : Oper} {a : Act} {Kc : Act → World → Prop} {Q : Exit → Act → World → Prop} (hop : o.op = .makeMap 64 none) (hK : Kc (a.put o.dst (.map (some w.heap.size))) (w.alloc (.map #[] 0))) : o.wp Tryd.prog a w Kc Q := by
  unfold Oper.wp
  simp [execOp, hop, Result.andThen]
  exact hK

/-- What has come out of the loop over the tokens' moves. -/
def Sn (ini : Bool) (es : Array MapEntry) (seen : Array Nat) (m : Mv) : Prop := five m ∨ ∃ x ∈ es.toList, seen.contains x.born = true ∧ ∃ k : TK, x.key = keyV k ∧ movesL ini k.1 k.2 = [m] ∧ m.op = 11
theorem Sn.push {ini : Bool} {es : Array MapEntry} {seen : Array Nat} {e : MapEntry} {k : TK} {S : Mv → Prop} (hn : (es.toList.map (·.born)).Nodup) (he : e ∈ es.toList) (hk : e.key = keyV k) (h1 : ∀ m, Sn ini es seen m → S m) (h2 : ∀ m, movesL ini k.1 k.2 = [m] → m.op = 11 → S m) : ∀ m, Sn ini es (seen.push e.born) m → S m := by
  intro m hm
  rcases hm with h | ⟨x, hx, hs, k', hk', hm, h11⟩
  · exact h1 m (.inl h)
  · rw [contains_push] at hs
    simp only [Bool.or_eq_true, beq_iff_eq] at hs
    rcases hs with hs | hs
    · exact h1 m (.inr ⟨x, hx, hs, k', hk', hm, h11⟩)
    · obtain rfl := born_inj hn hx he hs
      rw [hk] at hk'
      obtain rfl := keyV_inj hk'
      exact h2 m hm h11

/-- The jumps of 'Roll', wherever its variables lie. -/
def JX (w0 : World) (ini : Bool) (lo : Option Addr) (n c : Nat) (ms : List Mv) (l : Nat) (a : Act) (w : World) : Prop := ∃ B br bp bm rm, Lay w0 B br bp bm rm ∧ J19 w0 B br bp bm rm ini lo n c ms l a w

theorem wp_skip_seq {P : Program} {c : Code} {Q : Exit → Act → World → Prop} {a : Act} {w : World} (h : c.wp P Q a w) : (Code.seq .skip c).wp P Q a w := wp_seq (wp_skip h)
theorem roll_first {w0 w : World} {B br bp bm rm n c : Nat} {ini : Bool} {lo : Option Addr} {ms : List Mv} {Q : Exit → Act → World → Prop} {a : Act} (hL : Lay w0 B br bp bm rm) (hms : Mvs w0 lo n ms) (hn : n ≤ 1000) (hJ : J19 w0 B br bp bm rm ini lo n c ms 1 a w) :
    (restOf Tryd.f6 1).wp Tryd.prog (Exit.jumps (JX w0 ini lo n c ms) Q) a w := by
  cases ini with
  | true => exact jumps_rest (roll_ahead_true w0 B br bp bm rm hL lo n c ms hms hn Q a w hJ) (fun l a' w' h => ⟨B, br, bp, bm, rm, hL, h.1⟩)
  | false => exact jumps_rest (roll_ahead_false w0 B br bp bm rm hL lo n c ms hms hn Q a w hJ) (fun l a' w' h => ⟨B, br, bp, bm, rm, hL, h.1⟩)

theorem rollS_len (ini : Bool) (s : Pt) (m : Mv) (k : Nat) (h : ∀ l ∈ s.2, l.2.length ≤ k) : ∀ l ∈ (rollS ini s m).2, l.2.length ≤ k + 1 := by
  have h' : ∀ l ∈ s.2, l.2.length ≤ k + 1 := fun l hl => Nat.le_succ_of_le (h l hl)
  intro l hl
  unfold rollS at hl
  split at hl
  · rcases List.mem_append.1 hl with q | q
    · exact h' l q
    · simp at q; subst q; simp
  · split at hl
    · rcases List.mem_append.1 hl with q | q
      · exact h' l q
      · simp at q; subst q; simp
    · split at hl
      · split at hl
        · exact h' l hl
        · split at hl
          · exact h' l hl
          · exact h' l hl
      · split at hl
        · unfold addT at hl
          rcases List.mem_append.1 hl with q | q
          · exact h' l (List.dropLast_subset _ q)
          · cases hg : s.2.getLast? with
            | none => rw [hg] at q; simp at q
            | some x =>
              rw [hg] at q
              simp at q
              subst q
              have := h x (List.mem_of_getLast? hg)
              simp; omega
        · exact h' l hl
theorem fold_len (ini : Bool) : ∀ (ms : List Mv) (s : Pt) (k : Nat), (∀ l ∈ s.2, l.2.length ≤ k) → ∀ l ∈ (ms.foldl (rollS ini) s).2, l.2.length ≤ k + ms.length
  | [], _, _, h => h
  | m :: r, s, k, h => by
    have := fold_len ini r (rollS ini s m) (k + 1) (rollS_len ini s m k h)
    intro l hl
    have := this l hl
    simp only [List.length_cons]; omega
theorem Fr.set4 (w : World) (b : Nat) (x0 x1 x2 x3 : Value) : Fr [b] w ((((w.setCell ⟨b, 0, none⟩ x0).setCell ⟨b, 1, none⟩ x1).setCell ⟨b, 2, none⟩ x2).setCell ⟨b, 3, none⟩ x3) :=
  (((Fr.set w ⟨b, 0, none⟩ x0).trans (Fr.set _ ⟨b, 1, none⟩ x1)).trans (Fr.set _ ⟨b, 2, none⟩ x2)).trans (Fr.set _ ⟨b, 3, none⟩ x3)
theorem Free4.set4 {w : World} {b : Nat} (h : Free4 w b) (x0 x1 x2 x3 : Value) : ∃ w', w' = ((((w.setCell ⟨b, 0, none⟩ x0).setCell ⟨b, 1, none⟩ x1).setCell ⟨b, 2, none⟩ x2).setCell ⟨b, 3, none⟩ x3) ∧ Fr [b] w w' ∧ w'.cell? ⟨b, 0, none⟩ = some x0 ∧ w'.cell? ⟨b, 1, none⟩ = some x1 ∧ w'.cell? ⟨b, 2, none⟩ = some x2 ∧ w'.cell? ⟨b, 3, none⟩ = some x3 := by
  obtain ⟨y0, y1, y2, y3, ⟨h0, h1, h2, h3⟩, _⟩ := h
  refine ⟨_, rfl, Fr.set4 w b x0 x1 x2 x3, ?_, ?_, ?_, ?_⟩
  · rw [World.cell?_setCell_other _ _ _ _ (by simp), World.cell?_setCell_other _ _ _ _ (by simp), World.cell?_setCell_other _ _ _ _ (by simp)]
    exact World.cell?_setCell_same _ _ _ h0
  · rw [World.cell?_setCell_other _ _ _ _ (by simp), World.cell?_setCell_other _ _ _ _ (by simp)]
    exact World.cell?_setCell_same _ _ _ (by rw [World.cell?_setCell_other _ _ _ _ (by simp)]; exact h1)
  · rw [World.cell?_setCell_other _ _ _ _ (by simp)]
    exact World.cell?_setCell_same _ _ _ (by rw [World.cell?_setCell_other _ _ _ _ (by simp), World.cell?_setCell_other _ _ _ _ (by simp)]; exact h2)
  · exact World.cell?_setCell_same _ _ _ (by rw [World.cell?_setCell_other _ _ _ _ (by simp), World.cell?_setCell_other _ _ _ _ (by simp), World.cell?_setCell_other _ _ _ _ (by simp)]; exact h3)
/-- What 'Roll' leaves. -/
def RollPost (w : World) (E : Nat → Addr) (ini : Bool) (ms : List Mv) (e : Ending) (w' : World) : Prop := Kp w w' ∧ match rolledL ini ms with
  | some p => ∃ t0 t1 tl ts, e = .returned (.tuple #[.agg #[.string ⟨#[]⟩, tvv t0, tvv t1, tvv tl], .nilIface]) ∧ PatO w' w.heap.size t0 t1 tl ts p.1.1 p.1.2 p.2
  | none => e = .returned (.tuple #[.agg #[.string ⟨#[]⟩, .slice none 0 0, .slice none 0 0, .slice none 0 0], errV E 9])
theorem unrollR_any (ini : Bool) (w : World) (E : Nat → Addr) (hE : Errs w E) (nm : ByteArray) (a0 a1 al : Option Addr) (n0 c0 n1 c1 nl cl : Nat) (b0 b1 : List Int) (ls : List Ln) (h0 : Is w a0 n0 b0) (h1 : Is w a1 n1 b1) (hl : Lns w al nl ls) :
    Calls Tryd.prog 5 #[.agg #[.string nm, .slice a0 n0 c0, .slice a1 n1 c1, .slice al nl cl], .bool ini] w (UnrollPost w E ini b0 b1 ls) := by
  cases ini with
  | true => exact unroll_true w E hE nm a0 a1 al n0 c0 n1 c1 nl cl b0 b1 ls h0 h1 hl
  | false => exact unroll_false w E hE nm a0 a1 al n0 c0 n1 c1 nl cl b0 b1 ls h0 h1 hl

set_option maxRecDepth 100000 in
set_option maxHeartbeats 8000000 in
theorem roll_any (w : World) (E : Nat → Addr) (hE : Errs w E) (ini : Bool) (lo : Option Addr) (n c : Nat) (ms : List Mv) (hms : Mvs w lo n ms) (hn : n ≤ 1000) : Calls Tryd.prog 6 #[.slice lo n c, .bool ini] w (RollPost w E ini ms) := by
  have HE := Lib.hid hE
  clear hE
  have hM := Lib.hid hms
  clear hms
  have hk0 := Kp.new w (.cells #[.string ⟨#[]⟩, .slice none 0 0, .slice none 0 0, .slice none 0 0] 29)
  have hR0 := Free4.of w (.string ⟨#[]⟩) (.slice none 0 0) (.slice none 0 0) (.slice none 0 0) 29
  have hs0 : w.heap.size < (w.alloc (.cells #[.string ⟨#[]⟩, .slice none 0 0, .slice none 0 0, .slice none 0 0] 29)).heap.size := by simp
  go_enter Tryd.func6, Tryd.ntmps6
  go_wp2_with fail
  obtain ⟨br, hbr⟩ : ∃ br, br = w.heap.size := ⟨_, rfl⟩
  rw [← hbr]
  rw [← hbr] at hR0 hs0
  generalize w.alloc (.cells #[.string ⟨#[]⟩, .slice none 0 0, .slice none 0 0, .slice none 0 0] 29) = w1 at *
  have hb0 : w.heap.size ≤ br := by omega
  clear hbr
  refine wp_scope_labels (JX w ini lo n c ms) (mu19 n) ?_ ?_
  · have hA := At4.new w1 ⟨#[]⟩
    have hkA := Kp.new w1 (.cells #[.string ⟨#[]⟩, .slice none 0 0, .slice none 0 0, .slice none 0 0] 29)
    go_upto_region 3 with fail
    have hsA : w1.heap.size < (w1.alloc (.cells #[.string ⟨#[]⟩, .slice none 0 0, .slice none 0 0, .slice none 0 0] 29)).heap.size := by simp
    obtain ⟨bp, hbp⟩ : ∃ bp, bp = w1.heap.size := ⟨_, rfl⟩
    rw [← hbp]
    rw [← hbp] at hA hsA hs0
    generalize w1.alloc (.cells #[.string ⟨#[]⟩, .slice none 0 0, .slice none 0 0, .slice none 0 0] 29) = w2 at *
    replace hk0 := Kp.trans hk0 hkA
    replace hR0 := hR0.fr (Fr.of_kp hkA) (by simp)
    clear hbp hkA
    go_upto_if 20 with fail
    go_cut [7, 8] (fun x y wc => x = iv (sideOf ini) ∧ y = iv (1 - sideOf ini) ∧ wc = w2)
    case first =>
      cases ini with
      | true =>
        go_wp2_with fail
        go_meet
        case rel => exact ⟨rfl, rfl, rfl⟩
      | false =>
        go_wp2_with fail
        go_meet
        case rel => exact ⟨rfl, rfl, rfl⟩
    case rest =>
    obtain ⟨rfl, rfl, rfl⟩ := hcut
    have hFm := Free3.of wc (iv 0) (iv 0) (iv 0) 56
    have hkB := Kp.new wc (.cells #[iv 0, iv 0, iv 0] 56)
    go_upto_region 7 with fail
    have hsB : wc.heap.size < (wc.alloc (.cells #[iv 0, iv 0, iv 0] 56)).heap.size := by simp
    obtain ⟨bm, hbm⟩ : ∃ bm, bm = wc.heap.size := ⟨_, rfl⟩
    rw [← hbm]
    rw [← hbm] at hFm hsB hsA
    generalize wc.alloc (.cells #[iv 0, iv 0, iv 0] 56) = w3 at *
    replace hk0 := Kp.trans hk0 hkB
    replace hR0 := hR0.fr (Fr.of_kp hkB) (by simp)
    replace hA := hA.kp hkB
    clear hbm hkB
    refine any_start (by kernel_rfl) ?_
    generalize hwd : w3.drew = wd
    have hkd : Kp w3 wd := hwd ▸ (⟨rfl, rfl, rfl, Nat.le_refl _, fun _ _ => rfl⟩ : Kp w3 w3.drew)
    clear hwd
    replace hk0 := Kp.trans hk0 hkd
    replace hR0 := hR0.fr (Fr.of_kp hkd) (by simp)
    replace hA := hA.kp hkd
    replace hFm := hFm.fr (Fr.of_kp hkd) (by simp)
    replace hsB := Nat.lt_of_lt_of_le hsB hkd.size
    clear hkd
    refine any_take [1, 3, 5, 7, 9] (by kernel_rfl) ?_
    simp only [opsAt, List.getElem?_toArray, List.getElem?_cons_zero, List.getElem?_cons_succ]
    repeat (go_big_quiet_step (fail))
    refine wpQuiet_nil ?_
    refine any_one 0 (by kernel_rfl) ?_
    simp only [opsAt, List.getElem?_toArray, List.getElem?_cons_zero]
    have hBk := Bk.new wd 0 ini
    have hkm := Kp.new wd (.map #[] 0)
    refine wpList_plain rfl fun K' hK' => wp_makeMap68 rfl (hK' _ _ ?_)
    clear hK'
    go_wp2_with fail
    obtain ⟨rm, hrm⟩ : ∃ rm, rm = wd.heap.size := ⟨_, rfl⟩
    rw [← hrm]
    rw [← hrm] at hBk hsB
    generalize wd.alloc (.map #[] 0) = w4 at *
    replace hk0 := Kp.trans hk0 hkm
    replace hR0 := hR0.fr (Fr.of_kp hkm) (by simp)
    replace hA := hA.kp hkm
    replace hFm := hFm.fr (Fr.of_kp hkm) (by simp)
    clear hrm hkm
    generalize ha0 : ({ tmps := _, defers := [] } : Act) = a0
    have hread : a0.eval (.tmp 24) = .map (some rm) ∧ a0.eval (.tmp 25) = mvv ⟨7, 1, 0⟩ ∧ a0.eval (.tmp 26) = mvv ⟨8, 3, 0⟩ ∧ a0.eval (.tmp 27) = mvv ⟨9, 2, 0⟩ ∧ a0.eval (.tmp 28) = mvv ⟨10, 4, 0⟩ ∧ a0.eval (.tmp 29) = mvv ⟨12, 0, 0⟩ := by
      rw [← ha0]; exact ⟨rfl, rfl, rfl, rfl, rfl, rfl⟩
    obtain ⟨r24, r25, r26, r27, r28, r29⟩ := hread
    have r30 : (a0.put (some 30) (.map (some rm))).eval (.tmp 30) = .map (some rm) := by rw [← ha0]; rfl
    have hrw : ∀ w', Fr [rm] w4 w' → rm < w'.heap.size := fun w' k => Nat.lt_of_lt_of_le hBk.lt k.size
    refine any_inv (I := Inv7 a0 w4 rm ini) ?_ ?_ _ _ _ _ (of_decide_eq_true (by kernel_rfl)) ?_
    · intro l a w5 hI hr
      obtain ⟨hsz, hn, hy, hFr, hB, hp⟩ := hI
      have hall := all_listed (by kernel_rfl) (hsz.trans (by kernel_rfl)) hr
      have hall' : ∀ i, i < 13 → l.getD i true = true := hall
      obtain ⟨_, rfl⟩ := hy (hall' 11 (by omega))
      rw [hall' 12 (by omega)]
      replace hB := hB.mono (got_all l hall')
      clear hn hy hall hall' hr hsz hp
      subst ha0
      simp only [if_true, Act.put, List.setIfInBounds_toArray, List.set_cons_zero, List.set_cons_succ]
      have hb1 : br ∉ [rm] := by simp; omega
      have hb2 : bp ∉ [rm] := by simp; omega
      have hb3 : bm ∉ [rm] := by simp; omega
      replace hk0 : Kp w w5 := ((Fr.of_kp hk0).step hFr (fun j hj => .inr (by simp at hj; omega))).kp
      replace hR0 := hR0.fr hFr hb1
      replace hA := hA.fr hFr hb2
      replace hFm := hFm.fr hFr hb3
      have hrm5 := hB.lt
      clear hBk hrw hFr hb1 hb2 hb3 r24 r25 r26 r27 r28 r29 r30
      have HMv := Lib.hid (moves_any w5 ini)
      go_wp2_with fail
      (with_reducible refine HMv.out.mono ?_)
      rintro e w6 ⟨mm, rfl, hMap, hk6⟩
      obtain ⟨es, clock, hheap, hes, hK, hSt⟩ := hMap
      replace hk0 := Kp.trans hk0 hk6
      replace hR0 := hR0.fr (Fr.of_kp hk6) (by simp)
      replace hA := hA.kp hk6
      replace hFm := hFm.fr (Fr.of_kp hk6) (by simp)
      replace hB := hB.fr (Fr.of_kp hk6) (by simp)
      have hmmr : mm ∉ [rm] := fun hq => by
        simp only [List.mem_singleton] at hq
        subst hq
        obtain ⟨D, ⟨arr, cl, hh, hh2, _⟩, _, _⟩ := hB
        rw [hheap] at hh
        simp only [Option.some.injEq, Obj.map.injEq] at hh
        obtain ⟨rfl, _⟩ := hh
        obtain ⟨x, hx, hkey⟩ := hK (3, true) (by decide)
        obtain ⟨m, t, hm, _⟩ := hh2 x hx
        rw [hkey] at hm
        simp only [keyV, mvv, Value.agg.injEq] at hm
        have := congrArg Array.size hm
        simp at this
      have hRg := Rg.start hheap hSt
      have hki := Kp.new w6 (.mapIter (some mm) clock #[] clock)
      have Hes := Lib.hid hes
      clear hes HMv
      go_wp2_with (at_range; refine wpList_range58 rfl (.tmp 32) rfl rfl hheap ?_)
      go_frame
      obtain ⟨it, hit⟩ : ∃ it, it = w6.heap.size := ⟨_, rfl⟩
      have hrmI : rm ∉ [it] := by have := hk6.size; simp; omega
      have hEn : ∀ e ∈ es.toList, ∃ k ∈ KK 2, e.key = keyV k ∧ ∃ ao n cap, e.val = .slice ao n cap ∧ Mvs (w6.alloc (.mapIter (some mm) clock #[] clock)) ao n (movesL ini k.1 k.2) ∧ ∀ j ∈ blkL ao, j ∉ [rm, it] := fun e he => by
        obtain ⟨k, hk, hkey, ao, n, cap, hv, hm, hb⟩ := Hes.out e he
        refine ⟨k, hk, hkey, ao, n, cap, hv, hki.mvs hm, fun j hj hx => ?_⟩
        have h1 := hb j hj
        obtain ⟨_, _, hcs⟩ := hm
        have h2 : j < w6.heap.size := by
          rcases ao with _ | ⟨b, off, ix⟩
          · simp [blkL, blk] at hj
          · cases ix with
            | some _ => 
              cases hml : (movesL ini k.1 k.2).flatMap mvc with
              | nil =>
                exfalso
                have : (movesL ini k.1 k.2).length * 3 = 0 := by rw [← mvc_length, hml]; rfl
                have h3 : (movesL ini k.1 k.2).length ≠ 0 := by
                  unfold movesL; repeat' split
                  all_goals simp
                omega
              | cons v vs =>
                obtain ⟨b', off', e, _⟩ := hcs 0 v (by rw [hml]; rfl)
                cases e
            | none =>
              cases hml : (movesL ini k.1 k.2).flatMap mvc with
              | nil =>
                exfalso
                have : (movesL ini k.1 k.2).length * 3 = 0 := by rw [← mvc_length, hml]; rfl
                have h3 : (movesL ini k.1 k.2).length ≠ 0 := by
                  unfold movesL; repeat' split
                  all_goals simp
                omega
              | cons v vs =>
                obtain ⟨b', off', e, hc⟩ := hcs 0 v (by rw [hml]; rfl)
                cases e
                have := World.block_lt_of_cell? w6 _ hc
                rw [mem_blkL_some] at hj
                subst hj; exact this
        simp only [List.mem_cons, List.not_mem_nil, or_false] at hx
        rcases hx with q | q <;> omega
      have HEn := Lib.hid hEn
      replace hk0 := Kp.trans hk0 hki
      replace hR0 := hR0.fr (Fr.of_kp hki) (by simp)
      replace hA := hA.kp hki
      replace hFm := hFm.fr (Fr.of_kp hki) (by simp)
      replace hB := hB.fr (Fr.of_kp hki) (by simp)
      have hnd := hSt.2
      have hitr : it ∉ [rm] := by have := hk6.size; simp; omega
      clear Hes hEn
      rw [← hit]
      rw [← hit] at hRg
      have hitl : rm < it := by have := hk6.size; omega
      generalize w6.alloc (.mapIter (some mm) clock #[] clock) = wl at *
      clear hheap hki hk6 hit
      go_loopw [14] (fun _ wr => ∃ seen, Rg wr mm it es seen ∧ Bk wr rm ini (Sn ini es seen) ∧ Fr [rm, it] wl wr) (fun _ wr => wr.rangeLeft mm it)
      case atStart => exact ⟨#[], hRg, hB.mono (fun m hm => by
        rcases hm with h | ⟨x, _, h, _⟩
        · exact h
        · simp at h), Fr.refl _ _⟩
      case round =>
        obtain ⟨seen, hRg, hB, hFl⟩ := hrel
        have hleft := hRg.left
        go_wp2_with (at_next; refine wpList_next rfl (.tmp 33) rfl rfl hRg ?_ ?_)
        · intro h0
          replace h0 : (leftOf es seen).size = 0 := by simpa using h0
          have hbk : BkIn wr rm (backL ini) := hB.all (fun m hm => by
            rcases back_some ini m hm with h | ⟨k, hk, hmv, h11⟩
            · exact .inl h
            · obtain ⟨x, hx, hkey⟩ := hK k hk
              exact .inr ⟨x, hx, Rg.all h0 x hx, k, hkey, hmv, h11⟩)
          have n1 : br ∉ [rm, it] := by simp; omega
          have n2 : bp ∉ [rm, it] := by simp; omega
          have n3 : bm ∉ [rm, it] := by simp; omega
          have hkr : Kp w wr := ((Fr.of_kp hk0).step hFl (fun j hj => .inr (by simp at hj; omega))).kp
          have hMem : Mem19 w wr wr.heap.size br bp bm rm ini nilT nilT nilT [] initP :=
            ⟨PatO.nil wr _, hA.fr hFl n2, hFm.fr hFl n3, hbk, hR0.fr hFl n1, hkr, Nat.le_refl _⟩
          have hLay : Lay w wr.heap.size br bp bm rm := ⟨hb0, hs0, hsA, hsB, hbk.lt⟩
          go_wp2_with fail
          go_step3
          rename_i hKK
          refine hKK _ _ ?_
          clear hKK
          exact roll_first hLay hM.out hn ⟨0, sideOf ini, nilT, nilT, nilT, [], initP, by omega, F19.of .., hMem, St19.one.2 ⟨rfl, rfl⟩, by decide, by decide, by decide⟩
        · intro e he w7 hRg1 hlt hF7 hen
          obtain ⟨⟨k1, k2⟩, hk, hkey, ao, nv, cv, hval, hmv, hbl⟩ := HEn.out e (by simpa using he)
          have Hkey := Lib.hid hkey
          rw [hkey, hval] at hen
          rw [hkey, hval]
          unfold keyV at hen ⊢
          simp only at hen hmv ⊢
          have Hk := Lib.hid (show (k1, k2) ∈ KK 2 from hk)
          have hF7' : Fr [rm, it] wl w7 := hFl.trans (hF7.mono (by simp))
          have hB7 := hB.fr hF7 (by simp; omega)
          have hkc := Kp.new w7 (.cells #[iv k1, .bool k2] 62)
          have hmv1 := hmv
          replace hmv := hkc.mvs (hF7'.mvs hmv hbl)
          have hB8 := hB7.fr (Fr.of_kp hkc) (by simp)
          have Hl := Lib.hid hleft
          have Hlt := Lib.hid hlt
          have hml := hmv.1
          clear hk hkey hleft hlt hbl hval hmv1 hRg
          have hRg2 := hRg1.fr (Fr.of_kp hkc) (by simp) (by simp)
          by_cases h1 : nv = 1
          · subst h1
            obtain ⟨m, hms1⟩ := List.length_eq_one_iff.1 hml
            have Hms := Lib.hid hms1
            rw [hms1] at hmv
            clear hms1 hml
            obtain ⟨b', off', rfl, hc⟩ := hmv.at 0 (by omega)
            obtain ⟨g1, g2, g3⟩ := hc 0 (by omega)
            simp only [List.getElem_cons_zero, Nat.zero_mul, Nat.add_zero] at g1 g2 g3
            clear hc hmv
            by_cases h11 : m.op = 11
            · have e11 : (m.op == 11) = true := by simp [h11]
              have Hb := Lib.hid (back_share ini (k1, k2) Hk.out m Hms.out h11)
              clear h11
              go_upto_region 12 with fail
              refine region_tail 6 (by kernel_rfl) (by kernel_rfl) ?_
              have hk1c : (w7.alloc (.cells #[iv k1, .bool k2] 62)).cell? ⟨w7.heap.size, 0, none⟩ = some (iv k1) := by rw [World.cell?_alloc_at _ _ _ _ rfl]; rfl
              generalize hwd : (w7.alloc (.cells #[iv k1, .bool k2] 62)).drew = wd
              have hkd : Kp (w7.alloc (.cells #[iv k1, .bool k2] 62)) wd := hwd ▸ (⟨rfl, rfl, rfl, Nat.le_refl _, fun _ _ => rfl⟩ : Kp (w7.alloc (.cells #[iv k1, .bool k2] 62)) (w7.alloc (.cells #[iv k1, .bool k2] 62)).drew)
              clear hwd
              replace g1 := hkd.cell g1
              replace g2 := hkd.cell g2
              replace g3 := hkd.cell g3
              replace hk1c := hkd.cell hk1c
              simp only [List.take_succ_cons, List.take_zero, List.drop_succ_cons, List.drop_zero]
              repeat still_step
              refine wpStill_nil ?_
              refine wpList_bkput rfl (.tmp 49) (.tmp 52) (.tmp 54) rfl rfl (hB8.fr (Fr.of_kp hkd) (by simp)) m k1 Hb.out rfl rfl ?_
              intro w9 hB9 hF9
              have hF8 := Lib.hid (show Fr [rm, it] wl w9 from (hF7'.trans ((Fr.of_kp (Kp.trans hkc hkd)).mono (by simp))).trans (hF9.mono (by simp)))
              have hRg9 := (hRg2.fr (Fr.of_kp hkd) (by simp) (by simp)).fr hF9 hmmr hitr
              go_wp2_with fail
              go_roundw
              case rel => exact ⟨seen.push e.born, hRg9, hB9.mono (Sn.push hnd (by simpa using he) Hkey.out (fun m h => .inl h) (fun m' h h' => by rw [Hms.out] at h; simp at h; exact .inr h.symm)), hF8.out⟩
              case measure => rw [hRg9.left, Hl.out]; exact Hlt.out
            · have e11 : (m.op == 11) = false := by simp [h11]
              have Hn := Lib.hid h11
              clear h11
              go_wp2_with fail
              go_roundw
              case rel => exact ⟨seen.push e.born, hRg2, hB8.mono (Sn.push hnd (by simpa using he) Hkey.out (fun m h => h) (fun m' h h' => by rw [Hms.out] at h; simp at h; subst h; exact absurd h' Hn.out)), hF7'.trans ((Fr.of_kp hkc).mono (by simp))⟩
              case measure => rw [hRg2.left, Hl.out]; exact Hlt.out
          · have e1 : ((nv : Int) == 1) = false := by simp; omega
            have Hn := Lib.hid (show ∀ m, movesL ini k1 k2 ≠ [m] from fun m hq => h1 (by rw [← hml, hq]; rfl))
            clear h1 hml
            go_wp2_with fail
            go_roundw
            case rel => exact ⟨seen.push e.born, hRg2, hB8.mono (Sn.push hnd (by simpa using he) Hkey.out (fun m h => h) (fun m' h h' => absurd h (Hn.out m'))), hF7'.trans ((Fr.of_kp hkc).mono (by simp))⟩
            case measure => rw [hRg2.left, Hl.out]; exact Hlt.out
    · intro l a w5 i hI hi hf hd
      have hi : i < 13 := hi
      obtain ⟨hsz, hn, hy, hFr, hB, hp⟩ := hI
      have G : ∀ j, j < 13 → ∀ k, (l.setIfInBounds j true).getD k true = if k = j then true else l.getD k true := fun j hj k => set_getD l j k (by omega)
      have hsz' : ∀ j, (l.setIfInBounds j true).size = 13 := fun j => by simp [hsz]
      rcases (show i = 2 ∨ i = 4 ∨ i = 6 ∨ i = 8 ∨ i = 10 ∨ i = 11 ∨ i = 12 ∨ i ∈ [0, 1, 3, 5, 7, 9] by simp; omega) with rfl | rfl | rfl | rfl | rfl | rfl | rfl | h
      · have n11 : l.getD 11 true = false := by
          cases hq : l.getD 11 true with
          | false => rfl
          | true => have := (hy hq).1 2 (by simp); rw [hf] at this; cases this
        obtain ⟨n12, rfl⟩ := hn n11
        refine wpOp_plain rfl rfl (wp_bkput (.tmp 24) (.tmp 25) (.const (iv 1)) (.inr rfl) r24 hB ⟨7, 1, 0⟩ 1 (by cases ini <;> rfl) r25 rfl fun w' h1 h2 => ?_)
        refine ⟨hsz' 2, fun h => ?_, fun h => ?_, hFr.trans h2, h1.mono (fun x hx => ?_), fun j hj => ?_⟩
        · rw [G 2 (by omega), if_neg (by decide)]; exact ⟨n12, rfl⟩
        · rw [G 2 (by omega), if_neg (by decide), n11] at h; cases h
        · unfold got at hx ⊢
          simp only [G 2 (by omega)] at hx
          simp at hx
          rcases hx with q | q | q | q | q
          all_goals first | exact .inr q | (left; simp only [q, and_true]; simp [q]; done) | simp [q]
        · rw [G 2 (by omega)]; split; rfl; exact hp j hj
      · have n11 : l.getD 11 true = false := by
          cases hq : l.getD 11 true with
          | false => rfl
          | true => have := (hy hq).1 4 (by simp); rw [hf] at this; cases this
        obtain ⟨n12, rfl⟩ := hn n11
        refine wpOp_plain rfl rfl (wp_bkput (.tmp 24) (.tmp 26) (.const (iv 1)) (.inr rfl) r24 hB ⟨8, 3, 0⟩ 1 (by cases ini <;> rfl) r26 rfl fun w' h1 h2 => ?_)
        refine ⟨hsz' 4, fun h => ?_, fun h => ?_, hFr.trans h2, h1.mono (fun x hx => ?_), fun j hj => ?_⟩
        · rw [G 4 (by omega), if_neg (by decide)]; exact ⟨n12, rfl⟩
        · rw [G 4 (by omega), if_neg (by decide), n11] at h; cases h
        · unfold got at hx ⊢
          simp only [G 4 (by omega)] at hx
          simp at hx
          rcases hx with q | q | q | q | q
          all_goals first | exact .inr q | (left; simp only [q, and_true]; simp [q]; done) | simp [q]
        · rw [G 4 (by omega)]; split; rfl; exact hp j hj
      · have n11 : l.getD 11 true = false := by
          cases hq : l.getD 11 true with
          | false => rfl
          | true => have := (hy hq).1 6 (by simp); rw [hf] at this; cases this
        obtain ⟨n12, rfl⟩ := hn n11
        refine wpOp_plain rfl rfl (wp_bkput (.tmp 24) (.tmp 27) (.const (iv 2)) (.inr rfl) r24 hB ⟨9, 2, 0⟩ 2 (by cases ini <;> rfl) r27 rfl fun w' h1 h2 => ?_)
        refine ⟨hsz' 6, fun h => ?_, fun h => ?_, hFr.trans h2, h1.mono (fun x hx => ?_), fun j hj => ?_⟩
        · rw [G 6 (by omega), if_neg (by decide)]; exact ⟨n12, rfl⟩
        · rw [G 6 (by omega), if_neg (by decide), n11] at h; cases h
        · unfold got at hx ⊢
          simp only [G 6 (by omega)] at hx
          simp at hx
          rcases hx with q | q | q | q | q
          all_goals first | exact .inr q | (left; simp only [q, and_true]; simp [q]; done) | simp [q]
        · rw [G 6 (by omega)]; split; rfl; exact hp j hj
      · have n11 : l.getD 11 true = false := by
          cases hq : l.getD 11 true with
          | false => rfl
          | true => have := (hy hq).1 8 (by simp); rw [hf] at this; cases this
        obtain ⟨n12, rfl⟩ := hn n11
        refine wpOp_plain rfl rfl (wp_bkput (.tmp 24) (.tmp 28) (.const (iv 2)) (.inr rfl) r24 hB ⟨10, 4, 0⟩ 2 (by cases ini <;> rfl) r28 rfl fun w' h1 h2 => ?_)
        refine ⟨hsz' 8, fun h => ?_, fun h => ?_, hFr.trans h2, h1.mono (fun x hx => ?_), fun j hj => ?_⟩
        · rw [G 8 (by omega), if_neg (by decide)]; exact ⟨n12, rfl⟩
        · rw [G 8 (by omega), if_neg (by decide), n11] at h; cases h
        · unfold got at hx ⊢
          simp only [G 8 (by omega)] at hx
          simp at hx
          rcases hx with q | q | q | q | q
          all_goals first | exact .inr q | (left; simp only [q, and_true]; simp [q]; done) | simp [q]
        · rw [G 8 (by omega)]; split; rfl; exact hp j hj
      · have n11 : l.getD 11 true = false := by
          cases hq : l.getD 11 true with
          | false => rfl
          | true => have := (hy hq).1 10 (by simp); rw [hf] at this; cases this
        obtain ⟨n12, rfl⟩ := hn n11
        refine wpOp_plain rfl rfl (wp_bkput (.tmp 24) (.tmp 29) (.const (iv 7)) (.inr rfl) r24 hB ⟨12, 0, 0⟩ 7 (by cases ini <;> rfl) r29 rfl fun w' h1 h2 => ?_)
        refine ⟨hsz' 10, fun h => ?_, fun h => ?_, hFr.trans h2, h1.mono (fun x hx => ?_), fun j hj => ?_⟩
        · rw [G 10 (by omega), if_neg (by decide)]; exact ⟨n12, rfl⟩
        · rw [G 10 (by omega), if_neg (by decide), n11] at h; cases h
        · unfold got at hx ⊢
          simp only [G 10 (by omega)] at hx
          simp at hx
          rcases hx with q | q | q | q | q
          all_goals first | exact .inr q | (left; simp only [q, and_true]; simp [q]; done) | simp [q]
        · rw [G 10 (by omega)]; split; rfl; exact hp j hj
      · obtain ⟨n12, rfl⟩ := hn hf
        have d2 := getD_ft (hd _ rfl ⟨2, .data⟩ (by simp) rfl)
        have d4 := getD_ft (hd _ rfl ⟨4, .data⟩ (by simp) rfl)
        have d6 := getD_ft (hd _ rfl ⟨6, .data⟩ (by simp) rfl)
        have d8 := getD_ft (hd _ rfl ⟨8, .data⟩ (by simp) rfl)
        have d10 := getD_ft (hd _ rfl ⟨10, .data⟩ (by simp) rfl)
        refine wpOp_plain rfl rfl (wp_moveOp (.tmp 24) (.inl rfl) (.map (some rm)) r24 ?_)
        refine ⟨hsz' 11, fun h => ?_, fun h => ⟨fun j hj => ?_, ?_⟩, hFr, hB.mono (got_set l 11 (by omega) (by decide)), fun j hj => ?_⟩
        · rw [G 11 (by omega), if_pos rfl] at h; cases h
        · rw [G 11 (by omega)]
          simp only [List.mem_cons, List.not_mem_nil, or_false] at hj
          rcases hj with rfl | rfl | rfl | rfl | rfl <;> simp [*]
        · rw [show (l.setIfInBounds 11 true).getD 12 true = false by rw [G 11 (by omega), if_neg (by omega)]; exact n12]; rfl
        · rw [G 11 (by omega)]; split; rfl; exact hp j hj
      · have d11 := getD_ft (hd _ rfl ⟨11, .data⟩ (by simp) rfl)
        obtain ⟨y1, rfl⟩ := hy d11
        rw [hf]
        refine wpOp_plain rfl rfl (wp_moveOp (.tmp 30) (.inr rfl) (.map (some rm)) r30 ?_)
        refine ⟨hsz' 12, fun h => ?_, fun h => ⟨fun j hj => ?_, ?_⟩, hFr, hB.mono (got_set l 12 (by omega) (by decide)), fun j hj => ?_⟩
        · rw [G 12 (by omega), if_neg (by decide), d11] at h; cases h
        · rw [G 12 (by omega)]; split; rfl; exact y1 j hj
        · rw [G 12 (by omega), if_pos rfl]; rfl
        · rw [G 12 (by omega)]; split; rfl; exact hp j hj
      · rw [hp i h] at hf; cases hf
    · rw [show (listAll _ _).setIfInBounds _ true = #[true, true, false, true, false, true, false, true, false, true, false, false, false] by kernel_rfl]
      exact ⟨rfl, fun _ => ⟨rfl, rfl⟩, fun h => (by cases h), Fr.refl _ _, hBk.mono (fun m h => by rcases h with ⟨h, _⟩ | ⟨h, _⟩ | ⟨h, _⟩ | ⟨h, _⟩ | ⟨h, _⟩ <;> cases h), by decide⟩
  · intro l a wl hJ
    obtain ⟨B, br', bp, bm, rm, hL, hJ⟩ := hJ
    rcases (show l = 0 ∨ l = 1 ∨ l = 2 ∨ l = 3 ∨ 4 ≤ l by omega) with rfl | rfl | rfl | rfl | h4
    · refine ⟨_, rfl, ?_⟩
      refine wp_skip_seq ?_
      obtain ⟨i, from', t0, t1, tl, ts, p, hi, hF, hMm, hS, q0, q1, q2⟩ := hJ
      obtain ⟨u, rfl⟩ := hF
      obtain ⟨hi2, hfold⟩ := St19.zero.1 hS
      have hpat := hMm.pat
      have hkw := hMm.kp
      have hmlen := hM.out.1
      have hll := fold_len ini ms initP 0 (fun l hl => by simp [initP] at hl)
      rw [hfold] at hll
      have hl' : Lns wl tl.ao tl.n p.2 := hpat.lns (by omega) (fun l hl => by have := hll l hl; omega)
      obtain ⟨⟨y0, y1, y2, y3⟩, f1, f2, f3⟩ := hMm.at4
      obtain ⟨x0, x1, x2, x3, ⟨z0, z1, z2, z3⟩, g0, g1, g2, g3⟩ := hMm.res
      have hrl : rolledL ini ms = keepL ini ms p := by unfold rolledL rollL; rw [show ms.foldl (rollS ini) (([], []), []) = p from hfold]
      have HM := Lib.hid hMm
      have Hrl := Lib.hid hrl
      obtain ⟨l0, l1, l2, l3, l4⟩ := hL
      have hE2 : 0 < w.heap.size := World.block_lt_of_cell? w _ HE.out.1
      have HU := Lib.hid (unrollR_any ini wl E (hkw.errs HE.out) ⟨#[]⟩ t0.ao t1.ao tl.ao t0.n t0.c t1.n t1.c tl.n tl.c p.1.1 p.1.2 p.2 hpat.is0 hpat.is1 hl')
      have hms' := Lib.hid (Kp.mvs hkw hM.out)
      obtain ⟨⟨b0, b1⟩, ls⟩ := p
      obtain ⟨ta, tn, tc⟩ := t0
      obtain ⟨ua, un, uc⟩ := t1
      obtain ⟨va, vn, vc⟩ := tl
      unfold tvv at y1 y2 y3
      simp only at y1 y2 y3 HU Hrl
      clear hll hl' hS hfold hrl hpat hkw hMm q0 q1 q2 hi
      go_wp2_with fail
      (with_reducible refine HU.out.mono ?_)
      rintro e w2 ⟨hk2, h⟩
      have HMd := Lib.hid (HM.out.drawn hk2)
      by_cases hc : checkL b0 b1 ls = 0
      · rw [if_pos hc] at h
        obtain ⟨ao, nn, cap, rfl, hMv⟩ := h
        have hQ := Lib.hid (equal_any w2 ao lo nn n cap c _ ms hMv.mvs (Kp.mvs hk2 hms'.out))
        clear hMv
        by_cases heq : unrollL ini b0 b1 ls = ms
        · have hb : (unrollL ini b0 b1 ls == ms) = true := by simp [heq]
          have Hyes := Lib.hid (show rolledL ini ms = some ((b0, b1), ls) by rw [Hrl.out]; unfold keepL; rw [if_pos ⟨hc, heq⟩])
          clear hc heq
          go_wp2_with fail
          (with_reducible refine hQ.out.mono ?_)
          rintro e w3 ⟨rfl, hk3⟩
          rw [hb]
          have HM3 := Lib.hid (HMd.out.drawn hk3)
          obtain ⟨⟨y0, y1, y2, y3⟩, _, _, _⟩ := HM3.out.at4
          obtain ⟨x0, x1, x2, x3, ⟨z0, z1, z2, z3⟩, g0, g1, g2, g3⟩ := HM3.out.res
          unfold tvv at y1 y2 y3
          simp only at y1 y2 y3
          have Hset := Lib.hid (HM3.out.res.set4 (.string ⟨#[]⟩) (.slice ta tn tc) (.slice ua un uc) (.slice va vn vc))
          clear hk2 hk3
          go_wp2_with fail
          obtain ⟨wf, hwf, hset, k0, k1, k2, k3⟩ := Hset.out
          rw [← hwf]
          show bodyPost Tryd.prog Tryd.f6 (RollPost w E ini ms) .ret _ _
          refine bodyPost_ret (v := .tuple #[.agg #[.string ⟨#[]⟩, .slice ta tn tc, .slice ua un uc, .slice va vn vc], .nilIface]) (by simp [results, Tryd.results6, go_sem, k0, k1, k2, k3]) rfl ?_
          refine ⟨((Fr.of_kp HM3.out.kp).step hset (fun j hj => .inr (by simp at hj; omega))).kp, ?_⟩
          rw [Hyes.out]
          exact ⟨⟨ta, tn, tc⟩, ⟨ua, un, uc⟩, ⟨va, vn, vc⟩, ts, rfl, (HM3.out.pat.fr hset (by simp; omega)).base (by omega)⟩
        · have hb : (unrollL ini b0 b1 ls == ms) = false := by simp [heq]
          have Hno := Lib.hid (show rolledL ini ms = none by rw [Hrl.out]; unfold keepL; rw [if_neg (fun h => heq h.2)])
          clear hc heq
          go_upto_region 37 with fail
          go_wp2_with fail
          (with_reducible refine hQ.out.mono ?_)
          rintro e w3 ⟨rfl, hk3⟩
          rw [hb]
          go_upto_region 38 with fail
          refine any_start (by kernel_rfl) ?_
          generalize hwd : w3.drew = wd
          have hkd : Kp w3 wd := hwd ▸ (⟨rfl, rfl, rfl, Nat.le_refl _, fun _ _ => rfl⟩ : Kp w3 w3.drew)
          clear hwd
          have hkwd : Kp w wd := Kp.trans HMd.out.kp (Kp.trans hk3 hkd)
          have e9 := Kp.cell hkwd HE.out.1
          obtain ⟨x0, x1, x2, x3, ⟨z0, z1, z2, z3⟩, g0, g1, g2, g3⟩ := HMd.out.res.fr (Fr.of_kp (Kp.trans hk3 hkd)) (by simp)
          clear y0 y1 y2 y3 f1 f2 f3
          refine any_take [0] (by kernel_rfl) ?_
          simp only [opsAt, List.getElem?_toArray, List.getElem?_cons_zero]
          repeat (go_big_quiet_step (fail))
          refine wpQuiet_nil ?_
          have Hset := Lib.hid ((HMd.out.res.fr (Fr.of_kp (Kp.trans hk3 hkd)) (by simp)).set4 (.string ⟨#[]⟩) (.slice none 0 0) (.slice none 0 0) (.slice none 0 0))
          have hset := Fr.set4 wd br' (.string ⟨#[]⟩) (.slice none 0 0) (.slice none 0 0) (.slice none 0 0)
          have e9s := hset.cell e9 (by simp; omega)
          clear hset
          refine any_two 1 2 (by kernel_rfl) ?_ ?_
          · simp only [opsAt, List.getElem?_toArray, List.getElem?_cons_zero, List.getElem?_cons_succ]
            go_wp2_with fail
            refine any_one 2 (by kernel_rfl) ?_
            simp only [opsAt, List.getElem?_toArray, List.getElem?_cons_zero, List.getElem?_cons_succ]
            go_wp2_with fail
            refine any_one 3 (by kernel_rfl) ?_
            simp only [opsAt, List.getElem?_toArray, List.getElem?_cons_zero, List.getElem?_cons_succ]
            go_wp2_with fail
            refine any_end (by kernel_rfl) ?_
            go_wp2_with fail
            obtain ⟨wf, hwf, hset, k0, k1, k2, k3⟩ := Hset.out
            rw [← hwf]
            show bodyPost Tryd.prog Tryd.f6 (RollPost w E ini ms) .ret _ _
            refine bodyPost_ret (v := .tuple #[.agg #[.string ⟨#[]⟩, .slice none 0 0, .slice none 0 0, .slice none 0 0], .iface 154 (.pointer (some (E 9)))]) (by simp [results, Tryd.results6, go_sem, k0, k1, k2, k3]) rfl ?_
            exact ⟨((Fr.of_kp hkwd).step hset (fun j hj => .inr (by simp at hj; omega))).kp, by rw [Hno.out]; rfl⟩
          · simp only [opsAt, List.getElem?_toArray, List.getElem?_cons_zero, List.getElem?_cons_succ]
            go_wp2_with fail
            refine any_one 1 (by kernel_rfl) ?_
            simp only [opsAt, List.getElem?_toArray, List.getElem?_cons_zero, List.getElem?_cons_succ]
            go_wp2_with fail
            refine any_one 3 (by kernel_rfl) ?_
            simp only [opsAt, List.getElem?_toArray, List.getElem?_cons_zero, List.getElem?_cons_succ]
            go_wp2_with fail
            refine any_end (by kernel_rfl) ?_
            go_wp2_with fail
            obtain ⟨wf, hwf, hset, k0, k1, k2, k3⟩ := Hset.out
            rw [← hwf]
            show bodyPost Tryd.prog Tryd.f6 (RollPost w E ini ms) .ret _ _
            refine bodyPost_ret (v := .tuple #[.agg #[.string ⟨#[]⟩, .slice none 0 0, .slice none 0 0, .slice none 0 0], .iface 154 (.pointer (some (E 9)))]) (by simp [results, Tryd.results6, go_sem, k0, k1, k2, k3]) rfl ?_
            exact ⟨((Fr.of_kp hkwd).step hset (fun j hj => .inr (by simp at hj; omega))).kp, by rw [Hno.out]; rfl⟩
      · rw [if_neg hc] at h
        have Hno := Lib.hid (show rolledL ini ms = none by rw [Hrl.out]; unfold keepL; rw [if_neg (fun h => hc h.1)])
        rw [show errV E (checkL b0 b1 ls) = .iface 154 (.pointer (some (E (checkL b0 b1 ls)))) by unfold errV; rw [if_neg hc]] at h
        subst h
        generalize checkL b0 b1 ls = cc at *
        clear hc
        go_upto_region 38 with fail
        refine any_start (by kernel_rfl) ?_
        generalize hwd : w2.drew = wd
        have hkd : Kp w2 wd := hwd ▸ (⟨rfl, rfl, rfl, Nat.le_refl _, fun _ _ => rfl⟩ : Kp w2 w2.drew)
        clear hwd
        have hkwd : Kp w wd := Kp.trans HMd.out.kp hkd
        have e9 := Kp.cell hkwd HE.out.1
        obtain ⟨x0, x1, x2, x3, ⟨z0, z1, z2, z3⟩, g0, g1, g2, g3⟩ := HMd.out.res.fr (Fr.of_kp hkd) (by simp)
        clear y0 y1 y2 y3 f1 f2 f3
        refine any_take [0] (by kernel_rfl) ?_
        simp only [opsAt, List.getElem?_toArray, List.getElem?_cons_zero]
        repeat (go_big_quiet_step (fail))
        refine wpQuiet_nil ?_
        have Hset := Lib.hid ((HMd.out.res.fr (Fr.of_kp hkd) (by simp)).set4 (.string ⟨#[]⟩) (.slice none 0 0) (.slice none 0 0) (.slice none 0 0))
        have hset := Fr.set4 wd br' (.string ⟨#[]⟩) (.slice none 0 0) (.slice none 0 0) (.slice none 0 0)
        have e9s := hset.cell e9 (by simp; omega)
        clear hset
        refine any_two 1 2 (by kernel_rfl) ?_ ?_
        · simp only [opsAt, List.getElem?_toArray, List.getElem?_cons_zero, List.getElem?_cons_succ]
          go_wp2_with fail
          refine any_one 2 (by kernel_rfl) ?_
          simp only [opsAt, List.getElem?_toArray, List.getElem?_cons_zero, List.getElem?_cons_succ]
          go_wp2_with fail
          refine any_one 3 (by kernel_rfl) ?_
          simp only [opsAt, List.getElem?_toArray, List.getElem?_cons_zero, List.getElem?_cons_succ]
          go_wp2_with fail
          refine any_end (by kernel_rfl) ?_
          go_wp2_with fail
          obtain ⟨wf, hwf, hset, k0, k1, k2, k3⟩ := Hset.out
          rw [← hwf]
          show bodyPost Tryd.prog Tryd.f6 (RollPost w E ini ms) .ret _ _
          refine bodyPost_ret (v := .tuple #[.agg #[.string ⟨#[]⟩, .slice none 0 0, .slice none 0 0, .slice none 0 0], .iface 154 (.pointer (some (E 9)))]) (by simp [results, Tryd.results6, go_sem, k0, k1, k2, k3]) rfl ?_
          exact ⟨((Fr.of_kp hkwd).step hset (fun j hj => .inr (by simp at hj; omega))).kp, by rw [Hno.out]; rfl⟩
        · simp only [opsAt, List.getElem?_toArray, List.getElem?_cons_zero, List.getElem?_cons_succ]
          go_wp2_with fail
          refine any_one 1 (by kernel_rfl) ?_
          simp only [opsAt, List.getElem?_toArray, List.getElem?_cons_zero, List.getElem?_cons_succ]
          go_wp2_with fail
          refine any_one 3 (by kernel_rfl) ?_
          simp only [opsAt, List.getElem?_toArray, List.getElem?_cons_zero, List.getElem?_cons_succ]
          go_wp2_with fail
          refine any_end (by kernel_rfl) ?_
          go_wp2_with fail
          obtain ⟨wf, hwf, hset, k0, k1, k2, k3⟩ := Hset.out
          rw [← hwf]
          show bodyPost Tryd.prog Tryd.f6 (RollPost w E ini ms) .ret _ _
          refine bodyPost_ret (v := .tuple #[.agg #[.string ⟨#[]⟩, .slice none 0 0, .slice none 0 0, .slice none 0 0], .iface 154 (.pointer (some (E 9)))]) (by simp [results, Tryd.results6, go_sem, k0, k1, k2, k3]) rfl ?_
          exact ⟨((Fr.of_kp hkwd).step hset (fun j hj => .inr (by simp at hj; omega))).kp, by rw [Hno.out]; rfl⟩
    · refine ⟨_, rfl, wp_skip_seq ?_⟩
      cases ini with
      | true => exact jumps_rest (roll_ahead_true w B br' bp bm rm hL lo n c ms hM.out hn _ a wl hJ) (fun l a' w' h => ⟨⟨B, br', bp, bm, rm, hL, h.1⟩, h.2⟩)
      | false => exact jumps_rest (roll_ahead_false w B br' bp bm rm hL lo n c ms hM.out hn _ a wl hJ) (fun l a' w' h => ⟨⟨B, br', bp, bm, rm, hL, h.1⟩, h.2⟩)
    · refine ⟨_, rfl, wp_skip_seq ?_⟩
      exact jumps_rest (roll_message w B br' bp bm rm hL ini lo n c ms hM.out hn _ a wl hJ) (fun l a' w' h => ⟨⟨B, br', bp, bm, rm, hL, h.1⟩, h.2⟩)
    · refine ⟨_, rfl, wp_skip_seq ?_⟩
      exact jumps_rest (roll_token w B br' bp bm rm hL ini lo n c ms hM.out hn _ a wl hJ) (fun l a' w' h => ⟨⟨B, br', bp, bm, rm, hL, h.1⟩, h.2⟩)
    · exfalso
      obtain ⟨i, from', t0, t1, tl, ts, p, _, _, _, hS, _⟩ := hJ
      unfold St19 at hS
      rw [if_neg (by omega), if_neg (by omega), if_neg (by omega), if_neg (by omega)] at hS
      exact hS
end Go.Proofs.YtbcjeemjpcidhaaDoor
