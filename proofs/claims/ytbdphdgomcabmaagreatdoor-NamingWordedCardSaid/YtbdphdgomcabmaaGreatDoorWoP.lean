/- A name with words: what both engines answer. Plain. Conditions: the base and the words are shaped as in a name. -/
import Derived.Test.YtbdphdgomcabmaaGreatDoorLawPl
namespace Go.Proofs.YtbdphdgomcabmaaGreatDoor
open Go.RowKit

theorem rangeL (n : Nat) : (97 ≤ n ∧ n ≤ 122) ∨ (48 ≤ n ∧ n ≤ 57) ∨ n < 48 ∨ (57 < n ∧ n < 97) ∨ 122 < n := by omega
theorem allL_of {s : ByteArray} (h : ∀ j (h : j < s.size), j < s.size → Q.loB s[j] = true) : s.data.toList.all Q.loB = true := by
  rw [List.all_eq_true]
  intro x hx
  obtain ⟨j, hj, rfl⟩ := List.getElem_of_mem hx
  have hj' : j < s.size := by rw [Lib.size_eq]; exact hj
  exact h j hj' hj'
theorem step_allL {s : ByteArray} {i : Nat} (hi : i < s.size) (h : ∀ j (h : j < s.size), j < i → Q.loB s[j] = true) (hu : Q.loB s[i] = true) : ∀ j (h : j < s.size), j < i + 1 → Q.loB s[j] = true := by
  intro j hj h2
  rcases Nat.lt_or_ge j i with q | q
  · exact h j hj q
  · obtain rfl : j = i := by omega
    exact hu
/-- The words so far behind the base. -/
structure WoI (bse : ByteArray) (ss : List ByteArray) (n i : Nat) (fl : ByteArray) : Prop where
  le : i ≤ n
  dt : fl.data.toList = bse.data.toList ++ Q.plusAll 0 ((wl ss).take i)
  sz : fl.size ≤ 20 + 21 * i
  fine : ∀ j (h : j < ss.length), j < i → Q.fineW ss[j].data.toList = true ∧ ss[j].size ≤ 20
theorem wo_step {bse fl x : ByteArray} {ss : List ByteArray} {n i : Nat} (hlt : i < n) (h : WoI bse ss n i fl) (hl : i < ss.length) (hx : x = ss[i]) (hf : Q.fineW x.data.toList = true) (hz : x.size ≤ 20) :
    ∀ fl', fl' = (if 0 < i then fl ++ ⟨#[43]⟩ else fl) ++ x → WoI bse ss n (i + 1) fl' := by
  rintro fl' rfl
  have hw : i < (wl ss).length := by unfold wl; rw [List.length_map]; exact hl
  have hwx : (wl ss)[i] = x.data.toList := by rw [hx]; exact List.getElem_map _
  have h2 : Q.plusAll 0 ((wl ss).take (i + 1)) = Q.plusAll 0 ((wl ss).take i) ++ Q.plusW i x.data.toList := by
    rw [plusAll_step (wl ss) 0 i hw, Nat.zero_add]; exact congrArg (fun z => Q.plusAll 0 ((wl ss).take i) ++ Q.plusW i z) hwx
  refine ⟨hlt, ?_, ?_, fun j hj h2 => ?_⟩
  · rw [h2, ← List.append_assoc, ← h.dt]
    unfold Q.plusW
    split <;> simp [ByteArray.data_append]
  · have := h.sz
    split
    · rw [ByteArray.size_append, ByteArray.size_append]
      have : (⟨#[43]⟩ : ByteArray).size = 1 := rfl
      omega
    · rw [ByteArray.size_append]; omega
  · rcases Nat.lt_or_ge j i with q | q
    · exact h.fine j hj q
    · obtain rfl : j = i := by omega
      rw [← hx]
      exact ⟨hf, hz⟩
theorem wo_end {bse fl : ByteArray} {ss : List ByteArray} {n i : Nat} (h : WoI bse ss n i fl) (hi : ss.length = i) : fl.data.toList = bse.data.toList ++ Q.plusAll 0 (wl ss) ∧ ∀ x ∈ wl ss, Q.fineW x = true ∧ x.length ≤ 20 := by
  constructor
  · rw [h.dt, List.take_of_length_le (by unfold wl; rw [List.length_map]; omega)]
  · intro x hx
    obtain ⟨y, hy, rfl⟩ := List.mem_map.1 hx
    obtain ⟨j, hj, rfl⟩ := List.getElem_of_mem hy
    have := h.fine j hj (by omega)
    exact ⟨this.1, by rw [← Lib.size_eq]; exact this.2⟩
theorem wordR_short {i least : Nat} {p : Q.Pn} {w : Q.Bt} {z : Nat × Q.Pn} (h : Q.wordR i least p w = some z) : w.length ≤ 8 := by
  unfold Q.wordR at h
  split at h
  · rename_i hc
    rw [hc.1]; decide
  · cases hn : Q.numR w with
    | none => rw [hn] at h; cases h
    | some n =>
      unfold Q.numR at hn
      split at hn
      · cases hn
      · omega
theorem goR_short : ∀ (ws : List Q.Bt) (i least : Nat) (p q : Q.Pn), Q.goR i least p ws = some q → (Q.plusAll i ws).length ≤ 9 * ws.length
  | [], _, _, _, _, _ => by simp [Q.plusAll]
  | w :: ws, i, least, p, q, h => by
    unfold Q.goR at h
    cases hw : Q.wordR i least p w with
    | none => rw [hw] at h; cases h
    | some z =>
      rw [hw] at h
      have h1 := wordR_short hw
      have h2 := goR_short ws (i + 1) z.1 z.2 q h
      have h3 : (Q.plusW i w).length ≤ 9 := by unfold Q.plusW; split <;> simp <;> omega
      unfold Q.plusAll
      rw [List.length_append, List.length_cons]; omega
theorem modR_short {p : Q.Pn} {ws : List Q.Bt} {q : Q.Pn} (h : (Q.modR p ws).1 = some q) : (Q.plusAll 0 ws).length ≤ 9 * ws.length := by
  unfold Q.modR at h
  split at h
  · cases h
  · cases hg : Q.goR 0 0 p ws with
    | none => rw [hg] at h; cases h
    | some r => exact goR_short ws 0 0 p r hg
theorem mdf_cases (p : Q.Pn) (ws : List Q.Bt) : (∃ q, (Q.modR p ws).1 = some q ∧ mdf p ws = (bs q.nm, q.b0, q.b1, q.ls, 0)) ∨ ((Q.modR p ws).1 = none ∧ ∃ c, c ≠ 0 ∧ mdf p ws = (⟨#[]⟩, [], [], [], c)) := by
  have hc := modR_code p ws
  unfold mdf
  cases h : Q.modR p ws with
  | mk q c =>
    rw [h] at hc
    cases q with
    | none => exact .inr ⟨rfl, c, hc.1, rfl⟩
    | some q => exact .inl ⟨q, rfl, rfl⟩
/-- What Parse answers for the base with its words: what Modify answers; and a '+' behind spoils it. -/
theorem wo_row {b fl : ByteArray} {ws : List Q.Bt} (hb : b.data.toList.all Q.upB = true) (hf : ∀ x ∈ ws, Q.fineW x = true ∧ x.length ≤ 20) (hn : ws ≠ []) (hl : ws.length ≤ 20) (e : fl.data.toList = b.data.toList ++ Q.plusAll 0 ws) :
    nmD (⟨#[78, 111, 105, 115, 101, 95]⟩ ++ fl ++ ⟨#[95, 50, 53, 53, 49, 57, 95, 67, 104, 97, 67, 104, 97, 80, 111, 108, 121, 95, 66, 76, 65, 75, 69, 50, 115]⟩).data.toList = (match rowOf b.data.toList with | none => (⟨#[]⟩, [], [], [], false) | some y => ((mdf ⟨y.1, y.2.1.1, y.2.1.2, y.2.2.1⟩ ws).1, (mdf ⟨y.1, y.2.1.1, y.2.1.2, y.2.2.1⟩ ws).2.1, (mdf ⟨y.1, y.2.1.1, y.2.1.2, y.2.2.1⟩ ws).2.2.1, (mdf ⟨y.1, y.2.1.1, y.2.1.2, y.2.2.1⟩ ws).2.2.2.1, decide ((mdf ⟨y.1, y.2.1.1, y.2.1.2, y.2.2.1⟩ ws).2.2.2.2 = 0))) ∧
    nmD (⟨#[78, 111, 105, 115, 101, 95]⟩ ++ fl ++ ⟨#[43]⟩ ++ ⟨#[95, 50, 53, 53, 49, 57, 95, 67, 104, 97, 67, 104, 97, 80, 111, 108, 121, 95, 66, 76, 65, 75, 69, 50, 115]⟩).data.toList = (⟨#[]⟩, [], [], [], false) := by
  have hp := Q.patN_words hb (fun x hx => (hf x hx).1) hn
  constructor
  · unfold nmD Q.parseN
    rw [nm_list, e]
    rcases Nat.lt_or_ge 224 (b.data.toList ++ Q.plusAll 0 ws).length with q | q
    · rw [Q.fullN_long q]
      cases hr : rowOf b.data.toList with
      | none => rfl
      | some y =>
        rcases mdf_cases ⟨y.1, y.2.1.1, y.2.1.2, y.2.2.1⟩ ws with ⟨z, h1, _⟩ | ⟨_, c, h1, h2⟩
        · have h2 := modR_short h1
          have h3 := (row_s hr).1.nm
          rw [(row_s hr).2] at h3
          rw [List.length_append] at q
          omega
        · simp only [h2]
          rw [decide_eq_false h1]; rfl
    · rw [Q.fullN_of q]
      simp only [Option.bind_some]
      rw [hp.1, show Q.tableL.find? (fun y => y.1 == b.data.toList) = rowOf b.data.toList from rfl]
      cases hr : rowOf b.data.toList with
      | none => rfl
      | some y =>
        rcases mdf_cases ⟨y.1, y.2.1.1, y.2.1.2, y.2.2.1⟩ ws with ⟨z, h1, h2⟩ | ⟨h1, c, h0, h2⟩
        · simp only [h2, h1]; rfl
        · simp only [h2, h1]
          rw [decide_eq_false h0]
  · have e2 : (fl ++ ⟨#[43]⟩ : ByteArray).data.toList = b.data.toList ++ Q.plusAll 0 ws ++ [43] := by rw [ByteArray.data_append, Array.toList_append, e]
    unfold nmD Q.parseN
    rw [show (⟨#[78, 111, 105, 115, 101, 95]⟩ ++ fl ++ ⟨#[43]⟩ : ByteArray) = ⟨#[78, 111, 105, 115, 101, 95]⟩ ++ (fl ++ ⟨#[43]⟩) from ByteArray.append_assoc, nm_list, e2]
    rcases Nat.lt_or_ge 224 (b.data.toList ++ Q.plusAll 0 ws ++ [43]).length with q | q
    · rw [Q.fullN_long q]; rfl
    · rw [Q.fullN_of q]
      simp only [Option.bind_some]
      rw [hp.2]
theorem wmod_any (w : World) (E : Nat → Addr) (m : Int) (hE : Env w E m) (y : Row) (hy : RowS y) (t0 t1 tl : Tv) (hP : PatI w t0.ao t1.ao tl.ao t0.n t1.n tl.n y.2.1.1 y.2.1.2 y.2.2.1)
    (ao : Option Addr) (n cw : Nat) (ss : List ByteArray) (hW : Strs w ao n ss) (hz : ∀ s ∈ ss, s.size ≤ 281474976710656) (hn : n ≤ 200) :
    Calls Tryz.prog 17 #[patV (bs y.1) t0.ao t1.ao tl.ao t0.n t0.c t1.n t1.c tl.n tl.c, .slice ao n cw] w fun e w' => Kp w w' ∧ ∃ u0 u1 ul : Tv,
      e = .returned (.tuple #[.agg #[.string (mdf ⟨y.1, y.2.1.1, y.2.1.2, y.2.2.1⟩ (wl ss)).1, tvv u0, tvv u1, tvv ul], errV E (mdf ⟨y.1, y.2.1.1, y.2.1.2, y.2.2.1⟩ (wl ss)).2.2.2.2]) ∧
      PatI w' u0.ao u1.ao ul.ao u0.n u1.n ul.n (mdf ⟨y.1, y.2.1.1, y.2.1.2, y.2.2.1⟩ (wl ss)).2.1 (mdf ⟨y.1, y.2.1.1, y.2.1.2, y.2.2.1⟩ (wl ss)).2.2.1 (mdf ⟨y.1, y.2.1.1, y.2.1.2, y.2.2.1⟩ (wl ss)).2.2.2.1 := by
  have hbs : ShortP (bs y.1) t0.n t1.n tl.n y.2.2.1 := ⟨by rw [bs_size]; have := hy.nm; omega, by rw [← hP.i0.1]; have := hy.b0; omega, by rw [← hP.i1.1]; have := hy.b1; omega, by rw [← hP.il.1]; have := hy.ls; omega, fun l hl => by have := hy.ts l hl; omega⟩
  have h := mod_all w E m hE (bs y.1) t0.ao t1.ao tl.ao t0.n t0.c t1.n t1.c tl.n tl.c y.2.1.1 y.2.1.2 y.2.2.1 hP hbs ao n cw ss hW hz hn
  rw [bs_list, show wb ss = wl ss from rfl] at h
  refine h.mono ?_
  rintro e w' ⟨hk, u0, u1, ul, he, hp⟩
  exact ⟨hk, u0, u1, ul, he, hp [] w' (Fr.refl _ _) (by simp)⟩
end Go.Proofs.YtbdphdgomcabmaaGreatDoor
