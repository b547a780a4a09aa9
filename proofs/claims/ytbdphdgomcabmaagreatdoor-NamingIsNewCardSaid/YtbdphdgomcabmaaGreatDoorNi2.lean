/- Parts of the walks and plain laws, merged: TxtA, TxtB, Wants, Safe. Each theorem bears its own conditions; no other. -/
import Derived.Test.YtbdphdgomcabmaaGreatDoorNi1
namespace Go.Proofs.YtbdphdgomcabmaaGreatDoor
open Go.RowKit

abbrev iv' (z : Int) : Value := .int .i64 z
def wordsV : Array Value := #[.string ⟨#[]⟩, .string ⟨#[101]⟩, .string ⟨#[115]⟩, .string ⟨#[101, 101]⟩, .string ⟨#[101, 115]⟩, .string ⟨#[115, 101]⟩, .string ⟨#[115, 115]⟩, .string ⟨#[112, 115, 107]⟩]
theorem words_any (w : World) : Calls Tryz.prog 139 #[] w fun e w' => e = .returned (.agg wordsV) ∧ Kp w w' := by
  go_enter Tryz.func139, Tryz.ntmps139
  go_wp2_with fail
  refine bodyPost_ret (v := .agg wordsV) (by simp [results, Tryz.results139, go_sem, wordsV]) rfl ⟨rfl, Kp.new _ _⟩

/-- What a reader gives up with. -/
def badE : Ending := .panicked [{ v := .iface 124 (.agg #[]), recovered := false }]
theorem ask_true (w : World) : Calls Tryz.prog 84 #[.bool true] w fun e w' => e = .returned (.tuple #[]) ∧ w = w' := by
  go_enter Tryz.func84, Tryz.ntmps84
  go_wp2_with fail
  go_end0
  exact ⟨rfl, rfl⟩
theorem ask_false (w : World) : Calls Tryz.prog 84 #[.bool false] w fun e w' => e = badE ∧ w = w' := by
  go_enter Tryz.func84, Tryz.ntmps84
  go_wp2_with fail
  exact ⟨rfl, rfl, rfl⟩

/-- What reading a word leaves. -/
def TokPost (w : World) (l : Q.Bt) (e : Ending) (w' : World) : Prop := (match Q.wordT l with | some t => e = .returned (iv' t) | none => e = badE) ∧ Kp w w'
def Nots (l : Q.Bt) (k : Nat) : Prop := ∀ j : Nat, 1 ≤ j → j < k → Q.tokW (j : Int) ≠ l
theorem nots_step {l : Q.Bt} {k : Nat} (h : Nots l k) (hk : Q.tokW (k : Int) ≠ l) : Nots l (k + 1) := fun j h1 h2 => by
  rcases Nat.lt_or_ge j k with q | q
  · exact h j h1 q
  · obtain rfl : j = k := by omega
    exact hk
theorem nots_none {l : Q.Bt} (h : Nots l 8) : Q.wordT l = none := by
  cases hq : Q.wordT l with
  | none => rfl
  | some t =>
    obtain ⟨a, b, c⟩ := Q.wordT_some hq
    exact absurd (by rw [show ((t.toNat : Nat) : Int) = t by omega]; exact a) (h t.toNat (by omega) (by omega))

set_option maxHeartbeats 4000000 in
theorem token_any (s : ByteArray) (w : World) : Calls Tryz.prog 104 #[.string s] w (TokPost w s.data.toList) := by
  go_enter Tryz.func104, Tryz.ntmps104
  go_wp2_with fail
  (with_reducible refine (words_any w).mono ?_)
  rintro e w1 ⟨rfl, hk1⟩
  have Hk := Lib.hid (Kp.trans hk1 (Kp.new w1 (.cells wordsV 173)))
  unfold wordsV at Hk ⊢
  clear hk1
  go_wp2_with fail
  go_loopw [4] (fun i wr => ∃ k : Nat, 1 ≤ k ∧ k ≤ 8 ∧ i = .int .i64 (k : Nat) ∧ w1.alloc (.cells #[.string ⟨#[]⟩, .string ⟨#[101]⟩, .string ⟨#[115]⟩, .string ⟨#[101, 101]⟩, .string ⟨#[101, 115]⟩, .string ⟨#[115, 101]⟩, .string ⟨#[115, 115]⟩, .string ⟨#[112, 115, 107]⟩] 173) = wr ∧ Nots s.data.toList k) (fun i _ => 8 - (intOf i).toNat)
  case atStart => exact ⟨1, by omega, by omega, rfl, rfl, fun j h1 h2 => by omega⟩
  case round =>
    obtain ⟨k, hk1, hk8, rfl, rfl, hn⟩ := hrel
    have Hn := Lib.hid hn
    clear hn
    rcases (show k = 1 ∨ k = 2 ∨ k = 3 ∨ k = 4 ∨ k = 5 ∨ k = 6 ∨ k = 7 ∨ k = 8 by omega) with rfl | rfl | rfl | rfl | rfl | rfl | rfl | rfl
    · cases hq : ([101] == s.toList) with
      | true =>
        have Hy := Lib.hid (show TokPost w s.data.toList (.returned (iv' 1)) _ from ⟨by rw [← Lib.toList_data, ← beq_iff_eq.1 hq]; rfl, Hk.out⟩)
        go_wp2_with fail
        go_ret
        exact Hy.out
      | false =>
        have Hy := Lib.hid (nots_step (k := 1) Hn.out (fun e => by rw [← Lib.toList_data] at e; rw [← e] at hq; revert hq; decide))
        go_wp2_with fail
        go_roundw
        case rel => exact ⟨2, by omega, by omega, by go_num, trivial, Hy.out⟩
        case measure => simp [intOf]
    · cases hq : ([115] == s.toList) with
      | true =>
        have Hy := Lib.hid (show TokPost w s.data.toList (.returned (iv' 2)) _ from ⟨by rw [← Lib.toList_data, ← beq_iff_eq.1 hq]; rfl, Hk.out⟩)
        go_wp2_with fail
        go_ret
        exact Hy.out
      | false =>
        have Hy := Lib.hid (nots_step (k := 2) Hn.out (fun e => by rw [← Lib.toList_data] at e; rw [← e] at hq; revert hq; decide))
        go_wp2_with fail
        go_roundw
        case rel => exact ⟨3, by omega, by omega, by go_num, trivial, Hy.out⟩
        case measure => simp [intOf]
    · cases hq : ([101, 101] == s.toList) with
      | true =>
        have Hy := Lib.hid (show TokPost w s.data.toList (.returned (iv' 3)) _ from ⟨by rw [← Lib.toList_data, ← beq_iff_eq.1 hq]; rfl, Hk.out⟩)
        go_wp2_with fail
        go_ret
        exact Hy.out
      | false =>
        have Hy := Lib.hid (nots_step (k := 3) Hn.out (fun e => by rw [← Lib.toList_data] at e; rw [← e] at hq; revert hq; decide))
        go_wp2_with fail
        go_roundw
        case rel => exact ⟨4, by omega, by omega, by go_num, trivial, Hy.out⟩
        case measure => simp [intOf]
    · cases hq : ([101, 115] == s.toList) with
      | true =>
        have Hy := Lib.hid (show TokPost w s.data.toList (.returned (iv' 4)) _ from ⟨by rw [← Lib.toList_data, ← beq_iff_eq.1 hq]; rfl, Hk.out⟩)
        go_wp2_with fail
        go_ret
        exact Hy.out
      | false =>
        have Hy := Lib.hid (nots_step (k := 4) Hn.out (fun e => by rw [← Lib.toList_data] at e; rw [← e] at hq; revert hq; decide))
        go_wp2_with fail
        go_roundw
        case rel => exact ⟨5, by omega, by omega, by go_num, trivial, Hy.out⟩
        case measure => simp [intOf]
    · cases hq : ([115, 101] == s.toList) with
      | true =>
        have Hy := Lib.hid (show TokPost w s.data.toList (.returned (iv' 5)) _ from ⟨by rw [← Lib.toList_data, ← beq_iff_eq.1 hq]; rfl, Hk.out⟩)
        go_wp2_with fail
        go_ret
        exact Hy.out
      | false =>
        have Hy := Lib.hid (nots_step (k := 5) Hn.out (fun e => by rw [← Lib.toList_data] at e; rw [← e] at hq; revert hq; decide))
        go_wp2_with fail
        go_roundw
        case rel => exact ⟨6, by omega, by omega, by go_num, trivial, Hy.out⟩
        case measure => simp [intOf]
    · cases hq : ([115, 115] == s.toList) with
      | true =>
        have Hy := Lib.hid (show TokPost w s.data.toList (.returned (iv' 6)) _ from ⟨by rw [← Lib.toList_data, ← beq_iff_eq.1 hq]; rfl, Hk.out⟩)
        go_wp2_with fail
        go_ret
        exact Hy.out
      | false =>
        have Hy := Lib.hid (nots_step (k := 6) Hn.out (fun e => by rw [← Lib.toList_data] at e; rw [← e] at hq; revert hq; decide))
        go_wp2_with fail
        go_roundw
        case rel => exact ⟨7, by omega, by omega, by go_num, trivial, Hy.out⟩
        case measure => simp [intOf]
    · cases hq : ([112, 115, 107] == s.toList) with
      | true =>
        have Hy := Lib.hid (show TokPost w s.data.toList (.returned (iv' 7)) _ from ⟨by rw [← Lib.toList_data, ← beq_iff_eq.1 hq]; rfl, Hk.out⟩)
        go_wp2_with fail
        go_ret
        exact Hy.out
      | false =>
        have Hy := Lib.hid (nots_step (k := 7) Hn.out (fun e => by rw [← Lib.toList_data] at e; rw [← e] at hq; revert hq; decide))
        go_wp2_with fail
        go_roundw
        case rel => exact ⟨8, by omega, by omega, by go_num, trivial, Hy.out⟩
        case measure => simp [intOf]
    · have Hy := Lib.hid (show TokPost w s.data.toList badE _ from ⟨by rw [nots_none Hn.out], Hk.out⟩)
      go_wp2_with fail
      exact ⟨rfl, Hy.out⟩

/-- A byte that may stand in a name, as the walk meets it. -/
theorem nameC_eq (c : UInt8) : Q.nameC c = ((decide (65 ≤ (c.toNat : Int)) && decide ((c.toNat : Int) ≤ 90)) || (decide (97 ≤ (c.toNat : Int)) && decide ((c.toNat : Int) ≤ 122)) || (decide (48 ≤ (c.toNat : Int)) && decide ((c.toNat : Int) ≤ 57)) || decide ((c.toNat : Int) = 43)) := by
  unfold Q.nameC
  rw [Bool.eq_iff_iff]
  simp only [Bool.or_eq_true, Bool.and_eq_true, decide_eq_true_eq, beq_iff_eq, UInt8.le_iff_toNat_le, ← UInt8.toNat_inj]
  simp
  omega
theorem all_nameC {s : ByteArray} (h : ∀ j (h : j < s.size), Q.nameC (s[j]) = true) : s.data.toList.all Q.nameC = true := by
  rw [List.all_eq_true]
  intro x hx
  obtain ⟨j, hj, rfl⟩ := List.getElem_of_mem hx
  have := h j (by simpa using hj)
  rw [Array.getElem_toList]; exact this
theorem not_all_nameC {s : ByteArray} {k : Nat} (hk : k < s.size) (h : Q.nameC (s[k]) = false) : s.data.toList.all Q.nameC = false := by
  rw [List.all_eq_false]
  exact ⟨s.data.toList[k]'(by simpa using hk), List.getElem_mem _, by rw [Array.getElem_toList, Bool.not_eq_true]; exact h⟩
set_option maxHeartbeats 4000000 in
theorem named_any (s : ByteArray) (w : World) (hs : s.size ≤ 9223372036854775806) : Calls Tryz.prog 85 #[.string s] w fun e w' => e = .returned (.bool (Q.isName s.data.toList)) ∧ w = w' := by
  go_enter Tryz.func85, Tryz.ntmps85
  go_wp2_with fail
  go_loopw [7] (fun i wr => ∃ k : Nat, k ≤ s.size ∧ i = .int .i64 (k : Nat) ∧ w = wr ∧ ∀ j (h : j < s.size), j < k → Q.nameC (s[j]) = true) (fun i _ => s.size - (intOf i).toNat)
  case atStart => exact ⟨0, by omega, rfl, rfl, fun j h h' => by omega⟩
  case round =>
    obtain ⟨k, hk, rfl, rfl, hall⟩ := hrel
    have Hall := Lib.hid hall
    clear hall
    by_cases hlt : k < s.size
    · have Hc := Lib.hid (nameC_eq (s[k]))
      go_upto_region 5 with fail
      go_cut [39] (fun v wc => v = .bool (!Q.nameC s[k]) ∧ w = wc)
      case first =>
        go_wp2_with fail
        all_goals
          go_meet
          case rel => exact ⟨by rw [Hc.out]; refine congrArg Value.bool ?_; rw [Bool.eq_iff_iff]; simp; omega, rfl⟩
      case rest =>
        obtain ⟨rfl, rfl⟩ := hcut
        cases hq : Q.nameC s[k] with
        | true =>
          have Hq := Lib.hid hq
          clear hq
          go_wp2_with fail
          go_roundw
          case rel => exact ⟨k + 1, by omega, by go_num, trivial, fun j h h' => by
            rcases Nat.lt_or_ge j k with q | q
            · exact Hall.out j h q
            · obtain rfl : j = k := by omega
              exact Hq.out⟩
          case measure => simp [intOf]; omega
        | false =>
          have Hq := Lib.hid (show Q.isName s.data.toList = false by unfold Q.isName; rw [not_all_nameC hlt hq]; rfl)
          clear hq
          go_wp2_with fail
          go_ret
          exact ⟨by rw [Hq.out]; rfl, rfl⟩
    · obtain rfl : k = s.size := by omega
      have Hq := Lib.hid (all_nameC (fun j h => Hall.out j h h))
      go_wp2_with fail
      go_ret
      exact ⟨by unfold Q.isName; rw [Hq.out, Bool.true_and, ← Lib.toList_data]; rfl, rfl⟩
end Go.Proofs.YtbdphdgomcabmaaGreatDoor

namespace Go.Proofs.YtbdphdgomcabmaaGreatDoor
open Go.RowKit

/-- A text of these bytes. -/
def bs (l : Q.Bt) : ByteArray := ⟨l.toArray⟩
theorem bs_list (l : Q.Bt) : (bs l).data.toList = l := rfl
theorem bs_data (s : ByteArray) : bs s.data.toList = s := Lib.mk_data s
theorem bs_size (l : Q.Bt) : (bs l).size = l.length := by rw [Lib.size_eq, bs_list]
/-- The variable of the library that says how long a text it looks for at once. -/
def MaxV (w : World) (m : Int) : Prop := w.cell? ⟨7, 0, none⟩ = some (.int .i64 m)
theorem Kp.maxV {w w' : World} (h : Kp w w') {m : Int} (hm : MaxV w m) : MaxV w' m := h.cell hm
/-- What the next row leaves: the reader holds the rest. -/
def RowPost (w : World) (b : Nat) (s : Q.Bt) (e : Ending) (w' : World) : Prop := match Lib.cut s [10] with
  | (x, rest, true) => e = .returned (.string (bs x)) ∧ Fr [b] w w' ∧ w'.cell? ⟨b, 0, none⟩ = some (.string (bs rest)) ∧ w'.frozen? ⟨b, 0, none⟩ = false
  | _ => e = badE ∧ Kp w w'
set_option maxHeartbeats 2000000 in
theorem rowR_any (b : Nat) (s : ByteArray) (m : Int) (w : World) (hs : s.size < 4294967281) (hm : MaxV w m) (hc : w.cell? ⟨b, 0, none⟩ = some (.string s)) (hf : w.frozen? ⟨b, 0, none⟩ = false) :
    Calls Tryz.prog 83 #[.pointer (some ⟨b, 0, none⟩)] w (RowPost w b s.data.toList) := by
  have HC := Lib.hid (Tryz.strings_Cut s ⟨#[10]⟩ m w hs hm)
  have Hl := Lib.hid (show (⟨#[10]⟩ : ByteArray).data.toList = [10] from rfl)
  rw [Hl.out] at HC
  obtain ⟨x, hx⟩ : ∃ x, x = Lib.cut s.data.toList [10] := ⟨_, rfl⟩
  unfold RowPost
  rw [← hx] at HC ⊢
  clear hm hx
  obtain ⟨x, rest, ok⟩ := x
  cases ok with
  | true =>
    go_enter Tryz.func83, Tryz.ntmps83
    go_wp2_with fail
    (with_reducible refine HC.out.mono ?_)
    rintro e w1 ⟨rfl, n, rfl⟩
    have hk := Kp.of_drewN w n
    have hc1 := hk.cell hc
    have hf1 := (Fr.of_kp hk).free hc hf (by simp)
    have hset := Fr.set (w.drewN n) ⟨b, 0, none⟩ (.string (bs rest))
    have hcz : ((w.drewN n).setCell ⟨b, 0, none⟩ (.string (bs rest))).cell? ⟨b, 0, none⟩ = some (.string (bs rest)) := World.cell?_setCell_same _ _ _ hc1
    have hfz : ((w.drewN n).setCell ⟨b, 0, none⟩ (.string (bs rest))).frozen? ⟨b, 0, none⟩ = false := by rw [World.frozen?_setCell]; exact hf1
    have Hy := Lib.hid (And.intro (((Fr.of_kp hk).mono (by simp)).trans hset) (And.intro hcz hfz))
    clear hset hk hfz hcz
    go_wp2_with fail
    (with_reducible refine (ask_true _).mono ?_)
    rintro e w2 ⟨rfl, rfl⟩
    go_wp2_with fail
    go_ret
    exact ⟨rfl, Hy.out⟩
  | false =>
    go_enter Tryz.func83, Tryz.ntmps83
    go_wp2_with fail
    (with_reducible refine HC.out.mono ?_)
    rintro e w1 ⟨rfl, n, rfl⟩
    have Hk := Lib.hid (Kp.of_drewN w n)
    go_wp2_with fail
    (with_reducible refine (ask_false _).mono ?_)
    rintro e w2 ⟨rfl, rfl⟩
    unfold badE
    go_wp2_with fail
    exact ⟨rfl, rfl, Hk.out⟩
end Go.Proofs.YtbdphdgomcabmaaGreatDoor

namespace Go.Proofs.YtbdphdgomcabmaaGreatDoor
open Go.RowKit

def wantRows : List Value := [iv 3, iv 1, iv 1, iv 4, iv 1, iv 2, iv 5, iv 2, iv 1, iv 6, iv 2, iv 2]
/-- The keys of a secret: the initiator's, the responder's. -/
def wantI (t : Int) : Int := if t = 3 then 1 else if t = 4 then 1 else if t = 5 then 2 else if t = 6 then 2 else 0
def wantR (t : Int) : Int := if t = 3 then 1 else if t = 4 then 2 else if t = 5 then 1 else if t = 6 then 2 else 0
def isSec (t : Int) : Bool := t == 3 || t == 4 || t == 5 || t == 6

def WantsPost (w : World) (t : Int) (e : Ending) (w' : World) : Prop := Kp w w' ∧ e = .returned (.tuple #[.agg #[iv (if isSec t then t else 0), iv (wantI t), iv (wantR t)], .bool (isSec t)])

set_option maxHeartbeats 1000000 in
theorem wants_any (w : World) (t : Int) (h1 : 1 ≤ t) (h7 : t ≤ 7) : Calls Tryz.prog 64 #[iv t] w (WantsPost w t) := by
  go_enter Tryz.func64, Tryz.ntmps64
  go_wp2_with fail
  obtain ⟨wl, hwl⟩ : ∃ x, x = (w.alloc (.cells #[iv 0, iv 0, iv 0] 108)).alloc (.cells wantRows.toArray 108) := ⟨_, rfl⟩
  have hk0 : Kp w wl := by rw [hwl]; exact Kp.trans (Kp.new _ _) (Kp.new _ _)
  have hsz : wl.heap.size = w.heap.size + 2 := by rw [hwl]; simp
  have hc : ∀ j u, wantRows[j]? = some u → wl.cell? ⟨w.heap.size + 1, j, none⟩ = some u := by
    intro j u hu
    obtain ⟨b, off, e, h⟩ := Cs.new (w.alloc (.cells #[iv 0, iv 0, iv 0] 108)) wantRows 108 (0, 0) j u hu
    simp only [World.size_alloc, Option.some.injEq, Addr.mk.injEq, and_true] at e
    obtain ⟨rfl, rfl⟩ := e
    rw [Nat.zero_add] at h
    rw [hwl]; exact h
  have hz : ∀ j, j < 3 → wl.cell? ⟨w.heap.size, j, none⟩ = some (iv 0) ∧ wl.frozen? ⟨w.heap.size, j, none⟩ = false := by
    intro j hj
    have h1 : (w.alloc (.cells #[iv 0, iv 0, iv 0] 108)).cell? ⟨w.heap.size, j, none⟩ = some (iv 0) := by
      rw [World.cell?_alloc_at _ _ _ _ rfl]
      rcases j with _ | _ | _ | j
      · rfl
      · rfl
      · rfl
      · omega
    have h2 : (w.alloc (.cells #[iv 0, iv 0, iv 0] 108)).frozen? ⟨w.heap.size, j, none⟩ = false := World.frozen?_alloc_at _ _ _ _ rfl
    rw [hwl]
    exact ⟨Kp.cell (Kp.new _ _) h1, (Fr.of_kp (Kp.new _ _)).free h1 h2 (by simp)⟩
  have hg : (w.alloc (.cells #[iv 0, iv 0, iv 0] 108)).alloc (.cells #[Value.int IntKind.i64 3, Value.int IntKind.i64 1, Value.int IntKind.i64 1, Value.int IntKind.i64 4, Value.int IntKind.i64 1, Value.int IntKind.i64 2, Value.int IntKind.i64 5, Value.int IntKind.i64 2, Value.int IntKind.i64 1, Value.int IntKind.i64 6, Value.int IntKind.i64 2, Value.int IntKind.i64 2] 108) = wl := by rw [hwl]; rfl
  rw [hg]
  clear hg hwl
  have Hsz := Lib.hid hsz; clear hsz
  have Hc := Lib.hid hc; clear hc
  have Hz := Lib.hid hz; clear hz
  go_loopw [12] (fun i wr => ∃ k : Nat, k ≤ 4 ∧ i = .int .i64 k ∧ Kp wl wr ∧ (k = 0 ∨ t ≠ 3) ∧ (k ≤ 1 ∨ t ≠ 4) ∧ (k ≤ 2 ∨ t ≠ 5) ∧ (k ≤ 3 ∨ t ≠ 6)) (fun i _ => 4 - (intOf i).toNat)
  case atStart => exact ⟨0, by omega, rfl, Kp.refl _, by omega, by omega, by omega, by omega⟩
  case round =>
    obtain ⟨k, hk, rfl, hkk, n3, n4, n5, n6⟩ := hrel
    have hA : ∀ j, j < 3 → ∀ o, (wr.alloc o).cell? ⟨w.heap.size, j, none⟩ = some (iv 0) ∧ (wr.alloc o).frozen? ⟨w.heap.size, j, none⟩ = false := fun j hj o => by
      obtain ⟨z, f⟩ := Hz.out j hj
      have k := Kp.trans hkk (Kp.new wr o)
      exact ⟨Kp.cell k z, (Fr.of_kp k).free z f (by simp)⟩
    have a0 := fun o => (hA 0 (by omega) o).1
    have a1 := fun o => (hA 1 (by omega) o).1
    have a2 := fun o => (hA 2 (by omega) o).1
    have b0 := fun o => (hA 0 (by omega) o).2
    have b1 := fun o => (hA 1 (by omega) o).2
    have b2 := fun o => (hA 2 (by omega) o).2
    clear hA
    have hlt : w.heap.size + 2 ≤ wr.heap.size := by have := hkk.size; have := Hsz.out; omega
    rcases (show k = 0 ∨ k = 1 ∨ k = 2 ∨ k = 3 ∨ k = 4 by omega) with rfl | rfl | rfl | rfl | rfl
    · have c0 := Kp.cell hkk (Hc.out 0 _ rfl)
      have c1 := Kp.cell hkk (Hc.out 1 _ rfl)
      have c2 := Kp.cell hkk (Hc.out 2 _ rfl)
      by_cases ht : t = 3
      · subst ht
        clear n3 n4 n5 n6
        go_wp2_with fail
        refine bodyPost_ret (v := .tuple #[.agg #[iv 3, iv 1, iv 1], .bool true]) (by simp [results, Tryz.results64, go_sem, a0, a1, a2]) rfl ⟨?_, rfl⟩
        exact (((Kp.trans hk0 (Kp.trans hkk (Kp.new _ _))).setCell (Nat.le_refl _) _).setCell (Nat.le_refl _) _).setCell (Nat.le_refl _) _
      · have hb : ((3 : Int) == t) = false := by simp; omega
        go_wp2_with fail
        go_roundw
        case rel => exact ⟨1, by omega, rfl, Kp.trans hkk (Kp.new _ _), by omega, by omega, by omega, by omega⟩
        case measure => simp [intOf]
    · have c0 := Kp.cell hkk (Hc.out 3 _ rfl)
      have c1 := Kp.cell hkk (Hc.out 4 _ rfl)
      have c2 := Kp.cell hkk (Hc.out 5 _ rfl)
      by_cases ht : t = 4
      · subst ht
        clear n3 n4 n5 n6
        go_wp2_with fail
        refine bodyPost_ret (v := .tuple #[.agg #[iv 4, iv 1, iv 2], .bool true]) (by simp [results, Tryz.results64, go_sem, a0, a1, a2]) rfl ⟨?_, rfl⟩
        exact (((Kp.trans hk0 (Kp.trans hkk (Kp.new _ _))).setCell (Nat.le_refl _) _).setCell (Nat.le_refl _) _).setCell (Nat.le_refl _) _
      · have hb : ((4 : Int) == t) = false := by simp; omega
        go_wp2_with fail
        go_roundw
        case rel => exact ⟨2, by omega, rfl, Kp.trans hkk (Kp.new _ _), by omega, by omega, by omega, by omega⟩
        case measure => simp [intOf]
    · have c0 := Kp.cell hkk (Hc.out 6 _ rfl)
      have c1 := Kp.cell hkk (Hc.out 7 _ rfl)
      have c2 := Kp.cell hkk (Hc.out 8 _ rfl)
      by_cases ht : t = 5
      · subst ht
        clear n3 n4 n5 n6
        go_wp2_with fail
        refine bodyPost_ret (v := .tuple #[.agg #[iv 5, iv 2, iv 1], .bool true]) (by simp [results, Tryz.results64, go_sem, a0, a1, a2]) rfl ⟨?_, rfl⟩
        exact (((Kp.trans hk0 (Kp.trans hkk (Kp.new _ _))).setCell (Nat.le_refl _) _).setCell (Nat.le_refl _) _).setCell (Nat.le_refl _) _
      · have hb : ((5 : Int) == t) = false := by simp; omega
        go_wp2_with fail
        go_roundw
        case rel => exact ⟨3, by omega, rfl, Kp.trans hkk (Kp.new _ _), by omega, by omega, by omega, by omega⟩
        case measure => simp [intOf]
    · have c0 := Kp.cell hkk (Hc.out 9 _ rfl)
      have c1 := Kp.cell hkk (Hc.out 10 _ rfl)
      have c2 := Kp.cell hkk (Hc.out 11 _ rfl)
      by_cases ht : t = 6
      · subst ht
        clear n3 n4 n5 n6
        go_wp2_with fail
        refine bodyPost_ret (v := .tuple #[.agg #[iv 6, iv 2, iv 2], .bool true]) (by simp [results, Tryz.results64, go_sem, a0, a1, a2]) rfl ⟨?_, rfl⟩
        exact (((Kp.trans hk0 (Kp.trans hkk (Kp.new _ _))).setCell (Nat.le_refl _) _).setCell (Nat.le_refl _) _).setCell (Nat.le_refl _) _
      · have hb : ((6 : Int) == t) = false := by simp; omega
        go_wp2_with fail
        go_roundw
        case rel => exact ⟨4, by omega, rfl, Kp.trans hkk (Kp.new _ _), by omega, by omega, by omega, by omega⟩
        case measure => simp [intOf]
    · have ht : t ≠ 3 ∧ t ≠ 4 ∧ t ≠ 5 ∧ t ≠ 6 := by omega
      have e0 : isSec t = false := by simp [isSec]; omega
      have e1 : wantI t = 0 := by unfold wantI; rw [if_neg ht.1, if_neg ht.2.1, if_neg ht.2.2.1, if_neg ht.2.2.2]
      have e2 : wantR t = 0 := by unfold wantR; rw [if_neg ht.1, if_neg ht.2.1, if_neg ht.2.2.1, if_neg ht.2.2.2]
      have hpost : ∀ w', Kp w w' → WantsPost w t (.returned (.tuple #[.agg #[iv 0, iv 0, iv 0], .bool false])) w' := fun w' h => ⟨h, by rw [e0, e1, e2]; rfl⟩
      obtain ⟨z0, f0⟩ := Hz.out 0 (by omega)
      obtain ⟨z1, f1⟩ := Hz.out 1 (by omega)
      obtain ⟨z2, f2⟩ := Hz.out 2 (by omega)
      have g0 := (Fr.of_kp hkk).free z0 f0 (by simp)
      have g1 := (Fr.of_kp hkk).free z1 f1 (by simp)
      have g2 := (Fr.of_kp hkk).free z2 f2 (by simp)
      have y0 := Kp.cell hkk z0
      have y1 := Kp.cell hkk z1
      have y2 := Kp.cell hkk z2
      have Hpost := Lib.hid hpost
      clear hpost e0 e1 e2 n3 n4 n5 n6 ht
      go_wp2_with fail
      refine bodyPost_ret (v := .tuple #[.agg #[iv 0, iv 0, iv 0], .bool false]) (by simp [results, Tryz.results64, go_sem, y0, y1, y2]) rfl (Hpost.out _ ?_)
      exact (((Kp.trans hk0 hkk).setCell (Nat.le_refl _) _).setCell (Nat.le_refl _) _).setCell (Nat.le_refl _) _
end Go.Proofs.YtbdphdgomcabmaaGreatDoor

namespace Go.Proofs.YtbdphdgomcabmaaGreatDoor
open Go.RowKit

/-- The state of a check lies in block b: has[side][token] at 3 side + token, stood[token] at 6 + token. -/
def WalkAt (w : World) (b : Nat) (S : Nat → Bool) : Prop := ∀ j, j < 14 → w.cell? ⟨b, j, none⟩ = some (.bool (S j)) ∧ w.frozen? ⟨b, j, none⟩ = false
theorem Kp.walk {w w' : World} (h : Kp w w') {b : Nat} {S : Nat → Bool} (hx : WalkAt w b S) : WalkAt w' b S := fun j hj => ⟨h.cell (hx j hj).1, (Fr.of_kp h).free (hx j hj).1 (hx j hj).2 (by simp)⟩

def safeL (S : Nat → Bool) (side : Int) : Bool :=
  if side = 0 then (!S 11 || S 9) && (!S 12 || S 10) && (!S 13 || S 1) else (!S 10 || S 9) && (!S 12 || S 11) && (!S 13 || S 4)

set_option maxHeartbeats 2000000 in
theorem safe_0 (w : World) (b : Nat) (S : Nat → Bool) (h : WalkAt w b S) : Calls Tryz.prog 39 #[.pointer (some ⟨b, 0, none⟩), iv 0] w fun e w' => e = .returned (.bool (safeL S 0)) ∧ w = w' := by
  have c11 := (h 11 (by omega)).1
  have c9 := (h 9 (by omega)).1
  have c12 := (h 12 (by omega)).1
  have c10 := (h 10 (by omega)).1
  have c13 := (h 13 (by omega)).1
  have c1 := (h 1 (by omega)).1
  have hs : safeL S 0 = ((!S 11 || S 9) && (!S 12 || S 10) && (!S 13 || S 1)) := rfl
  rw [hs]
  clear hs
  have H := Lib.hid h; clear h
  generalize S 11 = x11 at *
  generalize S 9 = x9 at *
  generalize S 12 = x12 at *
  generalize S 10 = x10 at *
  generalize S 13 = x13 at *
  generalize S 1 = x1 at *
  go_enter Tryz.func39, Tryz.ntmps39
  go_wp2_with fail
  all_goals
    go_ret
    refine ⟨?_, rfl⟩
    simp_all
set_option maxHeartbeats 2000000 in
theorem safe_1 (w : World) (b : Nat) (S : Nat → Bool) (h : WalkAt w b S) : Calls Tryz.prog 39 #[.pointer (some ⟨b, 0, none⟩), iv 1] w fun e w' => e = .returned (.bool (safeL S 1)) ∧ w = w' := by
  have c11 := (h 11 (by omega)).1
  have c9 := (h 9 (by omega)).1
  have c12 := (h 12 (by omega)).1
  have c10 := (h 10 (by omega)).1
  have c13 := (h 13 (by omega)).1
  have c4 := (h 4 (by omega)).1
  have hs : safeL S 1 = ((!S 10 || S 9) && (!S 12 || S 11) && (!S 13 || S 4)) := rfl
  rw [hs]
  clear hs
  have H := Lib.hid h; clear h
  generalize S 11 = x11 at *
  generalize S 9 = x9 at *
  generalize S 12 = x12 at *
  generalize S 10 = x10 at *
  generalize S 13 = x13 at *
  generalize S 4 = x4 at *
  go_enter Tryz.func39, Tryz.ntmps39
  go_wp2_with fail
  all_goals
    go_ret
    refine ⟨?_, rfl⟩
    simp_all
theorem safe_any (w : World) (b : Nat) (S : Nat → Bool) (f : Int) (hf : f = 0 ∨ f = 1) (h : WalkAt w b S) : Calls Tryz.prog 39 #[.pointer (some ⟨b, 0, none⟩), iv f] w fun e w' => e = .returned (.bool (safeL S f)) ∧ w = w' := by
  rcases hf with rfl | rfl
  · exact safe_0 w b S h
  · exact safe_1 w b S h
end Go.Proofs.YtbdphdgomcabmaaGreatDoor
