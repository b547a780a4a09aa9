/- The Reader of the program: first, Held and Next. Condition: the Reader is one (Rdr). -/
import Derived.Test.YtkpdbdlkihgofaaDoorPut
namespace Go.Proofs.YtkpdbdlkihgofaaDoor
open Go.RowKit

/-- The length that a stream tells. -/
def headN (a b : UInt8) : Nat := 256 * a.toNat + b.toNat
/-- The first message of a stream that is there whole, and what lies behind it. -/
def nextL : List UInt8 → Option (List UInt8 × List UInt8)
  | a :: b :: r => if headN a b ≤ r.length then some (r.take (headN a b), r.drop (headN a b)) else none
  | _ => none

theorem headN_lt (a b : UInt8) : headN a b ≤ 65535 := by
  have ha := a.toNat_lt
  have hb := b.toNat_lt
  unfold headN; omega
theorem or_head (a b : UInt8) : bits BinOp.or IntKind.i64 ((a.toNat : Int) * 256) (b.toNat : Int) = ((headN a b : Nat) : Int) := by
  have ha := a.toNat_lt
  have hb := b.toNat_lt
  have := bits_join .i64 63 (by decide) (fun n h0 h1 => IntWalk.i64_in n (by omega)) 8 ((a.toNat : Int) * 256) (b.toNat : Int) (by omega) (by omega) (by omega) (by omega) (by omega) (by omega)
  rw [this]; unfold headN; omega

/-- What 'first' answers of a stream. -/
def FirstVal (w : World) (ao : Option Addr) (xs : List UInt8) (v : Value) : Prop :=
  match nextL xs with
  | none => v = .tuple #[.slice none 0 0, .bool false]
  | some (m, _) => ∃ bo cap, v = .tuple #[.slice bo m.length cap, .bool true] ∧ Bs w bo m.length m ∧ (∀ k ∈ blkL bo, k ∈ blkL ao)

set_option maxHeartbeats 400000 in
theorem first_short (w : World) (ao : Option Addr) (n c : Nat) (hn : n < 2) :
    Calls Tryd.prog 24 #[.slice ao n c] w fun e w' => e = .returned (.tuple #[.slice none 0 0, .bool false]) ∧ ∃ k, w' = w.drewN k := by
  go_enter Tryd.func24, Tryd.ntmps24
  go_wp2
  go_ret2
  exact ⟨rfl, 0, rfl⟩

set_option maxHeartbeats 400000 in
theorem first_no (w : World) (bb off : Nat) (n c h : Nat) (a b : UInt8) (hab : headN a b = h) (_hh : h ≤ 65535) (hn : 2 ≤ n) (hfit : n < h + 2) (hn2 : n ≤ 9223372036854775807)
    (h0 : w.cell? ⟨bb, off, none⟩ = some (by8 a)) (h1 : w.cell? ⟨bb, off + 1, none⟩ = some (by8 b)) :
    Calls Tryd.prog 24 #[.slice (some ⟨bb, off, none⟩) n c] w fun e w' => e = .returned (.tuple #[.slice none 0 0, .bool false]) ∧ ∃ k, w' = w.drewN k := by
  have hbits := or_head a b
  rw [hab] at hbits
  clear hab
  have ha := a.toNat_lt
  have hb := b.toNat_lt
  go_enter Tryd.func24, Tryd.ntmps24
  go_wp2
  go_quiet (fail)
  go_wp2
  go_ret2
  exact ⟨rfl, _, rfl⟩

set_option maxHeartbeats 400000 in
theorem first_yes (w : World) (bb off off2 : Nat) (n c h : Nat) (a b : UInt8) (hab : headN a b = h) (hh : h ≤ 65535) (hn : 2 ≤ n) (hfit : h + 2 ≤ n) (hn2 : n ≤ 9223372036854775807) (hnc : n ≤ c)
    (h0 : w.cell? ⟨bb, off, none⟩ = some (by8 a)) (h1 : w.cell? ⟨bb, off + 1, none⟩ = some (by8 b)) (ho : off2 = if c = 2 then off else off + 2) :
    Calls Tryd.prog 24 #[.slice (some ⟨bb, off, none⟩) n c] w fun e w' => e = .returned (.tuple #[.slice (some ⟨bb, off2, none⟩) h (c - 2), .bool true]) ∧ ∃ k, w' = w.drewN k := by
  have hbits := or_head a b
  rw [hab] at hbits
  clear hab
  have ha := a.toNat_lt
  have hb := b.toNat_lt
  subst ho
  by_cases hc : c = 2
  · subst hc
    go_enter Tryd.func24, Tryd.ntmps24
    go_wp2
    go_quiet (fail)
    go_wp2
    go_ret2
    exact ⟨by simp, _, rfl⟩
  · have hc' : ¬ (c : Nat) = 2 := hc
    go_enter Tryd.func24, Tryd.ntmps24
    go_wp2
    go_quiet (fail)
    go_wp2
    go_ret2
    exact ⟨by simp, _, rfl⟩

theorem first_any (w : World) (ao : Option Addr) (n c : Nat) (xs : List UInt8) (hx : Bs w ao n xs) (hnc : n ≤ c) :
    ∃ v, FirstVal w ao xs v ∧ ∀ k, Calls Tryd.prog 24 #[.slice ao n c] (w.drewN k) fun e w' => e = .returned v ∧ ∃ m, w' = (w.drewN k).drewN m := by
  have hl := hx.1
  have hn2 := hx.2.1
  unfold maxLen at hn2
  match xs, hx, hl with
  | [], hx, hl => exact ⟨_, rfl, fun k => first_short _ _ _ _ (by simp at hl; omega)⟩
  | [x], hx, hl => exact ⟨_, rfl, fun k => first_short _ _ _ _ (by simp at hl; omega)⟩
  | a :: b :: r, hx, hl =>
    simp only [List.length_cons] at hl
    have hx0 := hx
    obtain ⟨bb, off, rfl, _, hc⟩ := hx.at 0 (by omega)
    have h0 := hc 0 (by omega)
    have h1 := hc 1 (by omega)
    simp only [List.getElem_cons_zero, List.getElem_cons_succ, Nat.add_zero] at h0 h1
    have hh := headN_lt a b
    by_cases hfit : headN a b + 2 ≤ n
    · refine ⟨_, ?_, fun k => first_yes (w.drewN k) bb off _ n c (headN a b) a b rfl hh (by omega) hfit (by omega) hnc h0 h1 rfl⟩
      unfold FirstVal
      simp only [nextL, if_pos (show headN a b ≤ r.length by omega)]
      have hlen : (r.take (headN a b)).length = headN a b := by simp; omega
      rw [hlen]
      refine ⟨_, _, rfl, ?_, fun k hk => by simpa [blkL, blk] using hk⟩
      by_cases h2 : c = 2
      · have h0 : headN a b = 0 := by omega
        rw [h0]; exact Bs.zero _ _
      · rw [if_neg h2]; exact hx0.sub 2 (headN a b) (by omega)
    · refine ⟨_, ?_, fun k => first_no (w.drewN k) bb off n c (headN a b) a b rfl hh (by omega) (by omega) (by omega) h0 h1⟩
      unfold FirstVal
      simp only [nextL, if_neg (show ¬ headN a b ≤ r.length by omega)]

/-- A Reader: its block r, its kept row at ao, what is held of it; no more than T bytes are kept. -/
def Rdr (w : World) (base r : Nat) (ao : Option Addr) (held : List UInt8) (T : Nat) : Prop :=
  ∃ (n cap fr : Nat) (all : List UInt8), w.cell? ⟨r, 0, none⟩ = some (.slice ao n cap) ∧ w.cell? ⟨r, 1, none⟩ = some (.int .i64 (fr : Nat)) ∧ w.frozen? ⟨r, 0, none⟩ = false ∧ w.frozen? ⟨r, 1, none⟩ = false ∧
    Own w base 5 1 ao n cap (all.map by8) ∧ fr ≤ n ∧ n ≤ T ∧ held = all.drop fr ∧ r ∉ blkL ao

theorem Rdr.keep {X : List Nat} {w w' : World} {base r : Nat} {ao : Option Addr} {held : List UInt8} {T : Nat} (h : Rdr w base r ao held T) (k : Fr X w w') (hX : ∀ j ∈ r :: blkL ao, j ∉ X) : Rdr w' base r ao held T := by
  obtain ⟨n, cap, fr, all, h0, h1, f0, f1, ho, r1, r2, r3, r4⟩ := h
  have hr : r ∉ X := hX r (by simp)
  exact ⟨n, cap, fr, all, k.cell h0 hr, k.cell h1 hr, k.free h0 f0 hr, k.free h1 f1 hr, k.own ho (fun j hj => hX j (by simp [hj])), r1, r2, r3, r4⟩
theorem Rdr.lt {w : World} {base r : Nat} {ao : Option Addr} {held : List UInt8} {T : Nat} (h : Rdr w base r ao held T) : ∀ j ∈ r :: blkL ao, j < w.heap.size := by
  obtain ⟨n, cap, fr, all, h0, h1, f0, f1, ho, r1, r2, r3, r4⟩ := h
  intro j hj
  rcases List.mem_cons.1 hj with rfl | hj
  · exact World.block_lt_of_cell? w _ h0
  · exact (ho.lt j (mem_blkL.1 hj)).2

theorem Rdr.held {w : World} {base r : Nat} {ao : Option Addr} {held : List UInt8} {T : Nat} (h : Rdr w base r ao held T) (hT : T ≤ 1000000000) :
    Calls Tryd.prog 21 #[.pointer (some ⟨r, 0, none⟩)] w fun e w' => e = .returned (.int .i64 (held.length : Int)) ∧ ∃ k, w' = w.drewN k := by
  obtain ⟨n, cap, fr, all, h0, h1, f0, f1, ho, r1, r2, r3, r4⟩ := h
  have hl := ho.bs.1
  have Hl := Lib.hid hl; clear hl
  have hheld : ((held.length : Nat) : Int) = (n : Int) - (fr : Int) := by rw [r3]; simp only [List.length_drop]; have := Hl.out; omega
  have Hh := Lib.hid hheld
  clear hheld r3
  go_enter Tryd.func21, Tryd.ntmps21
  go_wp2
  go_quiet (fail)
  go_wp2
  go_ret
  exact ⟨by rw [Hh.out]; rfl, _, rfl⟩

/-- What 'Next' answers, and leaves. -/
def NextPost (w : World) (base r : Nat) (ao : Option Addr) (held : List UInt8) (T : Nat) (e : Ending) (w' : World) : Prop :=
  match nextL held with
  | none => e = .returned (.tuple #[.slice none 0 0, .bool false]) ∧ Rdr w' base r ao held T ∧ Fr [] w w'
  | some (m, rest) => ∃ bo cap, e = .returned (.tuple #[.slice bo m.length cap, .bool true]) ∧ Own w' w.heap.size 5 1 bo m.length cap (m.map by8) ∧ Rdr w' base r ao rest T ∧ Fr [r] w w'

theorem nextL_some {xs m rest : List UInt8} (h : nextL xs = some (m, rest)) : rest = xs.drop (2 + m.length) ∧ 2 + m.length ≤ xs.length ∧ m.length ≤ 65535 := by
  match xs, h with
  | a :: b :: r, h =>
    simp only [nextL] at h
    split at h
    · simp only [Option.some.injEq, Prod.mk.injEq] at h
      obtain ⟨rfl, rfl⟩ := h
      have := headN_lt a b
      simp only [List.length_take, List.length_cons]
      refine ⟨?_, by omega, by omega⟩
      rw [show 2 + min (headN a b) r.length = (headN a b) + 2 by omega]
      rfl
    · cases h

set_option maxHeartbeats 800000 in
theorem Rdr.next {w : World} {base r : Nat} {ao : Option Addr} {held : List UInt8} {T : Nat} (h : Rdr w base r ao held T) (hT : T ≤ 1000000000) :
    Calls Tryd.prog 20 #[.pointer (some ⟨r, 0, none⟩)] w (NextPost w base r ao held T) := by
  have hR := h
  obtain ⟨n, cap, fr, all, h0, h1, f0, f1, ho, r1, r2, r3, r4⟩ := h
  have hcap := ho.cap
  have hl := ho.bs.1
  have Hl := Lib.hid hl; clear hl
  have hcut := ho.bs.cut fr (n - fr) (by omega) (cap = fr) (by omega)
  have e : (all.drop fr).take (n - fr) = held := by rw [r3]; exact List.take_of_length_le (by simp; have := Hl.out; omega)
  rw [e] at hcut
  clear e
  obtain ⟨v, hv, hcall⟩ := first_any w (if cap = fr then ao else ao.map (·.add fr)) (n - fr) (cap - fr) held hcut (by omega)
  have hrlt := World.block_lt_of_cell? w _ h0
  have Hcall := Lib.hid hcall; clear hcall
  have R3 := Lib.hid r3; clear r3
  unfold FirstVal at hv
  unfold NextPost
  cases hnx : nextL held with
  | none =>
    rw [hnx] at hv
    simp only at hv
    subst hv
    go_enter Tryd.func20, Tryd.ntmps20
    go_wp2
    go_quiet ((go_at_call 24; exact Calls.quiet_of (Hcall.out _)))
    go_wp2
    all_goals
      go_ret2
      exact ⟨rfl, hR.keep (Fr.drewN [] _ _) (by simp), Fr.drewN [] _ _⟩
  | some p =>
    obtain ⟨m, rest⟩ := p
    obtain ⟨hrest, hml, hm64⟩ := nextL_some hnx
    rw [hnx] at hv
    simp only at hv
    obtain ⟨bo, c2, rfl, hm, hbo⟩ := hv
    go_enter Tryd.func20, Tryd.ntmps20
    go_wp2
    go_quiet ((go_at_call 24; exact Calls.quiet_of (Hcall.out _)))
    have ho1 := Own.nil ((w.drewN nq).setCell ⟨r, 1, none⟩ (.int .i64 ((fr : Int) + (2 + (m.length : Int))))) w.heap.size 5 1
    have hm1 : Bs ((w.drewN nq).setCell ⟨r, 1, none⟩ (.int .i64 ((fr : Int) + (2 + (m.length : Int))))) bo m.length m :=
      (Fr.set (w.drewN nq) ⟨r, 1, none⟩ _).bs ((Fr.drewN [] w nq).bs hm (by simp)) (fun k hk => by
        have := hbo k hk
        have : k ∈ blkL ao := by
          by_cases hcf : cap = fr
          · simpa [hcf] using this
          · rw [if_neg hcf] at this
            cases ao with
            | none => simp [blkL, blk] at this
            | some a =>
              have e : (a.add fr).block = a.block := by unfold Addr.add; split <;> rfl
              simpa [blkL, blk, e] using this
        intro hk2
        simp only [List.mem_singleton] at hk2
        subst hk2
        exact r4 this)
    go_wp2_with (at_builtin; go_loud (refine wpList_app rfl (.const (.slice none 0 0)) (.tmp 33) 22 rfl el22 w.heap.size rfl ho1 rfl (m.map by8) (by simp) hm1.2.2 (cells_map_one _ (fun _ => rfl) _) m.length (by omega) (m.map by8) (by simp) (by omega) (by simp [World.setCell]) ?_); intro ao2 cap2 w2 ha2)
    all_goals
      go_ret2
      refine ⟨_, _, rfl, ha2.own, ?_, ?_⟩
      · have hfr2 : Fr [] ((w.drewN nq).setCell ⟨r, 1, none⟩ (.int .i64 ((fr : Int) + (2 + (m.length : Int))))) w2 := ha2.fr.mono (by simp [blkL, blk])
        refine Rdr.keep (X := []) ?_ hfr2 (by simp)
        refine ⟨n, cap, fr + (2 + m.length), all, ?_, ?_, ?_, ?_, ?_, ?_, r2, ?_, r4⟩
        · rw [World.cell?_setCell_other _ _ _ _ (by simp)]; exact h0
        · rw [World.cell?_setCell_same _ _ _ (u := .int .i64 (fr : Int)) (by exact h1)]; simp
        · rw [World.frozen?_setCell]; exact f0
        · rw [World.frozen?_setCell]; exact f1
        · exact (Fr.set _ _ _).own ((Fr.drewN [] w nq).own ho (by simp)) (fun k hk hk2 => by simp only [List.mem_singleton] at hk2; subst hk2; exact r4 hk)
        · have h3 := R3.out
          have : held.length = all.length - fr := by rw [h3]; simp
          have := Hl.out
          omega
        · rw [R3.out, List.drop_drop]
      · exact ((Fr.drewN [r] w nq).trans (Fr.set (w.drewN nq) ⟨r, 1, none⟩ _)).trans (ha2.fr.mono (by simp [blkL, blk]))
#print axioms first_any
#print axioms Rdr.next
end Go.Proofs.YtkpdbdlkihgofaaDoor
