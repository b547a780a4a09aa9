/- Parts of the walks and plain laws, merged: RWd, RFu, NmP, FndX. Each theorem bears its own conditions; no other. -/
import Derived.Test.YtbdphdgomcabmaaGreatDoorSpN
import Derived.Test.YtbdphdgomcabmaaGreatDoorNi8
namespace Go.Proofs.YtbdphdgomcabmaaGreatDoor
open Go.RowKit

def WdPost (w : World) (s : ByteArray) (e : Ending) (w' : World) : Prop := Kp w w' ∧ match Q.behind s.data.toList with
  | none => e = .returned (.tuple #[.slice none 0 0, .bool false])
  | some l => ∃ (ws : List ByteArray) (ao : Option Addr) (n cap : Nat), e = .returned (.tuple #[.slice ao n cap, .bool true]) ∧ wl ws = l ∧ Strs w' ao n ws
theorem WdPost.no {w w' : World} {s : ByteArray} (hk : Kp w w') (h : Q.behind s.data.toList = none) : WdPost w s (.returned (.tuple #[.slice none 0 0, .bool false])) w' := ⟨hk, by rw [h]⟩
theorem WdPost.yes {w w' : World} {s : ByteArray} {ws : List ByteArray} {ao : Option Addr} {n cap : Nat} (hk : Kp w w') (h : Q.behind s.data.toList = some (wl ws)) (hw : Strs w' ao n ws) : WdPost w s (.returned (.tuple #[.slice ao n cap, .bool true])) w' := ⟨hk, by rw [h]; exact ⟨ws, ao, n, cap, rfl, rfl, hw⟩⟩
end Go.Proofs.YtbdphdgomcabmaaGreatDoor

namespace Go.Proofs.YtbdphdgomcabmaaGreatDoor
open Go.RowKit

def FullPost (w : World) (s : ByteArray) (e : Ending) (w' : World) : Prop := w = w' ∧ match Q.fullN s.data.toList with
  | none => e = .returned (.tuple #[.string ⟨#[]⟩, .bool false])
  | some l => ∃ f : ByteArray, e = .returned (.tuple #[.string f, .bool true]) ∧ f.data.toList = l
theorem FullPost.no {w : World} {s : ByteArray} (h : Q.fullN s.data.toList = none) : FullPost w s (.returned (.tuple #[.string ⟨#[]⟩, .bool false])) w := ⟨rfl, by rw [h]⟩
theorem FullPost.yes {w : World} {s f : ByteArray} (h : Q.fullN s.data.toList = some f.data.toList) : FullPost w s (.returned (.tuple #[.string f, .bool true])) w := ⟨rfl, by rw [h]; exact ⟨f, rfl, rfl⟩⟩
end Go.Proofs.YtbdphdgomcabmaaGreatDoor

namespace Go.Proofs.YtbdphdgomcabmaaGreatDoor
open Go.RowKit

theorem wd_count : ∀ (s cur : Q.Bt) (ws : List Q.Bt), Q.wd cur s = some ws → 2 * ws.length ≤ cur.length + s.length + 1 ∧ ∀ x ∈ ws, x.length ≤ cur.length + s.length
  | [], cur, ws, h => by
    unfold Q.wd at h
    split at h
    · cases h
    · rename_i hb
      cases h
      refine ⟨?_, fun x hx => ?_⟩
      · cases cur with
        | nil => exact absurd rfl hb
        | cons c t => simp
      · simp at hx; subst hx; simp
  | c :: t, cur, ws, h => by
    unfold Q.wd at h
    split at h
    · obtain ⟨h1, h2⟩ := wd_count t _ ws h
      simp only [List.length_append, List.length_cons, List.length_nil] at h1 h2 ⊢
      exact ⟨by omega, fun x hx => by have := h2 x hx; omega⟩
    · split at h
      · cases h
      · rename_i hb
        split at h
        · cases hq : Q.wd [] t with
          | none => rw [hq] at h; cases h
          | some ws' =>
            rw [hq] at h
            simp only [Option.map_some, Option.some.injEq] at h
            subst h
            obtain ⟨h1, h2⟩ := wd_count t _ ws' hq
            have hc : 1 ≤ cur.length := by
              cases cur with
              | nil => exact absurd rfl hb
              | cons c t => simp
            simp only [List.length_nil, List.length_cons] at h1 h2 ⊢
            refine ⟨by omega, fun x hx => ?_⟩
            rcases List.mem_cons.1 hx with rfl | hx
            · omega
            · have := h2 x hx; omega
        · cases h
theorem behind_count {s : Q.Bt} {ws : List Q.Bt} (h : Q.behind s = some ws) : 2 * ws.length ≤ s.length + 1 ∧ ∀ x ∈ ws, x.length ≤ s.length := by
  cases s with
  | nil => cases h; simp
  | cons c t =>
    have := wd_count (c :: t) [] ws h
    simpa using this
theorem tbl_small : (Q.tableL.all fun y => decide (y.2.2.1.length ≤ 10) && y.2.2.1.all (fun l => decide (l.2.length ≤ 10)) && decide (y.1.length ≤ 10) && decide (y.2.1.1.length ≤ 10) && decide (y.2.1.2.length ≤ 10) && decide (checkL y.2.1.1 y.2.1.2 y.2.2.1 = 0) && y.1.all Q.upB) = true := by kernel_rfl
structure RowS (y : Row) : Prop where
  ls : y.2.2.1.length ≤ 10
  ts : ∀ l ∈ y.2.2.1, l.2.length ≤ 10
  nm : y.1.length ≤ 10
  b0 : y.2.1.1.length ≤ 10
  b1 : y.2.1.2.length ≤ 10
  ck : checkL y.2.1.1 y.2.1.2 y.2.2.1 = 0
  up : y.1.all Q.upB = true
theorem row_s {x : Q.Bt} {y : Row} (h : rowOf x = some y) : RowS y ∧ y.1 = x := by
  have h1 := List.all_eq_true.1 tbl_small y (List.mem_of_find?_eq_some h)
  simp only [Bool.and_eq_true, decide_eq_true_eq] at h1
  obtain ⟨⟨⟨⟨⟨⟨a, b⟩, c⟩, d⟩, e⟩, f⟩, g⟩ := h1
  exact ⟨⟨a, fun l hl => by have := List.all_eq_true.1 b l hl; simpa using this, c, d, e, f, g⟩, by have := List.find?_some h; simpa using this⟩
/-- The pattern of a protocol's name: its parts, and is there one? -/
def nmD (x : Q.Bt) : ByteArray × List Int × List Int × List Ln × Bool := match Q.parseN x with
  | none => (⟨#[]⟩, [], [], [], false)
  | some q => (bs q.nm, q.b0, q.b1, q.ls, true)
def errN (E : Nat → Addr) (b : Bool) : Value := if b then .nilIface else .iface 197 (.pointer (some (E 13)))
/-- What Parse answers, 'v' what it says of a mistake. -/
def NmPost (w : World) (v : Bool → Value) (x : ByteArray × List Int × List Int × List Ln × Bool) (e : Ending) (w' : World) : Prop := Kp w w' ∧ ∃ t0 t1 tl : Tv,
  e = .returned (.tuple #[.agg #[.string x.1, tvv t0, tvv t1, tvv tl], v x.2.2.2.2]) ∧ PatI w' t0.ao t1.ao tl.ao t0.n t1.n tl.n x.2.1 x.2.2.1 x.2.2.2.1
theorem NmPost.no {w w' : World} {v : Bool → Value} {u : Value} {x : Q.Bt} (hk : Kp w w') (h : Q.parseN x = none) (hu : v false = u) : NmPost w v (nmD x) (.returned (.tuple #[zeroP, u])) w' := by
  refine ⟨hk, nilT, nilT, nilT, ?_, ?_⟩
  · unfold nmD; rw [h, ← hu]; rfl
  · unfold nmD; rw [h]; exact PatI.none w'
theorem NmPost.yes {w w' : World} {v : Bool → Value} {u : Value} {x : Q.Bt} {q : Q.Pn} {t0 t1 tl : Tv} {nm : ByteArray} (hk : Kp w w') (h : Q.parseN x = some q) (hu : v true = u) (hn : nm = bs q.nm) (hP : PatI w' t0.ao t1.ao tl.ao t0.n t1.n tl.n q.b0 q.b1 q.ls) :
    NmPost w v (nmD x) (.returned (.tuple #[.agg #[.string nm, .slice t0.ao t0.n t0.c, .slice t1.ao t1.n t1.c, .slice tl.ao tl.n tl.c], u])) w' := by
  refine ⟨hk, t0, t1, tl, ?_, ?_⟩
  · unfold nmD; rw [h, ← hu, hn]; rfl
  · unfold nmD; rw [h]; exact hP
theorem parse_none {x : Q.Bt} (h : Q.fullN x = none) : Q.parseN x = none := by unfold Q.parseN; rw [h]; rfl
theorem parse_row {x f : Q.Bt} (h : Q.fullN x = some f) (hr : rowOf (f.takeWhile Q.upB) = none) : Q.parseN x = none := by
  unfold Q.parseN Q.patN
  rw [h]
  show (match Q.tableL.find? (fun y => y.1 == f.takeWhile Q.upB) with | none => none | some y => _) = none
  rw [show Q.tableL.find? (fun y => y.1 == f.takeWhile Q.upB) = none from hr]
theorem parse_words {x f : Q.Bt} {y : Row} (h : Q.fullN x = some f) (hr : rowOf (f.takeWhile Q.upB) = some y) : Q.parseN x = match Q.behind (f.dropWhile Q.upB) with
    | none => none
    | some [] => some ⟨y.1, y.2.1.1, y.2.1.2, y.2.2.1⟩
    | some (w :: ws) => (Q.modR ⟨y.1, y.2.1.1, y.2.1.2, y.2.2.1⟩ (w :: ws)).1 := by
  unfold Q.parseN Q.patN
  rw [h]
  show (match Q.tableL.find? (fun y => y.1 == f.takeWhile Q.upB) with | none => none | some y => _) = _
  rw [show Q.tableL.find? (fun y => y.1 == f.takeWhile Q.upB) = some y from hr]
  cases Q.behind (f.dropWhile Q.upB) with
  | none => rfl
  | some l => cases l <;> rfl
theorem parse_no_words {x f : Q.Bt} (h : Q.fullN x = some f) (hb : Q.behind (f.dropWhile Q.upB) = none) : Q.parseN x = none := by
  cases hr : rowOf (f.takeWhile Q.upB) with
  | none => exact parse_row h hr
  | some y => rw [parse_words h hr, hb]
/-- Modify's answer, as Parse uses it. -/
theorem modR_mdf {p : Q.Pn} {ws : List Q.Bt} : (∃ q, (Q.modR p ws).1 = some q ∧ mdf p ws = (bs q.nm, q.b0, q.b1, q.ls, 0)) ∨ ((Q.modR p ws).1 = none ∧ (mdf p ws).2.2.2.2 ≠ 0) := by
  have hc := modR_code p ws
  unfold mdf
  cases h : Q.modR p ws with
  | mk q c =>
    rw [h] at hc
    cases q with
    | none => exact .inr ⟨rfl, hc.1⟩
    | some q => exact .inl ⟨q, rfl, rfl⟩
theorem fnd_none {x : Q.Bt} (h : rowOf x = none) : fnd x = (⟨#[]⟩, [], [], [], false) := by unfold fnd; rw [h]
theorem fnd_some {x : Q.Bt} {y : Row} (h : rowOf x = some y) : fnd x = (bs y.1, y.2.1.1, y.2.1.2, y.2.2.1, true) := by unfold fnd; rw [h]
end Go.Proofs.YtbdphdgomcabmaaGreatDoor

namespace Go.Proofs.YtbdphdgomcabmaaGreatDoor
open Go.RowKit

def RFindX (w : World) (X : List Nat) (nm : Q.Bt) (e : Ending) (w' : World) : Prop := Kp w w' ∧ match rowOf nm with
  | none => e = .returned (.tuple #[zeroP, .bool false])
  | some y => ∃ t0 t1 tl : Tv, e = .returned (.tuple #[.agg #[.string (bs y.1), tvv t0, tvv t1, tvv tl], .bool true]) ∧ ∀ w'', Fr X w' w'' → PatI w'' t0.ao t1.ao tl.ao t0.n t1.n tl.n y.2.1.1 y.2.1.2 y.2.2.1
theorem RFindX.no {w w' : World} {X : List Nat} {nm : Q.Bt} (hk : Kp w w') (h : rowOf nm = none) : RFindX w X nm (.returned (.tuple #[zeroP, .bool false])) w' := ⟨hk, by rw [h]⟩
theorem RFindX.yes {w w' : World} {X : List Nat} {nm : Q.Bt} {y : Row} {t0 t1 tl : Tv} (hk : Kp w w') (h : rowOf nm = some y) (hp : ∀ w'', Fr X w' w'' → PatI w'' t0.ao t1.ao tl.ao t0.n t1.n tl.n y.2.1.1 y.2.1.2 y.2.2.1) :
    RFindX w X nm (.returned (.tuple #[.agg #[.string (bs y.1), tvv t0, tvv t1, tvv tl], .bool true])) w' := ⟨hk, by rw [h]; exact ⟨t0, t1, tl, rfl, hp⟩⟩
attribute [local irreducible] tblK tblP tblQ Q.piecesB Q.tableB Q.tableL rowOf rowsL
theorem find_st (w : World) (E : Nat → Addr) (m : Int) (hE : Env w E m) (s : ByteArray) (hs : s.size ≤ maxLen) : Calls Tryz.prog 16 #[.string s] w fun e w' => Kp w w' ∧ ∃ t0 t1 tl : Tv,
    e = .returned (.tuple #[.agg #[.string (fnd s.data.toList).1, tvv t0, tvv t1, tvv tl], .bool (fnd s.data.toList).2.2.2.2]) ∧ ∀ X w'', Fr X w' w'' → (∀ x ∈ X, x < w.heap.size) → PatI w'' t0.ao t1.ao tl.ao t0.n t1.n tl.n (fnd s.data.toList).2.1 (fnd s.data.toList).2.2.1 (fnd s.data.toList).2.2.2.1 := by
  refine (find_any s m E (E 8) w hs hE.mx hE.errs hE.c5).mono ?_
  rintro e w' ⟨hk, h⟩
  refine ⟨hk, ?_⟩
  cases hq : rowOf s.data.toList with
  | none =>
    rw [hq] at h
    rw [fnd_none hq]
    exact ⟨nilT, nilT, nilT, h, fun X w'' _ _ => PatI.none w''⟩
  | some y =>
    rw [hq] at h
    rw [fnd_some hq]
    obtain ⟨t0, t1, tl, ts, he, hP⟩ := h
    have hs := row_small hq
    exact ⟨t0, t1, tl, he, fun X w'' hf hX => (hP.fr hf (fun x hx => .inl (hX x hx))).patI hs.1 hs.2⟩
end Go.Proofs.YtbdphdgomcabmaaGreatDoor
