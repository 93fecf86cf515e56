/- Contracts of package utf in plain words: each call answers what the plain law tells, whatever the memory. For strings of at most a million bytes. -/
import Derived.Test.YtgepcdpnjinadaaK1
import Derived.Test.YtgepcdpnjinadaaPXx3
import Derived.Test.YtgepcdpnjinadaaPXx4
import Derived.Test.YtgepcdpnjinadaaPXx7
import Derived.Test.YtgepcdpnjinadaaPXx8
namespace Go.Proofs.Ytgepcdpnjinadaa.V
open Go.RowKit Go.Proofs.Ytgepcdpnjinadaa.PX Go.Proofs.YtgepcdpnjinadaaW.PrintWords Go.Proofs.YtgepcdpnjinadaaW.PrintLast Go.Proofs.Ytgepcdpnjinadaa.U Go.Lib
set_option linter.unusedVariables false

theorem cKnown1 (w : World) : Calls Try.prog 17 #[] w fun e w' => e = .returned (.bool true) ∧ Below w.heap.size w w' :=
  palinodelaw1_known.calls 40 _ w (known1 40 (Nat.le_refl _))
theorem cSize (s : ByteArray) (i : Int) (hs : s.size ≤ 1000000) (w : World) : Calls Try.prog 22 #[.string s, .int .i64 i] w fun e w' => e = .returned (.int .i64 (sizeAt s i : Int)) ∧ Below w.heap.size w w' :=
  utf_Size.calls 6 s i _ w (Size_eq 6 (Nat.le_refl _) s (by omega) i)
theorem cValid (s : ByteArray) (hs : s.size ≤ 1000000) (w : World) : Calls Try.prog 24 #[.string s] w fun e w' => e = .returned (.bool (valid (L s))) ∧ Below w.heap.size w w' :=
  utf_Valid.calls (s.size + 8) s _ w (Valid_eq _ s hs (Nat.le_refl _))
theorem cClean (s : ByteArray) (hs : s.size ≤ 1000000) (w : World) : Calls Try.prog 26 #[.string s] w fun e w' => e = .returned (.string (cleanS s)) ∧ Below w.heap.size w w' :=
  utf_Clean.calls (s.size + 8) s _ w (Clean_eq _ s hs (Nat.le_refl _))
theorem cIsEdge (s : ByteArray) (i : Int) (hs : s.size ≤ 1000000) (w : World) : Calls Try.prog 28 #[.string s, .int .i64 i] w fun e w' => e = .returned (.bool (edge s i)) ∧ Below w.heap.size w w' :=
  utf_IsEdge.calls (s.size + 8) s i _ w (IsEdge_eq _ s hs (Nat.le_refl _) i)
theorem cBack (s : ByteArray) (i : Int) (hs : s.size ≤ 1000000) (w : World) : Calls Try.prog 18 #[.string s, .int .i64 i] w fun e w' => e = .returned (.int .i64 (back s i)) ∧ Below w.heap.size w w' :=
  utf_Back.calls (s.size + 8) s i _ w (Back_eq _ s hs (Nat.le_refl _) i)
/-- A slice that reads as a list. -/
def Reads (w : World) (v : Value) (l : List Int) : Prop := ∃ A c, v = .slice A l.length c ∧ l.length ≤ c ∧ Kd.C (Kd.int .i64) w A l.length l
theorem cPoints (s : ByteArray) (hs : s.size ≤ 1000000) (w : World) : Calls Try.prog 19 #[.string s] w fun e w' => ∃ A c, e = .returned (.slice A (points (L s)).length c) ∧ Aside0 ((points (L s)).length ≤ c) ∧ Aside0 (Kd.C (Kd.int .i64) w' A (points (L s)).length (points (L s))) ∧ Below w.heap.size w w' := by
  refine (utf_Points.calls (s.size + 8) s _ w (Points_eq _ s hs (Nat.le_refl _))).mono ?_
  rintro e w' ⟨v, rfl, hR, hb⟩
  obtain ⟨A, c, rfl, hl, hC⟩ := Kd.R_reads hR
  exact ⟨A, c, rfl, ⟨hl⟩, ⟨hC⟩, hb⟩
theorem cMake (A : Option Addr) (c : Nat) (l : List Int) (hl : l.length ≤ 1000000) (w : World) (hC : Kd.C (Kd.int .i64) w A l.length l) (hc : l.length ≤ c) : Calls Try.prog 32 #[.slice A l.length c] w fun e w' => e = .returned (.string ⟨(encs (l.map utf_mk)).toArray⟩) ∧ Below w.heap.size w w' :=
  utf_Make.calls A c l _ w hC hc (Make_eq l hl)

end Go.Proofs.Ytgepcdpnjinadaa.V
