-- MACHINE SIDE, written by wip/drive.py (this session's driver over the kit's print) for this claim. Lean checks it.
import Derived.Test.YtgepcdpnjinadaaPXx0
import Derived.Test.YtgepcdpnjinadaaPXx1
import Derived.Test.YtgepcdpnjinadaaPXx5
import Derived.Lib.OthersKept
import Derived.Lib.RuneBytes
namespace Go.Proofs.Ytgepcdpnjinadaa.PX
open Go.RowKit Go.Proofs.YtgepcdpnjinadaaW.PrintWords Go.Proofs.YtgepcdpnjinadaaW.PrintLast Go.Proofs.YtgepcdpnjinadaaW.PrintMore
attribute [local go_sem] max2_int min2_int max_two min_two max_three min_three max_four min_four   -- for this text's walks alone
set_option linter.unusedVariables false
set_option linter.unusedSimpArgs false

-- HAND
-- FUNCTION palinode/utf.Make
-- KINDS (sl) (str) norounds making
-- NEEDS Derived.Lib.OthersKept
-- NEEDS Derived.Lib.RuneBytes
def utf_mk (n : Int) : Int := if 0 ≤ n then (if n ≤ 1114111 then (if n < 55296 then n else if 57343 < n then n else 65533) else 65533) else 65533
def utf_mks (l : List Int) : List UInt8 := l.flatMap fun n => Lib.encodeRune (utf_mk n)
def utf_Make.f (l0 : List Int) : Option ByteArray := if l0.length ≤ 17592186044416 then some ⟨(utf_mks l0).toArray⟩ else none
theorem utf_mks_len : ∀ l : List Int, (utf_mks l).length ≤ 4 * l.length
  | [] => by simp [utf_mks]
  | a :: l => by
    have h := utf_mks_len l
    have e : utf_mks (a :: l) = Lib.encodeRune (utf_mk a) ++ utf_mks l := rfl
    have k := (Lib.runeCells_le (utf_mk a)).2
    rw [Lib.runeCells_length] at k
    rw [e, List.length_append, List.length_cons]
    omega
theorem utf_mks_take (l : List Int) (i : Nat) (h : i < l.length) : utf_mks (l.take (i + 1)) = utf_mks (l.take i) ++ Lib.encodeRune (utf_mk (rd l i)) := by
  have e : l.take (i + 1) = l.take i ++ [l[i]] := List.take_succ_eq_append_getElem h
  have e2 : rd l (i : Int) = l[i] := by simp [rd, h]
  rw [e, e2]
  simp only [utf_mks, List.flatMap_append, List.flatMap_cons, List.flatMap_nil, List.append_nil]
theorem utf_mk_good {n : Int} (c1 : 0 ≤ n) (c2 : n ≤ 1114111) (c3 : utf_isPoint.f n = some true) : utf_mk n = n := by
  unfold utf_mk; rw [if_pos c1, if_pos c2]
  unfold utf_isPoint.f at c3
  rw [if_pos (by omega), if_pos (by omega)] at c3
  by_cases c : n < 55296
  · rw [if_pos c]
  · rw [if_neg c] at c3 ⊢
    rw [if_pos (by simpa using c3)]
theorem utf_mk_bad {n : Int} (c1 : 0 ≤ n) (c2 : n ≤ 1114111) (c3 : utf_isPoint.f n = some false) : utf_mk n = 65533 := by
  unfold utf_mk; rw [if_pos c1, if_pos c2]
  unfold utf_isPoint.f at c3
  rw [if_pos (by omega), if_pos (by omega)] at c3
  by_cases c : n < 55296
  · rw [if_pos c] at c3; simp at c3
  · rw [if_neg c] at c3 ⊢
    rw [if_neg (by simpa using c3)]
theorem sb_drewN {T e : TypeId} {B b : Nat} {bs : List Value} {w : World} (h : Lib.IsBuilder T e B b bs w) (n : Nat) : Lib.IsBuilder T e B b bs (w.drewN n) := h
set_option maxHeartbeats 8000000 in
set_option maxRecDepth 100000 in
theorem utf_Make.calls (A0 : Option Addr) (c0 : Nat) (l0 : List Int) (r : ByteArray) (w : World) (hr0 : Kd.C (Kd.int .i64) w A0 l0.length l0) (hc0 : l0.length ≤ c0) (h : utf_Make.f l0 = some r) :
    Calls Try.prog 32 #[.slice A0 l0.length c0] w fun e w' => e = .returned (.string r) ∧ Below w.heap.size w w' := by
  unfold utf_Make.f at h
  by_cases hl : l0.length ≤ 17592186044416
  case neg => rw [if_neg hl] at h; exact absurd h (by simp)
  rw [if_pos hl] at h
  obtain rfl := Option.some.inj h
  clear h
  replace hl := Aside0.mk hl
  go_enter Try.func32, Try.ntmps32
  go_wp2
  go_loopw [9] (fun v wr => ∃ i : Nat, v = .int .i64 i ∧ Aside0 (i ≤ l0.length) ∧ Aside0 (Lib.IsBuilder 64 5 w.heap.size w.heap.size (Lib.byteCells (utf_mks (l0.take i))) wr) ∧ Aside0 (Below w.heap.size w wr)) (fun v _ => l0.length - (intOf v).toNat)
  case atStart => exact ⟨0, rfl, ⟨by omega⟩, ⟨by simpa [utf_mks, Lib.byteCells] using Lib.fresh_isBuilder 64 5 w⟩, ⟨(Below.refl _ w).alloc (Nat.le_refl _) _⟩⟩
  case round =>
    obtain ⟨i, rfl, hi, hI, HB⟩ := hrel
    by_cases hlt : i < l0.length
    · have hir : w.heap.size ≤ wr.heap.size := HB.out.size
      have hread := Kd.C_below hr0 HB.out
      obtain ⟨ad, rfl⟩ : ∃ ad, A0 = some ad := by
        obtain ⟨ad, c, hA, _⟩ := ReadsRow.get_ hr0 (0 : Int) (i : Int) (by omega) (by omega)
        exact ⟨ad, hA⟩
      have hcell := Kd.foot_int hread (i : Int) (by omega) (by omega)
      simp only [Int.toNat_natCast] at hcell
      clear hread
      have hsn := utf_mks_take l0 i hlt
      have hle := utf_mks_len (l0.take i)
      have hle2 : (l0.take i).length ≤ i := List.length_take_le _ _
      have hlen : (Lib.byteCells (utf_mks (l0.take i))).length + 4 ≤ 140737488355328 := by rw [Lib.byteCells_length]; have := hl.out; omega
      clear hle hle2
      have hi63 : (i : Int) < 17592186044416 := by have := hl.out; omega
      generalize hn : rd l0 (i : Int) = n at hcell hsn
      clear hn
      replace hlen := Aside0.mk hlen
      replace hir := Aside0.mk hir
      replace hsn := Aside0.mk hsn
      by_cases c1 : 0 ≤ n
      · by_cases c2 : n ≤ 1114111
        · obtain ⟨b, c3⟩ : ∃ b, utf_isPoint.f n = some b := by unfold utf_isPoint.f; split <;> (try split) <;> (try split) <;> exact ⟨_, rfl⟩
          cases b
          · have hmk : utf_mk n = 65533 := utf_mk_bad c1 c2 c3
            rw [hmk] at hsn
            go_wp2_with (first | (go_at_call 45; refine (utf_isPoint.calls _ _ _ c3).mono ?_; rintro e w1 ⟨rfl, ⟨nd, rfl⟩⟩) | (go_at_call 46; refine (sb_WriteRune w.heap.size w.heap.size _ _ (by omega) (by omega) _ (by repeat (first | exact hI.out | apply sb_drewN)) hlen.out (by have := hir.out; simpa using this)).mono ?_; rintro e W1 ⟨rfl, h1, b1, k1⟩))
            go_wp2
            go_roundw
            case rel => exact ⟨i + 1, by go_num, ⟨by have := hlt; omega⟩, ⟨by rw [hsn.out, Lib.byteCells_append, Lib.byteCells_encodeRune]; exact Or.inr h1⟩, ⟨Below.trans (show Below w.heap.size w _ from by repeat (first | exact HB.out | apply pw_below_drewN)) b1⟩⟩
            case measure => simp [intOf]; omega
          · have hmk : utf_mk n = n := utf_mk_good c1 c2 c3
            rw [hmk] at hsn
            go_wp2_with (first | (go_at_call 45; refine (utf_isPoint.calls _ _ _ c3).mono ?_; rintro e w1 ⟨rfl, ⟨nd, rfl⟩⟩) | (go_at_call 46; refine (sb_WriteRune w.heap.size w.heap.size _ _ (by omega) (by omega) _ (by repeat (first | exact hI.out | apply sb_drewN)) hlen.out (by have := hir.out; simpa using this)).mono ?_; rintro e W1 ⟨rfl, h1, b1, k1⟩))
            go_wp2
            go_roundw
            case rel => exact ⟨i + 1, by go_num, ⟨by have := hlt; omega⟩, ⟨by rw [hsn.out, Lib.byteCells_append, Lib.byteCells_encodeRune]; exact Or.inr h1⟩, ⟨Below.trans (show Below w.heap.size w _ from by repeat (first | exact HB.out | apply pw_below_drewN)) b1⟩⟩
            case measure => simp [intOf]; omega
        · have hmk : utf_mk n = 65533 := by unfold utf_mk; rw [if_pos c1, if_neg c2]
          have c2b : decide (n ≤ 1114111) = false := decide_eq_false c2
          rw [hmk] at hsn
          go_wp2_with (first | (go_at_call 45; refine (utf_isPoint.calls _ _ _ c3).mono ?_; rintro e w1 ⟨rfl, ⟨nd, rfl⟩⟩) | (go_at_call 46; refine (sb_WriteRune w.heap.size w.heap.size _ _ (by omega) (by omega) _ (by repeat (first | exact hI.out | apply sb_drewN)) hlen.out (by have := hir.out; simpa using this)).mono ?_; rintro e W1 ⟨rfl, h1, b1, k1⟩))
          go_wp2
          go_roundw
          case rel => exact ⟨i + 1, by go_num, ⟨by have := hlt; omega⟩, ⟨by rw [hsn.out, Lib.byteCells_append, Lib.byteCells_encodeRune]; exact Or.inr h1⟩, ⟨Below.trans (show Below w.heap.size w _ from by repeat (first | exact HB.out | apply pw_below_drewN)) b1⟩⟩
          case measure => simp [intOf]; omega
      · have hmk : utf_mk n = 65533 := by unfold utf_mk; rw [if_neg c1]
        have c1b : decide (0 ≤ n) = false := decide_eq_false c1
        rw [hmk] at hsn
        go_wp2_with (first | (go_at_call 45; refine (utf_isPoint.calls _ _ _ c3).mono ?_; rintro e w1 ⟨rfl, ⟨nd, rfl⟩⟩) | (go_at_call 46; refine (sb_WriteRune w.heap.size w.heap.size _ _ (by omega) (by omega) _ (by repeat (first | exact hI.out | apply sb_drewN)) hlen.out (by have := hir.out; simpa using this)).mono ?_; rintro e W1 ⟨rfl, h1, b1, k1⟩))
        go_wp2
        go_roundw
        case rel => exact ⟨i + 1, by go_num, ⟨by have := hlt; omega⟩, ⟨by rw [hsn.out, Lib.byteCells_append, Lib.byteCells_encodeRune]; exact Or.inr h1⟩, ⟨Below.trans (show Below w.heap.size w _ from by repeat (first | exact HB.out | apply pw_below_drewN)) b1⟩⟩
        case measure => simp [intOf]; omega
    · have hi2 : l0.length ≤ i := by omega
      have hlt2 : decide (i < l0.length) = false := decide_eq_false hlt
      rw [List.take_of_length_le hi2] at hI
      have hir : w.heap.size ≤ wr.heap.size := HB.out.size
      go_wp2_with (go_at_call 47; refine (sb_String w.heap.size w.heap.size (utf_mks l0) _ hI.out (by omega)).mono ?_; rintro e W1 ⟨rfl, b1, _⟩)
      go_ret
      exact ⟨rfl, HB.out.trans b1⟩

end Go.Proofs.Ytgepcdpnjinadaa.PX
