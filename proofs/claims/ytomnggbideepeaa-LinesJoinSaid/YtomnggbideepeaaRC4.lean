/- Plain: pieces of a text of whatever size. No condition. -/
import Derived.Test.YtomnggbideepeaaQ10
namespace Go.Proofs.Ytomnggbideepeaa.AM
set_option linter.unusedSimpArgs false
set_option linter.unusedVariables false
open Go Go.Proofs.Ytomnggbideepeaa.U
/-- Where a piece is cut off. -/
def cutM (m : Nat) (s : ByteArray) : Nat := if s.size ≤ m then s.size else backN (L s) m
theorem cutM_ok (m : Nat) (hm : 4 ≤ m) (s : ByteArray) (hv : valid (L s) = true) (h0 : 0 < s.size) : 1 ≤ cutM m s ∧ cutM m s ≤ m ∧ cutM m s ≤ s.size ∧ (m < s.size → m - 3 ≤ cutM m s) ∧ valid ((L s).take (cutM m s)) = true ∧ valid ((L s).drop (cutM m s)) = true := by
  unfold cutM
  by_cases c : s.size ≤ m
  · rw [if_pos c, ← L_len, List.take_length, List.drop_length]
    rw [L_len]
    exact ⟨by omega, c, Nat.le_refl _, by omega, hv, valid_nil⟩
  · rw [if_neg c]
    have h1 := backN_le (L s) m
    have h2 := backN_ge (L s) hv m (by omega) (by rw [L_len]; omega)
    have h3 := backN_ok (L s) hv m
    obtain ⟨v1, v2⟩ := valid_cut (L s) (backN (L s) m) (by rw [L_len]; omega) h3 hv
    exact ⟨by omega, h1, by omega, fun _ => by omega, v1, v2⟩
def piecesF (m : Nat) : Nat → ByteArray → List ByteArray
  | 0, _ => []
  | k + 1, s => if s.size = 0 then [] else s.extract 0 (cutM m s) :: piecesF m k (s.extract (cutM m s) s.size)
/-- A text's pieces. -/
def piecesM (m : Nat) (s : ByteArray) : List ByteArray := piecesF m s.size s
theorem piecesF_same (m : Nat) (hm : 4 ≤ m) : ∀ (k j : Nat) (s : ByteArray), valid (L s) = true → s.size ≤ k → s.size ≤ j → piecesF m k s = piecesF m j s := by
  intro k
  induction k with
  | zero =>
    intro j s hv h1 h2
    cases j with
    | zero => rfl
    | succ j => rw [piecesF, piecesF, if_pos (by omega)]
  | succ k ih =>
    intro j s hv h1 h2
    cases j with
    | zero => rw [piecesF, piecesF, if_pos (by omega)]
    | succ j =>
      rw [piecesF, piecesF]
      by_cases c : s.size = 0
      · rw [if_pos c, if_pos c]
      · rw [if_neg c, if_neg c]
        obtain ⟨a1, a2, a3, a4, a5, a6⟩ := cutM_ok m hm s hv (by omega)
        have hz : (s.extract (cutM m s) s.size).size = s.size - cutM m s := ex_drop_size s _
        rw [ih j _ (by rw [ex_drop]; exact a6) (by omega) (by omega)]
theorem piecesM_cons (m : Nat) (hm : 4 ≤ m) (s : ByteArray) (hv : valid (L s) = true) (h0 : 0 < s.size) : piecesM m s = s.extract 0 (cutM m s) :: piecesM m (s.extract (cutM m s) s.size) := by
  obtain ⟨a1, a2, a3, a4, a5, a6⟩ := cutM_ok m hm s hv h0
  have hz : (s.extract (cutM m s) s.size).size = s.size - cutM m s := ex_drop_size s _
  unfold piecesM
  obtain ⟨k, hk⟩ : ∃ k, s.size = k + 1 := ⟨s.size - 1, by omega⟩
  rw [hk, piecesF, if_neg (by omega), ← hk]
  rw [piecesF_same m hm k (s.extract (cutM m s) s.size).size _ (by rw [ex_drop]; exact a6) (by omega) (Nat.le_refl _)]
theorem piecesM_nil (m : Nat) (s : ByteArray) (h0 : s.size = 0) : piecesM m s = [] := by
  unfold piecesM
  rw [h0, piecesF]
end Go.Proofs.Ytomnggbideepeaa.AM
