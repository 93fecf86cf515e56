/- The plain statement of UtfTells: package utf and its reference answer alike at every text of at most 300 bytes and every place. No conditions. -/
import Derived.Test.YtgepcdpnjinadaaK1
import Derived.Test.YtgepcdpnjinadaaPXx13
namespace Go.Proofs.Ytgepcdpnjinadaa.Pure
open Go.RowKit Go.Proofs.Ytgepcdpnjinadaa.PX Go.Proofs.YtgepcdpnjinadaaW.PrintWords Go.Proofs.YtgepcdpnjinadaaW.PrintLast Go.Proofs.Ytgepcdpnjinadaa.U Go.Proofs.Ytgepcdpnjinadaa.V Go.Lib
set_option linter.unusedVariables false

theorem tells_end (k : Nat) (s : ByteArray) (hs : s.size ≤ 300) (at_ : Int) (p : List Int) (q : List ByteArray) (i : Int) (hi : ¬ i < (p.length : Int)) (hk : 400 ≤ k) :
    palinodelaw1_UtfTells.l0 (k + 1) s at_ (back s at_) p q i = some true := by
  simp only [palinodelaw1_UtfTells.l0]
  rw [if_neg hi, Size_eq k (by omega) s (by omega), rSize_eq k (by omega) s (by omega), Valid_eq k s (by omega) (by omega), rValid_eq k s (by omega) (by omega), Clean_eq k s (by omega) (by omega), rClean_eq k s (by omega) (by omega), IsEdge_eq k s (by omega) (by omega), rIsEdge_eq k s (by omega) (by omega), rBack_eq k s (by omega) (by omega)]
  simp
theorem tells_l (s : ByteArray) (hs : s.size ≤ 300) (at_ : Int) (p : List Int) (hp : ∀ v ∈ p, sc v) (hl : p.length ≤ 300) (d : Nat) : ∀ (k i : Nat), p.length ≤ i + d → d + 410 ≤ k → palinodelaw1_UtfTells.l0 k s at_ (back s at_) p (p.map encS) i = some true := by
  induction d with
  | zero =>
    intro k i h hk
    obtain ⟨k, rfl⟩ : ∃ m, k = m + 1 := ⟨k - 1, by omega⟩
    exact tells_end k s hs at_ p _ _ (by omega) (by omega)
  | succ d ih =>
    intro k i h hk
    obtain ⟨k, rfl⟩ : ∃ m, k = m + 1 := ⟨k - 1, by omega⟩
    by_cases hlt : i < p.length
    · have e1 : rd p (i : Int) = p[i] := by simp [rd, hlt]
      have e2 : rdOf ByteArray.empty (p.map encS) (i : Int) = encS p[i] := by simp [rdOf, hlt]
      simp only [palinodelaw1_UtfTells.l0]
      rw [if_pos (by omega), if_pos (by omega), if_pos (by simp; omega), e1, e2, Number_eq k (by omega) _ (hp _ (List.getElem_mem hlt)), Option.bind_some, if_pos rfl, w64 (by omega) (by omega)]
      exact ih k (i + 1) (by omega) (by omega)
    · exact tells_end k s hs at_ p _ _ (by omega) (by omega)
theorem UtfTells : palinodelaw1_UtfTells.Pure := by
  intro s at_ h0 h1
  refine ⟨2000, ?_⟩
  unfold palinodelaw1_UtfTells.f
  rw [known1 _ (by omega), Option.bind_some, if_pos rfl]
  by_cases c : (s.size : Int) > 300
  · rw [if_pos c]
  · have hp := points_le (L s)
    rw [L_len] at hp
    rw [if_neg c, Back_eq _ s (by omega) (by omega), Points_eq _ s (by omega) (by omega), rPoints_eq _ s (by omega) (by omega)]
    simp only [Option.bind_some]
    rw [if_pos (by simp)]
    exact tells_l s (by omega) at_ _ (points_sc _) (by omega) 300 2000 0 (by omega) (by omega)

end Go.Proofs.Ytgepcdpnjinadaa.Pure
