/- The plain statement of UtfSteps: from edge to edge forward by sizes and back by Back it is the same way. No conditions. -/
import Derived.Test.YtgepcdpnjinadaaK1
import Derived.Test.YtgepcdpnjinadaaPXx17
namespace Go.Proofs.Ytgepcdpnjinadaa.Pure
open Go.RowKit Go.Proofs.Ytgepcdpnjinadaa.PX Go.Proofs.YtgepcdpnjinadaaW.PrintWords Go.Proofs.YtgepcdpnjinadaaW.PrintLast Go.Proofs.Ytgepcdpnjinadaa.U Go.Proofs.Ytgepcdpnjinadaa.V Go.Lib
set_option linter.unusedVariables false

theorem steps_l (s : ByteArray) (hs : s.size ≤ 150) : ∀ (vs us : List Int) (k : Nat), (∀ v ∈ us, sc v) → (∀ v ∈ vs, sc v) → L s = U.encs us ++ U.encs vs → us.length ≤ (U.encs us).length → vs.length + 400 ≤ k → palinodelaw1_UtfSteps.l0 k s ((U.encs us).length : Int) (us.length : Int) = some true := by
  intro vs
  induction vs with
  | nil =>
    intro us k hu hv h hul hk
    obtain ⟨k, rfl⟩ : ∃ m, k = m + 1 := ⟨k - 1, by omega⟩
    rw [U.encs_nil, List.append_nil] at h
    have hz : s.size = (U.encs us).length := by rw [L_size, h]
    have e0 : back s 0 = 0 := by unfold back; rw [if_pos (.inl (by omega))]
    have e1 : sizeAt s (s.size : Int) = 0 := by rw [sizeAt_in, L_drop_nil s _ (by omega)]; rfl
    have e2 : sizeAt s (-1) = 0 := by unfold sizeAt; rw [if_pos (by omega)]
    simp only [palinodelaw1_UtfSteps.l0]
    rw [if_neg (by omega), if_pos (by omega), Points_eq k s (by omega) (by omega), Option.bind_some, h, points_encs' us hu, if_pos rfl, Back_eq k s (by omega) (by omega), Size_eq k (by omega) s (by omega), Size_eq k (by omega) s (by omega), e0, e1, e2]
    rfl
  | cons v vs ih =>
    intro us k hu hv h hul hk
    obtain ⟨k, rfl⟩ : ∃ m, k = m + 1 := ⟨k - 1, by omega⟩
    rw [U.encs_cons] at h
    have hsv := hv v (by simp)
    have hv2 : ∀ w ∈ vs, sc w := fun w hw => hv w (by simp [hw])
    have hz : s.size = (U.encs us).length + ((enc v).length + (U.encs vs).length) := by rw [L_size, h, List.length_append, List.length_append]
    have hn := enc_len v
    have e1 := size_at s (U.encs us) (U.encs vs) v hsv h
    have e2 := back_at s us vs v hu hv2 hsv h
    simp only [palinodelaw1_UtfSteps.l0]
    rw [if_pos (by omega), Size_eq k (by omega) s (by omega), Option.bind_some, e1, if_neg (by omega), if_neg (by omega), w64 (by omega) (by omega), Back_eq k s (by omega) (by omega), Option.bind_some]
    rw [show ((U.encs us).length : Int) + ((enc v).length : Int) = (((U.encs us).length + (enc v).length : Nat) : Int) from rfl, e2, if_pos rfl, w64 (by omega) (by omega)]
    have := ih (us ++ [v]) k (fun w hw => by rcases List.mem_append.1 hw with hw | hw; exact hu w hw; rw [List.mem_singleton.1 hw]; exact hsv) hv2 (by rw [h, U.encs_append, U.encs_cons, U.encs_nil, List.append_nil, List.append_assoc]) (by rw [U.encs_append, U.encs_cons, U.encs_nil, List.append_nil, List.length_append, List.length_append]; simp; omega) (by simp at hk; omega)
    rw [U.encs_append, U.encs_cons, U.encs_nil, List.append_nil, List.length_append, List.length_append] at this
    exact this
theorem steps_f (s : ByteArray) (k : Nat) (hk : 1000 ≤ k) : palinodelaw1_UtfSteps.f (k + 1) s = some true := by
  unfold palinodelaw1_UtfSteps.f
  rw [known1 _ (by omega), Option.bind_some, if_pos rfl]
  by_cases c : (s.size : Int) > 150
  · rw [if_pos c]; simp only [palinodelaw1_UtfSteps.j0]; rfl
  · rw [if_neg c, Valid_eq _ s (by omega) (by omega), Option.bind_some]
    by_cases v : valid (L s) = true
    · rw [v]
      have e := clean_of_valid _ v
      unfold clean at e
      have hp := points_le (L s)
      rw [L_len] at hp
      simp only [palinodelaw1_UtfSteps.j0]
      exact steps_l s (by omega) (points (L s)) [] k (by simp) (points_sc _) (by rw [U.encs_nil, List.nil_append, e]) (by simp) (by omega)
    · rw [Bool.not_eq_true] at v
      rw [v]; simp only [palinodelaw1_UtfSteps.j0]; rfl
theorem UtfSteps : palinodelaw1_UtfSteps.Pure := fun s _ => ⟨_, steps_f s 1000 (Nat.le_refl _)⟩

end Go.Proofs.Ytgepcdpnjinadaa.Pure
