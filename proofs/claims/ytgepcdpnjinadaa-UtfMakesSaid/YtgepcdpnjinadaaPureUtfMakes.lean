/- The plain statement of UtfMakes: numbers made into bytes are the reference's bytes one behind the other, and valid. No conditions. -/
import Derived.Test.YtgepcdpnjinadaaK1
import Derived.Test.YtgepcdpnjinadaaPXx15
namespace Go.Proofs.Ytgepcdpnjinadaa.Pure
open Go.RowKit Go.Proofs.Ytgepcdpnjinadaa.PX Go.Proofs.YtgepcdpnjinadaaW.PrintWords Go.Proofs.YtgepcdpnjinadaaW.PrintLast Go.Proofs.Ytgepcdpnjinadaa.U Go.Proofs.Ytgepcdpnjinadaa.V Go.Lib
set_option linter.unusedVariables false

theorem encs_le (l : List Int) : (U.encs l).length ≤ 4 * l.length := by
  induction l with
  | nil => simp
  | cons v l ih => rw [U.encs_cons, List.length_append, List.length_cons]; have := (enc_len v).2; omega
theorem makes_end (k : Nat) (l : List Int) (hl : l.length ≤ 60) (i : Int) (hi : ¬ i < (l.length : Int)) (hk : 400 ≤ k) :
    palinodelaw1_UtfMakes.l0 (k + 1) l ⟨(U.encs (l.map utf_mk)).toArray⟩ i = some true := by
  have hs : (⟨(U.encs (l.map utf_mk)).toArray⟩ : ByteArray).size ≤ 240 := by
    rw [L_size, L_mk]; have := encs_le (l.map utf_mk); rw [List.length_map] at this; omega
  simp only [palinodelaw1_UtfMakes.l0]
  rw [if_neg hi, Make_eq l (by omega), Option.bind_some, if_pos rfl, Valid_eq k _ (by omega) (by omega), L_mk, valid_encs' _ (fun v hv => by obtain ⟨x, _, rfl⟩ := List.mem_map.1 hv; exact sc_mk x)]
  rfl
theorem makes_l (l : List Int) (hl : l.length ≤ 60) (d : Nat) : ∀ (k i : Nat), l.length ≤ i + d → i ≤ l.length → d + 410 ≤ k → palinodelaw1_UtfMakes.l0 k l ⟨(U.encs ((l.take i).map utf_mk)).toArray⟩ i = some true := by
  induction d with
  | zero =>
    intro k i h h2 hk
    obtain ⟨k, rfl⟩ : ∃ m, k = m + 1 := ⟨k - 1, by omega⟩
    rw [List.take_of_length_le (by omega)]
    exact makes_end k l hl _ (by omega) (by omega)
  | succ d ih =>
    intro k i h h2 hk
    obtain ⟨k, rfl⟩ : ∃ m, k = m + 1 := ⟨k - 1, by omega⟩
    by_cases hlt : i < l.length
    · have e1 : rd l (i : Int) = l[i] := by simp [rd, hlt]
      have hb : (U.encs ((l.take i).map utf_mk)).length ≤ 240 := by
        have := encs_le ((l.take i).map utf_mk); rw [List.length_map, List.length_take] at this; omega
      have e2 : (⟨(U.encs ((l.take i).map utf_mk)).toArray⟩ : ByteArray) ++ encS (utf_mk l[i]) = ⟨(U.encs ((l.take (i + 1)).map utf_mk)).toArray⟩ := by
        apply L_inj
        rw [L_append, L_encS, L_mk, L_mk, List.take_succ_eq_append_getElem hlt, List.map_append, U.encs_append]
        simp
      have e3 : (encS (utf_mk l[i])).size ≤ 4 := by rw [L_size, L_encS]; exact (enc_len _).2
      have e4 : (⟨(U.encs ((l.take i).map utf_mk)).toArray⟩ : ByteArray).size ≤ 240 := by rw [L_size, L_mk]; exact hb
      simp only [palinodelaw1_UtfMakes.l0]
      rw [if_pos (by omega), if_pos (by omega), e1, rMake_eq k (by omega), Option.bind_some, if_pos (by omega), e2, w64 (by omega) (by omega)]
      exact ih k (i + 1) (by omega) (by omega) (by omega)
    · rw [List.take_of_length_le (by omega)]
      exact makes_end k l hl _ (by omega) (by omega)
theorem UtfMakes : palinodelaw1_UtfMakes.Pure := by
  intro l h0 h1 h2
  refine ⟨1000, ?_⟩
  unfold palinodelaw1_UtfMakes.f
  rw [known1 _ (by omega), Option.bind_some, if_pos rfl]
  by_cases c : (l.length : Int) > 60
  · rw [if_pos c]
  · rw [if_neg c]
    exact makes_l l (by omega) 60 1000 0 (by omega) (by omega) (by omega)

end Go.Proofs.Ytgepcdpnjinadaa.Pure
