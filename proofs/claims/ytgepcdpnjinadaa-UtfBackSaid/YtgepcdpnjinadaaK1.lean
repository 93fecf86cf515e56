/- The printed known() of layer 1 comes to true; further plain facts on edges. No conditions. -/
import Derived.Test.YtgepcdpnjinadaaR2
import Derived.Test.YtgepcdpnjinadaaPXx8
namespace Go.Proofs.Ytgepcdpnjinadaa.V
open Go.RowKit Go.Proofs.Ytgepcdpnjinadaa.PX Go.Proofs.YtgepcdpnjinadaaW.PrintWords Go.Proofs.YtgepcdpnjinadaaW.PrintLast Go.Proofs.Ytgepcdpnjinadaa.U Go.Lib
set_option linter.unusedVariables false

theorem clean_nil : clean [] = [] := by unfold clean; rw [points_nil]; rfl
theorem known1 (k : Nat) (hk : 40 ≤ k) : palinodelaw1_known.f k = some true := by
  have e1 : L (⟨#[97, 195, 169]⟩ : ByteArray) = encs [97, 233] := by decide +kernel
  have e2 : points (encs [97, 233]) = [97, 233] := points_encs' _ (by decide)
  have s1 : sizeAt (⟨#[195, 169]⟩ : ByteArray) 0 = 2 := by decide +kernel
  have s2 : sizeAt (⟨#[255]⟩ : ByteArray) 0 = 0 := by decide +kernel
  have v1 : valid (encs [97, 233]) = true := valid_encs' _ (by decide)
  have v2 : valid (L (⟨#[195]⟩ : ByteArray)) = false := valid_none (a := 195) (t := []) (by decide +kernel)
  have c1 : (cleanS (⟨#[255]⟩ : ByteArray)).toList = ([239, 191, 189] : List UInt8) := by
    rw [toList_L, L_clean]
    show clean [255] = _
    rw [clean_none (by decide +kernel), clean_nil]; decide +kernel
  have v3 : valid (L (⟨#[195, 169]⟩ : ByteArray)) = true := by
    rw [show L (⟨#[195, 169]⟩ : ByteArray) = encs [233] by decide +kernel]; exact valid_encs' _ (by decide)
  have d1 : edge (⟨#[195, 169]⟩ : ByteArray) 2 = true := by unfold edge; rw [v3]; decide +kernel
  have d2 : edge (⟨#[195, 169]⟩ : ByteArray) 1 = false := by unfold edge; rw [v3]; decide +kernel
  have d3 : edge (⟨#[97, 195, 169]⟩ : ByteArray) 3 = true := by unfold edge; rw [e1, v1]; decide +kernel
  have b1 : back (⟨#[97, 195, 169]⟩ : ByteArray) 3 = 1 := by unfold back; rw [if_neg (by rw [d3]; simp)]; decide +kernel
  have m1 : utf_Make.f [233, -1] = some ⟨#[195, 169, 239, 191, 189]⟩ := by
    rw [Make_eq _ (by decide)]
    exact congrArg some (L_inj (by rw [L_mk]; decide +kernel))
  unfold palinodelaw1_known.f
  rw [Points_eq k _ (by decide) (Nat.le_trans (by decide) hk), e1, e2, Size_eq k (by omega) _ (by decide), Size_eq k (by omega) _ (by decide), s1, s2, Valid_eq k _ (by decide) (Nat.le_trans (by decide) hk), e1, v1, Valid_eq k _ (by decide) (Nat.le_trans (by decide) hk), v2, Clean_eq k _ (by decide) (Nat.le_trans (by decide) hk), IsEdge_eq k _ (by decide) (Nat.le_trans (by decide) hk), d1, IsEdge_eq k _ (by decide) (Nat.le_trans (by decide) hk), d2, Back_eq k _ (by decide) (Nat.le_trans (by decide) hk), b1, m1]
  simp only [Option.bind_some, c1]
  decide +kernel
theorem bk_over (s : ByteArray) (m j : Nat) (h : m = 0 ∨ ¬ (128 ≤ bt s (m : Int) ∧ bt s (m : Int) < 192)) (hc : ∀ x, m < x → x ≤ m + j → 128 ≤ bt s (x : Int) ∧ bt s (x : Int) < 192) : bk s (m + j) = m := by
  induction j with
  | zero =>
    rw [Nat.add_zero]
    match m, h with
    | 0, _ => rfl
    | m + 1, h =>
      rw [bk, if_neg (by rcases h with h | h; omega; exact h)]
  | succ j ih =>
    rw [← Nat.add_assoc, bk, if_pos (hc (m + j + 1) (by omega) (by omega))]
    exact ih (fun x h1 h2 => hc x h1 (by omega))
theorem nth_of (s : ByteArray) (l r : List UInt8) (h : L s = l ++ r) (x : Nat) (hx : l.length ≤ x) (hy : x < s.size) : ∃ a, r[x - l.length]? = some a ∧ bt s (x : Int) = bi a := by
  obtain ⟨a, t, hd, hb, _⟩ := at_head s x hy
  refine ⟨a, ?_, hb⟩
  have e : (L s)[x]? = some a := by rw [← List.head?_drop, hd]; rfl
  rw [h, List.getElem?_append_right hx] at e
  exact e
/-- In a valid text, between code points, there is an edge. -/
theorem edge_at (s : ByteArray) (us vs : List Int) (hu : ∀ v ∈ us, sc v) (hv : ∀ v ∈ vs, sc v) (h : L s = encs us ++ encs vs) : edge s ((encs us).length : Int) = true := by
  have hval : valid (L s) = true := by rw [h, ← U.encs_append]; exact valid_encs' _ (fun v hv' => by rcases List.mem_append.1 hv' with h | h; exact hu v h; exact hv v h)
  have hz : s.size = (encs us).length + (encs vs).length := by rw [L_size, h, List.length_append]
  unfold edge
  rw [hval, decide_eq_true (by omega), decide_eq_true (show ((encs us).length : Int) ≤ s.size by omega)]
  match vs, hv, h, hz with
  | [], _, _, hz => rw [decide_eq_true (by simp at hz; omega)]; rfl
  | v :: vs, hv, h, hz =>
    obtain ⟨a, t, he, hc, _⟩ := enc_shape v (hv v (by simp))
    have hb := bt_nth s (encs us) (t ++ encs vs) a (by rw [h, encs_cons, he]; rfl) _ rfl
    rw [decide_eq_false (show ¬ (128 ≤ bt s ((encs us).length : Int) ∧ bt s ((encs us).length : Int) < 192) by rw [hb]; exact hc)]
    simp
theorem back_at (s : ByteArray) (us vs : List Int) (v : Int) (hu : ∀ v ∈ us, sc v) (hv : ∀ v ∈ vs, sc v) (hs : sc v) (h : L s = encs us ++ (enc v ++ encs vs)) : back s (((encs us).length + (enc v).length : Nat) : Int) = ((encs us).length : Int) := by
  have he := edge_at s (us ++ [v]) vs (fun w hw => by rcases List.mem_append.1 hw with hw | hw; exact hu w hw; rw [List.mem_singleton.1 hw]; exact hs) hv (by rw [h, U.encs_append, encs_cons, encs_nil, List.append_nil, List.append_assoc])
  rw [U.encs_append, encs_cons, encs_nil, List.append_nil, List.length_append] at he
  obtain ⟨a, t, hsh, hc, ht⟩ := enc_shape v hs
  have hl : (enc v).length = t.length + 1 := by rw [hsh]; rfl
  unfold back
  rw [if_neg (by rw [he]; simp; omega)]
  have e1 : ((((encs us).length + (enc v).length : Nat) : Int) - 1).toNat = (encs us).length + t.length := by omega
  have hb := bt_nth s (encs us) (t ++ encs vs) a (by rw [h, hsh]; rfl) _ rfl
  have hz : s.size = (encs us).length + ((enc v).length + (encs vs).length) := by rw [L_size, h, List.length_append, List.length_append]
  rw [e1, bk_over s _ _ (.inr (by rw [hb]; exact hc))]
  intro x h1 h2
  obtain ⟨b, hb1, hb2⟩ := nth_of s (encs us ++ [a]) (t ++ encs vs) (by rw [h, hsh]; simp) x (by simp; omega) (by omega)
  rw [hb2]
  have hx : x - (encs us ++ [a]).length < t.length := by simp; omega
  rw [List.getElem?_append_left hx] at hb1
  exact ht b (List.mem_of_getElem? hb1)
theorem size_at (s : ByteArray) (l r : List UInt8) (v : Int) (hs : sc v) (h : L s = l ++ (enc v ++ r)) : sizeAt s (l.length : Int) = (enc v).length := by
  rw [sizeAt_in, h, List.drop_left, enc_dec v hs]

end Go.Proofs.Ytgepcdpnjinadaa.V
