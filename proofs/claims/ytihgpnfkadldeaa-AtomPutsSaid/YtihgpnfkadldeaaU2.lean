/- Plain law of code points, part two: a list of bytes as the numbers of its code points; valid, clean; the shape of a code point's bytes. No conditions. -/
import Derived.Test.YtihgpnfkadldeaaU
namespace Go.Proofs.Ytihgpnfkadldeaa.U
set_option linter.unusedVariables false
open Go.Lib

theorem enc_len (v : Int) : 1 ≤ (enc v).length ∧ (enc v).length ≤ 4 := by
  have h := runeCells_le v
  rw [runeCells_length] at h
  exact h
theorem enc_cons (v : Int) : ∃ a t, enc v = a :: t := by
  have h := enc_len v
  match e : enc v with
  | [] => rw [e] at h; simp at h
  | a :: t => exact ⟨a, t, rfl⟩
def encs (vs : List Int) : List UInt8 := vs.flatMap enc
@[simp] theorem encs_nil : encs [] = [] := rfl
@[simp] theorem encs_cons (v : Int) (vs : List Int) : encs (v :: vs) = enc v ++ encs vs := rfl
theorem encs_append (a b : List Int) : encs (a ++ b) = encs a ++ encs b := by simp [encs]
theorem sc_bad : sc 65533 := by decide
/-- The numbers of a list's code points; 65533 for a byte that is none. -/
def points : List UInt8 → List Int
  | [] => []
  | a :: t => if _h : (dec (a :: t)).1 = 0 then 65533 :: points t else (dec (a :: t)).2 :: points ((a :: t).drop (dec (a :: t)).1)
  termination_by l => l.length
  decreasing_by
  · simp
  · simp only [List.length_drop, List.length_cons]; omega
def valid : List UInt8 → Bool
  | [] => true
  | a :: t => if _h : (dec (a :: t)).1 = 0 then false else valid ((a :: t).drop (dec (a :: t)).1)
  termination_by l => l.length
  decreasing_by
  simp only [List.length_drop, List.length_cons]; omega
theorem points_nil : points [] = [] := points.eq_def []
theorem valid_nil : valid [] = true := valid.eq_def []
theorem points_cons (a : UInt8) (t : List UInt8) : points (a :: t) = if _h : (dec (a :: t)).1 = 0 then 65533 :: points t else (dec (a :: t)).2 :: points ((a :: t).drop (dec (a :: t)).1) := points.eq_def (a :: t)
theorem valid_cons (a : UInt8) (t : List UInt8) : valid (a :: t) = if _h : (dec (a :: t)).1 = 0 then false else valid ((a :: t).drop (dec (a :: t)).1) := valid.eq_def (a :: t)
theorem points_none {a : UInt8} {t : List UInt8} (h : (dec (a :: t)).1 = 0) : points (a :: t) = 65533 :: points t := by rw [points_cons, dif_pos h]
theorem valid_none {a : UInt8} {t : List UInt8} (h : (dec (a :: t)).1 = 0) : valid (a :: t) = false := by rw [valid_cons, dif_pos h]
theorem points_enc1 {v : Int} (h : sc v) (r : List UInt8) : points (enc v ++ r) = v :: points r := by
  have hd := enc_dec v h r
  obtain ⟨a, t, e⟩ := enc_cons v
  have hl := (enc_len v).1
  have hr : (enc v ++ r).drop (enc v).length = r := List.drop_left
  rw [e] at hd hl hr ⊢
  rw [List.cons_append] at hd hr ⊢
  rw [points_cons, dif_neg (by rw [hd]; simp)]
  simp only [hd, hr]
theorem valid_enc1 {v : Int} (h : sc v) (r : List UInt8) : valid (enc v ++ r) = valid r := by
  have hd := enc_dec v h r
  obtain ⟨a, t, e⟩ := enc_cons v
  have hr : (enc v ++ r).drop (enc v).length = r := List.drop_left
  rw [e] at hd hr ⊢
  rw [List.cons_append] at hd hr ⊢
  rw [valid_cons, dif_neg (by rw [hd]; simp)]
  simp only [hd, hr]
/-- Either nothing, or a byte that is none, or a code point. -/
theorem parts (l : List UInt8) : l = [] ∨ (∃ a t, l = a :: t ∧ (dec l).1 = 0) ∨ ∃ v r, sc v ∧ l = enc v ++ r ∧ dec l = ((enc v).length, v) := by
  match l with
  | [] => exact .inl rfl
  | a :: t =>
    by_cases h : (dec (a :: t)).1 = 0
    · exact .inr (.inl ⟨a, t, rfl, h⟩)
    · obtain ⟨hs, r, hl, hn⟩ := dec_enc (a :: t) (dec (a :: t)).1 (dec (a :: t)).2 (Prod.eta (dec (a :: t))).symm h
      exact .inr (.inr ⟨(dec (a :: t)).2, r, hs, hl, by rw [hn]⟩)
/-- Induction along the code points. -/
theorem along {P : List UInt8 → Prop} (h0 : P []) (h1 : ∀ a t, (dec (a :: t)).1 = 0 → P t → P (a :: t)) (h2 : ∀ v r, sc v → P r → P (enc v ++ r)) (l : List UInt8) : P l := by
  suffices h : ∀ n (l : List UInt8), l.length ≤ n → P l from h _ l (Nat.le_refl _)
  intro n
  induction n with
  | zero => intro l hl; rw [List.length_eq_zero_iff.1 (by omega : l.length = 0)]; exact h0
  | succ n ih =>
    intro l hl
    rcases parts l with rfl | ⟨a, t, rfl, h⟩ | ⟨v, r, hs, rfl, hd⟩
    · exact h0
    · exact h1 a t h (ih t (by simp at hl; omega))
    · have := (enc_len v).1
      exact h2 v r hs (ih r (by rw [List.length_append] at hl; omega))
theorem points_sc (l : List UInt8) : ∀ v ∈ points l, sc v := by
  induction l using along with
  | h0 => rw [points_nil]; simp
  | h1 a t h ih => rw [points_none h]; intro v hv; rcases List.mem_cons.1 hv with rfl | hv; exact sc_bad; exact ih v hv
  | h2 v r hs ih => rw [points_enc1 hs]; intro u hu; rcases List.mem_cons.1 hu with rfl | hu; exact hs; exact ih u hu
theorem points_encs (vs : List Int) (h : ∀ v ∈ vs, sc v) (r : List UInt8) : points (encs vs ++ r) = vs ++ points r := by
  induction vs with
  | nil => rfl
  | cons v vs ih =>
    rw [encs_cons, List.append_assoc, points_enc1 (h v (by simp)), ih (fun u hu => h u (by simp [hu]))]
    rfl
theorem valid_encs (vs : List Int) (h : ∀ v ∈ vs, sc v) (r : List UInt8) : valid (encs vs ++ r) = valid r := by
  induction vs with
  | nil => rfl
  | cons v vs ih => rw [encs_cons, List.append_assoc, valid_enc1 (h v (by simp)), ih (fun u hu => h u (by simp [hu]))]
theorem valid_encs' (vs : List Int) (h : ∀ v ∈ vs, sc v) : valid (encs vs) = true := by
  have := valid_encs vs h []
  rw [List.append_nil, valid_nil] at this
  exact this
theorem points_encs' (vs : List Int) (h : ∀ v ∈ vs, sc v) : points (encs vs) = vs := by
  have := points_encs vs h []
  rw [List.append_nil, points_nil, List.append_nil] at this
  exact this
def clean (l : List UInt8) : List UInt8 := encs (points l)
theorem clean_valid (l : List UInt8) : valid (clean l) = true := valid_encs' _ (points_sc l)
theorem clean_of_valid (l : List UInt8) : valid l = true → clean l = l := by
  unfold clean
  induction l using along with
  | h0 => intro _; rw [points_nil]; rfl
  | h1 a t h ih => intro hv; rw [valid_none h] at hv; cases hv
  | h2 v r hs ih => intro hv; rw [valid_enc1 hs] at hv; rw [points_enc1 hs, encs_cons, ih hv]
theorem valid_iff (l : List UInt8) : valid l = true ↔ clean l = l := ⟨clean_of_valid l, fun h => by rw [← h]; exact clean_valid l⟩
theorem clean_len (l : List UInt8) : l.length ≤ (clean l).length := by
  unfold clean
  induction l using along with
  | h0 => simp
  | h1 a t h ih => rw [points_none h, encs_cons, List.length_append, List.length_cons]; have := (enc_len 65533).1; omega
  | h2 v r hs ih => rw [points_enc1 hs, encs_cons, List.length_append, List.length_append]; omega
theorem clean_le (l : List UInt8) : (clean l).length ≤ 4 * l.length := by
  unfold clean
  induction l using along with
  | h0 => rw [points_nil]; simp
  | h1 a t h ih => rw [points_none h, encs_cons, List.length_append, List.length_cons]; have := (enc_len 65533).2; omega
  | h2 v r hs ih => rw [points_enc1 hs, encs_cons, List.length_append, List.length_append]; omega
theorem points_le (l : List UInt8) : (points l).length ≤ l.length := by
  induction l using along with
  | h0 => rw [points_nil]; simp
  | h1 a t h ih => rw [points_none h, List.length_cons, List.length_cons]; omega
  | h2 v r hs ih => rw [points_enc1 hs, List.length_cons, List.length_append]; have := (enc_len v).1; omega
theorem clean_append {a : List UInt8} (h : valid a = true) (b : List UInt8) : clean (a ++ b) = a ++ clean b := by
  have e := (valid_iff a).1 h
  unfold clean at e ⊢
  conv => lhs; rw [← e]
  rw [points_encs _ (points_sc a), encs_append, e]
theorem points_append {a : List UInt8} (h : valid a = true) (b : List UInt8) : points (a ++ b) = points a ++ points b := by
  have e := (valid_iff a).1 h
  unfold clean at e
  conv => lhs; rw [← e]
  rw [points_encs _ (points_sc a)]
theorem valid_append {a : List UInt8} (h : valid a = true) (b : List UInt8) : valid (a ++ b) = valid b := by
  have e := (valid_iff a).1 h
  unfold clean at e
  conv => lhs; rw [← e]
  rw [valid_encs _ (points_sc a)]
theorem clean_none {a : UInt8} {t : List UInt8} (h : (dec (a :: t)).1 = 0) : clean (a :: t) = enc 65533 ++ clean t := by unfold clean; rw [points_none h, encs_cons]
theorem clean_enc1 {v : Int} (h : sc v) (r : List UInt8) : clean (enc v ++ r) = enc v ++ clean r := by unfold clean; rw [points_enc1 h, encs_cons]
/-- A code point's bytes: a first one, and those that go on. -/
theorem enc_shape (v : Int) (h : sc v) : ∃ a t, enc v = a :: t ∧ ¬ cont a ∧ ∀ x ∈ t, cont x := by
  have h' := h
  unfold sc at h'
  by_cases c1 : v < 128
  · refine ⟨_, [], enc_one (by omega) c1, ?_, by simp⟩
    unfold cont; rw [bi_of (by omega) (by omega)]; omega
  by_cases c2 : v < 2048
  · refine ⟨_, [_], enc_two (by omega) c2, ?_, ?_⟩
    · unfold cont; rw [bi_of (by omega) (by omega)]; omega
    · intro x hx; rw [List.mem_singleton.1 hx]; unfold cont; rw [bi_of (by omega) (by omega)]; omega
  by_cases c3 : v < 65536
  · refine ⟨_, [_, _], enc_three (by omega) c3 h, ?_, ?_⟩
    · unfold cont; rw [bi_of (by omega) (by omega)]; omega
    · intro x hx
      rcases List.mem_cons.1 hx with rfl | hx
      · unfold cont; rw [bi_of (by omega) (by omega)]; omega
      · rw [List.mem_singleton.1 hx]; unfold cont; rw [bi_of (by omega) (by omega)]; omega
  · refine ⟨_, [_, _, _], enc_four (by omega) (by omega), ?_, ?_⟩
    · unfold cont; rw [bi_of (by omega) (by omega)]; omega
    · intro x hx
      rcases List.mem_cons.1 hx with rfl | hx
      · unfold cont; rw [bi_of (by omega) (by omega)]; omega
      · rcases List.mem_cons.1 hx with rfl | hx
        · unfold cont; rw [bi_of (by omega) (by omega)]; omega
        · rw [List.mem_singleton.1 hx]; unfold cont; rw [bi_of (by omega) (by omega)]; omega
/-- A byte that goes on begins no code point. -/
theorem dec_cont {a : UInt8} (h : cont a) (t : List UInt8) : (dec (a :: t)).1 = 0 := by
  unfold cont at h
  rw [dec.eq_def]
  simp only
  rw [if_neg (by omega), if_pos (by omega)]
theorem dec_le (l : List UInt8) : (dec l).1 ≤ l.length ∧ (dec l).1 ≤ 4 := by
  rcases parts l with rfl | ⟨a, t, rfl, h⟩ | ⟨v, r, hs, rfl, hd⟩
  · exact ⟨Nat.le_refl _, Nat.zero_le _⟩
  · rw [h]; exact ⟨Nat.zero_le _, Nat.zero_le _⟩
  · rw [hd, List.length_append]; have := enc_len v; exact ⟨by simp, by simp; omega⟩
theorem dec_sc (l : List UInt8) (h : (dec l).1 ≠ 0) : sc (dec l).2 := (dec_enc l (dec l).1 (dec l).2 (Prod.eta (dec l)).symm h).1

end Go.Proofs.Ytihgpnfkadldeaa.U
