/- Plain: edges of a valid text, and what changes make of it. No condition. -/
import Derived.Test.YtihgpnfkadldeaaAR22
namespace Go.Proofs.Ytihgpnfkadldeaa.AM
set_option linter.unusedSimpArgs false
set_option linter.unusedVariables false
open Go Go.Proofs.Ytihgpnfkadldeaa.U
/-- A valid text, cut where no character is. -/
theorem split_valid (l : List UInt8) : ∀ i, i ≤ l.length → (∀ b, l[i]? = some b → ¬ cont b) → valid l = true → valid (l.take i) = true ∧ valid (l.drop i) = true := by
  refine along (P := fun l => ∀ i, i ≤ l.length → (∀ b, l[i]? = some b → ¬ cont b) → valid l = true → valid (l.take i) = true ∧ valid (l.drop i) = true) ?_ ?_ ?_ l
  · intro i _ _ _; simp [valid_nil]
  · intro a t h _ i _ _ hv; rw [valid_none h] at hv; simp at hv
  · intro v r hs ih i hi hc hv
    rw [valid_enc1 hs] at hv
    by_cases h0 : i = 0
    · subst h0
      rw [List.take_zero, List.drop_zero, valid_enc1 hs]
      exact ⟨valid_nil, hv⟩
    by_cases h1 : i < (enc v).length
    · exfalso
      obtain ⟨a, t, e, _, hx⟩ := enc_shape v hs
      have hg : (enc v ++ r)[i]? = (enc v)[i]? := List.getElem?_append_left h1
      rw [hg, List.getElem?_eq_getElem h1] at hc
      refine hc _ rfl ?_
      have hm : (enc v)[i] ∈ t := by
        have : ∀ (l : List UInt8) (h : i < l.length), l = a :: t → l[i] ∈ t := by
          intro l h e
          subst e
          obtain ⟨j, rfl⟩ : ∃ j, i = j + 1 := ⟨i - 1, by omega⟩
          rw [List.getElem_cons_succ]
          exact List.getElem_mem _
        exact this _ h1 e
      exact hx _ hm
    · obtain ⟨j, rfl⟩ : ∃ j, i = (enc v).length + j := ⟨i - (enc v).length, by omega⟩
      rw [List.length_append] at hi
      have h2 := ih j (by omega) (fun b hb => hc b (by rw [List.getElem?_append_right (by omega), Nat.add_sub_cancel_left]; exact hb)) hv
      rw [List.take_length_add_append, List.drop_length_add_append, valid_enc1 hs]
      exact h2
theorem edge_split {s : ByteArray} {i : Int} (h : edge s i = true) : 0 ≤ i ∧ i ≤ s.size ∧ valid ((L s).take i.toNat) = true ∧ valid ((L s).drop i.toNat) = true := by
  unfold edge at h
  simp only [Bool.and_eq_true, decide_eq_true_eq, Bool.or_eq_true] at h
  obtain ⟨⟨⟨h0, h1⟩, h2⟩, h3⟩ := h
  refine ⟨h0, h1, split_valid _ _ (by rw [L_len]; omega) (fun b hb => ?_) h3⟩
  rcases h2 with h2 | h2
  · have : i.toNat = (L s).length := by rw [L_len]; omega
    rw [this, List.getElem?_eq_none (Nat.le_refl _)] at hb
    simp at hb
  · rw [hb] at h2
    simpa using h2
theorem valid_head {a : UInt8} {t : List UInt8} (h : valid (a :: t) = true) : ¬ cont a := by
  intro hc
  rw [valid_none (dec_cont hc t)] at h
  simp at h
theorem edge_of {s : ByteArray} {i : Int} (h0 : 0 ≤ i) (h1 : i ≤ s.size) (ha : valid ((L s).take i.toNat) = true) (hb : valid ((L s).drop i.toNat) = true) : edge s i = true := by
  have hv : valid (L s) = true := by
    have := valid_append ha ((L s).drop i.toNat)
    rw [List.take_append_drop] at this
    rw [this, hb]
  unfold edge
  rw [hv, decide_eq_true ⟨h0, h1⟩, Bool.true_and, Bool.and_true]
  by_cases he : i = s.size
  · rw [decide_eq_true he]; rfl
  · rw [decide_eq_false he, Bool.false_or]
    cases hd : (L s).drop i.toNat with
    | nil =>
      have := congrArg List.length hd
      rw [List.length_drop, L_len] at this
      simp at this
      omega
    | cons a t =>
      rw [hd] at hb
      have hg : (L s)[i.toNat]? = some a := by
        have := congrArg (·[0]?) hd
        simpa using this
      rw [hg]
      simpa using valid_head hb
/-- The first place that changes touch, or the end. -/
def fst18 (s : ByteArray) : List Ch → Int
  | [] => s.size
  | c :: _ => c.f
theorem take_split (l : List UInt8) (a b : Nat) (h : a ≤ b) : l.take b = l.take a ++ (l.drop a).take (b - a) := by
  rw [← List.take_add, Nat.add_sub_cancel' h]
theorem doF_zero (s : ByteArray) (l : List Ch) (k : Int) (h0 : 0 ≤ k) (h1 : k ≤ fst18 s l) (h2 : fst18 s l ≤ s.size) : doF s l 0 = (L s).take k.toNat ++ doF s l k := by
  cases l with
  | nil => rw [doF, doF]; simp
  | cons c l =>
    have h1' : k ≤ c.f := h1
    rw [doF, doF, show (0 : Int).toNat = 0 from rfl, List.drop_zero, show (c.f - 0).toNat = c.f.toNat by omega, take_split (L s) k.toNat c.f.toNat (by omega), show c.f.toNat - k.toNat = (c.f - k).toNat by omega]
    simp only [List.append_assoc]
theorem Chain.fst {s : ByteArray} {l : List Ch} {k : Int} (h : Chain s l k) : 0 ≤ k ∧ k ≤ fst18 s l ∧ fst18 s l ≤ s.size := by
  cases l with
  | nil => exact ⟨h.1, h.2, Int.le_refl _⟩
  | cons c l => exact ⟨h.1, h.2.1, by have h1 := h.2.2.1; have h2 := h.2.2.2.1; show c.f ≤ _; omega⟩
theorem valid_doF (s : ByteArray) : ∀ (l : List Ch) (k : Int), Chain s l k → (∀ c ∈ l, edge s c.f = true ∧ edge s c.t = true) → (∀ c ∈ l, valid (L c.s) = true) → valid ((L s).drop k.toNat) = true → valid (doF s l k) = true
  | [], k, _, _, _, h => h
  | c :: l, k, hch, he, hv, h => by
    obtain ⟨h0, h1, h2, h3, h4⟩ := hch
    obtain ⟨e1, e2⟩ := he c (by simp)
    obtain ⟨_, _, _, ef⟩ := edge_split e1
    obtain ⟨_, _, _, et⟩ := edge_split e2
    have ih := valid_doF s l c.t h4 (fun c hc => he c (by simp [hc])) (fun c hc => hv c (by simp [hc])) et
    have hs := split_valid ((L s).drop k.toNat) (c.f - k).toNat (by rw [List.length_drop, L_len]; omega) (fun b hb => by
      rw [List.getElem?_drop, show k.toNat + (c.f - k).toNat = c.f.toNat by omega] at hb
      intro hc
      cases hd : (L s).drop c.f.toNat with
      | nil =>
        have := congrArg (·[0]?) hd
        simp [hb] at this
      | cons a t =>
        rw [hd] at ef
        have : (L s)[c.f.toNat]? = some a := by
          have := congrArg (·[0]?) hd
          simpa using this
        rw [hb] at this
        obtain rfl := Option.some.inj this
        exact valid_head ef hc) h
    rw [doF, List.append_assoc, valid_append hs.1, valid_append (hv c (by simp)), ih]
/-- The text when the changes behind a place are done. -/
def tl18 (s : ByteArray) (l : List Ch) : ByteArray := ⟨(doF s l 0).toArray⟩
theorem tl18_nil (s : ByteArray) : tl18 s [] = s := by unfold tl18; rw [doF]; exact mk_L s
theorem sum_le (l : List Ch) (m : Nat) (h : ∀ c ∈ l, c.s.size ≤ m) : (l.map fun c => c.s.size).sum ≤ m * l.length := by
  induction l with
  | nil => simp
  | cons c l ih =>
    have h1 := h c (by simp)
    have h2 := ih fun c hc => h c (by simp [hc])
    rw [List.map_cons, List.sum_cons, List.length_cons, Nat.mul_add]
    omega
/-- One change more, from behind. -/
theorem step18 (s : ByteArray) (c : Ch) (l : List Ch) (k : Int) (hs : s.size ≤ 200) (hlen : (c :: l).length ≤ 8) (hch : Chain s (c :: l) k) (he : ∀ x ∈ c :: l, edge s x.f = true ∧ edge s x.t = true) (hv : ∀ x ∈ c :: l, valid (L x.s) = true) (hsm : ∀ x ∈ c :: l, x.s.size ≤ 60) (hvs : valid (L s) = true) :
    chk (tl18 s l) [c] = 0 ∧ doS (tl18 s l) [c] = tl18 s (c :: l) := by
  obtain ⟨h0, h1, h2, h3, h4⟩ := hch
  obtain ⟨f0, f1, f2⟩ := h4.fst
  obtain ⟨e1, e2⟩ := he c (by simp)
  obtain ⟨_, _, ef0, ef⟩ := edge_split e1
  obtain ⟨_, _, et0, et⟩ := edge_split e2
  have hT : L (tl18 s l) = doF s l 0 := L_mk _
  have z1 := doF_zero s l c.t f0 f1 f2
  have z2 := doF_zero s l c.f (by omega) (by omega) f2
  have l1 : ((L s).take c.t.toNat).length = c.t.toNat := by rw [List.length_take, L_len]; omega
  have l2 : ((L s).take c.f.toNat).length = c.f.toNat := by rw [List.length_take, L_len]; omega
  have hvl := valid_doF s l c.t h4 (fun x hx => he x (by simp [hx])) (fun x hx => hv x (by simp [hx])) et
  have d1 : (L (tl18 s l)).drop c.t.toNat = doF s l c.t := by rw [hT, z1]; exact List.drop_left' l1
  have d2 : (L (tl18 s l)).take c.t.toNat = (L s).take c.t.toNat := by rw [hT, z1]; exact List.take_left' l1
  have d3 : (L (tl18 s l)).take c.f.toNat = (L s).take c.f.toNat := by rw [hT, z2]; exact List.take_left' l2
  have d4 : (L (tl18 s l)).drop c.f.toNat = doF s l c.f := by rw [hT, z2]; exact List.drop_left' l2
  have hsz : (tl18 s l).size = (doF s l 0).length := by rw [← hT, L_len]
  have hge : c.t.toNat ≤ (tl18 s l).size := by rw [hsz, z1, List.length_append, l1]; omega
  have hlt : (tl18 s l).size ≤ 200 + 60 * 8 := by
    have hc0 : Chain s l 0 := by
      cases l with
      | nil => exact ⟨by omega, by omega⟩
      | cons b l => exact ⟨by omega, by have := h4.2.1; omega, h4.2.2⟩
    have := doF_len s l 0 hc0
    have h5 := sum_le l 60 fun x hx => hsm x (by simp [hx])
    rw [List.length_cons] at hlen
    rw [hsz]
    omega
  have hcf : Chain s l c.f := by
    cases l with
    | nil => exact ⟨by omega, by omega⟩
    | cons b l => exact ⟨by omega, by have := h4.2.1; omega, h4.2.2⟩
  have hvf := valid_doF s l c.f hcf (fun x hx => he x (by simp [hx])) (fun x hx => hv x (by simp [hx])) ef
  have hvT : valid (L (tl18 s l)) = true := by
    have := valid_append ef0 ((L (tl18 s l)).drop c.f.toNat)
    rw [← d3, List.take_append_drop] at this
    rw [this, d4, hvf]
  have hr : ∀ x ∈ [c], 0 ≤ x.f ∧ x.f ≤ x.t ∧ x.t ≤ (tl18 s l).size := by
    intro x hx
    simp only [List.mem_singleton] at hx
    subst hx
    exact ⟨by omega, h2, by omega⟩
  have hG : Good18 (tl18 s l) [c] := by
    refine ⟨hvT, by simp, hr, fun x hx => ?_, rfl, fun x hx => ?_, ?_⟩
    · simp only [List.mem_singleton] at hx
      subst hx
      exact ⟨edge_of (by omega) (by omega) (by rw [d3]; exact ef0) (by rw [d4]; exact hvf), edge_of (by omega) (by omega) (by rw [d2]; exact et0) (by rw [d1]; exact hvl)⟩
    · simp only [List.mem_singleton] at hx
      subst hx
      exact hv x (by simp)
    · rw [lng_eq _ _ (by omega) hr]
      have h6 := hsm c (by simp)
      have e : cutN ((tl18 s l).size : Int) [c] = (tl18 s l).size - (c.t - c.f) := rfl
      rw [e, decide_eq_false (by omega), Bool.false_or, addN, addN, decide_eq_false (by omega)]
      rfl
  have hz := good_chk hG
  refine ⟨hz, ?_⟩
  unfold doS
  rw [if_pos hz]
  show (⟨_⟩ : ByteArray) = ⟨_⟩
  rw [show doF (tl18 s l) [c] 0 = doF s (c :: l) 0 from ?_]
  rw [doF, doF, doF, show (0 : Int).toNat = 0 from rfl, List.drop_zero, List.drop_zero, show (c.f - 0).toNat = c.f.toNat by omega, d3, d1]
end Go.Proofs.Ytihgpnfkadldeaa.AM
