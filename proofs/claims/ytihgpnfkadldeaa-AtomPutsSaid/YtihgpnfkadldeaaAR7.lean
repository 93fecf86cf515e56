/- Atoms on the small machine: where each stands (Places), what can be read (Text). For rows of fewer than 2^40 atoms with texts of less than 2^45 bytes together. -/
import Derived.Test.YtihgpnfkadldeaaAR6
namespace Go.Proofs.Ytihgpnfkadldeaa.AM
set_option linter.unusedSimpArgs false
set_option linter.unusedVariables false
open Go Go.Proofs.Ytihgpnfkadldeaa.U
variable {cp : List PV → Option Ret}

def sumT (l : List At) : Nat := (l.map fun a => a.txt.size).sum
theorem sumT_cons (a : At) (l : List At) : sumT (a :: l) = a.txt.size + sumT l := by simp [sumT]
theorem sumT_append (a b : List At) : sumT (a ++ b) = sumT a + sumT b := by simp [sumT]
theorem sumT_drop (l : List At) (i : Nat) : sumT (l.drop i) ≤ sumT l := by
  conv => rhs; rw [← List.take_append_drop i l]
  rw [sumT_append]; omega
theorem sumT_take (l : List At) (i : Nat) : sumT (l.take i) ≤ sumT l := by
  conv => rhs; rw [← List.take_append_drop i l]
  rw [sumT_append]; omega
/-- What atoms may be here. -/
structure Fit (l : List At) : Prop where
  len : l.length < 1099511627776
  sum : sumT l < 35184372088832
  cuts : ∀ a ∈ l, a.cuts.length < 1099511627776
theorem Fit.get {l : List At} (h : Fit l) (i : Nat) (hi : i < l.length) : l[i].cuts.length ≤ 9223372036854775807 ∧ l[i].txt.size < 35184372088832 := by
  have h1 := h.cuts _ (List.getElem_mem hi)
  refine ⟨by omega, ?_⟩
  have h2 := h.sum
  have h3 : sumT (l.drop i) ≤ sumT l := sumT_drop l i
  rw [List.drop_eq_getElem_cons hi, sumT_cons] at h3
  omega
/-- Where each atom stands, and the end. -/
def plcs (rev : Int) (u : List Int) : List At → Nat → List Int
  | [], _ => []
  | a :: l, n => (n : Int) :: plcs rev u l (if a.vis rev u then n + a.txt.size else n)
def plcE (rev : Int) (u : List Int) : List At → Nat → Nat
  | [], n => n
  | a :: l, n => plcE rev u l (if a.vis rev u then n + a.txt.size else n)
def places (rev : Int) (u : List Int) (l : List At) : List Int := plcs rev u l 0 ++ [(plcE rev u l 0 : Int)]
theorem plcs_len (rev : Int) (u : List Int) : ∀ (l : List At) (n : Nat), (plcs rev u l n).length = l.length
  | [], _ => rfl
  | a :: l, n => by simp [plcs, plcs_len rev u l]
theorem places_len (rev : Int) (u : List Int) (l : List At) : (places rev u l).length = l.length + 1 := by simp [places, plcs_len]
theorem plcE_le (rev : Int) (u : List Int) : ∀ (l : List At) (n : Nat), plcE rev u l n ≤ n + sumT l
  | [], n => by simp [plcE, sumT]
  | a :: l, n => by
    have := plcE_le rev u l (if a.vis rev u then n + a.txt.size else n)
    rw [sumT_cons]; simp only [plcE]
    split at this <;> simp_all <;> omega

set_option maxHeartbeats 1000000 in
theorem places_loop (l : List At) (rev : Int) (u : List Int) (hf : Fit l) (hu : u.length ≤ 9223372036854775807) : ∀ (m i n : Nat) (acc : List Int), m + i = l.length → acc.length = i → n + sumT (l.drop i) < 35184372088832 →
    Code (EX cp) L_atom_Places_0 ⟨[(1, .p (pi rev)), (2, .p (.sl 1 (ints u))), (7, .ms 7 0 acc.length), (8, .p (pi n)), (15, .p (.sl 5 (ats l))), (16, .p (pi l.length)), (17, .p (pi i))], [(7, .row 3 1 false (ints acc))]⟩ =
      some (.ex 0, ⟨[(1, .p (pi rev)), (2, .p (.sl 1 (ints u))), (7, .ms 7 0 (acc ++ plcs rev u (l.drop i) n).length), (8, .p (pi (plcE rev u (l.drop i) n))), (15, .p (.sl 5 (ats l))), (16, .p (pi l.length)), (17, .p (pi l.length)), (18, .p (pb false))], [(7, .row 3 1 false (ints (acc ++ plcs rev u (l.drop i) n)))]⟩) := by
  intro m
  induction m with
  | zero =>
    intro i n acc hi ha hb
    have : i = l.length := by omega
    subst this
    rw [L_atom_Places_0, k_loop]
    simp [plcs, plcE]
  | succ m ih =>
    intro i n acc hi ha hb
    have hlt : i < l.length := by omega
    have hl := hf.len
    have hg := ats_at l i hlt
    obtain ⟨hc, hz⟩ := hf.get i hlt
    have hv := visible (cp := cp) l[i] rev u hu hc
    rw [List.drop_eq_getElem_cons hlt] at hb ⊢
    rw [sumT_cons] at hb
    have hcap : (acc.length + 1) * 8 ≤ maxBytes ∧ acc.length + 1 ≤ 9223372036854775807 := by unfold maxBytes; omega
    generalize l[i] = a at *
    cases hvis : a.vis rev u with
    | false =>
      rw [hvis] at hv
      have ih' := ih (i+1) n (acc ++ [(n : Int)]) (by omega) (by simp; omega) (by omega)
      have e : acc ++ plcs rev u (a :: l.drop (i+1)) n = (acc ++ [(n : Int)]) ++ plcs rev u (l.drop (i+1)) n := by simp [plcs, hvis]
      have e2 : plcE rev u (a :: l.drop (i+1)) n = plcE rev u (l.drop (i+1)) n := by simp [plcE, hvis]
      rw [e, e2, ← ih', L_atom_Places_0, k_loop]
      simp only [At.pv] at hv hg
      simp (disch := omega) [hlt, hg, hv, wrap_in, hcap, dec_yes]
    | true =>
      rw [hvis] at hv
      have ih' := ih (i+1) (n + a.txt.size) (acc ++ [(n : Int)]) (by omega) (by simp; omega) (by omega)
      have e : acc ++ plcs rev u (a :: l.drop (i+1)) n = (acc ++ [(n : Int)]) ++ plcs rev u (l.drop (i+1)) (n + a.txt.size) := by simp [plcs, hvis]
      have e2 : plcE rev u (a :: l.drop (i+1)) n = plcE rev u (l.drop (i+1)) (n + a.txt.size) := by simp [plcE, hvis]
      rw [e, e2, ← ih', L_atom_Places_0, k_loop]
      simp only [At.pv] at hv hg
      simp (disch := omega) [hlt, hg, hv, wrap_in, hcap, dec_yes]
theorem atomPlaces (l : List At) (rev : Int) (u : List Int) (hf : Fit l) (hu : u.length ≤ 9223372036854775807) : Run (EX cp) 18 [.sl 5 (ats l), pi rev, .sl 1 (ints u)] = some (.own 3 1 (ints (places rev u l))) := by
  have h := places_loop (cp := cp) l rev u hf hu l.length 0 0 [] (by omega) rfl (by simpa using hf.sum)
  have hl := hf.len
  have hcap : (l.length + 1) * 8 ≤ maxBytes ∧ l.length + 1 ≤ 9223372036854775807 := by unfold maxBytes; omega
  have hpl := plcs_len rev u l 0
  have hE : ((plcs rev u l 0).length + 1) * 8 ≤ maxBytes ∧ (plcs rev u l 0).length + 1 ≤ 9223372036854775807 := by unfold maxBytes; omega
  rw [run_fn _ A_atom_Places _ rfl rfl rfl]
  simp at h
  simp (disch := omega) [A_atom_Places, h, wrap_in, hcap, hE, if_yes, places]

set_option maxHeartbeats 1000000 in
theorem refPlaces_loop (l : List At) (rev : Int) (u : List Int) (hf : Fit l) (hu : u.length ≤ 9223372036854775807) : ∀ (m i n : Nat) (acc : List Int), m + i = l.length → acc.length = i → n + sumT (l.drop i) < 35184372088832 →
    Code (EX cp) L_ref17_Places_0 ⟨[(0, .p (.sl 5 (ats l))), (1, .p (pi rev)), (2, .p (.sl 1 (ints u))), (7, .p (pi n)), (8, .ms 8 0 (acc ++ [(n : Int)]).length), (9, .p (pi i))], [(8, .row 3 1 false (ints (acc ++ [(n : Int)])))]⟩ =
      some (.ex 0, ⟨[(0, .p (.sl 5 (ats l))), (1, .p (pi rev)), (2, .p (.sl 1 (ints u))), (7, .p (pi (plcE rev u (l.drop i) n))), (8, .ms 8 0 (acc ++ plcs rev u (l.drop i) n ++ [(plcE rev u (l.drop i) n : Int)]).length), (9, .p (pi l.length)), (14, .p (pb false))], [(8, .row 3 1 false (ints (acc ++ plcs rev u (l.drop i) n ++ [(plcE rev u (l.drop i) n : Int)])))]⟩) := by
  intro m
  induction m with
  | zero =>
    intro i n acc hi ha hb
    have : i = l.length := by omega
    subst this
    rw [L_ref17_Places_0, k_loop]
    simp [plcs, plcE]
  | succ m ih =>
    intro i n acc hi ha hb
    have hlt : i < l.length := by omega
    have hl := hf.len
    have hg := ats_at l i hlt
    obtain ⟨hc, hz⟩ := hf.get i hlt
    have hv := refVisible (cp := cp) l[i] rev u hu hc
    rw [List.drop_eq_getElem_cons hlt] at hb ⊢
    rw [sumT_cons] at hb
    have hcap : (acc.length + 1 + 1) * 8 ≤ maxBytes ∧ acc.length + 1 + 1 ≤ 9223372036854775807 := by unfold maxBytes; omega
    generalize l[i] = a at *
    cases hvis : a.vis rev u with
    | false =>
      rw [hvis] at hv
      have ih' := ih (i+1) n (acc ++ [(n : Int)]) (by omega) (by simp; omega) (by omega)
      have e : acc ++ plcs rev u (a :: l.drop (i+1)) n = (acc ++ [(n : Int)]) ++ plcs rev u (l.drop (i+1)) n := by simp [plcs, hvis]
      have e2 : plcE rev u (a :: l.drop (i+1)) n = plcE rev u (l.drop (i+1)) n := by simp [plcE, hvis]
      rw [e, e2, ← ih', L_ref17_Places_0, k_loop]
      simp only [At.pv] at hv hg
      simp (disch := omega) [hlt, hg, hv, wrap_in, hcap, dec_yes]
    | true =>
      rw [hvis] at hv
      have ih' := ih (i+1) (n + a.txt.size) (acc ++ [(n : Int)]) (by omega) (by simp; omega) (by omega)
      have e : acc ++ plcs rev u (a :: l.drop (i+1)) n = (acc ++ [(n : Int)]) ++ plcs rev u (l.drop (i+1)) (n + a.txt.size) := by simp [plcs, hvis]
      have e2 : plcE rev u (a :: l.drop (i+1)) n = plcE rev u (l.drop (i+1)) (n + a.txt.size) := by simp [plcE, hvis]
      rw [e, e2, ← ih', L_ref17_Places_0, k_loop]
      simp only [At.pv] at hv hg
      simp (disch := omega) [hlt, hg, hv, wrap_in, hcap, dec_yes]
theorem refPlaces (l : List At) (rev : Int) (u : List Int) (hf : Fit l) (hu : u.length ≤ 9223372036854775807) : Run (EX cp) 19 [.sl 5 (ats l), pi rev, .sl 1 (ints u)] = some (.own 3 1 (ints (places rev u l))) := by
  have h := refPlaces_loop (cp := cp) l rev u hf hu l.length 0 0 [] (by omega) rfl (by simpa using hf.sum)
  have e0 : ints [0] = [[pi 0]] := rfl
  rw [run_fn _ A_ref17_Places _ rfl rfl rfl]
  simp at h
  rw [e0] at h
  simp [A_ref17_Places, h, places]

/-! ### what can be read -/
def txtF (rev : Int) (u : List Int) : List At → List UInt8
  | [] => []
  | a :: l => (if a.vis rev u then L a.txt else []) ++ txtF rev u l
def txtS (rev : Int) (u : List Int) (l : List At) : ByteArray := ⟨(txtF rev u l).toArray⟩
theorem txtF_append (rev : Int) (u : List Int) : ∀ (a b : List At), txtF rev u (a ++ b) = txtF rev u a ++ txtF rev u b
  | [], b => rfl
  | x :: a, b => by simp [txtF, txtF_append rev u a b]
theorem txtF_len (rev : Int) (u : List Int) : ∀ (l : List At), (txtF rev u l).length ≤ sumT l
  | [] => by simp [txtF]
  | a :: l => by
    have := txtF_len rev u l
    rw [sumT_cons, txtF, List.length_append]
    split <;> simp [L_len] <;> omega
theorem plcE_txt (rev : Int) (u : List Int) : ∀ (l : List At) (n : Nat), plcE rev u l n = n + (txtF rev u l).length
  | [], n => by simp [plcE, txtF]
  | a :: l, n => by
    rw [plcE, plcE_txt rev u l, txtF, List.length_append]
    split <;> simp [L_len] <;> omega
theorem plcs_at (rev : Int) (u : List Int) : ∀ (l : List At) (n i : Nat), i < l.length → (plcs rev u l n)[i]? = some ((n + (txtF rev u (l.take i)).length : Nat) : Int)
  | [], n, i, h => by simp at h
  | a :: l, n, 0, h => by simp [plcs, txtF]
  | a :: l, n, i + 1, h => by
    have := plcs_at rev u l (if a.vis rev u then n + a.txt.size else n) i (by simpa using h)
    rw [plcs, List.getElem?_cons_succ, this, List.take_succ_cons, txtF, List.length_append]
    split <;> simp [L_len] <;> omega
theorem places_at (rev : Int) (u : List Int) (l : List At) (i : Nat) (h : i ≤ l.length) : (places rev u l)[i]? = some (((txtF rev u (l.take i)).length : Nat) : Int) := by
  unfold places
  rcases Nat.lt_or_ge i l.length with h' | h'
  · rw [List.getElem?_append_left (by rw [plcs_len]; exact h'), plcs_at rev u l 0 i h', Nat.zero_add]
  · have : i = l.length := by omega
    subst this
    rw [List.getElem?_append_right (by rw [plcs_len]; exact Nat.le_refl _), plcs_len, Nat.sub_self, plcE_txt, List.take_length, Nat.zero_add]
    rfl

set_option maxHeartbeats 1000000 in
theorem text_loop (l : List At) (rev : Int) (u : List Int) (hf : Fit l) (hu : u.length ≤ 9223372036854775807) : ∀ (m i : Nat) (acc : List UInt8), m + i = l.length → acc.length + sumT (l.drop i) < 35184372088832 →
    Code (EX cp) L_atom_Text_0 ⟨[(1, .p (pi rev)), (2, .p (.sl 1 (ints u))), (7, .mp 7 0 0), (10, .p (.sl 5 (ats l))), (11, .p (pi l.length)), (12, .p (pi i))], [(7, .dp 78 2 (sbRow 5 (bRows acc)))]⟩ =
      some (.ex 0, ⟨[(1, .p (pi rev)), (2, .p (.sl 1 (ints u))), (7, .mp 7 0 0), (10, .p (.sl 5 (ats l))), (11, .p (pi l.length)), (12, .p (pi l.length)), (13, .p (pb false))], [(7, .dp 78 2 (sbRow 5 (bRows (acc ++ txtF rev u (l.drop i)))))]⟩) := by
  intro m
  induction m with
  | zero =>
    intro i acc hi hb
    have : i = l.length := by omega
    subst this
    rw [L_atom_Text_0, k_loop]
    simp [txtF]
  | succ m ih =>
    intro i acc hi hb
    have hlt : i < l.length := by omega
    have hl := hf.len
    have hg := ats_at l i hlt
    obtain ⟨hc, hz⟩ := hf.get i hlt
    have hv := visible (cp := cp) l[i] rev u hu hc
    rw [List.drop_eq_getElem_cons hlt] at hb ⊢
    rw [sumT_cons] at hb
    generalize l[i] = a at *
    have hln : a.txt.data.toList.length = a.txt.size := by simp
    have hcap : acc.length + a.txt.size + 4 ≤ maxBytes := by unfold maxBytes; omega
    cases hvis : a.vis rev u with
    | false =>
      rw [hvis] at hv
      have ih' := ih (i+1) acc (by omega) (by omega)
      have e : acc ++ txtF rev u (a :: l.drop (i+1)) = acc ++ txtF rev u (l.drop (i+1)) := by simp [txtF, hvis]
      rw [e, ← ih', L_atom_Text_0, k_loop]
      simp only [At.pv] at hv hg
      simp (disch := omega) [hlt, hg, hv, wrap_in, dec_yes]
    | true =>
      rw [hvis] at hv
      have ih' := ih (i+1) (acc ++ L a.txt) (by omega) (by rw [List.length_append, L_len]; omega)
      have e : acc ++ txtF rev u (a :: l.drop (i+1)) = (acc ++ L a.txt) ++ txtF rev u (l.drop (i+1)) := by simp [txtF, hvis]
      rw [e, ← ih', L_atom_Text_0, k_loop]
      simp only [At.pv] at hv hg
      simp (disch := omega) [hlt, hg, hv, wrap_in, dec_yes, hcap, hln, if_yes, L]
theorem atomText (l : List At) (rev : Int) (u : List Int) (hf : Fit l) (hu : u.length ≤ 9223372036854775807) : Run (EX cp) 27 [.sl 5 (ats l), pi rev, .sl 1 (ints u)] = some (.val (.sc (.string (txtS rev u l)))) := by
  have h := text_loop (cp := cp) l rev u hf hu l.length 0 [] (by omega) (by simpa using hf.sum)
  rw [run_fn _ A_atom_Text _ rfl rfl rfl]
  simp at h
  simp [A_atom_Text, h, txtS]
set_option maxHeartbeats 1000000 in
theorem refText_loop (l : List At) (rev : Int) (u : List Int) (hf : Fit l) (hu : u.length ≤ 9223372036854775807) : ∀ (m i : Nat) (acc : List UInt8), m + i = l.length → acc.length + sumT (l.drop i) < 35184372088832 →
    Code (EX cp) L_ref17_Text_0 ⟨[(0, .p (.sl 5 (ats l))), (1, .p (pi rev)), (2, .p (.sl 1 (ints u))), (7, .ms 7 0 acc.length), (8, .p (pi i))], [(7, .row 5 1 false (bRows acc))]⟩ =
      some (.ex 0, ⟨[(0, .p (.sl 5 (ats l))), (1, .p (pi rev)), (2, .p (.sl 1 (ints u))), (7, .ms 7 0 (acc ++ txtF rev u (l.drop i)).length), (8, .p (pi l.length)), (12, .p (pb false))], [(7, .row 5 1 false (bRows (acc ++ txtF rev u (l.drop i))))]⟩) := by
  intro m
  induction m with
  | zero =>
    intro i acc hi hb
    have : i = l.length := by omega
    subst this
    rw [L_ref17_Text_0, k_loop]
    simp [txtF]
  | succ m ih =>
    intro i acc hi hb
    have hlt : i < l.length := by omega
    have hl := hf.len
    have hg := ats_at l i hlt
    obtain ⟨hc, hz⟩ := hf.get i hlt
    have hv := refVisible (cp := cp) l[i] rev u hu hc
    rw [List.drop_eq_getElem_cons hlt] at hb ⊢
    rw [sumT_cons] at hb
    generalize l[i] = a at *
    have hcap : acc.length + a.txt.size ≤ maxBytes ∧ acc.length + a.txt.size ≤ 9223372036854775807 := by unfold maxBytes; omega
    cases hvis : a.vis rev u with
    | false =>
      rw [hvis] at hv
      have ih' := ih (i+1) acc (by omega) (by omega)
      have e : acc ++ txtF rev u (a :: l.drop (i+1)) = acc ++ txtF rev u (l.drop (i+1)) := by simp [txtF, hvis]
      rw [e, ← ih', L_ref17_Text_0, k_loop]
      simp only [At.pv] at hv hg
      simp (disch := omega) [hlt, hg, hv, wrap_in, dec_yes]
    | true =>
      rw [hvis] at hv
      have ih' := ih (i+1) (acc ++ L a.txt) (by omega) (by rw [List.length_append, L_len]; omega)
      have e : acc ++ txtF rev u (a :: l.drop (i+1)) = (acc ++ L a.txt) ++ txtF rev u (l.drop (i+1)) := by simp [txtF, hvis]
      have eb : (a.txt.data.toList.map fun b => [PV.sc (.int .u8 b.toNat)]) = bRows (L a.txt) := rfl
      have el : (L a.txt).length = a.txt.size := L_len _
      rw [e, ← ih', L_ref17_Text_0, k_loop]
      simp only [At.pv] at hv hg
      simp (disch := omega) [hlt, hg, hv, wrap_in, dec_yes, hcap, eb, el]
theorem bytesL_rows : ∀ l : List UInt8, eff.bytesL (bRows l) = some l
  | [] => rfl
  | b :: l => by
    show (eff.bytesL (bRows l)).map (UInt8.ofNat (b.toNat : Int).toNat :: ·) = some (b :: l)
    rw [bytesL_rows l]; simp
@[simp] theorem bytesOf_rows (l : List UInt8) : eff.bytesOf (bRows l) = some ⟨l.toArray⟩ := by
  unfold eff.bytesOf; rw [bytesL_rows]; rfl
@[simp] theorem bRows_take (l : List UInt8) : (bRows l).take l.length = bRows l := by rw [List.take_of_length_le (by simp)]
theorem refText (l : List At) (rev : Int) (u : List Int) (hf : Fit l) (hu : u.length ≤ 9223372036854775807) : Run (EX cp) 28 [.sl 5 (ats l), pi rev, .sl 1 (ints u)] = some (.val (.sc (.string (txtS rev u l)))) := by
  have h := refText_loop (cp := cp) l rev u hf hu l.length 0 [] (by omega) (by simpa using hf.sum)
  rw [run_fn _ A_ref17_Text _ rfl rfl rfl]
  simp at h
  simp [A_ref17_Text, h, txtS]
end Go.Proofs.Ytihgpnfkadldeaa.AM
