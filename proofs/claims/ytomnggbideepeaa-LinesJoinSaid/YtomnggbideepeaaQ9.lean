/- MADE BY sync2.py: AR8, RT1, RT2, RT3, RT4, RT5, RT6, RT7, RT8, one behind the other. No condition but what they say. -/
import Derived.Test.YtomnggbideepeaaQ8
import Derived.Lib.DecodeN
section
/- A text's code points as Go's range tells them, and string(r), against the plain law. For texts of less than 2^40 bytes. -/
namespace Go.Proofs.Ytomnggbideepeaa.AM
set_option linter.unusedSimpArgs false
set_option linter.unusedVariables false
open Go Go.Proofs.Ytomnggbideepeaa.U
variable {cp : List PV → Option Ret}

theorem get_drop (s : ByteArray) (i k : Nat) (b : UInt8) (h : ((L s).drop i)[k]? = some b) : (s.get! (i + k)).toNat = b.toNat := by
  rw [List.getElem?_drop] at h
  have hlt : i + k < (L s).length := (List.getElem?_eq_some_iff.1 h).1
  rw [List.getElem?_eq_getElem hlt] at h
  obtain rfl := Option.some.inj h
  have hd : i + k < s.data.size := by simpa [L] using hlt
  have : s.get! (i + k) = s.data[i + k]! := rfl
  rw [this, getElem!_pos s.data (i + k) hd]
  simp [L]
theorem bi_nat (b : UInt8) : (b.toNat : Int) = bi b := rfl
set_option maxHeartbeats 4000000 in
set_option maxRecDepth 100000 in
/-- Where a code point stands, Go's range tells it. -/
theorem decode_dec (s : ByteArray) (i : Nat) (h : (dec ((L s).drop i)).1 ≠ 0) : Utf8.decode s i = ((dec ((L s).drop i)).2.toNat, (dec ((L s).drop i)).1) := by
  have hlen : s.size - i = ((L s).drop i).length := by rw [List.length_drop, L_len]
  have hdc := Lib.decode_at s i
  rw [hlen] at hdc
  refine hdc.trans ?_
  clear hdc
  have g0 := get_drop s i 0
  have g1 := get_drop s i 1
  have g2 := get_drop s i 2
  have g3 := get_drop s i 3
  generalize (L s).drop i = l at *
  simp only [Nat.add_zero] at g0
  match l, h with
  | [], h => exact absurd rfl h
  | a :: t, h =>
    have ga := g0 a rfl
    have hr := bi_range a
    have ea := bi_nat a
    rw [ga]
    rw [dec.eq_def] at h ⊢
    simp only at h ⊢
    by_cases b1 : bi a < 128
    · rw [if_pos b1]
      unfold Lib.decodeN
      rw [if_pos (by omega)]
      simp only [Prod.mk.injEq, and_true]; omega
    rw [if_neg b1] at h ⊢
    by_cases b2 : bi a < 192
    · rw [if_pos b2] at h; exact absurd rfl h
    rw [if_neg b2] at h ⊢
    by_cases b3 : bi a < 224
    · rw [if_pos b3] at h ⊢
      match t, h, g1 with
      | [], h, _ => exact absurd rfl h
      | p :: t, h, g1 =>
        have gp := g1 p rfl
        have ep := bi_nat p
        dsimp only at h ⊢
        by_cases c : cont p ∧ 128 ≤ v2 a p
        · rw [if_pos c]
          obtain ⟨c1, c2⟩ := c
          unfold cont at c1
          unfold v2 at c2 ⊢
          rw [gp]
          unfold Lib.decodeN
          rw [if_neg (by omega), if_pos ⟨by omega, by simp, by omega⟩, if_pos (by omega)]
          simp only [Prod.mk.injEq, and_true]; omega
        · rw [if_neg c] at h; exact absurd rfl h
    rw [if_neg b3] at h ⊢
    by_cases b4 : bi a < 240
    · rw [if_pos b4] at h ⊢
      match t, h, g1, g2 with
      | [], h, _, _ => exact absurd rfl h
      | [p], h, _, _ => exact absurd rfl h
      | p :: q :: t, h, g1, g2 =>
        have gp := g1 p rfl
        have gq := g2 q rfl
        have ep := bi_nat p
        have eq := bi_nat q
        dsimp only at h ⊢
        by_cases c : cont p ∧ cont q ∧ 2048 ≤ v3 a p q ∧ ¬ (55296 ≤ v3 a p q ∧ v3 a p q ≤ 57343)
        · rw [if_pos c]
          obtain ⟨c1, c2, c3, c4⟩ := c
          unfold cont at c1 c2
          unfold v3 at c3 c4 ⊢
          rw [gp, gq]
          unfold Lib.decodeN
          rw [if_neg (by omega), if_neg (by omega), if_pos ⟨by omega, ⟨by simp, by omega⟩, by simp, by omega⟩, if_pos (by omega)]
          simp only [Prod.mk.injEq, and_true]; omega
        · rw [if_neg c] at h; exact absurd rfl h
    rw [if_neg b4] at h ⊢
    by_cases b5 : bi a < 248
    · rw [if_pos b5] at h ⊢
      match t, h, g1, g2, g3 with
      | [], h, _, _, _ => exact absurd rfl h
      | [p], h, _, _, _ => exact absurd rfl h
      | [p, q], h, _, _, _ => exact absurd rfl h
      | p :: q :: r :: t, h, g1, g2, g3 =>
        have gp := g1 p rfl
        have gq := g2 q rfl
        have gr := g3 r rfl
        have ep := bi_nat p
        have eq := bi_nat q
        have er := bi_nat r
        dsimp only at h ⊢
        by_cases c : cont p ∧ cont q ∧ cont r ∧ 65536 ≤ v4 a p q r ∧ v4 a p q r ≤ 1114111
        · rw [if_pos c]
          obtain ⟨c1, c2, c3, c4, c5⟩ := c
          unfold cont at c1 c2 c3
          unfold v4 at c4 c5 ⊢
          rw [gp, gq, gr]
          unfold Lib.decodeN
          rw [if_neg (by omega), if_neg (by omega), if_neg (by omega), if_pos ⟨by omega, ⟨by simp, by omega⟩, ⟨by simp, by omega⟩, by simp, by omega⟩, if_pos (by omega)]
          simp only [Prod.mk.injEq, and_true]; omega
        · rw [if_neg c] at h; exact absurd rfl h
    · rw [if_neg b5] at h; exact absurd rfl h
/-- string(r) of a code point's number. -/
theorem encode_enc (v : Int) (h : sc v) : Utf8.encode v = chS v := by
  have hs := h
  unfold sc at hs
  have hv : Utf8.valid v = true := by
    unfold Utf8.valid
    simp only [Bool.or_eq_true, Bool.and_eq_true, decide_eq_true_eq]
    omega
  apply L_inj
  unfold chS Utf8.encode
  rw [L_mk, if_pos hv]
  have key : ∀ x : Int, ∀ n : Nat, (n : Int) = x → (UInt8.ofNat n) = x.toNat.toUInt8 := by
    intro x n hx
    subst hx
    rfl
  by_cases c1 : v < 128
  · rw [enc_one (by omega) c1, if_pos (by omega)]
    exact congrArg (fun x => [x]) (key _ _ (by omega))
  by_cases c2 : v < 2048
  · rw [enc_two (by omega) c2, if_neg (by omega), if_pos (by omega)]
    rw [← key (192 + v / 64) (192 + v.toNat / 64) (by omega), ← key (128 + v % 64) (128 + v.toNat % 64) (by omega)]
    rfl
  by_cases c3 : v < 65536
  · rw [enc_three (by omega) c3 h, if_neg (by omega), if_neg (by omega), if_pos (by omega)]
    rw [← key (224 + v / 4096) (224 + v.toNat / 4096) (by omega), ← key (128 + v / 64 % 64) (128 + v.toNat / 64 % 64) (by omega), ← key (128 + v % 64) (128 + v.toNat % 64) (by omega)]
    rfl
  · rw [enc_four (by omega) (by omega), if_neg (by omega), if_neg (by omega), if_neg (by omega)]
    rw [← key (240 + v / 262144) (240 + v.toNat / 262144) (by omega), ← key (128 + v / 4096 % 64) (128 + v.toNat / 4096 % 64) (by omega), ← key (128 + v / 64 % 64) (128 + v.toNat / 64 % 64) (by omega), ← key (128 + v % 64) (128 + v.toNat % 64) (by omega)]
    rfl
end Go.Proofs.Ytomnggbideepeaa.AM

end
section
/- Counts on the small machine: package count (units, of, Plus, Of, Get), the rope's Sum and Plus. For texts of less than 2^38 bytes. -/
namespace Go.Proofs.Ytomnggbideepeaa.AM
set_option linter.unusedSimpArgs false
set_option linter.unusedVariables false
open Go Go.Proofs.Ytomnggbideepeaa.U
variable {cp : List PV → Option Ret}
theorem pts_at (s : ByteArray) (i : Nat) (h : i < s.size) (hv : valid ((L s).drop i) = true) : sizeAt s i ≠ 0 ∧ sc (decAt s i).2 ∧ points ((L s).drop i) = (decAt s i).2 :: points ((L s).drop (i + sizeAt s i)) ∧ valid ((L s).drop (i + sizeAt s i)) = true := by
  rw [valid_at s i h] at hv
  by_cases c : sizeAt s i = 0
  · rw [if_pos c] at hv; simp at hv
  · rw [if_neg c] at hv
    refine ⟨c, ?_, ?_, hv⟩
    · rw [decAt_nat]; unfold sizeAt at c; rw [decAt_nat] at c; exact dec_sc _ c
    · rw [points_at s i h, if_neg c]
/-- Four counts, as a struct. -/
def C4.pv (c : C4) : PV := .st [pi c.1, pi c.2.1, pi c.2.2.1, pi c.2.2.2]
/-- Counts that are small. -/
def C4.sm (c : C4) : Prop := (0 ≤ c.1 ∧ c.1 ≤ 2199023255552) ∧ (0 ≤ c.2.1 ∧ c.2.1 ≤ 2199023255552) ∧ (0 ≤ c.2.2.1 ∧ c.2.2.1 ≤ 2199023255552) ∧ (0 ≤ c.2.2.2 ∧ c.2.2.2 ≤ 2199023255552)
theorem countUnits (v : Int) : Run (EX cp) 108 [pI .i32 v] = some (.val (pi (cu v))) := by
  rw [run_fn _ A_count_units _ rfl rfl rfl]
  unfold cu
  by_cases c : 65536 ≤ v
  · rw [if_pos c]
    simp (disch := omega) [A_count_units, dec_yes, dec_no]
  · rw [if_neg c]
    simp (disch := omega) [A_count_units, dec_yes, dec_no]
theorem countOf1 (v : Int) (h : sc v) : Run (EX cp) 94 [pI .i32 v] = some (.val (one4 v).pv) := by
  have h1 := countUnits (cp := cp) v
  have h2 := encode_enc v h
  have h3 : (chS v).size = (enc v).length := size_mk _
  rw [run_fn _ A_count_of _ rfl rfl rfl]
  unfold C4.pv one4 cl
  by_cases c : v = 10
  · rw [if_pos c]
    simp (disch := omega) [A_count_of, h1, h2, h3, c, dec_yes, dec_no]
    subst c
    simp [h1, h2, h3]
  · rw [if_neg c]
    simp (disch := omega) [A_count_of, h1, h2, h3, c, dec_yes, dec_no]
theorem countPlus (a b : C4) (ha : a.sm) (hb : b.sm) : Run (EX cp) 93 [a.pv, b.pv] = some (.val (add4 a b).pv) := by
  obtain ⟨a1, a2, a3, a4⟩ := ha
  obtain ⟨b1, b2, b3, b4⟩ := hb
  rw [run_fn _ A_count_Plus _ rfl rfl rfl]
  unfold C4.pv add4
  simp (disch := omega) [A_count_Plus, wrap_in]
theorem ropePlus (a b : C4) (ha : a.sm) (hb : b.sm) : Run (EX cp) 139 [a.pv, b.pv] = some (.val (add4 a b).pv) := by
  have h := countPlus (cp := cp) a b ha hb
  rw [run_fn _ A_rope_counts_Plus _ rfl rfl rfl]
  unfold C4.pv at h ⊢
  simp (disch := omega) [A_rope_counts_Plus, h]
theorem one4_sm (v : Int) : (one4 v).sm := by
  have h1 := enc_len v
  have h2 := cu_range v
  have h3 := cl_range v
  simp only [C4.sm, one4]
  omega
set_option maxHeartbeats 1000000 in
theorem countOf_loop (s : ByteArray) (hs : s.size < 274877906944) : ∀ (m i : Nat) (us : List Int), s.size ≤ i + m → i ≤ s.size → us.length ≤ i → valid ((L s).drop i) = true →
    ∃ j, Code (EX cp) L_count_Of_0 ⟨[(2, .mp 2 0 0), (3, .mp 3 0 0), (8, .mp 8 0 0)], [(2, .row 47 4 false [[pi 0, pi 0, pi 0, pi 0]]), (3, .row 47 4 false [[pi (cnt us).1, pi (cnt us).2.1, pi (cnt us).2.2.1, pi (cnt us).2.2.2]]), (8, .it s i)]⟩ =
      some (.ex 0, ⟨[(2, .mp 2 0 0), (3, .mp 3 0 0), (8, .mp 8 0 0), (9, .p (.tu [pb false])), (10, .p (pb false))], [(2, .row 47 4 false [[pi 0, pi 0, pi 0, pi 0]]), (3, .row 47 4 false [[pi (cnt (us ++ points ((L s).drop i))).1, pi (cnt (us ++ points ((L s).drop i))).2.1, pi (cnt (us ++ points ((L s).drop i))).2.2.1, pi (cnt (us ++ points ((L s).drop i))).2.2.2]]), (8, .it s j)]⟩) := by
  intro m
  induction m with
  | zero =>
    intro i us h1 h2 h3 h4
    have : i = s.size := by omega
    subst this
    refine ⟨s.size, ?_⟩
    rw [drop_end s _ (Nat.le_refl _), points_nil, List.append_nil, L_count_Of_0, k_loop]
    simp
  | succ m ih =>
    intro i us h1 h2 h3 h4
    by_cases hlt : i < s.size
    · obtain ⟨c, hsc, hn, hv⟩ := pts_at s i hlt h4
      have hle := sizeAt_le s i h2
      have hd := decode_dec s i (by unfold sizeAt at c; rw [decAt_nat] at c; exact c)
      have e1 : (dec ((L s).drop i)).1 = sizeAt s i := by unfold sizeAt; rw [decAt_nat]
      have e2 : dec ((L s).drop i) = decAt s i := (decAt_nat s i).symm
      rw [e1, e2] at hd
      have h0 : 0 ≤ (decAt s i).2 := by unfold sc at hsc; omega
      have h0' : max (decAt s i).2 0 = (decAt s i).2 := by omega
      have hof := countOf1 (cp := cp) _ hsc
      rw [hn]
      generalize hz : sizeAt s i = n at *
      generalize (decAt s i).2 = v at *
      obtain ⟨j, ih'⟩ := ih (i + n) (us ++ [v]) (by omega) (by omega) (by simp; omega) hv
      refine ⟨j, ?_⟩
      have e : us ++ v :: points ((L s).drop (i + n)) = (us ++ [v]) ++ points ((L s).drop (i + n)) := by simp
      have hr := cnt_range us
      have hpl := countPlus (cp := cp) (cnt us) (one4 v) (by unfold C4.sm; omega) (one4_sm v)
      rw [← cnt_snoc] at hpl
      unfold C4.pv at hof hpl
      rw [e, ← ih', L_count_Of_0, k_loop]
      generalize cnt (us ++ [v]) = q2 at *
      generalize cnt us = q1 at *
      generalize one4 v = q3 at *
      simp (disch := omega) [hlt, hd, h0', hof, hpl]
    · have : i = s.size := by omega
      subst this
      refine ⟨s.size, ?_⟩
      rw [drop_end s _ (Nat.le_refl _), points_nil, List.append_nil, L_count_Of_0, k_loop]
      simp
theorem countOf (s : ByteArray) (hs : s.size < 17179869184) : Run (EX cp) 92 [.sc (.string s)] = some (.val (cntS s).pv) := by
  have h1 := utfClean (cp := cp) s (by omega)
  have e : L (cleanS s) = clean (L s) := L_mk _
  have hcl := clean_le (L s)
  rw [L_len, ← e, L_len] at hcl
  obtain ⟨j, h2⟩ := countOf_loop (cp := cp) (cleanS s) (by omega) (cleanS s).size 0 [] (by omega) (by omega) (by simp) (by rw [List.drop_zero, e]; exact clean_valid _)
  rw [List.nil_append, List.drop_zero, e, show points (clean (L s)) = points (L s) from points_encs' _ (points_sc _)] at h2
  have e0 : cnt [] = (0, 0, 0, 0) := rfl
  rw [e0] at h2
  rw [run_fn _ A_count_Of _ rfl rfl rfl]
  unfold C4.pv cntS
  generalize cnt (points (L s)) = q at *
  simp (disch := omega) [A_count_Of, h1, h2]
theorem ropeSum1 (s : ByteArray) (hs : s.size < 17179869184) : Run (EX cp) 140 [.sc (.string s)] = some (.val (cntS s).pv) := by
  have h := countOf (cp := cp) s hs
  rw [run_fn _ A_rope_piece_Sum _ rfl rfl rfl]
  unfold C4.pv at h ⊢
  simp (disch := omega) [A_rope_piece_Sum, h]
theorem countGet (c : C4) (k : Int) : Run (EX cp) 68 [c.pv, pi k] = some (.val (pi (get4 c k))) := run_get _ _ _ _ _
theorem countIs (k : Int) : Run (EX cp) 69 [pi k] = some (.val (pb (decide (0 ≤ k ∧ k ≤ 3)))) := by
  rw [run_fn _ A_count_Is _ rfl rfl rfl]
  by_cases a : 0 ≤ k
  · by_cases b : k ≤ 3
    · rw [decide_eq_true (show 0 ≤ k ∧ k ≤ 3 from ⟨a, b⟩)]
      simp (disch := omega) [A_count_Is, dec_yes, dec_no]
    · rw [decide_eq_false (show ¬ (0 ≤ k ∧ k ≤ 3) by omega)]
      simp (disch := omega) [A_count_Is, dec_yes, dec_no]
  · rw [decide_eq_false (show ¬ (0 ≤ k ∧ k ≤ 3) by omega)]
    simp (disch := omega) [A_count_Is, dec_yes, dec_no]
end Go.Proofs.Ytomnggbideepeaa.AM

end
section
/- Trees of pieces, as plain values; leaf and inner on the small machine. For fewer than 2^30 bytes, pieces. -/
namespace Go.Proofs.Ytomnggbideepeaa.AM
set_option linter.unusedSimpArgs false
set_option linter.unusedVariables false
open Go Go.Proofs.Ytomnggbideepeaa.U
variable {cp : List PV → Option Ret}
/-- One cell a row. -/
def ones (l : List PV) : List (List PV) := l.map fun x => [x]
@[simp] theorem ones_len (l : List PV) : (ones l).length = l.length := by simp [ones]
@[simp] theorem ones_nil : ones [] = [] := rfl
theorem ones_at (l : List PV) (n : Nat) (h : n < l.length) : (ones l)[n]? = some [l[n]] := by simp [ones, List.getElem?_eq_getElem h]
theorem ones_take (l : List PV) (k : Nat) : (ones l).take k = ones (l.take k) := by simp [ones, List.map_take]
theorem ones_drop (l : List PV) (k : Nat) : (ones l).drop k = ones (l.drop k) := by simp [ones, List.map_drop]
theorem ones_append (a b : List PV) : ones a ++ ones b = ones (a ++ b) := by simp [ones]
theorem ones_snoc (l : List PV) (x : PV) : ones l ++ [[x]] = ones (l ++ [x]) := by simp [ones]
theorem strs_take' (l : List ByteArray) (k : Nat) : (strs l).take k = strs (l.take k) := by simp [strs, List.map_take]
theorem strs_drop' (l : List ByteArray) (k : Nat) : (strs l).drop k = strs (l.drop k) := by simp [strs, List.map_drop]
theorem strs_app' (a b : List ByteArray) : strs a ++ strs b = strs (a ++ b) := by simp [strs]
/-- A node's cells. -/
def nodeC (ks : List PV) (its : List ByteArray) (n d : Nat) (c : C4) : List PV := [.sl 1 (ones ks), .sl 1 (strs its), pi n, pi d, pi c.1, pi c.2.1, pi c.2.2.1, pi c.2.2.2]
/-- A node as deep as d + 1, with its items. -/
def Nd : Nat → PV → List ByteArray → Prop
  | 0, x, l => l ≠ [] ∧ x = .pt (nodeC [] l l.length 1 (cntP l))
  | d + 1, x, l => ∃ q : List (PV × List ByteArray), 2 ≤ q.length ∧ (∀ p ∈ q, Nd d p.1 p.2) ∧ l = (q.map Prod.snd).flatten ∧ x = .pt (nodeC (q.map Prod.fst) [] l.length (d + 2) (cntP l))
/-- Not too many, not too long. -/
def Bd (l : List ByteArray) : Prop := (flat l).length < 1073741824 ∧ l.length < 1073741824
theorem Bd.left {a b : List ByteArray} (h : Bd (a ++ b)) : Bd a := by
  obtain ⟨h1, h2⟩ := h
  rw [flat_append, List.length_append] at h1
  rw [List.length_append] at h2
  exact ⟨by omega, by omega⟩
theorem Bd.right {a b : List ByteArray} (h : Bd (a ++ b)) : Bd b := by
  obtain ⟨h1, h2⟩ := h
  rw [flat_append, List.length_append] at h1
  rw [List.length_append] at h2
  exact ⟨by omega, by omega⟩
theorem Bd.take {l : List ByteArray} (h : Bd l) (k : Nat) : Bd (l.take k) := by
  rw [← List.take_append_drop k l] at h; exact h.left
theorem Bd.drop {l : List ByteArray} (h : Bd l) (k : Nat) : Bd (l.drop k) := by
  rw [← List.take_append_drop k l] at h; exact h.right
theorem Bd.sm {l : List ByteArray} (h : Bd l) : (cntP l).sm := by
  have h1 := cntP_range l
  have h2 := h.1
  unfold C4.sm; omega
theorem Bd.mem {l : List ByteArray} (h : Bd l) {x : ByteArray} (hx : x ∈ l) : x.size < 1073741824 := by
  obtain ⟨a, b, rfl⟩ := List.append_of_mem hx
  have := h.right.1
  rw [flat_cons, List.length_append, L_len] at this; omega
theorem cntS_sm {x : ByteArray} (h : x.size < 1073741824) : (cntS x).sm := by
  have := cntS_range x
  unfold C4.sm; omega
theorem cntP_snoc (l : List ByteArray) (x : ByteArray) : cntP (l ++ [x]) = add4 (cntP l) (cntS x) := by
  rw [cntP_append]; congr 1; rw [cntP, cntP, add4_zero]
theorem Nd.shape : ∀ {d : Nat} {x : PV} {l : List ByteArray}, Nd d x l → ∃ ks its, x = .pt (nodeC ks its l.length (d + 1) (cntP l))
  | 0, x, l, h => ⟨_, _, h.2⟩
  | d + 1, x, l, ⟨q, _, _, _, h⟩ => ⟨_, _, h⟩
theorem Nd.deep : ∀ {d : Nat} {x : PV} {l : List ByteArray}, Nd d x l → d + 1 ≤ l.length
  | 0, x, l, h => by
    have := h.1
    cases l with
    | nil => exact absurd rfl this
    | cons a l => simp
  | d + 1, x, l, ⟨q, h1, h2, h3, h4⟩ => by
    subst h3
    match q, h1, h2 with
    | a :: b :: q, _, h2 =>
      have e1 := Nd.deep (h2 a (by simp))
      have e2 := Nd.deep (h2 b (by simp))
      simp only [List.map_cons, List.flatten_cons, List.length_append]; omega
theorem Nd.ne {d : Nat} {x : PV} {l : List ByteArray} (h : Nd d x l) : l ≠ [] := fun e => by
  have := h.deep; rw [e] at this; simp at this
set_option maxHeartbeats 1000000 in
theorem leaf_loop (l : List ByteArray) (hb : Bd l) (n : Nat) (its : List (List PV)) : ∀ (m i : Nat), m + i = l.length →
    Code (EX cp) L_tree_leaf_rope_piece_rope_counts_0 ⟨[(3, .mp 3 0 0), (11, .p (.sl 1 (strs l))), (12, .p (pi l.length)), (13, .p (pi i))], [(3, .row 130 8 false [[.sl 1 [], .sl 1 its, pi n, pi 1, pi (cntP (l.take i)).1, pi (cntP (l.take i)).2.1, pi (cntP (l.take i)).2.2.1, pi (cntP (l.take i)).2.2.2]])]⟩ =
      some (.ex 0, ⟨[(3, .mp 3 0 0), (11, .p (.sl 1 (strs l))), (12, .p (pi l.length)), (13, .p (pi l.length)), (14, .p (pb false))], [(3, .row 130 8 false [[.sl 1 [], .sl 1 its, pi n, pi 1, pi (cntP l).1, pi (cntP l).2.1, pi (cntP l).2.2.1, pi (cntP l).2.2.2]])]⟩) := by
  intro m
  induction m with
  | zero =>
    intro i hi
    have : i = l.length := by omega
    subst this
    rw [List.take_length, L_tree_leaf_rope_piece_rope_counts_0, k_loop]
    simp
  | succ m ih =>
    intro i hi
    have h1 : i < l.length := by omega
    have hg := strs_at l i h1
    have ih' := ih (i + 1) (by omega)
    have hx := hb.mem (List.getElem_mem h1)
    have d1 := ropeSum1 (cp := cp) l[i] (by omega)
    have hsn := cntP_snoc (l.take i) l[i]
    rw [← List.take_succ_eq_append_getElem h1] at hsn
    have d2 := ropePlus (cp := cp) (cntP (l.take i)) (cntS l[i]) (hb.take i).sm (cntS_sm hx)
    rw [← hsn] at d2
    have hll := hb.2
    unfold C4.pv at d1 d2
    generalize cntP (l.take (i + 1)) = c2 at *
    generalize cntP (l.take i) = c1 at *
    generalize l[i] = x at *
    generalize cntS x = c3 at *
    rw [← ih', L_tree_leaf_rope_piece_rope_counts_0, k_loop]
    simp (disch := omega) [h1, hg, d1, d2, dec_yes, dec_no, wrap_in, if_yes, -getElem?_pos]
theorem treeLeaf (l : List ByteArray) (hb : Bd l) : Run (EX cp) 101 [.sl 1 (strs l)] = some (.val (.pt (nodeC [] l l.length 1 (cntP l)))) := by
  have h := leaf_loop (cp := cp) l hb l.length (strs l) l.length 0 (by omega)
  rw [List.take_zero, show cntP [] = (0, 0, 0, 0) from rfl, show ((0 : Nat) : Int) = 0 from rfl] at h
  rw [run_fn _ A_tree_leaf_rope_piece_rope_counts _ rfl rfl rfl]
  unfold nodeC
  generalize cntP l = c at *
  simp (disch := omega) [A_tree_leaf_rope_piece_rope_counts, h]
/-- The items of the first nodes. -/
def its (q : List (PV × List ByteArray)) : List ByteArray := (q.map Prod.snd).flatten
theorem its_snoc (q : List (PV × List ByteArray)) (p : PV × List ByteArray) : its (q ++ [p]) = its q ++ p.2 := by simp [its]
theorem its_append (q r : List (PV × List ByteArray)) : its (q ++ r) = its q ++ its r := by simp [its]
theorem its_cons (p : PV × List ByteArray) (q : List (PV × List ByteArray)) : its (p :: q) = p.2 ++ its q := by simp [its]
theorem fst_at (q : List (PV × List ByteArray)) (i : Nat) (h : i < q.length) : (ones (q.map Prod.fst))[i]? = some [q[i].1] := by
  rw [ones_at _ i (by simpa using h)]; simp
theorem Bd.its {q : List (PV × List ByteArray)} (h : Bd (its q)) (i : Nat) : Bd (AM.its (q.take i)) := by
  rw [← List.take_append_drop i q, its_append] at h; exact h.left
set_option maxHeartbeats 1000000 in
theorem inner_loop (q : List (PV × List ByteArray)) (hb : Bd (its q)) (hql : q.length < 1073741824) (d : Nat) (D : Int) (hq : ∀ p ∈ q, Nd d p.1 p.2) (ks : List (List PV)) : ∀ (m i : Nat), m + i = q.length →
    Code (EX cp) L_tree_inner_rope_piece_rope_counts_0 ⟨[(3, .mp 3 0 0), (16, .p (.sl 1 (ones (q.map Prod.fst)))), (17, .p (pi q.length)), (18, .p (pi i))], [(3, .row 130 8 false [[.sl 1 ks, .sl 1 [], pi (its (q.take i)).length, pi D, pi (cntP (its (q.take i))).1, pi (cntP (its (q.take i))).2.1, pi (cntP (its (q.take i))).2.2.1, pi (cntP (its (q.take i))).2.2.2]])]⟩ =
      some (.ex 0, ⟨[(3, .mp 3 0 0), (16, .p (.sl 1 (ones (q.map Prod.fst)))), (17, .p (pi q.length)), (18, .p (pi q.length)), (19, .p (pb false))], [(3, .row 130 8 false [[.sl 1 ks, .sl 1 [], pi (its q).length, pi D, pi (cntP (its q)).1, pi (cntP (its q)).2.1, pi (cntP (its q)).2.2.1, pi (cntP (its q)).2.2.2]])]⟩) := by
  intro m
  induction m with
  | zero =>
    intro i hi
    have : i = q.length := by omega
    subst this
    rw [List.take_length, L_tree_inner_rope_piece_rope_counts_0, k_loop]
    simp
  | succ m ih =>
    intro i hi
    have h1 : i < q.length := by omega
    have hg := fst_at q i h1
    have ih' := ih (i + 1) (by omega)
    have hsn := its_snoc (q.take i) q[i]
    rw [← List.take_succ_eq_append_getElem h1] at hsn
    have b2 := hb.its (i + 1)
    rw [hsn] at b2
    have d2 := ropePlus (cp := cp) (cntP (its (q.take i))) (cntP q[i].2) (hb.its i).sm b2.right.sm
    rw [← cntP_append, ← hsn] at d2
    have hln : (its (q.take (i + 1))).length = (its (q.take i)).length + q[i].2.length := by rw [hsn, List.length_append]
    have hlb := b2.2
    rw [List.length_append] at hlb
    obtain ⟨k0, i0, hs⟩ := (hq q[i] (List.getElem_mem h1)).shape
    rw [hs] at hg
    unfold nodeC at hg
    unfold C4.pv at d2
    rw [hln] at ih'
    generalize its (q.take (i + 1)) = t2 at *
    generalize its (q.take i) = t1 at *
    generalize q[i].2 = t3 at *
    generalize cntP t2 = c2 at *
    generalize cntP t1 = c1 at *
    generalize cntP t3 = c3 at *
    rw [← ih', L_tree_inner_rope_piece_rope_counts_0, k_loop]
    simp (disch := omega) [h1, hg, d2, dec_yes, dec_no, wrap_in, if_yes, -getElem?_pos]
theorem treeInner (q : List (PV × List ByteArray)) (hb : Bd (its q)) (d : Nat) (hq : ∀ p ∈ q, Nd d p.1 p.2) (h1 : 1 ≤ q.length) (hql : q.length < 1073741824) :
    Run (EX cp) 103 [.sl 1 (ones (q.map Prod.fst))] = some (.val (.pt (nodeC (q.map Prod.fst) [] (its q).length (d + 2) (cntP (its q))))) := by
  have h := inner_loop (cp := cp) q hb hql d ((d : Int) + 2) hq (ones (q.map Prod.fst)) q.length 0 (by omega)
  rw [List.take_zero, show its [] = [] from rfl, show cntP [] = (0, 0, 0, 0) from rfl, show ((0 : Nat) : Int) = 0 from rfl, show (([] : List ByteArray).length : Int) = 0 from rfl] at h
  have hg := fst_at q 0 (by omega)
  obtain ⟨k0, i0, hs⟩ := (hq q[0] (List.getElem_mem (by omega))).shape
  have hdp := (hq q[0] (List.getElem_mem (by omega))).deep
  have hb0 := hb.its 1
  rw [show q.take 1 = [q[0]] from by rw [List.take_one, List.head?_eq_getElem?, List.getElem?_eq_getElem (by omega)]; rfl, its_cons, show its [] = [] from rfl, List.append_nil] at hb0
  have hb1 := hb0.2
  rw [hs] at hg
  unfold nodeC at hg
  rw [run_fn _ A_tree_inner_rope_piece_rope_counts _ rfl rfl rfl]
  unfold nodeC
  have e1 : IntKind.wrap .i64 ((d : Int) + 1 + 1) = (d : Int) + 2 := by rw [wrap_in _ (by omega) (by omega)]; omega
  generalize cntP (its q) = c at *
  simp (disch := omega) [A_tree_inner_rope_piece_rope_counts, hg, e1, h, -getElem?_pos]
end Go.Proofs.Ytomnggbideepeaa.AM

end
section
/- Rows cut into parts about as long (spread), on the small machine; packed, short, together, Make, Len, Sum. MADE BY gen/rt3.py. For fewer than 2^30 bytes, pieces. -/
namespace Go.Proofs.Ytomnggbideepeaa.AM
set_option linter.unusedSimpArgs false
set_option linter.unusedVariables false
open Go Go.Proofs.Ytomnggbideepeaa.U
variable {cp : List PV → Option Ret}
/-- How many parts. -/
def prt (n : Nat) : Nat := (n + 15) / 16
/-- Where the i-th part begins. -/
def cutAt16 (n i : Nat) : Nat := n * i / prt n
theorem cut_mono (n i : Nat) : cutAt16 n i ≤ cutAt16 n (i + 1) := Nat.div_le_div_right (Nat.mul_le_mul_left n (Nat.le_succ i))
theorem cut_end (n : Nat) : cutAt16 n (prt n) = n := by
  unfold cutAt16
  rcases Nat.eq_zero_or_pos n with h | h
  · subst h; simp
  · exact Nat.mul_div_cancel _ (by unfold prt; omega)
theorem cut_le (n i : Nat) (h : i ≤ prt n) : cutAt16 n i ≤ n := by
  have : cutAt16 n i ≤ cutAt16 n (prt n) := Nat.div_le_div_right (Nat.mul_le_mul_left n h)
  rw [cut_end] at this; exact this
theorem cut_size (n i m : Nat) (hm : m * prt n ≤ n) (hp : 0 < prt n) : cutAt16 n i + m ≤ cutAt16 n (i + 1) := by
  unfold cutAt16
  rw [Nat.mul_succ]
  refine (Nat.le_div_iff_mul_le hp).2 ?_
  rw [Nat.add_mul]
  have := Nat.div_mul_le_self (n * i) (prt n)
  omega
theorem tdiv_nat (a b : Nat) : ((a : Int)).tdiv (b : Int) = ((a / b : Nat) : Int) := (Int.ofNat_tdiv a b).symm
theorem mul_bd (n i : Nat) (hn : n < 1073741824) (hi : i ≤ n + 1) : (n * i : Nat) ≤ 1152921504606846976 := by
  have : n * i ≤ 1073741824 * 1073741824 := Nat.mul_le_mul (by omega) (by omega)
  omega
/-- The i-th part. -/
def part16 {α : Type} (l : List α) (i : Nat) : List α := (l.drop (cutAt16 l.length i)).take (cutAt16 l.length (i + 1) - cutAt16 l.length i)
theorem parts_flat {α : Type} (l : List α) : ∀ k, k ≤ prt l.length → ((List.range k).map (part16 l)).flatten = l.take (cutAt16 l.length k)
  | 0, _ => by simp [cutAt16]
  | k + 1, h => by
    rw [List.range_succ, List.map_append, List.flatten_append, parts_flat l k (by omega)]
    have e := List.take_add (l := l) (i := cutAt16 l.length k) (j := cutAt16 l.length (k + 1) - cutAt16 l.length k)
    rw [show cutAt16 l.length k + (cutAt16 l.length (k + 1) - cutAt16 l.length k) = cutAt16 l.length (k + 1) by have := cut_mono l.length k; omega] at e
    rw [e]; simp [part16]
theorem parts_all {α : Type} (l : List α) : ((List.range (prt l.length)).map (part16 l)).flatten = l := by
  rw [parts_flat l _ (Nat.le_refl _), cut_end, List.take_length]
theorem part_len {α : Type} (l : List α) (i : Nat) (h : i < prt l.length) : (part16 l i).length = cutAt16 l.length (i + 1) - cutAt16 l.length i := by
  unfold part16
  have := cut_le l.length (i + 1) h
  rw [List.length_take, List.length_drop]; omega
set_option maxHeartbeats 2000000 in
theorem spreadLeaf_loop (R : List (List PV)) (hR : R.length < 1073741824) (f : FuncId) (g : Nat → List PV) (hf : ∀ i, i < prt R.length → Run (EX cp) f [.sl 1 (part16 R i)] = some (.val (.pt (g i)))) : ∀ (m i : Nat), m + i = prt R.length →
    Code (EX cp) L_tree_spread_rope_piece_tree_node_rope_piece_rope_counts_0 ⟨[(0, .p (.sl 1 R)), (1, .p (.fn f [])), (5, .p (pi (prt R.length))), (6, .ms 6 0 i), (14, .p (pi (prt R.length))), (15, .p (pi i))], [(6, .row 85 1 false (ones ((List.range i).map fun i => PV.pt (g i))))]⟩ =
      some (.ex 0, ⟨[(0, .p (.sl 1 R)), (1, .p (.fn f [])), (5, .p (pi (prt R.length))), (6, .ms 6 0 (prt R.length)), (14, .p (pi (prt R.length))), (15, .p (pi (prt R.length))), (16, .p (pb false))], [(6, .row 85 1 false (ones ((List.range (prt R.length)).map fun i => PV.pt (g i))))]⟩) := by
  intro m
  induction m with
  | zero =>
    intro i hi
    have : i = prt R.length := by omega
    subst this
    rw [L_tree_spread_rope_piece_tree_node_rope_piece_rope_counts_0, k_loop]
    simp
  | succ m ih =>
    intro i hi
    have h1 : i < prt R.length := by omega
    have ih' := ih (i + 1) (by omega)
    have d := hf i h1
    have hpn : prt R.length ≤ R.length := by unfold prt; omega
    have m1 := mul_bd R.length i hR (by omega)
    have m2 := mul_bd R.length (i + 1) hR (by omega)
    have c1 := cut_mono R.length i
    have c2 := cut_le R.length (i + 1) (by omega)
    have q1 := tdiv_nat (R.length * i) (prt R.length)
    have q2 := tdiv_nat (R.length * (i + 1)) (prt R.length)
    have hp0 : ¬ ((prt R.length : Nat) : Int) = 0 := by omega
    have hp0' : ¬ prt R.length = 0 := by omega
    have hpl := part_len R i h1
    rw [show R.length * i / prt R.length = cutAt16 R.length i from rfl, Int.natCast_mul] at q1
    rw [show R.length * (i + 1) / prt R.length = cutAt16 R.length (i + 1) from rfl, Int.natCast_mul, Int.natCast_add] at q2
    rw [show part16 R i = (R.drop (cutAt16 R.length i)).take (cutAt16 R.length (i + 1) - cutAt16 R.length i) from rfl] at d hpl
    have w1 : IntKind.wrap .i64 ((R.length : Int) * (i : Int)) = (R.length : Int) * i := by
      rw [← Int.natCast_mul]; exact wrap_in _ (by omega) (by omega)
    have w2 : IntKind.wrap .i64 ((R.length : Int) * ((i : Int) + 1)) = (R.length : Int) * ((i : Int) + 1) := by
      have e : (R.length : Int) * ((i : Int) + 1) = ((R.length * (i + 1) : Nat) : Int) := by rw [Int.natCast_mul]; rfl
      rw [e]; exact wrap_in _ (by omega) (by omega)
    have hrng : (List.range (i + 1)).map (fun i => PV.pt (g i)) = (List.range i).map (fun i => PV.pt (g i)) ++ [.pt (g i)] := by rw [List.range_succ, List.map_append]; rfl
    have hol : ((List.range i).map fun i => PV.pt (g i)).length = i := by simp
    have ho := ones_snoc ((List.range i).map fun i => PV.pt (g i)) (.pt (g i))
    rw [← hrng] at ho
    have q2' : ((R.length : Int) * ((i : Int) + 1)).tdiv (prt R.length) = (cutAt16 R.length (i + 1) : Nat) := q2
    obtain ⟨pt, hpt⟩ : ∃ pt, (R.drop (cutAt16 R.length i)).take (cutAt16 R.length (i + 1) - cutAt16 R.length i) = pt := ⟨_, rfl⟩
    rw [hpt] at d hpl
    have w3 : IntKind.wrap .i64 ((cutAt16 R.length i : Nat) : Int) = (cutAt16 R.length i : Nat) := wrap_in _ (by omega) (by omega)
    have w4 : IntKind.wrap .i64 ((cutAt16 R.length (i + 1) : Nat) : Int) = (cutAt16 R.length (i + 1) : Nat) := wrap_in _ (by omega) (by omega)
    generalize cutAt16 R.length (i + 1) = cb at *
    generalize cutAt16 R.length i = ca at *
    generalize prt R.length = p at *
    have hptl : pt.length ≤ 1073741824 := by omega
    have hcap : pt.length * 16 ≤ maxBytes ∧ pt.length ≤ 9223372036854775807 := by unfold maxBytes; omega
    have hcap2 : (i + 1) * 8 ≤ maxBytes ∧ i + 1 ≤ 9223372036854775807 := by unfold maxBytes; omega
    have htk : pt.take pt.length = pt := List.take_length
    rw [← ih', L_tree_spread_rope_piece_tree_node_rope_piece_rope_counts_0, k_loop]
    by_cases hz : pt.length = 0
    · have hz' := List.eq_nil_of_length_eq_zero hz
      rw [hz'] at d hpt
      have hcc : cb - ca = 0 := by omega
      simp (disch := omega) [h1, w1, w2, q1, q2', w3, w4, hp0, hp0', c1, c2, hz', hpt, d, hcap2, hol, ho, dec_yes, dec_no, wrap_in, if_yes, -getElem?_pos]
    · have hz' : ¬ pt = [] := fun e => hz (by rw [e]; rfl)
      simp (disch := omega) [h1, w1, w2, q1, q2', w3, w4, hp0, hp0', c1, c2, hz, hz', hpt, d, hcap, hcap2, hol, ho, htk, dec_yes, dec_no, wrap_in, if_yes, -getElem?_pos]
theorem spreadLeaf (R : List (List PV)) (hR : R.length < 1073741824) (f : FuncId) (g : Nat → List PV) (hf : ∀ i, i < prt R.length → Run (EX cp) f [.sl 1 (part16 R i)] = some (.val (.pt (g i)))) :
    Run (EX cp) 100 [.sl 1 R, .fn f []] = some (.own 85 1 (ones ((List.range (prt R.length)).map fun i => PV.pt (g i)))) := by
  have h := spreadLeaf_loop (cp := cp) R hR f g hf (prt R.length) 0 (by omega)
  rw [show ((0 : Nat) : Int) = 0 from rfl, List.range_zero, List.map_nil, ones_nil] at h
  have q1 := tdiv_nat (R.length + 15) 16
  have e1 : ((R.length : Int) + 16 - 1).tdiv 16 = (prt R.length : Nat) := by
    have e : (R.length : Int) + 16 - 1 = ((R.length + 15 : Nat) : Int) := by omega
    rw [e]; exact q1
  have e2 : IntKind.wrap .i64 ((prt R.length : Nat) : Int) = (prt R.length : Nat) := wrap_in _ (by omega) (by unfold prt; omega)
  have ho : (ones ((List.range (prt R.length)).map fun i => PV.pt (g i))).take (prt R.length) = ones ((List.range (prt R.length)).map fun i => PV.pt (g i)) := List.take_of_length_le (by simp)
  rw [run_fn _ A_tree_spread_rope_piece_tree_node_rope_piece_rope_counts _ rfl rfl rfl]
  generalize prt R.length = p at *
  simp (disch := omega) [A_tree_spread_rope_piece_tree_node_rope_piece_rope_counts, e1, e2, h, ho, wrap_in]
theorem packedLeaf (R : List (List PV)) (hR : R.length < 1073741824) (f : FuncId) (g : Nat → List PV) (hf : ∀ i, i < prt R.length → Run (EX cp) f [.sl 1 (part16 R i)] = some (.val (.pt (g i)))) :
    Run (EX cp) 118 [.sl 1 R, .fn f []] = some (.own 85 1 (ones ((List.range (prt R.length)).map fun i => PV.pt (g i)))) := by
  have h := spreadLeaf (cp := cp) R hR f g hf
  have ho : (ones ((List.range (prt R.length)).map fun i => PV.pt (g i))).take (prt R.length) = ones ((List.range (prt R.length)).map fun i => PV.pt (g i)) := List.take_of_length_le (by simp)
  rw [run_fn _ A_tree_packed_rope_piece_tree_node_rope_piece_rope_counts _ rfl rfl rfl]
  simp (disch := omega) [A_tree_packed_rope_piece_tree_node_rope_piece_rope_counts, h, ho]
set_option maxHeartbeats 2000000 in
theorem spreadInner_loop (R : List (List PV)) (hR : R.length < 1073741824) (f : FuncId) (g : Nat → List PV) (hf : ∀ i, i < prt R.length → Run (EX cp) f [.sl 1 (part16 R i)] = some (.val (.pt (g i)))) : ∀ (m i : Nat), m + i = prt R.length →
    Code (EX cp) L_tree_spread_tree_node_rope_piece_rope_counts_tree_node_rope_piece_rope_counts_0 ⟨[(0, .p (.sl 1 R)), (1, .p (.fn f [])), (5, .p (pi (prt R.length))), (6, .ms 6 0 i), (14, .p (pi (prt R.length))), (15, .p (pi i))], [(6, .row 85 1 false (ones ((List.range i).map fun i => PV.pt (g i))))]⟩ =
      some (.ex 0, ⟨[(0, .p (.sl 1 R)), (1, .p (.fn f [])), (5, .p (pi (prt R.length))), (6, .ms 6 0 (prt R.length)), (14, .p (pi (prt R.length))), (15, .p (pi (prt R.length))), (16, .p (pb false))], [(6, .row 85 1 false (ones ((List.range (prt R.length)).map fun i => PV.pt (g i))))]⟩) := by
  intro m
  induction m with
  | zero =>
    intro i hi
    have : i = prt R.length := by omega
    subst this
    rw [L_tree_spread_tree_node_rope_piece_rope_counts_tree_node_rope_piece_rope_counts_0, k_loop]
    simp
  | succ m ih =>
    intro i hi
    have h1 : i < prt R.length := by omega
    have ih' := ih (i + 1) (by omega)
    have d := hf i h1
    have hpn : prt R.length ≤ R.length := by unfold prt; omega
    have m1 := mul_bd R.length i hR (by omega)
    have m2 := mul_bd R.length (i + 1) hR (by omega)
    have c1 := cut_mono R.length i
    have c2 := cut_le R.length (i + 1) (by omega)
    have q1 := tdiv_nat (R.length * i) (prt R.length)
    have q2 := tdiv_nat (R.length * (i + 1)) (prt R.length)
    have hp0 : ¬ ((prt R.length : Nat) : Int) = 0 := by omega
    have hp0' : ¬ prt R.length = 0 := by omega
    have hpl := part_len R i h1
    rw [show R.length * i / prt R.length = cutAt16 R.length i from rfl, Int.natCast_mul] at q1
    rw [show R.length * (i + 1) / prt R.length = cutAt16 R.length (i + 1) from rfl, Int.natCast_mul, Int.natCast_add] at q2
    rw [show part16 R i = (R.drop (cutAt16 R.length i)).take (cutAt16 R.length (i + 1) - cutAt16 R.length i) from rfl] at d hpl
    have w1 : IntKind.wrap .i64 ((R.length : Int) * (i : Int)) = (R.length : Int) * i := by
      rw [← Int.natCast_mul]; exact wrap_in _ (by omega) (by omega)
    have w2 : IntKind.wrap .i64 ((R.length : Int) * ((i : Int) + 1)) = (R.length : Int) * ((i : Int) + 1) := by
      have e : (R.length : Int) * ((i : Int) + 1) = ((R.length * (i + 1) : Nat) : Int) := by rw [Int.natCast_mul]; rfl
      rw [e]; exact wrap_in _ (by omega) (by omega)
    have hrng : (List.range (i + 1)).map (fun i => PV.pt (g i)) = (List.range i).map (fun i => PV.pt (g i)) ++ [.pt (g i)] := by rw [List.range_succ, List.map_append]; rfl
    have hol : ((List.range i).map fun i => PV.pt (g i)).length = i := by simp
    have ho := ones_snoc ((List.range i).map fun i => PV.pt (g i)) (.pt (g i))
    rw [← hrng] at ho
    have q2' : ((R.length : Int) * ((i : Int) + 1)).tdiv (prt R.length) = (cutAt16 R.length (i + 1) : Nat) := q2
    obtain ⟨pt, hpt⟩ : ∃ pt, (R.drop (cutAt16 R.length i)).take (cutAt16 R.length (i + 1) - cutAt16 R.length i) = pt := ⟨_, rfl⟩
    rw [hpt] at d hpl
    have w3 : IntKind.wrap .i64 ((cutAt16 R.length i : Nat) : Int) = (cutAt16 R.length i : Nat) := wrap_in _ (by omega) (by omega)
    have w4 : IntKind.wrap .i64 ((cutAt16 R.length (i + 1) : Nat) : Int) = (cutAt16 R.length (i + 1) : Nat) := wrap_in _ (by omega) (by omega)
    generalize cutAt16 R.length (i + 1) = cb at *
    generalize cutAt16 R.length i = ca at *
    generalize prt R.length = p at *
    have hptl : pt.length ≤ 1073741824 := by omega
    have hcap : pt.length * 8 ≤ maxBytes ∧ pt.length ≤ 9223372036854775807 := by unfold maxBytes; omega
    have hcap2 : (i + 1) * 8 ≤ maxBytes ∧ i + 1 ≤ 9223372036854775807 := by unfold maxBytes; omega
    have htk : pt.take pt.length = pt := List.take_length
    rw [← ih', L_tree_spread_tree_node_rope_piece_rope_counts_tree_node_rope_piece_rope_counts_0, k_loop]
    by_cases hz : pt.length = 0
    · have hz' := List.eq_nil_of_length_eq_zero hz
      rw [hz'] at d hpt
      have hcc : cb - ca = 0 := by omega
      simp (disch := omega) [h1, w1, w2, q1, q2', w3, w4, hp0, hp0', c1, c2, hz', hpt, d, hcap2, hol, ho, dec_yes, dec_no, wrap_in, if_yes, -getElem?_pos]
    · have hz' : ¬ pt = [] := fun e => hz (by rw [e]; rfl)
      simp (disch := omega) [h1, w1, w2, q1, q2', w3, w4, hp0, hp0', c1, c2, hz, hz', hpt, d, hcap, hcap2, hol, ho, htk, dec_yes, dec_no, wrap_in, if_yes, -getElem?_pos]
theorem spreadInner (R : List (List PV)) (hR : R.length < 1073741824) (f : FuncId) (g : Nat → List PV) (hf : ∀ i, i < prt R.length → Run (EX cp) f [.sl 1 (part16 R i)] = some (.val (.pt (g i)))) :
    Run (EX cp) 102 [.sl 1 R, .fn f []] = some (.own 85 1 (ones ((List.range (prt R.length)).map fun i => PV.pt (g i)))) := by
  have h := spreadInner_loop (cp := cp) R hR f g hf (prt R.length) 0 (by omega)
  rw [show ((0 : Nat) : Int) = 0 from rfl, List.range_zero, List.map_nil, ones_nil] at h
  have q1 := tdiv_nat (R.length + 15) 16
  have e1 : ((R.length : Int) + 16 - 1).tdiv 16 = (prt R.length : Nat) := by
    have e : (R.length : Int) + 16 - 1 = ((R.length + 15 : Nat) : Int) := by omega
    rw [e]; exact q1
  have e2 : IntKind.wrap .i64 ((prt R.length : Nat) : Int) = (prt R.length : Nat) := wrap_in _ (by omega) (by unfold prt; omega)
  have ho : (ones ((List.range (prt R.length)).map fun i => PV.pt (g i))).take (prt R.length) = ones ((List.range (prt R.length)).map fun i => PV.pt (g i)) := List.take_of_length_le (by simp)
  rw [run_fn _ A_tree_spread_tree_node_rope_piece_rope_counts_tree_node_rope_piece_rope_counts _ rfl rfl rfl]
  generalize prt R.length = p at *
  simp (disch := omega) [A_tree_spread_tree_node_rope_piece_rope_counts_tree_node_rope_piece_rope_counts, e1, e2, h, ho, wrap_in]
theorem packedInner (R : List (List PV)) (hR : R.length < 1073741824) (f : FuncId) (g : Nat → List PV) (hf : ∀ i, i < prt R.length → Run (EX cp) f [.sl 1 (part16 R i)] = some (.val (.pt (g i)))) :
    Run (EX cp) 116 [.sl 1 R, .fn f []] = some (.own 85 1 (ones ((List.range (prt R.length)).map fun i => PV.pt (g i)))) := by
  have h := spreadInner (cp := cp) R hR f g hf
  have ho : (ones ((List.range (prt R.length)).map fun i => PV.pt (g i))).take (prt R.length) = ones ((List.range (prt R.length)).map fun i => PV.pt (g i)) := List.take_of_length_le (by simp)
  rw [run_fn _ A_tree_packed_tree_node_rope_piece_rope_counts_tree_node_rope_piece_rope_counts _ rfl rfl rfl]
  simp (disch := omega) [A_tree_packed_tree_node_rope_piece_rope_counts_tree_node_rope_piece_rope_counts, h, ho]
end Go.Proofs.Ytomnggbideepeaa.AM

end
section
/- Trees on the small machine: short, packed, together, Make, Len, Sum. For fewer than 2^30 bytes, pieces. -/
namespace Go.Proofs.Ytomnggbideepeaa.AM
set_option linter.unusedSimpArgs false
set_option linter.unusedVariables false
open Go Go.Proofs.Ytomnggbideepeaa.U
variable {cp : List PV → Option Ret}
theorem treeShort (a b : Nat) (ha : a < 1073741824) (hb : b < 1073741824) : ∃ r, Run (EX cp) 117 [pi a, pi b] = some (.val (pb r)) := by
  rw [run_fn _ A_tree_short _ rfl rfl rfl]
  by_cases c0 : a + b ≤ 16
  · refine ⟨true, ?_⟩
    simp (disch := omega) [A_tree_short, c0, dec_yes, dec_no, wrap_in]
  by_cases c1 : a < 4
  · refine ⟨true, ?_⟩
    simp (disch := omega) [A_tree_short, c0, c1, dec_yes, dec_no, wrap_in]
  by_cases c2 : b < 4
  · refine ⟨true, ?_⟩
    simp (disch := omega) [A_tree_short, c0, c1, c2, dec_yes, dec_no, wrap_in]
  · refine ⟨false, ?_⟩
    simp (disch := omega) [A_tree_short, c0, c1, c2, dec_yes, dec_no, wrap_in]
theorem part_strs (l : List ByteArray) (i : Nat) : part16 (strs l) i = strs (part16 l i) := by
  unfold part16; rw [strs_len, strs_drop', strs_take']
theorem part_ones (q : List (PV × List ByteArray)) (i : Nat) : part16 (ones (q.map Prod.fst)) i = ones ((part16 q i).map Prod.fst) := by
  unfold part16; rw [ones_len, List.length_map, ones_drop, ones_take, ← List.map_drop, ← List.map_take]
theorem part_mem {α : Type} (l : List α) (i : Nat) : ∀ x ∈ part16 l i, x ∈ l := fun x hx => List.mem_of_mem_drop (List.mem_of_mem_take hx)
theorem Bd.part {l : List ByteArray} (h : Bd l) (i : Nat) : Bd (part16 l i) := (h.drop _).take _
theorem its_take_drop (q : List (PV × List ByteArray)) (h : Bd (its q)) (a b : Nat) : Bd (its ((q.drop a).take b)) := by
  have h1 : Bd (its (q.drop a)) := by
    rw [← List.take_append_drop a q, its_append] at h; exact h.right
  rw [← List.take_append_drop b (q.drop a), its_append] at h1
  exact h1.left
/-- No more nodes than items. -/
theorem nd_count {d : Nat} : ∀ (q : List (PV × List ByteArray)), (∀ p ∈ q, Nd d p.1 p.2) → q.length ≤ (its q).length
  | [], _ => by simp
  | p :: q, h => by
    have h1 := (h p (by simp)).deep
    have h2 := nd_count q fun r hr => h r (by simp [hr])
    rw [its_cons, List.length_append, List.length_cons]; omega
/-- The leaves that are made of pieces. -/
def leavesQ (l : List ByteArray) : List (PV × List ByteArray) := (List.range (prt l.length)).map fun i => (.pt (nodeC [] (part16 l i) (part16 l i).length 1 (cntP (part16 l i))), part16 l i)
theorem leavesQ_its (l : List ByteArray) : its (leavesQ l) = l := by
  unfold its leavesQ
  rw [List.map_map]
  exact parts_all l
theorem leavesQ_nd (l : List ByteArray) : ∀ p ∈ leavesQ l, Nd 0 p.1 p.2 := by
  intro p hp
  obtain ⟨i, hi, rfl⟩ := List.mem_map.1 hp
  rw [List.mem_range] at hi
  refine ⟨fun e => ?_, rfl⟩
  have h1 := part_len l i hi
  have e' : part16 l i = [] := e
  rw [e'] at h1
  have h2 := cut_size l.length i 1 (by unfold prt; omega) (by omega)
  simp at h1; omega
theorem leavesQ_ne (l : List ByteArray) (h : l ≠ []) : leavesQ l ≠ [] := fun e => by
  have := leavesQ_its l
  rw [e] at this
  exact h this.symm
theorem leavesQ_fst (l : List ByteArray) : (leavesQ l).map Prod.fst = (List.range (prt l.length)).map fun i => PV.pt (nodeC [] (part16 l i) (part16 l i).length 1 (cntP (part16 l i))) := by
  unfold leavesQ; rw [List.map_map]; rfl
theorem leaf_hf (l : List ByteArray) (hb : Bd l) : ∀ i, i < prt (strs l).length → Run (EX cp) 101 [.sl 1 (part16 (strs l) i)] = some (.val (.pt (nodeC [] (part16 l i) (part16 l i).length 1 (cntP (part16 l i))))) := by
  intro i _
  rw [part_strs]
  exact treeLeaf _ (hb.part i)
theorem spreadLeaves (l : List ByteArray) (hb : Bd l) : Run (EX cp) 100 [.sl 1 (strs l), .fn 101 []] = some (.own 85 1 (ones ((leavesQ l).map Prod.fst))) := by
  rw [spreadLeaf (cp := cp) (strs l) (by rw [strs_len]; exact hb.2) _ _ (leaf_hf l hb), leavesQ_fst, strs_len]
theorem packLeaves (l : List ByteArray) (hb : Bd l) : Run (EX cp) 118 [.sl 1 (strs l), .fn 101 []] = some (.own 85 1 (ones ((leavesQ l).map Prod.fst))) := by
  rw [packedLeaf (cp := cp) (strs l) (by rw [strs_len]; exact hb.2) _ _ (leaf_hf l hb), leavesQ_fst, strs_len]
/-- The nodes that are made of nodes. -/
def innerQ (d : Nat) (q : List (PV × List ByteArray)) : List (PV × List ByteArray) := (List.range (prt q.length)).map fun i => (.pt (nodeC ((part16 q i).map Prod.fst) [] (its (part16 q i)).length (d + 2) (cntP (its (part16 q i)))), its (part16 q i))
theorem innerQ_its (d : Nat) (q : List (PV × List ByteArray)) : its (innerQ d q) = its q := by
  have h := parts_all q
  have key : ∀ k, its ((List.range k).map fun i => ((.pt (nodeC ((part16 q i).map Prod.fst) [] (its (part16 q i)).length (d + 2) (cntP (its (part16 q i)))) : PV), its (part16 q i))) = its (((List.range k).map (part16 q)).flatten) := by
    intro k
    induction k with
    | zero => rfl
    | succ k ih => rw [List.range_succ, List.map_append, List.map_append, its_append, List.flatten_append, its_append, ih]; simp [its]
  unfold innerQ
  rw [key, h]
theorem innerQ_len (d : Nat) (q : List (PV × List ByteArray)) : (innerQ d q).length = prt q.length := by simp [innerQ]
theorem innerQ_nd (d : Nat) (q : List (PV × List ByteArray)) (hq : ∀ p ∈ q, Nd d p.1 p.2) (h2 : 2 ≤ q.length) : ∀ p ∈ innerQ d q, Nd (d + 1) p.1 p.2 := by
  intro p hp
  obtain ⟨i, hi, rfl⟩ := List.mem_map.1 hp
  rw [List.mem_range] at hi
  refine ⟨part16 q i, ?_, fun r hr => hq r (part_mem q i r hr), rfl, rfl⟩
  rw [part_len q i hi]
  have := cut_size q.length i 2 (by unfold prt; omega) (by omega)
  omega
theorem innerQ_fst (d : Nat) (q : List (PV × List ByteArray)) : (innerQ d q).map Prod.fst = (List.range (prt q.length)).map fun i => PV.pt (nodeC ((part16 q i).map Prod.fst) [] (its (part16 q i)).length (d + 2) (cntP (its (part16 q i)))) := by
  unfold innerQ; rw [List.map_map]; rfl
theorem inner_hf (d : Nat) (q : List (PV × List ByteArray)) (hb : Bd (its q)) (hq : ∀ p ∈ q, Nd d p.1 p.2) (h2 : 2 ≤ q.length) : ∀ i, i < prt (ones (q.map Prod.fst)).length → Run (EX cp) 103 [.sl 1 (part16 (ones (q.map Prod.fst)) i)] = some (.val (.pt (nodeC ((part16 q i).map Prod.fst) [] (its (part16 q i)).length (d + 2) (cntP (its (part16 q i)))))) := by
  intro i hi
  rw [ones_len, List.length_map] at hi
  rw [part_ones]
  have hc := nd_count q hq
  have hl := part_len q i hi
  have hcl := cut_le q.length (i + 1) hi
  have := cut_size q.length i 2 (by unfold prt; omega) (by omega)
  have := hb.2
  exact treeInner (part16 q i) (its_take_drop q hb _ _) d (fun r hr => hq r (part_mem q i r hr)) (by omega) (by omega)
theorem spreadInners (d : Nat) (q : List (PV × List ByteArray)) (hb : Bd (its q)) (hq : ∀ p ∈ q, Nd d p.1 p.2) (h2 : 2 ≤ q.length) : Run (EX cp) 102 [.sl 1 (ones (q.map Prod.fst)), .fn 103 []] = some (.own 85 1 (ones ((innerQ d q).map Prod.fst))) := by
  have hc := nd_count q hq
  have := hb.2
  rw [spreadInner (cp := cp) (ones (q.map Prod.fst)) (by rw [ones_len, List.length_map]; omega) _ _ (inner_hf d q hb hq h2), innerQ_fst, ones_len, List.length_map]
theorem packInners (d : Nat) (q : List (PV × List ByteArray)) (hb : Bd (its q)) (hq : ∀ p ∈ q, Nd d p.1 p.2) (h2 : 2 ≤ q.length) : Run (EX cp) 116 [.sl 1 (ones (q.map Prod.fst)), .fn 103 []] = some (.own 85 1 (ones ((innerQ d q).map Prod.fst))) := by
  have hc := nd_count q hq
  have := hb.2
  rw [packedInner (cp := cp) (ones (q.map Prod.fst)) (by rw [ones_len, List.length_map]; omega) _ _ (inner_hf d q hb hq h2), innerQ_fst, ones_len, List.length_map]
/-- A row of items. -/
def RepT (x : PV) (l : List ByteArray) : Prop := (l = [] ∧ x = .sc (.pointer none)) ∨ ∃ d, Nd d x l
theorem treeTogether (d : Nat) (q : List (PV × List ByteArray)) (hb : Bd (its q)) (hq : ∀ p ∈ q, Nd d p.1 p.2) : ∃ x, Run (EX cp) 105 [.sl 1 (ones (q.map Prod.fst))] = some (.val (.st [x])) ∧ RepT x (its q) := by
  have hc := nd_count q hq
  have hbl := hb.2
  rw [run_fn _ A_tree_together_rope_piece_rope_counts _ rfl rfl rfl]
  match q, hb, hq, hc with
  | [], _, _, _ =>
    refine ⟨.sc (.pointer none), ?_, .inl ⟨rfl, rfl⟩⟩
    simp [A_tree_together_rope_piece_rope_counts, ones]
  | [p], _, hq, _ =>
    have h := hq p (by simp)
    obtain ⟨k0, i0, hs⟩ := h.shape
    refine ⟨p.1, ?_, .inr ⟨d, by rw [its_cons, show its [] = [] from rfl, List.append_nil]; exact h⟩⟩
    rw [hs]
    simp [A_tree_together_rope_piece_rope_counts, ones, hs]
  | a :: b :: q, hb, hq, hc =>
    have h := treeInner (cp := cp) (a :: b :: q) hb d hq (by simp) (by omega)
    refine ⟨_, ?_, .inr ⟨d + 1, a :: b :: q, by simp, hq, rfl, rfl⟩⟩
    have hl : ((a :: b :: q).map Prod.fst).length = (a :: b :: q).length := List.length_map ..
    have h2 : 2 ≤ (a :: b :: q).length := by simp
    show _ = some (Ret.val (.st [.pt (nodeC ((a :: b :: q).map Prod.fst) [] (its (a :: b :: q)).length (d + 2) (cntP (its (a :: b :: q))))]))
    generalize hn : nodeC ((a :: b :: q).map Prod.fst) [] (its (a :: b :: q)).length (d + 2) (cntP (its (a :: b :: q))) = nc at *
    generalize (a :: b :: q).map Prod.fst = ks at *
    generalize (a :: b :: q).length = n at *
    have e0 : ¬ (n : Int) = 0 := by omega
    have e1 : ¬ (n : Int) = 1 := by omega
    have e2 : ¬ n = 0 := by omega
    have e3 : ¬ n = 1 := by omega
    have e4 : ¬ ks = [] := fun e => by rw [e] at hl; simp at hl; omega
    simp (disch := omega) [A_tree_together_rope_piece_rope_counts, h, hl, e0, e1, e2, e3, e4, dec_yes, dec_no]
theorem seqLen (x : PV) (l : List ByteArray) (h : RepT x l) : Run (EX cp) 86 [.st [x]] = some (.val (pi l.length)) := by
  rw [run_fn _ A_tree_Seq_rope_piece_rope_counts_Len _ rfl rfl rfl]
  rcases h with ⟨rfl, rfl⟩ | ⟨d, h⟩
  · simp [A_tree_Seq_rope_piece_rope_counts_Len]
  · obtain ⟨k0, i0, rfl⟩ := h.shape
    unfold nodeC
    simp [A_tree_Seq_rope_piece_rope_counts_Len]
theorem seqSum (x : PV) (l : List ByteArray) (h : RepT x l) : Run (EX cp) 61 [.st [x]] = some (.val (cntP l).pv) := by
  rw [run_fn _ A_tree_Seq_rope_piece_rope_counts_Sum _ rfl rfl rfl]
  rcases h with ⟨rfl, rfl⟩ | ⟨d, h⟩
  · simp [A_tree_Seq_rope_piece_rope_counts_Sum, C4.pv, cntP]
  · obtain ⟨k0, i0, rfl⟩ := h.shape
    unfold nodeC C4.pv
    simp [A_tree_Seq_rope_piece_rope_counts_Sum]
end Go.Proofs.Ytomnggbideepeaa.AM

end
section
/- Trees on the small machine: Make, join, Join. For fewer than 2^30 bytes, pieces. -/
namespace Go.Proofs.Ytomnggbideepeaa.AM
set_option linter.unusedSimpArgs false
set_option linter.unusedVariables false
open Go Go.Proofs.Ytomnggbideepeaa.U
variable {cp : List PV → Option Ret}
theorem treeMake_loop : ∀ (m d : Nat) (q : List (PV × List ByteArray)), q.length ≤ m → q ≠ [] → (∀ p ∈ q, Nd d p.1 p.2) → Bd (its q) →
    ∃ x d', Nd d' x (its q) ∧ Code (EX cp) L_tree_Make_rope_piece_rope_counts_0 ⟨[(2, .mp 2 0 0), (3, .ms 3 0 q.length)], [(2, .row 87 1 false [[.sc (.pointer none)]]), (3, .row 85 1 false (ones (q.map Prod.fst)))]⟩ =
      some (.ex 0, ⟨[(2, .mp 2 0 0), (3, .ms 3 0 1), (12, .p (pb false))], [(2, .row 87 1 false [[.sc (.pointer none)]]), (3, .row 85 1 false (ones [x]))]⟩) := by
  intro m
  induction m with
  | zero => intro d q h1 h2 _ _; exact absurd (List.eq_nil_of_length_eq_zero (by omega)) h2
  | succ m ih =>
    intro d q h1 h2 hq hb
    by_cases hone : q.length = 1
    · match q, hone with
      | [p], _ =>
        refine ⟨p.1, d, ?_, ?_⟩
        · rw [its_cons, show its [] = [] from rfl, List.append_nil]; exact hq p (by simp)
        · rw [L_tree_Make_rope_piece_rope_counts_0, k_loop]
          simp [ones]
    · have hq0 : 0 < q.length := List.length_pos_iff.2 h2
      have h3 : 2 ≤ q.length := by omega
      have hc := nd_count q hq
      have hbl := hb.2
      have d1 := spreadInners (cp := cp) d q hb hq h3
      have e1 := innerQ_its d q
      have e2 := innerQ_len d q
      have e3 : prt q.length < q.length := by unfold prt; omega
      have e4 : 1 ≤ prt q.length := by unfold prt; omega
      obtain ⟨x, d', hx, ih'⟩ := ih (d + 1) (innerQ d q) (by omega) (fun e => by rw [e] at e2; simp at e2; omega) (innerQ_nd d q hq h3) (by rw [e1]; exact hb)
      rw [e1] at hx
      refine ⟨x, d', hx, ?_⟩
      have hol : ((innerQ d q).map Prod.fst).length = (innerQ d q).length := List.length_map ..
      have htk : (ones (q.map Prod.fst)).take q.length = ones (q.map Prod.fst) := List.take_of_length_le (by simp)
      have hln : (ones (q.map Prod.fst)).length = q.length := by simp
      rw [← ih', L_tree_Make_rope_piece_rope_counts_0, k_loop]
      generalize (innerQ d q).map Prod.fst = ks at *
      generalize (innerQ d q).length = n2 at *
      generalize ones (q.map Prod.fst) = R at *
      generalize q.length = n at *
      simp (disch := omega) [d1, hol, htk, hln, dec_yes, dec_no]
theorem treeMake (l : List ByteArray) (hb : Bd l) : ∃ x, Run (EX cp) 83 [.sl 1 (strs l)] = some (.val (.st [x])) ∧ RepT x l := by
  rw [run_fn _ A_tree_Make_rope_piece_rope_counts _ rfl rfl rfl]
  by_cases hl : l = []
  · subst hl
    exact ⟨.sc (.pointer none), by simp [A_tree_Make_rope_piece_rope_counts], .inl ⟨rfl, rfl⟩⟩
  · have hl0 : ¬ l.length = 0 := fun e => hl (List.eq_nil_of_length_eq_zero e)
    have d1 := spreadLeaves (cp := cp) l hb
    obtain ⟨x, d', hx, h⟩ := treeMake_loop (cp := cp) (leavesQ l).length 0 (leavesQ l) (Nat.le_refl _) (leavesQ_ne l hl) (leavesQ_nd l) (by rw [leavesQ_its]; exact hb)
    rw [leavesQ_its] at hx
    refine ⟨x, ?_, .inr ⟨d', hx⟩⟩
    obtain ⟨k0, i0, hs⟩ := hx.shape
    rw [hs] at h ⊢
    have hol : ((leavesQ l).map Prod.fst).length = (leavesQ l).length := List.length_map ..
    have hg : (ones [PV.pt (nodeC k0 i0 l.length (d' + 1) (cntP l))])[0]? = some [PV.pt (nodeC k0 i0 l.length (d' + 1) (cntP l))] := rfl
    generalize nodeC k0 i0 l.length (d' + 1) (cntP l) = nc at *
    generalize (leavesQ l).map Prod.fst = ks at *
    generalize (leavesQ l).length = n2 at *
    simp (disch := omega) [A_tree_Make_rope_piece_rope_counts, d1, hol, hl, hl0, h, hg, dec_yes, dec_no, -getElem?_pos]
end Go.Proofs.Ytomnggbideepeaa.AM

end
section
/- Trees on the small machine: join, Join. For fewer than 2^30 bytes, pieces. -/
namespace Go.Proofs.Ytomnggbideepeaa.AM
set_option linter.unusedSimpArgs false
set_option linter.unusedVariables false
open Go Go.Proofs.Ytomnggbideepeaa.U
variable {cp : List PV → Option Ret}
theorem Nd.kids {d : Nat} {x : PV} {l : List ByteArray} (h : Nd (d + 1) x l) : ∃ q : List (PV × List ByteArray), 2 ≤ q.length ∧ (∀ p ∈ q, Nd d p.1 p.2) ∧ l = its q ∧ x = .pt (nodeC (q.map Prod.fst) [] l.length (d + 2) (cntP l)) := h
theorem nd_map (q : List (PV × List ByteArray)) : (q.map Prod.fst).length = q.length := List.length_map ..
set_option maxHeartbeats 8000000 in
theorem treeJoin : ∀ (m da db : Nat) (a b : PV) (la lb : List ByteArray), da + db < m → Nd da a la → Nd db b lb → Bd (la ++ lb) →
    ∃ q : List (PV × List ByteArray), q ≠ [] ∧ (∀ p ∈ q, Nd (max da db) p.1 p.2) ∧ its q = la ++ lb ∧ Run (EX cp) 106 [a, b] = some (.own 85 1 (ones (q.map Prod.fst))) := by
  intro m
  induction m with
  | zero => intro da db a b la lb hm; omega
  | succ m ih =>
    intro da db a b la lb hm ha hb hbd
    have hda := ha.deep
    have hdb := hb.deep
    have hl := hbd.2
    rw [List.length_append] at hl
    have hbm : maxBytes = 140737488355328 := rfl
    rw [run_fn _ A_tree_join_rope_piece_rope_counts _ rfl rfl rfl]
    by_cases c0 : db < da
    · obtain ⟨d, rfl⟩ : ∃ d, da = d + 1 := ⟨da - 1, by omega⟩
      obtain ⟨q, q1, q2, q3, q4⟩ := ha.kids
      obtain ⟨q0, p, rfl⟩ : ∃ q0 p, q = q0 ++ [p] := ⟨q.dropLast, q.getLast (fun e => by rw [e] at q1; simp at q1), (List.dropLast_concat_getLast _).symm⟩
      have hpn := q2 p (by simp)
      rw [its_snoc] at q3
      obtain ⟨r, r1, r2, r3, r4⟩ := ih d db p.1 b p.2 lb (by omega) hpn hb (by rw [q3, List.append_assoc] at hbd; exact hbd.right)
      have hq0 : 1 ≤ q0.length := by simp at q1; omega
      have hr0 : 0 < r.length := List.length_pos_iff.2 r1
      have hi : its (q0 ++ r) = la ++ lb := by rw [its_append, r3, q3, List.append_assoc]
      have hnd : ∀ x ∈ q0 ++ r, Nd d x.1 x.2 := fun x hx => by
        rcases List.mem_append.1 hx with hx | hx
        · exact q2 x (by simp [hx])
        · have := r2 x hx; rwa [show max d db = d by omega] at this
      have hlen2 : 2 ≤ (q0 ++ r).length := by rw [List.length_append]; omega
      have pk := packInners (cp := cp) d (q0 ++ r) (by rw [hi]; exact hbd) hnd hlen2
      have hcnt := nd_count (q0 ++ r) hnd
      rw [hi, List.length_append, List.length_append] at hcnt
      refine ⟨innerQ d (q0 ++ r), fun e => ?_, ?_, by rw [innerQ_its, hi], ?_⟩
      · have := innerQ_len d (q0 ++ r); rw [e] at this; simp [prt] at this; omega
      · rw [show max (d + 1) db = d + 1 by omega]; exact innerQ_nd d _ hnd hlen2
      obtain ⟨kb, ib, hsb⟩ := hb.shape
      have hk : (ones ((q0 ++ [p]).map Prod.fst)).take q0.length = ones (q0.map Prod.fst) := by
        rw [List.map_append, ← ones_append, List.take_left' (by simp)]
      have hg : (ones ((q0 ++ [p]).map Prod.fst))[q0.length]? = some [p.1] := by
        rw [fst_at _ _ (by simp)]; simp
      have hkl : (ones ((q0 ++ [p]).map Prod.fst)).length = q0.length + 1 := by simp
      have hap : ones (q0.map Prod.fst) ++ ones (r.map Prod.fst) = ones ((q0 ++ r).map Prod.fst) := by rw [ones_append, List.map_append]
      have hl1 : (ones (q0.map Prod.fst)).length = q0.length := by simp
      have hl2 : (ones (r.map Prod.fst)).length = r.length := by simp
      have hl3 : (ones ((q0 ++ r).map Prod.fst)).length = q0.length + r.length := by simp
      have htk : (ones ((q0 ++ r).map Prod.fst)).take (q0.length + r.length) = ones ((q0 ++ r).map Prod.fst) := List.take_of_length_le (by simp)
      have htr : (ones (r.map Prod.fst)).take r.length = ones (r.map Prod.fst) := List.take_of_length_le (by simp)
      have hol : (ones ((innerQ d (q0 ++ r)).map Prod.fst)).length = (innerQ d (q0 ++ r)).length := by simp
      have hot : (ones ((innerQ d (q0 ++ r)).map Prod.fst)).take (innerQ d (q0 ++ r)).length = ones ((innerQ d (q0 ++ r)).map Prod.fst) := List.take_of_length_le (by simp)
      rw [hsb] at r4
      rw [q4, hsb]
      unfold nodeC at r4 ⊢
      generalize hD1 : ((db + 1 : Nat) : Int) = D1 at *
      generalize hD2 : ((d + 2 : Nat) : Int) = D2 at *
      generalize innerQ d (q0 ++ r) = z at *
      generalize ones ((q0 ++ r).map Prod.fst) = R3 at *
      generalize ones ((q0 ++ [p]).map Prod.fst) = R0 at *
      generalize ones (q0.map Prod.fst) = R1 at *
      generalize ones (r.map Prod.fst) = R2 at *
      generalize hn0 : q0.length = n0 at *
      generalize hnr : r.length = nr at *
      have hnr0 : ¬ nr = 0 := by omega
      have hR2 : ¬ R2 = [] := fun e => by rw [e] at hl2; simp at hl2; omega
      simp (disch := omega) [A_tree_join_rope_piece_rope_counts, hk, hg, hkl, hap, hl1, hl2, hl3, htk, htr, hol, hot, hnr0, hR2, r4, pk, hbm, dec_yes, dec_no, wrap_in, if_yes, -getElem?_pos]
    by_cases c1 : da < db
    · obtain ⟨d, rfl⟩ : ∃ d, db = d + 1 := ⟨db - 1, by omega⟩
      obtain ⟨q, q1, q2, q3, q4⟩ := hb.kids
      obtain ⟨p, q0, rfl⟩ : ∃ p q0, q = p :: q0 := by
        cases q with
        | nil => simp at q1
        | cons p q0 => exact ⟨p, q0, rfl⟩
      have hpn := q2 p (by simp)
      rw [its_cons] at q3
      obtain ⟨r, r1, r2, r3, r4⟩ := ih da d a p.1 la p.2 (by omega) ha hpn (by rw [q3, ← List.append_assoc] at hbd; exact hbd.left)
      have hq0 : 1 ≤ q0.length := by simp at q1; omega
      have hr0 : 0 < r.length := List.length_pos_iff.2 r1
      have hi : its (r ++ q0) = la ++ lb := by rw [its_append, r3, q3, List.append_assoc]
      have hnd : ∀ x ∈ r ++ q0, Nd d x.1 x.2 := fun x hx => by
        rcases List.mem_append.1 hx with hx | hx
        · have := r2 x hx; rwa [show max da d = d by omega] at this
        · exact q2 x (by simp [hx])
      have hlen2 : 2 ≤ (r ++ q0).length := by rw [List.length_append]; omega
      have pk := packInners (cp := cp) d (r ++ q0) (by rw [hi]; exact hbd) hnd hlen2
      have hcnt := nd_count (r ++ q0) hnd
      rw [hi, List.length_append, List.length_append] at hcnt
      refine ⟨innerQ d (r ++ q0), fun e => ?_, ?_, by rw [innerQ_its, hi], ?_⟩
      · have := innerQ_len d (r ++ q0); rw [e] at this; simp [prt] at this; omega
      · rw [show max da (d + 1) = d + 1 by omega]; exact innerQ_nd d _ hnd hlen2
      obtain ⟨ka, ia, hsa⟩ := ha.shape
      have hk : (ones ((p :: q0).map Prod.fst)).drop 1 = ones (q0.map Prod.fst) := rfl
      have hg : (ones ((p :: q0).map Prod.fst))[0]? = some [p.1] := rfl
      have hkl : (ones ((p :: q0).map Prod.fst)).length = q0.length + 1 := by simp
      have hap : ones (r.map Prod.fst) ++ ones (q0.map Prod.fst) = ones ((r ++ q0).map Prod.fst) := by rw [ones_append, List.map_append]
      have hl1 : (ones (q0.map Prod.fst)).length = q0.length := by simp
      have hl2 : (ones (r.map Prod.fst)).length = r.length := by simp
      have hl3 : (ones ((r ++ q0).map Prod.fst)).length = r.length + q0.length := by simp
      have htk : (ones ((r ++ q0).map Prod.fst)).take (r.length + q0.length) = ones ((r ++ q0).map Prod.fst) := List.take_of_length_le (by simp)
      have htr : (ones (q0.map Prod.fst)).take q0.length = ones (q0.map Prod.fst) := List.take_of_length_le (by simp)
      have hol : (ones ((innerQ d (r ++ q0)).map Prod.fst)).length = (innerQ d (r ++ q0)).length := by simp
      have hot : (ones ((innerQ d (r ++ q0)).map Prod.fst)).take (innerQ d (r ++ q0)).length = ones ((innerQ d (r ++ q0)).map Prod.fst) := List.take_of_length_le (by simp)
      rw [hsa] at r4
      rw [q4, hsa]
      unfold nodeC at r4 ⊢
      generalize hD1 : ((da + 1 : Nat) : Int) = D1 at *
      generalize hD2 : ((d + 2 : Nat) : Int) = D2 at *
      generalize innerQ d (r ++ q0) = z at *
      generalize ones ((r ++ q0).map Prod.fst) = R3 at *
      generalize ones ((p :: q0).map Prod.fst) = R0 at *
      generalize ones (q0.map Prod.fst) = R1 at *
      generalize ones (r.map Prod.fst) = R2 at *
      generalize hn0 : q0.length = n0 at *
      generalize hnr : r.length = nr at *
      have hnr0 : ¬ nr = 0 := by omega
      have hR2 : ¬ R2 = [] := fun e => by rw [e] at hl2; simp at hl2; omega
      simp (disch := omega) [A_tree_join_rope_piece_rope_counts, hk, hg, hkl, hap, hl1, hl2, hl3, htk, htr, hol, hot, hnr0, hR2, r4, pk, hbm, dec_yes, dec_no, wrap_in, if_yes, -getElem?_pos]
    obtain rfl : da = db := by omega
    have two : ∀ x : Bool, x = true ∨ x = false := fun x => by cases x <;> simp
    cases da with
    | zero =>
      obtain ⟨a1, rfl⟩ := ha
      obtain ⟨b1, rfl⟩ := hb
      have ha0 : 0 < la.length := List.length_pos_iff.2 a1
      have hb0 : 0 < lb.length := List.length_pos_iff.2 b1
      obtain ⟨r, hs⟩ := treeShort (cp := cp) la.length lb.length (by omega) (by omega)
      rcases two r with rfl | rfl
      · have pk := packLeaves (cp := cp) (la ++ lb) hbd
        refine ⟨leavesQ (la ++ lb), leavesQ_ne _ (fun e => a1 (List.append_eq_nil_iff.1 e).1), leavesQ_nd _, leavesQ_its _, ?_⟩
        have hap := strs_app' la lb
        have htk : (strs la).take la.length = strs la := List.take_of_length_le (by simp)
        have htk2 : (strs (la ++ lb)).take (la.length + lb.length) = strs (la ++ lb) := List.take_of_length_le (by simp)
        have hl1 : (strs la).length = la.length := by simp
        have hl2 : (strs lb).length = lb.length := by simp
        have hl3 : (strs (la ++ lb)).length = la.length + lb.length := by simp
        have hol : (ones ((leavesQ (la ++ lb)).map Prod.fst)).length = (leavesQ (la ++ lb)).length := by simp
        have hot : (ones ((leavesQ (la ++ lb)).map Prod.fst)).take (leavesQ (la ++ lb)).length = ones ((leavesQ (la ++ lb)).map Prod.fst) := List.take_of_length_le (by simp)
        unfold nodeC
        generalize leavesQ (la ++ lb) = z at *
        generalize strs (la ++ lb) = R3 at *
        generalize strs la = R1 at *
        generalize strs lb = R2 at *
        have hR2 : ¬ R2 = [] := fun e => by rw [e] at hl2; simp at hl2; omega
        have hlb0 : ¬ lb.length = 0 := by omega
        simp (disch := omega) [A_tree_join_rope_piece_rope_counts, hs, hap, htk, htk2, hl1, hl2, hl3, hol, hot, hR2, hlb0, b1, pk, hbm, dec_yes, dec_no, wrap_in, if_yes, -getElem?_pos]
      · refine ⟨[(.pt (nodeC [] la la.length 1 (cntP la)), la), (.pt (nodeC [] lb lb.length 1 (cntP lb)), lb)], by simp, ?_, by simp [its], ?_⟩
        rotate_left
        · unfold nodeC
          have hl1 : (strs la).length = la.length := by simp
          have hl2 : (strs lb).length = lb.length := by simp
          generalize strs la = R1 at *
          generalize strs lb = R2 at *
          simp (disch := omega) [A_tree_join_rope_piece_rope_counts, hs, hl1, hl2, hbm, dec_yes, dec_no, wrap_in, if_yes, -getElem?_pos]
          rfl
        · intro p hp
          simp only [List.mem_cons, List.not_mem_nil, or_false] at hp
          rcases hp with rfl | rfl
          · exact ⟨a1, rfl⟩
          · exact ⟨b1, rfl⟩
    | succ d =>
      obtain ⟨q, q1, q2, q3, q4⟩ := ha.kids
      obtain ⟨r, r1, r2, r3, r4⟩ := hb.kids
      have hcq := nd_count q q2
      have hcr := nd_count r r2
      rw [← q3] at hcq
      rw [← r3] at hcr
      obtain ⟨v, hs⟩ := treeShort (cp := cp) q.length r.length (by omega) (by omega)
      have hl1 : (ones (q.map Prod.fst)).length = q.length := by simp
      have hl2 : (ones (r.map Prod.fst)).length = r.length := by simp
      rcases two v with rfl | rfl
      · have hi : its (q ++ r) = la ++ lb := by rw [its_append, q3, r3]
        have hnd : ∀ x ∈ q ++ r, Nd d x.1 x.2 := fun x hx => by
          rcases List.mem_append.1 hx with hx | hx
          · exact q2 x hx
          · exact r2 x hx
        have hlen2 : 2 ≤ (q ++ r).length := by rw [List.length_append]; omega
        have pk := packInners (cp := cp) d (q ++ r) (by rw [hi]; exact hbd) hnd hlen2
        refine ⟨innerQ d (q ++ r), fun e => ?_, ?_, by rw [innerQ_its, hi], ?_⟩
        · have := innerQ_len d (q ++ r); rw [e] at this; simp [prt] at this; omega
        · rw [show max (d + 1) (d + 1) = d + 1 by omega]; exact innerQ_nd d _ hnd hlen2
        have hap : ones (q.map Prod.fst) ++ ones (r.map Prod.fst) = ones ((q ++ r).map Prod.fst) := by rw [ones_append, List.map_append]
        have htk : (ones (q.map Prod.fst)).take q.length = ones (q.map Prod.fst) := List.take_of_length_le (by simp)
        have hl3 : (ones ((q ++ r).map Prod.fst)).length = q.length + r.length := by simp
        have htk2 : (ones ((q ++ r).map Prod.fst)).take (q.length + r.length) = ones ((q ++ r).map Prod.fst) := List.take_of_length_le (by simp)
        have hol : (ones ((innerQ d (q ++ r)).map Prod.fst)).length = (innerQ d (q ++ r)).length := by simp
        have hot : (ones ((innerQ d (q ++ r)).map Prod.fst)).take (innerQ d (q ++ r)).length = ones ((innerQ d (q ++ r)).map Prod.fst) := List.take_of_length_le (by simp)
        rw [q4, r4]
        unfold nodeC
        generalize hD2 : ((d + 2 : Nat) : Int) = D2 at *
        generalize innerQ d (q ++ r) = z at *
        generalize ones ((q ++ r).map Prod.fst) = R3 at *
        generalize ones (q.map Prod.fst) = R1 at *
        generalize ones (r.map Prod.fst) = R2 at *
        have hR2 : ¬ R2 = [] := fun e => by rw [e] at hl2; simp at hl2; omega
        have hr0 : ¬ r.length = 0 := by omega
        have hr0' : ¬ r = [] := fun e => by rw [e] at hr0; simp at hr0
        have hD1 : ¬ D2 = 1 := by omega
        simp (disch := omega) [A_tree_join_rope_piece_rope_counts, hs, hap, htk, htk2, hl1, hl2, hl3, hol, hot, hR2, hr0, hr0', hD1, pk, hbm, dec_yes, dec_no, wrap_in, if_yes, -getElem?_pos]
      · refine ⟨[(a, la), (b, lb)], by simp, ?_, by simp [its], ?_⟩
        · intro p hp
          simp only [List.mem_cons, List.not_mem_nil, or_false] at hp
          rw [show max (d + 1) (d + 1) = d + 1 by omega]
          rcases hp with rfl | rfl
          · exact ha
          · exact hb
        rw [q4, r4]
        unfold nodeC
        generalize hD2 : ((d + 2 : Nat) : Int) = D2 at *
        generalize ones (q.map Prod.fst) = R1 at *
        generalize ones (r.map Prod.fst) = R2 at *
        have hD1 : ¬ D2 = 1 := by omega
        simp (disch := omega) [A_tree_join_rope_piece_rope_counts, hs, hl1, hl2, hD1, hbm, dec_yes, dec_no, wrap_in, if_yes, -getElem?_pos]
        rfl
theorem seqJoin (x y : PV) (la lb : List ByteArray) (hx : RepT x la) (hy : RepT y lb) (hb : Bd (la ++ lb)) : ∃ z, Run (EX cp) 87 [.st [x], .st [y]] = some (.val (.st [z])) ∧ RepT z (la ++ lb) := by
  rw [run_fn _ A_tree_Seq_rope_piece_rope_counts_Join _ rfl rfl rfl]
  rcases hx with ⟨rfl, rfl⟩ | ⟨da, hx⟩
  · refine ⟨y, ?_, hy⟩
    simp [A_tree_Seq_rope_piece_rope_counts_Join]
  rcases hy with ⟨rfl, rfl⟩ | ⟨db, hy⟩
  · refine ⟨x, ?_, .inr ⟨da, by rw [List.append_nil]; exact hx⟩⟩
    obtain ⟨k0, i0, rfl⟩ := hx.shape
    simp [A_tree_Seq_rope_piece_rope_counts_Join]
  · obtain ⟨q, q1, q2, q3, q4⟩ := treeJoin (cp := cp) (da + db + 1) da db x y la lb (by omega) hx hy hb
    obtain ⟨z, h1, h2⟩ := treeTogether (cp := cp) (max da db) q (by rw [q3]; exact hb) q2
    rw [q3] at h2
    refine ⟨z, ?_, h2⟩
    have htk : (ones (q.map Prod.fst)).take q.length = ones (q.map Prod.fst) := List.take_of_length_le (by simp)
    have hl : (ones (q.map Prod.fst)).length = q.length := by simp
    obtain ⟨k0, i0, rfl⟩ := hx.shape
    obtain ⟨k1, i1, rfl⟩ := hy.shape
    generalize nodeC k0 i0 la.length (da + 1) (cntP la) = n1 at *
    generalize nodeC k1 i1 lb.length (db + 1) (cntP lb) = n2 at *
    generalize ones (q.map Prod.fst) = R at *
    simp (disch := omega) [A_tree_Seq_rope_piece_rope_counts_Join, q4, h1, htk, hl]
end Go.Proofs.Ytomnggbideepeaa.AM

end
section
/- Trees on the small machine: split, Split. For fewer than 2^30 bytes, pieces. -/
namespace Go.Proofs.Ytomnggbideepeaa.AM
set_option linter.unusedSimpArgs false
set_option linter.unusedVariables false
open Go Go.Proofs.Ytomnggbideepeaa.U
variable {cp : List PV → Option Ret}
theorem its_take_succ (q : List (PV × List ByteArray)) (i : Nat) (h : i < q.length) : its (q.take (i + 1)) = its (q.take i) ++ q[i].2 := by
  rw [List.take_succ_eq_append_getElem h, its_snoc]
theorem its_split (q : List (PV × List ByteArray)) (i : Nat) (h : i < q.length) : its q = its (q.take i) ++ (q[i].2 ++ its (q.drop (i + 1))) := by
  conv => lhs; rw [← List.take_append_drop i q, List.drop_eq_getElem_cons h, its_append, its_cons]
set_option maxHeartbeats 2000000 in
theorem split_loop (q : List (PV × List ByteArray)) (d : Nat) (hq : ∀ p ∈ q, Nd d p.1 p.2) (A : Nat) (hA : A < (its q).length) (hb : (its q).length < 1073741824) (xs : List PV) (R4 R5 : List (List PV)) : ∀ (m i : Nat), m + i = q.length → (its (q.take i)).length ≤ A →
    ∃ k, ∃ hk : k < q.length, (its (q.take k)).length ≤ A ∧ A < (its (q.take k)).length + q[k].2.length ∧
    Code (EX cp) L_tree_node_rope_piece_rope_counts_split_0 ⟨[(0, .p (.pt (.sl 1 (ones (q.map Prod.fst)) :: xs))), (1, .p (pi ((A : Int) - (its (q.take i)).length))), (4, .mp 4 0 0), (5, .mp 5 0 0), (7, .p (pi i))], [(4, .row 87 1 false R4), (5, .row 87 1 false R5)]⟩ =
      some (.ex 1, ⟨[(0, .p (.pt (.sl 1 (ones (q.map Prod.fst)) :: xs))), (1, .p (pi ((A : Int) - (its (q.take k)).length))), (4, .mp 4 0 0), (5, .mp 5 0 0), (7, .p (pi k)), (60, .p (pb false))], [(4, .row 87 1 false R4), (5, .row 87 1 false R5)]⟩) := by
  have hcnt := nd_count q hq
  intro m
  induction m with
  | zero =>
    intro i hi h
    have : i = q.length := by omega
    subst this
    rw [List.take_length] at h; omega
  | succ m ih =>
    intro i hi h
    have h1 : i < q.length := by omega
    have hg := fst_at q i h1
    have hs := its_take_succ q i h1
    have hsl := congrArg List.length hs
    rw [List.length_append] at hsl
    obtain ⟨k0, i0, hsh⟩ := (hq q[i] (List.getElem_mem h1)).shape
    have hle : (its (q.take (i + 1))).length ≤ (its q).length := by
      conv => rhs; rw [← List.take_append_drop (i + 1) q, its_append, List.length_append]
      omega
    rw [hsh] at hg
    unfold nodeC at hg
    by_cases c : A < (its (q.take i)).length + q[i].2.length
    · refine ⟨i, h1, h, c, ?_⟩
      generalize (its (q.take i)).length = t1 at *
      generalize q[i].2 = t3 at *
      obtain ⟨a1, ha1⟩ : ∃ a1 : Int, (A : Int) - (t1 : Int) = a1 := ⟨_, rfl⟩
      rw [ha1]
      rw [L_tree_node_rope_piece_rope_counts_split_0, k_loop]
      simp (disch := omega) [hg, dec_yes, dec_no, wrap_in, -getElem?_pos]
    · obtain ⟨k, hk, e1, e2, ih'⟩ := ih (i + 1) (by omega) (by omega)
      refine ⟨k, hk, e1, e2, ?_⟩
      rw [← ih', hsl]
      generalize (its (q.take i)).length = t1 at *
      generalize q[i].2 = t3 at *
      obtain ⟨a2, ha2⟩ : ∃ a2 : Int, (A : Int) - ((t1 + t3.length : Nat) : Int) = a2 := ⟨_, rfl⟩
      obtain ⟨a1, ha1⟩ : ∃ a1 : Int, (A : Int) - (t1 : Int) = a1 := ⟨_, rfl⟩
      rw [ha2, ha1]
      have e3 : IntKind.wrap .i64 (a1 - (t3.length : Nat)) = a2 := by rw [wrap_in _ (by omega) (by omega)]; omega
      rw [L_tree_node_rope_piece_rope_counts_split_0, k_loop]
      simp (disch := omega) [hg, e3, dec_yes, dec_no, wrap_in, -getElem?_pos]
set_option maxHeartbeats 4000000 in
theorem treeSplit : ∀ (d : Nat) (x : PV) (l : List ByteArray) (a : Int), Nd d x l → Bd l →
    ∃ y z, Run (EX cp) 104 [x, pi a] = some (.val (.tu [.st [y], .st [z]])) ∧ RepT y (l.take a.toNat) ∧ RepT z (l.drop a.toNat) := by
  intro d
  induction d with
  | zero =>
    intro x l a hx hb
    have hl := hb.2
    have hne := hx.1
    obtain ⟨_, rfl⟩ := hx
    rw [run_fn _ A_tree_node_rope_piece_rope_counts_split _ rfl rfl rfl]
    by_cases c0 : a ≤ 0
    · refine ⟨.sc (.pointer none), .pt (nodeC [] l l.length 1 (cntP l)), ?_, .inl ⟨by rw [show a.toNat = 0 by omega]; rfl, rfl⟩, .inr ⟨0, by rw [show a.toNat = 0 by omega, List.drop_zero]; exact ⟨hne, rfl⟩⟩⟩
      simp (disch := omega) [A_tree_node_rope_piece_rope_counts_split, c0, dec_yes, dec_no]
    by_cases c1 : (l.length : Int) ≤ a
    · refine ⟨.pt (nodeC [] l l.length 1 (cntP l)), .sc (.pointer none), ?_, .inr ⟨0, by rw [List.take_of_length_le (by omega)]; exact ⟨hne, rfl⟩⟩, .inl ⟨List.drop_eq_nil_of_le (by omega), rfl⟩⟩
      unfold nodeC
      simp (disch := omega) [A_tree_node_rope_piece_rope_counts_split, c0, c1, dec_yes, dec_no]
    obtain ⟨k, rfl⟩ : ∃ k : Nat, a = k := ⟨a.toNat, by omega⟩
    rw [Int.toNat_natCast]
    have n1 : l.take k ≠ [] := fun e => by have h9 := congrArg List.length e; rw [List.length_take, List.length_nil] at h9; omega
    have n2 : l.drop k ≠ [] := fun e => by have h9 := congrArg List.length e; rw [List.length_drop, List.length_nil] at h9; omega
    refine ⟨_, _, ?_, .inr ⟨0, n1, rfl⟩, .inr ⟨0, n2, rfl⟩⟩
    have d1 := treeLeaf (cp := cp) (l.take k) (hb.take k)
    have d2 := treeLeaf (cp := cp) (l.drop k) (hb.drop k)
    have e1 := strs_take' l k
    have e2 := strs_drop' l k
    have hsl : (strs l).length = l.length := by simp
    have e3 : (strs (l.drop k)).take (l.length - k) = strs (l.drop k) := List.take_of_length_le (by simp)
    generalize nodeC [] (l.take k) (l.take k).length 1 (cntP (l.take k)) = m1 at *
    generalize nodeC [] (l.drop k) (l.drop k).length 1 (cntP (l.drop k)) = m2 at *
    unfold nodeC
    generalize strs (l.take k) = R1 at *
    generalize strs (l.drop k) = R2 at *
    generalize strs l = R at *
    have hk : k ≤ l.length := by omega
    simp (disch := omega) [A_tree_node_rope_piece_rope_counts_split, evp, c0, c1, e1, e2, e3, hsl, d1, d2, hk, dec_yes, dec_no]
  | succ d ih =>
    intro x l a hx hb
    have hl := hb.2
    have hx' := hx
    obtain ⟨q, q1, q2, q3, rfl⟩ := hx.kids
    rw [run_fn _ A_tree_node_rope_piece_rope_counts_split _ rfl rfl rfl]
    by_cases c0 : a ≤ 0
    · refine ⟨.sc (.pointer none), _, ?_, .inl ⟨by rw [show a.toNat = 0 by omega]; rfl, rfl⟩, .inr ⟨d + 1, by rw [show a.toNat = 0 by omega, List.drop_zero]; exact hx'⟩⟩
      simp (disch := omega) [A_tree_node_rope_piece_rope_counts_split, c0, dec_yes, dec_no]
    by_cases c1 : (l.length : Int) ≤ a
    · refine ⟨_, .sc (.pointer none), ?_, .inr ⟨d + 1, by rw [List.take_of_length_le (by omega)]; exact hx'⟩, .inl ⟨List.drop_eq_nil_of_le (by omega), rfl⟩⟩
      unfold nodeC
      simp (disch := omega) [A_tree_node_rope_piece_rope_counts_split, c0, c1, dec_yes, dec_no]
    obtain ⟨A, rfl⟩ : ∃ k : Nat, a = k := ⟨a.toNat, by omega⟩
    rw [Int.toNat_natCast]
    have hA : A < (its q).length := by rw [← q3]; omega
    obtain ⟨k, hk, e1, e2, hlp⟩ := split_loop (cp := cp) q d q2 A hA (by rw [← q3]; exact hl) [.sl 1 [], pi l.length, pi ((d + 2 : Nat) : Int), pi (cntP l).1, pi (cntP l).2.1, pi (cntP l).2.2.1, pi (cntP l).2.2.2] [[.sc (.pointer none)]] [[.sc (.pointer none)]] q.length 0 (by omega) (by simp [its])
    rw [List.take_zero, show its [] = [] from rfl, show (([] : List ByteArray).length : Int) = 0 from rfl, Int.sub_zero, show ((0 : Nat) : Int) = 0 from rfl] at hlp
    have hsp := its_split q k hk
    rw [← q3] at hsp
    have hb2 : Bd (its (q.take k) ++ (q[k].2 ++ its (q.drop (k + 1)))) := by rw [← hsp]; exact hb
    obtain ⟨y, z, r1, r2, r3⟩ := ih q[k].1 q[k].2 ((A : Int) - (its (q.take k)).length) (q2 _ (List.getElem_mem hk)) hb2.right.left
    have hto : ((A : Int) - (its (q.take k)).length).toNat = A - (its (q.take k)).length := by omega
    rw [hto] at r2 r3
    obtain ⟨u, u1, u2⟩ := treeTogether (cp := cp) d (q.take k) hb2.left fun p hp => q2 p (List.mem_of_mem_take hp)
    obtain ⟨v, v1, v2⟩ := treeTogether (cp := cp) d (q.drop (k + 1)) hb2.right.right fun p hp => q2 p (List.mem_of_mem_drop hp)
    have etk : l.take A = its (q.take k) ++ q[k].2.take (A - (its (q.take k)).length) := by
      rw [hsp, List.take_append, List.take_of_length_le (by omega), List.take_append_of_le_length (by omega)]
    have edr : l.drop A = q[k].2.drop (A - (its (q.take k)).length) ++ its (q.drop (k + 1)) := by
      rw [hsp, List.drop_append, List.drop_eq_nil_of_le (by omega), List.nil_append, List.drop_append_of_le_length (by omega)]
    obtain ⟨s, s1, s2⟩ := seqJoin (cp := cp) u y _ _ u2 r2 (by rw [← etk]; exact hb.take A)
    obtain ⟨t, t1, t2⟩ := seqJoin (cp := cp) z v _ _ r3 v2 (by rw [← edr]; exact hb.drop A)
    rw [← etk] at s2
    rw [← edr] at t2
    refine ⟨s, t, ?_, s2, t2⟩
    have hg := fst_at q k hk
    have f1 : (ones (q.map Prod.fst)).take k = ones ((q.take k).map Prod.fst) := by rw [ones_take, List.map_take]
    have f2 : (ones (q.map Prod.fst)).drop (k + 1) = ones ((q.drop (k + 1)).map Prod.fst) := by rw [ones_drop, List.map_drop]
    have f3 : (ones (q.map Prod.fst)).length = q.length := by simp
    have f4 : (ones ((q.drop (k + 1)).map Prod.fst)).take (q.length - (k + 1)) = ones ((q.drop (k + 1)).map Prod.fst) := List.take_of_length_le (by simp)
    have hcnt := nd_count q q2
    rw [← q3] at hcnt
    unfold nodeC
    generalize hD2 : ((d + 2 : Nat) : Int) = D2 at *
    generalize (A : Int) - (its (q.take k)).length = a2 at *
    generalize ones ((q.take k).map Prod.fst) = R1 at *
    generalize ones ((q.drop (k + 1)).map Prod.fst) = R2 at *
    generalize ones (q.map Prod.fst) = R at *
    have hk1 : k ≤ q.length := by omega
    have hk2 : k + 1 ≤ q.length := by omega
    have hD1 : ¬ D2 = 1 := by omega
    simp (disch := omega) [A_tree_node_rope_piece_rope_counts_split, c0, c1, hD1, hlp, hg, r1, f1, f2, f3, f4, u1, v1, s1, t1, hk1, hk2, dec_yes, dec_no, wrap_in, if_yes, -getElem?_pos]
theorem seqSplit (x : PV) (l : List ByteArray) (a : Int) (hx : RepT x l) (hb : Bd l) : ∃ y z, Run (EX cp) 85 [.st [x], pi a] = some (.val (.tu [.st [y], .st [z]])) ∧ RepT y (l.take a.toNat) ∧ RepT z (l.drop a.toNat) := by
  rw [run_fn _ A_tree_Seq_rope_piece_rope_counts_Split _ rfl rfl rfl]
  rcases hx with ⟨rfl, rfl⟩ | ⟨d, hx⟩
  · refine ⟨.sc (.pointer none), .sc (.pointer none), ?_, .inl ⟨by simp, rfl⟩, .inl ⟨by simp, rfl⟩⟩
    simp [A_tree_Seq_rope_piece_rope_counts_Split]
  · obtain ⟨y, z, h1, h2, h3⟩ := treeSplit (cp := cp) d x l a hx hb
    refine ⟨y, z, ?_, h2, h3⟩
    obtain ⟨k0, i0, rfl⟩ := hx.shape
    generalize nodeC k0 i0 l.length (d + 1) (cntP l) = n1 at *
    simp [A_tree_Seq_rope_piece_rope_counts_Split, h1]
end Go.Proofs.Ytomnggbideepeaa.AM

end
section
/- Trees on the small machine: At, Seek. For fewer than 2^30 bytes, pieces. -/
namespace Go.Proofs.Ytomnggbideepeaa.AM
set_option linter.unusedSimpArgs false
set_option linter.unusedVariables false
open Go Go.Proofs.Ytomnggbideepeaa.U
variable {cp : List PV → Option Ret}
set_option maxHeartbeats 2000000 in
theorem at_kids (q : List (PV × List ByteArray)) (d : Nat) (hq : ∀ p ∈ q, Nd d p.1 p.2) (A : Nat) (hA : A < (its q).length) (hb : (its q).length < 1073741824) (x : PV) : ∀ (m i : Nat), m + i = q.length → (its (q.take i)).length ≤ A →
    ∃ k, ∃ hk : k < q.length, (its (q.take k)).length ≤ A ∧ A < (its (q.take k)).length + q[k].2.length ∧
    Code (EX cp) L_tree_Seq_rope_piece_rope_counts_At_0 ⟨[(1, .p (pi ((A : Int) - (its (q.take i)).length))), (5, .p x), (18, .p (.sl 1 (ones (q.map Prod.fst)))), (19, .p (pi q.length)), (20, .p (pi i))], []⟩ =
      some (.ex 1, ⟨[(1, .p (pi ((A : Int) - (its (q.take k)).length))), (5, .p q[k].1)], []⟩) := by
  have hcnt := nd_count q hq
  intro m
  induction m with
  | zero =>
    intro i hi h
    have : i = q.length := by omega
    subst this
    rw [List.take_length] at h; omega
  | succ m ih =>
    intro i hi h
    have h1 : i < q.length := by omega
    have hg := fst_at q i h1
    have hs := its_take_succ q i h1
    have hsl := congrArg List.length hs
    rw [List.length_append] at hsl
    obtain ⟨k0, i0, hsh⟩ := (hq q[i] (List.getElem_mem h1)).shape
    have hle : (its (q.take (i + 1))).length ≤ (its q).length := by
      conv => rhs; rw [← List.take_append_drop (i + 1) q, its_append, List.length_append]
      omega
    by_cases c : A < (its (q.take i)).length + q[i].2.length
    · refine ⟨i, h1, h, c, ?_⟩
      rw [hsh] at hg ⊢
      unfold nodeC at hg ⊢
      generalize (its (q.take i)).length = t1 at *
      generalize q[i].2 = t3 at *
      obtain ⟨a1, ha1⟩ : ∃ a1 : Int, (A : Int) - (t1 : Int) = a1 := ⟨_, rfl⟩
      rw [ha1, L_tree_Seq_rope_piece_rope_counts_At_0, k_loop]
      simp (disch := omega) [h1, hg, dec_yes, dec_no, wrap_in, -getElem?_pos]
    · obtain ⟨k, hk, e1, e2, ih'⟩ := ih (i + 1) (by omega) (by omega)
      refine ⟨k, hk, e1, e2, ?_⟩
      rw [hsh] at hg
      unfold nodeC at hg
      rw [← ih', hsl]
      generalize (its (q.take i)).length = t1 at *
      generalize q[i].2 = t3 at *
      obtain ⟨a2, ha2⟩ : ∃ a2 : Int, (A : Int) - ((t1 + t3.length : Nat) : Int) = a2 := ⟨_, rfl⟩
      obtain ⟨a1, ha1⟩ : ∃ a1 : Int, (A : Int) - (t1 : Int) = a1 := ⟨_, rfl⟩
      rw [ha2, ha1]
      have e3 : IntKind.wrap .i64 (a1 - (t3.length : Nat)) = a2 := by rw [wrap_in _ (by omega) (by omega)]; omega
      rw [L_tree_Seq_rope_piece_rope_counts_At_0, k_loop]
      simp (disch := omega) [h1, hg, e3, dec_yes, dec_no, wrap_in, -getElem?_pos]
theorem at_nodes : ∀ (d : Nat) (x : PV) (l : List ByteArray) (A : Nat), Nd d x l → Bd l → A < l.length →
    ∃ (B : Nat) (m : List ByteArray), m[B]? = l[A]? ∧ B < m.length ∧ m.length < 1073741824 ∧
    Code (EX cp) L_tree_Seq_rope_piece_rope_counts_At_1 ⟨[(1, .p (pi A)), (5, .p x)], []⟩ = some (.ex 0, ⟨[(1, .p (pi B)), (5, .p (.pt (nodeC [] m m.length 1 (cntP m)))), (14, .p (pb false))], []⟩) := by
  intro d
  induction d with
  | zero =>
    intro x l A hx hb hA
    obtain ⟨_, rfl⟩ := hx
    refine ⟨A, l, rfl, hA, hb.2, ?_⟩
    unfold nodeC
    rw [L_tree_Seq_rope_piece_rope_counts_At_1, k_loop]
    simp
  | succ d ih =>
    intro x l A hx hb hA
    have hl := hb.2
    have hdp := hx.deep
    obtain ⟨q, q1, q2, q3, rfl⟩ := hx.kids
    obtain ⟨k, hk, e1, e2, h⟩ := at_kids (cp := cp) q d q2 A (by rw [← q3]; exact hA) (by rw [← q3]; exact hl) (.pt (nodeC (q.map Prod.fst) [] l.length (d + 2) (cntP l))) q.length 0 (by omega) (by simp [its])
    rw [List.take_zero, show its [] = [] from rfl, show (([] : List ByteArray).length : Int) = 0 from rfl, Int.sub_zero, show ((0 : Nat) : Int) = 0 from rfl] at h
    have hsp := its_split q k hk
    rw [← q3] at hsp
    obtain ⟨A2, hA2⟩ : ∃ A2 : Nat, A = (its (q.take k)).length + A2 := ⟨A - (its (q.take k)).length, by omega⟩
    obtain ⟨B, m, f1, f2, f3, f4⟩ := ih q[k].1 q[k].2 A2 (q2 _ (List.getElem_mem hk)) (by rw [hsp] at hb; exact hb.right.left) (by omega)
    have hcnt := nd_count q q2
    rw [← q3] at hcnt
    refine ⟨B, m, ?_, f2, f3, ?_⟩
    · rw [f1, hsp, List.getElem?_append_right (by omega), hA2, Nat.add_sub_cancel_left, List.getElem?_append_left (by omega)]
    · have e3 : (A : Int) - (its (q.take k)).length = A2 := by omega
      rw [e3] at h
      rw [← f4]
      unfold nodeC at h ⊢
      rw [strs_nil] at h
      generalize hD2 : ((d + 2 : Nat) : Int) = D2 at *
      have hon : (ones (q.map Prod.fst)).length = q.length := by simp
      conv => lhs; rw [L_tree_Seq_rope_piece_rope_counts_At_1, k_loop]
      simp (disch := omega) [hon, h, dec_yes, dec_no]
      rfl
theorem seqAt (x : PV) (l : List ByteArray) (hx : RepT x l) (hb : Bd l) (k : Nat) (hk : k < l.length) : Run (EX cp) 67 [.st [x], pi k] = some (.val (.sc (.string l[k]))) := by
  rw [run_fn _ A_tree_Seq_rope_piece_rope_counts_At _ rfl rfl rfl]
  rcases hx with ⟨rfl, rfl⟩ | ⟨d, hx⟩
  · simp at hk
  · obtain ⟨B, m, h1, h2, h3, h4⟩ := at_nodes (cp := cp) d x l k hx hb hk
    have hg := strs_at m B h2
    rw [List.getElem?_eq_getElem h2, List.getElem?_eq_getElem hk] at h1
    rw [Option.some.inj h1] at hg
    unfold nodeC at h4
    simp (disch := omega) [A_tree_Seq_rope_piece_rope_counts_At, h4, hg, -getElem?_pos]
/-- The first item up to which, and with which, the counts are told. -/
def seekL (p : C4 → Bool) : List ByteArray → C4 → Nat → Nat × C4
  | [], c, i => (i, c)
  | x :: l, c, i => if p (add4 c (cntS x)) = true then (i, c) else seekL p l (add4 c (cntS x)) (i + 1)
/-- Further on it stays told. -/
def Mono (p : C4 → Bool) : Prop := ∀ (c : C4) (l : List ByteArray), p c = true → p (add4 c (cntP l)) = true
theorem Mono.app {p : C4 → Bool} (h : Mono p) (c : C4) (a b : List ByteArray) (ha : p (add4 c (cntP a)) = true) : p (add4 c (cntP (a ++ b))) = true := by
  rw [cntP_append, ← add4_assoc]; exact h _ b ha
theorem seekL_skip {p : C4 → Bool} (h : Mono p) : ∀ (a b : List ByteArray) (c : C4) (i : Nat), p (add4 c (cntP a)) = false → seekL p (a ++ b) c i = seekL p b (add4 c (cntP a)) (i + a.length)
  | [], b, c, i, _ => by rw [List.nil_append, cntP, add4_zero]; rfl
  | x :: a, b, c, i, hp => by
    have h1 : p (add4 c (cntS x)) = false := by
      cases hq : p (add4 c (cntS x)) with
      | false => rfl
      | true =>
        have := h _ a hq
        rw [add4_assoc] at this
        rw [cntP] at hp
        rw [this] at hp; simp at hp
    rw [List.cons_append, seekL, h1, if_neg (by simp), seekL_skip h a b _ _ (by rw [cntP, ← add4_assoc] at hp; exact hp), cntP, ← add4_assoc, List.length_cons]
    congr 1; omega
theorem seekL_in {p : C4 → Bool} (h : Mono p) : ∀ (a b : List ByteArray) (c : C4) (i : Nat), p (add4 c (cntP a)) = true → p c = false → seekL p (a ++ b) c i = seekL p a c i
  | [], b, c, i, hp, hc => by rw [cntP, add4_zero, hc] at hp; simp at hp
  | x :: a, b, c, i, hp, hc => by
    rw [List.cons_append, seekL, seekL]
    by_cases h1 : p (add4 c (cntS x)) = true
    · rw [if_pos h1, if_pos h1]
    · rw [if_neg h1, if_neg h1]
      exact seekL_in h a b _ _ (by rw [cntP, ← add4_assoc] at hp; exact hp) (by simpa using h1)
theorem seekL_none {p : C4 → Bool} (h : Mono p) (a : List ByteArray) (c : C4) (i : Nat) (hp : p (add4 c (cntP a)) = false) : seekL p a c i = (i + a.length, add4 c (cntP a)) := by
  have := seekL_skip h a [] c i hp
  rw [List.append_nil] at this
  rw [this]; rfl
end Go.Proofs.Ytomnggbideepeaa.AM

end
