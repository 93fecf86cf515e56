/- Package lines on the small machine: Pieces, Find; law 6's own pieces and find. For texts of fewer than 2^28 bytes. -/
import Derived.Test.YtomnggbideepeaaRN2
import Derived.Test.YtomnggbideepeaaXB
namespace Go.Proofs.Ytomnggbideepeaa.AM
set_option linter.unusedSimpArgs false
set_option linter.unusedVariables false
open Go Go.Proofs.Ytomnggbideepeaa.U
theorem cpB_all : CpAll cpB := by
  intro x l h hb
  simp [cpB, allF_rep h hb]
/-- What Pieces tells of a rope. -/
def piecesE (s : ByteArray) (a b m : Int) : List ByteArray × Int :=
  if chkR s a b ≠ 0 then ([], chkR s a b) else if m < 4 then ([], 12) else (piecesM m.toNat (s.extract a.toNat b.toNat), 0)
theorem linesPieces {r : PV} {s : ByteArray} (h : Rp r s) (hs : s.size < 268435456) (a b m : Int) : Run EB 54 [r, pi a, pi b, pi m] = some (.val (.tu [.sl 1 (strs (piecesE s a b m).1), pi (piecesE s a b m).2])) := by
  have d1 := ropeSlice (cp := cpA) h a b
  rw [show EX cpA = EA from rfl] at d1
  obtain ⟨x, P, rfl, p1, p2, p3, p4⟩ := h
  rw [show EB = EX cpB from rfl, run_pieces]
  show (if 54 = 54 then piecesAns (.pt [x]) a b m else none) = _
  rw [if_pos rfl]
  unfold piecesAns piecesE
  rcases d1 with ⟨h1, d1⟩ | ⟨h1, z, hz, d1⟩
  · rw [d1, if_pos h1]
    dsimp only
    rw [if_pos h1]; rfl
  · rw [d1, if_neg (by omega)]
    dsimp only
    rw [if_neg (by omega)]
    by_cases c : m < 4
    · rw [if_pos c, if_pos c]; rfl
    · rw [if_neg c, if_neg c]
      have d2 := ropeString cpA_all hz
      rw [show EX cpA = EA from rfl] at d2
      have hle : (s.extract a.toNat b.toNat).size ≤ s.size := by rw [← L_len, L_extract, List.length_take, List.length_drop, L_len]; omega
      rw [d2]
      dsimp only
      rw [if_pos ⟨hz.val, by omega⟩]
/-- Where a text is found. -/
def findP (s t : ByteArray) (from_ : Int) : Int :=
  if t = ⟨#[]⟩ ∨ (s.size : Int) < (if from_ < 0 then 0 else from_) then -1
  else if 0 ≤ Lib.index ((L s).drop (if from_ < 0 then 0 else from_).toNat) (L t) then (if from_ < 0 then 0 else from_) + Lib.index ((L s).drop (if from_ < 0 then 0 else from_).toNat) (L t) else -1
theorem linesFind {r : PV} {s : ByteArray} (h : Rp r s) (hs : s.size < 268435456) (t : ByteArray) (k : Int) : Run EB 52 [r, .sc (.string t), pi k] = some (.val (pi (findP s t k))) := by
  have d1 := linesText (cp := cpB) cpB_all h
  rw [show EB = EX cpB from rfl, run_fn _ A_lines_Find _ rfl rfl rfl]
  unfold findP
  generalize hF : (if k < 0 then 0 else k) = F
  have hF0 : 0 ≤ F := by split at hF <;> omega
  have hmx : (if k < 0 then (0 : Int) else k) = F := hF
  by_cases c1 : t = ⟨#[]⟩
  · rw [if_pos (.inl c1)]
    simp (disch := omega) [A_lines_Find, d1, hmx, c1, dec_yes, dec_no]
  by_cases c2 : (s.size : Int) < F
  · rw [if_pos (.inr c2)]
    simp (disch := omega) [A_lines_Find, d1, hmx, c1, c2, dec_yes, dec_no]
  rw [if_neg (by simp [c1, c2])]
  obtain ⟨p, rfl⟩ : ∃ p : Nat, F = p := ⟨F.toNat, by omega⟩
  rw [Int.toNat_natCast]
  have hps : p ≤ s.size := by omega
  have hex : (s.extract p s.size).size ≤ s.size := by rw [ex_drop_size]; omega
  have d2 : Run (EX cpB) 78 [.sc (.string (s.extract p s.size)), .sc (.string t)] = some (.val (pi (Lib.index ((L s).drop p) (L t)))) := by
    rw [run_index]
    show (if 78 = 78 ∧ (s.extract p s.size).size < 4294967281 then some (Ret.val (pi (Lib.index (s.extract p s.size).data.toList t.data.toList))) else none) = _
    rw [if_pos ⟨rfl, by omega⟩, ← ex_drop]; rfl
  have hr := Lib.index_room ((L s).drop p) (L t)
  have hge := Lib.index_ge ((L s).drop p) (L t)
  rw [List.length_drop, L_len, L_len] at hr
  generalize Lib.index ((L s).drop p) (L t) = i at *
  by_cases c3 : 0 ≤ i
  · have := hr c3
    have w1 : IntKind.wrap .i64 ((p : Int) + i) = (p : Int) + i := wrap_in _ (by omega) (by omega)
    rw [if_pos c3]
    simp (disch := omega) [A_lines_Find, d1, d2, hmx, c1, c2, c3, hps, w1, dec_yes, dec_no]
  · rw [if_neg c3]
    simp (disch := omega) [A_lines_Find, d1, d2, hmx, c1, c2, c3, hps, dec_yes, dec_no]
/-! ### law 6's own words -/
theorem backN_at (s : List UInt8) (e : Nat) (he : ∀ b, s[e]? = some b → ¬ cont b) : ∀ n, e ≤ n → n < s.length → (∀ j b, e < j → j ≤ n → s[j]? = some b → cont b) → backN s n = e := by
  intro n
  induction n with
  | zero => intro h _ _; rw [backN]; omega
  | succ n ih =>
    intro h hn hc
    have hg : s[n + 1]? = some s[n + 1] := List.getElem?_eq_getElem hn
    by_cases c : e = n + 1
    · rw [backN, hg]
      dsimp only
      rw [if_neg (he _ (by rw [c]; exact hg))]; exact c.symm
    · rw [backN, hg]
      dsimp only
      rw [if_pos (hc (n + 1) _ (by omega) (by omega) hg)]
      exact ih (by omega) (by omega) fun j b h1 h2 => hc j b h1 (by omega)
/-- As law 6 cuts pieces: code point by code point. -/
def greedy (m : Nat) : List Int → ByteArray → List ByteArray → List ByteArray
  | [], t, acc => if t = ⟨#[]⟩ then acc else acc ++ [t]
  | v :: vs, t, acc => if m < t.size + (chS v).size then greedy m vs (⟨#[]⟩ ++ chS v) (acc ++ [t]) else greedy m vs (t ++ chS v) acc
theorem empty_app (t : ByteArray) : ⟨#[]⟩ ++ t = t := L_inj (by rw [L_append]; rfl)
theorem greedy_eq (m : Nat) (hm : 4 ≤ m) : ∀ (vs : List Int) (t : ByteArray) (acc : List ByteArray), (∀ v ∈ vs, sc v) → valid (L t) = true → t.size ≤ m → greedy m vs t acc = acc ++ piecesM m (mkS (L t ++ encs vs)) := by
  intro vs
  induction vs with
  | nil =>
    intro t acc _ hv ht
    rw [greedy, encs_nil, List.append_nil, mkS_L]
    by_cases c : t = ⟨#[]⟩
    · rw [if_pos c, piecesM_nil m t (by rw [c]; rfl), List.append_nil]
    · have h0 : 0 < t.size := by
        rcases Nat.eq_zero_or_pos t.size with h | h
        · exact absurd (empty_eq h) c
        · exact h
      have hcut : cutM m t = t.size := by unfold cutM; rw [if_pos ht]
      rw [if_neg c, piecesM_cons m hm t hv h0, hcut, ex_whole, piecesM_nil m (t.extract t.size t.size) (by rw [ex_drop_size]; omega)]
  | cons v vs ih =>
    intro t acc hs hv ht
    have hsv := hs v (by simp)
    have hsr : ∀ u ∈ vs, sc u := fun u hu => hs u (by simp [hu])
    have hLc : L (chS v) = enc v := L_mk _
    have hcz : (chS v).size = (enc v).length := by rw [← L_len, hLc]
    have hen := enc_len v
    have hvc : valid (L (chS v)) = true := by
      have := valid_encs' [v] (by simpa using hsv)
      rw [hLc]; simpa [encs] using this
    rw [greedy]
    by_cases c : m < t.size + (chS v).size
    · rw [if_pos c, empty_app, ih (chS v) (acc ++ [t]) hsr hvc (by omega), hLc, List.append_assoc]
      congr 1
      have hL : L (mkS (L t ++ encs (v :: vs))) = L t ++ (enc v ++ encs vs) := by rw [L_mkS]; rfl
      have hval : valid (L (mkS (L t ++ encs (v :: vs)))) = true := by
        rw [hL, valid_append hv]
        have := valid_encs' (v :: vs) hs
        rwa [encs_cons] at this
      have hz : (mkS (L t ++ encs (v :: vs))).size = t.size + ((enc v).length + (encs vs).length) := by rw [← L_len, hL, List.length_append, List.length_append, L_len]
      obtain ⟨a, tl, he, ha, htl⟩ := enc_shape v hsv
      have hcut : cutM m (mkS (L t ++ encs (v :: vs))) = t.size := by
        unfold cutM
        rw [if_neg (by omega), hL]
        refine backN_at _ _ (fun b hb => ?_) m ht (by rw [List.length_append, List.length_append, L_len]; omega) fun j b h1 h2 hb => ?_
        · rw [List.getElem?_append_right (by rw [L_len]; exact Nat.le_refl _), L_len, Nat.sub_self, he] at hb
          simp only [List.cons_append, List.getElem?_cons_zero, Option.some.injEq] at hb
          rw [← hb]; exact ha
        · have hlt : j - t.size < (enc v).length := by omega
          rw [List.getElem?_append_right (by rw [L_len]; omega), L_len, List.getElem?_append_left hlt, he] at hb
          obtain ⟨q, hq⟩ : ∃ q, j - t.size = q + 1 := ⟨j - t.size - 1, by omega⟩
          rw [hq, List.getElem?_cons_succ] at hb
          exact htl b (List.mem_of_getElem? hb)
      rw [piecesM_cons m hm _ hval (by omega), hcut]
      have e1 : (mkS (L t ++ encs (v :: vs))).extract 0 t.size = t := L_inj (by
        rw [ex_take, hL, ← L_len, List.take_left])
      have e2 : (mkS (L t ++ encs (v :: vs))).extract t.size (mkS (L t ++ encs (v :: vs))).size = mkS (enc v ++ encs vs) := L_inj (by
        rw [ex_drop, hL, L_mkS, ← L_len, List.drop_left])
      rw [e1, e2]; rfl
    · have hvt : valid (L (t ++ chS v)) = true := by rw [L_append, valid_append hv]; exact hvc
      rw [if_neg c, ih (t ++ chS v) acc hsr hvt (by rw [ByteArray.size_append]; omega), L_append, hLc, encs_cons, List.append_assoc]
end Go.Proofs.Ytomnggbideepeaa.AM
