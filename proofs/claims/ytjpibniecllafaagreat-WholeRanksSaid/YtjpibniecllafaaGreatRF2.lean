/- Made by pack.py: RF2. No condition but what it says. -/
import Derived.Test.YtjpibniecllafaaGreatP15
set_option linter.unusedSimpArgs false
set_option linter.unusedVariables false
section
namespace Go.Proofs.YtjpibniecllafaaGreat.AM
open Go Go.Proofs.YtjpibniecllafaaGreat.U
theorem Th6 : ∀ n : Nat, n < 128 → enc (n : Int) = [UInt8.ofNat n] := by decide +kernel
theorem To3 : ∀ n : Nat, n < 128 → sc (n : Int) := by decide +kernel
theorem Tql (n : Nat) (h : n < 128) (r : List UInt8) : points (UInt8.ofNat n :: r) = (n : Int) :: points r := by
 have := Tby (To3 n h) r
 rw [Th6 n h] at this; exact this
theorem Th7 (n : Nat) (h : n < 128) (r : List UInt8) : valid (UInt8.ofNat n :: r) = valid r := by
 have := Tck (To3 n h) r
 rw [Th6 n h] at this; exact this
theorem Tf7 (n : Nat) (h : n < 128) (r : List UInt8) (rv gr rk : Int) : newAts (UInt8.ofNat n :: r) rv gr rk = ⟨⟨#[UInt8.ofNat n]⟩, rv, gr, rk, []⟩ :: newAts r rv gr rk := by
 unfold newAts
 rw [Tql n h, List.map_cons]
 unfold chS
 rw [Th6 n h]
theorem Tjb (rv gr rk : Int) : newAts [] rv gr rk = [] := by unfold newAts; rw [Ta1]; rfl
namespace Rk
def chr (i : Nat) : ByteArray := ⟨#[UInt8.ofNat (48 + i)]⟩
theorem L_chr (i : Nat) : L (chr i) = [UInt8.ofNat (48 + i)] := rfl
def rkOf (rs : List UInt8) (j : Nat) : Nat := (rs.getD j 0).toNat % 4
def mid (rs : List UInt8) (j : Nat) : At := ⟨chr j, 2 + j, 2 + j, rkOf rs j, []⟩
def br : At := ⟨⟨#[91]⟩, 1, 1, 0, []⟩
def bl : At := ⟨⟨#[93]⟩, 1, 1, 0, []⟩
def B0 : ByteArray := ⟨#[91, 93]⟩
def rl (rs : List UInt8) (row : List Nat) : List At := br :: (row.map (mid rs) ++ [bl])
def kOf (rs : List UInt8) (r : Nat) : List Nat → Nat
 | [] => 0
 | j :: row => if rkOf rs j ≤ r then kOf rs r row + 1 else 0
def rowOf (rs : List UInt8) : Nat → List Nat
 | 0 => []
 | i + 1 => (rowOf rs i).take (kOf rs (rkOf rs i) (rowOf rs i)) ++ [i] ++ (rowOf rs i).drop (kOf rs (rkOf rs i) (rowOf rs i))
def gs : Nat → List Int
 | 0 => [1]
 | i + 1 => insS (2 + i) (gs i)
def rE (rs : List UInt8) (i : Nat) : Eng := ⟨rl rs (rowOf rs i), List.replicate (i + 2) [], 0, gs i, []⟩
theorem To4 (rs : List UInt8) (r : Nat) : ∀ row, kOf rs r row ≤ row.length
 | [] => Nat.le_refl _
 | j :: row => by
  have := To4 rs r row
  unfold kOf
  split
  · simp; omega
  · omega
theorem Td8 (rs : List UInt8) : ∀ i, (rowOf rs i).length = i
 | 0 => rfl
 | i + 1 => by
  have := To4 rs (rkOf rs i) (rowOf rs i)
  have h := Td8 rs i
  unfold rowOf
  simp only [List.length_append, List.length_take, List.length_drop, List.length_singleton]
  omega
theorem Tfj (rs : List UInt8) : ∀ i, ∀ j ∈ rowOf rs i, j < i
 | 0, j, h => by simp [rowOf] at h
 | i + 1, j, h => by
  unfold rowOf at h
  simp only [List.mem_append, List.mem_singleton] at h
  rcases h with (h | h) | h
  · have := Tfj rs i j (List.mem_of_mem_take h); omega
  · omega
  · have := Tfj rs i j (List.mem_of_mem_drop h); omega
theorem vis0 (t : ByteArray) (rv gr rk rev : Int) : (⟨t, rv, gr, rk, []⟩ : At).vis rev [] = decide (rv ≤ rev) := by
 unfold At.vis holdsF; simp
theorem To5 (rs : List UInt8) (rev : Int) : ∀ row : List Nat, (∀ j ∈ row, ((2 + j : Nat) : Int) ≤ rev) → txtF rev [] (row.map (mid rs)) = row.map fun j => UInt8.ofNat (48 + j)
 | [], _ => rfl
 | j :: row, h => by
  have hj := h j (by simp)
  rw [List.map_cons, txtF, if_pos (by unfold mid; rw [vis0]; exact decide_eq_true (by omega)), To5 rs rev row fun x hx => h x (by simp [hx])]
  rfl
theorem Twa (rs : List UInt8) (row : List Nat) : txtF 1 [] (row.map (mid rs)) = [] := by
 refine Thy _ _ _ fun a ha => ?_
 obtain ⟨j, _, rfl⟩ := List.mem_map.1 ha
 unfold mid
 rw [vis0]; exact decide_eq_false (by omega)
theorem Tw1 (rs : List UInt8) (row : List Nat) (rev : Int) (h : 1 ≤ rev) : txtF rev [] (rl rs row) = 91 :: (txtF rev [] (row.map (mid rs)) ++ [93]) := by
 unfold rl
 rw [txtF, if_pos (by unfold br; rw [vis0]; exact decide_eq_true h), Tay]
 have : txtF rev [] [bl] = [93] := by
  rw [txtF, if_pos (by unfold bl; rw [vis0]; exact decide_eq_true h)]; rfl
 rw [this]; rfl
theorem To6 (rs : List UInt8) (row : List Nat) : txtS 1 [] (rl rs row) = B0 := by
 apply L_inj
 rw [show L (txtS 1 [] (rl rs row)) = _ from L_mk _, Tw1 rs row 1 (Int.le_refl _), Twa]
 rfl
theorem head_txt (rs : List UInt8) (i : Nat) : txtS ((i : Int) + 1) [] (rl rs (rowOf rs i)) = ⟨(91 :: ((rowOf rs i).map (fun j => UInt8.ofNat (48 + j)) ++ [93])).toArray⟩ := by
 apply L_inj
 rw [show L (txtS _ [] (rl rs (rowOf rs i))) = _ from L_mk _, Tw1 rs _ _ (by omega), To5 rs _ _ fun j hj => by have := Tfj rs i j hj; omega, L_mk]
theorem Tkn : valid (L B0) = true := by
 show valid (UInt8.ofNat 91 :: UInt8.ofNat 93 :: []) = true
 rw [Th7 91 (by omega), Th7 93 (by omega), Tbm]
theorem Ttf : edge B0 1 = true := by
 unfold edge
 rw [Tkn]
 decide
theorem T0u (rv gr rk : Int) : newAts (L B0) rv gr rk = [⟨⟨#[91]⟩, rv, gr, rk, []⟩, ⟨⟨#[93]⟩, rv, gr, rk, []⟩] := by
 show newAts (UInt8.ofNat 91 :: UInt8.ofNat 93 :: []) rv gr rk = _
 rw [Tf7 91 (by omega), Tf7 93 (by omega), Tjb]
 rfl
theorem Tzo (i : Nat) (h : i < 80) (rv gr rk : Int) : newAts (L (chr i)) rv gr rk = [⟨chr i, rv, gr, rk, []⟩] := by
 rw [L_chr, Tf7 (48 + i) (by omega), Tjb]
 rfl
theorem chk0 (i : Nat) (h : i < 80) : chk B0 [⟨1, 1, chr i⟩] = 0 :=
 Ttc _ _ Tkn (show (0 : Int) ≤ 1 by omega) (show (1 : Int) ≤ 1 by omega) (show (1 : Int) ≤ 2 by omega) Ttf Ttf (by show valid (L (chr i)) = true; rw [L_chr, Th7 (48 + i) (by omega), Tbm]) (by decide) (by show 1 ≤ 10000; omega)
theorem skip (rs : List UInt8) (r : Nat) : ∀ row : List Nat, skN 1 r (row.map (mid rs) ++ [bl]) = kOf rs r row
 | [] => by
  show skN 1 r [bl] = 0
  rw [skN, if_neg]
  unfold bl; simp
 | j :: row => by
  rw [List.map_cons, List.cons_append, skN, kOf, skip rs r row]
  have e : ((1 : Int) < (mid rs j).rv ∧ (mid rs j).rk ≤ (r : Int)) ↔ rkOf rs j ≤ r := by
   unfold mid
   simp only
   omega
  by_cases c : rkOf rs j ≤ r
  · rw [if_pos (e.2 c), if_pos c]
  · rw [if_neg (fun h => c (e.1 h)), if_neg c]
theorem upon (rs : List UInt8) (i : Nat) (h : i < 80) : uponF (rl rs (rowOf rs i)) 1 [] [⟨1, 1, chr i⟩] (2 + i) (2 + i) (rkOf rs i) = rl rs (rowOf rs (i + 1)) := by
 have hsp : spotF 1 [] (rkOf rs i) (rl rs (rowOf rs i)) (places 1 [] (rl rs (rowOf rs i))) 1 = 1 + kOf rs (rkOf rs i) (rowOf rs i) := by
  have := Tm5 1 [] (rkOf rs i) [br] ((rowOf rs i).map (mid rs) ++ [bl]) (fun a ha => by
   rw [List.mem_singleton] at ha; subst ha
   exact ⟨by unfold br; rw [vis0]; rfl, by decide⟩) 1 (by
   rw [txtF, if_pos (by unfold br; rw [vis0]; rfl)]; rfl)
  rw [skip] at this
  exact this
 rw [To2 _ 1 [] 1 (chr i) _ _ _ (by rw [To6]; exact chk0 i h) _ hsp, Tzo i h]
 have hk := To4 rs (rkOf rs i) (rowOf rs i)
 rw [rowOf]
 generalize kOf rs (rkOf rs i) (rowOf rs i) = k at *
 unfold rl
 rw [show 1 + k = k + 1 by omega, List.take_succ_cons, List.drop_succ_cons, List.take_append_of_le_length (by simpa using hk), List.drop_append_of_le_length (by simpa using hk)]
 simp [mid, List.map_take, List.map_drop]
theorem ok0 : EOk (Eng.new.edit 0 1 0 [⟨0, 0, B0⟩]).2.2 := EOk.edit EOk.new _ _ _ _
theorem first (rs : List UInt8) : Eng.new.edit 0 1 0 [⟨0, 0, B0⟩] = (1, 0, rE rs 0) := by
 obtain ⟨c0, c1⟩ := Tja B0 1 1 0 Tkn (by decide)
 rw [T0u] at c1
 exact Eng.edit_good Eng.new 0 1 0 _ _ (by simp [Eng.new]) c0 (by simp [Eng.new]) (by simp [Eng.new]) (by omega) c1 (show 2 ≤ 4000 by omega) (by
  show (headT (rl rs []) (List.replicate 2 []) 0).size ≤ 20000
  rw [Tbw]
  have := head_txt rs 0
  rw [show ((2 : Nat) : Int) - 1 = ((0 : Nat) : Int) + 1 by omega]
  show (txtS _ [] (rl rs (rowOf rs 0))).size ≤ 20000
  rw [this, Tca]; simp [rowOf])
theorem step (rs : List UInt8) (i : Nat) (h : i < 20) : (rE rs i).edit 1 (2 + i) (rkOf rs i) [⟨1, 1, chr i⟩] = (2 + (i : Int), 0, rE rs (i + 1)) := by
 have hr : rkOf rs i < 4 := Nat.mod_lt _ (by omega)
 have hs : (headT (rl rs (rowOf rs (i + 1))) (List.replicate (i + 2) [] ++ [lastS (List.replicate (i + 2) [])]) 0).size ≤ 20000 := by
  rw [Tb5, Tc0, Tbw, show ((i + 2 + 1 : Nat) : Int) - 1 = ((i + 1 : Nat) : Int) + 1 by omega, head_txt, Tca]
  simp [Td8]; omega
 have e0 : (rE rs i).fl + ((rE rs i).U.length : Int) = 2 + i := by simp [rE]; omega
 have := Eng.edit_good (rE rs i) 1 (2 + i) (rkOf rs i) [⟨1, 1, chr i⟩] (rl rs (rowOf rs (i + 1))) (by simp [rE]; omega) (by
  show chk (txtS 1 (undU (List.replicate (i + 2) []) 0 1) (rl rs (rowOf rs i))) _ = 0
  rw [Tfi, To6]; exact chk0 i (by omega)) ⟨by simp [rE], by omega, by omega⟩ (by omega) (by omega) (by
  show uponF (rl rs (rowOf rs i)) 1 (undU (List.replicate (i + 2) []) 0 1) _ ((rE rs i).fl + ((rE rs i).U.length : Int)) _ _ = _
  rw [Tfi, e0]
  exact upon rs i (by omega)) (by simp [rl, Td8]; omega) hs
 rw [this, e0]
 show (_, _, (⟨_, List.replicate (i + 2) [] ++ [lastS (List.replicate (i + 2) [])], _, _, _⟩ : Eng)) = _
 rw [Tb5, Tc0]
 rfl
theorem ok (rs : List UInt8) : ∀ i, i ≤ 20 → EOk (rE rs i)
 | 0, _ => by have := ok0; rw [first rs] at this; exact this
 | i + 1, h => by
  have := EOk.edit (ok rs i (by omega)) 1 (2 + i) (rkOf rs i) [⟨1, 1, chr i⟩]
  rw [step rs i (by omega)] at this
  exact this
end Rk
end Go.Proofs.YtjpibniecllafaaGreat.AM
end
