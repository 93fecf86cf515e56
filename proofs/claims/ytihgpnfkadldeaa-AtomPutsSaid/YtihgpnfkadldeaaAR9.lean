/- Atoms on the small machine: Copy, Cut, Put. For rows of fewer than 2^36 atoms, cuts. -/
import Derived.Test.YtihgpnfkadldeaaAR8
namespace Go.Proofs.Ytihgpnfkadldeaa.AM
set_option linter.unusedSimpArgs false
set_option linter.unusedVariables false
open Go Go.Proofs.Ytihgpnfkadldeaa.U
variable {cp : List PV → Option Ret}

attribute [simp] ret1d
/-- An atom whose cuts it alone has. -/
def At.dv (a : At) : List PV := [.sc (.string a.txt), pi a.rv, pi a.gr, pi a.rk, .ow 45 2 (cutsL a.cuts)]
def dats (l : List At) : List (List PV) := l.map At.dv
@[simp] theorem dats_len (l : List At) : (dats l).length = l.length := by simp [dats]
@[simp] theorem okSet_dats (l : List At) : okSet (dats l) = true := by
  simp [okSet, dats, At.dv, PV.noHole]
@[simp] theorem setL_dats (l : List At) : setL (dats l) = ats l := by
  simp [setL, dats, ats, At.dv, At.pv, PV.set, Function.comp_def]
/-- The first i of a row told deep. -/
def mix (l : List At) (i : Nat) : List (List PV) := dats (l.take i) ++ ats (l.drop i)
theorem mix_zero (l : List At) : mix l 0 = ats l := by simp [mix, dats]
theorem mix_full (l : List At) : mix l l.length = dats l := by simp [mix]
@[simp] theorem mix_len (l : List At) (i : Nat) : (mix l i).length = l.length := by
  simp [mix]; omega
theorem mix_get (l : List At) (i : Nat) (h : i < l.length) : (mix l i)[i]? = some l[i].pv := by
  unfold mix
  have : (dats (l.take i)).length = i := by simp; omega
  rw [List.getElem?_append_right (by omega), this, Nat.sub_self, List.drop_eq_getElem_cons h]
  rfl
theorem mix_put (l : List At) (i : Nat) (h : i < l.length) : putC (mix l i) i 4 (.ow 45 2 (cutsL l[i].cuts)) = mix l (i + 1) := by
  have hg := mix_get l i h
  unfold putC
  rw [hg]
  dsimp only
  unfold mix
  have hl : (dats (l.take i)).length = i := by simp; omega
  rw [List.set_append_right _ _ (by omega), hl, Nat.sub_self, List.drop_eq_getElem_cons h, List.take_succ_eq_append_getElem h]
  have e : (ats (l[i] :: l.drop (i + 1))).set 0 (l[i].pv.set 4 (.ow 45 2 (cutsL l[i].cuts))) = l[i].dv :: ats (l.drop (i + 1)) := rfl
  have e2 : dats (l.take i ++ [l[i]]) = dats (l.take i) ++ [l[i].dv] := by unfold dats; rw [List.map_append]; rfl
  rw [e, e2, List.append_assoc]
  rfl
theorem plain_ats (l : List At) : plainL (ats l) = true := by
  simp [plainL, ats, At.pv, PV.noOw]

theorem copy_loop (l : List At) (hl : l.length < 68719476736) (hc : ∀ a ∈ l, a.cuts.length < 68719476736) : ∀ (m i : Nat), m + i = l.length →
    Code (EX cp) L_atom_Copy_0 ⟨[(3, .ms 3 0 l.length), (12, .p (pi l.length)), (13, .p (pi i))], [(3, .dp 31 5 (mix l i))]⟩ =
      some (.ex 0, ⟨[(3, .ms 3 0 l.length), (12, .p (pi l.length)), (13, .p (pi l.length)), (14, .p (pb false))], [(3, .dp 31 5 (dats l))]⟩) := by
  intro m
  induction m with
  | zero =>
    intro i hi
    have : i = l.length := by omega
    subst this
    rw [mix_full, L_atom_Copy_0, k_loop]
    simp
  | succ m ih =>
    intro i hi
    have hlt : i < l.length := by omega
    have hg := mix_get l i hlt
    have hp := mix_put l i hlt
    have hcl := hc _ (List.getElem_mem hlt)
    have hr := run_clone (cp := cp) (cutsL l[i].cuts) (by intro c h; obtain ⟨q, _, rfl⟩ := List.mem_map.1 h; rfl) (by rw [cutsL_len]; omega)
    have ih' := ih (i+1) (by omega)
    generalize l[i] = a at *
    simp only [At.pv] at hg
    rw [← ih', L_atom_Copy_0, k_loop]
    simp (disch := omega) [hlt, hg, hr, hp, wrap_in, dec_yes, PV.noOw]
theorem atomCopy (l : List At) (hl : l.length < 68719476736) (hc : ∀ a ∈ l, a.cuts.length < 68719476736) : Run (EX cp) 22 [.sl 5 (ats l)] = some (.deep 31 5 (dats l)) := by
  have h := copy_loop (cp := cp) l hl hc l.length 0 (by omega)
  rw [mix_zero] at h
  have hcap : l.length * 64 ≤ maxBytes ∧ l.length ≤ 9223372036854775807 := by unfold maxBytes; omega
  have hpl := plain_ats l
  rw [run_fn _ A_atom_Copy _ rfl rfl rfl]
  simp at h
  simp (disch := omega) [A_atom_Copy, h, hcap, hpl, if_yes]

/-! ### Cut -/
def cutAt (a : At) (rv gr : Int) : At := { a with cuts := a.cuts ++ [(rv, gr)] }
def cutL (l : List At) (i rv gr : Int) : List At := if 0 ≤ i ∧ i < l.length then (match l[i.toNat]? with | some a => l.set i.toNat (cutAt a rv gr) | none => l) else l
theorem cutL_in (l : List At) (i : Nat) (rv gr : Int) (h : i < l.length) : cutL l i rv gr = l.set i (cutAt l[i] rv gr) := by
  unfold cutL
  rw [if_pos (by omega), Int.toNat_natCast, List.getElem?_eq_getElem h]
theorem cutL_out (l : List At) (i rv gr : Int) (h : ¬ (0 ≤ i ∧ i < l.length)) : cutL l i rv gr = l := by unfold cutL; rw [if_neg h]
theorem cutsL_snoc (c : List (Int × Int)) (a b : Int) : cutsL c ++ [[pi a, pi b]] = cutsL (c ++ [(a, b)]) := by simp [cutsL, cutV]
theorem dats_get (l : List At) (i : Nat) (h : i < l.length) : (dats l)[i]? = some l[i].dv := by simp [dats, List.getElem?_eq_getElem h]
theorem dats_cut (l : List At) (i : Nat) (h : i < l.length) (rv gr : Int) : putC (putC (dats l) i 4 (.ow 0 0 [])) i 4 (.ow 45 2 (cutsL (l[i].cuts ++ [(rv, gr)]))) = dats (l.set i (cutAt l[i] rv gr)) := by
  have hg := dats_get l i h
  have e1 : putC (dats l) i 4 (.ow 0 0 []) = (dats l).set i (l[i].dv.set 4 (.ow 0 0 [])) := by unfold putC; rw [hg]
  rw [e1]
  unfold putC
  rw [List.getElem?_set_self (by simpa using h)]
  dsimp only
  rw [List.set_set]
  simp [dats, List.map_set, cutAt, At.dv]
theorem putC_len (l : List (List PV)) (i j : Nat) (x : PV) : (putC l i j x).length = l.length := by
  unfold putC; split <;> simp
set_option maxHeartbeats 1000000 in
theorem atomCut (l : List At) (i rv gr : Int) (hl : l.length < 68719476736) (hc : ∀ a ∈ l, a.cuts.length < 68719476736) : Run (EX cp) 24 [.sl 5 (ats l), pi i, pi rv, pi gr] = some (.deep 31 5 (dats (cutL l i rv gr))) := by
  have h := atomCopy (cp := cp) l hl hc
  rw [run_fn _ A_atom_Cut _ rfl rfl rfl]
  by_cases c0 : 0 ≤ i
  · by_cases c1 : i < l.length
    · obtain ⟨n, rfl⟩ : ∃ n : Nat, i = n := ⟨i.toNat, by omega⟩
      have hlt : n < l.length := by omega
      have hg := dats_get l n hlt
      have hcl := hc _ (List.getElem_mem hlt)
      have hp := dats_cut l n hlt rv gr
      have hln := putC_len (dats l) n 4 (.ow 0 0 [])
      rw [cutL_in l n rv gr hlt]
      generalize l[n] = a at *
      simp only [At.dv] at hg
      have hcap : (a.cuts.length + 1) * 16 ≤ maxBytes ∧ a.cuts.length + 1 ≤ 9223372036854775807 := by unfold maxBytes; omega
      have hsn := cutsL_snoc a.cuts rv gr
      have hset : (l.set n (cutAt a rv gr)).length = l.length := by simp
      simp (disch := omega) [A_atom_Cut, h, hg, hlt, hp, hln, hcap, hsn, hset, dec_yes, dec_no, if_yes]
    · rw [cutL_out l i rv gr (by omega)]
      simp (disch := omega) [A_atom_Cut, h, dec_yes, dec_no]
  · rw [cutL_out l i rv gr (by omega)]
    simp (disch := omega) [A_atom_Cut, h, dec_yes, dec_no]

/-! ### Put -/
def newAts (s : List UInt8) (rv gr rk : Int) : List At := (points s).map fun v => ⟨chS v, rv, gr, rk, []⟩
def clampN (i : Int) (n : Nat) : Nat := (min (max i 0) n).toNat
def putL (l : List At) (k : Nat) (s : List UInt8) (rv gr rk : Int) : List At := l.take k ++ newAts s rv gr rk ++ l.drop k
theorem newAts_len (s : List UInt8) (rv gr rk : Int) : (newAts s rv gr rk).length = (points s).length := by simp [newAts]
theorem newAts_at (s : ByteArray) (i : Nat) (h : i < s.size) (hv : valid ((L s).drop i) = true) (rv gr rk : Int) : sizeAt s i ≠ 0 ∧ sc (decAt s i).2 ∧ newAts ((L s).drop i) rv gr rk = ⟨chS (decAt s i).2, rv, gr, rk, []⟩ :: newAts ((L s).drop (i + sizeAt s i)) rv gr rk ∧ valid ((L s).drop (i + sizeAt s i)) = true := by
  rw [valid_at s i h] at hv
  by_cases c : sizeAt s i = 0
  · rw [if_pos c] at hv; simp at hv
  · rw [if_neg c] at hv
    refine ⟨c, ?_, ?_, hv⟩
    · rw [decAt_nat]; unfold sizeAt at c; rw [decAt_nat] at c; exact dec_sc _ c
    · unfold newAts; rw [points_at s i h, if_neg c, List.map_cons]
set_option maxHeartbeats 1000000 in
theorem put_loop (l : List At) (k : Nat) (rv gr rk : Int) (s : ByteArray) (hs : s.size < 68719476736) : ∀ (m i : Nat) (acc : List At), s.size ≤ i + m → i ≤ s.size → acc.length ≤ 68719476736 + i → valid ((L s).drop i) = true →
    ∃ j, Code (EX cp) L_atom_Put_0 ⟨[(0, .p (.sl 5 (ats l))), (1, .p (pi k)), (3, .p (pi rv)), (4, .p (pi gr)), (5, .p (pi rk)), (13, .ms 13 0 acc.length), (27, .mp 27 0 0)], [(13, .row 31 5 false (ats acc)), (27, .it s i)]⟩ =
      some (.ex 0, ⟨[(0, .p (.sl 5 (ats l))), (1, .p (pi k)), (3, .p (pi rv)), (4, .p (pi gr)), (5, .p (pi rk)), (13, .ms 13 0 (acc ++ newAts ((L s).drop i) rv gr rk).length), (27, .mp 27 0 0), (28, .p (.tu [pb false])), (29, .p (pb false))], [(13, .row 31 5 false (ats (acc ++ newAts ((L s).drop i) rv gr rk))), (27, .it s j)]⟩) := by
  intro m
  induction m with
  | zero =>
    intro i acc h1 h2 h3 h4
    have : i = s.size := by omega
    subst this
    refine ⟨s.size, ?_⟩
    rw [drop_end s _ (Nat.le_refl _), L_atom_Put_0, k_loop]
    simp [newAts, points_nil]
  | succ m ih =>
    intro i acc h1 h2 h3 h4
    by_cases hlt : i < s.size
    · obtain ⟨c, hsc, hn, hv⟩ := newAts_at s i hlt h4 rv gr rk
      have hle := sizeAt_le s i h2
      have hd := decode_dec s i (by unfold sizeAt at c; rw [decAt_nat] at c; exact c)
      have e1 : (dec ((L s).drop i)).1 = sizeAt s i := by unfold sizeAt; rw [decAt_nat]
      have e2 : dec ((L s).drop i) = decAt s i := (decAt_nat s i).symm
      rw [e1, e2] at hd
      have he := encode_enc _ hsc
      have h0 : 0 ≤ (decAt s i).2 := by unfold sc at hsc; omega
      have h0' : max (decAt s i).2 0 = (decAt s i).2 := by omega
      rw [hn]
      generalize hz : sizeAt s i = n at *
      generalize (decAt s i).2 = v at *
      obtain ⟨j, ih'⟩ := ih (i + n) (acc ++ [⟨chS v, rv, gr, rk, []⟩]) (by omega) (by omega) (by simp; omega) hv
      refine ⟨j, ?_⟩
      have e : acc ++ (⟨chS v, rv, gr, rk, []⟩ : At) :: newAts ((L s).drop (i + n)) rv gr rk = (acc ++ [⟨chS v, rv, gr, rk, []⟩]) ++ newAts ((L s).drop (i + n)) rv gr rk := by simp
      have hcap : (acc.length + 1) * 64 ≤ maxBytes ∧ acc.length + 1 ≤ 9223372036854775807 := by unfold maxBytes; omega
      have hpv : ats acc ++ [[.sc (.string (chS v)), pi rv, pi gr, pi rk, .sl 2 []]] = ats (acc ++ [⟨chS v, rv, gr, rk, []⟩]) := by simp [ats, At.pv]
      rw [e, ← ih', L_atom_Put_0, k_loop]
      simp (disch := omega) [hlt, hd, he, h0', hcap, hpv]
    · have : i = s.size := by omega
      subst this
      refine ⟨s.size, ?_⟩
      rw [drop_end s _ (Nat.le_refl _), L_atom_Put_0, k_loop]
      simp [newAts, points_nil]
theorem max_eq (a b : Int) : (if b > a then b else a) = max a b := by omega
theorem min_eq (a b : Int) : (if b < a then b else a) = min a b := by omega
set_option maxHeartbeats 1000000 in
theorem atomPut (l : List At) (i : Int) (s : ByteArray) (rv gr rk : Int) (hl : l.length < 17179869184) (hc : ∀ a ∈ l, a.cuts.length < 68719476736) (hs : s.size < 4294967296) : Run (EX cp) 23 [.sl 5 (ats l), pi i, .sc (.string s), pi rv, pi gr, pi rk] = some (.own 31 5 (ats (putL l (clampN i l.length) (L s) rv gr rk))) := by
  have hk : (clampN i l.length : Int) = min (max i 0) l.length := by unfold clampN; omega
  have hk2 : clampN i l.length ≤ l.length := by omega
  generalize clampN i l.length = k at *
  have h1 := atomCopy (cp := cp) (l.take k) (by rw [List.length_take]; omega) (fun a ha => hc a (List.mem_of_mem_take ha))
  have h2 := atomCopy (cp := cp) (l.drop k) (by rw [List.length_drop]; omega) (fun a ha => hc a (List.mem_of_mem_drop ha))
  have h3 := utfClean (cp := cp) s (by omega)
  have e3 : L (cleanS s) = clean (L s) := L_mk _
  have hcl := clean_le (L s)
  rw [L_len, ← e3, L_len] at hcl
  obtain ⟨j, h4⟩ := put_loop (cp := cp) l k rv gr rk (cleanS s) (by omega) (cleanS s).size 0 (l.take k) (by omega) (by omega) (by rw [List.length_take]; omega) (by rw [List.drop_zero, e3]; exact clean_valid _)
  rw [List.drop_zero, e3] at h4
  have e5 : newAts (clean (L s)) rv gr rk = newAts (L s) rv gr rk := by unfold newAts; rw [pts_clean]
  rw [e5] at h4
  have hpl := points_le (L s)
  rw [L_len] at hpl
  have hnl := newAts_len (L s) rv gr rk
  have hlen : (l.take k).length = k := by rw [List.length_take]; omega
  have ht : (ats l).take k = ats (l.take k) := by simp [ats, List.map_take]
  have hd : (ats l).drop k = ats (l.drop k) := by simp [ats, List.map_drop]
  have hdl : (l.drop k).length = l.length - k := List.length_drop
  have htd : ((ats (l.drop k)).take (l.length - k)) = ats (l.drop k) := by rw [← hdl, ats_take]
  have hap := ats_append (l.take k ++ newAts (L s) rv gr rk) (l.drop k)
  have hm1 : mnmxs true (pi i) [pi 0] = some (pi (max i 0)) := by
    simp only [mnmxs, mnmx, if_true]
    rw [max_eq]
  have hm2 : mnmxs false (pi (max i 0)) [pi l.length] = some (pi k) := by
    simp only [mnmxs, mnmx, Bool.false_eq_true, if_false]
    rw [min_eq, hk]
  have hcap : (k + (points (L s)).length + (l.length - k)) * 64 ≤ maxBytes ∧ k + (points (L s)).length + (l.length - k) ≤ 9223372036854775807 := by unfold maxBytes; omega
  rw [run_fn _ A_atom_Put _ rfl rfl rfl]
  simp [hlen, hnl] at h4
  simp (disch := omega) [A_atom_Put, h1, h2, h3, h4, ht, hd, hm1, hm2, hk2, hcap, hlen, hnl, hdl, htd, hap, if_yes, putL, -mnmxs]
end Go.Proofs.Ytihgpnfkadldeaa.AM
