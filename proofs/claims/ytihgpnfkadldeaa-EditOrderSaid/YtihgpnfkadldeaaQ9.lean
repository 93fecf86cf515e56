/- MADE BY sync2.py: AR8, AR9, AY1, AY, AE2, AR10, AR11, AR12, AR13, AR15, AR16, one behind the other. No condition but what they say. -/
import Derived.Test.YtihgpnfkadldeaaQ8
import Derived.Lib.DecodeN
import Derived.Test.YtihgpnfkadldeaaQ7
import Derived.Test.YtihgpnfkadldeaaQ4
import Derived.Test.YtihgpnfkadldeaaQ6
section
/- A text's code points as Go's range tells them, and string(r), against the plain law. For texts of less than 2^40 bytes. -/
namespace Go.Proofs.Ytihgpnfkadldeaa.AM
set_option linter.unusedSimpArgs false
set_option linter.unusedVariables false
open Go Go.Proofs.Ytihgpnfkadldeaa.U
variable {cp : List PV → Option Ret}

theorem get_drop (s : ByteArray) (i k : Nat) (b : UInt8) (h : ((L s).drop i)[k]? = some b) : (s.get! (i + k)).toNat = b.toNat := by
  rw [List.getElem?_drop] at h
  have hlt : i + k < (L s).length := (List.getElem?_eq_some_iff.1 h).1
  rw [List.getElem?_eq_getElem hlt] at h
  obtain rfl := Option.some.inj h
  have hd : i + k < s.data.size := by simpa [L] using hlt
  have : s.get! (i + k) = s.data[i + k]! := rfl
  rw [this, getElem!_pos s.data (i + k) hd]
  simp [L]
theorem bi_nat (b : UInt8) : (b.toNat : Int) = bi b := rfl
set_option maxHeartbeats 4000000 in
set_option maxRecDepth 100000 in
/-- Where a code point stands, Go's range tells it. -/
theorem decode_dec (s : ByteArray) (i : Nat) (h : (dec ((L s).drop i)).1 ≠ 0) : Utf8.decode s i = ((dec ((L s).drop i)).2.toNat, (dec ((L s).drop i)).1) := by
  have hlen : s.size - i = ((L s).drop i).length := by rw [List.length_drop, L_len]
  have hdc := Lib.decode_at s i
  rw [hlen] at hdc
  refine hdc.trans ?_
  clear hdc
  have g0 := get_drop s i 0
  have g1 := get_drop s i 1
  have g2 := get_drop s i 2
  have g3 := get_drop s i 3
  generalize (L s).drop i = l at *
  simp only [Nat.add_zero] at g0
  match l, h with
  | [], h => exact absurd rfl h
  | a :: t, h =>
    have ga := g0 a rfl
    have hr := bi_range a
    have ea := bi_nat a
    rw [ga]
    rw [dec.eq_def] at h ⊢
    simp only at h ⊢
    by_cases b1 : bi a < 128
    · rw [if_pos b1]
      unfold Lib.decodeN
      rw [if_pos (by omega)]
      simp only [Prod.mk.injEq, and_true]; omega
    rw [if_neg b1] at h ⊢
    by_cases b2 : bi a < 192
    · rw [if_pos b2] at h; exact absurd rfl h
    rw [if_neg b2] at h ⊢
    by_cases b3 : bi a < 224
    · rw [if_pos b3] at h ⊢
      match t, h, g1 with
      | [], h, _ => exact absurd rfl h
      | p :: t, h, g1 =>
        have gp := g1 p rfl
        have ep := bi_nat p
        dsimp only at h ⊢
        by_cases c : cont p ∧ 128 ≤ v2 a p
        · rw [if_pos c]
          obtain ⟨c1, c2⟩ := c
          unfold cont at c1
          unfold v2 at c2 ⊢
          rw [gp]
          unfold Lib.decodeN
          rw [if_neg (by omega), if_pos ⟨by omega, by simp, by omega⟩, if_pos (by omega)]
          simp only [Prod.mk.injEq, and_true]; omega
        · rw [if_neg c] at h; exact absurd rfl h
    rw [if_neg b3] at h ⊢
    by_cases b4 : bi a < 240
    · rw [if_pos b4] at h ⊢
      match t, h, g1, g2 with
      | [], h, _, _ => exact absurd rfl h
      | [p], h, _, _ => exact absurd rfl h
      | p :: q :: t, h, g1, g2 =>
        have gp := g1 p rfl
        have gq := g2 q rfl
        have ep := bi_nat p
        have eq := bi_nat q
        dsimp only at h ⊢
        by_cases c : cont p ∧ cont q ∧ 2048 ≤ v3 a p q ∧ ¬ (55296 ≤ v3 a p q ∧ v3 a p q ≤ 57343)
        · rw [if_pos c]
          obtain ⟨c1, c2, c3, c4⟩ := c
          unfold cont at c1 c2
          unfold v3 at c3 c4 ⊢
          rw [gp, gq]
          unfold Lib.decodeN
          rw [if_neg (by omega), if_neg (by omega), if_pos ⟨by omega, ⟨by simp, by omega⟩, by simp, by omega⟩, if_pos (by omega)]
          simp only [Prod.mk.injEq, and_true]; omega
        · rw [if_neg c] at h; exact absurd rfl h
    rw [if_neg b4] at h ⊢
    by_cases b5 : bi a < 248
    · rw [if_pos b5] at h ⊢
      match t, h, g1, g2, g3 with
      | [], h, _, _, _ => exact absurd rfl h
      | [p], h, _, _, _ => exact absurd rfl h
      | [p, q], h, _, _, _ => exact absurd rfl h
      | p :: q :: r :: t, h, g1, g2, g3 =>
        have gp := g1 p rfl
        have gq := g2 q rfl
        have gr := g3 r rfl
        have ep := bi_nat p
        have eq := bi_nat q
        have er := bi_nat r
        dsimp only at h ⊢
        by_cases c : cont p ∧ cont q ∧ cont r ∧ 65536 ≤ v4 a p q r ∧ v4 a p q r ≤ 1114111
        · rw [if_pos c]
          obtain ⟨c1, c2, c3, c4, c5⟩ := c
          unfold cont at c1 c2 c3
          unfold v4 at c4 c5 ⊢
          rw [gp, gq, gr]
          unfold Lib.decodeN
          rw [if_neg (by omega), if_neg (by omega), if_neg (by omega), if_pos ⟨by omega, ⟨by simp, by omega⟩, ⟨by simp, by omega⟩, by simp, by omega⟩, if_pos (by omega)]
          simp only [Prod.mk.injEq, and_true]; omega
        · rw [if_neg c] at h; exact absurd rfl h
    · rw [if_neg b5] at h; exact absurd rfl h
/-- string(r) of a code point's number. -/
theorem encode_enc (v : Int) (h : sc v) : Utf8.encode v = chS v := by
  have hs := h
  unfold sc at hs
  have hv : Utf8.valid v = true := by
    unfold Utf8.valid
    simp only [Bool.or_eq_true, Bool.and_eq_true, decide_eq_true_eq]
    omega
  apply L_inj
  unfold chS Utf8.encode
  rw [L_mk, if_pos hv]
  have key : ∀ x : Int, ∀ n : Nat, (n : Int) = x → (UInt8.ofNat n) = x.toNat.toUInt8 := by
    intro x n hx
    subst hx
    rfl
  by_cases c1 : v < 128
  · rw [enc_one (by omega) c1, if_pos (by omega)]
    exact congrArg (fun x => [x]) (key _ _ (by omega))
  by_cases c2 : v < 2048
  · rw [enc_two (by omega) c2, if_neg (by omega), if_pos (by omega)]
    rw [← key (192 + v / 64) (192 + v.toNat / 64) (by omega), ← key (128 + v % 64) (128 + v.toNat % 64) (by omega)]
    rfl
  by_cases c3 : v < 65536
  · rw [enc_three (by omega) c3 h, if_neg (by omega), if_neg (by omega), if_pos (by omega)]
    rw [← key (224 + v / 4096) (224 + v.toNat / 4096) (by omega), ← key (128 + v / 64 % 64) (128 + v.toNat / 64 % 64) (by omega), ← key (128 + v % 64) (128 + v.toNat % 64) (by omega)]
    rfl
  · rw [enc_four (by omega) (by omega), if_neg (by omega), if_neg (by omega), if_neg (by omega)]
    rw [← key (240 + v / 262144) (240 + v.toNat / 262144) (by omega), ← key (128 + v / 4096 % 64) (128 + v.toNat / 4096 % 64) (by omega), ← key (128 + v / 64 % 64) (128 + v.toNat / 64 % 64) (by omega), ← key (128 + v % 64) (128 + v.toNat % 64) (by omega)]
    rfl
end Go.Proofs.Ytihgpnfkadldeaa.AM

end
section
/- Atoms on the small machine: Copy, Cut, Put. For rows of fewer than 2^36 atoms, cuts. -/
namespace Go.Proofs.Ytihgpnfkadldeaa.AM
set_option linter.unusedSimpArgs false
set_option linter.unusedVariables false
open Go Go.Proofs.Ytihgpnfkadldeaa.U
variable {cp : List PV → Option Ret}

attribute [simp] ret1d
/-- An atom whose cuts it alone has. -/
def At.dv (a : At) : List PV := [.sc (.string a.txt), pi a.rv, pi a.gr, pi a.rk, .ow 45 2 (cutsL a.cuts)]
def dats (l : List At) : List (List PV) := l.map At.dv
@[simp] theorem dats_len (l : List At) : (dats l).length = l.length := by simp [dats]
@[simp] theorem okSet_dats (l : List At) : okSet (dats l) = true := by
  simp [okSet, dats, At.dv, PV.noHole]
@[simp] theorem setL_dats (l : List At) : setL (dats l) = ats l := by
  simp [setL, dats, ats, At.dv, At.pv, PV.set, Function.comp_def]
/-- The first i of a row told deep. -/
def mix (l : List At) (i : Nat) : List (List PV) := dats (l.take i) ++ ats (l.drop i)
theorem mix_zero (l : List At) : mix l 0 = ats l := by simp [mix, dats]
theorem mix_full (l : List At) : mix l l.length = dats l := by simp [mix]
@[simp] theorem mix_len (l : List At) (i : Nat) : (mix l i).length = l.length := by
  simp [mix]; omega
theorem mix_get (l : List At) (i : Nat) (h : i < l.length) : (mix l i)[i]? = some l[i].pv := by
  unfold mix
  have : (dats (l.take i)).length = i := by simp; omega
  rw [List.getElem?_append_right (by omega), this, Nat.sub_self, List.drop_eq_getElem_cons h]
  rfl
theorem mix_put (l : List At) (i : Nat) (h : i < l.length) : putC (mix l i) i 4 (.ow 45 2 (cutsL l[i].cuts)) = mix l (i + 1) := by
  have hg := mix_get l i h
  unfold putC
  rw [hg]
  dsimp only
  unfold mix
  have hl : (dats (l.take i)).length = i := by simp; omega
  rw [List.set_append_right _ _ (by omega), hl, Nat.sub_self, List.drop_eq_getElem_cons h, List.take_succ_eq_append_getElem h]
  have e : (ats (l[i] :: l.drop (i + 1))).set 0 (l[i].pv.set 4 (.ow 45 2 (cutsL l[i].cuts))) = l[i].dv :: ats (l.drop (i + 1)) := rfl
  have e2 : dats (l.take i ++ [l[i]]) = dats (l.take i) ++ [l[i].dv] := by unfold dats; rw [List.map_append]; rfl
  rw [e, e2, List.append_assoc]
  rfl
theorem plain_ats (l : List At) : plainL (ats l) = true := by
  simp [plainL, ats, At.pv, PV.noOw]

theorem copy_loop (l : List At) (hl : l.length < 68719476736) (hc : ∀ a ∈ l, a.cuts.length < 68719476736) : ∀ (m i : Nat), m + i = l.length →
    Code (EX cp) L_atom_Copy_0 ⟨[(3, .ms 3 0 l.length), (12, .p (pi l.length)), (13, .p (pi i))], [(3, .dp 31 5 (mix l i))]⟩ =
      some (.ex 0, ⟨[(3, .ms 3 0 l.length), (12, .p (pi l.length)), (13, .p (pi l.length)), (14, .p (pb false))], [(3, .dp 31 5 (dats l))]⟩) := by
  intro m
  induction m with
  | zero =>
    intro i hi
    have : i = l.length := by omega
    subst this
    rw [mix_full, L_atom_Copy_0, k_loop]
    simp
  | succ m ih =>
    intro i hi
    have hlt : i < l.length := by omega
    have hg := mix_get l i hlt
    have hp := mix_put l i hlt
    have hcl := hc _ (List.getElem_mem hlt)
    have hr := run_clone (cp := cp) (cutsL l[i].cuts) (by intro c h; obtain ⟨q, _, rfl⟩ := List.mem_map.1 h; rfl) (by rw [cutsL_len]; omega)
    have ih' := ih (i+1) (by omega)
    generalize l[i] = a at *
    simp only [At.pv] at hg
    rw [← ih', L_atom_Copy_0, k_loop]
    simp (disch := omega) [hlt, hg, hr, hp, wrap_in, dec_yes, PV.noOw]
theorem atomCopy (l : List At) (hl : l.length < 68719476736) (hc : ∀ a ∈ l, a.cuts.length < 68719476736) : Run (EX cp) 22 [.sl 5 (ats l)] = some (.deep 31 5 (dats l)) := by
  have h := copy_loop (cp := cp) l hl hc l.length 0 (by omega)
  rw [mix_zero] at h
  have hcap : l.length * 64 ≤ maxBytes ∧ l.length ≤ 9223372036854775807 := by unfold maxBytes; omega
  have hpl := plain_ats l
  rw [run_fn _ A_atom_Copy _ rfl rfl rfl]
  simp at h
  simp (disch := omega) [A_atom_Copy, h, hcap, hpl, if_yes]

/-! ### Cut -/
def cutAt (a : At) (rv gr : Int) : At := { a with cuts := a.cuts ++ [(rv, gr)] }
def cutL (l : List At) (i rv gr : Int) : List At := if 0 ≤ i ∧ i < l.length then (match l[i.toNat]? with | some a => l.set i.toNat (cutAt a rv gr) | none => l) else l
theorem cutL_in (l : List At) (i : Nat) (rv gr : Int) (h : i < l.length) : cutL l i rv gr = l.set i (cutAt l[i] rv gr) := by
  unfold cutL
  rw [if_pos (by omega), Int.toNat_natCast, List.getElem?_eq_getElem h]
theorem cutL_out (l : List At) (i rv gr : Int) (h : ¬ (0 ≤ i ∧ i < l.length)) : cutL l i rv gr = l := by unfold cutL; rw [if_neg h]
theorem cutsL_snoc (c : List (Int × Int)) (a b : Int) : cutsL c ++ [[pi a, pi b]] = cutsL (c ++ [(a, b)]) := by simp [cutsL, cutV]
theorem dats_get (l : List At) (i : Nat) (h : i < l.length) : (dats l)[i]? = some l[i].dv := by simp [dats, List.getElem?_eq_getElem h]
theorem dats_cut (l : List At) (i : Nat) (h : i < l.length) (rv gr : Int) : putC (putC (dats l) i 4 (.ow 0 0 [])) i 4 (.ow 45 2 (cutsL (l[i].cuts ++ [(rv, gr)]))) = dats (l.set i (cutAt l[i] rv gr)) := by
  have hg := dats_get l i h
  have e1 : putC (dats l) i 4 (.ow 0 0 []) = (dats l).set i (l[i].dv.set 4 (.ow 0 0 [])) := by unfold putC; rw [hg]
  rw [e1]
  unfold putC
  rw [List.getElem?_set_self (by simpa using h)]
  dsimp only
  rw [List.set_set]
  simp [dats, List.map_set, cutAt, At.dv]
theorem putC_len (l : List (List PV)) (i j : Nat) (x : PV) : (putC l i j x).length = l.length := by
  unfold putC; split <;> simp
set_option maxHeartbeats 1000000 in
theorem atomCut (l : List At) (i rv gr : Int) (hl : l.length < 68719476736) (hc : ∀ a ∈ l, a.cuts.length < 68719476736) : Run (EX cp) 24 [.sl 5 (ats l), pi i, pi rv, pi gr] = some (.deep 31 5 (dats (cutL l i rv gr))) := by
  have h := atomCopy (cp := cp) l hl hc
  rw [run_fn _ A_atom_Cut _ rfl rfl rfl]
  by_cases c0 : 0 ≤ i
  · by_cases c1 : i < l.length
    · obtain ⟨n, rfl⟩ : ∃ n : Nat, i = n := ⟨i.toNat, by omega⟩
      have hlt : n < l.length := by omega
      have hg := dats_get l n hlt
      have hcl := hc _ (List.getElem_mem hlt)
      have hp := dats_cut l n hlt rv gr
      have hln := putC_len (dats l) n 4 (.ow 0 0 [])
      rw [cutL_in l n rv gr hlt]
      generalize l[n] = a at *
      simp only [At.dv] at hg
      have hcap : (a.cuts.length + 1) * 16 ≤ maxBytes ∧ a.cuts.length + 1 ≤ 9223372036854775807 := by unfold maxBytes; omega
      have hsn := cutsL_snoc a.cuts rv gr
      have hset : (l.set n (cutAt a rv gr)).length = l.length := by simp
      simp (disch := omega) [A_atom_Cut, h, hg, hlt, hp, hln, hcap, hsn, hset, dec_yes, dec_no, if_yes]
    · rw [cutL_out l i rv gr (by omega)]
      simp (disch := omega) [A_atom_Cut, h, dec_yes, dec_no]
  · rw [cutL_out l i rv gr (by omega)]
    simp (disch := omega) [A_atom_Cut, h, dec_yes, dec_no]

/-! ### Put -/
def newAts (s : List UInt8) (rv gr rk : Int) : List At := (points s).map fun v => ⟨chS v, rv, gr, rk, []⟩
def clampN (i : Int) (n : Nat) : Nat := (min (max i 0) n).toNat
def putL (l : List At) (k : Nat) (s : List UInt8) (rv gr rk : Int) : List At := l.take k ++ newAts s rv gr rk ++ l.drop k
theorem newAts_len (s : List UInt8) (rv gr rk : Int) : (newAts s rv gr rk).length = (points s).length := by simp [newAts]
theorem newAts_at (s : ByteArray) (i : Nat) (h : i < s.size) (hv : valid ((L s).drop i) = true) (rv gr rk : Int) : sizeAt s i ≠ 0 ∧ sc (decAt s i).2 ∧ newAts ((L s).drop i) rv gr rk = ⟨chS (decAt s i).2, rv, gr, rk, []⟩ :: newAts ((L s).drop (i + sizeAt s i)) rv gr rk ∧ valid ((L s).drop (i + sizeAt s i)) = true := by
  rw [valid_at s i h] at hv
  by_cases c : sizeAt s i = 0
  · rw [if_pos c] at hv; simp at hv
  · rw [if_neg c] at hv
    refine ⟨c, ?_, ?_, hv⟩
    · rw [decAt_nat]; unfold sizeAt at c; rw [decAt_nat] at c; exact dec_sc _ c
    · unfold newAts; rw [points_at s i h, if_neg c, List.map_cons]
set_option maxHeartbeats 1000000 in
theorem put_loop (l : List At) (k : Nat) (rv gr rk : Int) (s : ByteArray) (hs : s.size < 68719476736) : ∀ (m i : Nat) (acc : List At), s.size ≤ i + m → i ≤ s.size → acc.length ≤ 68719476736 + i → valid ((L s).drop i) = true →
    ∃ j, Code (EX cp) L_atom_Put_0 ⟨[(0, .p (.sl 5 (ats l))), (1, .p (pi k)), (3, .p (pi rv)), (4, .p (pi gr)), (5, .p (pi rk)), (13, .ms 13 0 acc.length), (27, .mp 27 0 0)], [(13, .row 31 5 false (ats acc)), (27, .it s i)]⟩ =
      some (.ex 0, ⟨[(0, .p (.sl 5 (ats l))), (1, .p (pi k)), (3, .p (pi rv)), (4, .p (pi gr)), (5, .p (pi rk)), (13, .ms 13 0 (acc ++ newAts ((L s).drop i) rv gr rk).length), (27, .mp 27 0 0), (28, .p (.tu [pb false])), (29, .p (pb false))], [(13, .row 31 5 false (ats (acc ++ newAts ((L s).drop i) rv gr rk))), (27, .it s j)]⟩) := by
  intro m
  induction m with
  | zero =>
    intro i acc h1 h2 h3 h4
    have : i = s.size := by omega
    subst this
    refine ⟨s.size, ?_⟩
    rw [drop_end s _ (Nat.le_refl _), L_atom_Put_0, k_loop]
    simp [newAts, points_nil]
  | succ m ih =>
    intro i acc h1 h2 h3 h4
    by_cases hlt : i < s.size
    · obtain ⟨c, hsc, hn, hv⟩ := newAts_at s i hlt h4 rv gr rk
      have hle := sizeAt_le s i h2
      have hd := decode_dec s i (by unfold sizeAt at c; rw [decAt_nat] at c; exact c)
      have e1 : (dec ((L s).drop i)).1 = sizeAt s i := by unfold sizeAt; rw [decAt_nat]
      have e2 : dec ((L s).drop i) = decAt s i := (decAt_nat s i).symm
      rw [e1, e2] at hd
      have he := encode_enc _ hsc
      have h0 : 0 ≤ (decAt s i).2 := by unfold sc at hsc; omega
      have h0' : max (decAt s i).2 0 = (decAt s i).2 := by omega
      rw [hn]
      generalize hz : sizeAt s i = n at *
      generalize (decAt s i).2 = v at *
      obtain ⟨j, ih'⟩ := ih (i + n) (acc ++ [⟨chS v, rv, gr, rk, []⟩]) (by omega) (by omega) (by simp; omega) hv
      refine ⟨j, ?_⟩
      have e : acc ++ (⟨chS v, rv, gr, rk, []⟩ : At) :: newAts ((L s).drop (i + n)) rv gr rk = (acc ++ [⟨chS v, rv, gr, rk, []⟩]) ++ newAts ((L s).drop (i + n)) rv gr rk := by simp
      have hcap : (acc.length + 1) * 64 ≤ maxBytes ∧ acc.length + 1 ≤ 9223372036854775807 := by unfold maxBytes; omega
      have hpv : ats acc ++ [[.sc (.string (chS v)), pi rv, pi gr, pi rk, .sl 2 []]] = ats (acc ++ [⟨chS v, rv, gr, rk, []⟩]) := by simp [ats, At.pv]
      rw [e, ← ih', L_atom_Put_0, k_loop]
      simp (disch := omega) [hlt, hd, he, h0', hcap, hpv]
    · have : i = s.size := by omega
      subst this
      refine ⟨s.size, ?_⟩
      rw [drop_end s _ (Nat.le_refl _), L_atom_Put_0, k_loop]
      simp [newAts, points_nil]
theorem max_eq (a b : Int) : (if b > a then b else a) = max a b := by omega
theorem min_eq (a b : Int) : (if b < a then b else a) = min a b := by omega
set_option maxHeartbeats 1000000 in
theorem atomPut (l : List At) (i : Int) (s : ByteArray) (rv gr rk : Int) (hl : l.length < 17179869184) (hc : ∀ a ∈ l, a.cuts.length < 68719476736) (hs : s.size < 4294967296) : Run (EX cp) 23 [.sl 5 (ats l), pi i, .sc (.string s), pi rv, pi gr, pi rk] = some (.own 31 5 (ats (putL l (clampN i l.length) (L s) rv gr rk))) := by
  have hk : (clampN i l.length : Int) = min (max i 0) l.length := by unfold clampN; omega
  have hk2 : clampN i l.length ≤ l.length := by omega
  generalize clampN i l.length = k at *
  have h1 := atomCopy (cp := cp) (l.take k) (by rw [List.length_take]; omega) (fun a ha => hc a (List.mem_of_mem_take ha))
  have h2 := atomCopy (cp := cp) (l.drop k) (by rw [List.length_drop]; omega) (fun a ha => hc a (List.mem_of_mem_drop ha))
  have h3 := utfClean (cp := cp) s (by omega)
  have e3 : L (cleanS s) = clean (L s) := L_mk _
  have hcl := clean_le (L s)
  rw [L_len, ← e3, L_len] at hcl
  obtain ⟨j, h4⟩ := put_loop (cp := cp) l k rv gr rk (cleanS s) (by omega) (cleanS s).size 0 (l.take k) (by omega) (by omega) (by rw [List.length_take]; omega) (by rw [List.drop_zero, e3]; exact clean_valid _)
  rw [List.drop_zero, e3] at h4
  have e5 : newAts (clean (L s)) rv gr rk = newAts (L s) rv gr rk := by unfold newAts; rw [pts_clean]
  rw [e5] at h4
  have hpl := points_le (L s)
  rw [L_len] at hpl
  have hnl := newAts_len (L s) rv gr rk
  have hlen : (l.take k).length = k := by rw [List.length_take]; omega
  have ht : (ats l).take k = ats (l.take k) := by simp [ats, List.map_take]
  have hd : (ats l).drop k = ats (l.drop k) := by simp [ats, List.map_drop]
  have hdl : (l.drop k).length = l.length - k := List.length_drop
  have htd : ((ats (l.drop k)).take (l.length - k)) = ats (l.drop k) := by rw [← hdl, ats_take]
  have hap := ats_append (l.take k ++ newAts (L s) rv gr rk) (l.drop k)
  have hm1 : mnmxs true (pi i) [pi 0] = some (pi (max i 0)) := by
    simp only [mnmxs, mnmx, if_true]
    rw [max_eq]
  have hm2 : mnmxs false (pi (max i 0)) [pi l.length] = some (pi k) := by
    simp only [mnmxs, mnmx, Bool.false_eq_true, if_false]
    rw [min_eq, hk]
  have hcap : (k + (points (L s)).length + (l.length - k)) * 64 ≤ maxBytes ∧ k + (points (L s)).length + (l.length - k) ≤ 9223372036854775807 := by unfold maxBytes; omega
  rw [run_fn _ A_atom_Put _ rfl rfl rfl]
  simp [hlen, hnl] at h4
  simp (disch := omega) [A_atom_Put, h1, h2, h3, h4, ht, hd, hm1, hm2, hk2, hcap, hlen, hnl, hdl, htd, hap, if_yes, putL, -mnmxs]
end Go.Proofs.Ytihgpnfkadldeaa.AM

end
section
/- What the reference's Copy of atoms has made so far. No condition. -/
namespace Go.Proofs.Ytihgpnfkadldeaa.AM
open Go.RowKit
set_option linter.unusedVariables false
set_option linter.unusedSimpArgs false
structure As (p : Prop) : Prop where
  out : p
theorem rep_row {w : World} {lm : Nat → Nat} {k : Nat} {al : List (List PV)} {v : Value} (hv : Rep w lm (.sl k al) v) : ∃ ad cap xs, v = .slice ad al.length cap ∧ RepL w lm al.flatten xs ∧ (∀ u ∈ xs, u.oneCell' = true) ∧ (al.length = 0 ∨ ∃ b o, ad = some ⟨b, o, none⟩ ∧ ∀ j u, xs[j]? = some u → w.cell? ⟨b, o + j, none⟩ = some u) := by
  cases hv with
  | sl h0 hk hr hm hc =>
    rename_i xs b o cap
    exact ⟨_, _, xs, rfl, hr, fun u hu => by obtain ⟨j, hj⟩ := List.mem_iff_getElem?.1 hu; exact (hm j u hj).2.2, .inr ⟨_, _, rfl, fun j u hu => (hm j u hu).1⟩⟩
  | sl0 => exact ⟨_, _, [], rfl, .nil, by simp, .inl rfl⟩
/-- The reading of memory: what was there before, and nothing else. -/
def lmz (w0 : World) (lm0 : Nat → Nat) : Nat → Nat := fun b => if b < w0.heap.size then lm0 b else 0
/-- The copied atoms. -/
def CInv (w0 : World) (lm0 : Nat → Nat) (l : List At) (i : Nat) (vo : Value) (wr : World) : Prop :=
  Below w0.heap.size w0 wr ∧ ∃ gv : Nat → Value, gv 0 = vo ∧ ORep wr ⟨lmz w0 lm0, gv⟩ w0.heap.size 0 (.dp 31 5 (dats (l.take i))) ∧ ∃ own : Nat → Nat, ∀ x b, Ids 0 (.dp 31 5 (dats (l.take i))) x → blk (gv x) = some b → own b = x
theorem dats_flat_at (l : List At) (p : Nat) (e' k' : Nat) (l' : List (List PV)) (h : (dats l).flatten[p]? = some (.ow e' k' l')) : ∃ j, ∃ hj : j < l.length, p = j * 5 + 4 ∧ e' = 45 ∧ k' = 2 ∧ l' = cutsL l[j].cuts := by
  induction l generalizing p with
  | nil => simp [dats] at h
  | cons a l ih =>
    rw [show dats (a :: l) = a.dv :: dats l from rfl, List.flatten_cons] at h
    by_cases hp : p < 5
    · rw [List.getElem?_append_left (by simpa [At.dv] using hp)] at h
      match p, hp with
      | 0, _ => simp [At.dv] at h
      | 1, _ => simp [At.dv] at h
      | 2, _ => simp [At.dv] at h
      | 3, _ => simp [At.dv] at h
      | 4, _ =>
        simp only [At.dv, List.getElem?_cons_succ, List.getElem?_cons_zero, Option.some.injEq, PV.ow.injEq] at h
        exact ⟨0, by simp, rfl, h.1.symm, h.2.1.symm, h.2.2.symm⟩
    · rw [List.getElem?_append_right (by simp [At.dv]; omega)] at h
      obtain ⟨j, hj, h1, h2, h3, h4⟩ := ih _ h
      refine ⟨j + 1, by simp; omega, ?_, h2, h3, by simpa using h4⟩
      have : a.dv.length = 5 := rfl
      omega
theorem dats_flat_len (l : List At) : (dats l).flatten.length = l.length * 5 := by
  rw [flatten_len (k := 5) (fun c hc => by obtain ⟨a, _, rfl⟩ := List.mem_map.1 hc; rfl), dats_len]
theorem dats_flat_ow (l : List At) (j : Nat) (hj : j < l.length) : (dats l).flatten[j * 5 + 4]? = some (.ow 45 2 (cutsL l[j].cuts)) := by
  have h := flatten_drop (k := 5) (l := dats l) j (fun c hc => by obtain ⟨a, _, rfl⟩ := List.mem_map.1 hc; rfl)
  rw [← List.getElem?_drop, h, show (dats l).drop j = l[j].dv :: (dats l).drop (j + 1) from by rw [List.drop_eq_getElem_cons (by rw [dats_len]; exact hj)]; congr 1; simp [dats], List.flatten_cons]
  rfl
theorem dats_snoc (l : List At) (i : Nat) (h : i < l.length) : (dats (l.take (i + 1))).flatten = (dats (l.take i)).flatten ++ l[i].dv := by
  rw [List.take_succ_eq_append_getElem h]
  unfold dats
  rw [List.map_append, List.flatten_append]
  simp
theorem lmz_old {w0 : World} {lm0 : Nat → Nat} {b : Nat} (h : w0.heap.size ≤ b) : lmz w0 lm0 b = 0 := if_neg (by omega)
/-- One atom more. -/
theorem step_inv {w0 wr w2 w4 : World} {lm0 : Nat → Nat} {l : List At} {i : Nat} (hlt : i < l.length) {u3 v4 vc : Value} {xsI zs : List Value} {gv : Nat → Value} {own : Nat → Nat}
    (hB : Below w0.heap.size w0 wr) (hB4 : Below w0.heap.size w0 w4) (hg0 : gv 0 = u3)
    (hrI : RepL wr (lmz w0 lm0) (dats (l.take i)).flatten xsI)
    (h7 : ∀ p e' k' l', (dats (l.take i)).flatten[p]? = some (.ow e' k' l') → 0 < k' → xsI[p]? = some (gv (nid 0 p)) ∧ RowR wr ⟨lmz w0 lm0, gv⟩ w0.heap.size (nid 0 p) e' k' l')
    (hown : ∀ x b, Ids 0 (.dp 31 5 (dats (l.take i))) x → blk (gv x) = some b → own b = x)
    (hvc : w2.ownsRow w0.heap.size 45 2 vc l[i].cuts.length zs) (hzs : RepL w0 lm0 (cutsL l[i].cuts).flatten zs) (hz1 : ∀ u ∈ zs, u.oneCell' = true)
    (hcb : ∀ b, blk vc = some b → wr.heap.size < b) (h4b : ∀ b, blk v4 = some b → blk u3 = some b ∨ wr.heap.size < b ∧ blk vc ≠ some b) (h3b : ∀ b, blk u3 = some b → b < wr.heap.size)
    (hk1 : ∀ b, b < wr.heap.size → blk u3 ≠ some b → w4.heap[b]? = wr.heap[b]?) (hk2 : ∀ b, blk vc = some b → w4.heap[b]? = w2.heap[b]?)
    (h4 : w4.ownsRow w0.heap.size 31 5 v4 (i + 1) (xsI ++ [.string l[i].txt, .int .i64 l[i].rv, .int .i64 l[i].gr, .int .i64 l[i].rk, vc])) (h41 : ∀ u ∈ (xsI ++ [.string l[i].txt, .int .i64 l[i].rv, .int .i64 l[i].gr, .int .i64 l[i].rk, vc]), u.oneCell' = true) : CInv w0 lm0 l (i + 1) v4 w4 := by
  have hxl : xsI.length = i * 5 := by rw [← hrI.length, dats_flat_len, List.length_take]; congr 1; omega
  have e1 : ∀ p, nid 0 p ≠ 0 := fun p h => by have := nid_ge 0 p; omega
  have e2 : ∀ p q, p ≠ q → nid 0 p ≠ nid 0 q := fun p q hpq h => hpq (nid_inj (by omega) (by omega) h).2
  have hext : Ext wr (lmz w0 lm0) w4 (lmz w0 lm0) := by
    intro b o u hc ho
    have hb : b < w0.heap.size := by
      rcases Nat.lt_or_ge b w0.heap.size with h | h
      · exact h
      · rw [lmz_old h] at ho; omega
    exact ⟨(World.cell?_of_block (a := ⟨b, o, none⟩) ((hB4.block b hb).trans (hB.block b hb).symm)).trans hc, ho⟩
  have hext0 : Ext w0 lm0 w4 (lmz w0 lm0) := Ext.of_below hB4 fun b hb => if_pos hb
  have hbB := hB.size
  refine ⟨hB4, fun x => if x = 0 then v4 else if x = nid 0 (i * 5 + 4) then vc else gv x, rfl, ⟨by omega, fun c hc => by obtain ⟨a, _, rfl⟩ := List.mem_map.1 hc; rfl, ⟨_, ?_, ?_, h41, ?_⟩, ?_, ?_⟩, ?_⟩
  · have : (dats (l.take (i + 1))).length = i + 1 := by rw [dats_len, List.length_take]; omega
    rw [this]; exact h4
  · rw [dats_snoc l i hlt]
    refine (hrI.ext hext).append ?_
    exact .cons (.sc _) (.cons (.sc _) (.cons (.sc _) (.cons (.sc _) (.cons .ow .nil))))
  · intro p e' k' l' hp hk
    obtain ⟨j, hj, rfl, he1, he2, he3⟩ := dats_flat_at _ _ _ _ _ hp
    have hj2 : j < i + 1 := by rw [List.length_take] at hj; omega
    by_cases hji : j = i
    · subst hji
      refine ⟨?_, ?_⟩
      · rw [List.getElem?_append_right (by omega)]
        dsimp only
        rw [if_neg (e1 _), if_pos rfl, hxl, Nat.add_sub_cancel_left]
        rfl
      · have hl : l' = cutsL l[j].cuts := by rw [he3]; congr 2; exact List.getElem_take
        subst he1
        subst he2
        subst hl
        have hv : (if nid 0 (j * 5 + 4) = 0 then v4 else if nid 0 (j * 5 + 4) = nid 0 (j * 5 + 4) then vc else gv (nid 0 (j * 5 + 4))) = vc := by rw [if_neg (e1 _), if_pos rfl]
        refine ⟨by omega, fun c hc => by obtain ⟨a, _, rfl⟩ := List.mem_map.1 hc; rfl, ⟨zs, ?_, hzs.ext hext0, hz1⟩, fun b hb => ?_⟩
        · dsimp only
          rw [hv, cutsL_len]
          exact ownsRow_keep hvc hk2
        · dsimp only at hb
          rw [hv] at hb
          have := hcb b hb
          exact lmz_old (by omega)
    · have hjl : j < i := by omega
      have hpo : (dats (l.take i)).flatten[j * 5 + 4]? = some (.ow e' k' l') := by
        rw [dats_snoc l i hlt, List.getElem?_append_left (by rw [dats_flat_len, List.length_take]; omega)] at hp
        exact hp
      obtain ⟨q1, q2, q3, ⟨ys, q4, q5, q6⟩, q7⟩ := h7 _ _ _ _ hpo hk
      have hv : (if nid 0 (j * 5 + 4) = 0 then v4 else if nid 0 (j * 5 + 4) = nid 0 (i * 5 + 4) then vc else gv (nid 0 (j * 5 + 4))) = gv (nid 0 (j * 5 + 4)) := by rw [if_neg (e1 _), if_neg (e2 _ _ (by omega))]
      refine ⟨?_, q2, q3, ⟨ys, ?_, q5.ext hext, q6⟩, fun b hb => ?_⟩
      · rw [List.getElem?_append_left (by omega), q1]
        dsimp only
        rw [hv]
      · dsimp only
        rw [hv]
        refine ownsRow_keep q4 fun b hb => hk1 b (owns_block q4 hb).2 fun h => ?_
        have z1 := hown _ b (ids_dp.2 (.inr ⟨_, _, _, _, hpo, hk, rfl⟩)) hb
        have z2 := hown 0 b (.self _ _) (by rw [hg0]; exact h)
        exact e1 _ (z1.symm.trans z2)
      · dsimp only at hb
        rw [hv] at hb
        exact q7 b hb
  · intro b hb
    dsimp only at hb
    rw [if_pos rfl] at hb
    exact lmz_old (owns_block h4 hb).1
  · intro p hp
    obtain ⟨_, _, _, _, h, _⟩ := dats_flat_at _ _ _ _ _ hp
    omega
  · refine ⟨fun b => if blk v4 = some b then 0 else if blk vc = some b then nid 0 (i * 5 + 4) else own b, fun x b hx hb => ?_⟩
    dsimp only at hb ⊢
    rcases ids_dp.1 hx with rfl | ⟨p, e', k', l', hp, hk, rfl⟩
    · rw [if_pos rfl] at hb
      rw [if_pos hb]
    · obtain ⟨j, hj, rfl, he1, he2, he3⟩ := dats_flat_at _ _ _ _ _ hp
      have hj2 : j < i + 1 := by rw [List.length_take] at hj; omega
      rw [if_neg (e1 _)] at hb
      by_cases hji : j = i
      · subst hji
        rw [if_pos rfl] at hb
        have h1 := hcb b hb
        rw [if_neg fun h => by
          rcases h4b b h with h | h
          · have := h3b b h; omega
          · exact h.2 hb, if_pos hb]
      · rw [if_neg (e2 _ _ (by omega))] at hb
        have hpo : (dats (l.take i)).flatten[j * 5 + 4]? = some (.ow e' k' l') := by
          rw [dats_snoc l i hlt, List.getElem?_append_left (by rw [dats_flat_len, List.length_take]; omega)] at hp
          exact hp
        obtain ⟨q1, q2, q3, ⟨ys, q4, q5, q6⟩, q7⟩ := h7 _ _ _ _ hpo hk
        have hlt2 := (owns_block q4 hb).2
        have z1 := hown _ b (ids_dp.2 (.inr ⟨_, _, _, _, hpo, hk, rfl⟩)) hb
        rw [if_neg fun h => by
          rcases h4b b h with h | h
          · have z2 := hown 0 b (.self _ _) (by rw [hg0]; exact h)
            exact e1 _ (z1.symm.trans z2)
          · omega, if_neg fun h => by have := hcb b h; omega]
        exact z1
end Go.Proofs.Ytihgpnfkadldeaa.AM

end
section
/- The reference's Copy of atoms, walked by hand. No condition. -/
namespace Go.Proofs.Ytihgpnfkadldeaa.AM
open Go.RowKit
set_option linter.unusedVariables false
set_option linter.unusedSimpArgs false
theorem new_blk (w : World) (o : Obj) : (w.alloc o).heap[w.heap.size]? = some o := by
  show (w.heap.push o)[w.heap.size]? = _
  simp
theorem at_el : elOk Try.prog 31 5 64 = true := by decide +kernel
theorem slice_of {w : World} {B e k n : Nat} {v : Value} {xs : List Value} (h : w.ownsRow B e k v n xs) : ∃ ad cap, v = .slice ad n cap := by
  rcases h.2 with ⟨h, hn⟩ | ⟨b, cap, cur, h, _⟩
  · exact ⟨none, 0, by rw [h, hn]⟩
  · exact ⟨_, cap, h⟩
set_option maxHeartbeats 4000000 in
set_option maxRecDepth 100000 in
theorem copy_ok (l : List At) (hb : l.length * 64 ≤ 140737488355328) (hc : ∀ a ∈ l, a.cuts.length * 16 ≤ 140737488355328) : CallOK' Try.prog 17 [.sl 5 (ats l)] (.deep 31 5 (dats l)) := by
  intro w0 lm0 vs hvs
  cases hvs with
  | cons hv hn =>
  cases hn
  rename_i v
  obtain ⟨ad, cap, xs, rfl, hxs, h1, hmem⟩ := rep_row hv
  rw [ats_len] at *
  go_enter Try.func17, Try.ntmps17
  go_wp2
  go_loopw [3, 4] (fun vo vi wr => ∃ i : Nat, vi = .int .i64 i ∧ As (i ≤ l.length) ∧ As (CInv w0 lm0 l i vo wr)) (fun _ vi _ => l.length - (intOf vi).toNat)
  case atStart =>
    refine ⟨0, rfl, ⟨by omega⟩, ⟨Below.refl _ _, fun _ => .slice none 0 0, rfl, ⟨by omega, by simp [dats], ⟨[], ⟨rfl, .inl ⟨rfl, rfl⟩⟩, .nil, by simp, by simp [dats]⟩, by simp [blk], fun p hp => by simp [dats] at hp⟩, fun _ => 0, fun x b hx hb => by simp [blk] at hb⟩⟩
  case round =>
    obtain ⟨i, rfl, hi, hI⟩ := hrel
    by_cases hlt : i < l.length
    · obtain ⟨b, o, rfl, hm⟩ : ∃ b o, ad = some ⟨b, o, none⟩ ∧ ∀ j u, xs[j]? = some u → w0.cell? ⟨b, o + j, none⟩ = some u := by
        rcases hmem with h | h
        · omega
        · exact h
      have hdr := hxs.drop (i * 5)
      rw [flatten_drop i (fun c hc => by obtain ⟨a, _, rfl⟩ := List.mem_map.1 hc; rfl), show (ats l).drop i = l[i].pv :: (ats l).drop (i + 1) from by rw [List.drop_eq_getElem_cons (by rw [ats_len]; exact hlt)]; congr 1; simp [ats], List.flatten_cons] at hdr
      obtain ⟨y, hy⟩ : ∃ y, xs.drop (i * 5) = y := ⟨_, rfl⟩
      rw [hy] at hdr
      unfold At.pv at hdr
      cases hdr with
      | cons r0 hdr => cases hdr with
      | cons r1 hdr => cases hdr with
      | cons r2 hdr => cases hdr with
      | cons r3 hdr => cases hdr with
      | cons r4 hdr =>
      cases r0
      cases r1
      cases r2
      cases r3
      rename_i c4 ys
      have hget : ∀ j, xs[i * 5 + j]? = (Value.string l[i].txt :: Value.int .i64 l[i].rv :: Value.int .i64 l[i].gr :: Value.int .i64 l[i].rk :: c4 :: ys)[j]? := fun j => by rw [← hy, List.getElem?_drop]
      have hbw := hI.out.1
      have hcell : ∀ j u, xs[i * 5 + j]? = some u → wr.cell? ⟨b, o + i * 5 + j, none⟩ = some u := fun j u hu => by
        have h2 := hm _ u hu
        rw [show o + (i * 5 + j) = o + i * 5 + j by omega] at h2
        have h3 : b < w0.heap.size := by
          rcases Nat.lt_or_ge b w0.heap.size with h' | h'
          · exact h'
          · simp [World.cell?, Array.getElem?_eq_none h'] at h2
        exact (World.cell?_of_block (a := ⟨b, o + i * 5 + j, none⟩) (hbw.block b h3)).trans h2
      have g0 := hcell 0 _ (hget 0)
      have g1 := hcell 1 _ (hget 1)
      have g2 := hcell 2 _ (hget 2)
      have g3 := hcell 3 _ (hget 3)
      have g4 := hcell 4 _ (hget 4)
      rw [Nat.add_zero] at g0
      clear hget hcell hm
      obtain ⟨ad4, cap4, zs, rfl, hzs, hz1, hzm⟩ := rep_row r4
      rw [cutsL_len] at *
      have hzl : zs.length = l[i].cuts.length * 2 := by rw [← hzs.length, flatten_len (k := 2) (fun c hc => by obtain ⟨q, _, rfl⟩ := List.mem_map.1 hc; rfl), cutsL_len]
      have hci := hc l[i] (List.getElem_mem hlt)
      generalize hcn : l[i].cuts.length = cn at *
      have hzmw : ∀ X : Obj, cn = 0 ∨ ∃ a', ad4 = some a' ∧ ∀ j u, zs[j]? = some u → (wr.alloc X).cell? (a'.add j) = some u := fun X => by
        rcases hzm with h | ⟨b4, o4, h, hm4⟩
        · exact .inl h
        · refine .inr ⟨_, h, fun j u hu => ?_⟩
          have h2 := hm4 j u hu
          have h3 : b4 < w0.heap.size := by
            rcases Nat.lt_or_ge b4 w0.heap.size with h' | h'
            · exact h'
            · simp [World.cell?, Array.getElem?_eq_none h'] at h2
          have h4 := (World.cell?_of_block (a := ⟨b4, o4 + j, none⟩) (hbw.block b4 h3)).trans h2
          rw [add_n]
          exact (World.cell?_of_block (Lib.alloc_old wr _ _ (by have := hbw.size; show b4 < _; omega))).trans h4
      go_wp2_with (at_builtin; refine app_wpList Try.underlying29 clone_el rfl _ _ rfl w0.heap.size _ 0 [] rfl ⟨rfl, .inl ⟨rfl, rfl⟩⟩ ad4 cn cap4 zs rfl hzl (hzmw _) hz1 ?c1 ?c2 ?c3 ?_)
      case c1 => omega
      case c2 => omega
      case c3 => simp; exact Nat.le_succ_of_le hbw.size
      intro vc w2 hown2 hgrow2
      have hcg : (∀ b, blk vc = some b → wr.heap.size < b) ∧ Below (wr.heap.size + 1) (wr.alloc (.cells #[.string l[i].txt, .int .i64 l[i].rv, .int .i64 l[i].gr, .int .i64 l[i].rk, .slice ad4 cn cap4] 31)) w2 := by
        have hsz : (wr.alloc (.cells #[.string l[i].txt, .int .i64 l[i].rv, .int .i64 l[i].gr, .int .i64 l[i].rk, .slice ad4 cn cap4] 31)).heap.size = wr.heap.size + 1 := by simp
        refine ⟨fun b hb => ?_, ?_⟩
        · rcases hgrow2 with h | h
          · rw [h.1] at hb; simp [blk, Act.eval] at hb
          · rw [h.1, hsz] at hb; have := Option.some.inj hb; omega
        · exact grew_below hgrow2 (by rw [hsz]; omega) fun b hb => by simp [blk, Act.eval] at hb
      obtain ⟨hcb, hbl2⟩ := hcg
      have hb5 : w2.heap[wr.heap.size]? = some (.cells #[.string l[i].txt, .int .i64 l[i].rv, .int .i64 l[i].gr, .int .i64 l[i].rk, .slice ad4 cn cap4] 31 (0, 0)) := by
        rw [hbl2.block _ (by omega)]; exact new_blk _ _
      obtain ⟨adc, capc, rfl⟩ := slice_of hown2
      have f4 : w2.frozen? ⟨wr.heap.size, 4, none⟩ = false := by simp [World.frozen?, hb5]
      have x0 : w2.cell? ⟨wr.heap.size, 0, none⟩ = some (.string l[i].txt) := by simp [World.cell?, hb5]
      have x1 : w2.cell? ⟨wr.heap.size, 1, none⟩ = some (.int .i64 l[i].rv) := by simp [World.cell?, hb5]
      have x2 : w2.cell? ⟨wr.heap.size, 2, none⟩ = some (.int .i64 l[i].gr) := by simp [World.cell?, hb5]
      have x3 : w2.cell? ⟨wr.heap.size, 3, none⟩ = some (.int .i64 l[i].rk) := by simp [World.cell?, hb5]
      have x4 : w2.cell? ⟨wr.heap.size, 4, none⟩ = some (.slice ad4 cn cap4) := by simp [World.cell?, hb5]
      obtain ⟨hB, gv, hg0, hob, own, hap⟩ := hI.out
      obtain ⟨_, _, ⟨xsI, hxI, hrI, ho1, h7⟩, hlm, hse⟩ := hob
      have hil : (dats (l.take i)).length = i := by rw [dats_len, List.length_take]; omega
      dsimp only at hxI
      rw [hg0, hil] at hxI
      obtain ⟨ad3, cap3, rfl⟩ := slice_of hxI
      have hs2 : wr.heap.size + 1 ≤ w2.heap.size := by have := hbl2.size; simpa using this
      have h3b : ∀ b, blk (.slice ad3 i cap3) = some b → b < wr.heap.size := fun b hb => (owns_block hxI hb).2
      have hk : ∀ (X : Obj) b, b < wr.heap.size → ((w2.setCell ⟨wr.heap.size, 4, none⟩ (.slice adc cn capc)).alloc X).heap[b]? = wr.heap[b]? := fun X b hb => by
        rw [Lib.alloc_old _ _ _ (by simp; omega), Below.heap_setCell _ _ _ _ (show b ≠ wr.heap.size by omega), hbl2.block b (by omega), Lib.alloc_old _ _ _ hb]
      have hown3 : ∀ X : Obj, ((w2.setCell ⟨wr.heap.size, 4, none⟩ (.slice adc cn capc)).alloc X).ownsRow w0.heap.size 31 5 (.slice ad3 i cap3) i xsI := fun X => ownsRow_keep hxI fun b hb => hk X b (h3b b hb)
      have hm3 : ∀ c (j : Nat) (u : Value), c.toList[j]? = some u → ((w2.setCell ⟨wr.heap.size, 4, none⟩ (.slice adc cn capc)).alloc (.cells c 31)).cell? ((⟨w2.heap.size, 0, none⟩ : Addr).add j) = some u := fun c j u hu => by
        have := new_blk (w2.setCell ⟨wr.heap.size, 4, none⟩ (.slice adc cn capc)) (.cells c 31)
        rw [show (w2.setCell ⟨wr.heap.size, 4, none⟩ (.slice adc cn capc)).heap.size = w2.heap.size by simp] at this
        rw [add_n, Nat.zero_add]
        simp only [World.cell?, this]
        rw [← Array.getElem?_toList]
        exact hu
      go_wp2_with (at_builtin; refine app_wpList Try.underlying22 at_el rfl _ _ rfl w0.heap.size _ i xsI rfl (hown3 _) (some ⟨w2.heap.size, 0, none⟩) 1 1 [.string l[i].txt, .int .i64 l[i].rv, .int .i64 l[i].gr, .int .i64 l[i].rk, .slice adc cn capc] rfl rfl (.inr ⟨_, rfl, fun j u hu => hm3 _ j u hu⟩) ?o1 ?o2 ?o3 ?o4 ?_)
      case o1 =>
        exact ⟨rfl, rfl, rfl, rfl, rfl⟩
      case o2 => omega
      case o3 => omega
      case o4 => have := hB.size; omega
      intro v4 w4 hown4 hgrow4
      have hfin : CInv w0 lm0 l (i + 1) v4 w4 := by
        have hs3 : ∀ X : Obj, ((w2.setCell ⟨wr.heap.size, 4, none⟩ (.slice adc cn capc)).alloc X).heap.size = w2.heap.size + 1 := fun X => by simp
        have gr : ∀ b, blk (.slice ad3 i cap3) ≠ some b → b < w2.heap.size + 1 → w4.heap[b]? = ((w2.setCell ⟨wr.heap.size, 4, none⟩ (.slice adc cn capc)).alloc (.cells #[.string l[i].txt, .int .i64 l[i].rv, .int .i64 l[i].gr, .int .i64 l[i].rk, .slice adc cn capc] 31)).heap[b]? := fun b h1 h2 => by
          rcases hgrow4 with h | h
          · exact h.2.2.2.2.2 b h1
          · exact h.2.block b (by rw [hs3]; exact h2)
        refine step_inv (w2 := w2) (own := own) hlt hB ?_ hg0 hrI h7 hap (by rw [hcn]; exact hown2) hzs hz1 hcb ?_ h3b ?_ ?_ hown4 ?_
        · have b1 : Below w0.heap.size w0 _ := (hB.alloc hB.size _).trans (hbl2.mono (by have := hB.size; omega))
          exact (((b1.setCell (p := ⟨wr.heap.size, 4, none⟩) hB.size _).alloc (by simp; have := hB.size; omega) _).trans (grew_below hgrow4 (by rw [hs3]; have := hB.size; omega) fun b hb => (owns_block hxI hb).1))
        · intro b hb
          rcases hgrow4 with h | h
          · rw [h.1] at hb; exact .inl hb
          · rw [h.1, hs3] at hb
            have hb := Option.some.inj hb
            refine .inr ⟨by omega, fun h => ?_⟩
            have := (owns_block hown2 h).2
            omega
        · intro b h1 h2
          rw [gr b h2 (by omega)]
          exact hk _ b h1
        · intro b hb
          have q1 := hcb b hb
          have q2 := (owns_block hown2 hb).2
          rw [gr b (fun h => by have := h3b b h; omega) (by omega), Lib.alloc_old _ _ _ (by simpa using q2), Below.heap_setCell _ _ _ _ (show b ≠ wr.heap.size by omega)]
        · intro u hu
          simp only [List.mem_append, List.mem_cons, List.not_mem_nil, or_false] at hu
          rcases hu with hu | rfl | rfl | rfl | rfl | rfl
          · exact ho1 u hu
          all_goals rfl
      clear hown4 hgrow4 hown3 hm3 hk h3b hxI hrI h7 hap
      go_wp2
      go_roundw
      case rel => exact ⟨i + 1, by go_num, ⟨by omega⟩, ⟨hfin⟩⟩
      case measure => simp [intOf]; omega
    · have hil : i = l.length := by have := hi.out; omega
      subst hil
      obtain ⟨hB, gv, hg0, hob, own, hap⟩ := hI.out
      rw [List.take_length] at hob hap
      go_wp2
      go_ret
      exact ⟨u3, lmz w0 lm0, rfl, hB, fun b hb => if_pos hb, gv, hg0, hob, own, hap⟩
end Go.Proofs.Ytihgpnfkadldeaa.AM

end
section
/- With the reference's Copy told: what the small machine computes of this program, Go computes. No condition. -/
namespace Go.Proofs.Ytihgpnfkadldeaa.AM
set_option linter.unusedSimpArgs false
set_option linter.unusedVariables false
open Go.RowKit
/-- A plain row of two numbers. -/
def cutOf : List PV → Option (Int × Int)
  | [.sc (.int .i64 a), .sc (.int .i64 b)] => some (a, b)
  | _ => none
/-- Cuts, read back. -/
def cutsOfL : List (List PV) → Option (List (Int × Int))
  | [] => some []
  | c :: l => match cutOf c, cutsOfL l with
    | some q, some r => some (q :: r)
    | _, _ => none
/-- An atom, read back. -/
def atOf : List PV → Option At
  | [.sc (.string t), .sc (.int .i64 rv), .sc (.int .i64 gr), .sc (.int .i64 rk), .sl 2 c] => match cutsOfL c with
    | some cs => some ⟨t, rv, gr, rk, cs⟩
    | none => none
  | _ => none
def atsOf : List (List PV) → Option (List At)
  | [] => some []
  | c :: l => match atOf c, atsOf l with
    | some q, some r => some (q :: r)
    | _, _ => none
theorem cutOf_eq {c : List PV} {q : Int × Int} (h : cutOf c = some q) : c = cutV q := by
  unfold cutOf at h
  split at h
  · obtain rfl := Option.some.inj h; rfl
  · simp at h
theorem cutsOfL_eq : ∀ {l : List (List PV)} {r : List (Int × Int)}, cutsOfL l = some r → l = cutsL r
  | [], r, h => by obtain rfl := Option.some.inj h; rfl
  | c :: l, r, h => by
    unfold cutsOfL at h
    split at h
    · rename_i q r' h1 h2
      obtain rfl := Option.some.inj h
      rw [cutOf_eq h1, cutsOfL_eq h2]; rfl
    · simp at h
theorem atOf_eq {c : List PV} {a : At} (h : atOf c = some a) : c = a.pv := by
  unfold atOf at h
  split at h
  · split at h
    · rename_i cs h1
      obtain rfl := Option.some.inj h
      rw [cutsOfL_eq h1]; rfl
    · simp at h
  · simp at h
theorem atsOf_eq : ∀ {l : List (List PV)} {r : List At}, atsOf l = some r → l = ats r
  | [], r, h => by obtain rfl := Option.some.inj h; rfl
  | c :: l, r, h => by
    unfold atsOf at h
    split at h
    · rename_i q r' h1 h2
      obtain rfl := Option.some.inj h
      rw [atOf_eq h1, atsOf_eq h2]; rfl
    · simp at h
theorem cutsOfL_of : ∀ l : List (Int × Int), cutsOfL (cutsL l) = some l
  | [] => rfl
  | q :: l => by
    show cutsOfL (cutV q :: cutsL l) = _
    unfold cutsOfL
    rw [cutsOfL_of l]; rfl
theorem atsOf_of : ∀ l : List At, atsOf (ats l) = some l
  | [] => rfl
  | a :: l => by
    show atsOf (a.pv :: ats l) = _
    unfold atsOf
    rw [atsOf_of l, show atOf a.pv = some a from by simp only [atOf, At.pv, cutsOfL_of]]
/-- What the reference's Copy answers. -/
def cpF : List PV → Option Ret
  | [.sl 5 l] => match atsOf l with
    | some r => if r.length * 64 ≤ 140737488355328 ∧ r.all (fun a => decide (a.cuts.length * 16 ≤ 140737488355328)) = true then some (.deep 31 5 (dats r)) else none
    | none => none
  | _ => none
theorem call_cp : Callable Try.prog 17 := ⟨_, Try.func17, by decide +kernel, by kernel_rfl⟩
theorem cpF_ok : ∀ args r, cpF args = some r → CallOK Try.prog 17 args r ∧ Callable Try.prog 17 := by
  intro args r h
  unfold cpF at h
  split at h
  · split at h
    · rename_i l r' h1
      split at h
      · rename_i hc
        obtain rfl := Option.some.inj h
        rw [atsOf_eq h1]
        exact ⟨copy_ok r' hc.1 fun a ha => by simpa using List.all_eq_true.1 hc.2 a ha, call_cp⟩
      · simp at h
    · simp at h
  · simp at h
/-- The whole table of what is told by hand. -/
def EW : Env := EX cpF
theorem EWok : EnvOk Try.prog EW := envOk _ cpF_ok
theorem refCopy (l : List At) (hl : l.length < 1099511627776) (hc : ∀ a ∈ l, a.cuts.length < 1099511627776) : Run (EX cpF) 17 [.sl 5 (ats l)] = some (.deep 31 5 (dats l)) := by
  rw [Run_ext _ _ _ rfl]
  show cpF [.sl 5 (ats l)] = _
  simp only [cpF, atsOf_of]
  rw [if_pos ⟨by omega, by rw [List.all_eq_true]; intro a ha; have := hc a ha; exact decide_eq_true (by omega)⟩]
end Go.Proofs.Ytihgpnfkadldeaa.AM

end
section
/- Atoms on the small machine: whether they are any (Is). For rows of at most 2^63 - 1 atoms with texts of less than 2^40 bytes. -/
namespace Go.Proofs.Ytihgpnfkadldeaa.AM
set_option linter.unusedSimpArgs false
set_option linter.unusedVariables false
open Go Go.Proofs.Ytihgpnfkadldeaa.U
variable {cp : List PV → Option Ret}

def inn (n a b : Int) : Bool := decide (a ≤ n) && decide (n ≤ b)
theorem within (n a b : Int) : Run (EX cp) 81 [pi n, pi a, pi b] = some (.val (pb (inn n a b))) := by
  rw [run_fn _ A_atom_within _ rfl rfl rfl]
  by_cases c : a ≤ n
  · simp [A_atom_within, c, inn]
  · simp [A_atom_within, c, inn]
theorem isGroup (n : Int) : Run (EX cp) 82 [pi n] = some (.val (pb (inn n (-1) 59))) := by
  have h := within (cp := cp) n (-1) 59
  rw [run_fn _ A_atom_isGroup _ rfl rfl rfl]
  simp [A_atom_isGroup, h]
def isCut (q : Int × Int) : Bool := inn q.1 0 1000000 && inn q.2 (-1) 59
theorem is1 (a b : Int) : Run (EX cp) 83 [.st [pi a, pi b]] = some (.val (pb (!isCut (a, b)))) := by
  have h1 := within (cp := cp) a 0 1000000
  have h2 := isGroup (cp := cp) b
  rw [run_fn _ A_atom_is_1 _ rfl rfl rfl]
  cases c : inn a 0 1000000 <;> rw [c] at h1 <;> simp [A_atom_is_1, h1, h2, isCut, c]
def isAt (a : At) : Bool := !decide (a.txt = ⟨#[]⟩) && decide (sizeAt a.txt 0 = a.txt.size) && inn a.rv 0 1000000 && inn a.rk 0 1000000 && inn a.gr (-1) 59 && decide (a.cuts.length ≤ 200) && a.cuts.all isCut
def ncutP : List PV → Bool
  | [.sc (.int _ a), .sc (.int _ b)] => !isCut (a, b)
  | _ => false
set_option maxHeartbeats 2000000 in
theorem isOne (a : At) (hs : a.txt.size < 1099511627776) (hc : a.cuts.length ≤ 9223372036854775807) : Run (EX cp) 58 [.st a.pv] = some (.val (pb (isAt a))) := by
  have h1 := utfSize (cp := cp) a.txt 0 hs
  have h2 := within (cp := cp) a.rv 0 1000000
  have h3 := within (cp := cp) a.rk 0 1000000
  have h4 := isGroup (cp := cp) a.gr
  have h5 := containsFuncC (cp := cp) (cutsL a.cuts) 83 [] ncutP (by simpa using hc) (fun r hr => by
    obtain ⟨q, hq, rfl⟩ := List.mem_map.1 hr
    exact ⟨rfl, is1 q.1 q.2⟩)
  have h6 : (cutsL a.cuts).any ncutP = !(a.cuts.all isCut) := by
    simp [cutsL, cutV, List.any_map, Function.comp_def, ncutP, List.not_all_eq_any_not]
  rw [h6] at h5
  rw [run_fn _ A_atom_is _ rfl rfl rfl, At.pv, isAt]
  by_cases c1 : a.txt = ⟨#[]⟩
  · simp (disch := omega) [A_atom_is, c1]
  by_cases c2 : sizeAt a.txt 0 = a.txt.size
  · cases c3 : inn a.rv 0 1000000 <;> rw [c3] at h2
    · simp (disch := omega) [A_atom_is, c1, c2, h1, h2]
    cases c4 : inn a.rk 0 1000000 <;> rw [c4] at h3
    · simp (disch := omega) [A_atom_is, c1, c2, h1, h2, h3]
    cases c5 : inn a.gr (-1) 59 <;> rw [c5] at h4
    · simp (disch := omega) [A_atom_is, c1, c2, h1, h2, h3, h4]
    by_cases c6 : a.cuts.length ≤ 200
    · simp (disch := omega) [A_atom_is, c1, c2, h1, h2, h3, h4, c6, h5, dec_no, dec_yes]
    · simp (disch := omega) [A_atom_is, c1, c2, h1, h2, h3, h4, c6, dec_no, dec_yes]
  · simp (disch := omega) [A_atom_is, c1, c2, h1, dec_no, dec_yes]
theorem isNot (a : At) (hs : a.txt.size < 1099511627776) (hc : a.cuts.length ≤ 9223372036854775807) : Run (EX cp) 57 [.st a.pv] = some (.val (pb (!isAt a))) := by
  have h := isOne (cp := cp) a hs hc
  rw [At.pv] at h ⊢
  rw [run_fn _ A_atom_Is_1 _ rfl rfl rfl]
  simp [A_atom_Is_1, h]
theorem indexFuncA_loop (l : List At) (fid : FuncId) (p : At → Bool) (hl : l.length ≤ 9223372036854775807) (hp : ∀ c ∈ l, Run (EX cp) fid [.st c.pv] = some (.val (pb (p c)))) : ∀ (m i : Nat), m + i = l.length →
    Code (EX cp) L_slices_IndexFunc_api_Atom_api_Atom_0 ⟨[(0, .p (.sl 5 (ats l))), (1, .p (.fn fid [])), (7, .p (pi l.length)), (8, .p (pi i))], []⟩ =
      if (l.drop i).any p then some (.ret, ⟨[(4, .p (pi ((i + (l.drop i).findIdx p : Nat) : Int)))], []⟩)
      else some (.ex 0, ⟨[(0, .p (.sl 5 (ats l))), (1, .p (.fn fid [])), (7, .p (pi l.length)), (8, .p (pi l.length)), (9, .p (pb false))], []⟩) := by
  intro m
  induction m with
  | zero =>
    intro i hi
    have : i = l.length := by omega
    subst this
    rw [L_slices_IndexFunc_api_Atom_api_Atom_0, k_loop]
    simp
  | succ m ih =>
    intro i hi
    have hlt : i < l.length := by omega
    have hg := ats_at l i hlt
    have hr := hp l[i] (List.getElem_mem hlt)
    rw [List.drop_eq_getElem_cons hlt, List.any_cons, List.findIdx_cons]
    generalize l[i] = a at *
    simp only [At.pv] at hg hr
    cases hpc : p a with
    | true =>
      rw [hpc] at hr
      rw [L_slices_IndexFunc_api_Atom_api_Atom_0, k_loop]
      simp (disch := omega) [dec_yes, hlt, hg, hr]
    | false =>
      have ih' := ih (i+1) (by omega)
      rw [hpc] at hr
      rw [Bool.false_or, cond_false]
      have e : ((i + ((l.drop (i+1)).findIdx p + 1) : Nat) : Int) = ((i + 1 + (l.drop (i+1)).findIdx p : Nat) : Int) := by omega
      rw [e, ← ih', L_slices_IndexFunc_api_Atom_api_Atom_0, k_loop]
      simp (disch := omega) [dec_yes, hlt, hg, hr, wrap_in]
theorem containsFuncA (l : List At) (fid : FuncId) (p : At → Bool) (hl : l.length ≤ 9223372036854775807) (hp : ∀ c ∈ l, Run (EX cp) fid [.st c.pv] = some (.val (pb (p c)))) :
    Run (EX cp) 56 [.sl 5 (ats l), .fn fid []] = some (.val (pb (l.any p))) := by
  have h := indexFuncA_loop l fid p hl hp l.length 0 (by omega)
  simp only [List.drop_zero, Nat.zero_add, Int.ofNat_zero, Int.natCast_zero] at h
  have hi : Run (EX cp) 79 [.sl 5 (ats l), .fn fid []] = some (.val (pi (if l.any p then (l.findIdx p : Int) else -1))) := by
    rw [run_fn _ A_slices_IndexFunc_api_Atom_api_Atom _ rfl rfl rfl]
    cases hf : l.any p <;> rw [hf] at h <;> simp at h <;> simp [A_slices_IndexFunc_api_Atom_api_Atom, h]
  rw [run_fn _ A_slices_ContainsFunc_api_Atom_api_Atom _ rfl rfl rfl]
  cases hf : l.any p <;> rw [hf] at hi
  · simp only [Bool.false_eq_true, if_false] at hi
    simp [A_slices_ContainsFunc_api_Atom_api_Atom, hi]
  · simp only [if_true] at hi
    simp (disch := omega) [A_slices_ContainsFunc_api_Atom_api_Atom, hi, dec_yes]
def isAts (l : List At) : Bool := decide (l.length ≤ 4000) && l.all isAt
theorem atomIs (l : List At) (hl : l.length ≤ 9223372036854775807) (hs : ∀ a ∈ l, a.txt.size < 1099511627776 ∧ a.cuts.length ≤ 9223372036854775807) : Run (EX cp) 25 [.sl 5 (ats l)] = some (.val (pb (isAts l))) := by
  have h := containsFuncA (cp := cp) l 57 (fun a => !isAt a) hl fun a ha => isNot a (hs a ha).1 (hs a ha).2
  have e : (l.any fun a => !isAt a) = !(l.all isAt) := by rw [List.not_all_eq_any_not]
  rw [e] at h
  rw [run_fn _ A_atom_Is _ rfl rfl rfl]
  by_cases c : l.length ≤ 4000
  · simp (disch := omega) [A_atom_Is, h, isAts, c, dec_yes]
  · simp (disch := omega) [A_atom_Is, isAts, c, dec_no]
end Go.Proofs.Ytihgpnfkadldeaa.AM

end
section
/- What the laws of layer 17 ask first: the document's example (known). No condition. -/
namespace Go.Proofs.Ytihgpnfkadldeaa.AM
set_option linter.unusedSimpArgs false
set_option linter.unusedVariables false
open Go Go.Proofs.Ytihgpnfkadldeaa.U
variable {cp : List PV → Option Ret}

theorem pts_ae : points [97, 195, 169] = [97, 233] := by
  have e : ([97, 195, 169] : List UInt8) = enc 97 ++ (enc 233 ++ []) := by decide +kernel
  rw [e, points_enc1 (by decide), points_enc1 (by decide), points_nil]
def kn0 : List At := [⟨chS 97, 1, 3, 0, []⟩, ⟨chS 233, 1, 3, 0, []⟩]
def kn1 : List At := [⟨chS 97, 1, 3, 0, [(2, 4)]⟩, ⟨chS 233, 1, 3, 0, []⟩]
theorem fit_few (l : List At) (h1 : l.length ≤ 100000) (h2 : ∀ a ∈ l, a.txt.size ≤ 1000000 ∧ a.cuts.length ≤ 1000000) : Fit l := by
  refine ⟨by omega, ?_, fun a ha => by have := (h2 a ha).2; omega⟩
  have : sumT l ≤ l.length * 1000000 := by
    clear h1
    induction l with
    | nil => simp [sumT]
    | cons a l ih =>
      have := ih fun b hb => h2 b (by simp [hb])
      have h3 := (h2 a (by simp)).1
      rw [sumT_cons, List.length_cons, Nat.add_mul]
      omega
  have : l.length * 1000000 ≤ 100000 * 1000000 := Nat.mul_le_mul_right _ h1
  omega
theorem ats_eq (a b : List At) (h : a = b) : ats a = ats b := by rw [h]
set_option maxHeartbeats 4000000 in
set_option maxRecDepth 10000 in
theorem known17 : Run (EX cp) 15 [] = some (.val (pb true)) := by
  have c1 := atomPut (cp := cp) [] 0 ⟨#[97, 195, 169]⟩ 1 3 0 (by simp) (by simp) (by decide)
  have e1 : putL [] (clampN 0 ([] : List At).length) (L ⟨#[97, 195, 169]⟩) 1 3 0 = kn0 := by
    show [] ++ newAts [97, 195, 169] 1 3 0 ++ [] = kn0
    unfold newAts; rw [pts_ae]; rfl
  rw [e1] at c1
  have c2 := atomCut (cp := cp) kn0 0 2 4 (by decide) (by decide +kernel)
  have e2 : cutL kn0 0 2 4 = kn1 := rfl
  rw [e2] at c2
  have f0 : Fit kn0 := fit_few _ (by decide) (by decide +kernel)
  have f1 : Fit kn1 := fit_few _ (by decide) (by decide +kernel)
  have c3 := atomPlaces (cp := cp) kn1 2 [] f1 (by simp)
  have e3 : places 2 [] kn1 = [0, 0, 2] := by decide +kernel
  rw [e3] at c3
  have c4 := atomIs (cp := cp) kn0 (by decide) (by decide +kernel)
  have e4 : isAts kn0 = true := by decide +kernel
  rw [e4] at c4
  have t1 := atomText (cp := cp) kn0 1 [] f0 (by simp)
  rw [show txtS 1 [] kn0 = ⟨#[97, 195, 169]⟩ from by decide +kernel] at t1
  have t2 := atomText (cp := cp) kn1 2 [] f1 (by simp)
  rw [show txtS 2 [] kn1 = ⟨#[195, 169]⟩ from by decide +kernel] at t2
  have t3 := atomText (cp := cp) kn1 1 [] f1 (by simp)
  rw [show txtS 1 [] kn1 = ⟨#[97, 195, 169]⟩ from by decide +kernel] at t3
  have t4 := atomText (cp := cp) kn1 2 [4] f1 (by simp)
  rw [show txtS 2 [4] kn1 = ⟨#[97, 195, 169]⟩ from by decide +kernel] at t4
  have t5 := atomText (cp := cp) kn1 2 [3] f1 (by simp)
  rw [show txtS 2 [3] kn1 = ⟨#[]⟩ from by decide +kernel] at t5
  have c5 := atomIs (cp := cp) [⟨⟨#[]⟩, 0, 0, 0, []⟩] (by simp) (by decide +kernel)
  rw [show isAts [⟨⟨#[]⟩, 0, 0, 0, []⟩] = false from by decide +kernel] at c5
  have l0 : kn0.length = 2 := rfl
  have l1 : kn1.length = 2 := rfl
  have g0 : (ats kn0)[0]? = some [.sc (.string (chS 97)), pi 1, pi 3, pi 0, .sl 2 []] := rfl
  have g1 : (ats kn0)[1]? = some [.sc (.string (chS 233)), pi 1, pi 3, pi 0, .sl 2 []] := rfl
  have k0 : (ats kn0).take 2 = ats kn0 := rfl
  have k1 : (ats kn1).take 2 = ats kn1 := rfl
  have ch : chS 233 = ⟨#[195, 169]⟩ := by decide +kernel
  have i4 : ints [4] = [[pi 4]] := rfl
  have i3 : ints [3] = [[pi 3]] := rfl
  have ip : ints [0, 0, 2] = [[pi 0], [pi 0], [pi 2]] := rfl
  rw [i4] at t4
  rw [i3] at t5
  rw [ip] at c3
  have a0 : ats [⟨⟨#[]⟩, 0, 0, 0, []⟩] = [[pS #[], pi 0, pi 0, pi 0, .sl 2 []]] := rfl
  rw [a0] at c5
  simp only [ats_nil, ints_nil] at c1 c2 c3 c4 t1 t2 t3
  generalize kn0 = x0 at *
  generalize kn1 = x1 at *
  rw [run_fn _ A_law17_known _ rfl rfl rfl]
  simp [A_law17_known, c1, c2, c3, c4, t1, t2, t3, t4, t5, c5, l0, l1, g0, g1, k0, k1, ch, -getElem?_pos]
end Go.Proofs.Ytihgpnfkadldeaa.AM

end
section
/- A law's arguments as lists; the law AtomPlaces on the small machine. No condition. -/
namespace Go.Proofs.Ytihgpnfkadldeaa.AM
set_option linter.unusedSimpArgs false
set_option linter.unusedVariables false
open Go Go.Proofs.Ytihgpnfkadldeaa.U
variable {cp : List PV → Option Ret}

theorem wt_u8 {x : PV} (h : WT (.i .u8) x) : ∃ b : UInt8, x = .sc (.int .u8 b.toNat) := by
  cases h with
  | i hw =>
    rename_i n
    have h1 : 0 ≤ n ∧ n ≤ 255 := by
      simp [Lit.wf, IntKind.min, IntKind.max, IntKind.signed, IntKind.bits] at hw
      exact hw
    refine ⟨UInt8.ofNat n.toNat, ?_⟩
    rw [UInt8.toNat_ofNat']
    congr 2
    omega
theorem wt_i64 {x : PV} (h : WT (.i .i64) x) : ∃ n : Int, x = pi n ∧ -9223372036854775808 ≤ n ∧ n ≤ 9223372036854775807 := by
  cases h with
  | i hw =>
    rename_i n
    refine ⟨n, rfl, ?_⟩
    simp [Lit.wf, IntKind.min, IntKind.max, IntKind.signed, IntKind.bits] at hw
    omega
theorem wt_tx {x : PV} (h : WT .tx x) : ∃ s : ByteArray, x = .sc (.string s) ∧ s.size ≤ 9223372036854775807 := by
  cases h with
  | s hs => exact ⟨_, rfl, by simpa [maxLen] using hs⟩
theorem wtr_u8 : ∀ {l : List (List PV)}, WTR [.i .u8] l → ∃ bs : List UInt8, l = bRows bs
  | _, .nil => ⟨[], rfl⟩
  | _, .cons hc hl => by
    obtain ⟨bs, rfl⟩ := wtr_u8 hl
    cases hc with
    | cons h1 h2 =>
      cases h2
      obtain ⟨b, rfl⟩ := wt_u8 h1
      exact ⟨b :: bs, rfl⟩
theorem wtr_i64 : ∀ {l : List (List PV)}, WTR [.i .i64] l → ∃ ns : List Int, l = ints ns
  | _, .nil => ⟨[], rfl⟩
  | _, .cons hc hl => by
    obtain ⟨ns, rfl⟩ := wtr_i64 hl
    cases hc with
    | cons h1 h2 =>
      cases h2
      obtain ⟨n, rfl, _⟩ := wt_i64 h1
      exact ⟨n :: ns, rfl⟩
theorem wtr_tx : ∀ {l : List (List PV)}, WTR [.tx] l → ∃ ss : List ByteArray, l = strs ss ∧ ∀ s ∈ ss, s.size ≤ 9223372036854775807
  | _, .nil => ⟨[], rfl, by simp⟩
  | _, .cons hc hl => by
    obtain ⟨ss, rfl, h3⟩ := wtr_tx hl
    cases hc with
    | cons h1 h2 =>
      cases h2
      obtain ⟨s, rfl, hs⟩ := wt_tx h1
      refine ⟨s :: ss, rfl, fun x hx => ?_⟩
      rcases List.mem_cons.1 hx with rfl | hx
      · exact hs
      · exact h3 x hx
theorem wt_u8s {x : PV} (h : WTA (.one (.sl [.i .u8])) x) : ∃ bs : List UInt8, x = .sl 1 (bRows bs) ∧ bs.length ≤ 9223372036854775807 := by
  cases h with
  | one h => cases h with
    | sl hl hr =>
      obtain ⟨bs, rfl⟩ := wtr_u8 hr
      exact ⟨bs, rfl, by simpa [maxLen] using hl⟩
theorem wt_i64s {x : PV} (h : WTA (.one (.sl [.i .i64])) x) : ∃ ns : List Int, x = .sl 1 (ints ns) ∧ ns.length ≤ 9223372036854775807 := by
  cases h with
  | one h => cases h with
    | sl hl hr =>
      obtain ⟨bs, rfl⟩ := wtr_i64 hr
      exact ⟨bs, rfl, by simpa [maxLen] using hl⟩
theorem wt_strs {x : PV} (h : WTA (.one (.sl [.tx])) x) : ∃ ss : List ByteArray, x = .sl 1 (strs ss) ∧ ss.length ≤ 9223372036854775807 ∧ ∀ s ∈ ss, s.size ≤ 9223372036854775807 := by
  cases h with
  | one h => cases h with
    | sl hl hr =>
      obtain ⟨bs, rfl, hb⟩ := wtr_tx hr
      exact ⟨bs, rfl, by simpa [maxLen] using hl, hb⟩
theorem wt_str {x : PV} (h : WTA (.one .tx) x) : ∃ s : ByteArray, x = .sc (.string s) ∧ s.size ≤ 9223372036854775807 := by
  cases h with
  | one h => exact wt_tx h
theorem wt_int {x : PV} (h : WTA (.one (.i .i64)) x) : ∃ n : Int, x = pi n ∧ -9223372036854775808 ≤ n ∧ n ≤ 9223372036854775807 := by
  cases h with
  | one h => exact wt_i64 h
theorem wt_byte {x : PV} (h : WTA (.one (.i .u8)) x) : ∃ b : UInt8, x = .sc (.int .u8 b.toNat) := by
  cases h with
  | one h => exact wt_u8 h
theorem bRows_at (l : List UInt8) (n : Nat) (h : n < l.length) : (bRows l)[n]? = some [.sc (.int .u8 (l[n].toNat : Int))] := by simp [bRows, List.getElem?_eq_getElem h]
theorem tmod_nat (a b : Nat) : ((a : Int).tmod (b : Int)) = ((a % b : Nat) : Int) := by rw [Int.tmod_eq_emod_of_nonneg (by omega)]; rfl

/-! ### AtomPlaces -/
/-- The atoms of the law: put in at revision 1 by group 0, cut at revision 2 by group 1. -/
def APinv (ts : List ByteArray) (n : Nat) (l : List At) : Prop := (l.map fun a => a.txt) = ts ∧ ∀ a ∈ l, a.rv = 1 ∧ a.gr = 0 ∧ a.cuts.length ≤ n ∧ ∀ q ∈ a.cuts, q = (2, 1)
theorem APinv.cut {ts : List ByteArray} {n : Nat} {l : List At} (h : APinv ts n l) (i : Nat) (hi : i < l.length) : APinv ts (n + 1) (cutL l i 2 1) := by
  rw [cutL_in l i 2 1 hi]
  refine ⟨?_, fun a ha => ?_⟩
  · rw [← h.1, List.map_set]
    refine List.ext_getElem (by simp) fun k h1 h2 => ?_
    rw [List.getElem_set]
    split
    · rename_i e; subst e; simp [cutAt]
    · rfl
  · rcases List.mem_or_eq_of_mem_set ha with ha | rfl
    · obtain ⟨h1, h2, h3, h4⟩ := h.2 a ha
      exact ⟨h1, h2, by omega, h4⟩
    · obtain ⟨h1, h2, h3, h4⟩ := h.2 _ (List.getElem_mem hi)
      refine ⟨h1, h2, by simp [cutAt]; exact h3, fun q hq => ?_⟩
      rcases List.mem_append.1 hq with hq | hq
      · exact h4 q hq
      · simpa using hq
theorem APinv.len {ts : List ByteArray} {n : Nat} {l : List At} (h : APinv ts n l) : l.length = ts.length := by rw [← h.1]; simp
theorem cutL_length (l : List At) (i rv gr : Int) : (cutL l i rv gr).length = l.length := by
  unfold cutL; split
  · split <;> simp
  · rfl
theorem cuts_loop (ts : List ByteArray) (s : ByteArray) (bs : List UInt8) (hb : bs.length ≤ 12) (hts : ts.length ≤ 1000) : ∀ (m i : Nat) (l : List At), m + i = bs.length → APinv ts i l →
    ∃ l' i', Code (EX cp) L_law17_AtomPlaces_1 ⟨[(1, .p (.sl 1 (bRows bs))), (5, .p (.sc (.string s))), (7, .ms 7 0 l.length), (8, .p (pi i))], [(7, .row 31 5 false (ats l))]⟩ =
      some (.ex 2, ⟨[(1, .p (.sl 1 (bRows bs))), (5, .p (.sc (.string s))), (7, .ms 7 0 l'.length), (8, .p (pi i')), (49, .p (pb false))], [(7, .row 31 5 false (ats l'))]⟩) ∧ APinv ts 12 l' := by
  intro m
  induction m with
  | zero =>
    intro i l hi hI
    have : i = bs.length := by omega
    subst this
    refine ⟨l, bs.length, ?_, hI.1, fun a ha => by have := hI.2 a ha; exact ⟨this.1, this.2.1, by omega, this.2.2.2⟩⟩
    rw [L_law17_AtomPlaces_1, k_loop]
    simp (disch := omega) [dec_yes, dec_no]
  | succ m ih =>
    intro i l hi hI
    have hlt : i < bs.length := by omega
    have hlen := hI.len
    by_cases hz : l.length = 0
    · refine ⟨l, i, ?_, hI.1, fun a ha => by have := hI.2 a ha; exact ⟨this.1, this.2.1, by omega, this.2.2.2⟩⟩
      rw [L_law17_AtomPlaces_1, k_loop]
      simp (disch := omega) [dec_yes, dec_no, hz, hlt]
    · have hg := bRows_at bs i hlt
      generalize bs[i] = b at *
      have hk : b.toNat % l.length < l.length := Nat.mod_lt _ (by omega)
      have hc := atomCut (cp := cp) l ((b.toNat % l.length : Nat) : Int) 2 1 (by omega) (fun a ha => by have := (hI.2 a ha).2.2.1; omega)
      have hI' := hI.cut (b.toNat % l.length) hk
      have hl' := cutL_length l ((b.toNat % l.length : Nat) : Int) 2 1
      have htm := tmod_nat b.toNat l.length
      generalize cutL l ((b.toNat % l.length : Nat) : Int) 2 1 = l1 at *
      obtain ⟨l', i', h1, h2⟩ := ih (i+1) l1 (by omega) hI'
      have hbl := b.toNat_lt
      have hne : ¬ l = [] := fun e => hz (by rw [e]; rfl)
      rw [Int.natCast_emod] at hc
      refine ⟨l', i', ?_, h2⟩
      rw [← h1, L_law17_AtomPlaces_1, k_loop]
      simp (disch := omega) [dec_yes, dec_no, hlt, hg, wrap_in, htm, hc, hl', hne, -getElem?_pos]

/-- The texts put together, as far as each is short. -/
theorem texts_loop (ts : List ByteArray) (bs : List UInt8) (ht : ts.length ≤ 8) : ∀ (m i : Nat) (s : ByteArray), m + i = ts.length → s.size ≤ 20 * i →
    Code (EX cp) L_law17_AtomPlaces_0 ⟨[(0, .p (.sl 1 (strs ts))), (1, .p (.sl 1 (bRows bs))), (5, .p (.sc (.string s))), (6, .p (pi i))], []⟩ = some (.ret, ⟨[(4, .p (pb true))], []⟩) ∨
    ∃ s', Code (EX cp) L_law17_AtomPlaces_0 ⟨[(0, .p (.sl 1 (strs ts))), (1, .p (.sl 1 (bRows bs))), (5, .p (.sc (.string s))), (6, .p (pi i))], []⟩ = some (.ex 0, ⟨[(0, .p (.sl 1 (strs ts))), (1, .p (.sl 1 (bRows bs))), (5, .p (.sc (.string s'))), (6, .p (pi ts.length)), (24, .p (pb false))], []⟩) ∧ s'.size ≤ 20 * ts.length := by
  intro m
  induction m with
  | zero =>
    intro i s hi hs
    have : i = ts.length := by omega
    subst this
    refine .inr ⟨s, ?_, hs⟩
    rw [L_law17_AtomPlaces_0, k_loop]
    simp
  | succ m ih =>
    intro i s hi hs
    have hlt : i < ts.length := by omega
    have hg := strs_at ts i hlt
    generalize ts[i] = x at *
    by_cases c : x.size ≤ 20
    · have hsz : (s ++ x).size = s.size + x.size := by simp
      rcases ih (i+1) (s ++ x) (by omega) (by omega) with h | ⟨s', h, h2⟩
      · left
        rw [← h, L_law17_AtomPlaces_0, k_loop]
        simp (disch := omega) [dec_yes, dec_no, hlt, hg, wrap_in, if_yes]
      · right
        refine ⟨s', ?_, h2⟩
        rw [← h, L_law17_AtomPlaces_0, k_loop]
        simp (disch := omega) [dec_yes, dec_no, hlt, hg, wrap_in, if_yes]
    · left
      rw [L_law17_AtomPlaces_0, k_loop]
      simp (disch := omega) [dec_yes, dec_no, hlt, hg]
theorem places_test (l : List At) (s : ByteArray) (hf : Fit l) : ∀ (m i : Nat), m + i = l.length + 1 →
    Code (EX cp) L_law17_AtomPlaces_2 ⟨[(5, .p (.sc (.string s))), (7, .ms 7 0 l.length), (9, .ms 9 0 (l.length + 1)), (10, .p (pi i))], [(7, .row 31 5 true (ats l)), (9, .row 3 1 false (ints (places 2 [] l)))]⟩ =
      some (.ex 4, ⟨[(5, .p (.sc (.string s))), (7, .ms 7 0 l.length), (9, .ms 9 0 (l.length + 1)), (10, .p (pi ((l.length + 1 : Nat) : Int))), (73, .p (pb false))], [(7, .row 31 5 true (ats l)), (9, .row 3 1 false (ints (places 2 [] l)))]⟩) := by
  intro m
  induction m with
  | zero =>
    intro i hi
    have : i = l.length + 1 := by omega
    subst this
    rw [L_law17_AtomPlaces_2, k_loop]
    simp (disch := omega) [dec_no]
  | succ m ih =>
    intro i hi
    have hl := hf.len
    have hle : i ≤ l.length := by omega
    have hg : (ints (places 2 [] l))[i]? = some [pi ((txtF 2 [] (l.take i)).length : Nat)] := by rw [ints_get, places_at 2 [] l i hle]; rfl
    have hft : Fit (l.take i) := ⟨by rw [List.length_take]; omega, by have := sumT_take l i; have := hf.sum; omega, fun a ha => hf.cuts a (List.mem_of_mem_take ha)⟩
    have ht := atomText (cp := cp) (l.take i) 2 [] hft (by simp)
    have hsz : (txtS 2 [] (l.take i)).size = (txtF 2 [] (l.take i)).length := size_mk _
    have hat : (ats l).take i = ats (l.take i) := by simp [ats, List.map_take]
    have ih' := ih (i+1) (by omega)
    simp only [ints_nil] at ht
    generalize txtS 2 [] (l.take i) = x at *
    have hi2 : i < (places 2 [] l).length := by rw [places_len]; omega
    generalize places 2 [] l = pl at *
    rw [← ih', L_law17_AtomPlaces_2, k_loop]
    simp (disch := omega) [dec_yes, dec_no, hle, hg, wrap_in, hat, ht, hsz, if_yes, -getElem?_pos]

/-- All seen: the text is all texts. -/
theorem txtF_all (rev : Int) (u : List Int) : ∀ (l : List At), (∀ a ∈ l, a.vis rev u = true) → txtF rev u l = (l.map fun a => a.txt).flatMap L
  | [], _ => rfl
  | a :: l, h => by
    rw [txtF, h a (by simp), if_pos rfl, txtF_all rev u l fun b hb => h b (by simp [hb])]
    simp
theorem txtF_none (rev : Int) (u : List Int) : ∀ (l : List At), (∀ a ∈ l, a.vis rev u = false) → txtF rev u l = []
  | [], _ => rfl
  | a :: l, h => by
    rw [txtF, h a (by simp), txtF_none rev u l fun b hb => h b (by simp [hb])]
    rfl
theorem newAts_txts (s : List UInt8) (rv gr rk : Int) : ((newAts s rv gr rk).map fun a => a.txt) = ptsS s := by
  simp [newAts, ptsS, Function.comp_def]
theorem ptsS_flat (l : List UInt8) : (ptsS l).flatMap L = clean l := by
  unfold ptsS clean encs
  rw [List.flatMap_map]
  congr 1
theorem putL_nil (k : Nat) (s : List UInt8) (rv gr rk : Int) : putL [] k s rv gr rk = newAts s rv gr rk := by simp [putL]
end Go.Proofs.Ytihgpnfkadldeaa.AM

end
section
/- The reference's atoms on the small machine: Same, Is. For rows of at most 2^63 - 1 atoms, cuts. -/
namespace Go.Proofs.Ytihgpnfkadldeaa.AM
set_option linter.unusedSimpArgs false
set_option linter.unusedVariables false
open Go Go.Proofs.Ytihgpnfkadldeaa.U
variable {cp : List PV → Option Ret}
deriving instance DecidableEq for At
attribute [local simp] eqCells

theorem sameCuts_loop (x y : At) (A B : List (List PV)) (i : Int) (hl : x.cuts.length = y.cuts.length) (hx : x.cuts.length ≤ 9223372036854775807) : ∀ (m k : Nat), m + k = x.cuts.length →
    Code (EX cp) L_ref17_Same_0 ⟨[(0, .p (.sl 5 A)), (1, .p (.sl 5 B)), (5, .p (pi i)), (6, .mp 6 0 0), (7, .mp 7 0 0), (8, .p (pi k))], [(6, .row 31 5 false [x.pv]), (7, .row 31 5 false [y.pv])]⟩ =
      if x.cuts.drop k = y.cuts.drop k then some (.ex 2, ⟨[(0, .p (.sl 5 A)), (1, .p (.sl 5 B)), (5, .p (pi i)), (6, .mp 6 0 0), (7, .mp 7 0 0), (8, .p (pi x.cuts.length)), (67, .p (pb false))], [(6, .row 31 5 false [x.pv]), (7, .row 31 5 false [y.pv])]⟩)
      else some (.ret, ⟨[(4, .p (pb false))], []⟩) := by
  intro m
  induction m with
  | zero =>
    intro k hk
    have : k = x.cuts.length := by omega
    subst this
    rw [if_pos (by rw [List.drop_length, hl, List.drop_length]), L_ref17_Same_0, k_loop]
    simp [At.pv]
  | succ m ih =>
    intro k hk
    have h1 : k < x.cuts.length := by omega
    have h2 : k < y.cuts.length := by omega
    have g1 := cutsL_at x.cuts k h1
    have g2 := cutsL_at y.cuts k h2
    have ih' := ih (k+1) (by omega)
    rw [List.drop_eq_getElem_cons h1, List.drop_eq_getElem_cons h2]
    generalize x.cuts[k] = p at *
    generalize y.cuts[k] = q at *
    obtain ⟨p1, p2⟩ := p
    obtain ⟨q1, q2⟩ := q
    by_cases c : p1 = q1 ∧ p2 = q2
    · obtain ⟨rfl, rfl⟩ := c
      have e : ((p1, p2) :: x.cuts.drop (k+1) = (p1, p2) :: y.cuts.drop (k+1)) = (x.cuts.drop (k+1) = y.cuts.drop (k+1)) := by simp
      simp only [e]
      rw [← ih', L_ref17_Same_0, k_loop]
      simp (disch := omega) [At.pv, h1, g1, g2, dec_yes, wrap_in]
    · rw [if_neg (by intro e; simp at e; exact c e.1), L_ref17_Same_0, k_loop]
      have c' : (p1 == q1 && p2 == q2) = false := by
        rw [Bool.eq_false_iff]; simpa using c
      simp (disch := omega) [At.pv, h1, g1, g2, dec_yes, c']
theorem at_eq (x y : At) : (x = y) ↔ x.txt = y.txt ∧ x.rv = y.rv ∧ x.gr = y.gr ∧ x.rk = y.rk ∧ x.cuts = y.cuts := by
  cases x; cases y; simp
set_option maxHeartbeats 2000000 in
theorem same_loop (a b : List At) (hl : a.length = b.length) (ha : a.length ≤ 9223372036854775807) (hc : (∀ x ∈ a, x.cuts.length ≤ 9223372036854775807) ∧ ∀ x ∈ b, x.cuts.length ≤ 9223372036854775807) : ∀ (m i : Nat), m + i = a.length →
    Code (EX cp) L_ref17_Same_1 ⟨[(0, .p (.sl 5 (ats a))), (1, .p (.sl 5 (ats b))), (5, .p (pi i))], []⟩ =
      if a.drop i = b.drop i then some (.ex 0, ⟨[(0, .p (.sl 5 (ats a))), (1, .p (.sl 5 (ats b))), (5, .p (pi a.length)), (17, .p (pb false))], []⟩) else some (.ret, ⟨[(4, .p (pb false))], []⟩) := by
  intro m
  induction m with
  | zero =>
    intro i hi
    have : i = a.length := by omega
    subst this
    rw [if_pos (by rw [List.drop_length, hl, List.drop_length]), L_ref17_Same_1, k_loop]
    simp
  | succ m ih =>
    intro i hi
    have h1 : i < a.length := by omega
    have h2 : i < b.length := by omega
    have g1 := ats_at a i h1
    have g2 := ats_at b i h2
    have k1 := hc.1 _ (List.getElem_mem h1)
    have k2 := hc.2 _ (List.getElem_mem h2)
    have ih' := ih (i+1) (by omega)
    rw [List.drop_eq_getElem_cons h1, List.drop_eq_getElem_cons h2]
    generalize a[i] = x at *
    generalize b[i] = y at *
    have no : x ≠ y → ¬ (x :: a.drop (i+1) = y :: b.drop (i+1)) := fun h e => h (by simp at e; exact e.1)
    by_cases c1 : x.txt = y.txt
    case neg =>
      rw [if_neg (no fun e => c1 (by rw [e])), L_ref17_Same_1, k_loop]
      simp only [At.pv] at g1 g2
      simp (disch := omega) [h1, g1, g2, dec_yes, c1]
    by_cases c2 : x.rv = y.rv
    case neg =>
      rw [if_neg (no fun e => c2 (by rw [e])), L_ref17_Same_1, k_loop]
      simp only [At.pv] at g1 g2
      simp (disch := omega) [h1, g1, g2, dec_yes, c1, c2]
    by_cases c3 : x.gr = y.gr
    case neg =>
      rw [if_neg (no fun e => c3 (by rw [e])), L_ref17_Same_1, k_loop]
      simp only [At.pv] at g1 g2
      simp (disch := omega) [h1, g1, g2, dec_yes, c1, c2, c3]
    by_cases c4 : x.rk = y.rk
    case neg =>
      rw [if_neg (no fun e => c4 (by rw [e])), L_ref17_Same_1, k_loop]
      simp only [At.pv] at g1 g2
      simp (disch := omega) [h1, g1, g2, dec_yes, c1, c2, c3, c4]
    by_cases c5 : x.cuts.length = y.cuts.length
    case neg =>
      have c5' : ¬ (x.cuts.length : Int) = y.cuts.length := by omega
      rw [if_neg (no fun e => c5 (by rw [e])), L_ref17_Same_1, k_loop]
      simp only [At.pv] at g1 g2
      simp (disch := omega) [h1, g1, g2, dec_yes, c1, c2, c3, c4, c5', c5]
    have hin := sameCuts_loop (cp := cp) x y (ats a) (ats b) i c5 k1 x.cuts.length 0 (by omega)
    simp only [List.drop_zero, Int.ofNat_zero, Int.natCast_zero] at hin
    by_cases c6 : x.cuts = y.cuts
    · rw [if_pos c6] at hin
      have e : x = y := (at_eq x y).2 ⟨c1, c2, c3, c4, c6⟩
      have e2 : (x :: a.drop (i+1) = y :: b.drop (i+1)) = (a.drop (i+1) = b.drop (i+1)) := by rw [e]; simp
      simp only [e2]
      rw [← ih', L_ref17_Same_1, k_loop]
      simp only [At.pv] at g1 g2 hin
      rw [c1, c2, c3, c4] at hin
      simp (disch := omega) [h1, g1, g2, dec_yes, c1, c2, c3, c4, c5, hin, wrap_in]
    · rw [if_neg c6] at hin
      rw [if_neg (no fun e => c6 (by rw [e])), L_ref17_Same_1, k_loop]
      simp only [At.pv] at g1 g2 hin
      rw [c1, c2, c3, c4] at hin
      simp (disch := omega) [h1, g1, g2, dec_yes, c1, c2, c3, c4, c5, hin]
theorem refSame (a b : List At) (ha : a.length ≤ 9223372036854775807) (hc : (∀ x ∈ a, x.cuts.length ≤ 9223372036854775807) ∧ ∀ x ∈ b, x.cuts.length ≤ 9223372036854775807) : Run (EX cp) 29 [.sl 5 (ats a), .sl 5 (ats b)] = some (.val (pb (decide (a = b)))) := by
  rw [run_fn _ A_ref17_Same _ rfl rfl rfl]
  by_cases hl : a.length = b.length
  · have h := same_loop (cp := cp) a b hl ha hc a.length 0 (by omega)
    simp only [List.drop_zero, Int.ofNat_zero, Int.natCast_zero] at h
    by_cases c : a = b
    · rw [if_pos c] at h
      simp (disch := omega) [A_ref17_Same, hl, h, c]
      rw [c] at h
      simp [h]
    · rw [if_neg c] at h
      simp (disch := omega) [A_ref17_Same, hl, h, c]
  · have hl' : ¬ (a.length : Int) = b.length := by omega
    have c : ¬ a = b := fun e => hl (by rw [e])
    simp (disch := omega) [A_ref17_Same, hl', hl, c]
end Go.Proofs.Ytihgpnfkadldeaa.AM

end
section
/- The reference's atoms on the small machine: Is, few, Put, Cut. For rows of at most 2^34 atoms. -/
namespace Go.Proofs.Ytihgpnfkadldeaa.AM
set_option linter.unusedSimpArgs false
set_option linter.unusedVariables false
open Go Go.Proofs.Ytihgpnfkadldeaa.U
variable {cp : List PV → Option Ret}
theorem refNumber (n : Int) : Run (EX cp) 60 [pi n] = some (.val (pb (inn n 0 1000000))) := by
  rw [run_fn _ A_ref17_number _ rfl rfl rfl]
  unfold inn
  by_cases c : 0 ≤ n
  · simp (disch := omega) [A_ref17_number, c, dec_yes]
  · simp (disch := omega) [A_ref17_number, c, dec_no]
theorem refGroup (n : Int) : Run (EX cp) 61 [pi n] = some (.val (pb (inn n (-1) 59))) := by
  rw [run_fn _ A_ref17_group _ rfl rfl rfl]
  unfold inn
  have e : decide (n ≤ 59) = decide (n < 60) := by congr 1; exact propext ⟨fun _ => by omega, fun _ => by omega⟩
  rw [e]
  by_cases c : -1 ≤ n
  · simp (disch := omega) [A_ref17_group, c, dec_yes]
  · simp (disch := omega) [A_ref17_group, c, dec_no]
theorem isCuts_loop (a : At) (A : List (List PV)) (i : Int) (hc : a.cuts.length ≤ 9223372036854775807) : ∀ (m k : Nat), m + k = a.cuts.length →
    Code (EX cp) L_ref17_Is_0 ⟨[(0, .p (.sl 5 A)), (3, .p (pi i)), (4, .mp 4 0 0), (5, .p (pi k))], [(4, .row 31 5 false [a.pv])]⟩ =
      if (a.cuts.drop k).all isCut = true then some (.ex 2, ⟨[(0, .p (.sl 5 A)), (3, .p (pi i)), (4, .mp 4 0 0), (5, .p (pi a.cuts.length)), (60, .p (pb false))], [(4, .row 31 5 false [a.pv])]⟩)
      else some (.ret, ⟨[(2, .p (pb false))], []⟩) := by
  intro m
  induction m with
  | zero =>
    intro k hk
    have : k = a.cuts.length := by omega
    subst this
    rw [List.drop_length, List.all_nil, if_pos rfl, L_ref17_Is_0, k_loop]
    simp [At.pv]
  | succ m ih =>
    intro k hk
    have h1 : k < a.cuts.length := by omega
    have g1 := cutsL_at a.cuts k h1
    have ih' := ih (k+1) (by omega)
    rw [List.drop_eq_getElem_cons h1, List.all_cons]
    generalize a.cuts[k] = p at *
    obtain ⟨p1, p2⟩ := p
    have n1 := refNumber (cp := cp) p1
    have n2 := refGroup (cp := cp) p2
    have e : isCut (p1, p2) = (inn p1 0 1000000 && inn p2 (-1) 59) := rfl
    rw [e]
    generalize inn p1 0 1000000 = b1 at *
    generalize inn p2 (-1) 59 = b2 at *
    rw [L_ref17_Is_0, k_loop]
    cases b1
    · simp (disch := omega) [At.pv, h1, g1, dec_yes, n1, -getElem?_pos]
    · cases b2
      · simp (disch := omega) [At.pv, h1, g1, dec_yes, n1, n2, -getElem?_pos]
      · rw [Bool.true_and, Bool.true_and, ← ih', L_ref17_Is_0]
        simp (disch := omega) [At.pv, h1, g1, dec_yes, n1, n2, wrap_in, -getElem?_pos]
set_option maxHeartbeats 2000000 in
theorem is_loop (l : List At) (hl : l.length ≤ 9223372036854775807) (hs : ∀ a ∈ l, a.txt.size < 1099511627776 ∧ a.cuts.length ≤ 9223372036854775807) : ∀ (m i : Nat), m + i = l.length →
    Code (EX cp) L_ref17_Is_1 ⟨[(0, .p (.sl 5 (ats l))), (3, .p (pi i))], []⟩ =
      if (l.drop i).all isAt = true then some (.ex 0, ⟨[(0, .p (.sl 5 (ats l))), (3, .p (pi l.length)), (12, .p (pb false))], []⟩) else some (.ret, ⟨[(2, .p (pb false))], []⟩) := by
  intro m
  induction m with
  | zero =>
    intro i hi
    have : i = l.length := by omega
    subst this
    rw [List.drop_length, List.all_nil, if_pos rfl, L_ref17_Is_1, k_loop]
    simp
  | succ m ih =>
    intro i hi
    have h1 : i < l.length := by omega
    have ih' := ih (i+1) (by omega)
    have hg := ats_at l i h1
    obtain ⟨hsz, hcl⟩ := hs l[i] (List.getElem_mem h1)
    rw [List.drop_eq_getElem_cons h1, List.all_cons]
    generalize l[i] = a at *
    have hlp := isCuts_loop (cp := cp) a (ats l) i hcl a.cuts.length 0 (by omega)
    rw [List.drop_zero, show ((0 : Nat) : Int) = 0 from rfl] at hlp
    have n1 := refSize (cp := cp) a.txt 0 hsz
    have n2 := refNumber (cp := cp) a.rv
    have n3 := refNumber (cp := cp) a.rk
    have n4 := refGroup (cp := cp) a.gr
    have hp : a.pv = [.sc (.string a.txt), pi a.rv, pi a.gr, pi a.rk, .sl 2 (cutsL a.cuts)] := rfl
    rw [hp] at hg hlp
    have he : isAt a = (!decide (a.txt = ⟨#[]⟩) && decide (sizeAt a.txt 0 = a.txt.size) && inn a.rv 0 1000000 && inn a.rk 0 1000000 && inn a.gr (-1) 59 && decide (a.cuts.length ≤ 200) && a.cuts.all isCut) := rfl
    rw [he]
    have hz : decide (a.txt = ⟨#[]⟩) = decide (a.txt.size = 0) := by
      congr 1
      exact propext ⟨fun h => by rw [h]; rfl, fun h => L_inj (List.eq_nil_of_length_eq_zero (by rw [L_len]; exact h) |>.trans (show [] = L ⟨#[]⟩ from rfl))⟩
    rw [hz]
    have hcd : (sizeAt a.txt 0 = a.txt.size) ↔ ((sizeAt a.txt 0 : Int) = (a.txt.size : Int)) := by omega
    generalize inn a.rv 0 1000000 = b1 at *
    generalize inn a.rk 0 1000000 = b2 at *
    generalize inn a.gr (-1) 59 = b3 at *
    generalize a.cuts.all isCut = b4 at *
    rw [L_ref17_Is_1, k_loop]
    by_cases c0 : a.txt.size = 0
    · simp (disch := omega) [h1, hg, c0, dec_yes, -getElem?_pos]
    by_cases c1 : sizeAt a.txt 0 = a.txt.size
    case neg => simp (disch := omega) [h1, hg, c0, c1, n1, dec_yes, -getElem?_pos]
    cases b1
    · simp (disch := omega) [h1, hg, c0, c1, n1, n2, dec_yes, -getElem?_pos]
    cases b2
    · simp (disch := omega) [h1, hg, c0, c1, n1, n2, n3, dec_yes, -getElem?_pos]
    cases b3
    · simp (disch := omega) [h1, hg, c0, c1, n1, n2, n3, n4, dec_yes, -getElem?_pos]
    by_cases c2 : a.cuts.length ≤ 200
    case neg => simp (disch := omega) [h1, hg, c0, c1, c2, n1, n2, n3, n4, dec_yes, -getElem?_pos]
    cases b4
    · simp (disch := omega) [h1, hg, c0, c1, c2, n1, n2, n3, n4, hlp, dec_yes, dec_no, -getElem?_pos]
    · have e2 : (!decide (a.txt.size = 0) && decide (sizeAt a.txt 0 = a.txt.size) && true && true && true && decide (a.cuts.length ≤ 200) && true && (l.drop (i + 1)).all isAt) = (l.drop (i + 1)).all isAt := by
        rw [decide_eq_false c0, decide_eq_true c1, decide_eq_true c2]; rfl
      rw [e2, ← ih', L_ref17_Is_1]
      simp (disch := omega) [h1, hg, c0, c1, c2, n1, n2, n3, n4, hlp, dec_yes, dec_no, wrap_in, -getElem?_pos]
theorem refIs (l : List At) (hl : l.length ≤ 9223372036854775807) (hs : ∀ a ∈ l, a.txt.size < 1099511627776 ∧ a.cuts.length ≤ 9223372036854775807) : Run (EX cp) 26 [.sl 5 (ats l)] = some (.val (pb (isAts l))) := by
  have h := is_loop (cp := cp) l hl hs l.length 0 (by omega)
  rw [List.drop_zero, show ((0 : Nat) : Int) = 0 from rfl] at h
  rw [run_fn _ A_ref17_Is _ rfl rfl rfl]
  unfold isAts
  generalize l.all isAt = b at *
  by_cases c : l.length ≤ 4000
  · cases b <;> simp (disch := omega) [A_ref17_Is, h, c, dec_yes, dec_no]
  · simp (disch := omega) [A_ref17_Is, c, dec_no, dec_yes]
end Go.Proofs.Ytihgpnfkadldeaa.AM

end
section
/- The reference's atoms on the small machine: few, Put, Cut. -/
namespace Go.Proofs.Ytihgpnfkadldeaa.AM
set_option linter.unusedSimpArgs false
set_option linter.unusedVariables false
open Go Go.Proofs.Ytihgpnfkadldeaa.U
variable {cp : List PV → Option Ret}
/-- Not many cuts, no long text. -/
def fewA (a : At) : Bool := decide (a.cuts.length ≤ 20) && decide (a.txt.size ≤ 20)
theorem few17_loop (l : List At) (hl : l.length ≤ 9223372036854775807) : ∀ (m i : Nat), m + i = l.length →
    Code (EX cp) L_law17_few_0 ⟨[(0, .p (.sl 5 (ats l))), (3, .p (pi i))], []⟩ =
      if (l.drop i).all fewA = true then some (.ex 0, ⟨[(0, .p (.sl 5 (ats l))), (3, .p (pi l.length)), (7, .p (pb false))], []⟩) else some (.ret, ⟨[(2, .p (pb false))], []⟩) := by
  intro m
  induction m with
  | zero =>
    intro i hi
    have : i = l.length := by omega
    subst this
    rw [List.drop_length, List.all_nil, if_pos rfl, L_law17_few_0, k_loop]
    simp
  | succ m ih =>
    intro i hi
    have h1 : i < l.length := by omega
    have ih' := ih (i+1) (by omega)
    have hg := ats_at l i h1
    rw [List.drop_eq_getElem_cons h1, List.all_cons]
    generalize l[i] = a at *
    have hp : a.pv = [.sc (.string a.txt), pi a.rv, pi a.gr, pi a.rk, .sl 2 (cutsL a.cuts)] := rfl
    rw [hp] at hg
    have he : fewA a = (decide (a.cuts.length ≤ 20) && decide (a.txt.size ≤ 20)) := rfl
    rw [he]
    by_cases c0 : a.cuts.length ≤ 20
    · by_cases c1 : a.txt.size ≤ 20
      · rw [decide_eq_true c0, decide_eq_true c1, Bool.true_and, Bool.true_and, ← ih', L_law17_few_0, k_loop]
        simp (disch := omega) [h1, hg, c0, c1, dec_yes, dec_no, wrap_in, -getElem?_pos]
      · rw [decide_eq_false c1, L_law17_few_0, k_loop]
        simp (disch := omega) [h1, hg, c0, c1, dec_yes, dec_no, wrap_in, -getElem?_pos]
    · rw [decide_eq_false c0, L_law17_few_0, k_loop]
      simp (disch := omega) [h1, hg, c0, dec_yes, dec_no, wrap_in, -getElem?_pos]
def few17 (l : List At) : Bool := l.all fewA && decide (l.length ≤ 60)
theorem refFew (l : List At) (hl : l.length ≤ 9223372036854775807) : Run (EX cp) 16 [.sl 5 (ats l)] = some (.val (pb (few17 l))) := by
  have h := few17_loop (cp := cp) l hl l.length 0 (by omega)
  rw [List.drop_zero, show ((0 : Nat) : Int) = 0 from rfl] at h
  rw [run_fn _ A_law17_few _ rfl rfl rfl]
  unfold few17
  generalize l.all fewA = b at *
  have e : decide ((l.length : Int) ≤ 60) = decide (l.length ≤ 60) := by congr 1; exact propext ⟨fun _ => by omega, fun _ => by omega⟩
  cases b <;> simp (disch := omega) [A_law17_few, h, e]
theorem put_rloop (rv gr rk : Int) (c : Nat) (cs : List (List PV)) (k : Int) (p : List ByteArray) (hp : p.length ≤ 68719476736) : ∀ (m i : Nat) (acc : List At), m + i = p.length → acc.length ≤ 68719476736 + i →
    Code (EX cp) L_ref17_Put_0 ⟨[(3, .p (pi rv)), (4, .p (pi gr)), (5, .p (pi rk)), (13, .ms 13 0 c), (14, .p (pi k)), (15, .ms 15 0 p.length), (16, .ms 16 0 acc.length), (17, .p (pi i))], [(13, .row 31 5 false cs), (15, .row 9 1 false (strs p)), (16, .row 31 5 false (ats acc))]⟩ =
      some (.ex 0, ⟨[(3, .p (pi rv)), (4, .p (pi gr)), (5, .p (pi rk)), (13, .ms 13 0 c), (14, .p (pi k)), (15, .ms 15 0 p.length), (16, .ms 16 0 (acc ++ (p.drop i).map fun t => (⟨t, rv, gr, rk, []⟩ : At)).length), (17, .p (pi p.length)), (34, .p (pb false))], [(13, .row 31 5 false cs), (15, .row 9 1 false (strs p)), (16, .row 31 5 false (ats (acc ++ (p.drop i).map fun t => (⟨t, rv, gr, rk, []⟩ : At))))]⟩) := by
  intro m
  induction m with
  | zero =>
    intro i acc hi ha
    have : i = p.length := by omega
    subst this
    rw [List.drop_length, List.map_nil, List.append_nil, L_ref17_Put_0, k_loop]
    simp
  | succ m ih =>
    intro i acc hi ha
    have h1 : i < p.length := by omega
    have hg := strs_at p i h1
    have ih' := ih (i+1) (acc ++ [⟨p[i], rv, gr, rk, []⟩]) (by omega) (by simp; omega)
    rw [List.drop_eq_getElem_cons h1, List.map_cons]
    generalize p[i] = t at *
    have e : acc ++ (⟨t, rv, gr, rk, []⟩ : At) :: (p.drop (i + 1)).map (fun t => (⟨t, rv, gr, rk, []⟩ : At)) = (acc ++ [⟨t, rv, gr, rk, []⟩]) ++ (p.drop (i + 1)).map (fun t => (⟨t, rv, gr, rk, []⟩ : At)) := by simp
    have hcap : (acc.length + 1) * 64 ≤ maxBytes ∧ acc.length + 1 ≤ 9223372036854775807 := by unfold maxBytes; omega
    have hpv : ats acc ++ [[.sc (.string t), pi rv, pi gr, pi rk, .sl 2 []]] = ats (acc ++ [⟨t, rv, gr, rk, []⟩]) := by simp [ats, At.pv]
    rw [e, ← ih', L_ref17_Put_0, k_loop]
    simp (disch := omega) [h1, hg, hcap, hpv, dec_yes, wrap_in, if_yes, -getElem?_pos]
theorem newAts_ptsS (s : List UInt8) (rv gr rk : Int) : newAts s rv gr rk = (ptsS s).map fun t => (⟨t, rv, gr, rk, []⟩ : At) := by
  unfold newAts ptsS; rw [List.map_map]; rfl
theorem refCut (l : List At) (i rv gr : Int) (hl : l.length < 68719476736) (hc : ∀ a ∈ l, a.cuts.length < 68719476736) : Run (EX cpF) 31 [.sl 5 (ats l), pi i, pi rv, pi gr] = some (.deep 31 5 (dats (cutL l i rv gr))) := by
  have h := refCopy l (by omega) (fun a ha => by have := hc a ha; omega)
  rw [run_fn _ A_ref17_Cut _ rfl rfl rfl]
  by_cases c0 : 0 ≤ i
  · by_cases c1 : i < l.length
    · obtain ⟨n, rfl⟩ : ∃ n : Nat, i = n := ⟨i.toNat, by omega⟩
      have hlt : n < l.length := by omega
      have hg := dats_get l n hlt
      have hcl := hc _ (List.getElem_mem hlt)
      have hp := dats_cut l n hlt rv gr
      have hln := putC_len (dats l) n 4 (.ow 0 0 [])
      rw [cutL_in l n rv gr hlt]
      generalize l[n] = a at *
      simp only [At.dv] at hg
      have hcap : (a.cuts.length + 1) * 16 ≤ maxBytes ∧ a.cuts.length + 1 ≤ 9223372036854775807 := by unfold maxBytes; omega
      have hsn := cutsL_snoc a.cuts rv gr
      have hset : (l.set n (cutAt a rv gr)).length = l.length := by simp
      simp (disch := omega) [A_ref17_Cut, h, hg, hlt, hp, hln, hcap, hsn, hset, dec_yes, dec_no, if_yes]
    · rw [cutL_out l i rv gr (by omega)]
      simp (disch := omega) [A_ref17_Cut, h, dec_yes, dec_no]
  · rw [cutL_out l i rv gr (by omega)]
    simp (disch := omega) [A_ref17_Cut, h, dec_yes, dec_no]
end Go.Proofs.Ytihgpnfkadldeaa.AM

end
