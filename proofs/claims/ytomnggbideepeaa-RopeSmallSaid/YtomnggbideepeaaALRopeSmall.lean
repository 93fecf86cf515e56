/- The law RopeSmall on the small machine. No condition. -/
import Derived.Test.YtomnggbideepeaaQ10
import Derived.Test.YtomnggbideepeaaAT1
import Derived.Test.YtomnggbideepeaaRW
namespace Go.Proofs.Ytomnggbideepeaa.ropeSmall
set_option linter.unusedSimpArgs false
set_option linter.unusedVariables false
open Go Go.Proofs.Ytomnggbideepeaa.U Go.Proofs.Ytomnggbideepeaa.AM
def shapes : List PSh := [.one (.i .u16), .one (.i .u16)]
theorem wt_u16 {x : PV} (h : WTA (.one (.i .u16)) x) : ∃ n : Nat, x = .sc (.int .u16 n) ∧ n < 65536 := by
  cases h with
  | one h =>
    cases h with
    | i hw =>
      rename_i n
      have h1 : 0 ≤ n ∧ n ≤ 65535 := by
        simp [Lit.wf, IntKind.min, IntKind.max, IntKind.signed, IntKind.bits] at hw
        exact hw
      exact ⟨n.toNat, by congr 2; omega, by omega⟩
theorem clean_same {s : ByteArray} (h : valid (L s) = true) : cleanS s = s := L_inj (by
  have : L (cleanS s) = clean (L s) := L_mk _
  rw [this, clean_of_valid _ h])
/-- One byte each. -/
def asc (s : ByteArray) : Prop := ∀ a ∈ L s, ¬ cont a
theorem asc_edge {s : ByteArray} (h : asc s) (hv : valid (L s) = true) (k : Nat) (hk : k ≤ s.size) : edge s (k : Int) = true := by
  by_cases c : k < s.size
  · have ha : (L s)[k]? = some ((L s)[k]'(by rw [L_len]; exact c)) := List.getElem?_eq_getElem _
    rw [edge_on hv k _ ha, decide_eq_false (h _ (List.getElem_mem _))]; rfl
  · have : k = s.size := by omega
    subst this
    rw [edge_off hv _ (by omega)]; simp
theorem repl_plain (s z : ByteArray) (p q : Nat) (hpq : p ≤ q) (hq : q ≤ s.size) (hs : valid (L s) = true) (ha : asc s) (hz : valid (L z) = true) (az : asc z) :
    chkR s p q = 0 ∧ asc (replS s p q z) ∧ (replS s p q z).size = s.size - (q - p) + z.size := by
  have ct := clean_same hz
  have hX : replS s p q z = s.extract 0 p ++ z ++ s.extract q s.size := by unfold replS; rw [ct]; rfl
  have hL : L (replS s p q z) = (L s).take p ++ (L z ++ (L s).drop q) := by rw [hX, L_append, L_append, ex_take, ex_drop, List.append_assoc]
  have hsz : (replS s p q z).size = s.size - (q - p) + z.size := by
    rw [← L_len, hL, List.length_append, List.length_append, List.length_take, List.length_drop, L_len, L_len]; omega
  refine ⟨?_, ?_, hsz⟩
  · unfold chkR
    rw [if_neg (by omega), if_pos ⟨asc_edge ha hs p (by omega), asc_edge ha hs q hq⟩]
  · intro a h
    rw [hL, List.mem_append, List.mem_append] at h
    rcases h with h | h | h
    · exact ha a (List.mem_of_mem_take h)
    · exact az a h
    · exact ha a (List.mem_of_mem_drop h)
theorem few_of {P : List ByteArray} {s : ByteArray} (h : okP P) (e : flat P = L s) : P.length ≤ s.size / 16 + 2 := by
  have := h.few
  rw [e, L_len] at this
  exact this
theorem strs_len (l : List ByteArray) : (strs l).length = l.length := by simp [strs]
set_option maxHeartbeats 4000000 in
theorem loop1 (z : ByteArray) (ez : z = ⟨#[122]⟩) (hz : valid (L z) = true) (az : asc z) (at' k : Nat) (hat : at' < 65536) (hk : k < 500) : ∀ (m i : Nat) (r : PV) (s : ByteArray), Rp r s → asc s → s.size = i → i + m = k →
    ∃ r' s', Rp r' s' ∧ asc s' ∧ s'.size = k ∧ AM.Code EA L_law4_RopeSmall_0 ⟨[(1, .p (.sc (.int .u16 at'))), (5, .p r), (7, .p (pi k)), (8, .p (pi i))], []⟩ =
      some (.ex 0, ⟨[(1, .p (.sc (.int .u16 at'))), (5, .p r'), (7, .p (pi k)), (8, .p (pi k)), (28, .p (pb false))], []⟩) := by
  intro m
  induction m with
  | zero =>
    intro i r s hr ha hs hi
    have : i = k := by omega
    subst this
    refine ⟨r, s, hr, ha, hs, ?_⟩
    rw [L_law4_RopeSmall_0, k_loop]
    simp
  | succ m ih =>
    intro i r s hr ha hs hi
    obtain ⟨p, hp⟩ : ∃ p, p = at' % (s.size + 1) := ⟨_, rfl⟩
    have hp1 : p < s.size + 1 := by rw [hp]; exact Nat.mod_lt _ (by omega)
    obtain ⟨u1, u2, u3⟩ := repl_plain s z p p (by omega) (by omega) hr.val ha hz az
    have hz1 : z.size = 1 := by rw [ez]; rfl
    rcases ropeReplace (cp := cpA) hr (by omega) p p z (by omega) with ⟨h3, _⟩ | ⟨_, h3, _⟩ | ⟨_, _, X, hX, d4⟩
    · exact absurd u1 h3
    · omega
    have d1 := ropeLen (cp := cpA) hr
    obtain ⟨r', s', q1, q2, q3, q4⟩ := ih (i + 1) X _ hX u2 (by omega) (by omega)
    refine ⟨r', s', q1, q2, q3, ?_⟩
    have tx : (at' : Int).tmod ((s.size : Int) + 1) = (p : Int) := by
      have := tmod_nat at' (s.size + 1)
      rw [← hp] at this; exact this
    have w1 : IntKind.wrap .i64 (at' : Int) = (at' : Int) := wrap_in _ (by omega) (by omega)
    have w3 : IntKind.wrap .i64 ((s.size : Int) + 1) = (s.size : Int) + 1 := wrap_in _ (by omega) (by omega)
    have w4 : IntKind.wrap .i64 ((i : Int) + 1) = (i : Int) + 1 := wrap_in _ (by omega) (by omega)
    have hne : ¬ ((s.size : Int) + 1 = 0) := by omega
    have hlt : (i : Int) < k := by omega
    have hlt' : i < k := by omega
    rw [show EX cpA = EA from rfl] at *
    rw [ez] at d4
    have wp : IntKind.wrap .i64 (p : Int) = (p : Int) := wrap_in _ (by omega) (by omega)
    rw [← q4, L_law4_RopeSmall_0, k_loop]
    simp (disch := omega) [d1, d4, tx, w1, w3, w4, wp, hne, hlt, hlt', dec_yes, dec_no]
set_option maxHeartbeats 4000000 in
theorem loop2 (z : ByteArray) (ez : z = ⟨#[]⟩) (hz : valid (L z) = true) (az : asc z) (at' k : Nat) (hat : at' < 65536) (hk : k < 500) : ∀ (m i : Nat) (r : PV) (s : ByteArray), Rp r s → asc s → s.size + i = k → i + m = k →
    ∃ r' s', Rp r' s' ∧ s'.size = 0 ∧ AM.Code EA L_law4_RopeSmall_1 ⟨[(1, .p (.sc (.int .u16 at'))), (5, .p r), (7, .p (pi k)), (12, .p (pi i))], []⟩ =
      some (.ex 2, ⟨[(1, .p (.sc (.int .u16 at'))), (5, .p r'), (7, .p (pi k)), (12, .p (pi k)), (62, .p (pb false))], []⟩) := by
  intro m
  induction m with
  | zero =>
    intro i r s hr ha hs hi
    have : i = k := by omega
    subst this
    refine ⟨r, s, hr, by omega, ?_⟩
    rw [L_law4_RopeSmall_1, k_loop]
    simp
  | succ m ih =>
    intro i r s hr ha hs hi
    have hmul : i * at' ≤ 500 * 65536 := Nat.mul_le_mul (by omega) (by omega)
    obtain ⟨j, hj⟩ : ∃ j, j = i * at' := ⟨_, rfl⟩
    rw [← hj] at hmul
    obtain ⟨p, hp⟩ : ∃ p, p = j % s.size := ⟨_, rfl⟩
    have hp1 : p < s.size := by rw [hp]; exact Nat.mod_lt _ (by omega)
    obtain ⟨u1, u2, u3⟩ := repl_plain s z p (p + 1) (by omega) (by omega) hr.val ha hz az
    have hz1 : z.size = 0 := by rw [ez]; rfl
    rcases ropeReplace (cp := cpA) hr (by omega) p (p + 1 : Nat) z (by omega) with ⟨h3, _⟩ | ⟨_, h3, _⟩ | ⟨_, _, X, hX, d4⟩
    · exact absurd u1 h3
    · omega
    have d1 := ropeLen (cp := cpA) hr
    have d2 := ropeLen (cp := cpA) hX
    obtain ⟨P, P1, P2, d3⟩ := ropeChunks (cp := cpA) cpA_all hX
    have hf := few_of P1 P2
    obtain ⟨r', s', q1, q2, q4⟩ := ih (i + 1) X _ hX u2 (by omega) (by omega)
    refine ⟨r', s', q1, q2, ?_⟩
    have tx : (j : Int).tmod (s.size : Int) = (p : Int) := by
      have := tmod_nat j s.size
      rw [← hp] at this; exact this
    have e0 : ((i : Int) * at') = (j : Int) := by rw [hj]; rfl
    have w1 : IntKind.wrap .i64 (at' : Int) = (at' : Int) := wrap_in _ (by omega) (by omega)
    have w2 : IntKind.wrap .i64 (j : Int) = (j : Int) := wrap_in _ (by omega) (by omega)
    have w3 : IntKind.wrap .i64 (p : Int) = (p : Int) := wrap_in _ (by omega) (by omega)
    have w4 : IntKind.wrap .i64 ((i : Int) + 1) = (i : Int) + 1 := wrap_in _ (by omega) (by omega)
    have w5 : IntKind.wrap .i64 ((p : Int) + 1) = (p : Int) + 1 := wrap_in _ (by omega) (by omega)
    have hne : ¬ ((s.size : Int) = 0) := by omega
    have hne' : ¬ (s.size = 0) := by omega
    have hlt : (i : Int) < k := by omega
    have hlt' : i < k := by omega
    generalize (replS s p (p + 1 : Nat) z).size = n at *
    have tq : (n : Int).tdiv 16 = ((n / 16 : Nat) : Int) := by rw [Int.tdiv_eq_ediv_of_nonneg (by omega)]; rfl
    have w6 : IntKind.wrap .i64 ((n / 16 : Nat) : Int) = ((n / 16 : Nat) : Int) := wrap_in _ (by omega) (by omega)
    have w7 : IntKind.wrap .i64 (((n / 16 : Nat) : Int) + 2) = ((n / 16 : Nat) : Int) + 2 := wrap_in _ (by omega) (by omega)
    have hsl := strs_len P
    have d4' : Run (EX cpA) 23 [r, pi p, pi ((p : Int) + 1), .sc (.string z)] = _ := d4
    clear d4
    rw [ez] at d4'
    generalize n / 16 = n6 at *
    have hng : ¬ (((n6 : Int) + 2) < (P.length : Int)) := by omega
    have hle : (P.length : Int) ≤ (n6 : Int) + 2 := by omega
    rw [show EX cpA = EA from rfl] at *
    rw [← q4, L_law4_RopeSmall_1, k_loop]
    simp (disch := omega) [d1, d2, d3, d4', tx, e0, tq, w1, w2, w3, w4, w5, w6, w7, hne, hne', hlt, hlt', hsl, hng, hle, dec_yes, dec_no]
theorem v122 : valid (L ⟨#[122]⟩) = true ∧ asc ⟨#[122]⟩ := by
  have h : L ⟨#[122]⟩ = [122] := rfl
  refine ⟨by rw [h]; decide +kernel, fun a ha => ?_⟩
  rw [h, List.mem_singleton] at ha
  subst ha
  decide +kernel
theorem v0 : valid (L ⟨#[]⟩) = true ∧ asc ⟨#[]⟩ := by
  have h : L ⟨#[]⟩ = [] := rfl
  refine ⟨by rw [h]; decide +kernel, fun a ha => ?_⟩
  rw [h] at ha
  cases ha
set_option maxHeartbeats 4000000 in
theorem law (xs : List PV) (h : WTAs shapes xs) : Run EA 7 xs = some (.val (.sc (.bool true))) := by
  cases h with
  | cons h1 h => cases h with
  | cons h2 h =>
  cases h
  obtain ⟨n, rfl, hn⟩ := wt_u16 h1
  obtain ⟨a, rfl, ha⟩ := wt_u16 h2
  clear h1 h2
  have hk : Run EA 19 [] = some (.val (pb true)) := known4
  rw [show Run EA 7 [.sc (.int .u16 n), .sc (.int .u16 a)] = _ from run_fn _ A_law4_RopeSmall _ rfl rfl rfl, ← show EA = EX cpA from rfl]
  obtain ⟨k, hkk⟩ : ∃ k, k = n % 500 := ⟨_, rfl⟩
  have hk1 : k < 500 := by rw [hkk]; exact Nat.mod_lt _ (by omega)
  have tx : (n : Int).tmod 500 = (k : Int) := by
    have := tmod_nat n 500
    rw [← hkk] at this; exact this
  have c0 : cleanS ⟨#[]⟩ = ⟨#[]⟩ := clean_same v0.1
  rcases ropeNew (cp := cpA) ⟨#[]⟩ (by decide) with ⟨h2, _⟩ | ⟨_, r, hr, d1⟩
  · rw [c0] at h2; exact absurd h2 (by decide)
  rw [c0] at hr
  obtain ⟨r1, s1, a1, a2, a3, l1⟩ := loop1 _ rfl v122.1 v122.2 a k ha hk1 k 0 r _ hr v0.2 rfl (by omega)
  obtain ⟨r2, s2, b1, b2, l2⟩ := loop2 _ rfl v0.1 v0.2 a k ha hk1 k 0 r1 s1 a1 a2 (by omega) (by omega)
  have e2 : s2 = ⟨#[]⟩ := L_inj (List.eq_nil_of_length_eq_zero (by rw [L_len, b2]))
  rw [show ((0 : Nat) : Int) = 0 from rfl] at l1 l2
  have d2 := ropeLen (cp := cpA) a1
  rw [a3] at d2
  obtain ⟨P, P1, P2, d3⟩ := ropeChunks (cp := cpA) cpA_all a1
  have hf := few_of P1 P2
  rw [a3] at hf
  have d4 := ropeLen (cp := cpA) b1
  rw [b2] at d4
  rw [show ((0 : Nat) : Int) = 0 from rfl] at d4
  have d5 := ropeString cpA_all b1
  rw [e2] at d5
  obtain ⟨Q, Q1, Q2, d6⟩ := ropeChunks (cp := cpA) cpA_all b1
  have hg := few_of Q1 Q2
  rw [b2] at hg
  have hsl := strs_len P
  have hsq := strs_len Q
  have tq : (k : Int).tdiv 16 = ((k / 16 : Nat) : Int) := by rw [Int.tdiv_eq_ediv_of_nonneg (by omega)]; rfl
  have w6 : IntKind.wrap .i64 ((k / 16 : Nat) : Int) = ((k / 16 : Nat) : Int) := wrap_in _ (by omega) (by omega)
  have w7 : IntKind.wrap .i64 (((k / 16 : Nat) : Int) + 2) = ((k / 16 : Nat) : Int) + 2 := wrap_in _ (by omega) (by omega)
  have w8 : IntKind.wrap .i64 (k : Int) = (k : Int) := wrap_in _ (by omega) (by omega)
  have w9 : IntKind.wrap .u16 (k : Int) = (k : Int) := by
    unfold IntKind.wrap
    simp [IntKind.signed, IntKind.bits]
    omega
  generalize k / 16 = n6 at *
  have hng : ¬ (((n6 : Int) + 2) < (P.length : Int)) := by omega
  have hle : (P.length : Int) ≤ (n6 : Int) + 2 := by omega
  have hgl : Q.length ≤ 2 := by omega
  have hgl' : (Q.length : Int) ≤ 2 := by omega
  clear e2 c0
  rw [show EX cpA = EA from rfl] at *
  simp (disch := omega) [A_law4_RopeSmall, hk, d1, l1, l2, d2, d3, d4, d5, d6, tx, tq, w6, w7, w8, w9, hsl, hsq, hng, hle, hgl, hgl', dec_yes, dec_no]
end Go.Proofs.Ytomnggbideepeaa.ropeSmall
