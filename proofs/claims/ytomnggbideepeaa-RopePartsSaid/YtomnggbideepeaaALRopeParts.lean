/- The law RopeParts on the small machine. No condition. -/
import Derived.Test.YtomnggbideepeaaRL1
import Derived.Test.YtomnggbideepeaaAT1
namespace Go.Proofs.Ytomnggbideepeaa.ropeParts
set_option linter.unusedSimpArgs false
set_option linter.unusedVariables false
open Go Go.Proofs.Ytomnggbideepeaa.U Go.Proofs.Ytomnggbideepeaa.AM
def shapes : List PSh := [.one (.tx), .one (.sl [.i .u16])]
def u16s (l : List Nat) : List (List PV) := l.map fun (n : Nat) => [PV.sc (.int .u16 (n : Int))]
theorem u16s_len (l : List Nat) : (u16s l).length = l.length := by simp [u16s]
theorem u16s_at (l : List Nat) (n : Nat) (h : n < l.length) : (u16s l)[n]? = some [.sc (.int .u16 (l[n] : Nat))] := by simp [u16s, List.getElem?_eq_getElem h]
theorem wt_u16 {x : PV} (h : WT (.i .u16) x) : ∃ n : Nat, x = .sc (.int .u16 n) ∧ n < 65536 := by
  cases h with
  | i hw =>
    rename_i n
    have h1 : 0 ≤ n ∧ n ≤ 65535 := by
      simp [Lit.wf, IntKind.min, IntKind.max, IntKind.signed, IntKind.bits] at hw
      exact hw
    exact ⟨n.toNat, by congr 2; omega, by omega⟩
theorem wtr_u16 : ∀ {l : List (List PV)}, WTR [.i .u16] l → ∃ ns : List Nat, l = u16s ns ∧ ∀ n ∈ ns, n < 65536
  | _, .nil => ⟨[], rfl, by simp⟩
  | _, .cons hc hl => by
    obtain ⟨ns, rfl, h3⟩ := wtr_u16 hl
    cases hc with
    | cons h1 h2 =>
      cases h2
      obtain ⟨n, rfl, hn⟩ := wt_u16 h1
      refine ⟨n :: ns, rfl, fun x hx => ?_⟩
      rcases List.mem_cons.1 hx with rfl | hx
      · exact hn
      · exact h3 x hx
theorem wt_u16s {x : PV} (h : WTA (.one (.sl [.i .u16])) x) : ∃ ns : List Nat, x = .sl 1 (u16s ns) ∧ ∀ n ∈ ns, n < 65536 := by
  cases h with
  | one h => cases h with
    | sl hl hr =>
      obtain ⟨ns, rfl, h3⟩ := wtr_u16 hr
      exact ⟨ns, rfl, h3⟩
theorem edge_ends {s : ByteArray} (hv : valid (L s) = true) : edge s 0 = true ∧ edge s (s.size : Int) = true := by
  refine ⟨cut_of_edge 0 (by omega) (by rw [List.take_zero]; exact valid_nil) (by rw [List.drop_zero]; exact hv), cut_of_edge s.size (by omega) (by rw [List.take_of_length_le (by rw [L_len]; omega)]; exact hv) (by rw [drop_end s _ (Nat.le_refl _)]; exact valid_nil)⟩
set_option maxHeartbeats 4000000 in
theorem loop (t : ByteArray) (ht : t.size ≤ 1600) (ns : List Nat) (hns : ∀ n ∈ ns, n < 65536) (hl : ns.length ≤ 12) : ∀ (m i : Nat) (r : PV), Rp r t → i + m = ns.length →
    ∃ r', Rp r' t ∧ AM.Code EA L_law4_RopeParts_0 ⟨[(1, .p (.sl 1 (u16s ns))), (5, .p r), (7, .p (.sc (.string t))), (8, .p (pi i))], []⟩ =
      some (.ex 0, ⟨[(1, .p (.sl 1 (u16s ns))), (5, .p r'), (7, .p (.sc (.string t))), (8, .p (pi ns.length)), (38, .p (pb false))], []⟩) := by
  intro m
  induction m with
  | zero =>
    intro i r hr hi
    have : i = ns.length := by omega
    subst this
    refine ⟨r, hr, ?_⟩
    have h1 := u16s_len ns
    rw [L_law4_RopeParts_0, k_loop]
    simp [h1]
  | succ m ih =>
    intro i r hr hi
    have hlt : i < ns.length := by omega
    have hlt' : (i : Int) < ns.length := by omega
    have hg := u16s_at ns i hlt
    have hul := u16s_len ns
    have hn := hns _ (List.getElem_mem hlt)
    generalize ns[i] = n at *
    obtain ⟨k, hk⟩ : ∃ k, k = n % (t.size + 1) := ⟨_, rfl⟩
    have hk1 : k < t.size + 1 := by rw [hk]; exact Nat.mod_lt _ (by omega)
    have tx : (n : Int).tmod ((t.size : Int) + 1) = (k : Int) := by
      have := tmod_nat n (t.size + 1)
      rw [← hk] at this; exact this
    have w1 : IntKind.wrap .i64 (n : Int) = (n : Int) := wrap_in _ (by omega) (by omega)
    have w2 : IntKind.wrap .i64 (k : Int) = (k : Int) := wrap_in _ (by omega) (by omega)
    have w3 : IntKind.wrap .i64 ((t.size : Int) + 1) = (t.size : Int) + 1 := wrap_in _ (by omega) (by omega)
    have w4 : IntKind.wrap .i64 ((i : Int) + 1) = (i : Int) + 1 := wrap_in _ (by omega) (by omega)
    have hne : ¬ ((t.size : Int) + 1 = 0) := by omega
    obtain ⟨e1, e2⟩ := edge_ends hr.val
    have d1 := ropeIsEdge (cp := cpA) hr k
    have s1 := ropeSlice (cp := cpA) hr 0 k
    have s2 := ropeSlice (cp := cpA) hr k t.size
    have c1 : chkR t 0 k = if edge t k = true then 0 else 11 := by
      unfold chkR; rw [if_neg (by omega), e1]; simp
    have c2 : chkR t k t.size = if edge t k = true then 0 else 11 := by
      unfold chkR; rw [if_neg (by omega), e2]; simp
    cases he : edge t k
    · rw [he] at d1
      rw [he, if_neg (by simp)] at c1 c2
      rw [c1] at s1
      rw [c2] at s2
      rcases s1 with ⟨_, d2⟩ | ⟨h, _⟩
      case inr => omega
      rcases s2 with ⟨_, d3⟩ | ⟨h, _⟩
      case inr => omega
      obtain ⟨r', q1, q2⟩ := ih (i + 1) r hr (by omega)
      refine ⟨r', q1, ?_⟩
      rw [show EX cpA = EA from rfl] at *
      rw [← q2, L_law4_RopeParts_0, k_loop]
      simp (disch := omega) [hlt, hlt', hg, hul, -getElem?_pos, tx, w1, w2, w3, w4, hne, d1, d2, d3, dec_yes, dec_no]
    · rw [he] at d1
      rw [he, if_pos rfl] at c1 c2
      rw [c1] at s1
      rw [c2] at s2
      rcases s1 with ⟨h, _⟩ | ⟨_, a, ha, d2⟩
      · exact absurd rfl h
      rcases s2 with ⟨h, _⟩ | ⟨_, b, hb, d3⟩
      · exact absurd rfl h
      rw [show (0 : Int).toNat = 0 from rfl, Int.toNat_natCast] at ha
      rw [Int.toNat_natCast, Int.toNat_natCast] at hb
      have hab : t.extract 0 k ++ t.extract k t.size = t := L_inj (by rw [L_append, ex_take, ex_drop, List.take_append_drop])
      have za : (t.extract 0 k).size = k := by rw [← L_len, ex_take, List.length_take, L_len]; omega
      have zb : (t.extract k t.size).size = t.size - k := by rw [← L_len, ex_drop, List.length_drop, L_len]
      have d6 := ropeString cpA_all ha
      have d7 := ropeString cpA_all hb
      rcases ropeConcat (cp := cpA) ha hb (by omega) (by omega) with ⟨h, _⟩ | ⟨_, z, hz, d4⟩
      · omega
      rw [hab] at hz
      have d8 := ropeSame cpA_all hz hr
      have d9 := ropeSame cpA_all hr hz
      rw [decide_eq_true rfl] at d8 d9
      have d10 := law4Whole cpA_all hz
      obtain ⟨r', q1, q2⟩ := ih (i + 1) z hz (by omega)
      refine ⟨r', q1, ?_⟩
      have hsz : ((t.extract 0 k).size : Int) + ((t.extract k t.size).size : Int) ≤ 9223372036854775807 := by omega
      clear ha hb za zb
      generalize t.extract 0 k = ta at *
      generalize t.extract k t.size = tb at *
      rw [show EX cpA = EA from rfl] at *
      rw [← q2, L_law4_RopeParts_0, k_loop]
      simp (disch := omega) [hlt, hlt', hg, hul, -getElem?_pos, tx, w1, w2, w3, w4, hne, d1, d2, d3, d4, d6, d7, d8, d9, d10, hab, if_pos hsz, dec_yes, dec_no]
theorem clean_small (a : ByteArray) (h : a.size ≤ 400) : (cleanS a).size ≤ 1600 := by
  have e : L (cleanS a) = clean (L a) := L_mk _
  have hcl := clean_le (L a)
  rw [L_len, ← e, L_len] at hcl
  omega
set_option maxHeartbeats 4000000 in
theorem law (xs : List PV) (h : WTAs shapes xs) : Run EA 11 xs = some (.val (.sc (.bool true))) := by
  cases h with
  | cons h1 h => cases h with
  | cons h2 h =>
  cases h
  obtain ⟨s, rfl, hs⟩ := wt_str h1
  obtain ⟨ns, rfl, hn⟩ := wt_u16s h2
  clear h1 h2
  have hk : Run EA 19 [] = some (.val (pb true)) := known4
  have hul := u16s_len ns
  rw [show Run EA 11 [.sc (.string s), .sl 1 (u16s ns)] = _ from run_fn _ A_law4_RopeParts _ rfl rfl rfl, ← show EA = EX cpA from rfl]
  by_cases c0 : s.size ≤ 400
  case neg => simp (disch := omega) [A_law4_RopeParts, hk, c0, hul, dec_yes, dec_no]
  by_cases c1 : ns.length ≤ 12
  case neg => simp (disch := omega) [A_law4_RopeParts, hk, c0, c1, hul, dec_yes, dec_no]
  have zs := clean_small s c0
  rcases ropeNew (cp := cpA) s (by omega) with ⟨h2, _⟩ | ⟨_, r, hr, d1⟩
  · omega
  have d2 := ropeString cpA_all hr
  obtain ⟨r', hr', lp⟩ := loop _ zs ns hn c1 ns.length 0 r hr (by omega)
  rw [show ((0 : Nat) : Int) = 0 from rfl] at lp
  have d3 := ropeString cpA_all hr'
  generalize cleanS s = t at *
  rw [show EX cpA = EA from rfl] at *
  simp (disch := omega) [A_law4_RopeParts, hk, c0, c1, hul, d1, d2, d3, lp, dec_yes, dec_no]
end Go.Proofs.Ytomnggbideepeaa.ropeParts
