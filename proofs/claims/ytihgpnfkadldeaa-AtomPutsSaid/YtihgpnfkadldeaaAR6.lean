/- Atoms on the small machine: whether one is seen; where each stands; what can be read. For rows of at most 2^40 atoms, cuts, groups, and texts of less than 2^46 bytes. -/
import Derived.Test.YtihgpnfkadldeaaAR5
namespace Go.Proofs.Ytihgpnfkadldeaa.AM
set_option linter.unusedSimpArgs false
set_option linter.unusedVariables false
open Go Go.Proofs.Ytihgpnfkadldeaa.U
variable {cp : List PV → Option Ret}

/-! ### slices.IndexFunc, ContainsFunc, Index, Contains -/
theorem indexFuncC_loop (l : List (List PV)) (fid : FuncId) (cs : List PV) (p : List PV → Bool) (hl : l.length ≤ 9223372036854775807) (hp : ∀ c ∈ l, c.length = 2 ∧ Run (EX cp) fid (.st c :: cs) = some (.val (pb (p c)))) : ∀ (m i : Nat), m + i = l.length →
    Code (EX cp) L_slices_IndexFunc_api_Cut_api_Cut_0 ⟨[(0, .p (.sl 2 l)), (1, .p (.fn fid cs)), (7, .p (pi l.length)), (8, .p (pi i))], []⟩ =
      some (match (l.drop i).findIdx? p with
        | some j => (.ret, ⟨[(4, .p (pi ((i + j : Nat) : Int)))], []⟩)
        | none => (.ex 0, ⟨[(0, .p (.sl 2 l)), (1, .p (.fn fid cs)), (7, .p (pi l.length)), (8, .p (pi l.length)), (9, .p (pb false))], []⟩)) := by
  intro m
  induction m with
  | zero =>
    intro i hi
    have : i = l.length := by omega
    subst this
    rw [L_slices_IndexFunc_api_Cut_api_Cut_0, k_loop]
    simp
  | succ m ih =>
    intro i hi
    have hlt : i < l.length := by omega
    obtain ⟨h2, hr⟩ := hp l[i] (List.getElem_mem hlt)
    have hg : l[i]? = some l[i] := List.getElem?_eq_getElem hlt
    rw [List.drop_eq_getElem_cons hlt, List.findIdx?_cons]
    generalize hge : l[i] = c at *
    have htk : c.take 2 = c := List.take_of_length_le (by omega)
    cases hpc : p c with
    | true =>
      rw [hpc] at hr
      rw [L_slices_IndexFunc_api_Cut_api_Cut_0, k_loop]
      simp (disch := omega) [dec_yes, hlt, hg, hge, hr, h2, htk, if_yes]
    | false =>
      have ih' := ih (i+1) (by omega)
      rw [hpc] at hr
      have e : (some (match (if (false : Bool) = true then some 0 else Option.map (fun i => i + 1) ((l.drop (i+1)).findIdx? p)) with
        | some j => (Out.ret, (⟨[(4, .p (pi ((i + j : Nat) : Int)))], []⟩ : St))
        | none => (.ex 0, ⟨[(0, .p (.sl 2 l)), (1, .p (.fn fid cs)), (7, .p (pi l.length)), (8, .p (pi l.length)), (9, .p (pb false))], []⟩))) = Code (EX cp) L_slices_IndexFunc_api_Cut_api_Cut_0 ⟨[(0, .p (.sl 2 l)), (1, .p (.fn fid cs)), (7, .p (pi l.length)), (8, .p (pi ((i + 1 : Nat) : Int)))], []⟩ := by
        rw [ih']
        cases (l.drop (i+1)).findIdx? p with
        | none => rfl
        | some j => simp; omega
      rw [e]
      conv => lhs; rw [L_slices_IndexFunc_api_Cut_api_Cut_0, k_loop]
      simp (disch := omega) [dec_yes, hlt, hg, hge, hr, h2, htk, if_yes, wrap_in]
      rw [L_slices_IndexFunc_api_Cut_api_Cut_0]
theorem containsFuncC (l : List (List PV)) (fid : FuncId) (cs : List PV) (p : List PV → Bool) (hl : l.length ≤ 9223372036854775807) (hp : ∀ c ∈ l, c.length = 2 ∧ Run (EX cp) fid (.st c :: cs) = some (.val (pb (p c)))) :
    Run (EX cp) 51 [.sl 2 l, .fn fid cs] = some (.val (pb (l.any p))) := by
  have h := indexFuncC_loop l fid cs p hl hp l.length 0 (by omega)
  have hi : Run (EX cp) 76 [.sl 2 l, .fn fid cs] = some (.val (pi (match l.findIdx? p with | some j => (j : Int) | none => -1))) := by
    rw [run_fn _ A_slices_IndexFunc_api_Cut_api_Cut _ rfl rfl rfl]
    simp only [List.drop_zero, Nat.zero_add, Int.ofNat_zero, Int.natCast_zero] at h
    cases hf : l.findIdx? p <;> rw [hf] at h <;> simp [A_slices_IndexFunc_api_Cut_api_Cut, h]
  rw [run_fn _ A_slices_ContainsFunc_api_Cut_api_Cut _ rfl rfl rfl]
  simp [A_slices_ContainsFunc_api_Cut_api_Cut, hi]
  cases hf : l.findIdx? p with
  | none =>
    rw [List.findIdx?_eq_none_iff] at hf
    simp
    intro c hc
    simpa using hf c hc
  | some j =>
    obtain ⟨h1, h2, _⟩ := List.findIdx?_eq_some_iff_getElem.1 hf
    simp
    exact ⟨_, List.getElem_mem h1, h2⟩

theorem index_loop (l : List Int) (v : Int) (hl : l.length ≤ 9223372036854775807) : ∀ (m i : Nat), m + i = l.length →
    Code (EX cp) L_slices_Index_int_int_0 ⟨[(0, .p (.sl 1 (ints l))), (1, .p (pi v)), (7, .p (pi l.length)), (8, .p (pi i))], []⟩ =
      if (l.drop i).any (fun y => y == v) then some (.ret, ⟨[(4, .p (pi ((i + (l.drop i).findIdx (fun y => y == v) : Nat) : Int)))], []⟩)
      else some (.ex 0, ⟨[(0, .p (.sl 1 (ints l))), (1, .p (pi v)), (7, .p (pi l.length)), (8, .p (pi l.length)), (9, .p (pb false))], []⟩) := by
  intro m
  induction m with
  | zero =>
    intro i hi
    have : i = l.length := by omega
    subst this
    rw [L_slices_Index_int_int_0, k_loop]
    simp
  | succ m ih =>
    intro i hi
    have hlt : i < l.length := by omega
    have hg := ints_at l i hlt
    rw [List.drop_eq_getElem_cons hlt, List.any_cons, List.findIdx_cons]
    generalize l[i] = x at *
    by_cases hv : v = x
    · subst hv
      rw [L_slices_Index_int_int_0, k_loop]
      simp (disch := omega) [dec_yes, hlt, hg]
    · have hv' : (x == v) = false := by simpa using fun e => hv e.symm
      have ih' := ih (i+1) (by omega)
      rw [hv', Bool.false_or, cond_false]
      have e : ((i + ((l.drop (i+1)).findIdx (fun y => y == v) + 1) : Nat) : Int) = ((i + 1 + (l.drop (i+1)).findIdx (fun y => y == v) : Nat) : Int) := by omega
      rw [e, ← ih', L_slices_Index_int_int_0, k_loop]
      simp (disch := omega) [dec_yes, hlt, hg, hv, wrap_in]
theorem contains (l : List Int) (v : Int) (hl : l.length ≤ 9223372036854775807) : Run (EX cp) 75 [.sl 1 (ints l), pi v] = some (.val (pb (l.any fun y => y == v))) := by
  have h := index_loop (cp := cp) l v hl l.length 0 (by omega)
  simp only [List.drop_zero, Nat.zero_add, Int.ofNat_zero, Int.natCast_zero] at h
  have hi : Run (EX cp) 85 [.sl 1 (ints l), pi v] = some (.val (pi (if l.any (fun y => y == v) then (l.findIdx (fun y => y == v) : Int) else -1))) := by
    rw [run_fn _ A_slices_Index_int_int _ rfl rfl rfl]
    cases hf : l.any (fun y => y == v) <;> rw [hf] at h <;> simp at h <;> simp [A_slices_Index_int_int, h]
  rw [run_fn _ A_slices_Contains_int_int _ rfl rfl rfl]
  cases hf : l.any (fun y => y == v) <;> rw [hf] at hi
  · simp only [Bool.false_eq_true, if_false] at hi
    simp [A_slices_Contains_int_int, hi]
  · simp only [if_true] at hi
    simp (disch := omega) [A_slices_Contains_int_int, hi, dec_yes]
theorem refIn_loop (l : List Int) (v : Int) (hl : l.length ≤ 9223372036854775807) : ∀ (m i : Nat), m + i = l.length →
    Code (EX cp) L_ref17_In_0 ⟨[(0, .p (.sl 1 (ints l))), (1, .p (pi v)), (5, .p (pi i))], []⟩ =
      if (l.drop i).any (fun y => y == v) then some (.ret, ⟨[(4, .p (pb true))], []⟩)
      else some (.ex 0, ⟨[(0, .p (.sl 1 (ints l))), (1, .p (pi v)), (5, .p (pi l.length)), (9, .p (pb false))], []⟩) := by
  intro m
  induction m with
  | zero =>
    intro i hi
    have : i = l.length := by omega
    subst this
    rw [L_ref17_In_0, k_loop]
    simp
  | succ m ih =>
    intro i hi
    have hlt : i < l.length := by omega
    have hg := ints_at l i hlt
    rw [List.drop_eq_getElem_cons hlt, List.any_cons]
    generalize l[i] = x at *
    by_cases hv : x = v
    · subst hv
      rw [L_ref17_In_0, k_loop]
      simp (disch := omega) [dec_yes, hlt, hg]
    · have hv' : (x == v) = false := by simpa using hv
      have ih' := ih (i+1) (by omega)
      rw [hv', Bool.false_or, ← ih', L_ref17_In_0, k_loop]
      simp (disch := omega) [dec_yes, hlt, hg, hv, wrap_in]
theorem refIn (l : List Int) (v : Int) (hl : l.length ≤ 9223372036854775807) : Run (EX cp) 49 [.sl 1 (ints l), pi v] = some (.val (pb (l.any fun y => y == v))) := by
  have h := refIn_loop (cp := cp) l v hl l.length 0 (by omega)
  simp only [List.drop_zero, Int.ofNat_zero, Int.natCast_zero] at h
  rw [run_fn _ A_ref17_In _ rfl rfl rfl]
  cases hf : l.any (fun y => y == v) <;> rw [hf] at h <;> simp at h <;> simp [A_ref17_In, h]

/-! ### is what a group did there? -/
def holdsF (g : Int) (u : List Int) : Bool := g == -1 || !(u.any fun y => y == g)
theorem holds (g : Int) (u : List Int) (hl : u.length ≤ 9223372036854775807) : Run (EX cp) 50 [pi g, .sl 1 (ints u)] = some (.val (pb (holdsF g u))) := by
  have h := contains (cp := cp) u g hl
  rw [run_fn _ A_atom_holds _ rfl rfl rfl]
  by_cases hg : g = -1
  · simp [A_atom_holds, hg, holdsF]
  · simp [A_atom_holds, hg, holdsF, h]
theorem refUndone (g : Int) (u : List Int) (hl : u.length ≤ 9223372036854775807) : Run (EX cp) 53 [.sl 1 (ints u), pi g] = some (.val (pb (!holdsF g u))) := by
  have h := refIn (cp := cp) u g hl
  rw [run_fn _ A_ref17_Undone _ rfl rfl rfl]
  by_cases hg : g = -1
  · simp [A_ref17_Undone, hg, holdsF]
  · simp [A_ref17_Undone, hg, holdsF, h]

/-! ### atoms -/
structure At where
  txt : ByteArray
  rv : Int
  gr : Int
  rk : Int
  cuts : List (Int × Int)
def cutV (q : Int × Int) : List PV := [pi q.1, pi q.2]
def cutsL (c : List (Int × Int)) : List (List PV) := c.map cutV
@[simp] theorem cutsL_len (c : List (Int × Int)) : (cutsL c).length = c.length := by simp [cutsL]
@[simp] theorem cutsL_nil : cutsL [] = [] := rfl
theorem cutsL_at (c : List (Int × Int)) (n : Nat) (h : n < c.length) : (cutsL c)[n]? = some [pi c[n].1, pi c[n].2] := by simp [cutsL, cutV, List.getElem?_eq_getElem h]
def At.pv (a : At) : List PV := [.sc (.string a.txt), pi a.rv, pi a.gr, pi a.rk, .sl 2 (cutsL a.cuts)]
def ats (l : List At) : List (List PV) := l.map At.pv
@[simp] theorem ats_len (l : List At) : (ats l).length = l.length := by simp [ats]
@[simp] theorem ats_nil : ats [] = [] := rfl
theorem ats_at (l : List At) (n : Nat) (h : n < l.length) : (ats l)[n]? = some l[n].pv := by simp [ats, List.getElem?_eq_getElem h]
@[simp] theorem ats_take (l : List At) : (ats l).take l.length = ats l := by rw [List.take_of_length_le (by simp)]
theorem ats_append (a b : List At) : ats a ++ ats b = ats (a ++ b) := by simp [ats]
@[simp] theorem ats_snoc (l : List At) (x : At) : ats l ++ [x.pv] = ats (l ++ [x]) := by simp [ats]
def cutP (rev : Int) (u : List Int) : List PV → Bool
  | [.sc (.int _ a), .sc (.int _ b)] => decide (a ≤ rev) && holdsF b u
  | _ => false
def At.vis (a : At) (rev : Int) (u : List Int) : Bool := decide (a.rv ≤ rev) && holdsF a.gr u && !(a.cuts.any fun q => decide (q.1 ≤ rev) && holdsF q.2 u)
theorem visible1 (cr cg rev : Int) (u : List Int) (hl : u.length ≤ 9223372036854775807) : Run (EX cp) 52 [.st [pi cr, pi cg], .pt [pi rev], .pt [.sl 1 (ints u)]] = some (.val (pb (decide (cr ≤ rev) && holdsF cg u))) := by
  have h := holds (cp := cp) cg u hl
  rw [run_fn _ A_atom_Visible_1 _ rfl rfl rfl]
  by_cases hg : cr ≤ rev
  · simp [A_atom_Visible_1, hg, h]
  · simp [A_atom_Visible_1, hg, h]
theorem visible (a : At) (rev : Int) (u : List Int) (hl : u.length ≤ 9223372036854775807) (hc : a.cuts.length ≤ 9223372036854775807) :
    Run (EX cp) 20 [.st a.pv, pi rev, .sl 1 (ints u)] = some (.val (pb (a.vis rev u))) := by
  have h1 := holds (cp := cp) a.gr u hl
  have h2 := containsFuncC (cp := cp) (cutsL a.cuts) 52 [.pt [pi rev], .pt [.sl 1 (ints u)]] (cutP rev u) (by simpa using hc) (fun r hr => by
    obtain ⟨q, hq, rfl⟩ := List.mem_map.1 hr
    exact ⟨rfl, visible1 q.1 q.2 rev u hl⟩)
  have h3 : (cutsL a.cuts).any (cutP rev u) = a.cuts.any fun q => decide (q.1 ≤ rev) && holdsF q.2 u := by
    simp [cutsL, cutV, List.any_map, Function.comp_def, cutP]
  rw [h3] at h2
  rw [run_fn _ A_atom_Visible _ rfl rfl rfl, At.pv, At.vis]
  by_cases hg : a.rv ≤ rev
  · cases hh : holdsF a.gr u <;> rw [hh] at h1 <;> simp (disch := omega) [A_atom_Visible, hg, h1, h2, dec_yes, dec_no]
  · simp (disch := omega) [A_atom_Visible, hg, dec_yes, dec_no]
theorem refVisible_loop (a : At) (rev : Int) (u : List Int) (hl : u.length ≤ 9223372036854775807) (hc : a.cuts.length ≤ 9223372036854775807) : ∀ (m i : Nat), m + i = a.cuts.length →
    Code (EX cp) L_ref17_Visible_0 ⟨[(1, .p (pi rev)), (2, .p (.sl 1 (ints u))), (3, .mp 3 0 0), (7, .p (pi i))], [(3, .row 31 5 false [a.pv])]⟩ =
      if (a.cuts.drop i).any (fun q => decide (q.1 ≤ rev) && holdsF q.2 u) then some (.ret, ⟨[(6, .p (pb false))], []⟩)
      else some (.ex 0, ⟨[(1, .p (pi rev)), (2, .p (.sl 1 (ints u))), (3, .mp 3 0 0), (7, .p (pi a.cuts.length)), (22, .p (pb false))], [(3, .row 31 5 false [a.pv])]⟩) := by
  intro m
  induction m with
  | zero =>
    intro i hi
    have : i = a.cuts.length := by omega
    subst this
    rw [L_ref17_Visible_0, k_loop]
    simp [At.pv]
  | succ m ih =>
    intro i hi
    have hlt : i < a.cuts.length := by omega
    have hg := cutsL_at a.cuts i hlt
    have h1 := refUndone (cp := cp) a.cuts[i].2 u hl
    rw [List.drop_eq_getElem_cons hlt, List.any_cons]
    generalize a.cuts[i] = q at *
    have ih' := ih (i+1) (by omega)
    by_cases c : q.1 ≤ rev
    · cases hh : holdsF q.2 u <;> rw [hh] at h1
      · simp only [Bool.and_false, Bool.false_or]
        rw [← ih', L_ref17_Visible_0, k_loop]
        simp (disch := omega) [At.pv, hlt, hg, c, h1, dec_yes, dec_no, wrap_in]
      · simp only [c, decide_true, Bool.and_true, Bool.true_or, if_true]
        rw [L_ref17_Visible_0, k_loop]
        simp (disch := omega) [At.pv, hlt, hg, c, h1, dec_yes, dec_no, wrap_in]
    · simp only [c, decide_false, Bool.false_and, Bool.false_or]
      rw [← ih', L_ref17_Visible_0, k_loop]
      simp (disch := omega) [At.pv, hlt, hg, c, dec_yes, dec_no, wrap_in]
theorem refVisible (a : At) (rev : Int) (u : List Int) (hl : u.length ≤ 9223372036854775807) (hc : a.cuts.length ≤ 9223372036854775807) :
    Run (EX cp) 21 [.st a.pv, pi rev, .sl 1 (ints u)] = some (.val (pb (a.vis rev u))) := by
  have h1 := refUndone (cp := cp) a.gr u hl
  have h2 := refVisible_loop (cp := cp) a rev u hl hc a.cuts.length 0 (by omega)
  simp only [List.drop_zero, Int.ofNat_zero, Int.natCast_zero] at h2
  simp only [At.pv] at h2
  rw [run_fn _ A_ref17_Visible _ rfl rfl rfl, At.pv, At.vis]
  by_cases hg : a.rv ≤ rev
  · cases hh : holdsF a.gr u <;> rw [hh] at h1
    · simp (disch := omega) [A_ref17_Visible, hg, h1, dec_yes, dec_no]
    · cases hh2 : a.cuts.any (fun q => decide (q.1 ≤ rev) && holdsF q.2 u)
      · simp only [hh2, Bool.false_eq_true, if_false] at h2
        simp (disch := omega) [A_ref17_Visible, hg, h1, h2, dec_yes, dec_no]
      · simp only [hh2, if_true] at h2
        simp (disch := omega) [A_ref17_Visible, hg, h1, h2, dec_yes, dec_no]
  · simp (disch := omega) [A_ref17_Visible, hg, dec_yes, dec_no]
end Go.Proofs.Ytihgpnfkadldeaa.AM
