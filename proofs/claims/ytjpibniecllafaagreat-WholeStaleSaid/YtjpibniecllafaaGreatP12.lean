/- Made by pack.py: AR6, AR7, RE1, AR8, AR9, RE2, RE3, RE4, AR10, AR11, AR12, AR13, AFok0, AFok1, AFok2, AFok3, AFok4, AFok, AMS2, AMS, AMS3, AX. No condition but what each says. -/
import Derived.Test.YtjpibniecllafaaGreatP11
import Derived.Lib.DecodeN
import Derived.Test.YtjpibniecllafaaGreatP8
import Derived.Test.YtjpibniecllafaaGreatP10
import Derived.Test.YtjpibniecllafaaGreatProg
import Derived.Test.YtjpibniecllafaaGreatP5
import Derived.WalkKit
import Derived.Shelf.RegionOpenPlain
import Derived.ProofKit
import Derived.Lib.Builder
import Derived.Lib.AppendStr
import Derived.Lib.UnsafeStr
import Derived.Lib.FrozenHead
import Derived.Lib.RuneBytes
import Derived.Lib.SliceRun
set_option linter.unusedSimpArgs false
set_option linter.unusedVariables false
section
namespace Go.Proofs.YtjpibniecllafaaGreat.AM
open Go Go.Proofs.YtjpibniecllafaaGreat.U
variable {cp : List PV → Option Ret}
theorem Tht (l : List (List PV)) (fid : FuncId) (cs : List PV) (p : List PV → Bool) (hl : l.length ≤ 9223372036854775807) (hp : ∀ c ∈ l, c.length = 2 ∧ Run (EX cp) fid (.st c :: cs) = some (.val (pb (p c)))) : ∀ (m i : Nat), m + i = l.length →
 Code (EX cp) L_slices_IndexFunc_api_Cut_api_Cut_0 ⟨[(0, .p (.sl 2 l)), (1, .p (.fn fid cs)), (7, .p (pi l.length)), (8, .p (pi i))], []⟩ =
  some (match (l.drop i).findIdx? p with
   | some j => (.ret, ⟨[(4, .p (pi ((i + j : Nat) : Int)))], []⟩)
   | none => (.ex 0, ⟨[(0, .p (.sl 2 l)), (1, .p (.fn fid cs)), (7, .p (pi l.length)), (8, .p (pi l.length)), (9, .p (pb false))], []⟩)) := by
 intro m
 induction m with
 | zero =>
  intro i hi
  have : i = l.length := by omega
  subst this
  rw [L_slices_IndexFunc_api_Cut_api_Cut_0, Taf]
  simp
 | succ m ih =>
  intro i hi
  have hlt : i < l.length := by omega
  obtain ⟨h2, hr⟩ := hp l[i] (List.getElem_mem hlt)
  have hg : l[i]? = some l[i] := List.getElem?_eq_getElem hlt
  rw [List.drop_eq_getElem_cons hlt, List.findIdx?_cons]
  generalize hge : l[i] = c at *
  have htk : c.take 2 = c := List.take_of_length_le (by omega)
  cases hpc : p c with
  | true =>
   rw [hpc] at hr
   rw [L_slices_IndexFunc_api_Cut_api_Cut_0, Taf]
   simp (disch := omega) [Taa, hlt, hg, hge, hr, h2, htk, Ta8]
  | false =>
   have ih' := ih (i+1) (by omega)
   rw [hpc] at hr
   have e : (some (match (if (false : Bool) = true then some 0 else Option.map (fun i => i + 1) ((l.drop (i+1)).findIdx? p)) with
    | some j => (Out.ret, (⟨[(4, .p (pi ((i + j : Nat) : Int)))], []⟩ : St))
    | none => (.ex 0, ⟨[(0, .p (.sl 2 l)), (1, .p (.fn fid cs)), (7, .p (pi l.length)), (8, .p (pi l.length)), (9, .p (pb false))], []⟩))) = Code (EX cp) L_slices_IndexFunc_api_Cut_api_Cut_0 ⟨[(0, .p (.sl 2 l)), (1, .p (.fn fid cs)), (7, .p (pi l.length)), (8, .p (pi ((i + 1 : Nat) : Int)))], []⟩ := by
    rw [ih']
    cases (l.drop (i+1)).findIdx? p with
    | none => rfl
    | some j => simp; omega
   rw [e]
   conv => lhs; rw [L_slices_IndexFunc_api_Cut_api_Cut_0, Taf]
   simp (disch := omega) [Taa, hlt, hg, hge, hr, h2, htk, Ta8, Tad]
   rw [L_slices_IndexFunc_api_Cut_api_Cut_0]
theorem containsFuncC (l : List (List PV)) (fid : FuncId) (cs : List PV) (p : List PV → Bool) (hl : l.length ≤ 9223372036854775807) (hp : ∀ c ∈ l, c.length = 2 ∧ Run (EX cp) fid (.st c :: cs) = some (.val (pb (p c)))) :
 Run (EX cp) 161 [.sl 2 l, .fn fid cs] = some (.val (pb (l.any p))) := by
 have h := Tht l fid cs p hl hp l.length 0 (by omega)
 have hi : Run (EX cp) 205 [.sl 2 l, .fn fid cs] = some (.val (pi (match l.findIdx? p with | some j => (j : Int) | none => -1))) := by
  rw [Taj _ A_slices_IndexFunc_api_Cut_api_Cut _ rfl rfl rfl]
  simp only [List.drop_zero, Nat.zero_add, Int.ofNat_zero, Int.natCast_zero] at h
  cases hf : l.findIdx? p <;> rw [hf] at h <;> simp [A_slices_IndexFunc_api_Cut_api_Cut, h]
 rw [Taj _ A_slices_ContainsFunc_api_Cut_api_Cut _ rfl rfl rfl]
 simp [A_slices_ContainsFunc_api_Cut_api_Cut, hi]
 cases hf : l.findIdx? p with
 | none =>
  rw [List.findIdx?_eq_none_iff] at hf
  simp
  intro c hc
  simpa using hf c hc
 | some j =>
  obtain ⟨h1, h2, _⟩ := List.findIdx?_eq_some_iff_getElem.1 hf
  simp
  exact ⟨_, List.getElem_mem h1, h2⟩
theorem Tpr (l : List Int) (v : Int) (hl : l.length ≤ 9223372036854775807) : ∀ (m i : Nat), m + i = l.length →
 Code (EX cp) L_slices_Index_int_int_0 ⟨[(0, .p (.sl 1 (ints l))), (1, .p (pi v)), (7, .p (pi l.length)), (8, .p (pi i))], []⟩ =
  if (l.drop i).any (fun y => y == v) then some (.ret, ⟨[(4, .p (pi ((i + (l.drop i).findIdx (fun y => y == v) : Nat) : Int)))], []⟩)
  else some (.ex 0, ⟨[(0, .p (.sl 1 (ints l))), (1, .p (pi v)), (7, .p (pi l.length)), (8, .p (pi l.length)), (9, .p (pb false))], []⟩) := by
 intro m
 induction m with
 | zero =>
  intro i hi
  have : i = l.length := by omega
  subst this
  rw [L_slices_Index_int_int_0, Taf]
  simp
 | succ m ih =>
  intro i hi
  have hlt : i < l.length := by omega
  have hg := Tev l i hlt
  rw [List.drop_eq_getElem_cons hlt, List.any_cons, List.findIdx_cons]
  generalize l[i] = x at *
  by_cases hv : v = x
  · subst hv
    rw [L_slices_Index_int_int_0, Taf]
    simp (disch := omega) [Taa, hlt, hg]
  · have hv' : (x == v) = false := by simpa using fun e => hv e.symm
    have ih' := ih (i+1) (by omega)
    rw [hv', Bool.false_or, cond_false]
    have e : ((i + ((l.drop (i+1)).findIdx (fun y => y == v) + 1) : Nat) : Int) = ((i + 1 + (l.drop (i+1)).findIdx (fun y => y == v) : Nat) : Int) := by omega
    rw [e, ← ih', L_slices_Index_int_int_0, Taf]
    simp (disch := omega) [Taa, hlt, hg, hv, Tad]
theorem contains (l : List Int) (v : Int) (hl : l.length ≤ 9223372036854775807) : Run (EX cp) 159 [.sl 1 (ints l), pi v] = some (.val (pb (l.any fun y => y == v))) := by
 have h := Tpr (cp := cp) l v hl l.length 0 (by omega)
 simp only [List.drop_zero, Nat.zero_add, Int.ofNat_zero, Int.natCast_zero] at h
 have hi : Run (EX cp) 204 [.sl 1 (ints l), pi v] = some (.val (pi (if l.any (fun y => y == v) then (l.findIdx (fun y => y == v) : Int) else -1))) := by
  rw [Taj _ A_slices_Index_int_int _ rfl rfl rfl]
  cases hf : l.any (fun y => y == v) <;> rw [hf] at h <;> simp at h <;> simp [A_slices_Index_int_int, h]
 rw [Taj _ A_slices_Contains_int_int _ rfl rfl rfl]
 cases hf : l.any (fun y => y == v) <;> rw [hf] at hi
 · simp only [Bool.false_eq_true, if_false] at hi
   simp [A_slices_Contains_int_int, hi]
 · simp only [if_true] at hi
   simp (disch := omega) [A_slices_Contains_int_int, hi, Taa]
theorem Tps (l : List Int) (v : Int) (hl : l.length ≤ 9223372036854775807) : ∀ (m i : Nat), m + i = l.length →
 Code (EX cp) L_ref17_In_0 ⟨[(0, .p (.sl 1 (ints l))), (1, .p (pi v)), (5, .p (pi i))], []⟩ =
  if (l.drop i).any (fun y => y == v) then some (.ret, ⟨[(4, .p (pb true))], []⟩)
  else some (.ex 0, ⟨[(0, .p (.sl 1 (ints l))), (1, .p (pi v)), (5, .p (pi l.length)), (9, .p (pb false))], []⟩) := by
 intro m
 induction m with
 | zero =>
  intro i hi
  have : i = l.length := by omega
  subst this
  rw [L_ref17_In_0, Taf]
  simp
 | succ m ih =>
  intro i hi
  have hlt : i < l.length := by omega
  have hg := Tev l i hlt
  rw [List.drop_eq_getElem_cons hlt, List.any_cons]
  generalize l[i] = x at *
  by_cases hv : x = v
  · subst hv
    rw [L_ref17_In_0, Taf]
    simp (disch := omega) [Taa, hlt, hg]
  · have hv' : (x == v) = false := by simpa using hv
    have ih' := ih (i+1) (by omega)
    rw [hv', Bool.false_or, ← ih', L_ref17_In_0, Taf]
    simp (disch := omega) [Taa, hlt, hg, hv, Tad]
theorem refIn (l : List Int) (v : Int) (hl : l.length ≤ 9223372036854775807) : Run (EX cp) 107 [.sl 1 (ints l), pi v] = some (.val (pb (l.any fun y => y == v))) := by
 have h := Tps (cp := cp) l v hl l.length 0 (by omega)
 simp only [List.drop_zero, Int.ofNat_zero, Int.natCast_zero] at h
 rw [Taj _ A_ref17_In _ rfl rfl rfl]
 cases hf : l.any (fun y => y == v) <;> rw [hf] at h <;> simp at h <;> simp [A_ref17_In, h]
def holdsF (g : Int) (u : List Int) : Bool := g == -1 || !(u.any fun y => y == g)
theorem holds (g : Int) (u : List Int) (hl : u.length ≤ 9223372036854775807) : Run (EX cp) 198 [pi g, .sl 1 (ints u)] = some (.val (pb (holdsF g u))) := by
 have h := contains (cp := cp) u g hl
 rw [Taj _ A_atom_holds _ rfl rfl rfl]
 by_cases hg : g = -1
 · simp [A_atom_holds, hg, holdsF]
 · simp [A_atom_holds, hg, holdsF, h]
theorem refUndone (g : Int) (u : List Int) (hl : u.length ≤ 9223372036854775807) : Run (EX cp) 61 [.sl 1 (ints u), pi g] = some (.val (pb (!holdsF g u))) := by
 have h := refIn (cp := cp) u g hl
 rw [Taj _ A_ref17_Undone _ rfl rfl rfl]
 by_cases hg : g = -1
 · simp [A_ref17_Undone, hg, holdsF]
 · simp [A_ref17_Undone, hg, holdsF, h]
structure At where
 txt : ByteArray
 rv : Int
 gr : Int
 rk : Int
 cuts : List (Int × Int)
def cutV (q : Int × Int) : List PV := [pi q.1, pi q.2]
def cutsL (c : List (Int × Int)) : List (List PV) := c.map cutV
@[simp] theorem Tr5 (c : List (Int × Int)) : (cutsL c).length = c.length := by simp [cutsL]
@[simp] theorem T0j : cutsL [] = [] := rfl
theorem Tod (c : List (Int × Int)) (n : Nat) (h : n < c.length) : (cutsL c)[n]? = some [pi c[n].1, pi c[n].2] := by simp [cutsL, cutV, List.getElem?_eq_getElem h]
def At.pv (a : At) : List PV := [.sc (.string a.txt), pi a.rv, pi a.gr, pi a.rk, .sl 2 (cutsL a.cuts)]
def ats (l : List At) : List (List PV) := l.map At.pv
@[simp] theorem Tdu (l : List At) : (ats l).length = l.length := by simp [ats]
@[simp] theorem Tyt : ats [] = [] := rfl
theorem Tiz (l : List At) (n : Nat) (h : n < l.length) : (ats l)[n]? = some l[n].pv := by simp [ats, List.getElem?_eq_getElem h]
@[simp] theorem Tj6 (l : List At) : (ats l).take l.length = ats l := by rw [List.take_of_length_le (by simp)]
theorem Teh (a b : List At) : ats a ++ ats b = ats (a ++ b) := by simp [ats]
@[simp] theorem T07 (l : List At) (x : At) : ats l ++ [x.pv] = ats (l ++ [x]) := by simp [ats]
def cutP (rev : Int) (u : List Int) : List PV → Bool
 | [.sc (.int _ a), .sc (.int _ b)] => decide (a ≤ rev) && holdsF b u
 | _ => false
def At.vis (a : At) (rev : Int) (u : List Int) : Bool := decide (a.rv ≤ rev) && holdsF a.gr u && !(a.cuts.any fun q => decide (q.1 ≤ rev) && holdsF q.2 u)
theorem visible1 (cr cg rev : Int) (u : List Int) (hl : u.length ≤ 9223372036854775807) : Run (EX cp) 199 [.st [pi cr, pi cg], .pt [pi rev], .pt [.sl 1 (ints u)]] = some (.val (pb (decide (cr ≤ rev) && holdsF cg u))) := by
 have h := holds (cp := cp) cg u hl
 rw [Taj _ A_atom_Visible_1 _ rfl rfl rfl]
 by_cases hg : cr ≤ rev
 · simp [A_atom_Visible_1, hg, h]
 · simp [A_atom_Visible_1, hg, h]
theorem visible (a : At) (rev : Int) (u : List Int) (hl : u.length ≤ 9223372036854775807) (hc : a.cuts.length ≤ 9223372036854775807) :
 Run (EX cp) 152 [.st a.pv, pi rev, .sl 1 (ints u)] = some (.val (pb (a.vis rev u))) := by
 have h1 := holds (cp := cp) a.gr u hl
 have h2 := containsFuncC (cp := cp) (cutsL a.cuts) 199 [.pt [pi rev], .pt [.sl 1 (ints u)]] (cutP rev u) (by simpa using hc) (fun r hr => by
  obtain ⟨q, hq, rfl⟩ := List.mem_map.1 hr
  exact ⟨rfl, visible1 q.1 q.2 rev u hl⟩)
 have h3 : (cutsL a.cuts).any (cutP rev u) = a.cuts.any fun q => decide (q.1 ≤ rev) && holdsF q.2 u := by
  simp [cutsL, cutV, List.any_map, Function.comp_def, cutP]
 rw [h3] at h2
 rw [Taj _ A_atom_Visible _ rfl rfl rfl, At.pv, At.vis]
 by_cases hg : a.rv ≤ rev
 · cases hh : holdsF a.gr u <;> rw [hh] at h1 <;> simp (disch := omega) [A_atom_Visible, hg, h1, h2, Taa, Tac]
 · simp (disch := omega) [A_atom_Visible, hg, Taa, Tac]
theorem Thu (a : At) (rev : Int) (u : List Int) (hl : u.length ≤ 9223372036854775807) (hc : a.cuts.length ≤ 9223372036854775807) : ∀ (m i : Nat), m + i = a.cuts.length →
 Code (EX cp) L_ref17_Visible_0 ⟨[(1, .p (pi rev)), (2, .p (.sl 1 (ints u))), (3, .mp 3 0 0), (7, .p (pi i))], [(3, .row 62 5 false [a.pv])]⟩ =
  if (a.cuts.drop i).any (fun q => decide (q.1 ≤ rev) && holdsF q.2 u) then some (.ret, ⟨[(6, .p (pb false))], []⟩)
  else some (.ex 0, ⟨[(1, .p (pi rev)), (2, .p (.sl 1 (ints u))), (3, .mp 3 0 0), (7, .p (pi a.cuts.length)), (22, .p (pb false))], [(3, .row 62 5 false [a.pv])]⟩) := by
 intro m
 induction m with
 | zero =>
  intro i hi
  have : i = a.cuts.length := by omega
  subst this
  rw [L_ref17_Visible_0, Taf]
  simp [At.pv]
 | succ m ih =>
  intro i hi
  have hlt : i < a.cuts.length := by omega
  have hg := Tod a.cuts i hlt
  have h1 := refUndone (cp := cp) a.cuts[i].2 u hl
  rw [List.drop_eq_getElem_cons hlt, List.any_cons]
  generalize a.cuts[i] = q at *
  have ih' := ih (i+1) (by omega)
  by_cases c : q.1 ≤ rev
  · cases hh : holdsF q.2 u <;> rw [hh] at h1
    · simp only [Bool.and_false, Bool.false_or]
      rw [← ih', L_ref17_Visible_0, Taf]
      simp (disch := omega) [At.pv, hlt, hg, c, h1, Taa, Tac, Tad]
    · simp only [c, decide_true, Bool.and_true, Bool.true_or, if_true]
      rw [L_ref17_Visible_0, Taf]
      simp (disch := omega) [At.pv, hlt, hg, c, h1, Taa, Tac, Tad]
  · simp only [c, decide_false, Bool.false_and, Bool.false_or]
    rw [← ih', L_ref17_Visible_0, Taf]
    simp (disch := omega) [At.pv, hlt, hg, c, Taa, Tac, Tad]
theorem refVisible (a : At) (rev : Int) (u : List Int) (hl : u.length ≤ 9223372036854775807) (hc : a.cuts.length ≤ 9223372036854775807) :
 Run (EX cp) 28 [.st a.pv, pi rev, .sl 1 (ints u)] = some (.val (pb (a.vis rev u))) := by
 have h1 := refUndone (cp := cp) a.gr u hl
 have h2 := Thu (cp := cp) a rev u hl hc a.cuts.length 0 (by omega)
 simp only [List.drop_zero, Int.ofNat_zero, Int.natCast_zero] at h2
 simp only [At.pv] at h2
 rw [Taj _ A_ref17_Visible _ rfl rfl rfl, At.pv, At.vis]
 by_cases hg : a.rv ≤ rev
 · cases hh : holdsF a.gr u <;> rw [hh] at h1
   · simp (disch := omega) [A_ref17_Visible, hg, h1, Taa, Tac]
   · cases hh2 : a.cuts.any (fun q => decide (q.1 ≤ rev) && holdsF q.2 u)
     · simp only [hh2, Bool.false_eq_true, if_false] at h2
       simp (disch := omega) [A_ref17_Visible, hg, h1, h2, Taa, Tac]
     · simp only [hh2, if_true] at h2
       simp (disch := omega) [A_ref17_Visible, hg, h1, h2, Taa, Tac]
 · simp (disch := omega) [A_ref17_Visible, hg, Taa, Tac]
def sumT (l : List At) : Nat := (l.map fun a => a.txt.size).sum
theorem Td5 (a : At) (l : List At) : sumT (a :: l) = a.txt.size + sumT l := by simp [sumT]
theorem Tmn (a b : List At) : sumT (a ++ b) = sumT a + sumT b := by simp [sumT]
theorem Tr6 (l : List At) (i : Nat) : sumT (l.drop i) ≤ sumT l := by
 conv => rhs; rw [← List.take_append_drop i l]
 rw [Tmn]; omega
structure Fit (l : List At) : Prop where
 len : l.length < 1099511627776
 sum : sumT l < 35184372088832
 cuts : ∀ a ∈ l, a.cuts.length < 1099511627776
theorem Fit.get {l : List At} (h : Fit l) (i : Nat) (hi : i < l.length) : l[i].cuts.length ≤ 9223372036854775807 ∧ l[i].txt.size < 35184372088832 := by
 have h1 := h.cuts _ (List.getElem_mem hi)
 refine ⟨by omega, ?_⟩
 have h2 := h.sum
 have h3 : sumT (l.drop i) ≤ sumT l := Tr6 l i
 rw [List.drop_eq_getElem_cons hi, Td5] at h3
 omega
def plcs (rev : Int) (u : List Int) : List At → Nat → List Int
 | [], _ => []
 | a :: l, n => (n : Int) :: plcs rev u l (if a.vis rev u then n + a.txt.size else n)
def plcE (rev : Int) (u : List Int) : List At → Nat → Nat
 | [], n => n
 | a :: l, n => plcE rev u l (if a.vis rev u then n + a.txt.size else n)
def places (rev : Int) (u : List Int) (l : List At) : List Int := plcs rev u l 0 ++ [(plcE rev u l 0 : Int)]
theorem Tei (rev : Int) (u : List Int) : ∀ (l : List At) (n : Nat), (plcs rev u l n).length = l.length
 | [], _ => rfl
 | a :: l, n => by simp [plcs, Tei rev u l]
theorem Ti0 (rev : Int) (u : List Int) (l : List At) : (places rev u l).length = l.length + 1 := by simp [places, Tei]
set_option maxHeartbeats 1000000 in
theorem Tmo (l : List At) (rev : Int) (u : List Int) (hf : Fit l) (hu : u.length ≤ 9223372036854775807) : ∀ (m i n : Nat) (acc : List Int), m + i = l.length → acc.length = i → n + sumT (l.drop i) < 35184372088832 →
 Code (EX cp) L_atom_Places_0 ⟨[(1, .p (pi rev)), (2, .p (.sl 1 (ints u))), (7, .ms 7 0 acc.length), (8, .p (pi n)), (15, .p (.sl 5 (ats l))), (16, .p (pi l.length)), (17, .p (pi i))], [(7, .row 3 1 false (ints acc))]⟩ =
  some (.ex 0, ⟨[(1, .p (pi rev)), (2, .p (.sl 1 (ints u))), (7, .ms 7 0 (acc ++ plcs rev u (l.drop i) n).length), (8, .p (pi (plcE rev u (l.drop i) n))), (15, .p (.sl 5 (ats l))), (16, .p (pi l.length)), (17, .p (pi l.length)), (18, .p (pb false))], [(7, .row 3 1 false (ints (acc ++ plcs rev u (l.drop i) n)))]⟩) := by
 intro m
 induction m with
 | zero =>
  intro i n acc hi ha hb
  have : i = l.length := by omega
  subst this
  rw [L_atom_Places_0, Taf]
  simp [plcs, plcE]
 | succ m ih =>
  intro i n acc hi ha hb
  have hlt : i < l.length := by omega
  have hl := hf.len
  have hg := Tiz l i hlt
  obtain ⟨hc, hz⟩ := hf.get i hlt
  have hv := visible (cp := cp) l[i] rev u hu hc
  rw [List.drop_eq_getElem_cons hlt] at hb ⊢
  rw [Td5] at hb
  have hcap : (acc.length + 1) * 8 ≤ maxBytes ∧ acc.length + 1 ≤ 9223372036854775807 := by unfold maxBytes; omega
  generalize l[i] = a at *
  cases hvis : a.vis rev u with
  | false =>
   rw [hvis] at hv
   have ih' := ih (i+1) n (acc ++ [(n : Int)]) (by omega) (by simp; omega) (by omega)
   have e : acc ++ plcs rev u (a :: l.drop (i+1)) n = (acc ++ [(n : Int)]) ++ plcs rev u (l.drop (i+1)) n := by simp [plcs, hvis]
   have e2 : plcE rev u (a :: l.drop (i+1)) n = plcE rev u (l.drop (i+1)) n := by simp [plcE, hvis]
   rw [e, e2, ← ih', L_atom_Places_0, Taf]
   simp only [At.pv] at hv hg
   simp (disch := omega) [hlt, hg, hv, Tad, hcap, Taa]
  | true =>
   rw [hvis] at hv
   have ih' := ih (i+1) (n + a.txt.size) (acc ++ [(n : Int)]) (by omega) (by simp; omega) (by omega)
   have e : acc ++ plcs rev u (a :: l.drop (i+1)) n = (acc ++ [(n : Int)]) ++ plcs rev u (l.drop (i+1)) (n + a.txt.size) := by simp [plcs, hvis]
   have e2 : plcE rev u (a :: l.drop (i+1)) n = plcE rev u (l.drop (i+1)) (n + a.txt.size) := by simp [plcE, hvis]
   rw [e, e2, ← ih', L_atom_Places_0, Taf]
   simp only [At.pv] at hv hg
   simp (disch := omega) [hlt, hg, hv, Tad, hcap, Taa]
theorem atomPlaces (l : List At) (rev : Int) (u : List Int) (hf : Fit l) (hu : u.length ≤ 9223372036854775807) : Run (EX cp) 155 [.sl 5 (ats l), pi rev, .sl 1 (ints u)] = some (.own 3 1 (ints (places rev u l))) := by
 have h := Tmo (cp := cp) l rev u hf hu l.length 0 0 [] (by omega) rfl (by simpa using hf.sum)
 have hl := hf.len
 have hcap : (l.length + 1) * 8 ≤ maxBytes ∧ l.length + 1 ≤ 9223372036854775807 := by unfold maxBytes; omega
 have hpl := Tei rev u l 0
 have hE : ((plcs rev u l 0).length + 1) * 8 ≤ maxBytes ∧ (plcs rev u l 0).length + 1 ≤ 9223372036854775807 := by unfold maxBytes; omega
 rw [Taj _ A_atom_Places _ rfl rfl rfl]
 simp at h
 simp (disch := omega) [A_atom_Places, h, Tad, hcap, hE, Ta8, places]
def txtF (rev : Int) (u : List Int) : List At → List UInt8
 | [] => []
 | a :: l => (if a.vis rev u then L a.txt else []) ++ txtF rev u l
def txtS (rev : Int) (u : List Int) (l : List At) : ByteArray := ⟨(txtF rev u l).toArray⟩
theorem Tay (rev : Int) (u : List Int) : ∀ (a b : List At), txtF rev u (a ++ b) = txtF rev u a ++ txtF rev u b
 | [], b => rfl
 | x :: a, b => by simp [txtF, Tay rev u a b]
theorem Tj7 (rev : Int) (u : List Int) : ∀ (l : List At), (txtF rev u l).length ≤ sumT l
 | [] => by simp [txtF]
 | a :: l => by
  have := Tj7 rev u l
  rw [Td5, txtF, List.length_append]
  split <;> simp [L_len] <;> omega
theorem Toe (rev : Int) (u : List Int) : ∀ (l : List At) (n : Nat), plcE rev u l n = n + (txtF rev u l).length
 | [], n => by simp [plcE, txtF]
 | a :: l, n => by
  rw [plcE, Toe rev u l, txtF, List.length_append]
  split <;> simp [L_len] <;> omega
theorem Tr7 (rev : Int) (u : List Int) : ∀ (l : List At) (n i : Nat), i < l.length → (plcs rev u l n)[i]? = some ((n + (txtF rev u (l.take i)).length : Nat) : Int)
 | [], n, i, h => by simp at h
 | a :: l, n, 0, h => by simp [plcs, txtF]
 | a :: l, n, i + 1, h => by
  have := Tr7 rev u l (if a.vis rev u then n + a.txt.size else n) i (by simpa using h)
  rw [plcs, List.getElem?_cons_succ, this, List.take_succ_cons, txtF, List.length_append]
  split <;> simp [L_len] <;> omega
theorem Tff (rev : Int) (u : List Int) (l : List At) (i : Nat) (h : i ≤ l.length) : (places rev u l)[i]? = some (((txtF rev u (l.take i)).length : Nat) : Int) := by
 unfold places
 rcases Nat.lt_or_ge i l.length with h' | h'
 · rw [List.getElem?_append_left (by rw [Tei]; exact h'), Tr7 rev u l 0 i h', Nat.zero_add]
 · have : i = l.length := by omega
   subst this
   rw [List.getElem?_append_right (by rw [Tei]; exact Nat.le_refl _), Tei, Nat.sub_self, Toe, List.take_length, Nat.zero_add]
   rfl
set_option maxHeartbeats 1000000 in
theorem Tr8 (l : List At) (rev : Int) (u : List Int) (hf : Fit l) (hu : u.length ≤ 9223372036854775807) : ∀ (m i : Nat) (acc : List UInt8), m + i = l.length → acc.length + sumT (l.drop i) < 35184372088832 →
 Code (EX cp) L_atom_Text_0 ⟨[(1, .p (pi rev)), (2, .p (.sl 1 (ints u))), (7, .mp 7 0 0), (10, .p (.sl 5 (ats l))), (11, .p (pi l.length)), (12, .p (pi i))], [(7, .dp 145 2 (sbRow 5 (bRows acc)))]⟩ =
  some (.ex 0, ⟨[(1, .p (pi rev)), (2, .p (.sl 1 (ints u))), (7, .mp 7 0 0), (10, .p (.sl 5 (ats l))), (11, .p (pi l.length)), (12, .p (pi l.length)), (13, .p (pb false))], [(7, .dp 145 2 (sbRow 5 (bRows (acc ++ txtF rev u (l.drop i)))))]⟩) := by
 intro m
 induction m with
 | zero =>
  intro i acc hi hb
  have : i = l.length := by omega
  subst this
  rw [L_atom_Text_0, Taf]
  simp [txtF]
 | succ m ih =>
  intro i acc hi hb
  have hlt : i < l.length := by omega
  have hl := hf.len
  have hg := Tiz l i hlt
  obtain ⟨hc, hz⟩ := hf.get i hlt
  have hv := visible (cp := cp) l[i] rev u hu hc
  rw [List.drop_eq_getElem_cons hlt] at hb ⊢
  rw [Td5] at hb
  generalize l[i] = a at *
  have hln : a.txt.data.toList.length = a.txt.size := by simp
  have hcap : acc.length + a.txt.size + 4 ≤ maxBytes := by unfold maxBytes; omega
  cases hvis : a.vis rev u with
  | false =>
   rw [hvis] at hv
   have ih' := ih (i+1) acc (by omega) (by omega)
   have e : acc ++ txtF rev u (a :: l.drop (i+1)) = acc ++ txtF rev u (l.drop (i+1)) := by simp [txtF, hvis]
   rw [e, ← ih', L_atom_Text_0, Taf]
   simp only [At.pv] at hv hg
   simp (disch := omega) [hlt, hg, hv, Tad, Taa]
  | true =>
   rw [hvis] at hv
   have ih' := ih (i+1) (acc ++ L a.txt) (by omega) (by rw [List.length_append, L_len]; omega)
   have e : acc ++ txtF rev u (a :: l.drop (i+1)) = (acc ++ L a.txt) ++ txtF rev u (l.drop (i+1)) := by simp [txtF, hvis]
   rw [e, ← ih', L_atom_Text_0, Taf]
   simp only [At.pv] at hv hg
   simp (disch := omega) [hlt, hg, hv, Tad, Taa, hcap, hln, Ta8, L]
theorem atomText (l : List At) (rev : Int) (u : List Int) (hf : Fit l) (hu : u.length ≤ 9223372036854775807) : Run (EX cp) 88 [.sl 5 (ats l), pi rev, .sl 1 (ints u)] = some (.val (.sc (.string (txtS rev u l)))) := by
 have h := Tr8 (cp := cp) l rev u hf hu l.length 0 [] (by omega) (by simpa using hf.sum)
 rw [Taj _ A_atom_Text _ rfl rfl rfl]
 simp at h
 simp [A_atom_Text, h, txtS]
theorem Thv : ∀ l : List UInt8, eff.bytesL (bRows l) = some l
 | [] => rfl
 | b :: l => by
  show (eff.bytesL (bRows l)).map (UInt8.ofNat (b.toNat : Int).toNat :: ·) = some (b :: l)
  rw [Thv l]; simp
@[simp] theorem Twp (l : List UInt8) : eff.bytesOf (bRows l) = some ⟨l.toArray⟩ := by
 unfold eff.bytesOf; rw [Thv]; rfl
@[simp] theorem Tzu (l : List UInt8) : (bRows l).take l.length = bRows l := by rw [List.take_of_length_le (by simp)]
end Go.Proofs.YtjpibniecllafaaGreat.AM
end
section
namespace Go.Proofs.YtjpibniecllafaaGreat.AM
open Go Go.Proofs.YtjpibniecllafaaGreat.U
attribute [local simp] cellR thereV RV.sv innE inlE reach pos subH SV.mapr RV.mapr Ob.mapr SV.refs RV.id? RV.ref Ob.refs noRow shnE shrE okK closeB freshs at0 newS leftS finishS oneS manyS allP sameFz Ob.noPin startS entryS List.range_succ List.filterMap_cons List.filterMap_nil
variable {cp : List PV → Option Ret}
def runN (h : List (Nat × Ob)) (fn : AFunc) : Option (Out × St) → Option Ret
 | some (.ex _, _) => none
 | some (_, s) => (match finishS fn s with | some v => newS h v s | none => none)
 | none => none
def runS (h : List (Nat × Ob)) (fn : AFunc) : Option (Out × St) → Option Ret
 | some (.ex _, _) => none
 | some (_, s) => (match finishS fn s with | some v => leftS h.length v s | none => none)
 | none => none
@[simp] theorem T08 (h : List (Nat × Ob)) (fn : AFunc) (s : St) : runN h fn (some (.ret, s)) = (match finishS fn s with | some v => newS h v s | none => none) := rfl
@[simp] theorem T09 (h : List (Nat × Ob)) (fn : AFunc) (s : St) : runN h fn (some (.nor, s)) = (match finishS fn s with | some v => newS h v s | none => none) := rfl
@[simp] theorem T1a (h : List (Nat × Ob)) (fn : AFunc) (s : St) : runS h fn (some (.ret, s)) = (match finishS fn s with | some v => leftS h.length v s | none => none) := rfl
@[simp] theorem T1b (h : List (Nat × Ob)) (fn : AFunc) (s : St) : runS h fn (some (.nor, s)) = (match finishS fn s with | some v => leftS h.length v s | none => none) := rfl
theorem Tc6 (F f : FuncId) (fn : AFunc) (vs : List SV) (h : List (Nat × Ob)) (hF : F = f + 2000000) (he : (EX cp).isExt F = false) (hn : (EX cp).ap F = none) (hf : (EX cp).ap f = some fn) (ha : vs.length = fn.np) (hp : okK h 0 = true) (hl : h.length ≤ 1000) (hr : fn.body.ro = true) :
 Run (EX cp) F [.hp vs h] = runN h fn (Code (EX cp) fn.body (startS vs h)) := by
 subst hF
 rw [Tw7 (EX cp) f fn vs h he hn hf ha hp hl hr]
 unfold runN; rfl
theorem Tbi (F f : FuncId) (fn : AFunc) (vs : List SV) (h : List (Nat × Ob)) (hF : F = f + 1000000) (h1 : f < 1000000) (he : (EX cp).isExt F = false) (hn : (EX cp).ap F = none) (hf : (EX cp).ap f = some fn) (ha : vs.length = fn.np) (hp : okK h 0 = true) (hl : h.length ≤ 1000) :
 Run (EX cp) F [.hp vs h] = runS h fn (Code (EX cp) fn.body (startS vs h)) := by
 subst hF
 rw [Tw6 (EX cp) f fn vs h h1 he hn hf ha hp hl]
 unfold runS; rfl
def engH (l : List (List PV)) (U : List (List Int)) (fl : Int) (G F : List Int) : List (Nat × Ob) := [(0, .gr 100 2 [[.p (.sl 5 l), .mo 1]]), (1, .mpo U fl G F)]
theorem engHead (l : List (List PV)) (U : List (List Int)) (fl : Int) (G F : List Int) : Run (EX cp) 2000026 [.hp [.mp 0 0 0] (engH l U fl G F)] = some (.shn (.p (pi (fl + U.length - 1))) []) := by
 rw [Tc6 _ 26 A_engine_Engine_Head _ _ (by decide) rfl rfl rfl rfl rfl (by simp [engH]) (by decide +kernel)]
 simp (disch := omega) [A_engine_Engine_Head, engH, Tmi]
theorem engLive (l : List (List PV)) (U : List (List Int)) (fl : Int) (G F : List Int) (r : Int) : Run (EX cp) 2000087 [.hp [.mp 0 0 0, .p (pi r)] (engH l U fl G F)] = some (.shn (.p (pb (decide (fl ≤ r) && decide (r ≤ fl + U.length - 1)))) []) := by
 rw [Tc6 _ 87 A_engine_Engine_Live _ _ (by decide) rfl rfl rfl rfl rfl (by simp [engH]) (by decide +kernel)]
 simp (disch := omega) [A_engine_Engine_Live, engH, Tmj]
def undU (U : List (List Int)) (fl r : Int) : List Int := if fl ≤ r ∧ r ≤ fl + U.length - 1 then U.getD (r - fl).toNat [] else []
theorem Tr9 (U : List (List Int)) (fl r : Int) : (if fl ≤ r ∧ r ≤ fl + U.length - 1 then ints (U.getD (r - fl).toNat []) else []) = ints (undU U fl r) := by
 unfold undU
 split <;> rfl
theorem Tpt (U : List (List Int)) (fl : Int) (G F : List Int) (r : Int) : Run (EX cp) 2000102 [.hp [.mo 0, .p (pi r)] [(0, .mpo U fl G F)]] = some (.shn (.p (.sl 1 (ints (undU U fl r)))) []) := by
 rw [Tjw, Tr9]
theorem engUndoneAt (l : List (List PV)) (U : List (List Int)) (fl : Int) (G F : List Int) (r : Int) : Run (EX cp) 2000056 [.hp [.mp 0 0 0, .p (pi r)] (engH l U fl G F)] = some (.shn (.p (.sl 1 (ints (undU U fl r)))) []) := by
 rw [Tc6 _ 56 A_engine_Engine_UndoneAt _ _ (by decide) rfl rfl rfl rfl rfl (by simp [engH]) (by decide +kernel)]
 simp (disch := omega) [A_engine_Engine_UndoneAt, engH, Tpt]
end Go.Proofs.YtjpibniecllafaaGreat.AM
end
section
namespace Go.Proofs.YtjpibniecllafaaGreat.AM
open Go Go.Proofs.YtjpibniecllafaaGreat.U
variable {cp : List PV → Option Ret}
theorem Tgp (s : ByteArray) (i k : Nat) (b : UInt8) (h : ((L s).drop i)[k]? = some b) : (s.get! (i + k)).toNat = b.toNat := by
 rw [List.getElem?_drop] at h
 have hlt : i + k < (L s).length := (List.getElem?_eq_some_iff.1 h).1
 rw [List.getElem?_eq_getElem hlt] at h
 obtain rfl := oIj h
 have hd : i + k < s.data.size := by simpa [L] using hlt
 have : s.get! (i + k) = s.data[i + k]! := rfl
 rw [this, getElem!_pos s.data (i + k) hd]
 simp [L]
theorem Thw (b : UInt8) : (b.toNat : Int) = bi b := rfl
set_option maxHeartbeats 4000000 in
set_option maxRecDepth 100000 in
theorem Tpu (s : ByteArray) (i : Nat) (h : (dec ((L s).drop i)).1 ≠ 0) : Utf8.decode s i = ((dec ((L s).drop i)).2.toNat, (dec ((L s).drop i)).1) := by
 have hlen : s.size - i = ((L s).drop i).length := by rw [List.length_drop, L_len]
 have hdc := Lib.decode_at s i
 rw [hlen] at hdc
 refine hdc.trans ?_
 clear hdc
 have g0 := Tgp s i 0
 have g1 := Tgp s i 1
 have g2 := Tgp s i 2
 have g3 := Tgp s i 3
 generalize (L s).drop i = l at *
 simp only [Nat.add_zero] at g0
 match l, h with
 | [], h => exact absurd rfl h
 | a :: t, h =>
  have ga := g0 a rfl
  have hr := Tal a
  have ea := Thw a
  rw [ga]
  rw [dec.eq_def] at h ⊢
  simp only at h ⊢
  by_cases b1 : bi a < 128
  · rw [if_pos b1]
    unfold Lib.decodeN
    rw [if_pos (by omega)]
    simp only [Prod.mk.injEq, and_true]; omega
  rw [if_neg b1] at h ⊢
  by_cases b2 : bi a < 192
  · rw [if_pos b2] at h; exact absurd rfl h
  rw [if_neg b2] at h ⊢
  by_cases b3 : bi a < 224
  · rw [if_pos b3] at h ⊢
    match t, h, g1 with
    | [], h, _ => exact absurd rfl h
    | p :: t, h, g1 =>
     have gp := g1 p rfl
     have ep := Thw p
     dsimp only at h ⊢
     by_cases c : cont p ∧ 128 ≤ v2 a p
     · rw [if_pos c]
       obtain ⟨c1, c2⟩ := c
       unfold cont at c1
       unfold v2 at c2 ⊢
       rw [gp]
       unfold Lib.decodeN
       rw [if_neg (by omega), if_pos ⟨by omega, by simp, by omega⟩, if_pos (by omega)]
       simp only [Prod.mk.injEq, and_true]; omega
     · rw [if_neg c] at h; exact absurd rfl h
  rw [if_neg b3] at h ⊢
  by_cases b4 : bi a < 240
  · rw [if_pos b4] at h ⊢
    match t, h, g1, g2 with
    | [], h, _, _ => exact absurd rfl h
    | [p], h, _, _ => exact absurd rfl h
    | p :: q :: t, h, g1, g2 =>
     have gp := g1 p rfl
     have gq := g2 q rfl
     have ep := Thw p
     have eq := Thw q
     dsimp only at h ⊢
     by_cases c : cont p ∧ cont q ∧ 2048 ≤ v3 a p q ∧ ¬ (55296 ≤ v3 a p q ∧ v3 a p q ≤ 57343)
     · rw [if_pos c]
       obtain ⟨c1, c2, c3, c4⟩ := c
       unfold cont at c1 c2
       unfold v3 at c3 c4 ⊢
       rw [gp, gq]
       unfold Lib.decodeN
       rw [if_neg (by omega), if_neg (by omega), if_pos ⟨by omega, ⟨by simp, by omega⟩, by simp, by omega⟩, if_pos (by omega)]
       simp only [Prod.mk.injEq, and_true]; omega
     · rw [if_neg c] at h; exact absurd rfl h
  rw [if_neg b4] at h ⊢
  by_cases b5 : bi a < 248
  · rw [if_pos b5] at h ⊢
    match t, h, g1, g2, g3 with
    | [], h, _, _, _ => exact absurd rfl h
    | [p], h, _, _, _ => exact absurd rfl h
    | [p, q], h, _, _, _ => exact absurd rfl h
    | p :: q :: r :: t, h, g1, g2, g3 =>
     have gp := g1 p rfl
     have gq := g2 q rfl
     have gr := g3 r rfl
     have ep := Thw p
     have eq := Thw q
     have er := Thw r
     dsimp only at h ⊢
     by_cases c : cont p ∧ cont q ∧ cont r ∧ 65536 ≤ v4 a p q r ∧ v4 a p q r ≤ 1114111
     · rw [if_pos c]
       obtain ⟨c1, c2, c3, c4, c5⟩ := c
       unfold cont at c1 c2 c3
       unfold v4 at c4 c5 ⊢
       rw [gp, gq, gr]
       unfold Lib.decodeN
       rw [if_neg (by omega), if_neg (by omega), if_neg (by omega), if_pos ⟨by omega, ⟨by simp, by omega⟩, ⟨by simp, by omega⟩, by simp, by omega⟩, if_pos (by omega)]
       simp only [Prod.mk.injEq, and_true]; omega
     · rw [if_neg c] at h; exact absurd rfl h
  · rw [if_neg b5] at h; exact absurd rfl h
theorem Tpv (v : Int) (h : sc v) : Utf8.encode v = chS v := by
 have hs := h
 unfold sc at hs
 have hv : Utf8.valid v = true := by
  unfold Utf8.valid
  simp only [Bool.or_eq_true, Bool.and_eq_true, decide_eq_true_eq]
  omega
 apply L_inj
 unfold chS Utf8.encode
 rw [L_mk, if_pos hv]
 have key : ∀ x : Int, ∀ n : Nat, (n : Int) = x → (UInt8.ofNat n) = x.toNat.toUInt8 := by
  intro x n hx
  subst hx
  rfl
 by_cases c1 : v < 128
 · rw [Tjx (by omega) c1, if_pos (by omega)]
   exact congrArg (fun x => [x]) (key _ _ (by omega))
 by_cases c2 : v < 2048
 · rw [Tjy (by omega) c2, if_neg (by omega), if_pos (by omega)]
   rw [← key (192 + v / 64) (192 + v.toNat / 64) (by omega), ← key (128 + v % 64) (128 + v.toNat % 64) (by omega)]
   rfl
 by_cases c3 : v < 65536
 · rw [Tfd (by omega) c3 h, if_neg (by omega), if_neg (by omega), if_pos (by omega)]
   rw [← key (224 + v / 4096) (224 + v.toNat / 4096) (by omega), ← key (128 + v / 64 % 64) (128 + v.toNat / 64 % 64) (by omega), ← key (128 + v % 64) (128 + v.toNat % 64) (by omega)]
   rfl
 · rw [Tgj (by omega) (by omega), if_neg (by omega), if_neg (by omega), if_neg (by omega)]
   rw [← key (240 + v / 262144) (240 + v.toNat / 262144) (by omega), ← key (128 + v / 4096 % 64) (128 + v.toNat / 4096 % 64) (by omega), ← key (128 + v / 64 % 64) (128 + v.toNat / 64 % 64) (by omega), ← key (128 + v % 64) (128 + v.toNat % 64) (by omega)]
   rfl
attribute [simp] ret1d
def At.dv (a : At) : List PV := [.sc (.string a.txt), pi a.rv, pi a.gr, pi a.rk, .ow 64 2 (cutsL a.cuts)]
def dats (l : List At) : List (List PV) := l.map At.dv
@[simp] theorem Tu6 (l : List At) : (dats l).length = l.length := by simp [dats]
@[simp] theorem Tzv (l : List At) : okSet (dats l) = true := by
 simp [okSet, dats, At.dv, PV.noHole]
@[simp] theorem T0k (l : List At) : setL (dats l) = ats l := by
 simp [setL, dats, ats, At.dv, At.pv, PV.set, Function.comp_def]
def mix (l : List At) (i : Nat) : List (List PV) := dats (l.take i) ++ ats (l.drop i)
theorem Tu7 (l : List At) : mix l 0 = ats l := by simp [mix, dats]
theorem Tu8 (l : List At) : mix l l.length = dats l := by simp [mix]
@[simp] theorem T1h (l : List At) (i : Nat) : (mix l i).length = l.length := by
 simp [mix]; omega
theorem Tsa (l : List At) (i : Nat) (h : i < l.length) : (mix l i)[i]? = some l[i].pv := by
 unfold mix
 have : (dats (l.take i)).length = i := by simp; omega
 rw [List.getElem?_append_right (by omega), this, Nat.sub_self, List.drop_eq_getElem_cons h]
 rfl
theorem Tyu (l : List At) (i : Nat) (h : i < l.length) : putC (mix l i) i 4 (.ow 64 2 (cutsL l[i].cuts)) = mix l (i + 1) := by
 have hg := Tsa l i h
 unfold putC
 rw [hg]
 dsimp only
 unfold mix
 have hl : (dats (l.take i)).length = i := by simp; omega
 rw [List.set_append_right _ _ (by omega), hl, Nat.sub_self, List.drop_eq_getElem_cons h, List.take_succ_eq_append_getElem h]
 have e : (ats (l[i] :: l.drop (i + 1))).set 0 (l[i].pv.set 4 (.ow 64 2 (cutsL l[i].cuts))) = l[i].dv :: ats (l.drop (i + 1)) := rfl
 have e2 : dats (l.take i ++ [l[i]]) = dats (l.take i) ++ [l[i].dv] := by unfold dats; rw [List.map_append]; rfl
 rw [e, e2, List.append_assoc]
 rfl
theorem Tsb (l : List At) : plainL (ats l) = true := by
 simp [plainL, ats, At.pv, PV.noOw]
theorem Tsc (l : List At) (hl : l.length < 68719476736) (hc : ∀ a ∈ l, a.cuts.length < 68719476736) : ∀ (m i : Nat), m + i = l.length →
 Code (EX cp) L_atom_Copy_0 ⟨[(3, .ms 3 0 l.length), (12, .p (pi l.length)), (13, .p (pi i))], [(3, .dp 62 5 (mix l i))]⟩ =
  some (.ex 0, ⟨[(3, .ms 3 0 l.length), (12, .p (pi l.length)), (13, .p (pi l.length)), (14, .p (pb false))], [(3, .dp 62 5 (dats l))]⟩) := by
 intro m
 induction m with
 | zero =>
  intro i hi
  have : i = l.length := by omega
  subst this
  rw [Tu8, L_atom_Copy_0, Taf]
  simp
 | succ m ih =>
  intro i hi
  have hlt : i < l.length := by omega
  have hg := Tsa l i hlt
  have hp := Tyu l i hlt
  have hcl := hc _ (List.getElem_mem hlt)
  have hr := Trt (cp := cp) (cutsL l[i].cuts) (by intro c h; obtain ⟨q, _, rfl⟩ := List.mem_map.1 h; rfl) (by rw [Tr5]; omega)
  have ih' := ih (i+1) (by omega)
  generalize l[i] = a at *
  simp only [At.pv] at hg
  rw [← ih', L_atom_Copy_0, Taf]
  simp (disch := omega) [hlt, hg, hr, hp, Tad, Taa, PV.noOw]
theorem atomCopy (l : List At) (hl : l.length < 68719476736) (hc : ∀ a ∈ l, a.cuts.length < 68719476736) : Run (EX cp) 60 [.sl 5 (ats l)] = some (.deep 62 5 (dats l)) := by
 have h := Tsc (cp := cp) l hl hc l.length 0 (by omega)
 rw [Tu7] at h
 have hcap : l.length * 64 ≤ maxBytes ∧ l.length ≤ 9223372036854775807 := by unfold maxBytes; omega
 have hpl := Tsb l
 rw [Taj _ A_atom_Copy _ rfl rfl rfl]
 simp at h
 simp (disch := omega) [A_atom_Copy, h, hcap, hpl, Ta8]
def cutAt (a : At) (rv gr : Int) : At := { a with cuts := a.cuts ++ [(rv, gr)] }
theorem Tpw (c : List (Int × Int)) (a b : Int) : cutsL c ++ [[pi a, pi b]] = cutsL (c ++ [(a, b)]) := by simp [cutsL, cutV]
theorem Tof (l : List At) (i : Nat) (h : i < l.length) : (dats l)[i]? = some l[i].dv := by simp [dats, List.getElem?_eq_getElem h]
theorem Tu9 (l : List At) (i : Nat) (h : i < l.length) (rv gr : Int) : putC (putC (dats l) i 4 (.ow 0 0 [])) i 4 (.ow 64 2 (cutsL (l[i].cuts ++ [(rv, gr)]))) = dats (l.set i (cutAt l[i] rv gr)) := by
 have hg := Tof l i h
 have e1 : putC (dats l) i 4 (.ow 0 0 []) = (dats l).set i (l[i].dv.set 4 (.ow 0 0 [])) := by unfold putC; rw [hg]
 rw [e1]
 unfold putC
 rw [List.getElem?_set_self (by simpa using h)]
 dsimp only
 rw [List.set_set]
 simp [dats, List.map_set, cutAt, At.dv]
theorem Tva (l : List (List PV)) (i j : Nat) (x : PV) : (putC l i j x).length = l.length := by
 unfold putC; split <;> simp
def newAts (s : List UInt8) (rv gr rk : Int) : List At := (points s).map fun v => ⟨chS v, rv, gr, rk, []⟩
def clampN (i : Int) (n : Nat) : Nat := (min (max i 0) n).toNat
def putL (l : List At) (k : Nat) (s : List UInt8) (rv gr rk : Int) : List At := l.take k ++ newAts s rv gr rk ++ l.drop k
theorem Tdg (s : List UInt8) (rv gr rk : Int) : (newAts s rv gr rk).length = (points s).length := by simp [newAts]
theorem Tsd (s : ByteArray) (i : Nat) (h : i < s.size) (hv : valid ((L s).drop i) = true) (rv gr rk : Int) : sizeAt s i ≠ 0 ∧ sc (decAt s i).2 ∧ newAts ((L s).drop i) rv gr rk = ⟨chS (decAt s i).2, rv, gr, rk, []⟩ :: newAts ((L s).drop (i + sizeAt s i)) rv gr rk ∧ valid ((L s).drop (i + sizeAt s i)) = true := by
 rw [Tgn s i h] at hv
 by_cases c : sizeAt s i = 0
 · rw [if_pos c] at hv; simp at hv
 · rw [if_neg c] at hv
   refine ⟨c, ?_, ?_, hv⟩
   · rw [Tbv]; unfold sizeAt at c; rw [Tbv] at c; exact Twm _ c
   · unfold newAts; rw [Thr s i h, if_neg c, List.map_cons]
set_option maxHeartbeats 1000000 in
theorem Tvb (l : List At) (k : Nat) (rv gr rk : Int) (s : ByteArray) (hs : s.size < 68719476736) : ∀ (m i : Nat) (acc : List At), s.size ≤ i + m → i ≤ s.size → acc.length ≤ 68719476736 + i → valid ((L s).drop i) = true →
 ∃ j, Code (EX cp) L_atom_Put_0 ⟨[(0, .p (.sl 5 (ats l))), (1, .p (pi k)), (3, .p (pi rv)), (4, .p (pi gr)), (5, .p (pi rk)), (13, .ms 13 0 acc.length), (27, .mp 27 0 0)], [(13, .row 62 5 false (ats acc)), (27, .it s i)]⟩ =
  some (.ex 0, ⟨[(0, .p (.sl 5 (ats l))), (1, .p (pi k)), (3, .p (pi rv)), (4, .p (pi gr)), (5, .p (pi rk)), (13, .ms 13 0 (acc ++ newAts ((L s).drop i) rv gr rk).length), (27, .mp 27 0 0), (28, .p (.tu [pb false])), (29, .p (pb false))], [(13, .row 62 5 false (ats (acc ++ newAts ((L s).drop i) rv gr rk))), (27, .it s j)]⟩) := by
 intro m
 induction m with
 | zero =>
  intro i acc h1 h2 h3 h4
  have : i = s.size := by omega
  subst this
  refine ⟨s.size, ?_⟩
  rw [Tbj s _ (Nat.le_refl _), L_atom_Put_0, Taf]
  simp [newAts, Ta1]
 | succ m ih =>
  intro i acc h1 h2 h3 h4
  by_cases hlt : i < s.size
  · obtain ⟨c, hsc, hn, hv⟩ := Tsd s i hlt h4 rv gr rk
    have hle := Tde s i h2
    have hd := Tpu s i (by unfold sizeAt at c; rw [Tbv] at c; exact c)
    have e1 : (dec ((L s).drop i)).1 = sizeAt s i := by unfold sizeAt; rw [Tbv]
    have e2 : dec ((L s).drop i) = decAt s i := (Tbv s i).symm
    rw [e1, e2] at hd
    have he := Tpv _ hsc
    have h0 : 0 ≤ (decAt s i).2 := by unfold sc at hsc; omega
    have h0' : max (decAt s i).2 0 = (decAt s i).2 := by omega
    rw [hn]
    generalize hz : sizeAt s i = n at *
    generalize (decAt s i).2 = v at *
    obtain ⟨j, ih'⟩ := ih (i + n) (acc ++ [⟨chS v, rv, gr, rk, []⟩]) (by omega) (by omega) (by simp; omega) hv
    refine ⟨j, ?_⟩
    have e : acc ++ (⟨chS v, rv, gr, rk, []⟩ : At) :: newAts ((L s).drop (i + n)) rv gr rk = (acc ++ [⟨chS v, rv, gr, rk, []⟩]) ++ newAts ((L s).drop (i + n)) rv gr rk := by simp
    have hcap : (acc.length + 1) * 64 ≤ maxBytes ∧ acc.length + 1 ≤ 9223372036854775807 := by unfold maxBytes; omega
    have hpv : ats acc ++ [[.sc (.string (chS v)), pi rv, pi gr, pi rk, .sl 2 []]] = ats (acc ++ [⟨chS v, rv, gr, rk, []⟩]) := by simp [ats, At.pv]
    rw [e, ← ih', L_atom_Put_0, Taf]
    simp (disch := omega) [hlt, hd, he, h0', hcap, hpv]
  · have : i = s.size := by omega
    subst this
    refine ⟨s.size, ?_⟩
    rw [Tbj s _ (Nat.le_refl _), L_atom_Put_0, Taf]
    simp [newAts, Ta1]
theorem Twq (a b : Int) : (if b > a then b else a) = max a b := by omega
theorem Twr (a b : Int) : (if b < a then b else a) = min a b := by omega
set_option maxHeartbeats 1000000 in
theorem atomPut (l : List At) (i : Int) (s : ByteArray) (rv gr rk : Int) (hl : l.length < 17179869184) (hc : ∀ a ∈ l, a.cuts.length < 68719476736) (hs : s.size < 4294967296) : Run (EX cp) 101 [.sl 5 (ats l), pi i, .sc (.string s), pi rv, pi gr, pi rk] = some (.own 62 5 (ats (putL l (clampN i l.length) (L s) rv gr rk))) := by
 have hk : (clampN i l.length : Int) = min (max i 0) l.length := by unfold clampN; omega
 have hk2 : clampN i l.length ≤ l.length := by omega
 generalize clampN i l.length = k at *
 have h1 := atomCopy (cp := cp) (l.take k) (by rw [List.length_take]; omega) (fun a ha => hc a (List.mem_of_mem_take ha))
 have h2 := atomCopy (cp := cp) (l.drop k) (by rw [List.length_drop]; omega) (fun a ha => hc a (List.mem_of_mem_drop ha))
 have h3 := utfClean (cp := cp) s (by omega)
 have e3 : L (cleanS s) = clean (L s) := L_mk _
 have hcl := Tn9 (L s)
 rw [L_len, ← e3, L_len] at hcl
 obtain ⟨j, h4⟩ := Tvb (cp := cp) l k rv gr rk (cleanS s) (by omega) (cleanS s).size 0 (l.take k) (by omega) (by omega) (by rw [List.length_take]; omega) (by rw [List.drop_zero, e3]; exact Tet _)
 rw [List.drop_zero, e3] at h4
 have e5 : newAts (clean (L s)) rv gr rk = newAts (L s) rv gr rk := by unfold newAts; rw [Tr4]
 rw [e5] at h4
 have hpl := Td4 (L s)
 rw [L_len] at hpl
 have hnl := Tdg (L s) rv gr rk
 have hlen : (l.take k).length = k := by rw [List.length_take]; omega
 have ht : (ats l).take k = ats (l.take k) := by simp [ats, List.map_take]
 have hd : (ats l).drop k = ats (l.drop k) := by simp [ats, List.map_drop]
 have hdl : (l.drop k).length = l.length - k := List.length_drop
 have htd : ((ats (l.drop k)).take (l.length - k)) = ats (l.drop k) := by rw [← hdl, Tj6]
 have hap := Teh (l.take k ++ newAts (L s) rv gr rk) (l.drop k)
 have hm1 : mnmxs true (pi i) [pi 0] = some (pi (max i 0)) := by
  simp only [mnmxs, mnmx, if_true]
  rw [Twq]
 have hm2 : mnmxs false (pi (max i 0)) [pi l.length] = some (pi k) := by
  simp only [mnmxs, mnmx, Bool.false_eq_true, if_false]
  rw [Twr, hk]
 have hcap : (k + (points (L s)).length + (l.length - k)) * 64 ≤ maxBytes ∧ k + (points (L s)).length + (l.length - k) ≤ 9223372036854775807 := by unfold maxBytes; omega
 rw [Taj _ A_atom_Put _ rfl rfl rfl]
 simp [hlen, hnl] at h4
 simp (disch := omega) [A_atom_Put, h1, h2, h3, h4, ht, hd, hm1, hm2, hk2, hcap, hlen, hnl, hdl, htd, hap, Ta8, putL, -mnmxs]
end Go.Proofs.YtjpibniecllafaaGreat.AM
end
section
namespace Go.Proofs.YtjpibniecllafaaGreat.AM
open Go Go.Proofs.YtjpibniecllafaaGreat.U
attribute [local simp] cellR thereV RV.sv innE inlE reach pos subH SV.mapr RV.mapr Ob.mapr SV.refs RV.id? RV.ref Ob.refs noRow shnE shrE okK closeB freshs at0 newS leftS finishS oneS manyS allP sameFz Ob.noPin startS entryS List.range_succ List.filterMap_cons List.filterMap_nil SV.rv fzvs fzv liveV liveR rcellss rcells fillQ fixN RV.isNil revO
variable {cp : List PV → Option Ret}
theorem engNew : Run (EX cp) 2000020 [.hp [] []] = some (.shn (.mp 0 0 0) (engH [] [[]] 0 [] [])) := by
 rw [Tc6 _ 20 A_engine_New _ _ (by decide) rfl rfl rfl rfl rfl (by simp) (by decide +kernel)]
 simp (disch := omega) [A_engine_New, engH, Tpm]
theorem engText (l : List At) (U : List (List Int)) (fl : Int) (G F : List Int) (r : Int) (hf : Fit l) (hu : (undU U fl r).length ≤ 9223372036854775807) (hr : fl ≤ r ∧ r ≤ fl + U.length - 1) :
 Run (EX cp) 2000051 [.hp [.mp 0 0 0, .p (pi r)] (engH (ats l) U fl G F)] = some (.shn (.p (.tu [.sc (.string (txtS r (undU U fl r) l)), pi 0])) []) := by
 have h1 := engLive (cp := cp) (ats l) U fl G F r
 have h2 := engUndoneAt (cp := cp) (ats l) U fl G F r
 have h3 := atomText (cp := cp) l r (undU U fl r) hf hu
 simp only [engH, hr, decide_true, Bool.and_self] at h1 h2
 rw [Tc6 _ 51 A_engine_Engine_Text _ _ (by decide) rfl rfl rfl rfl rfl (by simp [engH]) (by decide +kernel)]
 simp (disch := omega) [A_engine_Engine_Text, engH, h1, h2, h3]
theorem engCopy (l : List At) (U : List (List Int)) (fl : Int) (G F : List Int) (hl : l.length < 68719476736) (hc : ∀ a ∈ l, a.cuts.length < 68719476736) :
 Run (EX cp) 2000053 [.hp [.mp 0 0 0] (engH (ats l) U fl G F)] = some (.shn (.mp 2 0 0) [(2, .gr 100 2 [[.p (.sl 5 (ats l)), .mo 3]]), (3, .mpo U fl G F)]) := by
 have h1 := atomCopy (cp := cp) l hl hc
 rw [Tc6 _ 53 A_engine_Engine_Copy _ _ (by decide) rfl rfl rfl rfl rfl (by simp [engH]) (by decide +kernel)]
 simp (disch := omega) [A_engine_Engine_Copy, engH, h1, Tmk]
theorem Ti1 (l : List (List PV)) (U : List (List Int)) (fl : Int) (G F : List Int) (r : Int) (hr : ¬ (fl ≤ r ∧ r ≤ fl + U.length - 1)) :
 Run (EX cp) 2000051 [.hp [.mp 0 0 0, .p (pi r)] (engH l U fl G F)] = some (.shn (.p (.tu [.sc (.string ByteArray.empty), pi 190])) []) := by
 have h1 := engLive (cp := cp) l U fl G F r
 have e1 : (decide (fl ≤ r) && decide (r ≤ fl + U.length - 1)) = false := by simp; omega
 rw [e1] at h1
 simp only [engH] at h1
 rw [Tc6 _ 51 A_engine_Engine_Text _ _ (by decide) rfl rfl rfl rfl rfl (by simp [engH]) (by decide +kernel)]
 simp (disch := omega) [A_engine_Engine_Text, engH, h1]
 rfl
def headT (l : List At) (U : List (List Int)) (fl : Int) : ByteArray := txtS (fl + U.length - 1) (undU U fl (fl + U.length - 1)) l
theorem engFits (l : List At) (U : List (List Int)) (fl : Int) (G F : List Int) (hf : Fit l) (hU : 1 ≤ U.length) (hu : (undU U fl (fl + U.length - 1)).length ≤ 9223372036854775807) :
 Run (EX cp) 2000057 [.hp [.mp 0 0 0] (engH (ats l) U fl G F)] = some (.shn (.p (pb (decide (((headT l U fl).size : Int) ≤ 20000)))) []) := by
 have h1 := engHead (cp := cp) (ats l) U fl G F
 have h2 := engText (cp := cp) l U fl G F (fl + U.length - 1) hf hu (by omega)
 simp only [engH] at h1 h2
 rw [Tc6 _ 57 A_engine_Engine_fits _ _ (by decide) rfl rfl rfl rfl rfl (by simp [engH]) (by decide +kernel)]
 simp (disch := omega) [A_engine_Engine_fits, engH, h1, h2, headT]
 exact decide_eq_decide.2 Iff.rfl
theorem runNow (l : List At) (U : List (List Int)) (fl : Int) (G F : List Int) (hf : Fit l) (hU : 1 ≤ U.length) (hu : (undU U fl (fl + U.length - 1)).length ≤ 9223372036854775807) :
 Run (EX cp) 2000022 [.hp [.mp 0 0 0] (engH (ats l) U fl G F)] = some (.shn (.p (.sc (.string (headT l U fl)))) []) := by
 have h1 := engHead (cp := cp) (ats l) U fl G F
 have h2 := engText (cp := cp) l U fl G F (fl + U.length - 1) hf hu (by omega)
 simp only [engH] at h1 h2
 rw [Tc6 _ 22 A_top_now _ _ (by decide) rfl rfl rfl rfl rfl (by simp [engH]) (by decide +kernel)]
 simp (disch := omega) [A_top_now, engH, h1, h2, headT]
def engH2 (l : List (List PV)) (U : List (List Int)) (fl : Int) (G F : List Int) (U' : List (List Int)) (fl' : Int) (G' F' : List Int) : List (Nat × Ob) := [(0, .gr 100 2 [[.p (.sl 5 l), .mo 2]]), (1, .mpo U fl G F), (2, .mpo U' fl' G' F')]
def togU (U : List (List Int)) (g : Int) : List (List Int) := U ++ [if g ∈ lastS U then delS g (lastS U) else insS g (lastS U)]
theorem engToggle (l : List At) (U : List (List Int)) (fl : Int) (G F : List Int) (g : Int) (hl : l.length < 68719476736) (hc : ∀ a ∈ l, a.cuts.length < 68719476736) (hg : inR g) (hG : g ∈ G) (hn : ¬ 200 ≤ fl + (U.length : Int) - 1) (hf : Fit l) (hu : (undU (togU U g) fl (fl + (togU U g).length - 1)).length ≤ 9223372036854775807)
 (hft : (headT l (togU U g) fl).size ≤ 20000) :
 Run (EX cp) 1000029 [.hp [.mp 0 0 0, .p (pi g)] (engH (ats l) U fl G F)] = some (.shr (.p (.tu [pi (fl + U.length), pi 0])) (engH2 (ats l) U fl G F (togU U g) fl G F)) := by
 have h1 := engCopy (cp := cp) l U fl G F hl hc
 have h2 := Tds (cp := cp) U fl G F g hg
 have e2 : revToggle U fl G F g = .shr (.p (.tu [pi (fl + U.length), pi 0])) [(0, revO (togU U g) fl G F)] := by
  unfold revToggle togU
  rw [if_neg (by simpa using hG), if_neg hn]
 rw [e2] at h2
 have h3 := engFits (cp := cp) l (togU U g) fl G F hf (by simp [togU]) hu
 rw [decide_eq_true (by omega : ((headT l (togU U g) fl).size : Int) ≤ 20000)] at h3
 simp only [engH, revO] at h1 h2 h3
 rw [Tbi _ 29 A_engine_Engine_Toggle _ _ (by decide) (by decide) rfl rfl rfl rfl rfl (by simp [engH])]
 simp (disch := omega) [A_engine_Engine_Toggle, engH, engH2, h1, h2, h3]
end Go.Proofs.YtjpibniecllafaaGreat.AM
end
section
namespace Go.Proofs.YtjpibniecllafaaGreat.AM
open Go Go.Proofs.YtjpibniecllafaaGreat.U
variable {cp : List PV → Option Ret}
def inn (n a b : Int) : Bool := decide (a ≤ n) && decide (n ≤ b)
theorem wt_u8 {x : PV} (h : WT (.i .u8) x) : ∃ b : UInt8, x = .sc (.int .u8 b.toNat) := by
 cases h with
 | i hw =>
  rename_i n
  have h1 : 0 ≤ n ∧ n ≤ 255 := by
   simp [Lit.wf, IntKind.min, IntKind.max, IntKind.signed, IntKind.bits] at hw
   exact hw
  refine ⟨UInt8.ofNat n.toNat, ?_⟩
  rw [UInt8.toNat_ofNat']
  congr 2
  omega
theorem Thx {x : PV} (h : WT (.i .i64) x) : ∃ n : Int, x = pi n ∧ -9223372036854775808 ≤ n ∧ n ≤ 9223372036854775807 := by
 cases h with
 | i hw =>
  rename_i n
  refine ⟨n, rfl, ?_⟩
  simp [Lit.wf, IntKind.min, IntKind.max, IntKind.signed, IntKind.bits] at hw
  omega
theorem wt_tx {x : PV} (h : WT .tx x) : ∃ s : ByteArray, x = .sc (.string s) ∧ s.size ≤ 9223372036854775807 := by
 cases h with
 | s hs => exact ⟨_, rfl, by simpa [maxLen] using hs⟩
theorem Tws : ∀ {l : List (List PV)}, WTR [.i .u8] l → ∃ bs : List UInt8, l = bRows bs
 | _, .nil => ⟨[], rfl⟩
 | _, .cons hc hl => by
  obtain ⟨bs, rfl⟩ := Tws hl
  cases hc with
  | cons h1 h2 =>
   cases h2
   obtain ⟨b, rfl⟩ := wt_u8 h1
   exact ⟨b :: bs, rfl⟩
theorem Twt {x : PV} (h : WTA (.one (.sl [.i .u8])) x) : ∃ bs : List UInt8, x = .sl 1 (bRows bs) ∧ bs.length ≤ 9223372036854775807 := by
 cases h with
 | one h => cases h with
  | sl hl hr =>
   obtain ⟨bs, rfl⟩ := Tws hr
   exact ⟨bs, rfl, by simpa [maxLen] using hl⟩
theorem T0l {x : PV} (h : WTA (.one .tx) x) : ∃ s : ByteArray, x = .sc (.string s) ∧ s.size ≤ 9223372036854775807 := by
 cases h with
 | one h => exact wt_tx h
theorem Tse {x : PV} (h : WTA (.one (.i .u8)) x) : ∃ b : UInt8, x = .sc (.int .u8 b.toNat) := by
 cases h with
 | one h => exact wt_u8 h
theorem Tgq (l : List UInt8) (n : Nat) (h : n < l.length) : (bRows l)[n]? = some [.sc (.int .u8 (l[n].toNat : Int))] := by simp [bRows, List.getElem?_eq_getElem h]
theorem Tj8 (a b : Nat) : ((a : Int).tmod (b : Int)) = ((a % b : Nat) : Int) := by rw [Int.tmod_eq_emod_of_nonneg (by omega)]; rfl
def APinv (ts : List ByteArray) (n : Nat) (l : List At) : Prop := (l.map fun a => a.txt) = ts ∧ ∀ a ∈ l, a.rv = 1 ∧ a.gr = 0 ∧ a.cuts.length ≤ n ∧ ∀ q ∈ a.cuts, q = (2, 1)
theorem APinv.len {ts : List ByteArray} {n : Nat} {l : List At} (h : APinv ts n l) : l.length = ts.length := by rw [← h.1]; simp
theorem Tog (rev : Int) (u : List Int) : ∀ (l : List At), (∀ a ∈ l, a.vis rev u = true) → txtF rev u l = (l.map fun a => a.txt).flatMap L
 | [], _ => rfl
 | a :: l, h => by
  rw [txtF, h a (by simp), if_pos rfl, Tog rev u l fun b hb => h b (by simp [hb])]
  simp
theorem Thy (rev : Int) (u : List Int) : ∀ (l : List At), (∀ a ∈ l, a.vis rev u = false) → txtF rev u l = []
 | [], _ => rfl
 | a :: l, h => by
  rw [txtF, h a (by simp), Thy rev u l fun b hb => h b (by simp [hb])]
  rfl
theorem Tmq (s : List UInt8) (rv gr rk : Int) : ((newAts s rv gr rk).map fun a => a.txt) = ptsS s := by
 simp [newAts, ptsS, Function.comp_def]
theorem Tsf (l : List UInt8) : (ptsS l).flatMap L = clean l := by
 unfold ptsS clean encs
 rw [List.flatMap_map]
 congr 1
theorem Tvc (k : Nat) (s : List UInt8) (rv gr rk : Int) : putL [] k s rv gr rk = newAts s rv gr rk := by simp [putL]
end Go.Proofs.YtjpibniecllafaaGreat.AM
end
section
namespace Go.Proofs.YtjpibniecllafaaGreat.AM
open Go Go.Proofs.YtjpibniecllafaaGreat.U
variable {cp : List PV → Option Ret}
deriving instance DecidableEq for At
attribute [local simp] eqCells
end Go.Proofs.YtjpibniecllafaaGreat.AM
end
section
namespace Go.Proofs.YtjpibniecllafaaGreat.AM
open Go
theorem okB0 : ((List.range 58).all fun n => match prg0 n with | some fn => okFunc Go.Proofs.Tryz.prog n fn | none => true) = true := by decide +kernel
theorem okPrg0 (f : FuncId) (fn : AFunc) (hf : f ≤ 57) (h : prg0 f = some fn) : okFunc Go.Proofs.Tryz.prog f fn = true := by
 have := List.all_eq_true.1 okB0 f (List.mem_range.2 (Nat.lt_succ_of_le hf))
 simp only [h] at this
 exact this
theorem okB1 : ((List.range 124).all fun n => match prg1 n with | some fn => okFunc Go.Proofs.Tryz.prog n fn | none => true) = true := by decide +kernel
theorem okPrg1 (f : FuncId) (fn : AFunc) (hf : f ≤ 123) (h : prg1 f = some fn) : okFunc Go.Proofs.Tryz.prog f fn = true := by
 have := List.all_eq_true.1 okB1 f (List.mem_range.2 (Nat.lt_succ_of_le hf))
 simp only [h] at this
 exact this
theorem okB2 : ((List.range 180).all fun n => match prg2 n with | some fn => okFunc Go.Proofs.Tryz.prog n fn | none => true) = true := by decide +kernel
theorem okPrg2 (f : FuncId) (fn : AFunc) (hf : f ≤ 179) (h : prg2 f = some fn) : okFunc Go.Proofs.Tryz.prog f fn = true := by
 have := List.all_eq_true.1 okB2 f (List.mem_range.2 (Nat.lt_succ_of_le hf))
 simp only [h] at this
 exact this
theorem okB3 : ((List.range 255).all fun n => match prg3 n with | some fn => okFunc Go.Proofs.Tryz.prog n fn | none => true) = true := by decide +kernel
theorem okPrg3 (f : FuncId) (fn : AFunc) (hf : f ≤ 254) (h : prg3 f = some fn) : okFunc Go.Proofs.Tryz.prog f fn = true := by
 have := List.all_eq_true.1 okB3 f (List.mem_range.2 (Nat.lt_succ_of_le hf))
 simp only [h] at this
 exact this
theorem okB4 : ((List.range 284).all fun n => match prg4 n with | some fn => okFunc Go.Proofs.Tryz.prog n fn | none => true) = true := by decide +kernel
theorem okPrg4 (f : FuncId) (fn : AFunc) (hf : f ≤ 283) (h : prg4 f = some fn) : okFunc Go.Proofs.Tryz.prog f fn = true := by
 have := List.all_eq_true.1 okB4 f (List.mem_range.2 (Nat.lt_succ_of_le hf))
 simp only [h] at this
 exact this
theorem okPrg : ∀ f fn, prg f = some fn → okFunc Go.Proofs.Tryz.prog f fn = true := by
 intro f fn h
 unfold prg at h
 by_cases h0 : f ≤ 57
 · rw [if_pos h0] at h; exact okPrg0 f fn h0 h
 rw [if_neg h0] at h
 by_cases h1 : f ≤ 123
 · rw [if_pos h1] at h; exact okPrg1 f fn h1 h
 rw [if_neg h1] at h
 by_cases h2 : f ≤ 179
 · rw [if_pos h2] at h; exact okPrg2 f fn h2 h
 rw [if_neg h2] at h
 by_cases h3 : f ≤ 254
 · rw [if_pos h3] at h; exact okPrg3 f fn h3 h
 rw [if_neg h3] at h
 by_cases h4 : f ≤ 283
 · rw [if_pos h4] at h; exact okPrg4 f fn h4 h
 rw [if_neg h4] at h
 cases h
theorem mixed : Go.Proofs.Tryz.prog.follows .mixedOrders = true := by kernel_rfl
end Go.Proofs.YtjpibniecllafaaGreat.AM
end
section
namespace Go.Proofs.YtjpibniecllafaaGreat.AM
open Go.RowKit
theorem Tsg (w : World) (g n k : Nat) (h : k ≠ g) : (w.freeze ⟨g, 0, none⟩ n).heap[k]? = w.heap[k]? := by
 unfold World.freeze
 split
 · rfl
 · simp [Array.getElem?_modify, Ne.symm h]
theorem Tsh : Tryz.prog.cellsOf 5 = 1 := by kernel_rfl
set_option maxHeartbeats 4000000 in
set_option maxRecDepth 100000 in
theorem sbString : SbString Tryz.prog 145 5 86 := by
 intro B b p v l w hB hBw hp hg hown hne
 have mixed : Tryz.prog.follows .mixedOrders = true := by kernel_rfl
 have hlt : b < w.heap.size := (Array.getElem?_eq_some_iff.1 hg).1
 rcases hown.2 with ⟨rfl, hz⟩ | ⟨g, cap, cur, rfl, hbg, hgg, hnc, hcm, hcs, htake⟩
 · have hl : l = [] := List.eq_nil_of_length_eq_zero hz
   subst hl
   have hUS : ∀ q W, (Builtin.unsafeString_ #[211, 3] 9 #[.pointer q, .int .i64 0]).run Tryz.prog W = .ok (.string .empty) W := fun q W => Lib.run_unsafeString_none W _ _ _ q
   have c1 : w.drew.cell? ⟨b, 1, none⟩ = some (.slice none 0 0) := by
    have : w.drew.heap[b]? = some (.cells #[p, .slice none 0 0] 145 (0, 0)) := hg
    rw [Lib.cell_of_heap this]; rfl
   have hSD : (Builtin.unsafeSliceData_ #[44] 211 #[.slice none 0 0]).run Tryz.prog w.drew = .ok (.pointer none) w.drew := rfl
   go_enter Tryz.func86, Tryz.ntmps86
   go_wp2
   go_region_o
   all_goals (go_wp2; go_ret; exact ⟨rfl, Below.drew (Below.refl B w), fun k _ _ => rfl⟩)
 · by_cases h0 : l = []
   · subst h0
     have hUS : ∀ q W, (Builtin.unsafeString_ #[211, 3] 9 #[.pointer q, .int .i64 0]).run Tryz.prog W = .ok (.string .empty) W := fun q W => Lib.run_unsafeString_none W _ _ _ q
     have c1 : w.drew.cell? ⟨b, 1, none⟩ = some (.slice (some ⟨g, 0, none⟩) 0 cap) := by
      have : w.drew.heap[b]? = some (.cells #[p, .slice (some ⟨g, 0, none⟩) 0 cap] 145 (0, 0)) := hg
      rw [Lib.cell_of_heap this]; rfl
     by_cases hc0 : cap = 0
     · subst hc0
       have hSD : (Builtin.unsafeSliceData_ #[44] 211 #[.slice (some ⟨g, 0, none⟩) 0 0]).run Tryz.prog w.drew = .ok (.pointer (some ⟨w.drew.heap.size, 0, none⟩)) (w.drew.alloc (.view ⟨g, 0, none⟩ 5)) :=
        Lib.run_unsafeSliceData_zero w.drew _ _ 5 Tryz.underlying211 ⟨g, 0, none⟩ 0 (5, cur.size) (by have hg' : w.drew.heap[g]? = some (.cells cur 5 (0, 0)) := hgg; simp [World.shape?, hg'])
       have c2 : (w.drew.alloc (.view ⟨g, 0, none⟩ 5)).cell? ⟨b, 1, none⟩ = some (.slice (some ⟨g, 0, none⟩) 0 0) := by
        have : (w.drew.alloc (.view ⟨g, 0, none⟩ 5)).heap[b]? = _ := (Lib.alloc_old w.drew _ b hlt).trans hg
        rw [Lib.cell_of_heap this]; rfl
       have c3 : (w.alloc (.view ⟨g, 0, none⟩ 5)).drew.cell? ⟨b, 1, none⟩ = some (.slice (some ⟨g, 0, none⟩) 0 0) := c2
       have c0 : w.cell? ⟨b, 1, none⟩ = some (.slice (some ⟨g, 0, none⟩) 0 0) := c1
       go_enter Tryz.func86, Tryz.ntmps86
       go_wp2
       go_region_o
       all_goals (go_wp2; go_ret; exact ⟨rfl, (Below.drew (Below.refl B w)).alloc hBw _, fun k hk _ => Lib.alloc_old _ _ k hk⟩)
     · have hSD : (Builtin.unsafeSliceData_ #[44] 211 #[.slice (some ⟨g, 0, none⟩) 0 cap]).run Tryz.prog w.drew = .ok (.pointer (some ⟨g, 0, none⟩)) w.drew :=
        Lib.run_unsafeSliceData_row _ _ _ _ _ _ hc0
       clear hc0
       go_enter Tryz.func86, Tryz.ntmps86
       go_wp2
       go_region_o
       all_goals (go_wp2; go_ret; exact ⟨rfl, Below.drew (Below.refl B w), fun k _ _ => rfl⟩)
   · have hl0 : l.length ≠ 0 := by simpa using h0
     have c1 : w.drew.cell? ⟨b, 1, none⟩ = some (.slice (some ⟨g, 0, none⟩) l.length cap) := by
      have : w.drew.heap[b]? = some (.cells #[p, .slice (some ⟨g, 0, none⟩) l.length cap] 145 (0, 0)) := hg
      rw [Lib.cell_of_heap this]; rfl
     have hSD : (Builtin.unsafeSliceData_ #[44] 211 #[.slice (some ⟨g, 0, none⟩) l.length cap]).run Tryz.prog w.drew = .ok (.pointer (some ⟨g, 0, none⟩)) w.drew :=
      Lib.run_unsafeSliceData_row _ _ _ _ _ _ (by omega)
     have hUS : (Builtin.unsafeString_ #[211, 3] 9 #[.pointer (some ⟨g, 0, none⟩), .int .i64 l.length]).run Tryz.prog w.drew = .ok (.string ⟨l.toArray⟩) (w.drew.freeze ⟨g, 0, none⟩ l.length) := by
      refine Lib.run_unsafeString_row w.drew 211 3 9 5 Tryz.underlying211 Tsh g cur.size (by have hg' : w.drew.heap[g]? = some (.cells cur 5 (0, 0)) := hgg; simp [World.shape?, hg']) l h0 (by omega) (by unfold maxLen at hcm; omega) ?_
      intro j x hx
      have h1 := cell_of_row w g j cur 5 (0, 0) hgg
      have h2 : cur[j]? = some (Value.int .u8 x.toNat) := by
       have h3 : (cur.toList.take (l.length * 1))[j]? = some (Value.int .u8 x.toNat) := by rw [htake]; simp [hx]
       rw [List.getElem?_take] at h3
       split at h3
       · simpa using h3
       · simp at h3
      rw [add_n, Nat.zero_add]
      exact h1.trans h2
     go_enter Tryz.func86, Tryz.ntmps86
     go_wp2
     go_region_o
     all_goals (go_wp2; go_ret; exact ⟨rfl, Lib.below_freeze (Below.drew (Below.refl B w)) (p := ⟨g, 0, none⟩) hbg _, fun k _ hk => Tsg _ g _ k fun e => hk (by rw [e]; rfl)⟩)
theorem Tsi : (Tryz.prog.info? 145).map (·.size) = some 2 := by kernel_rfl
theorem Tyv : liesAt Tryz.prog Tryz.prog.depth 145 (2 / Tryz.prog.cellsOf 145) 0 145 1 = true := by kernel_rfl
theorem sb_el : elOk Tryz.prog 5 1 1 = true := by decide +kernel
set_option maxHeartbeats 1000000 in
set_option maxRecDepth 100000 in
theorem Tj9 (b : Nat) (w : World) (h0 : w.cell? ⟨b, 0, none⟩ = some (.pointer (some ⟨b, 0, none⟩))) :
 Calls Tryz.prog 150 #[.pointer (some ⟨b, 0, none⟩)] w fun e w' => e = .returned (.tuple #[]) ∧ w' = w := by
 obtain ⟨j, hj, _⟩ := Option.map_eq_some_iff.1 Tsi
 go_enter Tryz.func150, Tryz.ntmps150
 go_wp2
 rw [Lib.run_neq_ptr_same w _ Tryz.underlying143 hj]
 go_wp2
 go_end0
 exact ⟨rfl, rfl⟩
set_option maxHeartbeats 1000000 in
set_option maxRecDepth 100000 in
theorem Tia (b : Nat) (w : World) (h0 : w.cell? ⟨b, 0, none⟩ = some (.pointer none)) (hsh : w.shape? b = some (145, 2)) (hfz : w.frozen? ⟨b, 0, none⟩ = false) :
 Calls Tryz.prog 150 #[.pointer (some ⟨b, 0, none⟩)] w fun e w' => e = .returned (.tuple #[]) ∧ w' = w.setCell ⟨b, 0, none⟩ (.pointer (some ⟨b, 0, none⟩)) := by
 obtain ⟨j, hj, hjs⟩ := Option.map_eq_some_iff.1 Tsi
 go_enter Tryz.func150, Tryz.ntmps150
 go_wp2
 rw [Lib.run_to_unsafe w ⟨b, 0, none⟩ Tryz.underlying143 Tryz.underlying246 hj (by rw [hjs]; decide) hsh (Nat.zero_lt_succ 1)]
 simp only [Result.andThen]
 rw [Oper.upon_value]
 go_wp2
 rw [run_callFunc_extern Tryz.func197 (by kernel_rfl) (by kernel_rfl) (by kernel_rfl) (e := Extern.AbiNoEscape.same) (by kernel_rfl)]
 rw [Lib.run_noEscape]
 simp only [Result.andThen]
 rw [Oper.upon_value]
 go_wp2
 rw [Lib.run_from_unsafe w ⟨b, 0, none⟩ Tryz.underlying246 Tryz.underlying143 hj hsh Tyv]
 simp only [Result.andThen]
 rw [Oper.upon_value]
 go_wp2
 go_end0
 exact ⟨rfl, rfl⟩
theorem Tsj {w : World} {base e n k : Nat} {v : Value} {xs : List Value} (h : w.ownsRow base e k v n xs) : v.oneCell' = true := by
 rcases h.2 with ⟨rfl, _⟩ | ⟨_, _, _, rfl, _⟩ <;> rfl
theorem Toh (B b : Nat) (p v : Value) (w : World) (hB : B ≤ b) (hp : p = .pointer none ∨ p = .pointer (some ⟨b, 0, none⟩)) (hg : w.heap[b]? = some (.cells #[p, v] 145 (0, 0))) :
 Calls Tryz.prog 150 #[.pointer (some ⟨b, 0, none⟩)] w fun e w' => e = .returned (.tuple #[]) ∧ w'.heap[b]? = some (.cells #[.pointer (some ⟨b, 0, none⟩), v] 145 (0, 0)) ∧ Below B w w' ∧ w'.heap.size = w.heap.size ∧ ∀ k, k ≠ b → w'.heap[k]? = w.heap[k]? := by
 have hlt : b < w.heap.size := (Array.getElem?_eq_some_iff.1 hg).1
 rcases hp with rfl | rfl
 · refine (Tia b w (by rw [Lib.cell_of_heap hg]; rfl) (by simp [World.shape?, hg]) (Lib.frozen_of_heap hg 0)).mono ?_
   rintro e w' ⟨rfl, rfl⟩
   have hset : (w.setCell ⟨b, 0, none⟩ (.pointer (some ⟨b, 0, none⟩))).heap[b]? = some (.cells #[.pointer (some ⟨b, 0, none⟩), v] 145 (0, 0)) := by
    simp [World.setCell, Array.getElem?_modify, hg]
   exact ⟨rfl, hset, (Below.refl B w).setCell (p := ⟨b, 0, none⟩) hB _, by simp [World.setCell], fun k hk => Below.heap_setCell _ _ _ _ hk⟩
 · refine (Tj9 b w (by rw [Lib.cell_of_heap hg]; rfl)).mono ?_
   rintro e w' ⟨rfl, rfl⟩
   exact ⟨rfl, hg, Below.refl B _, rfl, fun _ _ => rfl⟩
theorem Tsk {B : Nat} {v : Value} {n : Nat} {xs : List Value} (w : World) (t : ByteArray) (ty : TypeId) (hown : w.ownsRow B 5 1 v n xs) (hby : n + t.size ≤ 140737488355328) (hB : B ≤ w.heap.size) :
 ∃ v' w', (Builtin.append_ #[44, 9] ty #[v, .string t]).run Tryz.prog w = .ok v' w' ∧ w'.ownsRow B 5 1 v' (n + t.size) (xs ++ t.data.toList.map fun c => Value.int .u8 c.toNat) ∧
  ((blk v' = blk v ∧ w'.os = w.os ∧ w'.tape = w.tape ∧ w'.output = w.output ∧ w'.heap.size = w.heap.size ∧ ∀ b, blk v ≠ some b → w'.heap[b]? = w.heap[b]?) ∨ (blk v' = some w.heap.size ∧ Below w.heap.size w w')) := by
 obtain ⟨i, z, hi, hz, hi1, hby1, hzs⟩ := Tbp sb_el
 have hbl : (t.data.toList.map fun c => Value.int .u8 c.toNat).length = t.size := by simp
 have := Tg0 (P := Tryz.prog) (ty := ty) (x := .string t) (m := t.size) (n := n) (news := t.data.toList.map fun c => Value.int .u8 c.toNat) Tryz.underlying44 Tryz.underlying9 (by simp) hi hz (by rw [hzs, hi1]) (by rw [hi1]; exact hown) (by rw [hbl, hi1, Nat.mul_one]) (by simp [Value.oneCell']) (fun w' => rfl) (fun w' _ => by
  rw [hi1]
  have := Lib.run_firstCells_string (P := Tryz.prog) w' 1 t
  rw [this]; rfl) (by simp only [maxLen]; omega) (by rw [hby1, Nat.mul_one]; exact hby) hB
 rw [hi1] at this
 exact this
theorem Tsl {ops : Array Oper} {rest : List Oper} {o : Oper} {a : Act} {Q : Exit → Act → World → Prop} {w : World} (hgd : o.guard = none) (sl x : Operand) (ho : o.op = .call { callee := .builtin .append, args := #[sl, x], argTypes := #[44, 9] })
 (B : Nat) (v : Value) (n : Nat) (xs : List Value) (hs : a.eval sl = v) (hown : w.ownsRow B 5 1 v n xs) (t : ByteArray) (hx : a.eval x = .string t) (hby : n + t.size ≤ 140737488355328) (hB : B ≤ w.heap.size)
 (h : ∀ v' w', w'.ownsRow B 5 1 v' (n + t.size) (xs ++ t.data.toList.map fun c => Value.int .u8 c.toNat) → ((blk v' = blk v ∧ w'.os = w.os ∧ w'.tape = w.tape ∧ w'.output = w.output ∧ w'.heap.size = w.heap.size ∧ ∀ b, blk v ≠ some b → w'.heap[b]? = w.heap[b]?) ∨ (blk v' = some w.heap.size ∧ Below w.heap.size w w')) → wpList Tryz.prog ops Q rest (a.put o.dst v') w') : wpList Tryz.prog ops Q (o :: rest) a w := by
 refine wpList_plain hgd fun K hK => ?_
 obtain ⟨v', w', hr, h2, h3⟩ := Tsk w t o.type hown hby hB
 unfold Oper.wp execOp
 simp only [ho, resolve, invoke, builtin, Sem.run_bind, Sem.run_pure, Result.andThen_ok, List.map_toArray, List.map_cons, List.map_nil, hs, hx, hr]
 exact hK _ _ (h v' w' h2 h3)
set_option maxHeartbeats 4000000 in
set_option maxRecDepth 100000 in
theorem sbWrite : SbWrite Tryz.prog 145 5 85 := by
 intro B b p v bs t w hB hBw hp hg hown hne hle
 have hlt : b < w.heap.size := (Array.getElem?_eq_some_iff.1 hg).1
 go_enter Tryz.func85, Tryz.ntmps85
 go_wp2_with (go_at_call 150; refine (Toh B b p v _ hB hp hg).mono ?_)
 rintro e w1 ⟨rfl, hg1, hb1, hs1, hk1⟩
 have c0 : w1.cell? ⟨b, 0, none⟩ = some (.pointer (some ⟨b, 0, none⟩)) := by rw [Lib.cell_of_heap hg1]; rfl
 have c1 : w1.cell? ⟨b, 1, none⟩ = some v := by rw [Lib.cell_of_heap hg1]; rfl
 have hown1 : w1.ownsRow B 5 1 v bs.length bs := Tas hown fun b' hb' => hk1 b' fun e => hne (by rw [← e]; exact hb')
 go_wp2_with (at_builtin; refine Tsl rfl _ _ rfl B _ _ _ rfl hown1 t rfl ?c4 ?c5 ?_)
 case c4 => simpa [maxBytes] using hle
 case c5 => omega
 intro v' w2 hown' hcase
 have hkeep : ∀ k, k < w1.heap.size → blk v ≠ some k → w2.heap[k]? = w1.heap[k]? := fun k h1 h2 => by
  rcases hcase with ⟨_, _, _, _, _, h⟩ | ⟨_, h⟩
  · exact h k h2
  · exact h.block k (by omega)
 have hsz : w1.heap.size ≤ w2.heap.size := by
  rcases hcase with ⟨_, _, _, _, h, _⟩ | ⟨_, h⟩
  · omega
  · exact h.size
 have hb2 : w2.heap[b]? = some (.cells #[.pointer (some ⟨b, 0, none⟩), v] 145 (0, 0)) := by
  rw [hkeep b (by omega) hne]; exact hg1
 have hbel : Below B w1 w2 := by
  rcases hcase with ⟨h0, h1, h2, h3, h4, h5⟩ | ⟨_, h⟩
  · refine ⟨h1, h2, h3, by omega, fun k hk => h5 k fun e => ?_⟩
    have := (Tap hown1 e).1
    omega
  · exact h.mono (by omega)
 have d0 : w2.cell? ⟨b, 0, none⟩ = some (.pointer (some ⟨b, 0, none⟩)) := by rw [Lib.cell_of_heap hb2]; rfl
 have d1 : w2.cell? ⟨b, 1, none⟩ = some v := by rw [Lib.cell_of_heap hb2]; rfl
 have f1 : w2.frozen? ⟨b, 1, none⟩ = false := Lib.frozen_of_heap hb2 1
 have hv1 : v'.oneCell' = true := Tsj hown'
 obtain ⟨ao, n', cap, rfl⟩ : ∃ ao n' cap, v' = .slice ao n' cap := by
  rcases hown'.2 with ⟨h, _⟩ | ⟨_, _, _, h, _⟩
  · exact ⟨_, _, _, h⟩
  · exact ⟨_, _, _, h⟩
 go_wp2
 go_ret2
 have hnb : blk (.slice ao n' cap) ≠ some b := fun e => by
  rcases hcase with ⟨h, _⟩ | ⟨h, _⟩
  · rw [h] at e; exact hne e
  · rw [h] at e; simp at e; omega
 refine ⟨rfl, .slice ao n' cap, ?_, ?_, ?_, ?_, ?_⟩
 · simp [World.setCell, Array.getElem?_modify, hb2]
 · exact Tas hown' fun k hk => Below.heap_setCell _ _ _ _ fun e => hnb (by rw [hk]; rw [e])
 · rcases hcase with ⟨h, _⟩ | ⟨h, _⟩
   · exact .inl h
   · exact .inr ⟨_, h, by omega⟩
 · exact (hb1.trans hbel).setCell (p := ⟨b, 1, none⟩) hB _
 · intro k h1 h2 h3
   rw [Below.heap_setCell _ _ _ _ h2, hkeep k (by omega) h3, hk1 k h2]
def Grew (w w' : World) (v v' : Value) : Prop := (blk v' = blk v ∧ w'.os = w.os ∧ w'.tape = w.tape ∧ w'.output = w.output ∧ w.heap.size ≤ w'.heap.size ∧ ∀ b, b < w.heap.size → blk v ≠ some b → w'.heap[b]? = w.heap[b]?) ∨ ((∃ c, blk v' = some c ∧ w.heap.size ≤ c) ∧ Below w.heap.size w w')
def GrewAt (w w' : World) (v v' : Value) : Prop := ((blk v' = blk v ∧ w'.os = w.os ∧ w'.tape = w.tape ∧ w'.output = w.output ∧ w'.heap.size = w.heap.size ∧ ∀ b, blk v ≠ some b → w'.heap[b]? = w.heap[b]?) ∨ (blk v' = some w.heap.size ∧ Below w.heap.size w w'))
theorem Tb1 {ops : Array Oper} {rest : List Oper} {o : Oper} {a : Act} {Q : Exit → Act → World → Prop} {w : World} (hgd : o.guard = none) (sl x : Operand) (ho : o.op = .call { callee := .builtin .append, args := #[sl, x], argTypes := #[44, 44] })
 (B : Nat) (v : Value) (n : Nat) (xs : List Value) (hs : a.eval sl = v) (hown : w.ownsRow B 5 1 v n xs) (ad : Addr) (m c : Nat) (news : List Value) (hx : a.eval x = .slice (some ad) m c) (hl : news.length = m) (hnews : ∀ j u, news[j]? = some u → w.cell? (ad.add j) = some u) (h1 : ∀ u ∈ news, u.oneCell' = true)
 (hby : n + m ≤ 140737488355328) (hB : B ≤ w.heap.size)
 (h : ∀ v' w', w'.ownsRow B 5 1 v' (n + m) (xs ++ news) → GrewAt w w' v v' → wpList Tryz.prog ops Q rest (a.put o.dst v') w') : wpList Tryz.prog ops Q (o :: rest) a w := by
 refine wpList_plain hgd fun K hK => ?_
 obtain ⟨i, z, hi, hz, hi1, hby1, hzs⟩ := Tbp sb_el
 obtain ⟨v', w', hr, h2, h3⟩ := Tg0 (P := Tryz.prog) (ty := o.type) (x := .slice (some ad) m c) (m := m) (n := n) (news := news) Tryz.underlying44 Tryz.underlying44 (by simp) hi hz (by rw [hzs, hi1]) (by rw [hi1]; exact hown) (by rw [hi1, Nat.mul_one]; exact hl) h1 (fun w' => rfl) (fun w' hw' => by
  rw [hi1]
  exact run_firstCells_some (w := w') (size := 1) (n := m) (b := ad) (len := m) (cap := c) (cs := news) (by rw [Nat.mul_one]; exact hl) (fun j u hu => (World.cell?_of_block (a := ad.add j) (by rw [hw'])).trans (hnews j u hu))) (by simp only [maxLen]; omega) (by rw [hby1, Nat.mul_one]; exact hby) hB
 rw [hi1] at h2
 unfold Oper.wp execOp
 simp only [ho, resolve, invoke, builtin, Sem.run_bind, Sem.run_pure, Result.andThen_ok, List.map_toArray, List.map_cons, List.map_nil, hs, hx, hr]
 exact hK _ _ (h v' w' h2 h3)
theorem Tb2 {w w' : World} {v v' : Value} {o : Obj} (hv : ∀ b, blk v = some b → b < w.heap.size) (h : GrewAt (w.alloc o) w' v v') : Grew w w' v v' := by
 have hb := (Below.refl w.heap.size w).alloc (Nat.le_refl _) o
 rcases h with ⟨h0, h1, h2, h3, h4, h5⟩ | ⟨h0, h1⟩
 · refine .inl ⟨h0, h1.trans hb.os, h2.trans hb.tape, h3.trans hb.output, by rw [h4]; exact hb.size, fun b hb1 hb2 => (h5 b hb2).trans (Lib.alloc_old _ _ _ hb1)⟩
 · exact .inr ⟨⟨_, h0, hb.size⟩, hb.trans (h1.mono hb.size)⟩
set_option maxHeartbeats 4000000 in
set_option maxRecDepth 100000 in
theorem T0m (B : Nat) (v : Value) (n : Nat) (xs : List Value) (r : Int) (h0 : 128 ≤ r) (h1 : r ≤ 2047) (w : World) (hown : w.ownsRow B 5 1 v n xs) (hlen : n + 4 ≤ 140737488355328) (hBw : B ≤ w.heap.size) :
    Calls Tryz.prog 233 #[v, .int .i32 r] w fun e w' => ∃ v', e = .returned v' ∧ w'.ownsRow B 5 1 v' (n + 2) (xs ++ [.int .u8 (192 + r / 64), .int .u8 (128 + r % 64)]) ∧ Grew w w' v v' := by
  have hvb : ∀ b, blk v = some b → b < w.heap.size := fun b hb => (Tap hown hb).2
  go_enter Tryz.func233, Tryz.ntmps233
  go_wp2_with (at_builtin; refine Tb1 rfl _ _ rfl B _ _ _ rfl (hown.alloc _) ⟨w.heap.size, 0, none⟩ 2 2 [.int .u8 (192 + r / 64), .int .u8 (128 + r % 64)] rfl rfl ?c1 ?c2 ?c4 ?c5 ?_)
  all_goals first
    | (intro v' w2 hown' hgrow; go_wp2; go_ret; exact ⟨v', rfl, hown', Tb2 hvb hgrow⟩)
    | omega
    | exact ⟨rfl, rfl, rfl⟩
    | (simp; omega)
    | (intro u hu; simp at hu; rcases hu with rfl | rfl <;> rfl)
    | (intro j u hj
       match j, hj with
       | 0, hj => simp at hj; subst hj; simp [Addr.add]
       | 1, hj => simp at hj; subst hj; simp [Addr.add]
       | (j + 2), hj => simp at hj)
set_option maxHeartbeats 4000000 in
set_option maxRecDepth 100000 in
theorem Tmr (B : Nat) (v : Value) (n : Nat) (xs : List Value) (r : Int) (h0 : 2048 ≤ r) (h1 : r < 55296) (w : World) (hown : w.ownsRow B 5 1 v n xs) (hlen : n + 4 ≤ 140737488355328) (hBw : B ≤ w.heap.size) :
    Calls Tryz.prog 233 #[v, .int .i32 r] w fun e w' => ∃ v', e = .returned v' ∧ w'.ownsRow B 5 1 v' (n + 3) (xs ++ [.int .u8 (224 + r / 4096), .int .u8 (128 + r / 64 % 64), .int .u8 (128 + r % 64)]) ∧ Grew w w' v v' := by
  have hvb : ∀ b, blk v = some b → b < w.heap.size := fun b hb => (Tap hown hb).2
  go_enter Tryz.func233, Tryz.ntmps233
  go_wp2_with (at_builtin; refine Tb1 rfl _ _ rfl B _ _ _ rfl (hown.alloc _) ⟨w.heap.size, 0, none⟩ 3 3 [.int .u8 (224 + r / 4096), .int .u8 (128 + r / 64 % 64), .int .u8 (128 + r % 64)] rfl rfl ?c1 ?c2 ?c4 ?c5 ?_)
  all_goals first
    | (intro v' w2 hown' hgrow; go_wp2; go_ret; exact ⟨v', rfl, hown', Tb2 hvb hgrow⟩)
    | omega
    | exact ⟨rfl, rfl, rfl⟩
    | (simp; omega)
    | (intro u hu; simp at hu; rcases hu with rfl | rfl | rfl <;> rfl)
    | (intro j u hj
       match j, hj with
       | 0, hj => simp at hj; subst hj; simp [Addr.add]
       | 1, hj => simp at hj; subst hj; simp [Addr.add]
       | 2, hj => simp at hj; subst hj; simp [Addr.add]
       | (j + 3), hj => simp at hj)
set_option maxHeartbeats 4000000 in
set_option maxRecDepth 100000 in
theorem Tms (B : Nat) (v : Value) (n : Nat) (xs : List Value) (r : Int) (h0 : 57343 < r) (h1 : r ≤ 65535) (w : World) (hown : w.ownsRow B 5 1 v n xs) (hlen : n + 4 ≤ 140737488355328) (hBw : B ≤ w.heap.size) :
    Calls Tryz.prog 233 #[v, .int .i32 r] w fun e w' => ∃ v', e = .returned v' ∧ w'.ownsRow B 5 1 v' (n + 3) (xs ++ [.int .u8 (224 + r / 4096), .int .u8 (128 + r / 64 % 64), .int .u8 (128 + r % 64)]) ∧ Grew w w' v v' := by
  have hvb : ∀ b, blk v = some b → b < w.heap.size := fun b hb => (Tap hown hb).2
  go_enter Tryz.func233, Tryz.ntmps233
  go_wp2_with (at_builtin; refine Tb1 rfl _ _ rfl B _ _ _ rfl (hown.alloc _) ⟨w.heap.size, 0, none⟩ 3 3 [.int .u8 (224 + r / 4096), .int .u8 (128 + r / 64 % 64), .int .u8 (128 + r % 64)] rfl rfl ?c1 ?c2 ?c4 ?c5 ?_)
  all_goals first
    | (intro v' w2 hown' hgrow; go_wp2; go_ret; exact ⟨v', rfl, hown', Tb2 hvb hgrow⟩)
    | omega
    | exact ⟨rfl, rfl, rfl⟩
    | (simp; omega)
    | (intro u hu; simp at hu; rcases hu with rfl | rfl | rfl <;> rfl)
    | (intro j u hj
       match j, hj with
       | 0, hj => simp at hj; subst hj; simp [Addr.add]
       | 1, hj => simp at hj; subst hj; simp [Addr.add]
       | 2, hj => simp at hj; subst hj; simp [Addr.add]
       | (j + 3), hj => simp at hj)
set_option maxHeartbeats 4000000 in
set_option maxRecDepth 100000 in
theorem Tyw (B : Nat) (v : Value) (n : Nat) (xs : List Value) (r : Int) (h0 : 65536 ≤ r) (h1 : r ≤ 1114111) (w : World) (hown : w.ownsRow B 5 1 v n xs) (hlen : n + 4 ≤ 140737488355328) (hBw : B ≤ w.heap.size) :
    Calls Tryz.prog 233 #[v, .int .i32 r] w fun e w' => ∃ v', e = .returned v' ∧ w'.ownsRow B 5 1 v' (n + 4) (xs ++ [.int .u8 (240 + r / 262144), .int .u8 (128 + r / 4096 % 64), .int .u8 (128 + r / 64 % 64), .int .u8 (128 + r % 64)]) ∧ Grew w w' v v' := by
  have hvb : ∀ b, blk v = some b → b < w.heap.size := fun b hb => (Tap hown hb).2
  go_enter Tryz.func233, Tryz.ntmps233
  go_wp2_with (at_builtin; refine Tb1 rfl _ _ rfl B _ _ _ rfl (hown.alloc _) ⟨w.heap.size, 0, none⟩ 4 4 [.int .u8 (240 + r / 262144), .int .u8 (128 + r / 4096 % 64), .int .u8 (128 + r / 64 % 64), .int .u8 (128 + r % 64)] rfl rfl ?c1 ?c2 ?c4 ?c5 ?_)
  all_goals first
    | (intro v' w2 hown' hgrow; go_wp2; go_ret; exact ⟨v', rfl, hown', Tb2 hvb hgrow⟩)
    | omega
    | exact ⟨rfl, rfl, rfl⟩
    | (simp; omega)
    | (intro u hu; simp at hu; rcases hu with rfl | rfl | rfl | rfl <;> rfl)
    | (intro j u hj
       match j, hj with
       | 0, hj => simp at hj; subst hj; simp [Addr.add]
       | 1, hj => simp at hj; subst hj; simp [Addr.add]
       | 2, hj => simp at hj; subst hj; simp [Addr.add]
       | 3, hj => simp at hj; subst hj; simp [Addr.add]
       | (j + 4), hj => simp at hj)
set_option maxHeartbeats 4000000 in
set_option maxRecDepth 100000 in
theorem Tpx (B : Nat) (v : Value) (n : Nat) (xs : List Value) (r : Int) (h0 : -2147483648 ≤ r) (h1 : r < 0) (w : World) (hown : w.ownsRow B 5 1 v n xs) (hlen : n + 4 ≤ 140737488355328) (hBw : B ≤ w.heap.size) :
    Calls Tryz.prog 233 #[v, .int .i32 r] w fun e w' => ∃ v', e = .returned v' ∧ w'.ownsRow B 5 1 v' (n + 3) (xs ++ [.int .u8 (239), .int .u8 (191), .int .u8 (189)]) ∧ Grew w w' v v' := by
  have hvb : ∀ b, blk v = some b → b < w.heap.size := fun b hb => (Tap hown hb).2
  go_enter Tryz.func233, Tryz.ntmps233
  go_wp2_with (at_builtin; refine Tb1 rfl _ _ rfl B _ _ _ rfl (hown.alloc _) ⟨w.heap.size, 0, none⟩ 3 3 [.int .u8 (239), .int .u8 (191), .int .u8 (189)] rfl rfl ?c1 ?c2 ?c4 ?c5 ?_)
  all_goals first
    | (intro v' w2 hown' hgrow; go_wp2; go_ret; exact ⟨v', rfl, hown', Tb2 hvb hgrow⟩)
    | omega
    | exact ⟨rfl, rfl, rfl⟩
    | (simp; omega)
    | (intro u hu; simp at hu; rcases hu with rfl | rfl | rfl <;> rfl)
    | (intro j u hj
       match j, hj with
       | 0, hj => simp at hj; subst hj; simp [Addr.add]
       | 1, hj => simp at hj; subst hj; simp [Addr.add]
       | 2, hj => simp at hj; subst hj; simp [Addr.add]
       | (j + 3), hj => simp at hj)
set_option maxHeartbeats 4000000 in
set_option maxRecDepth 100000 in
theorem Tpy (B : Nat) (v : Value) (n : Nat) (xs : List Value) (r : Int) (h0 : 55296 ≤ r) (h1 : r ≤ 57343) (w : World) (hown : w.ownsRow B 5 1 v n xs) (hlen : n + 4 ≤ 140737488355328) (hBw : B ≤ w.heap.size) :
    Calls Tryz.prog 233 #[v, .int .i32 r] w fun e w' => ∃ v', e = .returned v' ∧ w'.ownsRow B 5 1 v' (n + 3) (xs ++ [.int .u8 (239), .int .u8 (191), .int .u8 (189)]) ∧ Grew w w' v v' := by
  have hvb : ∀ b, blk v = some b → b < w.heap.size := fun b hb => (Tap hown hb).2
  go_enter Tryz.func233, Tryz.ntmps233
  go_wp2_with (at_builtin; refine Tb1 rfl _ _ rfl B _ _ _ rfl (hown.alloc _) ⟨w.heap.size, 0, none⟩ 3 3 [.int .u8 (239), .int .u8 (191), .int .u8 (189)] rfl rfl ?c1 ?c2 ?c4 ?c5 ?_)
  all_goals first
    | (intro v' w2 hown' hgrow; go_wp2; go_ret; exact ⟨v', rfl, hown', Tb2 hvb hgrow⟩)
    | omega
    | exact ⟨rfl, rfl, rfl⟩
    | (simp; omega)
    | (intro u hu; simp at hu; rcases hu with rfl | rfl | rfl <;> rfl)
    | (intro j u hj
       match j, hj with
       | 0, hj => simp at hj; subst hj; simp [Addr.add]
       | 1, hj => simp at hj; subst hj; simp [Addr.add]
       | 2, hj => simp at hj; subst hj; simp [Addr.add]
       | (j + 3), hj => simp at hj)
set_option maxHeartbeats 4000000 in
set_option maxRecDepth 100000 in
theorem Tpz (B : Nat) (v : Value) (n : Nat) (xs : List Value) (r : Int) (h0 : 1114111 < r) (h1 : r ≤ 2147483647) (w : World) (hown : w.ownsRow B 5 1 v n xs) (hlen : n + 4 ≤ 140737488355328) (hBw : B ≤ w.heap.size) :
    Calls Tryz.prog 233 #[v, .int .i32 r] w fun e w' => ∃ v', e = .returned v' ∧ w'.ownsRow B 5 1 v' (n + 3) (xs ++ [.int .u8 (239), .int .u8 (191), .int .u8 (189)]) ∧ Grew w w' v v' := by
  have hvb : ∀ b, blk v = some b → b < w.heap.size := fun b hb => (Tap hown hb).2
  go_enter Tryz.func233, Tryz.ntmps233
  go_wp2_with (at_builtin; refine Tb1 rfl _ _ rfl B _ _ _ rfl (hown.alloc _) ⟨w.heap.size, 0, none⟩ 3 3 [.int .u8 (239), .int .u8 (191), .int .u8 (189)] rfl rfl ?c1 ?c2 ?c4 ?c5 ?_)
  all_goals first
    | (intro v' w2 hown' hgrow; go_wp2; go_ret; exact ⟨v', rfl, hown', Tb2 hvb hgrow⟩)
    | omega
    | exact ⟨rfl, rfl, rfl⟩
    | (simp; omega)
    | (intro u hu; simp at hu; rcases hu with rfl | rfl | rfl <;> rfl)
    | (intro j u hj
       match j, hj with
       | 0, hj => simp at hj; subst hj; simp [Addr.add]
       | 1, hj => simp at hj; subst hj; simp [Addr.add]
       | 2, hj => simp at hj; subst hj; simp [Addr.add]
       | (j + 3), hj => simp at hj)
set_option maxHeartbeats 4000000 in
set_option maxRecDepth 100000 in
theorem Tvd (B : Nat) (v : Value) (n : Nat) (xs : List Value) (r : Int) (h0 : 0 ≤ r) (h1 : r ≤ 127) (w : World) (hown : w.ownsRow B 5 1 v n xs) (hlen : n + 4 ≤ 140737488355328) (hBw : B ≤ w.heap.size) :
    Calls Tryz.prog 225 #[v, .int .i32 r] w fun e w' => ∃ v', e = .returned v' ∧ w'.ownsRow B 5 1 v' (n + 1) (xs ++ [.int .u8 (r)]) ∧ Grew w w' v v' := by
  have hvb : ∀ b, blk v = some b → b < w.heap.size := fun b hb => (Tap hown hb).2
  go_enter Tryz.func225, Tryz.ntmps225
  go_wp2_with (at_builtin; refine Tb1 rfl _ _ rfl B _ _ _ rfl (hown.alloc _) ⟨w.heap.size, 0, none⟩ 1 1 [.int .u8 (r)] rfl rfl ?c1 ?c2 ?c4 ?c5 ?_)
  all_goals first
    | (intro v' w2 hown' hgrow; go_wp2; go_ret; exact ⟨v', rfl, hown', Tb2 hvb hgrow⟩)
    | omega
    | exact ⟨rfl, rfl, rfl⟩
    | (simp; omega)
    | (intro u hu; simp at hu; subst hu; rfl)
    | (intro j u hj
       match j, hj with
       | 0, hj => simp at hj; subst hj; simp [Addr.add]
       | (j + 1), hj => simp at hj)
theorem Tyx (B : Nat) (v : Value) (n : Nat) (xs : List Value) (r : Int) (hr0 : -2147483648 ≤ r) (hr1 : r ≤ 2147483647) (hna : r < 0 ∨ 128 ≤ r) (w : World) (hown : w.ownsRow B 5 1 v n xs) (hlen : n + 4 ≤ 140737488355328) (hBw : B ≤ w.heap.size) :
 Calls Tryz.prog 233 #[v, .int .i32 r] w fun e w' => ∃ v', e = .returned v' ∧ w'.ownsRow B 5 1 v' (n + (Lib.runeCells r).length) (xs ++ Lib.runeCells r) ∧ Grew w w' v v' := by
 by_cases c0 : r < 0
 · rw [show Lib.runeCells r = [.int .u8 239, .int .u8 191, .int .u8 189] by simp [Lib.runeCells, Lib.encodeRuneZ_bad (Or.inl c0)]]
   exact Tpx B v n xs r hr0 c0 w hown hlen hBw
 by_cases c1 : r ≤ 2047
 · rw [show Lib.runeCells r = [.int .u8 (192 + r / 64), .int .u8 (128 + r % 64)] by simp [Lib.runeCells, Lib.encodeRuneZ_two (by omega) c1]]
   exact T0m B v n xs r (by omega) c1 w hown hlen hBw
 by_cases c2 : r < 55296
 · rw [show Lib.runeCells r = [.int .u8 (224 + r / 4096), .int .u8 (128 + r / 64 % 64), .int .u8 (128 + r % 64)] by simp [Lib.runeCells, Lib.encodeRuneZ_three (Or.inl ⟨by omega, c2⟩)]]
   exact Tmr B v n xs r (by omega) c2 w hown hlen hBw
 by_cases c3 : r ≤ 57343
 · rw [show Lib.runeCells r = [.int .u8 239, .int .u8 191, .int .u8 189] by simp [Lib.runeCells, Lib.encodeRuneZ_bad (Or.inr (Or.inl ⟨by omega, c3⟩))]]
   exact Tpy B v n xs r (by omega) c3 w hown hlen hBw
 by_cases c4 : r ≤ 65535
 · rw [show Lib.runeCells r = [.int .u8 (224 + r / 4096), .int .u8 (128 + r / 64 % 64), .int .u8 (128 + r % 64)] by simp [Lib.runeCells, Lib.encodeRuneZ_three (Or.inr ⟨by omega, c4⟩)]]
   exact Tms B v n xs r (by omega) c4 w hown hlen hBw
 by_cases c5 : r ≤ 1114111
 · rw [show Lib.runeCells r = [.int .u8 (240 + r / 262144), .int .u8 (128 + r / 4096 % 64), .int .u8 (128 + r / 64 % 64), .int .u8 (128 + r % 64)] by simp [Lib.runeCells, Lib.encodeRuneZ_four (by omega) c5]]
   exact Tyw B v n xs r (by omega) c5 w hown hlen hBw
 · rw [show Lib.runeCells r = [.int .u8 239, .int .u8 191, .int .u8 189] by simp [Lib.runeCells, Lib.encodeRuneZ_bad (r := r) (Or.inr (Or.inr (by omega)))]]
   exact Tpz B v n xs r (by omega) hr1 w hown hlen hBw
set_option maxHeartbeats 4000000 in
set_option maxRecDepth 100000 in
theorem T0n (B : Nat) (v : Value) (n : Nat) (xs : List Value) (r : Int) (hr0 : -2147483648 ≤ r) (hr1 : r ≤ 2147483647) (w : World) (hown : w.ownsRow B 5 1 v n xs) (hlen : n + 4 ≤ 140737488355328) (hBw : B ≤ w.heap.size) :
 Calls Tryz.prog 225 #[v, .int .i32 r] w fun e w' => ∃ v', e = .returned v' ∧ w'.ownsRow B 5 1 v' (n + (Lib.runeCells r).length) (xs ++ Lib.runeCells r) ∧ Grew w w' v v' := by
 by_cases c : 0 ≤ r ∧ r ≤ 127
 · rw [show Lib.runeCells r = [.int .u8 r] by simp [Lib.runeCells, Lib.encodeRuneZ_one c.1 c.2]]
   exact Tvd B v n xs r c.1 c.2 w hown hlen hBw
 · have hna : r < 0 ∨ 128 ≤ r := by omega
   clear c
   rcases hna with hna | hna
   all_goals
    go_enter Tryz.func225, Tryz.ntmps225
    go_wp2_with (go_at_call 233; refine (Tyx B v n xs r hr0 hr1 (by omega) _ hown hlen hBw).mono ?_)
    rintro e w1 ⟨v', rfl, h1, h2⟩
    go_wp2
    go_ret
    exact ⟨_, rfl, h1, h2⟩
set_option maxHeartbeats 4000000 in
set_option maxRecDepth 100000 in
theorem sbRune : SbRune Tryz.prog 145 5 208 := by
 intro B b p v bs r w hr0 hr1 hB hBw hp hg hown hne hle
 have hlt : b < w.heap.size := (Array.getElem?_eq_some_iff.1 hg).1
 have hk4 := Lib.runeCells_le r
 go_enter Tryz.func208, Tryz.ntmps208
 go_wp2_with (go_at_call 150; refine (Toh B b p v _ hB hp hg).mono ?_)
 rintro e w1 ⟨rfl, hg1, hb1, hs1, hk1⟩
 have hown1 : w1.ownsRow B 5 1 v bs.length bs := Tas hown fun b' hb' => hk1 b' fun e => hne (by rw [← e]; exact hb')
 obtain ⟨ao, cap, rfl⟩ : ∃ ao cap, v = .slice ao bs.length cap := by
  rcases hown.2 with ⟨hv, h0⟩ | ⟨g, cap, cur, hv, _⟩
  · exact ⟨none, 0, by rw [hv]; simp [h0]⟩
  · exact ⟨_, _, hv⟩
 have c0 : w1.cell? ⟨b, 0, none⟩ = some (.pointer (some ⟨b, 0, none⟩)) := by rw [Lib.cell_of_heap hg1]; rfl
 have c1 : w1.cell? ⟨b, 1, none⟩ = some (.slice ao bs.length cap) := by rw [Lib.cell_of_heap hg1]; rfl
 go_wp2_with (go_at_call 225; refine (T0n B _ bs.length bs r hr0 hr1 _ hown1 (by simpa [maxBytes] using hle) (by omega)).mono ?_)
 rintro e w2 ⟨v', rfl, hown', hgrow⟩
 have hkeep : ∀ k, k < w1.heap.size → blk (.slice ao bs.length cap) ≠ some k → w2.heap[k]? = w1.heap[k]? := fun k h1 h2 => by
  rcases hgrow with ⟨_, _, _, _, _, h⟩ | ⟨_, h⟩
  · exact h k (by omega) h2
  · exact h.block k (by omega)
 have hb2 : w2.heap[b]? = some (.cells #[.pointer (some ⟨b, 0, none⟩), .slice ao bs.length cap] 145 (0, 0)) := by
  rw [hkeep b (by omega) hne]; exact hg1
 have hbel : Below B w1 w2 := by
  rcases hgrow with ⟨h0, h1, h2, h3, h4, h5⟩ | ⟨_, h⟩
  · refine ⟨h1, h2, h3, by omega, fun k hk => h5 k (by omega) fun e => ?_⟩
    have := (Tap hown1 e).1
    omega
  · exact h.mono (by omega)
 have d0 : w2.cell? ⟨b, 0, none⟩ = some (.pointer (some ⟨b, 0, none⟩)) := by rw [Lib.cell_of_heap hb2]; rfl
 have d1 : w2.cell? ⟨b, 1, none⟩ = some (.slice ao bs.length cap) := by rw [Lib.cell_of_heap hb2]; rfl
 have f1 : w2.frozen? ⟨b, 1, none⟩ = false := Lib.frozen_of_heap hb2 1
 obtain ⟨ao', cap', rfl⟩ : ∃ ao' cap', v' = .slice ao' (bs.length + (Lib.runeCells r).length) cap' := by
  rcases hown'.2 with ⟨_, h0⟩ | ⟨g, cap', cur, hv, _⟩
  · omega
  · exact ⟨_, cap', hv⟩
 go_wp2
 go_ret2
 have hnb : blk (.slice ao' (bs.length + (Lib.runeCells r).length) cap') ≠ some b := fun e => by
  rcases hgrow with ⟨h, _⟩ | ⟨⟨c, h, hc⟩, _⟩
  · rw [h] at e; exact hne e
  · rw [h] at e; simp at e; omega
 refine ⟨?_, .slice ao' (bs.length + (Lib.runeCells r).length) cap', ?_, ?_, ?_, ?_, ?_⟩
 · have e : ((bs.length : Int) + ((Lib.runeCells r).length : Int) - (bs.length : Int)) = ((Lib.runeCells r).length : Int) := by omega
   simp [e]
 · simp [World.setCell, Array.getElem?_modify, hb2]
 · exact Tas hown' fun k hk => Below.heap_setCell _ _ _ _ fun e => hnb (by rw [hk]; rw [e])
 · rcases hgrow with ⟨h, _⟩ | ⟨⟨c, h, hc⟩, _⟩
   · exact .inl h
   · exact .inr ⟨_, h, by omega⟩
 · exact (hb1.trans hbel).setCell (p := ⟨b, 1, none⟩) hB _
 · intro k h1 h2 h3
   rw [Below.heap_setCell _ _ _ _ h2, hkeep k (by omega) h3, hk1 k h2]
theorem Tf1 {ops : Array Oper} {rest : List Oper} {o : Oper} {a : Act} {Q : Exit → Act → World → Prop} {w : World} {P : Program} {t e : TypeId} {k by_ : Nat} (ht : P.underlying t = some (.slice e)) (hel : elOk P e k by_ = true) (hgd : o.guard = none) (sl x : Operand) (ho : o.op = .call { callee := .builtin .append, args := #[sl, x], argTypes := #[t, t] })
 (B : Nat) (v : Value) (n : Nat) (xs : List Value) (hs : a.eval sl = v) (hown : w.ownsRow B e k v n xs) (ad : Option Addr) (m c : Nat) (news : List Value) (hx : a.eval x = .slice ad m c) (hl : news.length = m * k) (hnews : m = 0 ∨ ∃ a', ad = some a' ∧ ∀ j u, news[j]? = some u → w.cell? (a'.add j) = some u) (h1 : ∀ u ∈ news, u.oneCell' = true)
 (hby : (n + m) * by_ ≤ 140737488355328) (h63 : n + m ≤ 9223372036854775807) (hB : B ≤ w.heap.size)
 (h : ∀ v' w', w'.ownsRow B e k v' (n + m) (xs ++ news) → GrewAt w w' v v' → wpList P ops Q rest (a.put o.dst v') w') : wpList P ops Q (o :: rest) a w := by
 refine wpList_plain hgd fun K hK => ?_
 obtain ⟨i, z, hi, hz, hi1, hby1, hzs⟩ := Tbp hel
 obtain ⟨v', w', hr, h2, h3⟩ := Tg0 (P := P) (ty := o.type) (x := .slice ad m c) (m := m) (n := n) (news := news) ht ht (by simp) hi hz (by rw [hzs, hi1]) (by rw [hi1]; exact hown) (by rw [hi1]; exact hl) h1 (fun w' => rfl) (fun w' hw' => by
  rw [hi1]
  rcases hnews with rfl | ⟨a', rfl, hn⟩
  · have hn0 : news = [] := List.eq_nil_of_length_eq_zero (by rw [hl]; simp)
    subst hn0
    cases ad with
    | none => exact run_firstCells_none _ _ _ _ _
    | some a' => exact run_firstCells_some (w := w') (size := k) (n := 0) (b := a') (len := 0) (cap := c) (cs := []) (by simp) (fun j u hu => by simp at hu)
  · exact run_firstCells_some (w := w') (size := k) (n := m) (b := a') (len := m) (cap := c) (cs := news) hl (fun j u hu => (World.cell?_of_block (a := a'.add j) (by rw [hw'])).trans (hn j u hu))) (by simp only [maxLen]; omega) (by rw [hby1]; exact hby) hB
 rw [hi1] at h2
 unfold Oper.wp execOp
 simp only [ho, resolve, invoke, builtin, Sem.run_bind, Sem.run_pure, Result.andThen_ok, List.map_toArray, List.map_cons, List.map_nil, hs, hx, hr]
 exact hK _ _ (h v' w' h2 h3)
theorem Tf2 {w w' : World} {v v' : Value} {B : Nat} (h : GrewAt w w' v v') (hB : B ≤ w.heap.size) (hv : ∀ b, blk v = some b → B ≤ b) : Below B w w' := by
 rcases h with ⟨h0, h1, h2, h3, h4, h5⟩ | ⟨_, h⟩
 · exact ⟨h1, h2, h3, by omega, fun k hk => h5 k fun e => by have := hv k e; omega⟩
 · exact h.mono hB
theorem Tve : elOk Tryz.prog 64 2 16 = true := by decide +kernel
set_option maxHeartbeats 4000000 in
set_option maxRecDepth 100000 in
theorem Tvf (l : List (List PV)) (hl : ∀ c ∈ l, c.length = 2) (hb : l.length * 16 ≤ 140737488355328) : CallOK' Tryz.prog 106 [.sl 2 l] (.own 64 2 l) := by
 intro w0 lm0 vs hvs
 cases hvs with
 | cons hv hn =>
 cases hn
 rename_i v
 have done : ∀ (w' : World) (v' : Value) (xs : List Value), Below w0.heap.size w0 w' → w'.ownsRow w0.heap.size 64 2 v' l.length xs → RepL w0 lm0 l.flatten xs → (∀ u ∈ xs, u.oneCell' = true) →
  ∃ u lm', Ending.returned v' = .returned u ∧ Below w0.heap.size w0 w' ∧ (∀ b, b < w0.heap.size → lm' b = lm0 b) ∧ RRep w0.heap.size w' lm' (.own 64 2 l) u := by
  intro w' v' xs h1 h2 h3 h4
  let lm' : Nat → Nat := fun b => if b < w0.heap.size then lm0 b else 0
  refine ⟨v', lm', rfl, h1, fun b hb => if_pos hb, by omega, hl, ⟨xs, h2, h3.ext (Ext.of_below h1 fun b hb => if_pos hb), h4⟩, fun b hb => if_neg ?_⟩
  have := (Tap h2 hb).1
  omega
 obtain ⟨ad, n, cap, xs, rfl, hn, hxs, h1, hmem⟩ : ∃ ad n cap xs, v = .slice ad n cap ∧ n = l.length ∧ RepL w0 lm0 l.flatten xs ∧ (∀ u ∈ xs, u.oneCell' = true) ∧ (n = 0 ∨ ∃ a', ad = some a' ∧ ∀ j u, xs[j]? = some u → w0.cell? (a'.add j) = some u) := by
  cases hv with
  | sl h0 hk hr hm hc =>
   rename_i xs b o cap
   exact ⟨_, _, _, xs, rfl, rfl, hr, fun u hu => by obtain ⟨j, hj⟩ := List.mem_iff_getElem?.1 hu; exact (hm j u hj).2.2, .inr ⟨_, rfl, fun j u hu => by rw [add_n]; exact (hm j u hu).1⟩⟩
  | sl0 => exact ⟨_, _, _, [], rfl, rfl, .nil, by simp, .inl rfl⟩
 subst hn
 have hxl : xs.length = l.length * 2 := by rw [← hxs.length, Tao hl]
 cases ad with
 | none =>
  have hl0 : l = [] := by
   rcases hmem with h | ⟨_, h, _⟩
   · exact List.eq_nil_of_length_eq_zero h
   · simp at h
  subst hl0
  have hx0 : xs = [] := List.eq_nil_of_length_eq_zero (by simpa using hxl)
  subst hx0
  go_enter Tryz.func106, Tryz.ntmps106
  go_wp2
  rw [Lib.run_eql_slice_nil w0 _ _ _ _ _ _ _ Tryz.underlying60]
  simp only [Result.andThen]
  rw [Oper.upon_value]
  go_wp2
  go_ret
  exact done _ _ [] (Below.refl _ _) ⟨rfl, .inl ⟨rfl, rfl⟩⟩ .nil (by simp)
 | some a' =>
  go_enter Tryz.func106, Tryz.ntmps106
  go_wp2
  rw [Lib.run_eql_slice_nil w0 _ _ _ _ _ _ _ Tryz.underlying60]
  simp only [Result.andThen]
  rw [Oper.upon_value]
  go_wp2_with (at_builtin; refine Tf1 Tryz.underlying60 Tve rfl _ _ rfl w0.heap.size _ 0 [] rfl ?own _ l.length cap xs rfl hxl ?mem h1 ?c1 ?c2 ?c3 ?_)
  case own => exact World.ownsRow_lit w0 #[] 0 (Nat.le_refl _) (by decide) rfl
  case mem =>
   rcases hmem with h | ⟨a1, h, hm⟩
   · exact .inl h
   · refine .inr ⟨a1, h, fun j u hu => ?_⟩
     have h2 := hm j u hu
     have h3 : (a1.add j).block < w0.heap.size := by
      rcases Nat.lt_or_ge (a1.add j).block w0.heap.size with h' | h'
      · exact h'
      · simp [World.cell?, Array.getElem?_eq_none h'] at h2
     exact (World.cell?_of_block (Lib.alloc_old w0 _ _ h3)).trans h2
  case c1 => omega
  case c2 => omega
  case c3 => simp
  intro v' w2 hown' hgrow
  have hsz : (w0.alloc (.cells #[] 64)).heap.size = w0.heap.size + 1 := by simp
  go_wp2
  go_ret
  refine done _ _ xs ?_ (by simpa using hown') hxs h1
  exact (Taz w0 _).trans (Tf2 hgrow (by rw [hsz]; omega) fun b hb => by simp [blk, Act.eval] at hb; omega)
theorem Tsm : elOk Tryz.prog 41 2 16 = true := by decide +kernel
set_option maxHeartbeats 4000000 in
set_option maxRecDepth 100000 in
theorem Tsn (l : List (List PV)) (hl : ∀ c ∈ l, c.length = 2) (hb : l.length * 16 ≤ 140737488355328) : CallOK' Tryz.prog 180 [.sl 2 l] (.own 41 2 l) := by
 intro w0 lm0 vs hvs
 cases hvs with
 | cons hv hn =>
 cases hn
 rename_i v
 have done : ∀ (w' : World) (v' : Value) (xs : List Value), Below w0.heap.size w0 w' → w'.ownsRow w0.heap.size 41 2 v' l.length xs → RepL w0 lm0 l.flatten xs → (∀ u ∈ xs, u.oneCell' = true) →
  ∃ u lm', Ending.returned v' = .returned u ∧ Below w0.heap.size w0 w' ∧ (∀ b, b < w0.heap.size → lm' b = lm0 b) ∧ RRep w0.heap.size w' lm' (.own 41 2 l) u := by
  intro w' v' xs h1 h2 h3 h4
  let lm' : Nat → Nat := fun b => if b < w0.heap.size then lm0 b else 0
  refine ⟨v', lm', rfl, h1, fun b hb => if_pos hb, by omega, hl, ⟨xs, h2, h3.ext (Ext.of_below h1 fun b hb => if_pos hb), h4⟩, fun b hb => if_neg ?_⟩
  have := (Tap h2 hb).1
  omega
 obtain ⟨ad, n, cap, xs, rfl, hn, hxs, h1, hmem⟩ : ∃ ad n cap xs, v = .slice ad n cap ∧ n = l.length ∧ RepL w0 lm0 l.flatten xs ∧ (∀ u ∈ xs, u.oneCell' = true) ∧ (n = 0 ∨ ∃ a', ad = some a' ∧ ∀ j u, xs[j]? = some u → w0.cell? (a'.add j) = some u) := by
  cases hv with
  | sl h0 hk hr hm hc =>
   rename_i xs b o cap
   exact ⟨_, _, _, xs, rfl, rfl, hr, fun u hu => by obtain ⟨j, hj⟩ := List.mem_iff_getElem?.1 hu; exact (hm j u hj).2.2, .inr ⟨_, rfl, fun j u hu => by rw [add_n]; exact (hm j u hu).1⟩⟩
  | sl0 => exact ⟨_, _, _, [], rfl, rfl, .nil, by simp, .inl rfl⟩
 subst hn
 have hxl : xs.length = l.length * 2 := by rw [← hxs.length, Tao hl]
 cases ad with
 | none =>
  have hl0 : l = [] := by
   rcases hmem with h | ⟨_, h, _⟩
   · exact List.eq_nil_of_length_eq_zero h
   · simp at h
  subst hl0
  have hx0 : xs = [] := List.eq_nil_of_length_eq_zero (by simpa using hxl)
  subst hx0
  go_enter Tryz.func180, Tryz.ntmps180
  go_wp2
  rw [Lib.run_eql_slice_nil w0 _ _ _ _ _ _ _ Tryz.underlying31]
  simp only [Result.andThen]
  rw [Oper.upon_value]
  go_wp2
  go_ret
  exact done _ _ [] (Below.refl _ _) ⟨rfl, .inl ⟨rfl, rfl⟩⟩ .nil (by simp)
 | some a' =>
  go_enter Tryz.func180, Tryz.ntmps180
  go_wp2
  rw [Lib.run_eql_slice_nil w0 _ _ _ _ _ _ _ Tryz.underlying31]
  simp only [Result.andThen]
  rw [Oper.upon_value]
  go_wp2_with (at_builtin; refine Tf1 Tryz.underlying31 Tsm rfl _ _ rfl w0.heap.size _ 0 [] rfl ?own _ l.length cap xs rfl hxl ?mem h1 ?c1 ?c2 ?c3 ?_)
  case own => exact World.ownsRow_lit w0 #[] 0 (Nat.le_refl _) (by decide) rfl
  case mem =>
   rcases hmem with h | ⟨a1, h, hm⟩
   · exact .inl h
   · refine .inr ⟨a1, h, fun j u hu => ?_⟩
     have h2 := hm j u hu
     have h3 : (a1.add j).block < w0.heap.size := by
      rcases Nat.lt_or_ge (a1.add j).block w0.heap.size with h' | h'
      · exact h'
      · simp [World.cell?, Array.getElem?_eq_none h'] at h2
     exact (World.cell?_of_block (Lib.alloc_old w0 _ _ h3)).trans h2
  case c1 => omega
  case c2 => omega
  case c3 => simp
  intro v' w2 hown' hgrow
  have hsz : (w0.alloc (.cells #[] 41)).heap.size = w0.heap.size + 1 := by simp
  go_wp2
  go_ret
  refine done _ _ xs ?_ (by simpa using hown') hxs h1
  exact (Taz w0 _).trans (Tf2 hgrow (by rw [hsz]; omega) fun b hb => by simp [blk, Act.eval] at hb; omega)
set_option maxHeartbeats 4000000 in
set_option maxRecDepth 100000 in
theorem Tvg : CallOK' Tryz.prog 220 [] (.val (.st [pI .u8 128, pI .u8 0, pI .i32 0, pI .u8 224, pI .u8 192, pI .i32 128, pI .u8 240, pI .u8 224, pI .i32 2048, pI .u8 248, pI .u8 240, pI .i32 65536])) := by
 intro w0 lm0 vs hvs
 cases hvs
 have main : Calls Tryz.prog 220 #[] w0 fun e w' => e = .returned (.agg #[.int .u8 128, .int .u8 0, .int .i32 0, .int .u8 224, .int .u8 192, .int .i32 128, .int .u8 240, .int .u8 224, .int .i32 2048, .int .u8 248, .int .u8 240, .int .i32 65536]) ∧ Below w0.heap.size w0 w' := by
  go_enter Tryz.func220, Tryz.ntmps220
  go_wp2
  exact bodyPost_ret (v := .agg #[.int .u8 128, .int .u8 0, .int .i32 0, .int .u8 224, .int .u8 192, .int .i32 128, .int .u8 240, .int .u8 224, .int .i32 2048, .int .u8 248, .int .u8 240, .int .i32 65536]) (by simp [results, Tryz.results220, go_sem]) rfl ⟨rfl, (Below.refl _ _).alloc (Nat.le_refl _) _⟩
 refine main.mono ?_
 rintro e w' ⟨rfl, hb⟩
 let lm' : Nat → Nat := fun b => if b < w0.heap.size then lm0 b else 0
 refine ⟨_, lm', rfl, hb, fun b hb => if_pos hb, ?_⟩
 refine Rep.st (vs := [.int .u8 128, .int .u8 0, .int .i32 0, .int .u8 224, .int .u8 192, .int .i32 128, .int .u8 240, .int .u8 224, .int .i32 2048, .int .u8 248, .int .u8 240, .int .i32 65536]) ?_ (by simp [Value.oneCell'])
 repeat' first | exact .nil | refine .cons (.sc _) ?_
set_option maxHeartbeats 4000000 in
set_option maxRecDepth 100000 in
theorem Tvh : CallOK' Tryz.prog 43 [] (.val (.st [pb false, pb true, pb true, pb false, pb false, pb true, pb true, pb false, pb false])) := by
 intro w0 lm0 vs hvs
 cases hvs
 have main : Calls Tryz.prog 43 #[] w0 fun e w' => e = .returned (.agg #[.bool false, .bool true, .bool true, .bool false, .bool false, .bool true, .bool true, .bool false, .bool false]) ∧ Below w0.heap.size w0 w' := by
  go_enter Tryz.func43, Tryz.ntmps43
  go_wp2
  exact bodyPost_ret (v := .agg #[.bool false, .bool true, .bool true, .bool false, .bool false, .bool true, .bool true, .bool false, .bool false]) (by simp [results, Tryz.results43, go_sem]) rfl ⟨rfl, (Below.refl _ _).alloc (Nat.le_refl _) _⟩
 refine main.mono ?_
 rintro e w' ⟨rfl, hb⟩
 let lm' : Nat → Nat := fun b => if b < w0.heap.size then lm0 b else 0
 refine ⟨_, lm', rfl, hb, fun b hb => if_pos hb, ?_⟩
 refine Rep.st (vs := [.bool false, .bool true, .bool true, .bool false, .bool false, .bool true, .bool true, .bool false, .bool false]) ?_ (by simp [Value.oneCell'])
 repeat' first | exact .nil | refine .cons (.sc _) ?_
end Go.Proofs.YtjpibniecllafaaGreat.AM
end
