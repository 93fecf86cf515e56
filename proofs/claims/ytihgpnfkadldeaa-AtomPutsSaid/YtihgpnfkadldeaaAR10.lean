/- Atoms on the small machine: whether they are any (Is). For rows of at most 2^63 - 1 atoms with texts of less than 2^40 bytes. -/
import Derived.Test.YtihgpnfkadldeaaAR9
namespace Go.Proofs.Ytihgpnfkadldeaa.AM
set_option linter.unusedSimpArgs false
set_option linter.unusedVariables false
open Go Go.Proofs.Ytihgpnfkadldeaa.U
variable {cp : List PV → Option Ret}

def inn (n a b : Int) : Bool := decide (a ≤ n) && decide (n ≤ b)
theorem within (n a b : Int) : Run (EX cp) 81 [pi n, pi a, pi b] = some (.val (pb (inn n a b))) := by
  rw [run_fn _ A_atom_within _ rfl rfl rfl]
  by_cases c : a ≤ n
  · simp [A_atom_within, c, inn]
  · simp [A_atom_within, c, inn]
theorem isGroup (n : Int) : Run (EX cp) 82 [pi n] = some (.val (pb (inn n (-1) 59))) := by
  have h := within (cp := cp) n (-1) 59
  rw [run_fn _ A_atom_isGroup _ rfl rfl rfl]
  simp [A_atom_isGroup, h]
def isCut (q : Int × Int) : Bool := inn q.1 0 1000000 && inn q.2 (-1) 59
theorem is1 (a b : Int) : Run (EX cp) 83 [.st [pi a, pi b]] = some (.val (pb (!isCut (a, b)))) := by
  have h1 := within (cp := cp) a 0 1000000
  have h2 := isGroup (cp := cp) b
  rw [run_fn _ A_atom_is_1 _ rfl rfl rfl]
  cases c : inn a 0 1000000 <;> rw [c] at h1 <;> simp [A_atom_is_1, h1, h2, isCut, c]
def isAt (a : At) : Bool := !decide (a.txt = ⟨#[]⟩) && decide (sizeAt a.txt 0 = a.txt.size) && inn a.rv 0 1000000 && inn a.rk 0 1000000 && inn a.gr (-1) 59 && decide (a.cuts.length ≤ 200) && a.cuts.all isCut
def ncutP : List PV → Bool
  | [.sc (.int _ a), .sc (.int _ b)] => !isCut (a, b)
  | _ => false
set_option maxHeartbeats 2000000 in
theorem isOne (a : At) (hs : a.txt.size < 1099511627776) (hc : a.cuts.length ≤ 9223372036854775807) : Run (EX cp) 58 [.st a.pv] = some (.val (pb (isAt a))) := by
  have h1 := utfSize (cp := cp) a.txt 0 hs
  have h2 := within (cp := cp) a.rv 0 1000000
  have h3 := within (cp := cp) a.rk 0 1000000
  have h4 := isGroup (cp := cp) a.gr
  have h5 := containsFuncC (cp := cp) (cutsL a.cuts) 83 [] ncutP (by simpa using hc) (fun r hr => by
    obtain ⟨q, hq, rfl⟩ := List.mem_map.1 hr
    exact ⟨rfl, is1 q.1 q.2⟩)
  have h6 : (cutsL a.cuts).any ncutP = !(a.cuts.all isCut) := by
    simp [cutsL, cutV, List.any_map, Function.comp_def, ncutP, List.not_all_eq_any_not]
  rw [h6] at h5
  rw [run_fn _ A_atom_is _ rfl rfl rfl, At.pv, isAt]
  by_cases c1 : a.txt = ⟨#[]⟩
  · simp (disch := omega) [A_atom_is, c1]
  by_cases c2 : sizeAt a.txt 0 = a.txt.size
  · cases c3 : inn a.rv 0 1000000 <;> rw [c3] at h2
    · simp (disch := omega) [A_atom_is, c1, c2, h1, h2]
    cases c4 : inn a.rk 0 1000000 <;> rw [c4] at h3
    · simp (disch := omega) [A_atom_is, c1, c2, h1, h2, h3]
    cases c5 : inn a.gr (-1) 59 <;> rw [c5] at h4
    · simp (disch := omega) [A_atom_is, c1, c2, h1, h2, h3, h4]
    by_cases c6 : a.cuts.length ≤ 200
    · simp (disch := omega) [A_atom_is, c1, c2, h1, h2, h3, h4, c6, h5, dec_no, dec_yes]
    · simp (disch := omega) [A_atom_is, c1, c2, h1, h2, h3, h4, c6, dec_no, dec_yes]
  · simp (disch := omega) [A_atom_is, c1, c2, h1, dec_no, dec_yes]
theorem isNot (a : At) (hs : a.txt.size < 1099511627776) (hc : a.cuts.length ≤ 9223372036854775807) : Run (EX cp) 57 [.st a.pv] = some (.val (pb (!isAt a))) := by
  have h := isOne (cp := cp) a hs hc
  rw [At.pv] at h ⊢
  rw [run_fn _ A_atom_Is_1 _ rfl rfl rfl]
  simp [A_atom_Is_1, h]
theorem indexFuncA_loop (l : List At) (fid : FuncId) (p : At → Bool) (hl : l.length ≤ 9223372036854775807) (hp : ∀ c ∈ l, Run (EX cp) fid [.st c.pv] = some (.val (pb (p c)))) : ∀ (m i : Nat), m + i = l.length →
    Code (EX cp) L_slices_IndexFunc_api_Atom_api_Atom_0 ⟨[(0, .p (.sl 5 (ats l))), (1, .p (.fn fid [])), (7, .p (pi l.length)), (8, .p (pi i))], []⟩ =
      if (l.drop i).any p then some (.ret, ⟨[(4, .p (pi ((i + (l.drop i).findIdx p : Nat) : Int)))], []⟩)
      else some (.ex 0, ⟨[(0, .p (.sl 5 (ats l))), (1, .p (.fn fid [])), (7, .p (pi l.length)), (8, .p (pi l.length)), (9, .p (pb false))], []⟩) := by
  intro m
  induction m with
  | zero =>
    intro i hi
    have : i = l.length := by omega
    subst this
    rw [L_slices_IndexFunc_api_Atom_api_Atom_0, k_loop]
    simp
  | succ m ih =>
    intro i hi
    have hlt : i < l.length := by omega
    have hg := ats_at l i hlt
    have hr := hp l[i] (List.getElem_mem hlt)
    rw [List.drop_eq_getElem_cons hlt, List.any_cons, List.findIdx_cons]
    generalize l[i] = a at *
    simp only [At.pv] at hg hr
    cases hpc : p a with
    | true =>
      rw [hpc] at hr
      rw [L_slices_IndexFunc_api_Atom_api_Atom_0, k_loop]
      simp (disch := omega) [dec_yes, hlt, hg, hr]
    | false =>
      have ih' := ih (i+1) (by omega)
      rw [hpc] at hr
      rw [Bool.false_or, cond_false]
      have e : ((i + ((l.drop (i+1)).findIdx p + 1) : Nat) : Int) = ((i + 1 + (l.drop (i+1)).findIdx p : Nat) : Int) := by omega
      rw [e, ← ih', L_slices_IndexFunc_api_Atom_api_Atom_0, k_loop]
      simp (disch := omega) [dec_yes, hlt, hg, hr, wrap_in]
theorem containsFuncA (l : List At) (fid : FuncId) (p : At → Bool) (hl : l.length ≤ 9223372036854775807) (hp : ∀ c ∈ l, Run (EX cp) fid [.st c.pv] = some (.val (pb (p c)))) :
    Run (EX cp) 56 [.sl 5 (ats l), .fn fid []] = some (.val (pb (l.any p))) := by
  have h := indexFuncA_loop l fid p hl hp l.length 0 (by omega)
  simp only [List.drop_zero, Nat.zero_add, Int.ofNat_zero, Int.natCast_zero] at h
  have hi : Run (EX cp) 79 [.sl 5 (ats l), .fn fid []] = some (.val (pi (if l.any p then (l.findIdx p : Int) else -1))) := by
    rw [run_fn _ A_slices_IndexFunc_api_Atom_api_Atom _ rfl rfl rfl]
    cases hf : l.any p <;> rw [hf] at h <;> simp at h <;> simp [A_slices_IndexFunc_api_Atom_api_Atom, h]
  rw [run_fn _ A_slices_ContainsFunc_api_Atom_api_Atom _ rfl rfl rfl]
  cases hf : l.any p <;> rw [hf] at hi
  · simp only [Bool.false_eq_true, if_false] at hi
    simp [A_slices_ContainsFunc_api_Atom_api_Atom, hi]
  · simp only [if_true] at hi
    simp (disch := omega) [A_slices_ContainsFunc_api_Atom_api_Atom, hi, dec_yes]
def isAts (l : List At) : Bool := decide (l.length ≤ 4000) && l.all isAt
theorem atomIs (l : List At) (hl : l.length ≤ 9223372036854775807) (hs : ∀ a ∈ l, a.txt.size < 1099511627776 ∧ a.cuts.length ≤ 9223372036854775807) : Run (EX cp) 25 [.sl 5 (ats l)] = some (.val (pb (isAts l))) := by
  have h := containsFuncA (cp := cp) l 57 (fun a => !isAt a) hl fun a ha => isNot a (hs a ha).1 (hs a ha).2
  have e : (l.any fun a => !isAt a) = !(l.all isAt) := by rw [List.not_all_eq_any_not]
  rw [e] at h
  rw [run_fn _ A_atom_Is _ rfl rfl rfl]
  by_cases c : l.length ≤ 4000
  · simp (disch := omega) [A_atom_Is, h, isAts, c, dec_yes]
  · simp (disch := omega) [A_atom_Is, isAts, c, dec_no]
end Go.Proofs.Ytihgpnfkadldeaa.AM
