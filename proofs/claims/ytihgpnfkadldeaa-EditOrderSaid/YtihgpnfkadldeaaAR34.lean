/- edit.Upon on the small machine. For fewer than a million atoms, of fewer than a million cuts, texts of fewer than a million bytes. -/
import Derived.Test.YtihgpnfkadldeaaAR33
namespace Go.Proofs.Ytihgpnfkadldeaa.AM
set_option linter.unusedSimpArgs false
set_option linter.unusedVariables false
open Go Go.Proofs.Ytihgpnfkadldeaa.U
variable {cp : List PV → Option Ret}
theorem bools_false (n : Nat) : List.replicate n [pb false] = bools (List.replicate n false) := by simp [bools]
set_option maxHeartbeats 8000000 in
theorem editUpon (l : List At) (rev : Int) (u : List Int) (c : List Ch) (now gr rk : Int) (hf : Fit2 l) (hl : l.length < 1000000) (hlc : ∀ a ∈ l, a.cuts.length < 1000000) (hu : u.length ≤ 9223372036854775807) (hcl : c.length ≤ 9223372036854775807) (hcs : ∀ x ∈ c, x.s.size < 1000000) :
    Run (EX cp) 42 [.sl 5 (ats l), pi rev, .sl 1 (ints u), .sl 3 (chs c), pi now, pi gr, pi rk] = some (.own 31 5 (ats (uponF l rev u c now gr rk))) := by
  have hcs2 : ∀ x ∈ c, x.s.size < 1099511627776 := fun x hx => by have := hcs x hx; omega
  have d1 := atomText (cp := cp) l rev u hf.fit hu
  have d2 := editCheck (cp := cp) (txtS rev u l) c (hf.txt rev u) hcl hcs2
  have d3 := editSpots (cp := cp) l rev u c rk hf hu hcl hcs2
  have d4 := editCuts (cp := cp) l rev u c hf hu hcl hcs2
  have d5 := atomCopy (cp := cp) l (by omega) (fun a ha => by have := hlc a ha; omega)
  rw [run_fn _ A_edit_Upon _ rfl rfl rfl]
  unfold uponF
  by_cases c0 : chk (txtS rev u l) c = 0
  case neg =>
    rw [if_neg c0]
    simp (disch := omega) [A_edit_Upon, d1, d2, d3, d5, c0, dec_yes, dec_no]
  rw [if_pos c0]
  rw [c0] at d2
  have h8 := (chk_good c0).len
  have hup := up_spotsF l rev u c rk c0
  have hsl := spotsF_len l rev u c rk c0
  have hcm := cutsF_mem l rev u c
  have hcn : (cutsF l rev u c).length ≤ l.length := by
    unfold cutsF; rw [if_pos c0]; exact cutsI_len rev u c l _ 0
  have hzl := cutU_len l rev u c now gr
  unfold cutU at *
  generalize spotsF l rev u c rk = sp at *
  generalize cutsF l rev u c = cu at *
  have hbl : (setB cu (List.replicate l.length false)).length = l.length := by rw [setB_len]; simp
  have l0 := ub_loop (cp := cp) (ats l) (chs c) now gr rk sp cu (by omega) l.length [] cu.length 0 (List.replicate l.length false) (by omega) (by simpa using hcm) (by simp; omega)
  rw [List.drop_zero, show ((0 : Nat) : Int) = 0 from rfl, List.length_replicate, ← bools_false] at l0
  have l1 := uc_loop (cp := cp) (chs c) now gr rk sp (setB cu (List.replicate l.length false)) l hbl (by omega) (fun a ha => by have := hlc a ha; omega) l.length 0 (by omega)
  rw [List.take_zero, cutZ_nil, show ((0 : Nat) : Int) = 0 from rfl] at l1
  generalize setB cu (List.replicate l.length false) = bo at *
  generalize cutZ now gr bo l = z at *
  obtain ⟨acc, k, f3, f4, a1, a2, a3, l2⟩ := um_loop (cp := cp) now gr rk z c sp hsl (by omega) h8 hcs c.length 0 0 [] false true (by omega) (by rw [List.drop_zero, hzl]; exact hup) (by omega) (by simp)
  rw [show ((0 : Nat) : Int) = 0 from rfl, show ats [] = [] from rfl, show ([] : List At).length = 0 from rfl, hzl] at l2
  rw [hsl] at l0 l1
  rw [List.drop_zero, List.drop_zero, List.nil_append] at a3
  rw [← a3]
  rw [hzl] at a1
  have e1 : (ats z).drop k = ats (z.drop k) := by simp [ats, List.map_drop]
  have e2 := ats_append acc (z.drop k)
  have e3 : (ats (z.drop k)).take (l.length - k) = ats (z.drop k) := List.take_of_length_le (by simp; omega)
  have e4 : (acc ++ z.drop k).length = acc.length + (l.length - k) := by rw [List.length_append, List.length_drop, hzl]
  have e5 := ats_take (acc ++ z.drop k)
  rw [e4] at e5
  have hcap : (acc.length + (l.length - k)) * 64 ≤ maxBytes ∧ acc.length + (l.length - k) ≤ 9223372036854775807 := by unfold maxBytes; omega
  have hcap2 : l.length * 64 ≤ maxBytes ∧ l.length ≤ 9223372036854775807 := by unfold maxBytes; omega
  have hcap3 : l.length ≤ maxBytes := by unfold maxBytes; omega
  have hdl : (dats l).length = l.length := dats_len l
  simp (disch := omega) [A_edit_Upon, a1, hsl, d1, d2, d3, d4, d5, c0, l0, l1, l2, hzl, hcap, hcap2, hcap3, e1, e2, e3, e4, e5, dec_yes, dec_no]
end Go.Proofs.Ytihgpnfkadldeaa.AM
