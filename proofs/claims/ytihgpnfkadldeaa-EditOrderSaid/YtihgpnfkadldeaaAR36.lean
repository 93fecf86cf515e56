/- The reference's Upon on the small machine makes what edit.Upon makes. For fewer than a million atoms, of fewer than a million cuts, texts of fewer than a million bytes. -/
import Derived.Test.YtihgpnfkadldeaaAR35
namespace Go.Proofs.Ytihgpnfkadldeaa.AM
set_option linter.unusedSimpArgs false
set_option linter.unusedVariables false
open Go Go.Proofs.Ytihgpnfkadldeaa.U
/-- A row of atoms, handed back. -/
def IsAts (r : Ret) (o : List At) : Prop := r = .own 31 5 (ats o) ∨ r = .val (.sl 5 (ats o))
theorem cutIs_mem (now gr : Int) : ∀ (is : List Int) (l : List At) (M : Nat), (∀ a ∈ l, a.cuts.length < M) → ∀ a ∈ cutIs now gr is l, a.cuts.length < M + is.length
  | [], l, M, h => h
  | i :: is, l, M, h => by
    intro a ha
    have := cutIs_mem now gr is (cutI now gr l i) (M + 1) (cutI_mem now gr l i M h) a ha
    rw [List.length_cons]; omega
theorem uponF_eq (l : List At) (rev : Int) (u : List Int) (c : List Ch) (now gr rk : Int) : uponF l rev u c now gr rk = mrg now gr rk (cutIs now gr (cutsF l rev u c) l) (spotsF l rev u c rk) c 0 := by
  unfold uponF
  by_cases c0 : chk (txtS rev u l) c = 0
  · rw [if_pos c0, cutU_eq]
  · rw [if_neg c0]
    unfold cutsF spotsF
    rw [if_neg c0, if_neg c0]
    cases c <;> rfl
set_option maxHeartbeats 8000000 in
theorem refUpon (l : List At) (rev : Int) (u : List Int) (c : List Ch) (now gr rk : Int) (hf : Fit2 l) (hl : l.length < 1000000) (hlc : ∀ a ∈ l, a.cuts.length < 1000000) (hu : u.length ≤ 9223372036854775807) (hcl : c.length ≤ 9223372036854775807) (hcs : ∀ x ∈ c, x.s.size < 1000000) :
    ∃ r, Run (EX cpF) 46 [.sl 5 (ats l), pi rev, .sl 1 (ints u), .sl 3 (chs c), pi now, pi gr, pi rk] = some r ∧ IsAts r (uponF l rev u c now gr rk) := by
  have hcs2 : ∀ x ∈ c, x.s.size < 1099511627776 := fun x hx => by have := hcs x hx; omega
  have d1 := refCuts (cp := cpF) l rev u c hf hu hcl hcs2
  have d2 := refSpots (cp := cpF) l rev u c rk hf hu hcl hcs2
  have d3 := refCopy l (by omega) (fun a ha => by have := hlc a ha; omega)
  have hcm := cutsF_mem l rev u c
  have hcn : (cutsF l rev u c).length ≤ l.length := by
    unfold cutsF
    split
    · exact cutsI_len rev u c l _ 0
    · simp
  have hsp : spotsF l rev u c rk = [] ∨ (spotsF l rev u c rk).length = c.length := by
    unfold spotsF
    split
    · right; rw [List.length_map]
    · left; rfl
  have h8 : (spotsF l rev u c rk).length ≤ 8 := by
    unfold spotsF
    split
    · rename_i c0
      rw [List.length_map]; exact (chk_good c0).len
    · simp
  have hup : Up l.length (spotsF l rev u c rk) 0 := by
    by_cases c0 : chk (txtS rev u l) c = 0
    · exact up_spotsF l rev u c rk c0
    · unfold spotsF; rw [if_neg c0]; exact Nat.zero_le _
  rw [uponF_eq]
  have hzl := cutIs_len now gr (cutsF l rev u c) l
  have hzc := cutIs_mem now gr (cutsF l rev u c) l 1000000 hlc
  generalize spotsF l rev u c rk = sp at *
  generalize cutsF l rev u c = cu at *
  have l0 := ruc_loop (chs c) now gr rk sp.length sp cu l.length hl hcn hcm cu.length 0 l (by omega) rfl (by simpa using hlc)
  rw [List.drop_zero, show ((0 : Nat) : Int) = 0 from rfl] at l0
  generalize cutIs now gr cu l = z at *
  rw [← hzl] at hup
  obtain ⟨r', j1, l1⟩ := rum_loop now gr rk z c sp hsp (by omega) (fun a ha => by have := hzc a ha; omega) h8 hcs hup sp.length (some true) z (Nat.le_refl _) (by rw [List.drop_length, show ∀ c, mrg now gr rk z [] c 0 = z.drop 0 from fun c => by cases c <;> rfl, List.drop_zero]) (fun h => by simp at h) (by omega) (fun a ha => by have := hzc a ha; omega)
  have hs0 : s17 (some true) z = .ms 17 0 l.length := by rw [← hzl]; rfl
  have hh0 : h17 (some true) z = [(17, .row 31 5 true (ats z))] := rfl
  rw [hs0, hh0] at l1
  generalize mrg now gr rk z sp c 0 = o at *
  have ht := ats_take o
  have hdl : (dats l).length = l.length := dats_len l
  rw [run_fn _ A_ref17_Upon _ rfl rfl rfl]
  cases r' with
  | none =>
    rw [j1 rfl] at l1 ⊢
    refine ⟨_, ?_, Or.inr rfl⟩
    rw [show s17 none [] = .p (.sl 5 []) from rfl, show h17 none [] = [] from rfl] at l1
    simp (disch := omega) [A_ref17_Upon, d1, d2, d3, l0, l1, hzl, hdl, dec_yes, dec_no, wrap_in]
  | some f =>
    rw [show s17 (some f) o = .ms 17 0 o.length from rfl, show h17 (some f) o = [(17, .row 31 5 f (ats o))] from rfl] at l1
    cases f
    · refine ⟨_, ?_, Or.inl rfl⟩
      simp (disch := omega) [A_ref17_Upon, d1, d2, d3, l0, l1, hzl, hdl, ht, dec_yes, dec_no, wrap_in]
    · refine ⟨_, ?_, Or.inr rfl⟩
      simp (disch := omega) [A_ref17_Upon, d1, d2, d3, l0, l1, hzl, hdl, ht, dec_yes, dec_no, wrap_in]
end Go.Proofs.Ytihgpnfkadldeaa.AM
