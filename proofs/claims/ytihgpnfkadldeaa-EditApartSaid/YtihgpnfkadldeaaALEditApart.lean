/- The law EditApart on the small machine. No condition. -/
import Derived.Test.YtihgpnfkadldeaaAR23
import Derived.Test.YtihgpnfkadldeaaAT1
namespace Go.Proofs.Ytihgpnfkadldeaa.AM.EApart
set_option linter.unusedSimpArgs false
set_option linter.unusedVariables false
open Go Go.Proofs.Ytihgpnfkadldeaa.U Go.Proofs.Ytihgpnfkadldeaa.AM
variable {cp : List PV → Option Ret}
theorem chain_drop (s : ByteArray) : ∀ (l : List Ch) (k : Int) (i : Nat), Chain s l k → ∃ j, Chain s (l.drop i) j
  | l, k, 0, h => ⟨k, h⟩
  | [], k, i + 1, h => ⟨k, h⟩
  | c :: l, k, i + 1, h => chain_drop s l c.t i h.2.2.2.2
theorem chs_one (l : List Ch) (i : Nat) (h : i < l.length) : ((chs l).drop i).take 1 = chs [l[i]] := by
  rw [List.drop_eq_getElem_cons (by rw [chs_len]; exact h)]
  simp [chs]
set_option maxHeartbeats 2000000 in
theorem apart_loop (s : ByteArray) (l : List Ch) (hs : s.size ≤ 200) (hG : Good18 s l) (hsm : ∀ x ∈ l, x.s.size ≤ 60) : ∀ (i : Nat), i ≤ l.length →
    Code (EX cp) L_law18_EditApart_0 ⟨[(0, .p (.sc (.string s))), (1, .p (.sl 3 (chs l))), (5, .p (.sc (.string (tl18 s (l.drop i))))), (6, .p (pi ((i : Int) - 1)))], []⟩ =
      some (.ex 0, ⟨[(0, .p (.sc (.string s))), (1, .p (.sl 3 (chs l))), (5, .p (.sc (.string (tl18 s l)))), (6, .p (pi (-1))), (28, .p (pb false))], []⟩) := by
  intro i
  induction i with
  | zero =>
    intro hi
    rw [List.drop_zero, L_law18_EditApart_0, k_loop]
    simp (disch := omega) [dec_no]
  | succ i ih =>
    intro hi
    have h1 : i < l.length := by omega
    have hl8 := hG.len
    rw [← ih (by omega)]
    obtain ⟨k, hk⟩ := chain_drop s l 0 i hG.chain
    have hd : l.drop i = l[i] :: l.drop (i + 1) := List.drop_eq_getElem_cons h1
    have hone := chs_one l i h1
    rw [hd] at hk ⊢
    have hmem : ∀ x ∈ l[i] :: l.drop (i + 1), x ∈ l := fun x hx => by rw [← hd] at hx; exact List.mem_of_mem_drop hx
    obtain ⟨q1, q2⟩ := step18 s l[i] (l.drop (i + 1)) k hs (by rw [← hd, List.length_drop]; omega) hk (fun x hx => hG.edg x (hmem x hx)) (fun x hx => hG.txt x (hmem x hx)) (fun x hx => hsm x (hmem x hx)) hG.val
    have hT : (tl18 s (l.drop (i + 1))).size < 1099511627776 := by
      obtain ⟨k2, hk2⟩ := chain_drop s l 0 (i + 1) hG.chain
      have hc0 : Chain s (l.drop (i + 1)) 0 := by
        cases hz : l.drop (i + 1) with
        | nil => exact ⟨by omega, by omega⟩
        | cons b t => rw [hz] at hk2; exact ⟨by omega, by have := hk2.1; have := hk2.2.1; omega, hk2.2.2⟩
      have h2 := doF_len s (l.drop (i + 1)) 0 hc0
      have h5 := sum_le (l.drop (i + 1)) 60 fun x hx => hsm x (List.mem_of_mem_drop hx)
      rw [List.length_drop] at h5
      have : (tl18 s (l.drop (i + 1))).size = (doF s (l.drop (i + 1)) 0).length := by
        have : L (tl18 s (l.drop (i + 1))) = doF s (l.drop (i + 1)) 0 := L_mk _
        rw [← this, L_len]
      omega
    have hcs : ∀ c ∈ [l[i]], c.s.size < 1099511627776 := fun c hc => by
      simp only [List.mem_singleton] at hc
      subst hc
      have := hsm l[i] (List.getElem_mem h1)
      omega
    have p1 := editCheck (cp := cp) (tl18 s (l.drop (i + 1))) [l[i]] hT (by simp) hcs
    have p2 := editDo (cp := cp) (tl18 s (l.drop (i + 1))) [l[i]] hT (by simp) hcs
    rw [q1] at p1
    rw [q2] at p2
    have e0 : ((i + 1 : Nat) : Int) - 1 = (i : Int) := by omega
    have e1 : ((i : Int) + 1).toNat = i + 1 := by omega
    rw [e0]
    generalize tl18 s (l[i] :: l.drop (i + 1)) = T2 at *
    generalize tl18 s (l.drop (i + 1)) = T1 at *
    generalize chs [l[i]] = co at *
    have hcl : (chs l).length = l.length := chs_len l
    rw [L_law18_EditApart_0, k_loop]
    simp (disch := omega) [h1, hone, e1, hcl, p1, p2, dec_yes, dec_no, wrap_in, if_yes, -getElem?_pos]
end Go.Proofs.Ytihgpnfkadldeaa.AM.EApart
namespace Go.Proofs.Ytihgpnfkadldeaa.editApart
set_option linter.unusedSimpArgs false
set_option linter.unusedVariables false
open Go Go.Proofs.Ytihgpnfkadldeaa.U Go.Proofs.Ytihgpnfkadldeaa.AM Go.Proofs.Ytihgpnfkadldeaa.AM.EApart
def shapes : List PSh := [.one (.tx), .one (.sl [.i .i64, .i .i64, .tx])]
set_option maxHeartbeats 4000000 in
theorem law (xs : List PV) (h : WTAs shapes xs) : Run EW 13 xs = some (.val (.sc (.bool true))) := by
  cases h with
  | cons h1 h => cases h with
  | cons h2 h =>
  cases h
  obtain ⟨s, rfl, hs⟩ := wt_str h1
  obtain ⟨l, rfl, hl, hw⟩ := wt_chs h2
  have hk : Run EW 34 [] = some (.val (pb true)) := known18
  have hf : Run EW 35 [.sl 5 [], .sl 3 (chs l)] = some (.val (pb (few18 [] l))) := refFew18 [] l (by simp) hl
  rw [show Run EW 13 [.sc (.string s), .sl 3 (chs l)] = _ from run_fn _ A_law18_EditApart _ rfl rfl rfl, ← show EW = EX cpF from rfl]
  by_cases c0 : s.size ≤ 200
  case neg => simp (disch := omega) [A_law18_EditApart, hk, dec_yes, dec_no]
  by_cases c1 : few18 [] l = true
  case neg =>
    rw [Bool.not_eq_true] at c1
    rw [c1] at hf
    simp (disch := omega) [A_law18_EditApart, hk, hf, c0, dec_yes, dec_no]
  rw [c1] at hf
  have hsm : ∀ c ∈ l, c.s.size ≤ 60 := fun c hc => by
    unfold few18 at c1
    simp only [Bool.and_eq_true, List.all_eq_true] at c1
    have := c1.1.1.2 c hc
    unfold fewC at this
    rw [decide_eq_true_eq] at this
    exact this
  have hc : ∀ c ∈ l, c.s.size < 1099511627776 := fun c hc => by have := hsm c hc; omega
  have d1 : Run EW 36 _ = _ := editCheck (cp := cpF) s l (by omega) hl hc
  by_cases c2 : chk s l = 0
  case neg => simp (disch := omega) [A_law18_EditApart, hk, hf, c0, c2, d1, dec_yes, dec_no]
  have hG := chk_good c2
  have hl8 := hG.len
  have d3 : Run EW 38 _ = _ := editDo (cp := cpF) s l (by omega) hl hc
  have hds : doS s l = tl18 s l := by unfold doS; rw [if_pos c2]; rfl
  rw [hds] at d3
  have hlp := apart_loop (cp := cpF) s l c0 hG hsm l.length (Nat.le_refl _)
  rw [List.drop_length, tl18_nil, show EX cpF = EW from rfl] at hlp
  have hT : L (tl18 s l) = doF s l 0 := L_mk _
  have hsz : (tl18 s l).size < 1099511627776 := by
    have h2 := doF_len s l 0 hG.chain
    have h5 := sum_le l 60 hsm
    rw [← L_len, hT]
    omega
  have hvT : valid (L (tl18 s l)) = true := by
    rw [hT]
    exact valid_doF s l 0 hG.chain hG.edg hG.txt (by rw [show (0 : Int).toNat = 0 from rfl, List.drop_zero]; exact hG.val)
  have d4 : Run EW 47 _ = _ := refValid (cp := cpF) (tl18 s l) hsz
  rw [hvT] at d4
  generalize tl18 s l = T at *
  simp (disch := omega) [A_law18_EditApart, hk, hf, c0, c2, d1, d3, d4, hlp, dec_yes, dec_no, wrap_in]
end Go.Proofs.Ytihgpnfkadldeaa.editApart
