/- edit.Cuts and the reference's on the small machine. For atoms whose texts make less than 2^39 bytes. -/
import Derived.Test.YtihgpnfkadldeaaAR26
namespace Go.Proofs.Ytihgpnfkadldeaa.AM
set_option linter.unusedSimpArgs false
set_option linter.unusedVariables false
open Go Go.Proofs.Ytihgpnfkadldeaa.U
variable {cp : List PV → Option Ret}
/-- Does a change cut what stands at a place? -/
def hitB (n : Int) (x : Ch) : Bool := decide (x.f ≤ n) && decide (n < x.t)
/-- The first of the cuts from the i-th atom on. -/
def cutsI (rev : Int) (u : List Int) (c : List Ch) : List At → List Int → Int → List Int
  | a :: l, n :: ns, i => if a.vis rev u = true ∧ c.any (hitB n) = true then i :: cutsI rev u c l ns (i + 1) else cutsI rev u c l ns (i + 1)
  | _, _, _ => []
theorem cutsI_len (rev : Int) (u : List Int) (c : List Ch) : ∀ (l : List At) (ns : List Int) (i : Int), (cutsI rev u c l ns i).length ≤ l.length
  | [], _, _ => by simp [cutsI]
  | a :: l, [], _ => by simp [cutsI]
  | a :: l, n :: ns, i => by
    rw [cutsI]
    have := cutsI_len rev u c l ns (i + 1)
    split <;> simp <;> omega
set_option maxHeartbeats 1000000 in
theorem ecut0_loop (rev : Int) (u : List Int) (c : List Ch) (ns : List Int) (A : List (List PV)) (nn nl i : Nat) (n : Int) (hi : ns[i]? = some n) (hnn : nn = ns.length) (hb : nl < 1099511627776) (acc : List Int) (hacc : acc.length ≤ 1099511627776) (hc8 : c.length ≤ 8) : ∀ (m j : Nat), m + j = c.length →
    Code (EX cp) L_edit_Cuts_0 ⟨[(1, .p (pi rev)), (2, .p (.sl 1 (ints u))), (3, .p (.sl 3 (chs c))), (9, .ms 9 0 nn), (10, .ms 10 0 acc.length), (11, .p (pi i)), (26, .p (.sl 5 A)), (27, .p (pi nl)), (28, .p (pi i)), (38, .p (.sl 3 (chs c))), (39, .p (pi c.length)), (40, .p (pi j))], [(9, .row 3 1 false (ints ns)), (10, .row 3 1 false (ints acc))]⟩ =
      if (c.drop j).any (hitB n) = true then some (.ex 1, ⟨[(1, .p (pi rev)), (2, .p (.sl 1 (ints u))), (3, .p (.sl 3 (chs c))), (9, .ms 9 0 nn), (10, .ms 10 0 (acc.length + 1)), (26, .p (.sl 5 A)), (27, .p (pi nl)), (28, .p (pi i))], [(9, .row 3 1 false (ints ns)), (10, .row 3 1 false (ints (acc ++ [(i : Int)])))]⟩)
      else some (.ex 2, ⟨[(1, .p (pi rev)), (2, .p (.sl 1 (ints u))), (3, .p (.sl 3 (chs c))), (9, .ms 9 0 nn), (10, .ms 10 0 acc.length), (11, .p (pi i)), (26, .p (.sl 5 A)), (27, .p (pi nl)), (28, .p (pi i)), (38, .p (.sl 3 (chs c))), (39, .p (pi c.length)), (40, .p (pi c.length)), (41, .p (pb false))], [(9, .row 3 1 false (ints ns)), (10, .row 3 1 false (ints acc))]⟩) := by
  have hin : i < ns.length := by
    rcases Nat.lt_or_ge i ns.length with h | h
    · exact h
    · rw [List.getElem?_eq_none h] at hi; simp at hi
  have hgn : (ints ns)[i]? = some [pi n] := by unfold ints; rw [List.getElem?_map, hi]; rfl
  intro m
  induction m with
  | zero =>
    intro j hj
    have : j = c.length := by omega
    subst this
    rw [List.drop_length, List.any_nil, if_neg (by simp), L_edit_Cuts_0, k_loop]
    simp
  | succ m ih =>
    intro j hj
    have h1 : j < c.length := by omega
    have hnl : i < nn := by omega
    have ih' := ih (j+1) (by omega)
    have hg := chs_at c j h1
    rw [List.drop_eq_getElem_cons h1, List.any_cons]
    generalize c[j] = x at *
    have hp : x.pv = [pi x.f, pi x.t, .sc (.string x.s)] := rfl
    rw [hp] at hg
    have hcap : (acc.length + 1) * 8 ≤ maxBytes ∧ acc.length + 1 ≤ 9223372036854775807 := by unfold maxBytes; omega
    rw [show hitB n x = (decide (x.f ≤ n) && decide (n < x.t)) from rfl]
    by_cases c0 : x.f ≤ n
    · by_cases c1 : n < x.t
      · rw [decide_eq_true c0, decide_eq_true c1, L_edit_Cuts_0, k_loop]
        simp (disch := omega) [h1, hnl, hg, hgn, c0, c1, hcap, dec_yes, dec_no, wrap_in, -getElem?_pos]
      · rw [decide_eq_false c1, Bool.and_false, Bool.false_or, ← ih', L_edit_Cuts_0, k_loop]
        simp (disch := omega) [h1, hnl, hg, hgn, c0, c1, dec_yes, dec_no, wrap_in, -getElem?_pos]
    · rw [decide_eq_false c0, Bool.false_and, Bool.false_or, ← ih', L_edit_Cuts_0, k_loop]
      simp (disch := omega) [h1, hnl, hg, hgn, c0, dec_yes, dec_no, wrap_in, -getElem?_pos]
end Go.Proofs.Ytihgpnfkadldeaa.AM
