/- edit.Cuts on the small machine. For atoms whose texts make less than 2^39 bytes. -/
import Derived.Test.YtihgpnfkadldeaaAR27
namespace Go.Proofs.Ytihgpnfkadldeaa.AM
set_option linter.unusedSimpArgs false
set_option linter.unusedVariables false
open Go Go.Proofs.Ytihgpnfkadldeaa.U
variable {cp : List PV → Option Ret}
set_option maxHeartbeats 2000000 in
theorem ecut1_loop (l : List At) (ns : List Int) (rev : Int) (u : List Int) (c : List Ch) (hn : ns.length = l.length + 1) (hl : l.length < 1099511627776) (hu : u.length ≤ 9223372036854775807) (hc : ∀ a ∈ l, a.cuts.length ≤ 9223372036854775807) (hc8 : c.length ≤ 8) : ∀ (m i : Nat) (acc : List Int), m + i = l.length → acc.length ≤ i →
    Code (EX cp) L_edit_Cuts_1 ⟨[(1, .p (pi rev)), (2, .p (.sl 1 (ints u))), (3, .p (.sl 3 (chs c))), (9, .ms 9 0 (l.length + 1)), (10, .ms 10 0 acc.length), (26, .p (.sl 5 (ats l))), (27, .p (pi l.length)), (28, .p (pi i))], [(9, .row 3 1 false (ints ns)), (10, .row 3 1 false (ints acc))]⟩ =
      some (.ex 0, ⟨[(1, .p (pi rev)), (2, .p (.sl 1 (ints u))), (3, .p (.sl 3 (chs c))), (9, .ms 9 0 (l.length + 1)), (10, .ms 10 0 (acc ++ cutsI rev u c (l.drop i) (ns.drop i) i).length), (26, .p (.sl 5 (ats l))), (27, .p (pi l.length)), (28, .p (pi l.length)), (29, .p (pb false))], [(9, .row 3 1 false (ints ns)), (10, .row 3 1 false (ints (acc ++ cutsI rev u c (l.drop i) (ns.drop i) i)))]⟩) := by
  intro m
  induction m with
  | zero =>
    intro i acc hi ha
    have : i = l.length := by omega
    subst this
    rw [List.drop_length, cutsI, List.append_nil, L_edit_Cuts_1, k_loop]
    · simp
    · intro _ _ _ _ h _; simp at h
  | succ m ih =>
    intro i acc hi ha
    have h1 : i < l.length := by omega
    have h2 : i < ns.length := by omega
    have hg := ats_at l i h1
    have c1 := visible (cp := cp) l[i] rev u hu (hc _ (List.getElem_mem h1))
    have hi2 : ns[i]? = some ns[i] := List.getElem?_eq_getElem h2
    have l0 := ecut0_loop (cp := cp) rev u c ns (ats l) (l.length + 1) l.length i ns[i] hi2 (by omega) hl acc (by omega) hc8 c.length 0 (by omega)
    rw [List.drop_zero, show ((0 : Nat) : Int) = 0 from rfl] at l0
    have i1 := ih (i+1) acc (by omega) (by omega)
    have i2 := ih (i+1) (acc ++ [(i : Int)]) (by omega) (by simp; omega)
    have hal : (acc ++ [(i : Int)]).length = acc.length + 1 := by simp
    rw [hal] at i2
    rw [List.drop_eq_getElem_cons h1, List.drop_eq_getElem_cons h2, cutsI]
    generalize ns[i] = n at *
    generalize l[i].vis rev u = b at *
    have hp : l[i].pv = [.sc (.string l[i].txt), pi l[i].rv, pi l[i].gr, pi l[i].rk, .sl 2 (cutsL l[i].cuts)] := rfl
    rw [hp] at hg c1
    have e1 : ((i + 1 : Nat) : Int) = (i : Int) + 1 := rfl
    cases b
    · rw [if_neg (by simp), ← e1, ← i1, L_edit_Cuts_1, k_loop]
      simp (disch := omega) [h1, hg, c1, dec_yes, dec_no, wrap_in, -getElem?_pos]
    · by_cases hb : c.any (hitB n) = true
      · rw [if_pos hb] at l0
        have e2 : acc ++ (i : Int) :: cutsI rev u c (l.drop (i + 1)) (ns.drop (i + 1)) ((i : Int) + 1) = acc ++ [(i : Int)] ++ cutsI rev u c (l.drop (i + 1)) (ns.drop (i + 1)) ((i : Int) + 1) := by simp
        rw [if_pos ⟨rfl, hb⟩, e2, ← e1, ← i2, L_edit_Cuts_1, k_loop]
        simp (disch := omega) [h1, hg, c1, l0, dec_yes, dec_no, wrap_in, -getElem?_pos]
      · rw [if_neg hb] at l0
        rw [if_neg (fun h => hb h.2), ← e1, ← i1, L_edit_Cuts_1, k_loop]
        simp (disch := omega) [h1, hg, c1, l0, dec_yes, dec_no, wrap_in, -getElem?_pos]
/-- What Cuts gives. -/
def cutsF (l : List At) (rev : Int) (u : List Int) (c : List Ch) : List Int := if chk (txtS rev u l) c = 0 then cutsI rev u c l (places rev u l) 0 else []
set_option maxHeartbeats 1000000 in
theorem editCuts (l : List At) (rev : Int) (u : List Int) (c : List Ch) (hf : Fit2 l) (hu : u.length ≤ 9223372036854775807) (hcl : c.length ≤ 9223372036854775807) (hcs : ∀ x ∈ c, x.s.size < 1099511627776) :
    Run (EX cp) 41 [.sl 5 (ats l), pi rev, .sl 1 (ints u), .sl 3 (chs c)] = some (.own 3 1 (ints (cutsF l rev u c))) := by
  have hl := hf.fit.len
  have d1 := atomText (cp := cp) l rev u hf.fit hu
  have d2 := editCheck (cp := cp) (txtS rev u l) c (hf.txt rev u) hcl hcs
  have d3 := atomPlaces (cp := cp) l rev u hf.fit hu
  have hc2 : ∀ a ∈ l, a.cuts.length ≤ 9223372036854775807 := fun a ha => by have := hf.fit.cuts a ha; omega
  have hpl := places_len rev u l
  rw [run_fn _ A_edit_Cuts _ rfl rfl rfl]
  unfold cutsF
  by_cases c0 : chk (txtS rev u l) c = 0
  · have h8 := (chk_good c0).len
    have h := ecut1_loop (cp := cp) l (places rev u l) rev u c hpl hl hu hc2 h8 l.length 0 [] (by omega) (by simp)
    rw [List.drop_zero, List.drop_zero, List.nil_append, show ((0 : Nat) : Int) = 0 from rfl, show ints [] = [] from rfl, show ([] : List Int).length = 0 from rfl] at h
    rw [if_pos c0]
    rw [c0] at d2
    generalize cutsI rev u c l (places rev u l) 0 = o at *
    have ho : (ints o).take o.length = ints o := List.take_of_length_le (by simp [ints])
    simp (disch := omega) [A_edit_Cuts, d1, d2, d3, hpl, h, ho, dec_yes, dec_no]
  · rw [if_neg c0]
    simp (disch := omega) [A_edit_Cuts, d1, d2, c0, dec_yes, dec_no]
end Go.Proofs.Ytihgpnfkadldeaa.AM
