/- The reference's Cuts, and same, on the small machine. For atoms whose texts make less than 2^39 bytes. -/
import Derived.Test.YtihgpnfkadldeaaAR28
namespace Go.Proofs.Ytihgpnfkadldeaa.AM
set_option linter.unusedSimpArgs false
set_option linter.unusedVariables false
open Go Go.Proofs.Ytihgpnfkadldeaa.U
variable {cp : List PV → Option Ret}
set_option maxHeartbeats 1000000 in
theorem rcut0_loop (rev : Int) (u : List Int) (c : List Ch) (ns : List Int) (A : List (List PV)) (nn i : Nat) (n : Int) (hi : ns[i]? = some n) (hnn : nn = ns.length) (hc8 : c.length ≤ 8) : ∀ (m j : Nat) (acc : List Int), m + j = c.length → acc.length ≤ 10995116277760 + j →
    Code (EX cp) L_ref17_Cuts_0 ⟨[(0, .p (.sl 5 A)), (1, .p (pi rev)), (2, .p (.sl 1 (ints u))), (3, .p (.sl 3 (chs c))), (9, .ms 9 0 acc.length), (10, .ms 10 0 nn), (11, .p (pi i)), (12, .p (pi j))], [(9, .row 3 1 false (ints acc)), (10, .row 3 1 false (ints ns))]⟩ =
      some (.ex 2, ⟨[(0, .p (.sl 5 A)), (1, .p (pi rev)), (2, .p (.sl 1 (ints u))), (3, .p (.sl 3 (chs c))), (9, .ms 9 0 (acc ++ ((c.drop j).filter (hitB n)).map fun _ => (i : Int)).length), (10, .ms 10 0 nn), (11, .p (pi i)), (12, .p (pi c.length)), (42, .p (pb false))], [(9, .row 3 1 false (ints (acc ++ ((c.drop j).filter (hitB n)).map fun _ => (i : Int)))), (10, .row 3 1 false (ints ns))]⟩) := by
  have hin : i < ns.length := by
    rcases Nat.lt_or_ge i ns.length with h | h
    · exact h
    · rw [List.getElem?_eq_none h] at hi; simp at hi
  have hgn : (ints ns)[i]? = some [pi n] := by unfold ints; rw [List.getElem?_map, hi]; rfl
  intro m
  induction m with
  | zero =>
    intro j acc hj ha
    have : j = c.length := by omega
    subst this
    rw [List.drop_length, List.filter_nil, List.map_nil, List.append_nil, L_ref17_Cuts_0, k_loop]
    simp
  | succ m ih =>
    intro j acc hj ha
    have h1 : j < c.length := by omega
    have hnl : i < nn := by omega
    have i1 := ih (j+1) acc (by omega) (by omega)
    have i2 := ih (j+1) (acc ++ [(i : Int)]) (by omega) (by simp; omega)
    have hal : (acc ++ [(i : Int)]).length = acc.length + 1 := by simp
    rw [hal] at i2
    have hg := chs_at c j h1
    rw [List.drop_eq_getElem_cons h1, List.filter_cons]
    generalize c[j] = x at *
    have hp : x.pv = [pi x.f, pi x.t, .sc (.string x.s)] := rfl
    rw [hp] at hg
    have hcap : (acc.length + 1) * 8 ≤ maxBytes ∧ acc.length + 1 ≤ 9223372036854775807 := by unfold maxBytes; omega
    rw [show hitB n x = (decide (x.f ≤ n) && decide (n < x.t)) from rfl]
    by_cases c0 : x.f ≤ n
    · by_cases c1 : n < x.t
      · have e2 : acc ++ List.map (fun _ => (i : Int)) (x :: (c.drop (j + 1)).filter (hitB n)) = acc ++ [(i : Int)] ++ List.map (fun _ => (i : Int)) ((c.drop (j + 1)).filter (hitB n)) := by simp
        rw [decide_eq_true c0, decide_eq_true c1, Bool.true_and, if_pos rfl, e2, ← i2, L_ref17_Cuts_0, k_loop]
        simp (disch := omega) [h1, hnl, hg, hgn, c0, c1, hcap, dec_yes, dec_no, wrap_in, -getElem?_pos]
      · rw [decide_eq_false c1, Bool.and_false, if_neg (by simp), ← i1, L_ref17_Cuts_0, k_loop]
        simp (disch := omega) [h1, hnl, hg, hgn, c0, c1, dec_yes, dec_no, wrap_in, -getElem?_pos]
    · rw [decide_eq_false c0, Bool.false_and, if_neg (by simp), ← i1, L_ref17_Cuts_0, k_loop]
      simp (disch := omega) [h1, hnl, hg, hgn, c0, dec_yes, dec_no, wrap_in, -getElem?_pos]
theorem chain_ge (s : ByteArray) : ∀ (c : List Ch) (k : Int), Chain s c k → ∀ x ∈ c, k ≤ x.f
  | [], _, _, _, h => by simp at h
  | a :: c, k, hch, x, hx => by
    obtain ⟨h0, h1, h2, h3, h4⟩ := hch
    rcases List.mem_cons.1 hx with rfl | hx
    · exact h1
    · have := chain_ge s c a.t h4 x hx
      omega
/-- One change at most cuts what stands at a place. -/
theorem hit_one (s : ByteArray) (n i : Int) : ∀ (c : List Ch) (k : Int), Chain s c k → (c.filter (hitB n)).map (fun _ => i) = if c.any (hitB n) = true then [i] else []
  | [], _, _ => by simp
  | a :: c, k, hch => by
    have h4 := hch.2.2.2.2
    rw [List.filter_cons, List.any_cons]
    by_cases hb : hitB n a = true
    · have hno : c.filter (hitB n) = [] := by
        rw [List.filter_eq_nil_iff]
        intro x hx
        have := chain_ge s c a.t h4 x hx
        unfold hitB at hb ⊢
        simp only [Bool.and_eq_true, decide_eq_true_eq] at hb ⊢
        omega
      rw [if_pos hb, hb, Bool.true_or, if_pos rfl, List.map_cons, hno]
      rfl
    · rw [if_neg hb, hit_one s n i c a.t h4]
      rw [Bool.not_eq_true] at hb
      rw [hb, Bool.false_or]
set_option maxHeartbeats 2000000 in
theorem rcut1_loop (l : List At) (ns : List Int) (rev : Int) (u : List Int) (c : List Ch) (s : ByteArray) (hch : Chain s c 0) (hn : ns.length = l.length + 1) (hl : l.length < 1099511627776) (hu : u.length ≤ 9223372036854775807) (hc : ∀ a ∈ l, a.cuts.length ≤ 9223372036854775807) (hc8 : c.length ≤ 8) : ∀ (m i : Nat) (acc : List Int), m + i = l.length → acc.length ≤ i →
    Code (EX cp) L_ref17_Cuts_1 ⟨[(0, .p (.sl 5 (ats l))), (1, .p (pi rev)), (2, .p (.sl 1 (ints u))), (3, .p (.sl 3 (chs c))), (9, .ms 9 0 acc.length), (10, .ms 10 0 (l.length + 1)), (11, .p (pi i))], [(9, .row 3 1 false (ints acc)), (10, .row 3 1 false (ints ns))]⟩ =
      some (.ex 0, ⟨[(0, .p (.sl 5 (ats l))), (1, .p (pi rev)), (2, .p (.sl 1 (ints u))), (3, .p (.sl 3 (chs c))), (9, .ms 9 0 (acc ++ cutsI rev u c (l.drop i) (ns.drop i) i).length), (10, .ms 10 0 (l.length + 1)), (11, .p (pi l.length)), (28, .p (pb false))], [(9, .row 3 1 false (ints (acc ++ cutsI rev u c (l.drop i) (ns.drop i) i))), (10, .row 3 1 false (ints ns))]⟩) := by
  intro m
  induction m with
  | zero =>
    intro i acc hi ha
    have : i = l.length := by omega
    subst this
    rw [List.drop_length, cutsI, List.append_nil, L_ref17_Cuts_1, k_loop]
    · simp
    · intro _ _ _ _ h _; simp at h
  | succ m ih =>
    intro i acc hi ha
    have h1 : i < l.length := by omega
    have h2 : i < ns.length := by omega
    have hg := ats_at l i h1
    have c1 := refVisible (cp := cp) l[i] rev u hu (hc _ (List.getElem_mem h1))
    have hi2 : ns[i]? = some ns[i] := List.getElem?_eq_getElem h2
    have l0 := rcut0_loop (cp := cp) rev u c ns (ats l) (l.length + 1) i ns[i] hi2 (by omega) hc8 c.length 0 acc (by omega) (by omega)
    rw [List.drop_zero, show ((0 : Nat) : Int) = 0 from rfl, hit_one s ns[i] i c 0 hch] at l0
    have i1 := ih (i+1) acc (by omega) (by omega)
    have i2 := ih (i+1) (acc ++ [(i : Int)]) (by omega) (by simp; omega)
    have hal : (acc ++ [(i : Int)]).length = acc.length + 1 := by simp
    rw [hal] at i2
    rw [List.drop_eq_getElem_cons h1, List.drop_eq_getElem_cons h2, cutsI]
    generalize ns[i] = n at *
    generalize l[i].vis rev u = b at *
    have hp : l[i].pv = [.sc (.string l[i].txt), pi l[i].rv, pi l[i].gr, pi l[i].rk, .sl 2 (cutsL l[i].cuts)] := rfl
    rw [hp] at hg c1
    have e1 : ((i + 1 : Nat) : Int) = (i : Int) + 1 := rfl
    cases b
    · rw [if_neg (by simp), ← e1, ← i1, L_ref17_Cuts_1, k_loop]
      simp (disch := omega) [h1, hg, c1, dec_yes, dec_no, wrap_in, -getElem?_pos]
    · by_cases hb : c.any (hitB n) = true
      · rw [if_pos hb, hal] at l0
        have e2 : acc ++ (i : Int) :: cutsI rev u c (l.drop (i + 1)) (ns.drop (i + 1)) ((i : Int) + 1) = acc ++ [(i : Int)] ++ cutsI rev u c (l.drop (i + 1)) (ns.drop (i + 1)) ((i : Int) + 1) := by simp
        rw [if_pos ⟨rfl, hb⟩, e2, ← e1, ← i2, L_ref17_Cuts_1, k_loop]
        simp (disch := omega) [h1, hg, c1, l0, dec_yes, dec_no, wrap_in, -getElem?_pos]
      · rw [if_neg hb, List.append_nil] at l0
        rw [if_neg (fun h => hb h.2), ← e1, ← i1, L_ref17_Cuts_1, k_loop]
        simp (disch := omega) [h1, hg, c1, l0, dec_yes, dec_no, wrap_in, -getElem?_pos]
set_option maxHeartbeats 1000000 in
theorem refCuts (l : List At) (rev : Int) (u : List Int) (c : List Ch) (hf : Fit2 l) (hu : u.length ≤ 9223372036854775807) (hcl : c.length ≤ 9223372036854775807) (hcs : ∀ x ∈ c, x.s.size < 1099511627776) :
    Run (EX cp) 45 [.sl 5 (ats l), pi rev, .sl 1 (ints u), .sl 3 (chs c)] = some (.own 3 1 (ints (cutsF l rev u c))) := by
  have hl := hf.fit.len
  have d1 := refText (cp := cp) l rev u hf.fit hu
  have d2 := refCheck (cp := cp) (txtS rev u l) c (hf.txt rev u) hcl hcs
  have d3 := refPlaces (cp := cp) l rev u hf.fit hu
  have hc2 : ∀ a ∈ l, a.cuts.length ≤ 9223372036854775807 := fun a ha => by have := hf.fit.cuts a ha; omega
  have hpl := places_len rev u l
  rw [run_fn _ A_ref17_Cuts _ rfl rfl rfl]
  unfold cutsF
  by_cases c0 : chk (txtS rev u l) c = 0
  · have h8 := (chk_good c0).len
    have h := rcut1_loop (cp := cp) l (places rev u l) rev u c (txtS rev u l) (chk_good c0).chain hpl hl hu hc2 h8 l.length 0 [] (by omega) (by simp)
    rw [List.drop_zero, List.drop_zero, List.nil_append, show ((0 : Nat) : Int) = 0 from rfl, show ints [] = [] from rfl, show ([] : List Int).length = 0 from rfl] at h
    rw [if_pos c0]
    rw [c0] at d2
    generalize cutsI rev u c l (places rev u l) 0 = o at *
    have ho : (ints o).take o.length = ints o := List.take_of_length_le (by simp [ints])
    simp (disch := omega) [A_ref17_Cuts, d1, d2, d3, hpl, h, ho, dec_yes, dec_no]
  · rw [if_neg c0]
    simp (disch := omega) [A_ref17_Cuts, d1, d2, c0, dec_yes, dec_no]
theorem same18_loop (a : List Int) (ha : a.length ≤ 9223372036854775807) : ∀ (m i : Nat), m + i = a.length →
    Code (EX cp) L_law18_same_0 ⟨[(0, .p (.sl 1 (ints a))), (1, .p (.sl 1 (ints a))), (5, .p (pi i))], []⟩ =
      some (.ex 0, ⟨[(0, .p (.sl 1 (ints a))), (1, .p (.sl 1 (ints a))), (5, .p (pi a.length)), (14, .p (pb false))], []⟩) := by
  intro m
  induction m with
  | zero =>
    intro i hi
    have : i = a.length := by omega
    subst this
    rw [L_law18_same_0, k_loop]
    simp
  | succ m ih =>
    intro i hi
    have h1 : i < a.length := by omega
    have hg := ints_at a i h1
    rw [← ih (i+1) (by omega), L_law18_same_0, k_loop]
    generalize a[i] = x at *
    simp (disch := omega) [h1, hg, dec_yes, dec_no, wrap_in, -getElem?_pos]
theorem same18 (a : List Int) (ha : a.length ≤ 9223372036854775807) : Run (EX cp) 43 [.sl 1 (ints a), .sl 1 (ints a)] = some (.val (pb true)) := by
  have h := same18_loop (cp := cp) a ha a.length 0 (by omega)
  rw [show ((0 : Nat) : Int) = 0 from rfl] at h
  rw [run_fn _ A_law18_same _ rfl rfl rfl]
  simp (disch := omega) [A_law18_same, h]
end Go.Proofs.Ytihgpnfkadldeaa.AM
