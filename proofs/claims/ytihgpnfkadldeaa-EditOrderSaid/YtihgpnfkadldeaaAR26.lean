/- The reference's Spots on the small machine. For atoms whose texts make less than 2^39 bytes. -/
import Derived.Test.YtihgpnfkadldeaaAR25
namespace Go.Proofs.Ytihgpnfkadldeaa.AM
set_option linter.unusedSimpArgs false
set_option linter.unusedVariables false
open Go Go.Proofs.Ytihgpnfkadldeaa.U
variable {cp : List PV → Option Ret}
set_option maxHeartbeats 1000000 in
theorem rspot0_loop (l : List At) (ns : List Int) (rev : Int) (u : List Int) (rank : Int) (c : List Ch) (fr : Int) (k : Nat) (hk : ∃ x, c[k]? = some x ∧ x.f = fr) (acc : List Int) (hn : ns.length = l.length + 1) (hl : l.length < 1099511627776) (hu : u.length ≤ 9223372036854775807) (hc : ∀ a ∈ l, a.cuts.length ≤ 9223372036854775807) : ∀ (m i : Nat), m + i = l.length →
    Code (EX cp) L_ref17_Spots_0 ⟨[(0, .p (.sl 5 (ats l))), (1, .p (pi rev)), (2, .p (.sl 1 (ints u))), (3, .p (.sl 3 (chs c))), (4, .p (pi rank)), (11, .ms 11 0 acc.length), (12, .ms 12 0 (l.length + 1)), (13, .p (pi k)), (14, .p (pi (atI rev u fr l ns i))), (15, .p (pi i))], [(11, .row 3 1 false (ints acc)), (12, .row 3 1 false (ints ns))]⟩ =
      some (.ex 2, ⟨[(0, .p (.sl 5 (ats l))), (1, .p (pi rev)), (2, .p (.sl 1 (ints u))), (3, .p (.sl 3 (chs c))), (4, .p (pi rank)), (11, .ms 11 0 acc.length), (12, .ms 12 0 (l.length + 1)), (13, .p (pi k)), (14, .p (pi (atI rev u fr l ns l.length))), (15, .p (pi l.length)), (37, .p (pb false))], [(11, .row 3 1 false (ints acc)), (12, .row 3 1 false (ints ns))]⟩) := by
  obtain ⟨x, hx, rfl⟩ := hk
  have hgx : (chs c)[k]? = some [pi x.f, pi x.t, .sc (.string x.s)] := by unfold chs; rw [List.getElem?_map, hx]; rfl
  intro m
  induction m with
  | zero =>
    intro i hi
    have : i = l.length := by omega
    subst this
    rw [L_ref17_Spots_0, k_loop]
    simp
  | succ m ih =>
    intro i hi
    have h1 : i < l.length := by omega
    have ih' := ih (i+1) (by omega)
    have hg := ats_at l i h1
    have hgn := ints_at ns i (by omega)
    have h1' : i < l.length + 1 := by omega
    have c1 := refVisible (cp := cp) l[i] rev u hu (hc _ (List.getElem_mem h1))
    have hok : okAt rev u x.f l ns i = (decide (ns[i]'(by omega) < x.f) && l[i].vis rev u) := by
      unfold okAt
      rw [List.getElem?_eq_getElem (show i < ns.length by omega), List.getElem?_eq_getElem h1]
    rw [atI, hok] at ih'
    generalize ns[i]'(by omega) = n at *
    generalize l[i].vis rev u = b at *
    have hp : l[i].pv = [.sc (.string l[i].txt), pi l[i].rv, pi l[i].gr, pi l[i].rk, .sl 2 (cutsL l[i].cuts)] := rfl
    rw [hp] at hg c1
    generalize atI rev u x.f l ns i = kk at *
    cases b
    · simp only [Bool.and_false, Bool.false_eq_true, if_false] at ih'
      rw [← ih', L_ref17_Spots_0, k_loop]
      simp (disch := omega) [h1, h1', hg, hgn, hgx, c1, dec_yes, dec_no, wrap_in, -getElem?_pos]
    · by_cases cn : n < x.f
      · rw [decide_eq_true cn] at ih'
        simp only [Bool.and_true, if_true] at ih'
        rw [← ih', L_ref17_Spots_0, k_loop]
        simp (disch := omega) [h1, h1', hg, hgn, hgx, c1, cn, dec_yes, dec_no, wrap_in, -getElem?_pos]
      · rw [decide_eq_false cn] at ih'
        simp only [Bool.false_and, Bool.false_eq_true, if_false] at ih'
        rw [← ih', L_ref17_Spots_0, k_loop]
        simp (disch := omega) [h1, h1', hg, hgn, hgx, c1, cn, dec_yes, dec_no, wrap_in, -getElem?_pos]
theorem rspot1_loop (l : List At) (ns : List Int) (rev : Int) (u : List Int) (rank : Int) (c : List Ch) (k : Nat) (acc : List Int) (nn : Nat) (hl : l.length < 1099511627776) : ∀ (m i : Nat), m + i = l.length →
    Code (EX cp) L_ref17_Spots_1 ⟨[(0, .p (.sl 5 (ats l))), (1, .p (pi rev)), (2, .p (.sl 1 (ints u))), (3, .p (.sl 3 (chs c))), (4, .p (pi rank)), (11, .ms 11 0 acc.length), (12, .ms 12 0 nn), (13, .p (pi k)), (14, .p (pi i))], [(11, .row 3 1 false (ints acc)), (12, .row 3 1 false (ints ns))]⟩ =
      some (.ex 4, ⟨[(0, .p (.sl 5 (ats l))), (1, .p (pi rev)), (2, .p (.sl 1 (ints u))), (3, .p (.sl 3 (chs c))), (4, .p (pi rank)), (11, .ms 11 0 acc.length), (12, .ms 12 0 nn), (13, .p (pi k)), (14, .p (pi ((i + skN rev rank (l.drop i) : Nat) : Int))), (82, .p (pb false))], [(11, .row 3 1 false (ints acc)), (12, .row 3 1 false (ints ns))]⟩) := by
  intro m
  induction m with
  | zero =>
    intro i hi
    have : i = l.length := by omega
    subst this
    rw [List.drop_length, skN, Nat.add_zero, L_ref17_Spots_1, k_loop]
    simp
  | succ m ih =>
    intro i hi
    have h1 : i < l.length := by omega
    have ih' := ih (i+1) (by omega)
    have hg := ats_at l i h1
    rw [List.drop_eq_getElem_cons h1, skN]
    generalize l[i] = a at *
    have hp : a.pv = [.sc (.string a.txt), pi a.rv, pi a.gr, pi a.rk, .sl 2 (cutsL a.cuts)] := rfl
    rw [hp] at hg
    by_cases c0 : rev < a.rv
    · by_cases c1 : a.rk ≤ rank
      · rw [if_pos ⟨c0, c1⟩, show i + (skN rev rank (l.drop (i + 1)) + 1) = i + 1 + skN rev rank (l.drop (i + 1)) by omega, ← ih', L_ref17_Spots_1, k_loop]
        simp (disch := omega) [h1, hg, c0, c1, dec_yes, dec_no, wrap_in, -getElem?_pos]
      · rw [if_neg (fun h => c1 h.2), Nat.add_zero, L_ref17_Spots_1, k_loop]
        simp (disch := omega) [h1, hg, c0, c1, dec_yes, dec_no, wrap_in, -getElem?_pos]
    · rw [if_neg (fun h => c0 h.1), Nat.add_zero, L_ref17_Spots_1, k_loop]
      simp (disch := omega) [h1, hg, c0, dec_yes, dec_no, wrap_in, -getElem?_pos]
set_option maxHeartbeats 2000000 in
theorem rspots_loop (l : List At) (ns : List Int) (rev : Int) (u : List Int) (rank : Int) (c : List Ch) (hn : ns.length = l.length + 1) (hl : l.length < 1099511627776) (hu : u.length ≤ 9223372036854775807) (hc : ∀ a ∈ l, a.cuts.length ≤ 9223372036854775807) (hc8 : c.length ≤ 8) : ∀ (m i : Nat) (acc : List Int), m + i = c.length → acc.length = i →
    Code (EX cp) L_ref17_Spots_2 ⟨[(0, .p (.sl 5 (ats l))), (1, .p (pi rev)), (2, .p (.sl 1 (ints u))), (3, .p (.sl 3 (chs c))), (4, .p (pi rank)), (11, .ms 11 0 acc.length), (12, .ms 12 0 (l.length + 1)), (13, .p (pi i))], [(11, .row 3 1 false (ints acc)), (12, .row 3 1 false (ints ns))]⟩ =
      some (.ex 0, ⟨[(0, .p (.sl 5 (ats l))), (1, .p (pi rev)), (2, .p (.sl 1 (ints u))), (3, .p (.sl 3 (chs c))), (4, .p (pi rank)), (11, .ms 11 0 c.length), (12, .ms 12 0 (l.length + 1)), (13, .p (pi c.length)), (31, .p (pb false))], [(11, .row 3 1 false (ints (acc ++ (c.drop i).map fun x => (spotF rev u rank l ns x.f : Int)))), (12, .row 3 1 false (ints ns))]⟩) := by
  intro m
  induction m with
  | zero =>
    intro i acc hi ha
    have : i = c.length := by omega
    subst this
    rw [List.drop_length, List.map_nil, List.append_nil, ha, L_ref17_Spots_2, k_loop]
    simp
  | succ m ih =>
    intro i acc hi ha
    have h1 : i < c.length := by omega
    have hgx : c[i]? = some c[i] := List.getElem?_eq_getElem h1
    have l0 := rspot0_loop (cp := cp) l ns rev u rank c c[i].f i ⟨_, hgx, rfl⟩ acc hn hl hu hc l.length 0 (by omega)
    rw [atI, show ((0 : Nat) : Int) = 0 from rfl] at l0
    have hle := atI_le rev u c[i].f l ns l.length
    have l1 := rspot1_loop (cp := cp) l ns rev u rank c i acc (l.length + 1) hl (l.length - atI rev u c[i].f l ns l.length) (atI rev u c[i].f l ns l.length) (by omega)
    have ih' := ih (i+1) (acc ++ [(spotF rev u rank l ns c[i].f : Int)]) (by omega) (by simp [ha])
    rw [List.drop_eq_getElem_cons h1, List.map_cons]
    have hsp : spotF rev u rank l ns c[i].f = atI rev u c[i].f l ns l.length + skN rev rank (l.drop (atI rev u c[i].f l ns l.length)) := rfl
    have e : acc ++ (spotF rev u rank l ns c[i].f : Int) :: (c.drop (i + 1)).map (fun x => (spotF rev u rank l ns x.f : Int)) = acc ++ [(spotF rev u rank l ns c[i].f : Int)] ++ (c.drop (i + 1)).map (fun x => (spotF rev u rank l ns x.f : Int)) := by simp
    have hcap : (i + 1) * 8 ≤ maxBytes ∧ i + 1 ≤ 9223372036854775807 := by unfold maxBytes; omega
    have hal : (acc ++ [(spotF rev u rank l ns c[i].f : Int)]).length = i + 1 := by simp [ha]
    rw [hal] at ih'
    rw [e, ← ih', ha]
    rw [ha] at l0 l1
    rw [← hsp] at l1
    generalize spotF rev u rank l ns c[i].f = z at *
    generalize atI rev u c[i].f l ns l.length = kk at *
    have hn1 : Code (EX cp) L_ref17_Spots_1 ⟨[(0, .p (.sl 5 (ats l))), (1, .p (pi rev)), (2, .p (.sl 1 (ints u))), (3, .p (.sl 3 (chs c))), (4, .p (pi rank)), (11, .ms 11 0 i), (12, .ms 12 0 (l.length + 1)), (13, .p (pi i)), (14, .p (pi kk)), (15, .p (pi l.length)), (37, .p (pb false))], [(11, .row 3 1 false (ints acc)), (12, .row 3 1 false (ints ns))]⟩ = Code (EX cp) L_ref17_Spots_1 ⟨[(0, .p (.sl 5 (ats l))), (1, .p (pi rev)), (2, .p (.sl 1 (ints u))), (3, .p (.sl 3 (chs c))), (4, .p (pi rank)), (11, .ms 11 0 i), (12, .ms 12 0 (l.length + 1)), (13, .p (pi i)), (14, .p (pi kk))], [(11, .row 3 1 false (ints acc)), (12, .row 3 1 false (ints ns))]⟩ := by
      rw [L_ref17_Spots_1, k_loop, k_loop]
      rfl
    rw [← hn1] at l1
    rw [L_ref17_Spots_2, k_loop]
    simp (disch := omega) [h1, l0, l1, ha, hcap, dec_yes, dec_no, wrap_in, if_yes, -getElem?_pos]
set_option maxHeartbeats 1000000 in
theorem refSpots (l : List At) (rev : Int) (u : List Int) (c : List Ch) (rank : Int) (hf : Fit2 l) (hu : u.length ≤ 9223372036854775807) (hcl : c.length ≤ 9223372036854775807) (hcs : ∀ x ∈ c, x.s.size < 1099511627776) :
    Run (EX cp) 44 [.sl 5 (ats l), pi rev, .sl 1 (ints u), .sl 3 (chs c), pi rank] = some (.own 3 1 (ints (spotsF l rev u c rank))) := by
  have hl := hf.fit.len
  have d1 := refText (cp := cp) l rev u hf.fit hu
  have d2 := refCheck (cp := cp) (txtS rev u l) c (hf.txt rev u) hcl hcs
  have d3 := refPlaces (cp := cp) l rev u hf.fit hu
  have hc2 : ∀ a ∈ l, a.cuts.length ≤ 9223372036854775807 := fun a ha => by have := hf.fit.cuts a ha; omega
  have hpl := places_len rev u l
  rw [run_fn _ A_ref17_Spots _ rfl rfl rfl]
  unfold spotsF
  by_cases c0 : chk (txtS rev u l) c = 0
  · have h8 := (chk_good c0).len
    have h := rspots_loop (cp := cp) l (places rev u l) rev u rank c hpl hl hu hc2 h8 c.length 0 [] (by omega) rfl
    rw [List.drop_zero, List.nil_append, show ((0 : Nat) : Int) = 0 from rfl, show ints [] = [] from rfl, show ([] : List Int).length = 0 from rfl] at h
    rw [if_pos c0]
    rw [c0] at d2
    have hml : (c.map fun x => (spotF rev u rank l (places rev u l) x.f : Int)).length = c.length := List.length_map _
    generalize (c.map fun x => (spotF rev u rank l (places rev u l) x.f : Int)) = o at *
    have ho : (ints o).take c.length = ints o := by rw [← hml]; exact List.take_of_length_le (by simp [ints])
    simp (disch := omega) [A_ref17_Spots, d1, d2, d3, hpl, h, ho, hml, dec_yes, dec_no]
  · rw [if_neg c0]
    simp (disch := omega) [A_ref17_Spots, d1, d2, c0, dec_yes, dec_no]
end Go.Proofs.Ytihgpnfkadldeaa.AM
