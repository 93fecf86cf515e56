/- edit.Spots and the reference's on the small machine. For atoms whose texts make less than 2^40 bytes. -/
import Derived.Test.YtihgpnfkadldeaaAR24
namespace Go.Proofs.Ytihgpnfkadldeaa.AM
set_option linter.unusedSimpArgs false
set_option linter.unusedVariables false
open Go Go.Proofs.Ytihgpnfkadldeaa.U
variable {cp : List PV → Option Ret}
set_option maxHeartbeats 1000000 in
theorem spots_loop (l : List At) (ns : List Int) (rev : Int) (u : List Int) (rank : Int) (c : List Ch) (hn : ns.length = l.length + 1) (hl : l.length < 1099511627776) (hu : u.length ≤ 9223372036854775807) (hc : ∀ a ∈ l, a.cuts.length ≤ 9223372036854775807) (hc8 : c.length ≤ 8) : ∀ (m i : Nat) (acc : List Int) (f : Bool), m + i = c.length → acc.length = i →
    ∃ f' : Bool, Code (EX cp) L_edit_Spots_0 ⟨[(0, .p (.sl 5 (ats l))), (1, .p (pi rev)), (2, .p (.sl 1 (ints u))), (4, .p (pi rank)), (11, .ms 11 0 (l.length + 1)), (12, .ms 12 0 acc.length), (26, .p (.sl 3 (chs c))), (27, .p (pi c.length)), (28, .p (pi i))], [(11, .row 3 1 f (ints ns)), (12, .row 3 1 false (ints acc))]⟩ =
      some (.ex 0, ⟨[(0, .p (.sl 5 (ats l))), (1, .p (pi rev)), (2, .p (.sl 1 (ints u))), (4, .p (pi rank)), (11, .ms 11 0 (l.length + 1)), (12, .ms 12 0 c.length), (26, .p (.sl 3 (chs c))), (27, .p (pi c.length)), (28, .p (pi c.length)), (29, .p (pb false))], [(11, .row 3 1 f' (ints ns)), (12, .row 3 1 false (ints (acc ++ (c.drop i).map fun x => (spotF rev u rank l ns x.f : Int))))]⟩) := by
  intro m
  induction m with
  | zero =>
    intro i acc f hi ha
    have : i = c.length := by omega
    subst this
    refine ⟨f, ?_⟩
    rw [List.drop_length, List.map_nil, List.append_nil, ha, L_edit_Spots_0, k_loop]
    simp
  | succ m ih =>
    intro i acc f hi ha
    have h1 : i < c.length := by omega
    have hg := chs_at c i h1
    rw [List.drop_eq_getElem_cons h1, List.map_cons]
    have hp := editSpot (cp := cp) l ns rev u c[i].f rank hn hl hu hc
    obtain ⟨f', ih'⟩ := ih (i+1) (acc ++ [(spotF rev u rank l ns c[i].f : Int)]) true (by omega) (by simp [ha])
    refine ⟨f', ?_⟩
    generalize c[i] = x at *
    have hpv : x.pv = [pi x.f, pi x.t, .sc (.string x.s)] := rfl
    rw [hpv] at hg
    generalize spotF rev u rank l ns x.f = z at *
    have e : acc ++ (z : Int) :: (c.drop (i + 1)).map (fun x => (spotF rev u rank l ns x.f : Int)) = acc ++ [(z : Int)] ++ (c.drop (i + 1)).map (fun x => (spotF rev u rank l ns x.f : Int)) := by simp
    have hnt : (ints ns).take (l.length + 1) = ints ns := by rw [← hn]; exact List.take_of_length_le (by simp [ints])
    have hal : (acc ++ [(z : Int)]).length = i + 1 := by simp [ha]
    rw [hal] at ih'
    have hcap : (i + 1) * 8 ≤ maxBytes ∧ i + 1 ≤ 9223372036854775807 := by unfold maxBytes; omega
    rw [e, ← ih', ha, L_edit_Spots_0, k_loop]
    simp (disch := omega) [h1, hg, hp, hn, hnt, ha, hcap, dec_yes, dec_no, wrap_in, if_yes, -getElem?_pos]
/-- What Spots gives. -/
def spotsF (l : List At) (rev : Int) (u : List Int) (c : List Ch) (rank : Int) : List Int := if chk (txtS rev u l) c = 0 then c.map fun x => (spotF rev u rank l (places rev u l) x.f : Int) else []
/-- Not much text. -/
structure Fit2 (l : List At) : Prop where
  fit : Fit l
  sum : sumT l < 549755813888
theorem Fit2.txt {l : List At} (h : Fit2 l) (rev : Int) (u : List Int) : (txtS rev u l).size < 1099511627776 := by
  have h1 := txtF_len rev u l
  have h2 := h.sum
  have : L (txtS rev u l) = txtF rev u l := L_mk _
  rw [← L_len, this]
  omega
set_option maxHeartbeats 1000000 in
theorem editSpots (l : List At) (rev : Int) (u : List Int) (c : List Ch) (rank : Int) (hf : Fit2 l) (hu : u.length ≤ 9223372036854775807) (hcl : c.length ≤ 9223372036854775807) (hcs : ∀ x ∈ c, x.s.size < 1099511627776) :
    Run (EX cp) 40 [.sl 5 (ats l), pi rev, .sl 1 (ints u), .sl 3 (chs c), pi rank] = some (.own 3 1 (ints (spotsF l rev u c rank))) := by
  have hl := hf.fit.len
  have d1 := atomText (cp := cp) l rev u hf.fit hu
  have d2 := editCheck (cp := cp) (txtS rev u l) c (hf.txt rev u) hcl hcs
  have d3 := atomPlaces (cp := cp) l rev u hf.fit hu
  have hc2 : ∀ a ∈ l, a.cuts.length ≤ 9223372036854775807 := fun a ha => by have := hf.fit.cuts a ha; omega
  have hpl := places_len rev u l
  rw [run_fn _ A_edit_Spots _ rfl rfl rfl]
  unfold spotsF
  by_cases c0 : chk (txtS rev u l) c = 0
  · have h8 := (chk_good c0).len
    obtain ⟨f', h⟩ := spots_loop (cp := cp) l (places rev u l) rev u rank c hpl hl hu hc2 h8 c.length 0 [] false (by omega) rfl
    rw [List.drop_zero, List.nil_append, show ((0 : Nat) : Int) = 0 from rfl, show ints [] = [] from rfl, show ([] : List Int).length = 0 from rfl] at h
    rw [if_pos c0]
    rw [c0] at d2
    have hml : (c.map fun x => (spotF rev u rank l (places rev u l) x.f : Int)).length = c.length := List.length_map _
    generalize (c.map fun x => (spotF rev u rank l (places rev u l) x.f : Int)) = o at *
    have ho : (ints o).take c.length = ints o := by rw [← hml]; exact List.take_of_length_le (by simp [ints])
    simp (disch := omega) [A_edit_Spots, d1, d2, d3, hpl, h, ho, hml, dec_yes, dec_no]
  · rw [if_neg c0]
    simp (disch := omega) [A_edit_Spots, d1, d2, c0, dec_yes, dec_no]
end Go.Proofs.Ytihgpnfkadldeaa.AM
