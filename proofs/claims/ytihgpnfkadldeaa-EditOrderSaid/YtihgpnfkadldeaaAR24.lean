/- edit.Spots and the reference's on the small machine. For atoms whose texts make less than 2^40 bytes. -/
import Derived.Test.YtihgpnfkadldeaaAR23
namespace Go.Proofs.Ytihgpnfkadldeaa.AM
set_option linter.unusedSimpArgs false
set_option linter.unusedVariables false
open Go Go.Proofs.Ytihgpnfkadldeaa.U
variable {cp : List PV → Option Ret}
/-- Does the i-th atom stand ahead of a place, seen? -/
def okAt (rev : Int) (u : List Int) (fr : Int) (l : List At) (ns : List Int) (i : Nat) : Bool := match ns[i]?, l[i]? with
  | some n, some a => decide (n < fr) && a.vis rev u
  | _, _ => false
def atI (rev : Int) (u : List Int) (fr : Int) (l : List At) (ns : List Int) : Nat → Nat
  | 0 => 0
  | i + 1 => if okAt rev u fr l ns i = true then i + 1 else atI rev u fr l ns i
theorem atI_le (rev : Int) (u : List Int) (fr : Int) (l : List At) (ns : List Int) : ∀ i, atI rev u fr l ns i ≤ i
  | 0 => Nat.le_refl _
  | i + 1 => by rw [atI]; split <;> have := atI_le rev u fr l ns i <;> omega
/-- How many atoms are stepped over. -/
def skN (rev rank : Int) : List At → Nat
  | [] => 0
  | a :: l => if rev < a.rv ∧ a.rk ≤ rank then skN rev rank l + 1 else 0
theorem skN_le (rev rank : Int) : ∀ l, skN rev rank l ≤ l.length
  | [] => Nat.le_refl _
  | a :: l => by rw [skN, List.length_cons]; split <;> have := skN_le rev rank l <;> omega
def spotF (rev : Int) (u : List Int) (rank : Int) (l : List At) (ns : List Int) (fr : Int) : Nat := atI rev u fr l ns l.length + skN rev rank (l.drop (atI rev u fr l ns l.length))
theorem spotF_le (rev : Int) (u : List Int) (rank : Int) (l : List At) (ns : List Int) (fr : Int) : spotF rev u rank l ns fr ≤ l.length := by
  unfold spotF
  have h1 := atI_le rev u fr l ns l.length
  have h2 := skN_le rev rank (l.drop (atI rev u fr l ns l.length))
  rw [List.length_drop] at h2
  omega
set_option maxHeartbeats 1000000 in
theorem spot0_loop (l : List At) (ns : List Int) (rev : Int) (u : List Int) (fr rank : Int) (hn : ns.length = l.length + 1) (hl : l.length < 1099511627776) (hu : u.length ≤ 9223372036854775807) (hc : ∀ a ∈ l, a.cuts.length ≤ 9223372036854775807) : ∀ (m i : Nat), m + i = l.length →
    Code (EX cp) L_edit_spot_0 ⟨[(0, .p (.sl 5 (ats l))), (1, .p (.sl 1 (ints ns))), (2, .p (pi rev)), (3, .p (.sl 1 (ints u))), (4, .p (pi fr)), (5, .p (pi rank)), (13, .p (pi (atI rev u fr l ns i))), (16, .p (.sl 5 (ats l))), (17, .p (pi l.length)), (18, .p (pi i))], []⟩ =
      some (.ex 0, ⟨[(0, .p (.sl 5 (ats l))), (1, .p (.sl 1 (ints ns))), (2, .p (pi rev)), (3, .p (.sl 1 (ints u))), (4, .p (pi fr)), (5, .p (pi rank)), (13, .p (pi (atI rev u fr l ns l.length))), (16, .p (.sl 5 (ats l))), (17, .p (pi l.length)), (18, .p (pi l.length)), (19, .p (pb false))], []⟩) := by
  intro m
  induction m with
  | zero =>
    intro i hi
    have : i = l.length := by omega
    subst this
    rw [L_edit_spot_0, k_loop]
    simp
  | succ m ih =>
    intro i hi
    have h1 : i < l.length := by omega
    have ih' := ih (i+1) (by omega)
    have hg := ats_at l i h1
    have hgn := ints_at ns i (by omega)
    have c1 := visible (cp := cp) l[i] rev u hu (hc _ (List.getElem_mem h1))
    have hok : okAt rev u fr l ns i = (decide (ns[i]'(by omega) < fr) && l[i].vis rev u) := by
      unfold okAt
      rw [List.getElem?_eq_getElem (show i < ns.length by omega), List.getElem?_eq_getElem h1]
    rw [atI, hok] at ih'
    generalize ns[i]'(by omega) = n at *
    generalize l[i].vis rev u = b at *
    have hp : l[i].pv = [.sc (.string l[i].txt), pi l[i].rv, pi l[i].gr, pi l[i].rk, .sl 2 (cutsL l[i].cuts)] := rfl
    rw [hp] at hg c1
    generalize atI rev u fr l ns i = k at *
    by_cases cn : n < fr
    · cases b
      · rw [decide_eq_true cn] at ih'
        simp only [Bool.and_false, Bool.false_eq_true, if_false] at ih'
        rw [← ih', L_edit_spot_0, k_loop]
        simp (disch := omega) [h1, hg, hgn, c1, cn, dec_yes, dec_no, wrap_in, -getElem?_pos]
      · rw [decide_eq_true cn] at ih'
        simp only [Bool.and_true, if_true] at ih'
        rw [← ih', L_edit_spot_0, k_loop]
        simp (disch := omega) [h1, hg, hgn, c1, cn, dec_yes, dec_no, wrap_in, -getElem?_pos]
    · rw [decide_eq_false cn] at ih'
      simp only [Bool.false_and, Bool.false_eq_true, if_false] at ih'
      rw [← ih', L_edit_spot_0, k_loop]
      simp (disch := omega) [h1, hg, hgn, c1, cn, dec_yes, dec_no, wrap_in, -getElem?_pos]
theorem spot1_loop (l : List At) (rev rank : Int) (U : PV) (hl : l.length < 1099511627776) : ∀ (m i : Nat), m + i = l.length →
    Code (EX cp) L_edit_spot_1 ⟨[(0, .p (.sl 5 (ats l))), (2, .p (pi rev)), (5, .p (pi rank)), (13, .p (pi i))], []⟩ =
      some (.ex 2, ⟨[(0, .p (.sl 5 (ats l))), (2, .p (pi rev)), (5, .p (pi rank)), (13, .p (pi ((i + skN rev rank (l.drop i) : Nat) : Int))), (59, .p (pb false))], []⟩) := by
  intro m
  induction m with
  | zero =>
    intro i hi
    have : i = l.length := by omega
    subst this
    rw [List.drop_length, skN, Nat.add_zero, L_edit_spot_1, k_loop]
    simp
  | succ m ih =>
    intro i hi
    have h1 : i < l.length := by omega
    have ih' := ih (i+1) (by omega)
    have hg := ats_at l i h1
    rw [List.drop_eq_getElem_cons h1, skN]
    generalize l[i] = a at *
    have hp : a.pv = [.sc (.string a.txt), pi a.rv, pi a.gr, pi a.rk, .sl 2 (cutsL a.cuts)] := rfl
    rw [hp] at hg
    by_cases c0 : rev < a.rv
    · by_cases c1 : a.rk ≤ rank
      · rw [if_pos ⟨c0, c1⟩, show i + (skN rev rank (l.drop (i + 1)) + 1) = i + 1 + skN rev rank (l.drop (i + 1)) by omega, ← ih', L_edit_spot_1, k_loop]
        simp (disch := omega) [h1, hg, c0, c1, dec_yes, dec_no, wrap_in, -getElem?_pos]
      · rw [if_neg (fun h => c1 h.2), Nat.add_zero, L_edit_spot_1, k_loop]
        simp (disch := omega) [h1, hg, c0, c1, dec_yes, dec_no, wrap_in, -getElem?_pos]
    · rw [if_neg (fun h => c0 h.1), Nat.add_zero, L_edit_spot_1, k_loop]
      simp (disch := omega) [h1, hg, c0, dec_yes, dec_no, wrap_in, -getElem?_pos]
theorem editSpot (l : List At) (ns : List Int) (rev : Int) (u : List Int) (fr rank : Int) (hn : ns.length = l.length + 1) (hl : l.length < 1099511627776) (hu : u.length ≤ 9223372036854775807) (hc : ∀ a ∈ l, a.cuts.length ≤ 9223372036854775807) :
    Run (EX cp) 74 [.sl 5 (ats l), .sl 1 (ints ns), pi rev, .sl 1 (ints u), pi fr, pi rank] = some (.val (pi (spotF rev u rank l ns fr))) := by
  have h0 := spot0_loop (cp := cp) l ns rev u fr rank hn hl hu hc l.length 0 (by omega)
  have hle := atI_le rev u fr l ns l.length
  have h1 := spot1_loop (cp := cp) l rev rank (pi 0) hl (l.length - atI rev u fr l ns l.length) (atI rev u fr l ns l.length) (by omega)
  rw [atI, show ((0 : Nat) : Int) = 0 from rfl] at h0
  unfold spotF
  rw [run_fn _ A_edit_spot _ rfl rfl rfl]
  generalize atI rev u fr l ns l.length = k at *
  generalize skN rev rank (l.drop k) = z at *
  have hn : Code (EX cp) L_edit_spot_1 ⟨[(0, .p (.sl 5 (ats l))), (1, .p (.sl 1 (ints ns))), (2, .p (pi rev)), (3, .p (.sl 1 (ints u))), (4, .p (pi fr)), (5, .p (pi rank)), (13, .p (pi k)), (16, .p (.sl 5 (ats l))), (17, .p (pi l.length)), (18, .p (pi l.length)), (19, .p (pb false))], []⟩ = Code (EX cp) L_edit_spot_1 ⟨[(0, .p (.sl 5 (ats l))), (2, .p (pi rev)), (5, .p (pi rank)), (13, .p (pi k))], []⟩ := by
    rw [L_edit_spot_1, k_loop, k_loop]
    rfl
  rw [← hn] at h1
  simp (disch := omega) [A_edit_spot, h0, h1]
end Go.Proofs.Ytihgpnfkadldeaa.AM
