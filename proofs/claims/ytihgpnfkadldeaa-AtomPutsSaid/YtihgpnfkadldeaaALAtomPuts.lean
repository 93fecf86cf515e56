/- The law AtomPuts on the small machine. No condition. -/
import Derived.Test.YtihgpnfkadldeaaAR14
namespace Go.Proofs.Ytihgpnfkadldeaa.AM.APuts
set_option linter.unusedSimpArgs false
set_option linter.unusedVariables false
open Go Go.Proofs.Ytihgpnfkadldeaa.U Go.Proofs.Ytihgpnfkadldeaa.AM
variable {cp : List PV → Option Ret}
set_option maxHeartbeats 2000000 in
theorem puts_end (ts : List ByteArray) (bs : List UInt8) (m : List At) (r : Bool) (p : List ByteArray) : Code (EX cp) L_law17_AtomPuts_0 (st0 ts bs m r p ts.length) = some (.ex 0, ⟨[(0, .p (.sl 1 (strs ts))), (1, .p (.sl 1 (bRows bs))), (5, .ms 5 0 m.length), (6, s6 r p), (7, .p (pi ts.length)), (30, .p (pb false))], (5, .row 31 5 false (ats m)) :: h6 r p⟩) := by
  rw [L_law17_AtomPuts_0, k_loop]
  cases r <;> simp [st0, s6, h6]
set_option maxHeartbeats 2000000 in
theorem puts_long (ts : List ByteArray) (bs : List UInt8) (m : List At) (r : Bool) (p : List ByteArray) (i : Nat) (ht : i < ts.length) (htl : ts.length ≤ 12) (hx : ¬ ts[i].size ≤ 20) : Code (EX cp) L_law17_AtomPuts_0 (st0 ts bs m r p i) = some (.ret, ⟨[(4, .p (pb true))], []⟩) := by
  have hg1 := strs_at ts i ht
  generalize ts[i] = x at *
  rw [L_law17_AtomPuts_0, k_loop]
  cases r <;> simp (disch := omega) [st0, s6, h6, ht, hg1, hx, dec_yes, dec_no, -getElem?_pos]
theorem puts_loop (ts : List ByteArray) (bs : List UInt8) (htl : ts.length ≤ 12) (hbl : ts.length ≤ bs.length) (hb : bs.length ≤ 9223372036854775807) : ∀ (n i : Nat) (m : List At) (r : Bool) (p : List ByteArray), n + i = ts.length → Inv m p → okR r p → p.length ≤ 20 * i →
    Code (EX cp) L_law17_AtomPuts_0 (st0 ts bs m r p i) = some (.ret, ⟨[(4, .p (pb true))], []⟩) ∨
    ∃ m' r' p', Inv m' p' ∧ okR r' p' ∧ p'.length ≤ 240 ∧ Code (EX cp) L_law17_AtomPuts_0 (st0 ts bs m r p i) = some (.ex 0, ⟨[(0, .p (.sl 1 (strs ts))), (1, .p (.sl 1 (bRows bs))), (5, .ms 5 0 m'.length), (6, s6 r' p'), (7, .p (pi ts.length)), (30, .p (pb false))], (5, .row 31 5 false (ats m')) :: h6 r' p'⟩) := by
  intro n
  induction n with
  | zero =>
    intro i m r p hi hI hr hp
    have : i = ts.length := by omega
    subst this
    exact .inr ⟨m, r, p, hI, hr, by omega, puts_end ts bs m r p⟩
  | succ n ih =>
    intro i m r p hi hI hr hp
    have ht : i < ts.length := by omega
    by_cases hx : ts[i].size ≤ 20
    · obtain ⟨m', r', p', hI', hr', hp', he⟩ := body (cp := cp) ts bs m r p i ht htl hbl hb hI hr (by omega) hx
      rw [he]
      exact ih (i + 1) m' r' p' (by omega) hI' hr' (by omega)
    · exact .inl (puts_long ts bs m r p i ht htl hx)
theorem mk_L' (s : ByteArray) : (⟨(L s).toArray⟩ : ByteArray) = s := L_inj (L_mk _)
set_option maxHeartbeats 2000000 in
theorem test_loop (m : List At) (r : Bool) (p : List ByteArray) (hI : Inv m p) (hr : okR r p) (hpl : p.length ≤ 240) : ∀ (n i : Nat) (acc : ByteArray), n + i = p.length → acc.size ≤ 4 * i →
    Code (EX cp) L_law17_AtomPuts_1 ⟨[(5, .ms 5 0 m.length), (6, s6 r p), (13, .p (.sc (.string acc))), (14, .p (pi i))], (5, .row 31 5 false (ats m)) :: h6 r p⟩ =
      some (.ex 2, ⟨[(5, .ms 5 0 m.length), (6, s6 r p), (13, .p (.sc (.string ⟨(L acc ++ (p.drop i).flatMap L).toArray⟩))), (14, .p (pi p.length)), (83, .p (pb false))], (5, .row 31 5 false (ats m)) :: h6 r p⟩) := by
  have hml : m.length = p.length := by rw [← hI.1]; simp
  intro n
  induction n with
  | zero =>
    intro i acc hi ha
    have : i = p.length := by omega
    subst this
    rw [List.drop_length, List.flatMap_nil, List.append_nil, mk_L', L_law17_AtomPuts_1, k_loop]
    cases r
    · have hp := hr rfl
      subst hp
      simp [s6, h6]
    · simp [s6, h6]
  | succ n ih =>
    intro i acc hi ha
    have hlt : i < p.length := by omega
    have hrt : r = true := by
      cases r with
      | true => rfl
      | false => rw [hr rfl] at hlt; simp at hlt
    subst hrt
    have hlm : i < m.length := by omega
    have hg := ats_at m i hlm
    have hgp := strs_at p i hlt
    have htx : m[i].txt = p[i] := by
      have h1 := hI.1
      subst h1
      simp
    have hsz : p[i].size ≤ 4 := by
      rw [← htx]
      obtain ⟨⟨v, _, hv⟩, _⟩ := hI.2 m[i] (List.getElem_mem hlm)
      rw [hv]; exact (chS_size v).2
    rw [List.drop_eq_getElem_cons hlt, List.flatMap_cons]
    have ih' := ih (i + 1) (acc ++ p[i]) (by omega) (by rw [ByteArray.size_append]; omega)
    have e : L (acc ++ p[i]) ++ (p.drop (i + 1)).flatMap L = L acc ++ (L p[i] ++ (p.drop (i + 1)).flatMap L) := by
      have := append_mk acc (L p[i])
      rw [mk_L'] at this
      rw [this, L_mk, List.append_assoc]
    rw [e] at ih'
    rw [← ih']
    have hp : m[i].pv = [.sc (.string m[i].txt), pi m[i].rv, pi m[i].gr, pi m[i].rk, .sl 2 (cutsL m[i].cuts)] := rfl
    rw [hp, htx] at hg
    generalize m[i] = a at *
    generalize p[i] = x at *
    rw [L_law17_AtomPuts_1, k_loop]
    simp (disch := omega) [s6, h6, hlt, hg, hgp, hml, dec_yes, dec_no, wrap_in, if_yes, -strs_snoc, -getElem?_pos]
end Go.Proofs.Ytihgpnfkadldeaa.AM.APuts
namespace Go.Proofs.Ytihgpnfkadldeaa.atomPuts
set_option linter.unusedSimpArgs false
set_option linter.unusedVariables false
open Go Go.Proofs.Ytihgpnfkadldeaa.U Go.Proofs.Ytihgpnfkadldeaa.AM Go.Proofs.Ytihgpnfkadldeaa.AM.APuts
def shapes : List PSh := [.one (.sl [.tx]), .one (.sl [.i .u8])]
set_option maxHeartbeats 8000000 in
set_option maxRecDepth 10000 in
theorem law (xs : List PV) (h : WTAs shapes xs) : Run EV 5 xs = some (.val (.sc (.bool true))) := by
  cases h with
  | cons h1 h => cases h with
  | cons h2 h =>
  cases h
  obtain ⟨ts, rfl, ht, _⟩ := wt_strs h1
  obtain ⟨bs, rfl, hb⟩ := wt_u8s h2
  have hk : Run EV 15 [] = some (.val (pb true)) := known17
  rw [show Run EV 5 [.sl 1 (strs ts), .sl 1 (bRows bs)] = _ from run_fn _ A_law17_AtomPuts _ rfl rfl rfl, ← show EV = EX fun _ => none from rfl]
  by_cases c1 : ts.length ≤ 12
  case neg => simp (disch := omega) [A_law17_AtomPuts, hk, dec_yes, dec_no]
  by_cases c2 : ts.length ≤ bs.length
  case neg => simp (disch := omega) [A_law17_AtomPuts, hk, dec_yes, dec_no]
  have hl := puts_loop (cp := fun _ => none) ts bs c1 c2 hb ts.length 0 [] true [] (by omega) ⟨rfl, by simp⟩ (fun h => by simp at h) (by simp)
  rw [show EX (fun _ => none) = EV from rfl] at hl
  unfold st0 s6 h6 at hl
  simp only [if_true, show ((0 : Nat) : Int) = 0 from rfl, List.length_nil, ats_nil, strs_nil] at hl
  rcases hl with hl | ⟨m, r, p, hI, hr, hp, hl⟩
  · simp (disch := omega) [A_law17_AtomPuts, hk, hl, dec_yes, dec_no]
  have ht := test_loop (cp := fun _ => none) m r p hI hr hp p.length 0 ⟨#[]⟩ (by omega) (by decide)
  rw [show EX (fun _ => none) = EV from rfl, List.drop_zero, show L ⟨#[]⟩ = [] from rfl, List.nil_append, show ((0 : Nat) : Int) = 0 from rfl] at ht
  have hml : m.length = p.length := by rw [← hI.1]; simp
  have hall : ∀ a ∈ m, a.vis 100 [] = true := fun a ha => vis_ch a (hI.2 a ha)
  have htx : txtS 100 [] m = ⟨(p.flatMap L).toArray⟩ := by unfold txtS; rw [txtF_all 100 [] m hall, hI.1]
  have hsm : ∀ a ∈ m, a.txt.size ≤ 4 ∧ a.cuts.length = 0 := fun a ha => by
    obtain ⟨⟨v, _, hv⟩, _, _, _, _, hc⟩ := hI.2 a ha
    rw [hv, hc]; exact ⟨(chS_size v).2, rfl⟩
  have hf : Fit m := by
    refine ⟨by omega, ?_, fun a ha => by rw [(hsm a ha).2]; omega⟩
    have : ∀ l : List At, (∀ a ∈ l, a.txt.size ≤ 4) → sumT l ≤ 4 * l.length := by
      intro l
      induction l with
      | nil => intro _; simp [sumT]
      | cons a l ih =>
        intro h
        rw [sumT_cons, List.length_cons]
        have h1 := h a (by simp)
        have h2 := ih fun b hb => h b (by simp [hb])
        omega
    have := this m fun a ha => (hsm a ha).1
    omega
  have c3 := atomText (cp := fun _ => none) m 100 [] hf (by simp)
  rw [htx, show EX (fun _ => none) = EV from rfl, show ints [] = [] from rfl] at c3
  have c4 := atomIs (cp := fun _ => none) m (by omega) fun a ha => by have := hsm a ha; omega
  have his : isAts m = true := by
    unfold isAts
    rw [decide_eq_true (show m.length ≤ 4000 by omega), Bool.true_and, List.all_eq_true]
    exact fun a ha => isAt_ch a (hI.2 a ha)
  rw [his, show EX (fun _ => none) = EV from rfl] at c4
  have htm : (ats m).take p.length = ats m := by rw [← hml]; exact ats_take m
  have htm2 : (ats m).take m.length = ats m := ats_take m
  rw [hml] at hl ht
  cases r
  · have hp0 := hr rfl
    subst hp0
    unfold s6 h6 at ht
    simp only [Bool.false_eq_true, if_false, List.length_nil] at hl ht hml htm
    simp (disch := omega) [A_law17_AtomPuts, hk, hl, ht, c3, c4, htm, hml, dec_yes, dec_no]
  · unfold s6 h6 at ht
    simp only [if_true] at hl ht
    by_cases hp0 : p.length = 0
    · have hpe : p = [] := List.eq_nil_of_length_eq_zero hp0
      subst hpe
      simp only [List.length_nil, strs_nil] at hl ht hml htm
      simp (disch := omega) [A_law17_AtomPuts, hk, hl, ht, c3, c4, htm, hml, dec_yes, dec_no]
    · simp (disch := omega) [A_law17_AtomPuts, hk, hl, ht, c3, c4, htm, hml, hp0, dec_yes, dec_no]
end Go.Proofs.Ytihgpnfkadldeaa.atomPuts
