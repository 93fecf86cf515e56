/- The law AtomPuts on the small machine: one round. No condition. -/
import Derived.Test.YtihgpnfkadldeaaAR13
import Derived.Test.YtihgpnfkadldeaaAE
namespace Go.Proofs.Ytihgpnfkadldeaa.AM.APuts
set_option linter.unusedSimpArgs false
set_option linter.unusedVariables false
open Go Go.Proofs.Ytihgpnfkadldeaa.U Go.Proofs.Ytihgpnfkadldeaa.AM
variable {cp : List PV → Option Ret}
def shapes : List PSh := [.one (.sl [.tx]), .one (.sl [.i .u8])]
/-- The atoms of the law. -/
def Inv (m : List At) (p : List ByteArray) : Prop := (m.map fun a => a.txt) = p ∧ ∀ a ∈ m, (∃ v, sc v ∧ a.txt = chS v) ∧ 1 ≤ a.rv ∧ a.rv ≤ 13 ∧ a.gr = 0 ∧ a.rk = 0 ∧ a.cuts = []
theorem Inv.put {m : List At} {p : List ByteArray} (h : Inv m p) (k : Nat) (s : List UInt8) (i : Int) (h0 : 1 ≤ i) (h1 : i ≤ 13) : Inv (putL m k s i 0 0) (p.take k ++ ptsS s ++ p.drop k) := by
  refine ⟨?_, fun a ha => ?_⟩
  · unfold putL
    rw [List.map_append, List.map_append, newAts_txts, List.map_take, List.map_drop, h.1]
  · unfold putL at ha
    simp only [List.mem_append] at ha
    rcases ha with (ha | ha) | ha
    · exact h.2 a (List.mem_of_mem_take ha)
    · obtain ⟨v, hv, rfl⟩ := List.mem_map.1 ha
      exact ⟨⟨v, points_sc _ v hv, rfl⟩, h0, h1, rfl, rfl, rfl⟩
    · exact h.2 a (List.mem_of_mem_drop ha)
theorem chS_size (v : Int) : 1 ≤ (chS v).size ∧ (chS v).size ≤ 4 := by
  have : (chS v).size = (enc v).length := size_mk _
  rw [this]; exact enc_len v
theorem isAt_ch (a : At) (h : (∃ v, sc v ∧ a.txt = chS v) ∧ 1 ≤ a.rv ∧ a.rv ≤ 13 ∧ a.gr = 0 ∧ a.rk = 0 ∧ a.cuts = []) : isAt a = true := by
  obtain ⟨⟨v, hv, ht⟩, h1, h2, h3, h4, h5⟩ := h
  have hne : ¬ chS v = ⟨#[]⟩ := fun e => by
    have := (chS_size v).1
    rw [e] at this
    exact absurd this (by decide)
  have hsz : sizeAt (chS v) 0 = (chS v).size := by
    unfold sizeAt
    have := decAt_nat (chS v) 0
    rw [List.drop_zero] at this
    rw [show (0 : Int) = ((0 : Nat) : Int) from rfl, this]
    have e : L (chS v) = enc v ++ [] := by unfold chS; rw [L_mk, List.append_nil]
    rw [e, enc_dec v hv]
    exact (size_mk _).symm
  unfold isAt
  rw [ht, h3, h4, h5, decide_eq_false hne, decide_eq_true hsz]
  unfold inn
  rw [decide_eq_true (show (0 : Int) ≤ a.rv by omega), decide_eq_true (show a.rv ≤ 1000000 by omega)]
  rfl
theorem vis_ch (a : At) (h : (∃ v, sc v ∧ a.txt = chS v) ∧ 1 ≤ a.rv ∧ a.rv ≤ 13 ∧ a.gr = 0 ∧ a.rk = 0 ∧ a.cuts = []) : a.vis 100 [] = true := by
  obtain ⟨_, h1, h2, h3, h4, h5⟩ := h
  unfold At.vis
  rw [h3, h5, decide_eq_true (show a.rv ≤ 100 by omega)]
  rfl
/-- Slot 6: the row of texts, or the empty one. -/
def s6 (r : Bool) (p : List ByteArray) : SV := if r then .ms 6 0 p.length else .xs 1 []
def h6 (r : Bool) (p : List ByteArray) : List (Nat × Ob) := if r then [(6, .row 9 1 false (strs p))] else []
def okR (r : Bool) (p : List ByteArray) : Prop := r = false → p = []
def st0 (ts : List ByteArray) (bs : List UInt8) (m : List At) (r : Bool) (p : List ByteArray) (i : Int) : St :=
  ⟨[(0, .p (.sl 1 (strs ts))), (1, .p (.sl 1 (bRows bs))), (5, .ms 5 0 m.length), (6, s6 r p), (7, .p (pi i))], (5, .row 31 5 false (ats m)) :: h6 r p⟩
theorem strs_take (l : List ByteArray) (k : Nat) : (strs l).take k = strs (l.take k) := by simp [strs, List.map_take]
theorem strs_drop (l : List ByteArray) (k : Nat) : (strs l).drop k = strs (l.drop k) := by simp [strs, List.map_drop]
theorem strs_app (a b : List ByteArray) : strs (a ++ b) = strs a ++ strs b := by simp [strs]
theorem strs_cons (a : ByteArray) (b : List ByteArray) : strs (a :: b) = [.sc (.string a)] :: strs b := rfl

set_option maxHeartbeats 8000000 in
set_option maxRecDepth 10000 in
theorem body (ts : List ByteArray) (bs : List UInt8) (m : List At) (r : Bool) (p : List ByteArray) (i : Nat) (ht : i < ts.length) (htl : ts.length ≤ 12) (hbl : ts.length ≤ bs.length) (hb : bs.length ≤ 9223372036854775807) (hI : Inv m p) (hr : okR r p) (hpl : p.length ≤ 1000) (hx : ts[i].size ≤ 20) :
    ∃ m' r' p', Inv m' p' ∧ okR r' p' ∧ p'.length ≤ p.length + 20 ∧ Code (EX cp) L_law17_AtomPuts_0 (st0 ts bs m r p i) = Code (EX cp) L_law17_AtomPuts_0 (st0 ts bs m' r' p' ((i + 1 : Nat) : Int)) := by
  have hg1 := strs_at ts i ht
  have hg2 := bRows_at bs i (by omega)
  generalize ts[i] = x at *
  generalize bs[i] = b at *
  have hml : m.length = p.length := by rw [← hI.1]; simp
  obtain ⟨k, hkd⟩ : ∃ k, k = b.toNat % (p.length + 1) := ⟨_, rfl⟩
  have hk : k ≤ p.length := by have : k < p.length + 1 := by rw [hkd]; exact Nat.mod_lt _ (by omega)
                               omega
  have htm : ((b.toNat : Int).tmod ((p.length : Int) + 1)) = (k : Int) := by
    have := tmod_nat b.toNat (p.length + 1)
    rw [← hkd] at this
    exact this
  have c1 := refPoints (cp := cp) x (by omega)
  have e1 : ptsS (clean (L x)) = ptsS (L x) := by unfold ptsS; rw [pts_clean]
  rw [e1] at c1
  have hcu : ∀ a ∈ m, a.cuts.length < 68719476736 := fun a ha => by rw [(hI.2 a ha).2.2.2.2.2]; simp
  have c2 := atomPut (cp := cp) m k x ((i : Int) + 1) 0 0 (by omega) hcu (by omega)
  have hcl : clampN k m.length = k := by unfold clampN; omega
  rw [hcl] at c2
  have hI' := hI.put k (L x) ((i : Int) + 1) (by omega) (by omega)
  have hm'l : (putL m k (L x) ((i : Int) + 1) 0 0).length = k + (ptsS (L x)).length + (p.length - k) := by
    have := congrArg List.length hI'.1
    simp only [List.length_map, List.length_append, List.length_take, List.length_drop] at this
    omega
  have hqb : (ptsS (L x)).length ≤ 20 := by
    unfold ptsS; rw [List.length_map]
    have := points_le (L x); rw [L_len] at this; omega
  generalize putL m k (L x) ((i : Int) + 1) 0 0 = m' at *
  generalize ptsS (L x) = q at *
  have st := strs_take p k
  have sd := strs_drop p k
  have htk : (p.take k).length = k := by rw [List.length_take]; omega
  have hbb := b.toNat_lt
  have hw : IntKind.wrap .i64 ((p.length : Int) + 1) = (p.length : Int) + 1 := wrap_in _ (by omega) (by omega)
  have hne : ¬ ((p.length : Int) + 1 = 0) := by omega
  have happ : strs (p.take k ++ q ++ p.drop k) = strs (p.take k) ++ (strs q ++ strs (p.drop k)) := by rw [strs_app, strs_app, List.append_assoc]
  have hlen : (p.take k ++ q ++ p.drop k).length = k + q.length + (p.length - k) := by simp only [List.length_append, List.length_take, List.length_drop]; omega
  have hpl' : p.length ≤ 1000 := hpl
  have hm0 : p = [] → m = [] := fun e => List.eq_nil_of_length_eq_zero (by rw [hml, e]; rfl)
  generalize hp' : p.take k ++ q ++ p.drop k = p' at *
  by_cases hp0 : p.length = 0
  · have hpe : p = [] := List.eq_nil_of_length_eq_zero hp0
    have hme := hm0 hpe
    subst hpe
    subst hme
    have hk0 : k = 0 := by simpa using hk
    subst hk0
    simp only [ats_nil, show ((0 : Nat) : Int) = 0 from rfl] at c2
    have tq : (strs q).take q.length = strs q := List.take_of_length_le (by simp)
    have hqn : ¬ q.length = 0 → ¬ q = [] := fun h e => h (by rw [e]; rfl)
    by_cases hq0 : q.length = 0
    · have hqe : q = [] := List.eq_nil_of_length_eq_zero hq0
      subst hqe
      have hpe : p' = [] := by rw [← hp']; rfl
      subst hpe
      refine ⟨m', false, [], hI', fun _ => rfl, by simp, ?_⟩
      rw [L_law17_AtomPuts_0, k_loop]
      simp only [List.length_nil, Nat.add_zero, Nat.zero_sub] at hm'l
      cases r <;> simp (disch := omega) [st0, s6, h6, ht, hg1, hg2, htm, c1, c2, hm'l, dec_yes, dec_no, wrap_in, hx, if_yes, if_no, -strs_snoc, -getElem?_pos]
    · have hqe := hqn hq0
      refine ⟨m', true, p', hI', fun h => by simp at h, by omega, ?_⟩
      rw [L_law17_AtomPuts_0, k_loop]
      simp only [List.take_nil, List.drop_nil, List.nil_append, List.append_nil] at hp'
      subst hp'
      simp only [List.length_nil, Nat.zero_sub, Nat.add_zero, Nat.zero_add] at hm'l
      cases r <;> simp (disch := omega) [st0, maxBytes, hq0, hqe, tq, s6, h6, ht, hg1, hg2, htm, c1, c2, hm'l, dec_yes, dec_no, wrap_in, hx, if_yes, if_no, -strs_snoc, -getElem?_pos]
  · have hrt : r = true := by
      cases r with
      | true => rfl
      | false => exact absurd (by rw [hr rfl]; rfl) hp0
    subst hrt
    refine ⟨m', true, p', hI', fun h => by simp at h, by omega, ?_⟩
    rw [L_law17_AtomPuts_0, k_loop]
    have tq : (strs q).take q.length = strs q := List.take_of_length_le (by simp)
    have tp : (strs p).take p.length = strs p := List.take_of_length_le (by simp)
    have hqn : ¬ q.length = 0 → ¬ q = [] := fun h e => h (by rw [e]; rfl)
    have tm : (ats m).take p.length = ats m := by rw [← hml, ats_take]
    have tdp : (strs (p.drop k)).take (p.length - k) = strs (p.drop k) := List.take_of_length_le (by simp)
    have hpn : ¬ p = [] := fun e => hp0 (by rw [e]; rfl)
    by_cases hk0 : k = 0
    · subst hk0
      simp only [List.take_zero, List.drop_zero, List.nil_append] at hp' happ
      rw [show ((0 : Nat) : Int) = 0 from rfl] at c2 htm
      by_cases hq0 : q.length = 0
      · have hqe : q = [] := List.eq_nil_of_length_eq_zero hq0
        subst hqe
        simp only [List.nil_append] at hp'
        subst hp'
        simp (disch := omega) [st0, maxBytes, hpn, tp, tm, s6, h6, ht, hg1, hg2, hw, hne, htm, c1, c2, hml, hm'l, dec_yes, dec_no, wrap_in, hx, if_yes, if_no, -strs_snoc, -getElem?_pos]
      · have hqe := hqn hq0
        simp (disch := omega) [st0, maxBytes, hpn, hp0, hq0, hqe, tp, tm, tq, s6, h6, ht, hg1, hg2, hw, hne, htm, c1, c2, hml, hm'l, happ, hlen, dec_yes, dec_no, wrap_in, hx, if_yes, if_no, -strs_snoc, -getElem?_pos]
    · simp (disch := omega) [st0, maxBytes, hpn, hp0, tp, tm, tdp, tq, s6, h6, ht, hg1, hg2, hw, hne, htm, c1, c2, hml, hm'l, happ, hlen, st, sd, htk, hk, dec_yes, dec_no, wrap_in, hx, if_yes, if_no, hk0, -strs_snoc, -getElem?_pos]
end Go.Proofs.Ytihgpnfkadldeaa.AM.APuts
