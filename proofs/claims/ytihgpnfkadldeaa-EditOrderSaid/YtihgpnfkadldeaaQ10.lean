/- MADE BY sync2.py: AR17, AR18, one behind the other. No condition but what they say. -/
import Derived.Test.YtihgpnfkadldeaaQ9
section
/- The reference's Put on the small machine. -/
namespace Go.Proofs.Ytihgpnfkadldeaa.AM
set_option linter.unusedSimpArgs false
set_option linter.unusedVariables false
open Go Go.Proofs.Ytihgpnfkadldeaa.U
def putR (l : List At) : Ret := if l = [] then .val (.sl 5 []) else .own 31 5 (ats l)
set_option maxHeartbeats 4000000 in
theorem refPut (l : List At) (i : Int) (s : ByteArray) (rv gr rk : Int) (hl : l.length < 17179869184) (hc : ∀ a ∈ l, a.cuts.length < 68719476736) (hs : s.size < 4294967296) : Run (EX cpF) 30 [.sl 5 (ats l), pi i, .sc (.string s), pi rv, pi gr, pi rk] = some (putR (putL l (clampN i l.length) (L s) rv gr rk)) := by
  have hk : (clampN i l.length : Int) = max 0 (min i l.length) := by unfold clampN; omega
  have hk2 : clampN i l.length ≤ l.length := by omega
  unfold putR putL
  generalize clampN i l.length = k at *
  have h1 := refCopy l (by omega) (fun a ha => by have := hc a ha; omega)
  have h2 := refPoints (cp := cpF) s (by omega)
  have e2 : ptsS (clean (L s)) = ptsS (L s) := by unfold ptsS; rw [pts_clean]
  rw [e2] at h2
  rw [newAts_ptsS]
  have hqb : (ptsS (L s)).length ≤ s.size := by
    unfold ptsS; rw [List.length_map]
    have := points_le (L s); rw [L_len] at this; exact this
  generalize ptsS (L s) = p at *
  have hm1 : mnmxs false (pi i) [pi l.length] = some (pi (min i l.length)) := by
    simp only [mnmxs, mnmx, Bool.false_eq_true, if_false]
    congr 2
    simp
    omega
  have hm2 : mnmxs true (pi 0) [pi (min i l.length)] = some (pi k) := by
    simp only [mnmxs, mnmx, if_true]
    congr 2
    simp
    omega
  have htk : (ats l).take k = ats (l.take k) := by simp [ats, List.map_take]
  have hdk : (ats l).drop k = ats (l.drop k) := by simp [ats, List.map_drop]
  have hdl : (l.drop k).length = l.length - k := List.length_drop
  have hlen : (l.take k).length = k := by rw [List.length_take]; omega
  have htt : (ats (l.take k)).take k = ats (l.take k) := List.take_of_length_le (by rw [ats_len, hlen]; exact Nat.le_refl _)
  have htd : (ats (l.drop k)).take (l.length - k) = ats (l.drop k) := List.take_of_length_le (by rw [ats_len, hdl]; exact Nat.le_refl _)
  have htl : (ats l).take l.length = ats l := ats_take l
  rw [run_fn _ A_ref17_Put _ rfl rfl rfl]
  by_cases hk0 : k = 0
  · subst hk0
    simp only [List.take_zero, List.drop_zero, List.nil_append]
    rw [show ((0 : Nat) : Int) = 0 from rfl] at hm2
    match p, h2, hqb with
    | [], h2, hqb =>
      have hlp : Code (EX cpF) L_ref17_Put_0 ⟨[(3, .p (pi rv)), (4, .p (pi gr)), (5, .p (pi rk)), (13, .ms 13 0 l.length), (14, .p (pi 0)), (15, .ms 15 0 0), (16, .xs 5 []), (17, .p (pi 0))], [(13, .row 31 5 false (ats l)), (15, .row 9 1 false [])]⟩ = some (.ex 0, ⟨[(3, .p (pi rv)), (4, .p (pi gr)), (5, .p (pi rk)), (13, .ms 13 0 l.length), (14, .p (pi 0)), (15, .ms 15 0 0), (16, .xs 5 []), (17, .p (pi 0)), (34, .p (pb false))], [(13, .row 31 5 false (ats l)), (15, .row 9 1 false [])]⟩) := by
        rw [L_ref17_Put_0, k_loop]
        simp
      rw [List.map_nil, List.nil_append]
      by_cases hl0 : l.length = 0
      · have hle : l = [] := List.eq_nil_of_length_eq_zero hl0
        subst hle
        have h1' : Run (EX cpF) 17 [.sl 5 []] = some (.deep 31 5 []) := h1
        rw [show ([] : List At).length = 0 from rfl] at *
        rw [show ((0 : Nat) : Int) = 0 from rfl] at *
        rw [show ats [] = [] from rfl] at *
        have hok : okSet [] = true := rfl
        have hst : setL [] = [] := rfl
        simp (disch := omega) [A_ref17_Put, hok, hst, h1', h2, hm1, hm2, hlp, maxBytes, dec_yes, if_yes, -mnmxs, -getElem?_pos]
      · have hle : ¬ l = [] := fun e => hl0 (by rw [e]; rfl)
        simp (disch := omega) [A_ref17_Put, h1, h2, hm1, hm2, hlp, htl, hl0, hle, maxBytes, dec_yes, if_yes, -mnmxs, -getElem?_pos]
    | t :: p, h2, hqb =>
      have hlp := put_rloop (cp := cpF) rv gr rk l.length (ats l) 0 (t :: p) (by omega) p.length 1 [⟨t, rv, gr, rk, []⟩] (by simp) (by simp)
      have hfi : Code (EX cpF) L_ref17_Put_0 ⟨[(3, .p (pi rv)), (4, .p (pi gr)), (5, .p (pi rk)), (13, .ms 13 0 l.length), (14, .p (pi 0)), (15, .ms 15 0 (t :: p).length), (16, .xs 5 []), (17, .p (pi 0))], [(13, .row 31 5 false (ats l)), (15, .row 9 1 false (strs (t :: p)))]⟩ = Code (EX cpF) L_ref17_Put_0 ⟨[(3, .p (pi rv)), (4, .p (pi gr)), (5, .p (pi rk)), (13, .ms 13 0 l.length), (14, .p (pi 0)), (15, .ms 15 0 (t :: p).length), (16, .ms 16 0 1), (17, .p (pi ((1 : Nat) : Int)))], [(13, .row 31 5 false (ats l)), (15, .row 9 1 false (strs (t :: p))), (16, .row 31 5 false (ats [⟨t, rv, gr, rk, []⟩]))]⟩ := by
        have hg : (strs (t :: p))[0]? = some [.sc (.string t)] := rfl
        have hl1 : (t :: p).length = p.length + 1 := rfl
        have ha : ats [⟨t, rv, gr, rk, []⟩] = [[.sc (.string t), pi rv, pi gr, pi rk, .sl 2 []]] := rfl
        rw [hl1]
        generalize strs (t :: p) = sp at *
        rw [ha, L_ref17_Put_0, k_loop]
        simp (disch := omega) [hg, maxBytes, dec_yes, wrap_in, if_yes, -getElem?_pos]
      rw [show ([⟨t, rv, gr, rk, []⟩] : List At).length = 1 from rfl, ← hfi] at hlp
      have hdr : [(⟨t, rv, gr, rk, []⟩ : At)] ++ ((t :: p).drop 1).map (fun t => (⟨t, rv, gr, rk, []⟩ : At)) = (t :: p).map (fun t => (⟨t, rv, gr, rk, []⟩ : At)) := rfl
      rw [hdr] at hlp
      have hne : ¬ (t :: p).map (fun t => (⟨t, rv, gr, rk, []⟩ : At)) ++ l = [] := by simp
      have hle : (t :: p).length = p.length + 1 := rfl
      have hml : ((t :: p).map (fun t => (⟨t, rv, gr, rk, []⟩ : At))).length = p.length + 1 := by simp
      have hap := ats_append ((t :: p).map (fun t => (⟨t, rv, gr, rk, []⟩ : At))) l
      rw [hle] at hlp
      rw [hml] at hlp
      generalize (t :: p).map (fun t => (⟨t, rv, gr, rk, []⟩ : At)) = z at *
      generalize (t :: p) = tp at *
      rw [if_neg hne]
      have hlz : (z ++ l).length = p.length + 1 + l.length := by rw [List.length_append, hml]
      generalize z ++ l = zl at *
      have hmb : (p.length + 1 + l.length) * 64 ≤ maxBytes ∧ p.length + 1 + l.length ≤ 9223372036854775807 := by unfold maxBytes; omega
      simp (disch := omega) [A_ref17_Put, h1, h2, hle, hm1, hm2, hlp, htl, hap, hlz, hml, hmb, dec_yes, if_yes, -mnmxs, -getElem?_pos]
  · have hlp := put_rloop (cp := cpF) rv gr rk l.length (ats l) k p (by omega) p.length 0 (l.take k) (by omega) (by omega)
    rw [List.drop_zero, hlen, show ((0 : Nat) : Int) = 0 from rfl] at hlp
    have hne : ¬ l.take k ++ p.map (fun t => (⟨t, rv, gr, rk, []⟩ : At)) ++ l.drop k = [] := fun e => by
      have := congrArg List.length e
      simp only [List.length_append, hlen, List.length_nil] at this
      omega
    have hne2 : ¬ l.take k = [] := fun e => hk0 (by rw [← hlen, e]; rfl)
    have hml : (l.take k ++ p.map (fun t => (⟨t, rv, gr, rk, []⟩ : At))).length = k + p.length := by rw [List.length_append, List.length_map, hlen]
    have hap := ats_append (l.take k ++ p.map (fun t => (⟨t, rv, gr, rk, []⟩ : At))) (l.drop k)
    have hlz : (l.take k ++ p.map (fun t => (⟨t, rv, gr, rk, []⟩ : At)) ++ l.drop k).length = k + p.length + (l.length - k) := by rw [List.length_append, hml, hdl]
    rw [hml] at hlp
    rw [if_neg hne]
    generalize l.take k ++ p.map (fun t => (⟨t, rv, gr, rk, []⟩ : At)) ++ l.drop k = zl at *
    generalize l.take k ++ p.map (fun t => (⟨t, rv, gr, rk, []⟩ : At)) = z at *
    have hmb : (k + p.length + (l.length - k)) * 64 ≤ maxBytes ∧ k + p.length + (l.length - k) ≤ 9223372036854775807 := by unfold maxBytes; omega
    have hmb2 : k * 64 ≤ maxBytes ∧ k ≤ 9223372036854775807 := by unfold maxBytes; omega
    simp (disch := omega) [A_ref17_Put, h1, h2, hm1, hm2, hlp, htk, hdk, htt, htd, htl, hap, hlz, hml, hmb, hmb2, hk0, hk2, hne2, dec_yes, if_yes, -mnmxs, -getElem?_pos]
end Go.Proofs.Ytihgpnfkadldeaa.AM

end
section
/- A law's atoms and changes as lists. No condition. -/
namespace Go.Proofs.Ytihgpnfkadldeaa.AM
set_option linter.unusedSimpArgs false
set_option linter.unusedVariables false
open Go Go.Proofs.Ytihgpnfkadldeaa.U
theorem wtr_cuts : ∀ {l : List (List PV)}, WTR [.i .i64, .i .i64] l → ∃ cs : List (Int × Int), l = cutsL cs
  | _, .nil => ⟨[], rfl⟩
  | _, .cons hc hl => by
    obtain ⟨cs, rfl⟩ := wtr_cuts hl
    cases hc with
    | cons h1 h2 => cases h2 with
    | cons h2 h3 =>
      cases h3
      obtain ⟨a, rfl, _⟩ := wt_i64 h1
      obtain ⟨b, rfl, _⟩ := wt_i64 h2
      exact ⟨(a, b) :: cs, rfl⟩
/-- No longer than Go's own bounds. -/
def At.small (a : At) : Prop := a.txt.size ≤ 9223372036854775807 ∧ a.cuts.length ≤ 9223372036854775807
theorem wtr_ats : ∀ {l : List (List PV)}, WTR [.tx, .i .i64, .i .i64, .i .i64, .sl [.i .i64, .i .i64]] l → ∃ az : List At, l = ats az ∧ ∀ a ∈ az, a.small
  | _, .nil => ⟨[], rfl, by simp⟩
  | _, .cons hc hl => by
    obtain ⟨az, rfl, hs⟩ := wtr_ats hl
    cases hc with
    | cons h1 hc => cases hc with
    | cons h2 hc => cases hc with
    | cons h3 hc => cases hc with
    | cons h4 hc => cases hc with
    | cons h5 hc =>
      cases hc
      obtain ⟨t, rfl, ht⟩ := wt_tx h1
      obtain ⟨a, rfl, _⟩ := wt_i64 h2
      obtain ⟨b, rfl, _⟩ := wt_i64 h3
      obtain ⟨c, rfl, _⟩ := wt_i64 h4
      cases h5 with
      | sl hl5 hr5 =>
        obtain ⟨cs, rfl⟩ := wtr_cuts hr5
        refine ⟨⟨t, a, b, c, cs⟩ :: az, rfl, fun x hx => ?_⟩
        rcases List.mem_cons.1 hx with rfl | hx
        · exact ⟨ht, by simpa [maxLen] using hl5⟩
        · exact hs x hx
theorem wt_ats {x : PV} (h : WTA (.one (.sl [.tx, .i .i64, .i .i64, .i .i64, .sl [.i .i64, .i .i64]])) x) : ∃ az : List At, x = .sl 5 (ats az) ∧ az.length ≤ 9223372036854775807 ∧ ∀ a ∈ az, a.small := by
  cases h with
  | one h => cases h with
    | sl hl hr =>
      obtain ⟨az, rfl, hs⟩ := wtr_ats hr
      exact ⟨az, rfl, by simpa [maxLen] using hl, hs⟩
/-- A change. -/
structure Ch where
  f : Int
  t : Int
  s : ByteArray
  deriving DecidableEq
def Ch.pv (c : Ch) : List PV := [pi c.f, pi c.t, .sc (.string c.s)]
def chs (l : List Ch) : List (List PV) := l.map Ch.pv
@[simp] theorem chs_len (l : List Ch) : (chs l).length = l.length := by simp [chs]
@[simp] theorem chs_nil : chs [] = [] := rfl
theorem chs_at (l : List Ch) (n : Nat) (h : n < l.length) : (chs l)[n]? = some l[n].pv := by simp [chs, List.getElem?_eq_getElem h]
theorem chs_take (l : List Ch) : (chs l).take l.length = chs l := by rw [List.take_of_length_le (by simp)]
def inI (n : Int) : Prop := -9223372036854775808 ≤ n ∧ n ≤ 9223372036854775807
def Ch.wf (c : Ch) : Prop := inI c.f ∧ inI c.t ∧ c.s.size ≤ 9223372036854775807
theorem wtr_chs : ∀ {l : List (List PV)}, WTR [.i .i64, .i .i64, .tx] l → ∃ cs : List Ch, l = chs cs ∧ ∀ c ∈ cs, c.wf
  | _, .nil => ⟨[], rfl, by simp⟩
  | _, .cons hc hl => by
    obtain ⟨cs, rfl, hs⟩ := wtr_chs hl
    cases hc with
    | cons h1 hc => cases hc with
    | cons h2 hc => cases hc with
    | cons h3 hc =>
      cases hc
      obtain ⟨a, rfl, ha⟩ := wt_i64 h1
      obtain ⟨b, rfl, hb⟩ := wt_i64 h2
      obtain ⟨t, rfl, ht⟩ := wt_tx h3
      refine ⟨⟨a, b, t⟩ :: cs, rfl, fun x hx => ?_⟩
      rcases List.mem_cons.1 hx with rfl | hx
      · exact ⟨ha, hb, ht⟩
      · exact hs x hx
theorem wt_chs {x : PV} (h : WTA (.one (.sl [.i .i64, .i .i64, .tx])) x) : ∃ cs : List Ch, x = .sl 3 (chs cs) ∧ cs.length ≤ 9223372036854775807 ∧ ∀ c ∈ cs, c.wf := by
  cases h with
  | one h => cases h with
    | sl hl hr =>
      obtain ⟨cs, rfl, hs⟩ := wtr_chs hr
      exact ⟨cs, rfl, by simpa [maxLen] using hl, hs⟩
end Go.Proofs.Ytihgpnfkadldeaa.AM

end
