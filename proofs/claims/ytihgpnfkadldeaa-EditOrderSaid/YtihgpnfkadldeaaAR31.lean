/- edit.Upon's second round on the small machine: the cuts are written. -/
import Derived.Test.YtihgpnfkadldeaaAR30
namespace Go.Proofs.Ytihgpnfkadldeaa.AM
set_option linter.unusedSimpArgs false
set_option linter.unusedVariables false
open Go Go.Proofs.Ytihgpnfkadldeaa.U
variable {cp : List PV → Option Ret}
def cutZ (now gr : Int) : List Bool → List At → List At
  | b :: bo, a :: l => (if b = true then cutAt a now gr else a) :: cutZ now gr bo l
  | _, l => l
theorem cutZ_nil (now gr : Int) (l : List At) : cutZ now gr [] l = l := by cases l <;> rfl
theorem cutZ_len (now gr : Int) : ∀ (bo : List Bool) (l : List At), (cutZ now gr bo l).length = l.length
  | [], l => by rw [cutZ_nil]
  | b :: bo, [] => rfl
  | b :: bo, a :: l => by rw [cutZ, List.length_cons, cutZ_len now gr bo l]; rfl
theorem cutZ_get (now gr : Int) : ∀ (bo : List Bool) (l : List At) (i : Nat), bo.length ≤ i → (cutZ now gr bo l)[i]? = l[i]?
  | [], l, i, _ => by rw [cutZ_nil]
  | b :: bo, [], i, _ => rfl
  | b :: bo, a :: l, i, h => by
    rw [List.length_cons] at h
    obtain ⟨j, rfl⟩ : ∃ j, i = j + 1 := ⟨i - 1, by omega⟩
    rw [cutZ, List.getElem?_cons_succ, List.getElem?_cons_succ]
    exact cutZ_get now gr bo l j (by omega)
theorem cutZ_snoc (now gr : Int) : ∀ (bo : List Bool) (l : List At) (b : Bool) (h : bo.length < l.length), cutZ now gr (bo ++ [b]) l = (cutZ now gr bo l).set bo.length (if b = true then cutAt l[bo.length] now gr else l[bo.length])
  | [], [], b, h => by simp at h
  | [], a :: l, b, h => by
    show cutZ now gr [b] (a :: l) = _
    rw [cutZ, cutZ_nil, cutZ_nil]; rfl
  | c :: bo, [], b, h => by simp at h
  | c :: bo, a :: l, b, h => by
    rw [List.length_cons, List.length_cons] at h
    rw [List.cons_append, cutZ, cutZ, cutZ_snoc now gr bo l b (by omega)]
    simp only [List.length_cons, List.getElem_cons_succ, List.set_cons_succ]
theorem cutZ_cuts (now gr : Int) : ∀ (bo : List Bool) (l : List At) (a : At), a ∈ cutZ now gr bo l → ∃ b ∈ l, a.txt = b.txt ∧ a.rv = b.rv ∧ a.gr = b.gr ∧ a.rk = b.rk ∧ a.cuts.length ≤ b.cuts.length + 1
  | [], l, a, h => by rw [cutZ_nil] at h; exact ⟨a, h, rfl, rfl, rfl, rfl, by omega⟩
  | b :: bo, [], a, h => by simp [cutZ] at h
  | b :: bo, x :: l, a, h => by
    rw [cutZ] at h
    rcases List.mem_cons.1 h with rfl | h
    · refine ⟨x, by simp, ?_⟩
      split <;> simp [cutAt]
    · obtain ⟨y, h1, h2⟩ := cutZ_cuts now gr bo l a h
      exact ⟨y, by simp [h1], h2⟩
set_option maxHeartbeats 2000000 in
theorem uc_loop (C : List (List PV)) (now gr rk : Int) (sp : List Int) (bo : List Bool) (l : List At) (hbo : bo.length = l.length) (hl : l.length < 1099511627776) (hc : ∀ a ∈ l, a.cuts.length < 68719476736) : ∀ (m i : Nat), m + i = l.length →
    Code (EX cp) L_edit_Upon_1 ⟨[(3, .p (.sl 3 C)), (4, .p (pi now)), (5, .p (pi gr)), (6, .p (pi rk)), (15, .ms 15 0 sp.length), (16, .ms 16 0 0), (17, .ms 17 0 l.length), (20, .ms 20 0 l.length), (68, .p (pi l.length)), (69, .p (pi i))], [(15, .row 3 1 false (ints sp)), (16, .row 31 5 false []), (17, .row 4 1 false (bools bo)), (20, .dp 31 5 (dats (cutZ now gr (bo.take i) l)))]⟩ =
      some (.ex 2, ⟨[(3, .p (.sl 3 C)), (4, .p (pi now)), (5, .p (pi gr)), (6, .p (pi rk)), (15, .ms 15 0 sp.length), (16, .ms 16 0 0), (17, .ms 17 0 l.length), (20, .ms 20 0 l.length), (68, .p (pi l.length)), (69, .p (pi l.length)), (70, .p (pb false))], [(15, .row 3 1 false (ints sp)), (16, .row 31 5 false []), (17, .row 4 1 false (bools bo)), (20, .dp 31 5 (dats (cutZ now gr bo l)))]⟩) := by
  intro m
  induction m with
  | zero =>
    intro i hi
    have : i = l.length := by omega
    subst this
    rw [← hbo, List.take_length, hbo, L_edit_Upon_1, k_loop]
    simp
  | succ m ih =>
    intro i hi
    have h1 : i < l.length := by omega
    have h2 : i < bo.length := by omega
    have hgb := bools_at bo i h2
    have ih' := ih (i+1) (by omega)
    have htk : (bo.take i).length = i := by rw [List.length_take]; omega
    have hs := cutZ_snoc now gr (bo.take i) l bo[i] (by omega)
    rw [← List.take_succ_eq_append_getElem h2] at hs
    have hge := cutZ_get now gr (bo.take i) l i (by omega)
    have hzl := cutZ_len now gr (bo.take i) l
    have hz2 := cutZ_len now gr (bo.take (i+1)) l
    simp only [htk] at hs
    rw [hs] at ih'
    generalize hz : cutZ now gr (bo.take i) l = z at *
    have hzi : i < z.length := by omega
    rw [List.getElem?_eq_getElem hzi, List.getElem?_eq_getElem h1] at hge
    have hge' := Option.some.inj hge
    have hcl := hc l[i] (List.getElem_mem h1)
    cases hb : bo[i]
    · rw [hb] at ih' hgb
      rw [if_neg (by simp), ← hge', List.set_getElem_self] at ih'
      rw [← ih', L_edit_Upon_1, k_loop]
      simp (disch := omega) [h1, hgb, dec_yes, dec_no, wrap_in, if_yes, -getElem?_pos]
    · rw [hb] at ih' hgb
      rw [if_pos rfl, ← hge'] at ih'
      rw [← hge'] at hcl
      have hg := dats_get z i hzi
      have hp := dats_cut z i hzi now gr
      have hln := putC_len (dats z) i 4 (.ow 0 0 [])
      generalize z[i] = a at *
      simp only [At.dv] at hg
      have hcap : (a.cuts.length + 1) * 16 ≤ maxBytes ∧ a.cuts.length + 1 ≤ 9223372036854775807 := by unfold maxBytes; omega
      have hsn := cutsL_snoc a.cuts now gr
      have hset : (z.set i (cutAt a now gr)).length = l.length := by simp [hzl]
      rw [← ih', L_edit_Upon_1, k_loop]
      simp (disch := omega) [h1, hgb, hg, hzl, hp, hln, hcap, hsn, hset, dec_yes, dec_no, wrap_in, if_yes, -getElem?_pos]
end Go.Proofs.Ytihgpnfkadldeaa.AM
