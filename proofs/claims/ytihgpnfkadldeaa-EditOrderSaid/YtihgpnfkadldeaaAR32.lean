/- edit.Upon's third round on the small machine: texts are put between. -/
import Derived.Test.YtihgpnfkadldeaaAR31
namespace Go.Proofs.Ytihgpnfkadldeaa.AM
set_option linter.unusedSimpArgs false
set_option linter.unusedVariables false
open Go Go.Proofs.Ytihgpnfkadldeaa.U
variable {cp : List PV → Option Ret}
/-- The atoms between, and the new ones; from a place on. -/
def mrg (now gr rk : Int) (z : List At) : List Int → List Ch → Nat → List At
  | s :: sp, x :: c, k => (z.drop k).take (s.toNat - k) ++ newAts (L x.s) now gr rk ++ mrg now gr rk z sp c s.toNat
  | _, _, k => z.drop k
/-- The places do not fall, and lie within. -/
def Up (n : Nat) : List Int → Nat → Prop
  | [], k => k ≤ n
  | s :: sp, k => 0 ≤ s ∧ k ≤ s.toNat ∧ s.toNat ≤ n ∧ Up n sp s.toNat
set_option maxHeartbeats 2000000 in
theorem um_loop (now gr rk : Int) (z : List At) (c : List Ch) (sp : List Int) (hsp : sp.length = c.length) (hz : z.length < 1000000) (hc8 : c.length ≤ 8) (hcs : ∀ x ∈ c, x.s.size < 1000000) : ∀ (m i k : Nat) (acc : List At) (f1 f2 : Bool), m + i = c.length → Up z.length (sp.drop i) k → k ≤ z.length → acc.length ≤ 2000000 * i →
    ∃ (acc' : List At) (k' : Nat) (f3 f4 : Bool), k' ≤ z.length ∧ acc'.length ≤ 2000000 * c.length ∧ acc' ++ z.drop k' = acc ++ mrg now gr rk z (sp.drop i) (c.drop i) k ∧
    Code (EX cp) L_edit_Upon_2 ⟨[(4, .p (pi now)), (5, .p (pi gr)), (6, .p (pi rk)), (15, .ms 15 0 c.length), (16, .ms 16 0 acc.length), (20, .ms 20 0 z.length), (22, .p (pi k)), (91, .p (.sl 3 (chs c))), (92, .p (pi c.length)), (93, .p (pi i))], [(15, .row 3 1 f1 (ints sp)), (16, .row 31 5 false (ats acc)), (20, .row 31 5 f2 (ats z))]⟩ =
      some (.ex 4, ⟨[(4, .p (pi now)), (5, .p (pi gr)), (6, .p (pi rk)), (15, .ms 15 0 c.length), (16, .ms 16 0 acc'.length), (20, .ms 20 0 z.length), (22, .p (pi k')), (91, .p (.sl 3 (chs c))), (92, .p (pi c.length)), (93, .p (pi c.length)), (94, .p (pb false))], [(15, .row 3 1 f3 (ints sp)), (16, .row 31 5 false (ats acc')), (20, .row 31 5 f4 (ats z))]⟩) := by
  intro m
  induction m with
  | zero =>
    intro i k acc f1 f2 hi hup hk ha
    have : i = c.length := by omega
    subst this
    refine ⟨acc, k, f1, f2, hk, ha, ?_, ?_⟩
    · rw [List.drop_length, ← hsp, List.drop_length, mrg]
      intro _ _ _ _ h _; simp at h
    · rw [L_edit_Upon_2, k_loop]
      simp
  | succ m ih =>
    intro i k acc f1 f2 hi hup hk ha
    have h1 : i < c.length := by omega
    have h2 : i < sp.length := by omega
    have hg := chs_at c i h1
    have hgs := ints_at sp i h2
    have hxs := hcs c[i] (List.getElem_mem h1)
    rw [List.drop_eq_getElem_cons h2] at hup
    rw [List.drop_eq_getElem_cons h1, List.drop_eq_getElem_cons h2, mrg]
    obtain ⟨u0, u1, u2, u3⟩ := hup
    have hp := atomPut (cp := cp) [] 0 c[i].s now gr rk (by simp) (by simp) (by omega)
    rw [putL_nil, ats_nil] at hp
    have hnl : (newAts (L c[i].s) now gr rk).length ≤ c[i].s.size := by
      rw [newAts_len]
      have := points_le (L c[i].s); rw [L_len] at this; exact this
    generalize c[i] = x at *
    generalize sp[i] = s at *
    obtain ⟨t, rfl⟩ : ∃ t : Nat, s = (t : Int) := ⟨s.toNat, by omega⟩
    rw [Int.toNat_natCast] at *
    have hpv : x.pv = [pi x.f, pi x.t, .sc (.string x.s)] := rfl
    rw [hpv] at hg
    generalize newAts (L x.s) now gr rk = nw at *
    have hml : ((z.drop k).take (t - k)).length = t - k := by rw [List.length_take, List.length_drop]; omega
    obtain ⟨acc', k', f3, f4, a1, a2, a3, a4⟩ := ih (i+1) t (acc ++ (z.drop k).take (t - k) ++ nw) f1 f2 (by omega) u3 u2 (by simp only [List.length_append, hml]; omega)
    refine ⟨acc', k', f3, f4, a1, a2, ?_, ?_⟩
    · rw [a3]; simp only [List.append_assoc]
    have e1 : (ats z).drop k = ats (z.drop k) := by simp [ats, List.map_drop]
    have e2 : (ats (z.drop k)).take (t - k) = ats ((z.drop k).take (t - k)) := by simp [ats, List.map_take]
    have e3 := ats_append acc ((z.drop k).take (t - k))
    have e4 := ats_append (acc ++ (z.drop k).take (t - k)) nw
    have e5 : (acc ++ (z.drop k).take (t - k)).length = acc.length + (t - k) := by rw [List.length_append, hml]
    have e6 : (acc ++ (z.drop k).take (t - k) ++ nw).length = acc.length + (t - k) + nw.length := by rw [List.length_append, e5]
    have e7 := ats_take nw
    rw [← a4, e6]
    generalize (z.drop k).take (t - k) = md at *
    generalize acc ++ md ++ nw = a3' at *
    generalize acc ++ md = a2' at *
    have hcap : (acc.length + (t - k)) * 64 ≤ maxBytes ∧ acc.length + (t - k) ≤ 9223372036854775807 := by unfold maxBytes; omega
    have hcap2 : (acc.length + (t - k) + nw.length) * 64 ≤ maxBytes ∧ acc.length + (t - k) + nw.length ≤ 9223372036854775807 := by unfold maxBytes; omega
    rw [L_edit_Upon_2, k_loop]
    simp (disch := omega) [h1, hg, hgs, hp, e1, e2, e3, e4, e5, e7, hml, hcap, hcap2, dec_yes, dec_no, wrap_in, if_yes, -getElem?_pos]
end Go.Proofs.Ytihgpnfkadldeaa.AM
