/- The reference's Upon on the small machine. For fewer than a million atoms, of fewer than a million cuts, texts of fewer than a million bytes. -/
import Derived.Test.YtihgpnfkadldeaaAR34
namespace Go.Proofs.Ytihgpnfkadldeaa.AM
set_option linter.unusedSimpArgs false
set_option linter.unusedVariables false
open Go Go.Proofs.Ytihgpnfkadldeaa.U
theorem up_weaken {n : Nat} : ∀ {sp : List Int} {j i : Nat}, Up n sp j → i ≤ j → Up n sp i
  | [], _, _, h, hi => Nat.le_trans hi h
  | _ :: _, _, _, ⟨h0, h1, h2, h3⟩, hi => ⟨h0, Nat.le_trans hi h1, h2, h3⟩
theorem up_drop {n : Nat} : ∀ (k : Nat) {sp : List Int} {j : Nat}, Up n sp j → Up n (sp.drop k) 0
  | 0, _, _, h => up_weaken h (Nat.zero_le _)
  | _ + 1, [], _, h => Nat.zero_le _
  | k + 1, _ :: _, _, ⟨_, _, _, h3⟩ => up_drop k h3
theorem cutI_mem (now gr : Int) (l : List At) (i : Int) (M : Nat) (h : ∀ a ∈ l, a.cuts.length < M) : ∀ a ∈ cutI now gr l i, a.cuts.length < M + 1 := by
  intro a ha
  unfold cutI at ha
  split at ha
  · rename_i b hb
    rcases List.mem_or_eq_of_mem_set ha with ha | rfl
    · have := h a ha; omega
    · have := h b (List.mem_of_getElem? hb)
      simp [cutAt]; omega
  · have := h a ha; omega
set_option maxHeartbeats 2000000 in
theorem ruc_loop (C : List (List PV)) (now gr rk : Int) (sn : Nat) (sp : List Int) (cu : List Int) (n : Nat) (hn : n < 1000000) (hcn : cu.length ≤ n) (hcm : ∀ x ∈ cu, 0 ≤ x ∧ x < n) : ∀ (m i : Nat) (z : List At), m + i = cu.length → z.length = n → (∀ a ∈ z, a.cuts.length < 1000000 + i) →
    Code (EX cpF) L_ref17_Upon_0 ⟨[(3, .p (.sl 3 C)), (4, .p (pi now)), (5, .p (pi gr)), (6, .p (pi rk)), (15, .p (.sl 1 (ints cu))), (16, .ms 16 0 sn), (17, .ms 32 0 n), (18, .p (pi i))], [(16, .row 3 1 false (ints sp)), (32, .dp 31 5 (dats z))]⟩ =
      some (.ex 0, ⟨[(3, .p (.sl 3 C)), (4, .p (pi now)), (5, .p (pi gr)), (6, .p (pi rk)), (15, .p (.sl 1 (ints cu))), (16, .ms 16 0 sn), (17, .ms 32 0 n), (18, .p (pi cu.length)), (36, .p (pb false))], [(16, .row 3 1 false (ints sp)), (32, .dp 31 5 (dats (cutIs now gr (cu.drop i) z)))]⟩) := by
  intro m
  induction m with
  | zero =>
    intro i z hi hz hc
    have : i = cu.length := by omega
    subst this
    rw [List.drop_length, cutIs, List.foldl_nil, L_ref17_Upon_0, k_loop]
    simp
  | succ m ih =>
    intro i z hi hz hc
    have h1 : i < cu.length := by omega
    have hg0 := ints_at cu i h1
    obtain ⟨b0, b1⟩ := hcm cu[i] (List.getElem_mem h1)
    have ih' := ih (i+1) (cutI now gr z cu[i]) (by omega) (by rw [cutI_len]; exact hz) (cutI_mem now gr z _ _ hc)
    rw [List.drop_eq_getElem_cons h1]
    have e : cutIs now gr (cu[i] :: cu.drop (i + 1)) z = cutIs now gr (cu.drop (i + 1)) (cutI now gr z cu[i]) := rfl
    rw [e, ← ih']
    generalize cu[i] = x at *
    obtain ⟨t, rfl⟩ : ∃ t : Nat, x = (t : Int) := ⟨x.toNat, by omega⟩
    have ht : t < z.length := by omega
    have hci : cutI now gr z (t : Int) = z.set t (cutAt z[t] now gr) := by
      unfold cutI
      rw [Int.toNat_natCast, List.getElem?_eq_getElem ht]
    rw [hci]
    have hg := dats_get z t ht
    have hp := dats_cut z t ht now gr
    have hln := putC_len (dats z) t 4 (.ow 0 0 [])
    have hcl := hc z[t] (List.getElem_mem ht)
    generalize z[t] = a at *
    simp only [At.dv] at hg
    have hcap : (a.cuts.length + 1) * 16 ≤ maxBytes ∧ a.cuts.length + 1 ≤ 9223372036854775807 := by unfold maxBytes; omega
    have hsn := cutsL_snoc a.cuts now gr
    have hset : (z.set t (cutAt a now gr)).length = n := by simp [hz]
    have htn : t < n := by omega
    rw [L_ref17_Upon_0, k_loop]
    simp (disch := omega) [evp, h1, hg0, hg, hz, hp, hln, hcap, hsn, hset, htn, dec_yes, dec_no, wrap_in, if_yes, -getElem?_pos]
/-- Slot 17: the row of atoms, or the empty one. -/
def s17 (r : Option Bool) (o : List At) : SV := match r with | some _ => .ms 17 0 o.length | none => .p (.sl 5 [])
def h17 (r : Option Bool) (o : List At) : List (Nat × Ob) := match r with | some f => [(17, .row 31 5 f (ats o))] | none => []
set_option maxHeartbeats 4000000 in
theorem rum_loop (now gr rk : Int) (z : List At) (c : List Ch) (sp : List Int) (hsp : sp = [] ∨ sp.length = c.length) (hz : z.length < 1000000) (hzc : ∀ a ∈ z, a.cuts.length < 2000000) (hc8 : sp.length ≤ 8) (hcs : ∀ x ∈ c, x.s.size < 1000000) (hup : Up z.length sp 0) : ∀ (k : Nat) (r : Option Bool) (o : List At), k ≤ sp.length → o = mrg now gr rk z (sp.drop k) (c.drop k) 0 → (r = none → o = []) → o.length ≤ 1000000 + 1000000 * (sp.length - k) → (∀ a ∈ o, a.cuts.length < 2000000) →
    ∃ r', (r' = none → mrg now gr rk z sp c 0 = []) ∧ Code (EX cpF) L_ref17_Upon_1 ⟨[(3, .p (.sl 3 (chs c))), (4, .p (pi now)), (5, .p (pi gr)), (6, .p (pi rk)), (16, .ms 16 0 sp.length), (17, s17 r o), (19, .p (pi ((k : Int) - 1)))], (16, .row 3 1 false (ints sp)) :: h17 r o⟩ =
      some (.ex 2, ⟨[(3, .p (.sl 3 (chs c))), (4, .p (pi now)), (5, .p (pi gr)), (6, .p (pi rk)), (16, .ms 16 0 sp.length), (17, s17 r' (mrg now gr rk z sp c 0)), (19, .p (pi (-1))), (63, .p (pb false))], (16, .row 3 1 false (ints sp)) :: h17 r' (mrg now gr rk z sp c 0)⟩) := by
  intro k
  induction k with
  | zero =>
    intro r o hk ho hr hol hoc
    rw [List.drop_zero, List.drop_zero] at ho
    subst ho
    refine ⟨r, hr, ?_⟩
    rw [L_ref17_Upon_1, k_loop]
    cases r <;> simp (disch := omega) [s17, h17, dec_yes, dec_no]
  | succ k ih =>
    intro r o hk ho hr hol hoc
    have h1 : k < sp.length := by omega
    have hlen : sp.length = c.length := by
      rcases hsp with h | h
      · rw [h] at h1; simp at h1
      · exact h
    have h2 : k < c.length := by omega
    have hu := up_drop k hup
    rw [List.drop_eq_getElem_cons h1] at hu
    obtain ⟨m1, m2⟩ := mrg_put now gr rk z sp[k] (sp.drop (k+1)) c[k] (c.drop (k+1)) (by simp; omega) hu
    rw [← ho] at m1 m2
    rw [← List.drop_eq_getElem_cons h1, ← List.drop_eq_getElem_cons h2] at m1
    have hx := hcs c[k] (List.getElem_mem h2)
    have hg1 := ints_at sp k h1
    have hg2 := chs_at c k h2
    have hcl : clampN sp[k] o.length = sp[k].toNat := by unfold clampN; omega
    have d := refPut o sp[k] c[k].s now gr rk (by omega) (fun a ha => by have := hoc a ha; omega) (by omega)
    rw [hcl, m1] at d
    have hnl : (mrg now gr rk z (sp.drop k) (c.drop k) 0).length ≤ 1000000 + 1000000 * (sp.length - k) := by
      rw [← m1]; unfold putL
      have h4 := points_le (L c[k].s); rw [L_len] at h4
      simp only [List.length_append, List.length_take, List.length_drop, newAts_len]
      omega
    have hnc : ∀ a ∈ mrg now gr rk z (sp.drop k) (c.drop k) 0, a.cuts.length < 2000000 := by
      rw [← m1]; unfold putL
      intro a ha
      simp only [List.mem_append] at ha
      rcases ha with (ha | ha) | ha
      · exact hoc a (List.mem_of_mem_take ha)
      · obtain ⟨v, hv, rfl⟩ := List.mem_map.1 ha
        simp
      · exact hoc a (List.mem_of_mem_drop ha)
    have i1 := fun r hr => ih r _ (by omega) rfl hr hnl hnc
    generalize mrg now gr rk z (sp.drop k) (c.drop k) 0 = o' at *
    have hpv : c[k].pv = [pi c[k].f, pi c[k].t, .sc (.string c[k].s)] := rfl
    rw [hpv] at hg2
    generalize c[k] = x at *
    generalize sp[k] = q at *
    have e1 : ((k + 1 : Nat) : Int) - 1 = (k : Int) := by omega
    rw [e1]
    have ht := ats_take o
    by_cases c0 : o' = []
    · subst c0
      obtain ⟨r', j1, j2⟩ := i1 none (fun _ => rfl)
      refine ⟨r', j1, ?_⟩
      rw [← j2, L_ref17_Upon_1, k_loop]
      rw [show putR [] = Ret.val (.sl 5 []) from rfl] at d
      cases r
      · rw [hr rfl, ats_nil] at d
        simp (disch := omega) [s17, h17, h1, h2, hg1, hg2, d, ht, dec_yes, dec_no, wrap_in, if_yes, -getElem?_pos]
      · simp (disch := omega) [s17, h17, h1, h2, hg1, hg2, d, ht, dec_yes, dec_no, wrap_in, if_yes, -getElem?_pos]
    · obtain ⟨r', j1, j2⟩ := i1 (some false) (fun h => by simp at h)
      refine ⟨r', j1, ?_⟩
      rw [← j2, L_ref17_Upon_1, k_loop]
      rw [show putR o' = Ret.own 31 5 (ats o') from if_neg c0] at d
      cases r
      · rw [hr rfl, ats_nil] at d
        simp (disch := omega) [s17, h17, h1, h2, hg1, hg2, d, ht, dec_yes, dec_no, wrap_in, if_yes, -getElem?_pos]
      · simp (disch := omega) [s17, h17, h1, h2, hg1, hg2, d, ht, dec_yes, dec_no, wrap_in, if_yes, -getElem?_pos]
end Go.Proofs.Ytihgpnfkadldeaa.AM
