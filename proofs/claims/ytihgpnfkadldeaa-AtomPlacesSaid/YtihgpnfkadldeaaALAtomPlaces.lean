/- The law AtomPlaces on the small machine. No condition. -/
import Derived.Test.YtihgpnfkadldeaaAR12
import Derived.Test.YtihgpnfkadldeaaAE
namespace Go.Proofs.Ytihgpnfkadldeaa.atomPlaces
set_option linter.unusedSimpArgs false
set_option linter.unusedVariables false
open Go Go.Proofs.Ytihgpnfkadldeaa.U Go.Proofs.Ytihgpnfkadldeaa.AM
def shapes : List PSh := [.one (.sl [.tx]), .one (.sl [.i .u8])]
theorem fitOf {ts : List ByteArray} {n : Nat} {l : List At} (h : APinv ts n l) (hn : n ≤ 1000) (h1 : ts.length ≤ 1000) (h2 : (ts.map fun t => t.size).sum ≤ 1000000) : Fit l := by
  refine ⟨by have := h.len; omega, ?_, fun a ha => by have := (h.2 a ha).2.2.1; omega⟩
  have : sumT l = (ts.map fun t => t.size).sum := by rw [← h.1, List.map_map]; rfl
  omega
theorem sizes_flat : ∀ ts : List ByteArray, (ts.map fun t => t.size).sum = (ts.flatMap L).length
  | [] => rfl
  | t :: ts => by rw [List.map_cons, List.sum_cons, List.flatMap_cons, List.length_append, sizes_flat ts, L_len]
theorem inv_new (s : List UInt8) : APinv (ptsS s) 0 (newAts s 1 0 0) := by
  refine ⟨newAts_txts s 1 0 0, fun a ha => ?_⟩
  obtain ⟨v, _, rfl⟩ := List.mem_map.1 ha
  exact ⟨rfl, rfl, Nat.le_refl _, by simp⟩
set_option maxHeartbeats 4000000 in
set_option maxRecDepth 10000 in
theorem law (xs : List PV) (h : WTAs shapes xs) : Run EV 6 xs = some (.val (.sc (.bool true))) := by
  cases h with
  | cons h1 h => cases h with
  | cons h2 h =>
  cases h
  obtain ⟨ts, rfl, ht1, ht2⟩ := wt_strs h1
  obtain ⟨bs, rfl, hb1⟩ := wt_u8s h2
  have hk : Run EV 15 [] = some (.val (pb true)) := known17
  rw [show Run EV 6 [.sl 1 (strs ts), .sl 1 (bRows bs)] = _ from run_fn _ A_law17_AtomPlaces _ rfl rfl rfl, ← show EV = EX fun _ => none from rfl]
  by_cases c1 : ts.length ≤ 8
  case neg => simp (disch := omega) [A_law17_AtomPlaces, hk, dec_yes, dec_no]
  by_cases c2 : bs.length ≤ 12
  case neg => simp (disch := omega) [A_law17_AtomPlaces, hk, dec_yes, dec_no]
  rcases texts_loop (cp := fun _ => none) ts bs c1 ts.length 0 ⟨#[]⟩ (by omega) (by decide) with hl0 | ⟨s, hl0, hs⟩
  · rw [show EX (fun _ => none) = EV from rfl] at hl0
    simp at hl0
    simp (disch := omega) [A_law17_AtomPlaces, hk, dec_yes, dec_no, hl0]
  have p1 := atomPut (cp := fun _ => none) [] 0 s 1 0 0 (by simp) (by simp) (by omega)
  rw [putL_nil] at p1
  have hpl := points_le (L s)
  rw [L_len] at hpl
  have hnl := newAts_len (L s) 1 0 0
  have hI := inv_new (L s)
  have htl : (ptsS (L s)).length ≤ 1000 := by unfold ptsS; rw [List.length_map]; omega
  obtain ⟨l, i', hl1, hI2⟩ := cuts_loop (cp := fun _ => none) (ptsS (L s)) s bs c2 htl bs.length 0 _ (by omega) hI
  have hcl := clean_le (L s)
  rw [L_len] at hcl
  have hf : Fit l := fitOf hI2 (by omega) htl (by rw [sizes_flat, ptsS_flat]; omega)
  have p2 := atomPlaces (cp := fun _ => none) l 2 [] hf (by simp)
  have hl2 := places_test (cp := fun _ => none) l s hf (l.length + 1) 0 (by omega)
  have p3 := atomText (cp := fun _ => none) l 2 [1] hf (by simp)
  have e3 : txtS 2 [1] l = cleanS s := by
    unfold txtS cleanS
    rw [txtF_all 2 [1] l fun a ha => ?_, hI2.1, ptsS_flat]
    obtain ⟨q1, q2, _, q4⟩ := hI2.2 a ha
    unfold At.vis
    rw [q1, q2]
    have : (a.cuts.any fun q => decide (q.1 ≤ 2) && holdsF q.2 [1]) = false := by
      rw [List.any_eq_false]
      intro q hq
      rw [q4 q hq]
      decide
    rw [this]
    decide
  rw [e3] at p3
  have p4 := atomText (cp := fun _ => none) l 0 [] hf (by simp)
  have e4 : txtS 0 [] l = ⟨#[]⟩ := by
    unfold txtS
    rw [txtF_none 0 [] l fun a ha => ?_]
    obtain ⟨q1, _⟩ := hI2.2 a ha
    unfold At.vis
    rw [q1]
    rfl
  rw [e4] at p4
  have p5 := refClean (cp := fun _ => none) s (by omega)
  have e1 : ints [1] = [[pi 1]] := rfl
  rw [e1] at p3
  rw [show EX (fun _ => none) = EV from rfl] at *
  have hplen := places_len 2 [] l
  simp only [ats_nil, ints_nil] at p1 p2 p4
  simp at hl0 hl1 hl2
  generalize newAts (L s) 1 0 0 = l0 at *
  generalize places 2 [] l = pl at *
  have hll := hf.len
  simp (disch := omega) [A_law17_AtomPlaces, hk, dec_yes, dec_no, hl0, p1, p2, p3, p4, p5, hl1, hl2, hplen, wrap_in, -getElem?_pos]
end Go.Proofs.Ytihgpnfkadldeaa.atomPlaces
