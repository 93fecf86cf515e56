/- The law AtomCopies on the small machine. No condition. -/
import Derived.Test.YtihgpnfkadldeaaAR13
import Derived.Test.YtihgpnfkadldeaaAE
namespace Go.Proofs.Ytihgpnfkadldeaa.atomCopies
set_option linter.unusedSimpArgs false
set_option linter.unusedVariables false
open Go Go.Proofs.Ytihgpnfkadldeaa.U Go.Proofs.Ytihgpnfkadldeaa.AM
def shapes : List PSh := [.one .tx, .one (.i .u8)]
theorem points_nonempty (s : ByteArray) (h : 0 < s.size) : 0 < (points (L s)).length := by
  have := points_at s 0 h
  rw [List.drop_zero] at this
  rw [this]
  split <;> simp
theorem cut_get (l : List At) (k : Nat) (h : k < l.length) (rv gr : Int) : (cutL l k rv gr)[k]? = some (cutAt l[k] rv gr) := by
  rw [cutL_in l k rv gr h, List.getElem?_set_self h]
theorem ats_get (l : List At) (k : Nat) (a : At) (h : l[k]? = some a) : (ats l)[k]? = some a.pv := by
  unfold ats; rw [List.getElem?_map, h]; rfl
theorem dats_get' (l : List At) (k : Nat) (a : At) (h : l[k]? = some a) : (dats l)[k]? = some a.dv := by
  unfold dats; rw [List.getElem?_map, h]; rfl
set_option maxHeartbeats 8000000 in
set_option maxRecDepth 10000 in
theorem law (xs : List PV) (h : WTAs shapes xs) : Run EV 7 xs = some (.val (.sc (.bool true))) := by
  cases h with
  | cons h1 h => cases h with
  | cons h2 h =>
  cases h
  obtain ⟨s, rfl, hs1⟩ := wt_str h1
  obtain ⟨b, rfl⟩ := wt_byte h2
  have hk : Run EV 15 [] = some (.val (pb true)) := known17
  rw [show Run EV 7 [.sc (.string s), .sc (.int .u8 b.toNat)] = _ from run_fn _ A_law17_AtomCopies _ rfl rfl rfl, ← show EV = EX fun _ => none from rfl]
  by_cases c1 : s.size ≤ 40
  case neg => simp (disch := omega) [A_law17_AtomCopies, hk, dec_yes, dec_no]
  have p1 := atomPut (cp := fun _ => none) [] 0 s 1 0 0 (by simp) (by simp) (by omega)
  rw [putL_nil] at p1
  have hpl := points_le (L s)
  rw [L_len] at hpl
  have hnl := newAts_len (L s) 1 0 0
  have hin : ∀ a ∈ newAts (L s) 1 0 0, a.rv = 1 ∧ a.gr = 0 ∧ a.rk = 0 ∧ a.cuts = [] := by
    intro a ha
    obtain ⟨v, _, rfl⟩ := List.mem_map.1 ha
    exact ⟨rfl, rfl, rfl, rfl⟩
  have hpn := points_nonempty s
  generalize newAts (L s) 1 0 0 = l at *
  by_cases hz : l.length = 0
  · have hs0 : s = ⟨#[]⟩ := by
      rcases Nat.eq_zero_or_pos s.size with h | h
      · exact L_inj (List.eq_nil_of_length_eq_zero (by rw [L_len]; exact h) |>.trans (show [] = L ⟨#[]⟩ from rfl))
      · have := hpn h; omega
    have hl0 : l = [] := List.eq_nil_of_length_eq_zero hz
    rw [show EX (fun _ => none) = EV from rfl, hl0] at p1
    rw [hs0] at p1 ⊢
    simp only [ats_nil] at p1
    have hsz0 : (⟨#[]⟩ : ByteArray).size = 0 := rfl
    simp (disch := omega) [A_law17_AtomCopies, hk, dec_yes, dec_no, p1, hz, hsz0]
  obtain ⟨k, hkd⟩ : ∃ k, k = b.toNat % l.length := ⟨_, rfl⟩
  have hlt : k < l.length := by rw [hkd]; exact Nat.mod_lt _ (by omega)
  have htm : ((b.toNat : Int).tmod (l.length : Int)) = (k : Int) := by rw [tmod_nat, ← hkd]
  have hcl : ∀ a ∈ l, a.cuts.length < 68719476736 := fun a ha => by rw [(hin a ha).2.2.2]; simp
  have p2 := atomCut (cp := fun _ => none) l k 2 1 (by omega) hcl
  have hml := cutL_length l k 2 1
  have gm := cut_get l k hlt 2 1
  have gl : l[k]? = some l[k] := List.getElem?_eq_getElem hlt
  obtain ⟨q1, q2, q3, q4⟩ := hin _ (List.getElem_mem hlt)
  have hm0 : ∃ a0, (cutL l k 2 1)[0]? = some a0 ∧ a0.rk = 0 := by
    rw [cutL_in l k 2 1 hlt]
    have h0 : 0 < (l.set k (cutAt l[k] 2 1)).length := by simp; omega
    refine ⟨_, List.getElem?_eq_getElem h0, ?_⟩
    rcases List.mem_or_eq_of_mem_set (List.getElem_mem h0) with ha | ha
    · exact (hin _ ha).2.2.1
    · rw [ha]; exact q3
  obtain ⟨a0, gm0, ha0⟩ := hm0
  have hmc : ∀ a ∈ cutL l k 2 1, a.cuts.length < 68719476736 := by
    rw [cutL_in l k 2 1 hlt]
    intro a ha
    rcases List.mem_or_eq_of_mem_set ha with ha | rfl
    · exact hcl a ha
    · simp [cutAt, q4]
  generalize l[k] = x at *
  obtain ⟨xt, xr, xg, xk, xc⟩ := x
  obtain ⟨at0, ar0, ag0, ak0, ac0⟩ := a0
  dsimp only at q1 q2 q3 q4 ha0
  subst q1 q2 q3 q4 ha0
  simp only [cutAt, List.nil_append] at gm
  generalize hmm : cutL l k 2 1 = m at *
  have hlt2 : k < m.length := by omega
  have gmk : m[k] = ⟨xt, 1, 0, 0, [(2, 1)]⟩ := by
    rw [List.getElem?_eq_getElem hlt2] at gm
    exact Option.some.inj gm
  have p3 := atomCut (cp := fun _ => none) m k 3 2 (by omega) hmc
  have gn := cut_get m k hlt2 3 2
  have hnl2 := cutL_length m k 3 2
  have p4 := atomCut (cp := fun _ => none) m k 4 3 (by omega) hmc
  have go := cut_get m k hlt2 4 3
  have hol := cutL_length m k 4 3
  rw [gmk] at gn go
  simp only [cutAt, List.cons_append, List.nil_append] at gn go
  have p5 := atomCopy (cp := fun _ => none) m (by omega) hmc
  have p6 := atomCut (cp := fun _ => none) l (-1) 5 5 (by omega) hcl
  rw [cutL_out l (-1) 5 5 (by omega)] at p6
  have p7 := atomCut (cp := fun _ => none) l l.length 5 5 (by omega) hcl
  rw [cutL_out l l.length 5 5 (by omega)] at p7
  have p8 := refSame (cp := fun _ => none) l l (by omega) ⟨fun a ha => by have := hcl a ha; omega, fun a ha => by have := hcl a ha; omega⟩
  rw [decide_eq_true rfl] at p8
  generalize cutL m k 3 2 = n at *
  generalize cutL m k 4 3 = o at *
  have Gl := ats_get l k _ gl
  have Gm := ats_get m k _ gm
  have Gm0 := ats_get m 0 _ gm0
  have Gn := ats_get n k _ gn
  have Go := ats_get o k _ go
  have Gd := dats_get' m k _ gm
  simp only [At.pv, At.dv, cutsL, cutV, List.map_cons, List.map_nil] at Gl Gm Gm0 Gn Go Gd
  have hpc := putC_len (dats m) k 4 (.ow 0 0 [])
  have hne : ¬ l = [] := fun e => hz (by rw [e]; rfl)
  have t1 : (ats m).take l.length = ats m := by rw [← hml, ats_take]
  have t2 : (ats n).take l.length = ats n := by rw [← hml, ← hnl2, ats_take]
  have t3 : (ats o).take l.length = ats o := by rw [← hml, ← hol, ats_take]
  have h0m : 0 < l.length := by omega
  have hbl := b.toNat_lt
  rw [show EX (fun _ => none) = EV from rfl] at *
  simp only [ats_nil] at p1
  simp (disch := omega) [A_law17_AtomCopies, hk, dec_yes, dec_no, p1, p2, p3, p4, p5, p6, p7, p8, Gl, Gm, Gm0, Gn, Go, Gd, hpc, htm, hz, hne, hml, hnl2, hol, t1, t2, t3, hlt, h0m, wrap_in, PV.noOw, if_yes, -getElem?_pos]
end Go.Proofs.Ytihgpnfkadldeaa.atomCopies
