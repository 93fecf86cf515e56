/- MADE BY sync2.py: RT9, RP1, RP2, RP3, RP4, RP5, RP6, one behind the other. No condition but what they say. -/
import Derived.Test.YtomnggbideepeaaQ9
import Derived.Test.YtomnggbideepeaaQ8
section
/- Trees on the small machine: Seek. For fewer than 2^30 bytes, pieces. -/
namespace Go.Proofs.Ytomnggbideepeaa.AM
set_option linter.unusedSimpArgs false
set_option linter.unusedVariables false
open Go Go.Proofs.Ytomnggbideepeaa.U
variable {cp : List PV → Option Ret}
/-- A function that tells of counts. -/
def Tells (cp : List PV → Option Ret) (f : FuncId) (cs : List PV) (p : C4 → Bool) : Prop := ∀ c : C4, c.sm → Run (EX cp) f (c.pv :: cs) = some (.val (pb (p c)))
theorem add4_bd {a l : List ByteArray} (h : Bd (a ++ l)) : (add4 (cntP a) (cntP l)).sm := by rw [← cntP_append]; exact h.sm
set_option maxHeartbeats 2000000 in
theorem seek_leaf (f : FuncId) (cs : List PV) (p : C4 → Bool) (hf : Tells cp f cs p) (a l : List ByteArray) (hb : Bd (a ++ l)) : ∀ (m j : Nat), m + j = l.length → p (cntP (a ++ l)) = true → p (cntP (a ++ l.take j)) = false →
    ∃ k, k < l.length ∧ seekL p (l.drop j) (cntP (a ++ l.take j)) (a.length + j) = (a.length + k, cntP (a ++ l.take k)) ∧
    ∀ R5 : Ob, ∃ R13' : Ob, Code (EX cp) L_tree_Seq_rope_piece_rope_counts_Seek_2 ⟨[(1, .p (.fn f cs)), (5, .mp 5 0 0), (6, .mp 6 0 0), (8, .p (pi (a.length + j : Nat))), (74, .p (.sl 1 (strs l))), (75, .p (pi l.length)), (76, .p (pi j))], [(5, R5), (6, .row 95 4 false [[pi (cntP (a ++ l.take j)).1, pi (cntP (a ++ l.take j)).2.1, pi (cntP (a ++ l.take j)).2.2.1, pi (cntP (a ++ l.take j)).2.2.2]])]⟩ =
      some (.ex 4, ⟨[(1, .p (.fn f cs)), (5, .mp 5 0 0), (6, .mp 6 0 0), (8, .p (pi (a.length + k : Nat))), (13, .mp 13 0 0), (74, .p (.sl 1 (strs l))), (75, .p (pi l.length)), (76, .p (pi k)), (88, .p (pb true))], [(5, R5), (6, .row 95 4 false [[pi (cntP (a ++ l.take k)).1, pi (cntP (a ++ l.take k)).2.1, pi (cntP (a ++ l.take k)).2.2.1, pi (cntP (a ++ l.take k)).2.2.2]]), (13, R13')]⟩) := by
  intro m
  induction m with
  | zero =>
    intro j hj h1 h2
    have : j = l.length := by omega
    subst this
    rw [List.take_length, h1] at h2
    simp at h2
  | succ m ih =>
    intro j hj h1 h2
    have hlt : j < l.length := by omega
    have hg := strs_at l j hlt
    have hbl := hb.2
    rw [List.length_append] at hbl
    have hx := hb.right.mem (List.getElem_mem hlt)
    have htk : l.take (j + 1) = l.take j ++ [l[j]] := List.take_succ_eq_append_getElem hlt
    have hsn : cntP (a ++ l.take (j + 1)) = add4 (cntP (a ++ l.take j)) (cntS l[j]) := by rw [htk, ← List.append_assoc, cntP_snoc]
    have hb1 : Bd (a ++ l.take j) := by
      have : Bd ((a ++ l.take j) ++ l.drop j) := by rw [List.append_assoc, List.take_append_drop]; exact hb
      exact this.left
    have hb2 : Bd (a ++ l.take (j + 1)) := by
      have : Bd ((a ++ l.take (j + 1)) ++ l.drop (j + 1)) := by rw [List.append_assoc, List.take_append_drop]; exact hb
      exact this.left
    have d1 := ropeSum1 (cp := cp) l[j] (by omega)
    have d2 := ropePlus (cp := cp) (cntP (a ++ l.take j)) (cntS l[j]) hb1.sm (cntS_sm hx)
    rw [← hsn] at d2
    have d3 := hf (cntP (a ++ l.take (j + 1))) hb2.sm
    rw [List.drop_eq_getElem_cons hlt, seekL, ← hsn]
    unfold C4.pv at d1 d2 d3
    by_cases c : p (cntP (a ++ l.take (j + 1))) = true
    · refine ⟨j, hlt, by rw [if_pos c], fun R5 => ?_⟩
      rw [c] at d3
      refine ⟨.row 95 4 false [[pi (cntP (a ++ l.take (j + 1))).1, pi (cntP (a ++ l.take (j + 1))).2.1, pi (cntP (a ++ l.take (j + 1))).2.2.1, pi (cntP (a ++ l.take (j + 1))).2.2.2]], ?_⟩
      generalize cntP (a ++ l.take (j + 1)) = c2 at *
      generalize cntP (a ++ l.take j) = c1 at *
      generalize l[j] = x at *
      generalize cntS x = c3 at *
      rw [L_tree_Seq_rope_piece_rope_counts_Seek_2, k_loop]
      simp (disch := omega) [hlt, hg, d1, d2, d3, dec_yes, dec_no, wrap_in, if_yes, -getElem?_pos]
    · have c' : p (cntP (a ++ l.take (j + 1))) = false := by simpa using c
      obtain ⟨k, hk, e1, e2⟩ := ih (j + 1) (by omega) h1 c'
      refine ⟨k, hk, by rw [if_neg c]; exact e1, fun R5 => ?_⟩
      obtain ⟨R13', e3⟩ := e2 R5
      refine ⟨R13', ?_⟩
      rw [c'] at d3
      rw [← e3]
      have e4 : ((a.length + (j + 1) : Nat) : Int) = ((a.length + j : Nat) : Int) + 1 := rfl
      rw [e4]
      generalize hn : ((a.length + j : Nat) : Int) = n at *
      generalize cntP (a ++ l.take (j + 1)) = c2 at *
      generalize cntP (a ++ l.take j) = c1 at *
      generalize l[j] = x at *
      generalize cntS x = c3 at *
      rw [L_tree_Seq_rope_piece_rope_counts_Seek_2, k_loop]
      simp (disch := omega) [hlt, hg, d1, d2, d3, dec_yes, dec_no, wrap_in, if_yes, -getElem?_pos]
set_option maxHeartbeats 2000000 in
theorem seek_kids (f : FuncId) (cs : List PV) (p : C4 → Bool) (hf : Tells cp f cs p) (a : List ByteArray) (q : List (PV × List ByteArray)) (d : Nat) (hq : ∀ x ∈ q, Nd d x.1 x.2) (hb : Bd (a ++ its q)) (y : PV) (R5 : Ob) : ∀ (m j : Nat), m + j = q.length → p (cntP (a ++ its q)) = true → p (cntP (a ++ its (q.take j))) = false →
    ∃ k, ∃ hk : k < q.length, p (cntP (a ++ its (q.take k))) = false ∧ p (cntP (a ++ its (q.take (k + 1)))) = true ∧
    Code (EX cp) L_tree_Seq_rope_piece_rope_counts_Seek_0 ⟨[(1, .p (.fn f cs)), (5, .mp 5 0 0), (6, .mp 6 0 0), (7, .p y), (8, .p (pi (a.length + (its (q.take j)).length : Nat))), (41, .p (.sl 1 (ones (q.map Prod.fst)))), (42, .p (pi q.length)), (43, .p (pi j))], [(5, R5), (6, .row 95 4 false [[pi (cntP (a ++ its (q.take j))).1, pi (cntP (a ++ its (q.take j))).2.1, pi (cntP (a ++ its (q.take j))).2.2.1, pi (cntP (a ++ its (q.take j))).2.2.2]])]⟩ =
      some (.ex 1, ⟨[(1, .p (.fn f cs)), (5, .mp 5 0 0), (6, .mp 6 0 0), (7, .p q[k].1), (8, .p (pi (a.length + (its (q.take k)).length : Nat)))], [(5, R5), (6, .row 95 4 false [[pi (cntP (a ++ its (q.take k))).1, pi (cntP (a ++ its (q.take k))).2.1, pi (cntP (a ++ its (q.take k))).2.2.1, pi (cntP (a ++ its (q.take k))).2.2.2]])]⟩) := by
  have hcnt := nd_count q hq
  have hbl := hb.2
  rw [List.length_append] at hbl
  intro m
  induction m with
  | zero =>
    intro j hj h1 h2
    have : j = q.length := by omega
    subst this
    rw [List.take_length, h1] at h2
    simp at h2
  | succ m ih =>
    intro j hj h1 h2
    have hlt : j < q.length := by omega
    have hg := fst_at q j hlt
    have hs := its_take_succ q j hlt
    have hsn : cntP (a ++ its (q.take (j + 1))) = add4 (cntP (a ++ its (q.take j))) (cntP q[j].2) := by rw [hs, ← List.append_assoc, cntP_append]
    have hsp : ∀ i, its q = its (q.take i) ++ its (q.drop i) := fun i => by rw [← its_append, List.take_append_drop]
    have hb1 : ∀ i, Bd (a ++ its (q.take i)) := fun i => by
      rw [hsp i, ← List.append_assoc] at hb; exact hb.left
    have hb3 : Bd q[j].2 := by
      have := hb1 (j + 1)
      rw [hs, ← List.append_assoc] at this; exact this.right
    have d2 := ropePlus (cp := cp) (cntP (a ++ its (q.take j))) (cntP q[j].2) (hb1 j).sm hb3.sm
    rw [← hsn] at d2
    have d3 := hf (cntP (a ++ its (q.take (j + 1)))) (hb1 (j + 1)).sm
    obtain ⟨k0, i0, hsh⟩ := (hq q[j] (List.getElem_mem hlt)).shape
    have hll : (its (q.take (j + 1))).length = (its (q.take j)).length + q[j].2.length := by rw [hs, List.length_append]
    have hle : (its (q.take (j + 1))).length ≤ (its q).length := by rw [hsp (j + 1), List.length_append]; omega
    unfold C4.pv at d2 d3
    by_cases c : p (cntP (a ++ its (q.take (j + 1)))) = true
    · refine ⟨j, hlt, h2, c, ?_⟩
      rw [c] at d3
      rw [hsh] at hg ⊢
      unfold nodeC at hg ⊢
      generalize cntP (a ++ its (q.take (j + 1))) = c2 at *
      generalize cntP (a ++ its (q.take j)) = c1 at *
      generalize cntP q[j].2 = c3 at *
      generalize ((a.length + (its (q.take j)).length : Nat) : Int) = n at *
      generalize q[j].2 = t3 at *
      rw [L_tree_Seq_rope_piece_rope_counts_Seek_0, k_loop]
      simp (disch := omega) [hlt, hg, d2, d3, dec_yes, dec_no, wrap_in, if_yes, -getElem?_pos]
    · have c' : p (cntP (a ++ its (q.take (j + 1)))) = false := by simpa using c
      obtain ⟨k, hk, e1, e2, e3⟩ := ih (j + 1) (by omega) h1 c'
      refine ⟨k, hk, e1, e2, ?_⟩
      rw [c'] at d3
      rw [hsh] at hg
      unfold nodeC at hg
      rw [← e3, hll]
      have e4 : ((a.length + ((its (q.take j)).length + q[j].2.length) : Nat) : Int) = ((a.length + (its (q.take j)).length : Nat) : Int) + (q[j].2.length : Nat) := by omega
      rw [e4]
      generalize cntP (a ++ its (q.take (j + 1))) = c2 at *
      generalize cntP (a ++ its (q.take j)) = c1 at *
      generalize cntP q[j].2 = c3 at *
      generalize hn : ((a.length + (its (q.take j)).length : Nat) : Int) = n at *
      generalize q[j].2 = t3 at *
      rw [L_tree_Seq_rope_piece_rope_counts_Seek_0, k_loop]
      simp (disch := omega) [hlt, hg, d2, d3, dec_yes, dec_no, wrap_in, if_yes, -getElem?_pos]
set_option maxHeartbeats 2000000 in
theorem seek_nodes (f : FuncId) (cs : List PV) (p : C4 → Bool) (hf : Tells cp f cs p) (hm : Mono p) (R5 : Ob) : ∀ (d : Nat) (x : PV) (l a : List ByteArray), Nd d x l → Bd (a ++ l) → p (cntP (a ++ l)) = true → p (cntP a) = false →
    ∃ (b m : List ByteArray), p (cntP (b ++ m)) = true ∧ p (cntP b) = false ∧ Bd (b ++ m) ∧ seekL p l (cntP a) a.length = seekL p m (cntP b) b.length ∧
    Code (EX cp) L_tree_Seq_rope_piece_rope_counts_Seek_1 ⟨[(1, .p (.fn f cs)), (5, .mp 5 0 0), (6, .mp 6 0 0), (7, .p x), (8, .p (pi a.length))], [(5, R5), (6, .row 95 4 false [[pi (cntP a).1, pi (cntP a).2.1, pi (cntP a).2.2.1, pi (cntP a).2.2.2]])]⟩ =
      some (.ex 0, ⟨[(1, .p (.fn f cs)), (5, .mp 5 0 0), (6, .mp 6 0 0), (7, .p (.pt (nodeC [] m m.length 1 (cntP m)))), (8, .p (pi b.length)), (37, .p (pb false))], [(5, R5), (6, .row 95 4 false [[pi (cntP b).1, pi (cntP b).2.1, pi (cntP b).2.2.1, pi (cntP b).2.2.2]])]⟩) := by
  intro d
  induction d with
  | zero =>
    intro x l a hx hb h1 h2
    obtain ⟨_, rfl⟩ := hx
    refine ⟨a, l, h1, h2, hb, rfl, ?_⟩
    unfold nodeC
    rw [L_tree_Seq_rope_piece_rope_counts_Seek_1, k_loop]
    simp
  | succ d ih =>
    intro x l a hx hb h1 h2
    have hl := hb.2
    rw [List.length_append] at hl
    have hdp := hx.deep
    obtain ⟨q, q1, q2, q3, rfl⟩ := hx.kids
    rw [q3] at hb h1
    obtain ⟨k, hk, e1, e2, h⟩ := seek_kids (cp := cp) f cs p hf a q d q2 hb (.pt (nodeC (q.map Prod.fst) [] l.length (d + 2) (cntP l))) R5 q.length 0 (by omega) h1 (by simpa [its] using h2)
    rw [List.take_zero, show its [] = [] from rfl, List.append_nil, List.length_nil, Nat.add_zero a.length, show ((0 : Nat) : Int) = 0 from rfl] at h
    have hs := its_take_succ q k hk
    have hsp : its q = its (q.take (k + 1)) ++ its (q.drop (k + 1)) := by rw [← its_append, List.take_append_drop]
    have hb1 : Bd ((a ++ its (q.take k)) ++ q[k].2) := by
      rw [hsp, hs, ← List.append_assoc, ← List.append_assoc] at hb; exact hb.left
    obtain ⟨b, m, f1, f2, f3, f4, f5⟩ := ih q[k].1 q[k].2 (a ++ its (q.take k)) (q2 _ (List.getElem_mem hk)) hb1 (by rw [List.append_assoc, ← hs]; exact e2) e1
    refine ⟨b, m, f1, f2, f3, ?_, ?_⟩
    · rw [← f4, q3, hsp, hs, List.append_assoc]
      have s1 := seekL_skip hm (its (q.take k)) (q[k].2 ++ its (q.drop (k + 1))) (cntP a) a.length (by rw [← cntP_append]; exact e1)
      rw [s1, ← cntP_append, List.length_append]
      exact seekL_in hm _ _ _ _ (by rw [← cntP_append, List.append_assoc, ← hs]; exact e2) e1
    · have hcnt := nd_count q q2
      rw [← q3] at hcnt
      have e5 : (a ++ its (q.take k)).length = a.length + (its (q.take k)).length := List.length_append
      rw [e5] at f5
      rw [← f5]
      unfold nodeC at h ⊢
      rw [strs_nil] at h
      generalize hD2 : ((d + 2 : Nat) : Int) = D2 at *
      have hon : (ones (q.map Prod.fst)).length = q.length := by simp
      generalize cntP (a ++ its (q.take k)) = c2 at *
      generalize cntP a = c1 at *
      conv => lhs; rw [L_tree_Seq_rope_piece_rope_counts_Seek_1, k_loop]
      simp (disch := omega) [hon, h, dec_yes, dec_no]
      rfl
theorem seqSeek (f : FuncId) (cs : List PV) (p : C4 → Bool) (hf : Tells cp f cs p) (hm : Mono p) (h0 : p (0, 0, 0, 0) = false) (x : PV) (l : List ByteArray) (hx : RepT x l) (hb : Bd l) :
    Run (EX cp) 65 [.st [x], .fn f cs] = some (.val (.tu [pi (seekL p l (0, 0, 0, 0) 0).1, (seekL p l (0, 0, 0, 0) 0).2.pv])) := by
  have d1 := seqLen (cp := cp) x l hx
  have d2 := seqSum (cp := cp) x l hx
  have z0 : ∀ c : C4, add4 (0, 0, 0, 0) c = c := zero_add4
  rw [run_fn _ A_tree_Seq_rope_piece_rope_counts_Seek _ rfl rfl rfl]
  rcases hx with ⟨rfl, rfl⟩ | ⟨d, hx⟩
  · unfold C4.pv at d2 ⊢
    simp (disch := omega) [A_tree_Seq_rope_piece_rope_counts_Seek, d1, d2, seekL, cntP]
  · have d3 := hf (cntP l) hb.sm
    by_cases c : p (cntP l) = true
    · obtain ⟨b, m, f1, f2, f3, f4, f5⟩ := seek_nodes (cp := cp) f cs p hf hm (.row 95 4 false [[pi 0, pi 0, pi 0, pi 0]]) d x l [] hx hb c h0
      obtain ⟨k, hk, g1, g2⟩ := seek_leaf (cp := cp) f cs p hf b m f3 m.length 0 (by omega) f1 (by rw [List.take_zero, List.append_nil]; exact f2)
      obtain ⟨R13, g3⟩ := g2 (.row 95 4 false [[pi 0, pi 0, pi 0, pi 0]])
      rw [List.drop_zero, List.take_zero, List.append_nil, Nat.add_zero] at g1
      rw [List.take_zero, List.append_nil, Nat.add_zero, show ((0 : Nat) : Int) = 0 from rfl] at g3
      rw [show cntP [] = (0, 0, 0, 0) from rfl, show ([] : List ByteArray).length = 0 from rfl, show ((0 : Nat) : Int) = 0 from rfl] at f5
      rw [show cntP [] = (0, 0, 0, 0) from rfl, show ([] : List ByteArray).length = 0 from rfl, g1] at f4
      rw [f4]
      rw [c] at d3
      obtain ⟨k0, i0, hsh⟩ := hx.shape
      rw [hsh] at f5 ⊢
      unfold nodeC C4.pv at *
      have hml : (strs m).length = m.length := by simp
      generalize cntP (b ++ m.take k) = c4 at *
      generalize cntP b = c3 at *
      generalize cntP l = c2 at *
      generalize cntP m = c5 at *
      generalize ((b.length + k : Nat) : Int) = n at *
      generalize hD : ((d + 1 : Nat) : Int) = D at *
      simp (disch := omega) [A_tree_Seq_rope_piece_rope_counts_Seek, d3, f5, g3, hml, dec_yes, dec_no]
    · have c' : p (cntP l) = false := by simpa using c
      rw [c'] at d3
      rw [seekL_none hm l (0, 0, 0, 0) 0 (by rw [z0]; exact c'), z0, Nat.zero_add]
      obtain ⟨k0, i0, hsh⟩ := hx.shape
      rw [hsh] at d1 d2 ⊢
      unfold nodeC C4.pv at *
      generalize cntP l = c2 at *
      generalize hD : ((d + 1 : Nat) : Int) = D at *
      simp (disch := omega) [A_tree_Seq_rope_piece_rope_counts_Seek, d1, d2, d3, dec_yes, dec_no]
end Go.Proofs.Ytomnggbideepeaa.AM

end
section
/- The rope's pieces on the small machine: made. For texts of fewer than 2^30 bytes. -/
namespace Go.Proofs.Ytomnggbideepeaa.AM
set_option linter.unusedSimpArgs false
set_option linter.unusedVariables false
open Go Go.Proofs.Ytomnggbideepeaa.U
variable {cp : List PV → Option Ret}
theorem cont_bits (a : UInt8) : decide (bi a / 64 * 64 = 128) = decide (cont a) := by
  unfold cont
  have := bi_range a
  exact decide_eq_decide.2 (by omega)
theorem backN_zero (s : List UInt8) : backN s 0 = 0 := rfl
theorem backN_succ (s : List UInt8) (n : Nat) (a : UInt8) (h : s[n + 1]? = some a) : backN s (n + 1) = if cont a then backN s n else n + 1 := by
  rw [backN, h]
theorem made_back (s : ByteArray) (hv : valid (L s) = true) (hs : s.size < 1073741824) (k : Nat) (R2 R3 : Ob) (h2 : R2.isDp = false) (h3 : R3.isDp = false) : ∀ n, n < s.size →
    Code (EX cp) L_rope_made_0 ⟨[(0, .p (.sc (.string s))), (2, .mp 2 0 0), (3, .ms 3 0 k), (4, .p (pi n))], [(2, R2), (3, R3)]⟩ = some (.ex 2, ⟨[(0, .p (.sc (.string s))), (2, .mp 2 0 0), (3, .ms 3 0 k), (4, .p (pi (backN (L s) n))), (15, .p (pb false))], [(2, R2), (3, R3)]⟩) := by
  intro n
  induction n with
  | zero =>
    intro h
    obtain ⟨a, t, hd⟩ := drop_at s 0 h
    have hb := (bt_at s 0 a t hd).1
    rw [show ((0 : Nat) : Int) = 0 from rfl] at hb
    rw [List.drop_zero] at hd
    have hc : ¬ cont a := by rw [hd] at hv; exact valid_head2 hv
    have e := n192 a
    have hr := bi_range a
    have e2 : ¬ bi a / 64 * 64 = 128 := by unfold cont at hc; omega
    rw [backN_zero, L_rope_made_0, k_loop]
    simp (disch := omega) [hb, e, e2, dec_no, dec_yes, IntKind.bits]
  | succ n ih =>
    intro h
    obtain ⟨a, t, hd⟩ := drop_at s (n + 1) h
    have hb := (bt_at s (n + 1) a t hd).1
    have hg : (L s)[n + 1]? = some a := by rw [← List.head?_drop, hd]; rfl
    have e := n192 a
    have hr := bi_range a
    have ec : ((n + 1 : Nat) : Int) = (n : Int) + 1 := rfl
    rw [ec] at hb ⊢
    rw [backN_succ _ _ _ hg]
    by_cases hc : cont a
    · have e2 : bi a / 64 * 64 = 128 := by unfold cont at hc; omega
      have e3 : IntKind.wrap .i64 ((n : Int) + 1 - 1) = n := by rw [wrap_in _ (by omega) (by omega)]; omega
      have e4 : IntKind.wrap .i64 (n : Int) = n := wrap_in _ (by omega) (by omega)
      rw [if_pos hc, ← ih (by omega), L_rope_made_0, k_loop]
      simp (disch := omega) [hb, e, e2, e3, e4, dec_no, dec_yes, IntKind.bits]
    · have e2 : ¬ bi a / 64 * 64 = 128 := by unfold cont at hc; omega
      rw [if_neg hc, L_rope_made_0, k_loop]
      simp (disch := omega) [hb, e, e2, dec_no, dec_yes, IntKind.bits]
/-- Where a piece is cut off. -/
def cut64 (s : ByteArray) : Nat := if s.size ≤ 64 then s.size else backN (L s) 64
theorem cut64_ok (s : ByteArray) (hv : valid (L s) = true) (h0 : 0 < s.size) : 1 ≤ cut64 s ∧ cut64 s ≤ 64 ∧ cut64 s ≤ s.size ∧ (64 < s.size → 61 ≤ cut64 s) ∧ valid ((L s).take (cut64 s)) = true ∧ valid ((L s).drop (cut64 s)) = true := by
  unfold cut64
  by_cases c : s.size ≤ 64
  · rw [if_pos c, ← L_len, List.take_length, List.drop_length]
    rw [L_len]
    exact ⟨by omega, c, Nat.le_refl _, by omega, hv, valid_nil⟩
  · rw [if_neg c]
    have h1 := backN_le (L s) 64
    have h2 := backN_ge (L s) hv 64 (by omega) (by rw [L_len]; omega)
    have h3 := backN_ok (L s) hv 64
    obtain ⟨v1, v2⟩ := valid_cut (L s) (backN (L s) 64) (by rw [L_len]; omega) h3 hv
    exact ⟨by omega, h1, by omega, fun _ => by omega, v1, v2⟩
theorem ex_take (s : ByteArray) (n : Nat) : L (s.extract 0 n) = (L s).take n := by rw [L_extract, List.drop_zero, Nat.sub_zero]
theorem ex_drop (s : ByteArray) (n : Nat) : L (s.extract n s.size) = (L s).drop n := by
  rw [L_extract, List.take_of_length_le]
  rw [List.length_drop, L_len]; exact Nat.le_refl _
theorem ex_take_size (s : ByteArray) (n : Nat) (h : n ≤ s.size) : (s.extract 0 n).size = n := by rw [← L_len, ex_take, List.length_take, L_len]; omega
theorem ex_drop_size (s : ByteArray) (n : Nat) : (s.extract n s.size).size = s.size - n := by rw [← L_len, ex_drop, List.length_drop, L_len]
theorem empty_eq {s : ByteArray} (h : s.size = 0) : s = ⟨#[]⟩ := L_inj (by
  have : L s = [] := List.eq_nil_of_length_eq_zero (by rw [L_len]; exact h)
  rw [this]; rfl)
theorem okP.cons {x : ByteArray} {P : List ByteArray} (hP : okP P) (h1 : valid (L x) = true) (h2 : 1 ≤ x.size) (h3 : x.size ≤ 64) (h : ∀ y ∈ P.head?, 64 < x.size + y.size) : okP (x :: P) :=
  (okP_one x h1 h2 h3).append hP fun u hu y hy => by
    simp only [List.getLast?_singleton, Option.mem_def, Option.some.injEq] at hu
    subst hu; exact h y hy
set_option maxHeartbeats 2000000 in
theorem made_loop (R2 : Ob) (h2 : R2.isDp = false) : ∀ (m : Nat) (s : ByteArray) (acc : List ByteArray), s.size ≤ m → valid (L s) = true → s.size < 1073741824 → acc.length + s.size < 1073741824 →
    ∃ P, flat P = L s ∧ okP P ∧ (∀ y ∈ P.head?, y.size = s.size ∨ 61 ≤ y.size) ∧
      Code (EX cp) L_rope_made_1 ⟨[(0, .p (.sc (.string s))), (2, .mp 2 0 0), (3, .ms 3 0 acc.length)], [(2, R2), (3, .row 97 1 false (strs acc))]⟩ =
        some (.ex 0, ⟨[(0, .p (.sc (.string ⟨#[]⟩))), (2, .mp 2 0 0), (3, .ms 3 0 (acc ++ P).length), (6, .p (pb false))], [(2, R2), (3, .row 97 1 false (strs (acc ++ P)))]⟩) := by
  intro m
  induction m with
  | zero =>
    intro s acc hm hv hs ha
    obtain rfl := empty_eq (s := s) (by omega)
    refine ⟨[], rfl, okP_nil, by simp, ?_⟩
    rw [List.append_nil, L_rope_made_1, k_loop]
    simp
  | succ m ih =>
    intro s acc hm hv hs ha
    by_cases h0 : s.size = 0
    · obtain rfl := empty_eq h0
      refine ⟨[], rfl, okP_nil, by simp, ?_⟩
      rw [List.append_nil, L_rope_made_1, k_loop]
      simp
    have hne : ¬ s = (⟨#[]⟩ : ByteArray) := fun e => h0 (by rw [e]; rfl)
    obtain ⟨c1, c2, c3, c4, c5, c6⟩ := cut64_ok s hv (by omega)
    have z1 := ex_take_size s (cut64 s) c3
    have z2 := ex_drop_size s (cut64 s)
    obtain ⟨P, p1, p2, p3, p4⟩ := ih (s.extract (cut64 s) s.size) (acc ++ [s.extract 0 (cut64 s)]) (by omega) (by rw [ex_drop]; exact c6) (by omega) (by rw [List.length_append, List.length_singleton]; omega)
    have hcons : okP (s.extract 0 (cut64 s) :: P) := p2.cons (by rw [ex_take]; exact c5) (by omega) (by omega) (fun y hy => by
      have hy1 := (p2.val y (List.mem_of_mem_head? hy)).2.1
      have hy2 : y.size ≤ (s.extract (cut64 s) s.size).size := by
        cases P with
        | nil => simp at hy
        | cons z P =>
          simp only [List.head?_cons, Option.mem_def, Option.some.injEq] at hy
          subst hy
          rw [← L_len (s.extract _ _), ← p1, flat_cons, List.length_append, L_len]; omega
      have := p3 y hy
      by_cases c : s.size ≤ 64
      · have hc : cut64 s = s.size := by unfold cut64; rw [if_pos c]
        omega
      · have := c4 (by omega)
        omega)
    refine ⟨s.extract 0 (cut64 s) :: P, ?_, hcons, fun y hy => ?_, ?_⟩
    · rw [flat_cons, p1, ex_take, ex_drop, List.take_append_drop]
    · simp only [List.head?_cons, Option.mem_def, Option.some.injEq] at hy
      subst hy
      unfold cut64 at z1 c4 ⊢
      split
      · rename_i h; rw [if_pos h] at z1; left; exact z1
      · rename_i h; rw [if_neg h] at z1 c4; right; omega
    rw [show acc ++ s.extract 0 (cut64 s) :: P = (acc ++ [s.extract 0 (cut64 s)]) ++ P by simp, ← p4]
    have hsn := strs_snoc acc (s.extract 0 (cut64 s))
    have hal : (acc ++ [s.extract 0 (cut64 s)]).length = acc.length + 1 := by simp
    have hcap : (acc.length + 1) * 16 ≤ maxBytes ∧ acc.length + 1 ≤ 9223372036854775807 := by unfold maxBytes; omega
    by_cases c : s.size ≤ 64
    · have hc : cut64 s = s.size := by unfold cut64; rw [if_pos c]
      rw [hc] at hsn hal c3 ⊢
      rw [L_rope_made_1, k_loop]
      simp (disch := omega) [hne, c, hsn, hal, hcap, dec_yes, dec_no, if_yes]
    · have hc : cut64 s = backN (L s) 64 := by unfold cut64; rw [if_neg c]
      have hbk := made_back (cp := cp) s hv hs acc.length R2 (.row 97 1 false (strs acc)) h2 rfl 64 (by omega)
      rw [show ((64 : Nat) : Int) = 64 from rfl, ← hc] at hbk
      generalize cut64 s = n at *
      rw [L_rope_made_1, k_loop]
      simp (disch := omega) [hne, c, c3, hsn, hal, hcap, hbk, dec_yes, dec_no, if_yes]
theorem ropeMade (s : ByteArray) (hv : valid (L s) = true) (hs : s.size < 1073741824) : ∃ P x, okP P ∧ flat P = L s ∧ RepT x P ∧ (s.size ≤ 64 → P.length ≤ 1) ∧ Run (EX cp) 57 [.sc (.string s)] = some (.val (.st [x])) := by
  obtain ⟨P, p1, p2, p3, p4⟩ := made_loop (cp := cp) (.row 87 1 false [[.sc (.pointer none)]]) rfl s.size s [] (Nat.le_refl _) hv hs (by simpa using hs)
  rw [List.nil_append, strs_nil, List.length_nil] at p4
  have hl := p2.len
  rw [p1, L_len] at hl
  obtain ⟨x, m1, m2⟩ := treeMake (cp := cp) P ⟨by rw [p1, L_len]; exact hs, by omega⟩
  refine ⟨P, x, p2, p1, m2, fun h64 => ?_, ?_⟩
  · match P, p2, p1 with
    | [], _, _ => simp
    | [a], _, _ => simp
    | a :: b :: P, p2, p1 =>
      have := p2.adj.1
      have e := congrArg List.length p1
      rw [flat_cons, flat_cons] at e
      simp only [List.length_append, L_len] at e
      omega
  · have htk : (strs P).take P.length = strs P := List.take_of_length_le (by simp)
    rw [run_fn _ A_rope_made _ rfl rfl rfl]
    simp (disch := omega) [A_rope_made, p4, m1, htk]
end Go.Proofs.Ytomnggbideepeaa.AM

end
section
/- The rope's pieces on the small machine: glued. For fewer than 2^30 bytes. -/
namespace Go.Proofs.Ytomnggbideepeaa.AM
set_option linter.unusedSimpArgs false
set_option linter.unusedVariables false
open Go Go.Proofs.Ytomnggbideepeaa.U
variable {cp : List PV → Option Ret}
/-- Pieces that are right, and not too many. -/
theorem okP.bd {P : List ByteArray} (h : okP P) (hf : (flat P).length < 1073741824) : Bd P := ⟨hf, by have := h.len; omega⟩
/-- Three variables that hold rows of pieces. -/
def st3 (a b : PV) (E : List (Nat × SV)) : St := ⟨(2, .mp 2 0 0) :: (3, .mp 3 0 0) :: (4, .mp 4 0 0) :: E, [(2, .row 87 1 false [[a]]), (3, .row 87 1 false [[b]]), (4, .row 87 1 false [[.sc (.pointer none)]])]⟩
/-- What is left when the loop ends. -/
def isE (E : List (Nat × SV)) : Prop := E = [(14, .p (pb false))] ∨ ∃ x y : ByteArray, E = [(5, .p (.sc (.string x))), (6, .p (.sc (.string y))), (27, .p (pb true))]
set_option maxHeartbeats 4000000 in
theorem glued_loop : ∀ (m : Nat) (a b : PV) (A B : List ByteArray), A.length ≤ m → RepT a A → RepT b B → okP A → okP B → (flat A).length + (flat B).length < 1073741824 →
    ∃ a' b' A' B' E, RepT a' A' ∧ RepT b' B' ∧ okP (A' ++ B') ∧ flat (A' ++ B') = flat A ++ flat B ∧ isE E ∧
      Code (EX cp) L_rope_glued_0 (st3 a b []) = some (.ex 0, st3 a' b' E) := by
  intro m
  induction m with
  | zero =>
    intro a b A B hm ha hb hA hB hf
    obtain rfl := List.eq_nil_of_length_eq_zero (show A.length = 0 by omega)
    have d1 := seqLen (cp := cp) a [] ha
    refine ⟨a, b, [], B, _, ha, hb, hB, rfl, .inl rfl, ?_⟩
    rw [L_rope_glued_0, k_loop]
    simp (disch := omega) [st3, d1, dec_yes, dec_no]
  | succ m ih =>
    intro a b A B hm ha hb hA hB hf
    have d1 := seqLen (cp := cp) a A ha
    have d2 := seqLen (cp := cp) b B hb
    have hAl := hA.len
    have hBl := hB.len
    by_cases c0 : A = []
    · subst c0
      refine ⟨a, b, [], B, _, ha, hb, hB, rfl, .inl rfl, ?_⟩
      rw [L_rope_glued_0, k_loop]
      simp (disch := omega) [st3, d1, dec_yes, dec_no]
    have hA0 : 0 < A.length := List.length_pos_iff.2 c0
    by_cases c1 : B = []
    · subst c1
      refine ⟨a, b, A, [], _, ha, hb, by rw [List.append_nil]; exact hA, by rw [List.append_nil]; simp [flat], .inl rfl, ?_⟩
      rw [L_rope_glued_0, k_loop]
      simp (disch := omega) [st3, d1, d2, dec_yes, dec_no]
    have hB0 : 0 < B.length := List.length_pos_iff.2 c1
    obtain ⟨A0, x, rfl⟩ : ∃ A0 x, A = A0 ++ [x] := ⟨A.dropLast, A.getLast c0, (List.dropLast_concat_getLast _).symm⟩
    obtain ⟨y, B0, rfl⟩ : ∃ y B0, B = y :: B0 := by
      cases B with
      | nil => exact absurd rfl c1
      | cons y B0 => exact ⟨y, B0, rfl⟩
    have hx := hA.val x (by simp)
    have hy := hB.val y (by simp)
    have bA := hA.bd (by omega)
    have bB := hB.bd (by omega)
    have d3 := seqAt (cp := cp) a (A0 ++ [x]) ha bA A0.length (by simp)
    have d4 := seqAt (cp := cp) b (y :: B0) hb bB 0 (by simp)
    rw [List.getElem_append_right (Nat.le_refl _)] at d3
    simp only [Nat.sub_self, List.getElem_cons_zero] at d3 d4
    rw [show ((0 : Nat) : Int) = 0 from rfl] at d4
    have hAn : ((A0 ++ [x]).length : Int) = (A0.length : Int) + 1 := by simp
    have hBn : ((y :: B0).length : Int) = (B0.length : Int) + 1 := by simp
    rw [hAn] at d1
    rw [hBn] at d2
    rw [List.length_append, List.length_singleton] at hAl hA0
    have w1 : IntKind.wrap .i64 ((A0.length : Int) + 1 - 1) = A0.length := by rw [wrap_in _ (by omega) (by omega)]; omega
    have w2 : IntKind.wrap .i64 (A0.length : Int) = A0.length := wrap_in _ (by omega) (by omega)
    by_cases c2 : x.size + y.size ≤ 64
    · have hg := hA.glue hB c2
      have hL : L (x ++ y) = L x ++ L y := L_append x y
      obtain ⟨u, v, s1, s2, s3⟩ := seqSplit (cp := cp) a (A0 ++ [x]) A0.length ha bA
      obtain ⟨u2, v2, t1, t2, t3⟩ := seqSplit (cp := cp) b (y :: B0) 1 hb bB
      rw [Int.toNat_natCast, List.take_left] at s2
      rw [show (1 : Int).toNat = 1 from rfl, List.drop_succ_cons, List.drop_zero] at t3
      have hfl : flat ([x ++ y] ++ B0) = L x ++ flat (y :: B0) := by
        rw [List.singleton_append, flat_cons, flat_cons, hL, List.append_assoc]
      have hfA : flat (A0 ++ [x]) = flat A0 ++ L x := by rw [flat_append]; simp [flat]
      have hlen : (flat A0).length + (flat ([x ++ y] ++ B0)).length = (flat (A0 ++ [x])).length + (flat (y :: B0)).length := by
        rw [hfl, hfA, List.length_append, List.length_append]; omega
      have okB : okP ([x ++ y] ++ B0) := by
        have := hg.drop A0.length
        rwa [List.drop_left] at this
      have okA : okP A0 := by
        have := hg.take A0.length
        rwa [List.take_left] at this
      have bm : Bd ([x ++ y] ++ B0) := okB.bd (by omega)
      obtain ⟨w, m1, m2⟩ := treeMake (cp := cp) [x ++ y] bm.left
      obtain ⟨z, j1, j2⟩ := seqJoin (cp := cp) w v2 [x ++ y] B0 m2 t3 bm
      obtain ⟨a', b', A', B', E, e1, e2, e3, e4, e5, e6⟩ := ih u z A0 ([x ++ y] ++ B0) (by rw [List.length_append, List.length_singleton] at hm; omega) s2 j2 okA okB (by omega)
      refine ⟨a', b', A', B', E, e1, e2, e3, ?_, e5, ?_⟩
      · rw [e4, hfl, hfA, List.append_assoc]
      rw [← e6, L_rope_glued_0, k_loop]
      have hst : strs [x ++ y] = [[.sc (.string (x ++ y))]] := rfl
      rw [hst] at m1
      simp (disch := omega) [st3, d1, d2, d3, d4, w1, w2, c2, s1, t1, m1, j1, dec_yes, dec_no, wrap_in, if_yes]
    · refine ⟨a, b, A0 ++ [x], y :: B0, _, ha, hb, ?_, flat_append _ _, .inr ⟨x, y, rfl⟩, ?_⟩
      · refine hA.append hB fun u hu v hv => ?_
        simp only [List.getLast?_append, List.getLast?_singleton, Option.some_or, Option.mem_def, Option.some.injEq] at hu
        simp only [List.head?_cons, Option.mem_def, Option.some.injEq] at hv
        subst hu; subst hv; omega
      rw [L_rope_glued_0, k_loop]
      simp (disch := omega) [st3, d1, d2, d3, d4, w1, w2, c2, dec_yes, dec_no, wrap_in, if_yes]
theorem ropeGlued (a b : PV) (A B : List ByteArray) (ha : RepT a A) (hb : RepT b B) (hA : okP A) (hB : okP B) (hf : (flat A).length + (flat B).length < 1073741824) :
    ∃ z P, Run (EX cp) 60 [.st [a], .st [b]] = some (.val (.st [z])) ∧ RepT z P ∧ okP P ∧ flat P = flat A ++ flat B := by
  obtain ⟨a', b', A', B', E, e1, e2, e3, e4, e5, e6⟩ := glued_loop (cp := cp) A.length a b A B (Nat.le_refl _) ha hb hA hB hf
  have bd : Bd (A' ++ B') := e3.bd (by rw [e4, List.length_append]; exact hf)
  obtain ⟨z, j1, j2⟩ := seqJoin (cp := cp) a' b' A' B' e1 e2 bd
  refine ⟨z, A' ++ B', ?_, j2, e3, e4⟩
  rw [run_fn _ A_rope_glued _ rfl rfl rfl]
  rcases e5 with rfl | ⟨x, y, rfl⟩
  · unfold st3 at e6
    simp (disch := omega) [A_rope_glued, e6, j1]
  · unfold st3 at e6
    simp (disch := omega) [A_rope_glued, e6, j1]
end Go.Proofs.Ytomnggbideepeaa.AM

end
section
/- The rope's pieces on the small machine: halves. For fewer than 2^30 bytes. -/
namespace Go.Proofs.Ytomnggbideepeaa.AM
set_option linter.unusedSimpArgs false
set_option linter.unusedVariables false
open Go Go.Proofs.Ytomnggbideepeaa.U
variable {cp : List PV → Option Ret}
theorem seekL_spec (p : C4 → Bool) : ∀ (l : List ByteArray) (c : C4) (i : Nat), ∃ k, k ≤ l.length ∧ seekL p l c i = (i + k, add4 c (cntP (l.take k))) ∧ (k < l.length → p (add4 c (cntP (l.take (k + 1)))) = true) ∧ ∀ j, 1 ≤ j → j ≤ k → p (add4 c (cntP (l.take j))) = false
  | [], c, i => ⟨0, Nat.le_refl _, by rw [List.take_zero, cntP, add4_zero]; rfl, by simp, fun j h1 h2 => by omega⟩
  | x :: l, c, i => by
    rw [seekL]
    by_cases h : p (add4 c (cntS x)) = true
    · rw [if_pos h]
      refine ⟨0, Nat.zero_le _, by rw [List.take_zero, cntP, add4_zero]; rfl, fun _ => ?_, fun j h1 h2 => by omega⟩
      rw [List.take_succ_cons, List.take_zero, cntP, cntP, add4_zero]; exact h
    · rw [if_neg h]
      obtain ⟨k, h1, h2, h3, h4⟩ := seekL_spec p l (add4 c (cntS x)) (i + 1)
      refine ⟨k + 1, by simpa using h1, ?_, fun hk => ?_, fun j j1 j2 => ?_⟩
      · rw [h2, List.take_succ_cons, cntP, ← add4_assoc]
        congr 1; omega
      · rw [List.take_succ_cons, cntP, ← add4_assoc]
        exact h3 (by simpa using hk)
      · obtain ⟨j, rfl⟩ : ∃ i, j = i + 1 := ⟨j - 1, by omega⟩
        rw [List.take_succ_cons, cntP, ← add4_assoc]
        by_cases hj : j = 0
        · subst hj
          rw [List.take_zero, cntP, add4_zero]; simpa using h
        · exact h4 j (by omega) (by omega)
theorem cntP_bytes {P : List ByteArray} (h : ∀ x ∈ P, valid (L x) = true) : (cntP P).1 = (flat P).length := by
  induction P with
  | nil => rfl
  | cons x P ih =>
    rw [flat_cons, List.length_append, L_len]
    have h1 := cntS_size x (h x (by simp))
    have h2 := ih fun y hy => h y (by simp [hy])
    simp only [cntP, add4]
    omega
theorem halves1 (k : Int) : Tells cp 84 [.pt [pi k]] fun c => decide (k < c.1) := by
  intro c hc
  rw [run_fn _ A_rope_halves_1 _ rfl rfl rfl]
  unfold C4.pv
  simp [A_rope_halves_1]
theorem byte1 (k : Int) : Tells cp 66 [.pt [pi k]] fun c => decide (k < c.1) := by
  intro c hc
  rw [run_fn _ A_rope_Rope_Byte_1 _ rfl rfl rfl]
  unfold C4.pv
  simp [A_rope_Rope_Byte_1]
theorem mono_bytes (k : Int) : Mono fun c => decide (k < c.1) := by
  intro c l h
  have := (cntP_range l).1
  simp only [decide_eq_true_eq] at h ⊢
  simp only [add4]
  omega
/-- Where a byte's place is found. -/
theorem seek_bytes {P : List ByteArray} (hP : okP P) (k : Nat) : ∃ i, i ≤ P.length ∧ seekL (fun c : C4 => decide ((k : Int) < c.1)) P (0, 0, 0, 0) 0 = (i, cntP (P.take i)) ∧ (flat (P.take i)).length ≤ k ∧ (cntP (P.take i)).1 = (flat (P.take i)).length ∧ (i < P.length → k < (flat (P.take (i + 1))).length) := by
  obtain ⟨i, h1, h2, h3, h4⟩ := seekL_spec (fun c : C4 => decide ((k : Int) < c.1)) P (0, 0, 0, 0) 0
  rw [zero_add4, Nat.zero_add] at h2
  have hb : ∀ j, (cntP (P.take j)).1 = (flat (P.take j)).length := fun j => cntP_bytes fun x hx => (hP.val x (List.mem_of_mem_take hx)).1
  refine ⟨i, h1, h2, ?_, hb i, fun hi => ?_⟩
  · by_cases h0 : i = 0
    · subst h0; simp [flat]
    · have := h4 i (by omega) (Nat.le_refl _)
      rw [zero_add4, decide_eq_false_iff_not, hb] at this
      omega
  · have := h3 hi
    rw [zero_add4, decide_eq_true_eq, hb] at this
    omega
set_option maxHeartbeats 4000000 in
theorem ropeHalves (x : PV) (P : List ByteArray) (k : Nat) (hx : RepT x P) (hP : okP P) (hf : (flat P).length < 1073741824) (hk : k ≤ (flat P).length) (v1 : valid ((flat P).take k) = true) (v2 : valid ((flat P).drop k) = true) :
    ∃ a b A B, Run (EX cp) 59 [.st [x], pi k] = some (.val (.tu [.st [a], .st [b]])) ∧ RepT a A ∧ RepT b B ∧ okP A ∧ okP B ∧ flat A = (flat P).take k ∧ flat B = (flat P).drop k := by
  have bP := hP.bd hf
  obtain ⟨i, i1, i2, i3, i4, i5⟩ := seek_bytes hP k
  have d1 := seqSeek (cp := cp) _ _ _ (halves1 (cp := cp) k) (mono_bytes k) (by simp) x P hx bP
  rw [i2] at d1
  obtain ⟨a, b, s1, s2, s3⟩ := seqSplit (cp := cp) x P i hx bP
  rw [Int.toNat_natCast] at s2 s3
  have d2 := seqLen (cp := cp) b (P.drop i) s3
  have hsp : flat P = flat (P.take i) ++ flat (P.drop i) := by rw [← flat_append, List.take_append_drop]
  have hl1 : (P.drop i).length = P.length - i := List.length_drop
  rw [hl1] at d2
  have bl := bP.2
  rw [run_fn _ A_rope_halves _ rfl rfl rfl]
  unfold C4.pv at d1
  dsimp only at d1
  by_cases c0 : (flat (P.take i)).length = k
  · refine ⟨a, b, P.take i, P.drop i, ?_, s2, s3, hP.take i, hP.drop i, ?_, ?_⟩
    · rw [i4, c0] at d1
      generalize (cntP (P.take i)).2 = c2 at *
      simp (disch := omega) [A_rope_halves, d1, s1, dec_yes, dec_no]
    · rw [hsp, ← c0, List.take_left]
    · rw [hsp, ← c0, List.drop_left]
  by_cases c1 : i = P.length
  · exfalso
    rw [c1, List.take_length] at i3 c0
    omega
  have hi : i < P.length := by omega
  have i6 := i5 hi
  have hgi : P.drop i = P[i] :: P.drop (i + 1) := List.drop_eq_getElem_cons hi
  have htk : flat (P.take (i + 1)) = flat (P.take i) ++ L P[i] := by rw [List.take_succ_eq_append_getElem hi, flat_append]; simp [flat]
  rw [htk, List.length_append, L_len] at i6
  have hxi := hP.val P[i] (List.getElem_mem hi)
  have d3 := seqAt (cp := cp) b (P.drop i) s3 (bP.drop i) 0 (by omega)
  have hg0 : (P.drop i)[0]'(by omega) = P[i] := by simp
  rw [hg0, show ((0 : Nat) : Int) = 0 from rfl] at d3
  obtain ⟨u, v, t1, t2, t3⟩ := seqSplit (cp := cp) b (P.drop i) 1 s3 (bP.drop i)
  rw [show (1 : Int).toNat = 1 from rfl, List.drop_drop] at t3
  obtain ⟨n, hn⟩ : ∃ n, k = (flat (P.take i)).length + n := ⟨k - (flat (P.take i)).length, by omega⟩
  have htake : (flat P).take k = flat (P.take i) ++ (L P[i]).take n := by
    rw [hsp, hn, List.take_append, List.take_of_length_le (by omega), Nat.add_sub_cancel_left, hgi, flat_cons, List.take_append_of_le_length (by rw [L_len]; omega)]
  have hdrop : (flat P).drop k = (L P[i]).drop n ++ flat (P.drop (i + 1)) := by
    rw [hsp, hn, List.drop_append, List.drop_eq_nil_of_le (by omega), List.nil_append, Nat.add_sub_cancel_left, hgi, flat_cons, List.drop_append_of_le_length (by rw [L_len]; omega)]
  have hnc : ∀ q, (L P[i])[n]? = some q → ¬ cont q := by
    intro q hq
    rw [hdrop] at v2
    have : (L P[i]).drop n = q :: (L P[i]).drop (n + 1) := by
      have hlt : n < (L P[i]).length := by rw [L_len]; omega
      rw [List.getElem?_eq_getElem hlt] at hq
      rw [List.drop_eq_getElem_cons hlt, Option.some.inj hq]
    rw [this, List.cons_append] at v2
    exact valid_head2 v2
  obtain ⟨w1, w2⟩ := valid_cut (L P[i]) n (by rw [L_len]; omega) hnc hxi.1
  have z1 := ex_take_size P[i] n (by omega)
  have z2 := ex_drop_size P[i] n
  obtain ⟨P1, x1, m1, m2, m3, _, m4⟩ := ropeMade (cp := cp) (P[i].extract 0 n) (by rw [ex_take]; exact w1) (by omega)
  obtain ⟨P2, x2, n1, n2, n3, _, n4⟩ := ropeMade (cp := cp) (P[i].extract n P[i].size) (by rw [ex_drop]; exact w2) (by omega)
  rw [ex_take] at m2
  rw [ex_drop] at n2
  have e1 := congrArg List.length htake
  have e2 := congrArg List.length hdrop
  rw [List.length_append, List.length_take] at e1
  rw [List.length_append, List.length_drop] at e2
  obtain ⟨a', A', g1, g2, g3, g4⟩ := ropeGlued (cp := cp) a x1 (P.take i) P1 s2 m3 (hP.take i) m1 (by rw [m2]; omega)
  have hi1 : P.drop (1 + i) = P.drop (i + 1) := by rw [Nat.add_comm]
  rw [Nat.add_comm] at t3
  obtain ⟨b', B', f1, f2, f3, f4⟩ := ropeGlued (cp := cp) x2 v P2 (P.drop (1 + i)) n3 t3 n1 (hP.drop _) (by rw [n2, hi1]; omega)
  refine ⟨a', b', A', B', ?_, g2, f2, g3, f3, ?_, ?_⟩
  · rw [i4] at d1
    have hne : ¬ ((flat (P.take i)).length : Int) = (k : Int) := by omega
    have q1 : IntKind.wrap .i64 ((k : Int) - (flat (P.take i)).length) = n := by rw [wrap_in _ (by omega) (by omega)]; omega
    have q2 : ¬ P.length - i = 0 := by omega
    have q3 : ¬ ((P.length - i : Nat) : Int) = 0 := by omega
    have q4 : n ≤ P[i].size := by omega
    clear hg0 hgi htk htake hdrop hnc w1 w2 e1 e2 hxi i6 m1 m2 n1 n2 i3 i4 i5 c0 hn z1 z2 g4 f4 hsp v1 v2 hk
    generalize (cntP (P.take i)).2 = c2 at *
    generalize (flat (P.take i)).length = fl at *
    generalize hz : P.length - i = zz at *
    generalize P[i] = y at *
    simp (disch := omega) [A_rope_halves, d1, s1, d2, d3, t1, m4, n4, g1, f1, hne, q1, q2, q3, q4, dec_yes, dec_no]
  · rw [g4, m2, htake]
  · rw [f4, n2, hi1, hdrop]
end Go.Proofs.Ytomnggbideepeaa.AM

end
section
/- Ropes on the small machine: New, Len, Counts, Byte, IsEdge, check. For texts of fewer than 2^30 bytes. -/
namespace Go.Proofs.Ytomnggbideepeaa.AM
set_option linter.unusedSimpArgs false
set_option linter.unusedVariables false
open Go Go.Proofs.Ytomnggbideepeaa.U
variable {cp : List PV → Option Ret}
/-- A rope of a text. -/
def Rp (r : PV) (s : ByteArray) : Prop := ∃ x P, r = .pt [x] ∧ RepT x P ∧ okP P ∧ flat P = L s ∧ s.size < 1073741824
theorem Rp.val {r : PV} {s : ByteArray} (h : Rp r s) : valid (L s) = true := by
  obtain ⟨x, P, _, _, h1, h2, _⟩ := h
  rw [← h2]; exact valid_flat P fun x hx => (h1.val x hx).1
theorem Rp.size {r : PV} {s : ByteArray} (h : Rp r s) : s.size < 1073741824 := by
  obtain ⟨_, _, _, _, _, _, h⟩ := h; exact h
theorem ropeLen {r : PV} {s : ByteArray} (h : Rp r s) : Run (EX cp) 25 [r] = some (.val (pi s.size)) := by
  obtain ⟨x, P, rfl, h1, h2, h3, h4⟩ := h
  have d1 := seqSum (cp := cp) x P h1
  have e : (cntP P).1 = (s.size : Int) := by
    rw [cntP_bytes fun x hx => (h2.val x hx).1, h3, L_len]
  rw [run_fn _ A_rope_Rope_Len _ rfl rfl rfl, ← e]
  unfold C4.pv at d1
  simp [A_rope_Rope_Len, d1]
theorem ropeCounts {r : PV} {s : ByteArray} (h : Rp r s) : Run (EX cp) 34 [r] = some (.val (cntS s).pv) := by
  obtain ⟨x, P, rfl, h1, h2, h3, h4⟩ := h
  have d1 := seqSum (cp := cp) x P h1
  have e : cntP P = cntS s := by
    rw [cntP_flat P fun x hx => (h2.val x hx).1, h3]; rfl
  rw [e] at d1
  rw [run_fn _ A_rope_Rope_Counts _ rfl rfl rfl]
  unfold C4.pv at d1 ⊢
  simp [A_rope_Rope_Counts, d1]
theorem Rp.make {x : PV} {P : List ByteArray} {s : ByteArray} (h1 : RepT x P) (h2 : okP P) (h3 : flat P = L s) (h4 : s.size < 1073741824) : Rp (.pt [x]) s := ⟨x, P, rfl, h1, h2, h3, h4⟩
theorem ropeNew (s : ByteArray) (hs : s.size < 268435456) : (20000 < (cleanS s).size ∧ Run (EX cp) 21 [.sc (.string s)] = some (.val (.tu [.sc (.pointer none), pi 13]))) ∨
    ((cleanS s).size ≤ 20000 ∧ ∃ r, Rp r (cleanS s) ∧ Run (EX cp) 21 [.sc (.string s)] = some (.val (.tu [r, pi 0]))) := by
  have d1 := utfClean (cp := cp) s (by omega)
  have e : L (cleanS s) = clean (L s) := L_mk _
  have hcl := clean_le (L s)
  rw [L_len, ← e, L_len] at hcl
  rw [run_fn _ A_rope_New _ rfl rfl rfl]
  by_cases c : (cleanS s).size ≤ 20000
  · right
    obtain ⟨P, x, m1, m2, m3, _, m4⟩ := ropeMade (cp := cp) (cleanS s) (by rw [e]; exact clean_valid _) (by omega)
    refine ⟨c, .pt [x], Rp.make m3 m1 m2 (by omega), ?_⟩
    simp (disch := omega) [A_rope_New, d1, m4, c, dec_yes, dec_no]
  · left
    refine ⟨by omega, ?_⟩
    simp (disch := omega) [A_rope_New, d1, c, dec_yes, dec_no]
set_option maxHeartbeats 2000000 in
theorem ropeByte {r : PV} {s : ByteArray} (h : Rp r s) (k : Nat) (a : UInt8) (ha : (L s)[k]? = some a) : Run (EX cp) 27 [r, pi k] = some (.val (.tu [pI .u8 (bi a), pb true])) := by
  have d0 := ropeLen (cp := cp) h
  obtain ⟨x, P, rfl, h1, h2, h3, h4⟩ := h
  have hk : k < s.size := by
    rcases Nat.lt_or_ge k (L s).length with h | h
    · rw [L_len] at h; exact h
    · rw [List.getElem?_eq_none h] at ha; simp at ha
  have hfl : (flat P).length = s.size := by rw [h3, L_len]
  have bP := h2.bd (by omega)
  obtain ⟨i, i1, i2, i3, i4, i5⟩ := seek_bytes h2 k
  have d1 := seqSeek (cp := cp) _ _ _ (byte1 (cp := cp) k) (mono_bytes k) (by simp) x P h1 bP
  rw [i2] at d1
  have hi : i < P.length := by
    rcases Nat.lt_or_ge i P.length with h | h
    · exact h
    · rw [List.take_of_length_le h] at i3; omega
  have i6 := i5 hi
  have htk : flat (P.take (i + 1)) = flat (P.take i) ++ L P[i] := by rw [List.take_succ_eq_append_getElem hi, flat_append]; simp [flat]
  have hsp : flat P = flat (P.take i) ++ (L P[i] ++ flat (P.drop (i + 1))) := by
    conv => lhs; rw [← List.take_append_drop i P, flat_append, List.drop_eq_getElem_cons hi, flat_cons]
  rw [htk, List.length_append, L_len] at i6
  obtain ⟨n, hn⟩ : ∃ n, k = (flat (P.take i)).length + n := ⟨k - (flat (P.take i)).length, by omega⟩
  have hg : (L P[i])[n]? = some a := by
    rw [← h3, hsp, List.getElem?_append_right (by omega), hn, Nat.add_sub_cancel_left, List.getElem?_append_left (by rw [L_len]; omega)] at ha
    exact ha
  have hbt : bt? P[i] (n : Int) = some (bi a) := by
    have hlt : n < (L P[i]).length := by rw [L_len]; omega
    refine (bt_at P[i] n a ((L P[i]).drop (n + 1)) ?_).1
    rw [List.drop_eq_getElem_cons hlt]
    rw [List.getElem?_eq_getElem hlt] at hg
    rw [Option.some.inj hg]
  have d2 := seqAt (cp := cp) x P h1 bP i hi
  unfold C4.pv at d1
  dsimp only at d1
  rw [i4] at d1
  have q1 : IntKind.wrap .i64 ((k : Int) - (flat (P.take i)).length) = n := by rw [wrap_in _ (by omega) (by omega)]; omega
  rw [run_fn _ A_rope_Rope_Byte _ rfl rfl rfl]
  clear hg htk hsp i6 i3 i4 i5 hn
  generalize (cntP (P.take i)).2 = c2 at *
  generalize (flat (P.take i)).length = fl at *
  generalize P[i] = y at *
  simp (disch := omega) [A_rope_Rope_Byte, d0, d1, d2, q1, hbt, dec_yes, dec_no]
theorem ropeByteNo {r : PV} {s : ByteArray} (h : Rp r s) (k : Int) (hk : ¬ (0 ≤ k ∧ k < s.size)) : Run (EX cp) 27 [r, pi k] = some (.val (.tu [pI .u8 0, pb false])) := by
  have d0 := ropeLen (cp := cp) h
  rw [run_fn _ A_rope_Rope_Byte _ rfl rfl rfl]
  by_cases c : k < 0
  · simp (disch := omega) [A_rope_Rope_Byte, d0, c, dec_yes, dec_no]
  · simp (disch := omega) [A_rope_Rope_Byte, d0, c, dec_yes, dec_no]
theorem edge_on {s : ByteArray} (hv : valid (L s) = true) (k : Nat) (a : UInt8) (ha : (L s)[k]? = some a) : edge s (k : Int) = !decide (cont a) := by
  have hk : k < s.size := by
    rcases Nat.lt_or_ge k (L s).length with h | h
    · rw [L_len] at h; exact h
    · rw [List.getElem?_eq_none h] at ha; simp at ha
  unfold edge
  rw [Int.toNat_natCast, ha, hv, decide_eq_true (show (0 : Int) ≤ (k : Int) ∧ (k : Int) ≤ s.size by omega), decide_eq_false (show ¬ (k : Int) = s.size by omega)]
  simp
theorem edge_off {s : ByteArray} (hv : valid (L s) = true) (k : Int) (hk : ¬ (0 ≤ k ∧ k < s.size)) : edge s k = decide (k = s.size) := by
  unfold edge
  by_cases c : k = s.size
  · rw [hv, decide_eq_true c, decide_eq_true (show 0 ≤ k ∧ k ≤ s.size by omega)]; rfl
  · rw [decide_eq_false c, decide_eq_false (show ¬ (0 ≤ k ∧ k ≤ s.size) by omega)]; rfl
theorem ropeIsEdge {r : PV} {s : ByteArray} (h : Rp r s) (k : Int) : Run (EX cp) 22 [r, pi k] = some (.val (pb (edge s k))) := by
  have d0 := ropeLen (cp := cp) h
  rw [run_fn _ A_rope_Rope_IsEdge _ rfl rfl rfl]
  by_cases c : 0 ≤ k ∧ k < s.size
  · obtain ⟨n, rfl⟩ : ∃ n : Nat, k = n := ⟨k.toNat, by omega⟩
    have hlt : n < (L s).length := by rw [L_len]; omega
    have ha : (L s)[n]? = some (L s)[n] := List.getElem?_eq_getElem hlt
    have d1 := ropeByte (cp := cp) h n _ ha
    have e1 := edge_on h.val n _ ha
    have e2 := n192 (L s)[n]
    have e3 := cont_bits (L s)[n]
    rw [e1, ← e3]
    generalize (L s)[n] = a at *
    simp (disch := omega) [A_rope_Rope_IsEdge, d1, e2, IntKind.bits]
  · have d1 := ropeByteNo (cp := cp) h k c
    rw [edge_off h.val k c]
    simp (disch := omega) [A_rope_Rope_IsEdge, d0, d1]
/-- What is wrong with some bytes' places. -/
def chkR (s : ByteArray) (a b : Int) : Int := if a < 0 ∨ b < a ∨ (s.size : Int) < b then 10 else if edge s a = true ∧ edge s b = true then 0 else 11
theorem ropeCheck {r : PV} {s : ByteArray} (h : Rp r s) (a b : Int) : Run (EX cp) 58 [r, pi a, pi b] = some (.val (pi (chkR s a b))) := by
  have d0 := ropeLen (cp := cp) h
  have d1 := ropeIsEdge (cp := cp) h a
  have d2 := ropeIsEdge (cp := cp) h b
  rw [run_fn _ A_rope_Rope_check _ rfl rfl rfl]
  unfold chkR
  by_cases c : a < 0
  · rw [if_pos (.inl c)]
    simp (disch := omega) [A_rope_Rope_check, d0, c, dec_yes, dec_no]
  by_cases c1 : b < a
  · rw [if_pos (.inr (.inl c1))]
    simp (disch := omega) [A_rope_Rope_check, d0, c, c1, dec_yes, dec_no]
  by_cases c2 : (s.size : Int) < b
  · rw [if_pos (.inr (.inr c2))]
    simp (disch := omega) [A_rope_Rope_check, d0, c, c1, c2, dec_yes, dec_no]
  rw [if_neg (by omega)]
  cases e1 : edge s a
  · rw [e1] at d1
    simp (disch := omega) [A_rope_Rope_check, d0, d1, c, c1, c2, dec_yes, dec_no]
  cases e2 : edge s b
  · rw [e1] at d1
    rw [e2] at d2
    simp (disch := omega) [A_rope_Rope_check, d0, d1, d2, c, c1, c2, dec_yes, dec_no]
  · rw [e1] at d1
    rw [e2] at d2
    simp (disch := omega) [A_rope_Rope_check, d0, d1, d2, c, c1, c2, dec_yes, dec_no]
end Go.Proofs.Ytomnggbideepeaa.AM

end
section
/- Ropes on the small machine: Slice, Replace, Concat. For texts of fewer than 2^28 bytes. -/
namespace Go.Proofs.Ytomnggbideepeaa.AM
set_option linter.unusedSimpArgs false
set_option linter.unusedVariables false
open Go Go.Proofs.Ytomnggbideepeaa.U
variable {cp : List PV → Option Ret}
theorem edge_cut {s : ByteArray} {a : Int} (h : edge s a = true) : ∃ k : Nat, a = k ∧ k ≤ s.size ∧ valid ((L s).take k) = true ∧ valid ((L s).drop k) = true := by
  unfold edge at h
  simp only [Bool.and_eq_true, Bool.or_eq_true, decide_eq_true_eq] at h
  obtain ⟨⟨⟨h0, h1⟩, h2⟩, h3⟩ := h
  obtain ⟨k, rfl⟩ : ∃ k : Nat, a = k := ⟨a.toNat, by omega⟩
  refine ⟨k, rfl, by omega, ?_⟩
  refine valid_cut (L s) k (by rw [L_len]; omega) (fun b hb => ?_) h3
  rcases h2 with h2 | h2
  · rw [List.getElem?_eq_none (by rw [L_len]; omega)] at hb; simp at hb
  · rw [Int.toNat_natCast, hb] at h2
    simpa using h2
theorem cut_of_edge {s : ByteArray} (k : Nat) (hk : k ≤ s.size) (h1 : valid ((L s).take k) = true) (h2 : valid ((L s).drop k) = true) : edge s (k : Int) = true := by
  have hv : valid (L s) = true := by rw [← List.take_append_drop k (L s), valid_append h1]; exact h2
  unfold edge
  rw [Int.toNat_natCast, hv, decide_eq_true (show (0 : Int) ≤ (k : Int) ∧ (k : Int) ≤ s.size by omega)]
  by_cases c : k = s.size
  · rw [decide_eq_true (show (k : Int) = s.size by omega)]; rfl
  · have hlt : k < (L s).length := by rw [L_len]; omega
    rw [List.getElem?_eq_getElem hlt]
    rw [List.drop_eq_getElem_cons hlt] at h2
    have := valid_head2 h2
    simp [this]
theorem mid_valid {l : List UInt8} {a b : Nat} (h : a ≤ b) (va : valid (l.take a) = true) (vb : valid (l.take b) = true) : valid ((l.take b).drop a) = true := by
  have e : l.take b = l.take a ++ (l.take b).drop a := by
    have := (List.take_append_drop a (l.take b)).symm
    rwa [List.take_take, Nat.min_eq_left h] at this
  rw [e, valid_append va] at vb
  exact vb
theorem ex_mid (s : ByteArray) (a b : Nat) (h : a ≤ b) : L (s.extract a b) = ((L s).take b).drop a := by
  rw [L_extract, List.drop_take]
set_option maxHeartbeats 2000000 in
theorem ropeSlice {r : PV} {s : ByteArray} (h : Rp r s) (a b : Int) : (chkR s a b ≠ 0 ∧ Run (EX cp) 28 [r, pi a, pi b] = some (.val (.tu [.sc (.pointer none), pi (chkR s a b)]))) ∨
    (chkR s a b = 0 ∧ ∃ r', Rp r' (s.extract a.toNat b.toNat) ∧ Run (EX cp) 28 [r, pi a, pi b] = some (.val (.tu [r', pi 0]))) := by
  have d0 := ropeCheck (cp := cp) h a b
  rw [run_fn _ A_rope_Rope_Slice _ rfl rfl rfl]
  by_cases c : chkR s a b = 0
  case neg =>
    left
    refine ⟨c, ?_⟩
    generalize chkR s a b = e at *
    simp (disch := omega) [A_rope_Rope_Slice, d0, c, dec_yes, dec_no]
  right
  refine ⟨c, ?_⟩
  rw [c] at d0
  unfold chkR at c
  split at c
  · simp at c
  rename_i c1
  split at c
  case isFalse => simp at c
  rename_i c2
  obtain ⟨x, P, rfl, h1, h2, h3, h4⟩ := h
  obtain ⟨ka, rfl, a1, a2, a3⟩ := edge_cut c2.1
  obtain ⟨kb, rfl, b1, b2, b3⟩ := edge_cut c2.2
  have hab : ka ≤ kb := by omega
  have hfl : (flat P).length = s.size := by rw [h3, L_len]
  obtain ⟨u, v, A, B, e1, e2, e3, e4, e5, e6, e7⟩ := ropeHalves (cp := cp) x P kb h1 h2 (by omega) (by omega) (by rw [h3]; exact b2) (by rw [h3]; exact b3)
  rw [h3] at e6
  have hAl : (flat A).length = kb := by rw [e6, List.length_take, L_len]; omega
  have hAt : (flat A).take ka = (L s).take ka := by rw [e6, List.take_take, Nat.min_eq_left hab]
  obtain ⟨u2, v2, A2, B2, f1, f2, f3, f4, f5, f6, f7⟩ := ropeHalves (cp := cp) u A ka e2 e4 (by omega) (by omega) (by rw [hAt]; exact a2) (by rw [e6]; exact mid_valid hab a2 b2)
  rw [e6] at f7
  have hz : (s.extract ka kb).size ≤ s.size := by rw [← L_len, ex_mid s ka kb hab, List.length_drop, List.length_take, L_len]; omega
  refine ⟨.pt [v2], Rp.make f3 f5 (by rw [f7, Int.toNat_natCast, Int.toNat_natCast, ex_mid s ka kb hab]) (by rw [Int.toNat_natCast, Int.toNat_natCast]; omega), ?_⟩
  simp (disch := omega) [A_rope_Rope_Slice, d0, e1, f1, dec_yes, dec_no]
/-- What comes of a text in the place of some bytes. -/
def replS (s : ByteArray) (a b : Int) (t : ByteArray) : ByteArray := s.extract 0 a.toNat ++ cleanS t ++ s.extract b.toNat s.size
theorem replS_size {s t : ByteArray} {a b : Int} (h0 : 0 ≤ a) (h1 : a ≤ b) (h2 : b ≤ s.size) : ((replS s a b t).size : Int) = s.size - (b - a) + (cleanS t).size := by
  unfold replS
  rw [ByteArray.size_append, ByteArray.size_append, ex_take_size s _ (by omega), ex_drop_size]
  omega
set_option maxHeartbeats 2000000 in
theorem ropeReplace {r : PV} {s : ByteArray} (h : Rp r s) (hs : s.size < 268435456) (a b : Int) (t : ByteArray) (ht : t.size < 67108864) : (chkR s a b ≠ 0 ∧ Run (EX cp) 23 [r, pi a, pi b, .sc (.string t)] = some (.val (.tu [.sc (.pointer none), pi (chkR s a b)]))) ∨
    (chkR s a b = 0 ∧ 20000 < (replS s a b t).size ∧ Run (EX cp) 23 [r, pi a, pi b, .sc (.string t)] = some (.val (.tu [.sc (.pointer none), pi 13]))) ∨
    (chkR s a b = 0 ∧ (replS s a b t).size ≤ 20000 ∧ ∃ r', Rp r' (replS s a b t) ∧ Run (EX cp) 23 [r, pi a, pi b, .sc (.string t)] = some (.val (.tu [r', pi 0]))) := by
  have d0 := ropeCheck (cp := cp) h a b
  have d1 := ropeLen (cp := cp) h
  have d2 := utfClean (cp := cp) t (by omega)
  have ec : L (cleanS t) = clean (L t) := L_mk _
  have hcl := clean_le (L t)
  rw [L_len, ← ec, L_len] at hcl
  rw [run_fn _ A_rope_Rope_Replace _ rfl rfl rfl]
  by_cases c : chkR s a b = 0
  case neg =>
    left
    refine ⟨c, ?_⟩
    generalize chkR s a b = e at *
    simp (disch := omega) [A_rope_Rope_Replace, d0, c, dec_yes, dec_no]
  right
  have cc := c
  rw [c] at d0
  unfold chkR at c
  split at c
  · simp at c
  rename_i c1
  split at c
  case isFalse => simp at c
  rename_i c2
  have hsz := replS_size (s := s) (t := t) (a := a) (b := b) (by omega) (by omega) (by omega)
  have w1 : IntKind.wrap .i64 (b - a) = b - a := wrap_in _ (by omega) (by omega)
  have w2 : IntKind.wrap .i64 ((s.size : Int) - (b - a)) = s.size - (b - a) := wrap_in _ (by omega) (by omega)
  have w3 : IntKind.wrap .i64 ((s.size : Int) - (b - a) + (cleanS t).size) = (replS s a b t).size := by rw [wrap_in _ (by omega) (by omega)]; omega
  by_cases c3 : (replS s a b t).size ≤ 20000
  case neg =>
    left
    refine ⟨cc, by omega, ?_⟩
    generalize (replS s a b t).size = z at *
    simp (disch := omega) [A_rope_Rope_Replace, d0, d1, d2, w1, w2, w3, c3, dec_yes, dec_no]
  right
  refine ⟨cc, c3, ?_⟩
  obtain ⟨x, P, rfl, h1, h2, h3, h4⟩ := h
  obtain ⟨ka, rfl, a1, a2, a3⟩ := edge_cut c2.1
  obtain ⟨kb, rfl, b1, b2, b3⟩ := edge_cut c2.2
  have hfl : (flat P).length = s.size := by rw [h3, L_len]
  obtain ⟨u, v, A, B, e1, e2, e3, e4, e5, e6, e7⟩ := ropeHalves (cp := cp) x P ka h1 h2 (by omega) (by omega) (by rw [h3]; exact a2) (by rw [h3]; exact a3)
  obtain ⟨u2, v2, A2, B2, f1, f2, f3, f4, f5, f6, f7⟩ := ropeHalves (cp := cp) x P kb h1 h2 (by omega) (by omega) (by rw [h3]; exact b2) (by rw [h3]; exact b3)
  obtain ⟨P1, x1, m1, m2, m3, _, m4⟩ := ropeMade (cp := cp) (cleanS t) (by rw [ec]; exact clean_valid _) (by omega)
  rw [h3] at e6 f7
  have l1 : (flat A).length = ka := by rw [e6, List.length_take, L_len]; omega
  have l2 : (flat B2).length = s.size - kb := by rw [f7, List.length_drop, L_len]
  have l3 : (flat P1).length = (cleanS t).size := by rw [m2, L_len]
  obtain ⟨z, Z, g1, g2, g3, g4⟩ := ropeGlued (cp := cp) u x1 A P1 e2 m3 e4 m1 (by omega)
  obtain ⟨y, Y, k1, k2, k3, k4⟩ := ropeGlued (cp := cp) z v2 Z B2 g2 f3 g3 f5 (by rw [g4, List.length_append]; omega)
  refine ⟨.pt [y], Rp.make k2 k3 ?_ (by omega), ?_⟩
  · rw [k4, g4, e6, m2, f7]
    unfold replS
    rw [L_append, L_append, Int.toNat_natCast, Int.toNat_natCast, ex_take, ex_drop]
  · generalize (replS s (ka : Int) (kb : Int) t).size = zz at *
    simp (disch := omega) [A_rope_Rope_Replace, d0, d1, d2, w1, w2, w3, c3, e1, f1, m4, g1, k1, dec_yes, dec_no]
theorem ropeConcatNil {r : PV} {s : ByteArray} (h : Rp r s) : Run (EX cp) 33 [r, .sc (.pointer none)] = some (.val (.tu [r, pi 0])) := by
  obtain ⟨x, P, rfl, h1, h2, h3, h4⟩ := h
  rw [run_fn _ A_rope_Rope_Concat _ rfl rfl rfl]
  simp (disch := omega) [A_rope_Rope_Concat]
theorem ropeConcat {r o : PV} {s t : ByteArray} (h : Rp r s) (k : Rp o t) (hs : s.size < 268435456) (ht : t.size < 268435456) : (20000 < s.size + t.size ∧ Run (EX cp) 33 [r, o] = some (.val (.tu [.sc (.pointer none), pi 13]))) ∨
    (s.size + t.size ≤ 20000 ∧ ∃ r', Rp r' (s ++ t) ∧ Run (EX cp) 33 [r, o] = some (.val (.tu [r', pi 0]))) := by
  have d1 := ropeLen (cp := cp) h
  have d2 := ropeLen (cp := cp) k
  rw [run_fn _ A_rope_Rope_Concat _ rfl rfl rfl]
  obtain ⟨x, P, rfl, h1, h2, h3, h4⟩ := h
  obtain ⟨y, Q, rfl, k1, k2, k3, k4⟩ := k
  by_cases c : s.size + t.size ≤ 20000
  case neg =>
    left
    refine ⟨by omega, ?_⟩
    simp (disch := omega) [A_rope_Rope_Concat, d1, d2, dec_yes, dec_no, wrap_in]
  right
  refine ⟨c, ?_⟩
  have l1 : (flat P).length = s.size := by rw [h3, L_len]
  have l2 : (flat Q).length = t.size := by rw [k3, L_len]
  obtain ⟨z, Z, g1, g2, g3, g4⟩ := ropeGlued (cp := cp) x y P Q h1 k1 h2 k2 (by omega)
  have hz : (s ++ t).size = s.size + t.size := ByteArray.size_append
  refine ⟨.pt [z], Rp.make g2 g3 (by rw [g4, h3, k3, L_append]) (by omega), ?_⟩
  simp (disch := omega) [A_rope_Rope_Concat, d1, d2, g1, dec_yes, dec_no, wrap_in]
end Go.Proofs.Ytomnggbideepeaa.AM

end
section
/- Ropes on the small machine: All told, String, Chunks, Same; the first law's known. For texts of fewer than 2^30 bytes. -/
namespace Go.Proofs.Ytomnggbideepeaa.AM
set_option linter.unusedSimpArgs false
set_option linter.unusedVariables false
open Go Go.Proofs.Ytomnggbideepeaa.U
variable {cp : List PV → Option Ret}
/-- All is told. -/
def CpAll (cp : List PV → Option Ret) : Prop := ∀ x l, RepT x l → Bd l → cp [.fn 62 [], .st [x]] = some (.own 97 1 (strs l))
theorem strsOf_strs : ∀ l : List ByteArray, strsOf (strs l) = some l
  | [] => rfl
  | s :: l => by
    show strsOf ([.sc (.string s)] :: strs l) = _
    rw [strsOf, strsOf_strs l]
theorem kidsF_ones {g : PV → Option (List ByteArray)} : ∀ q : List (PV × List ByteArray), (∀ p ∈ q, g p.1 = some p.2) → kidsF g (ones (q.map Prod.fst)) = some (its q)
  | [], _ => rfl
  | p :: q, h => by
    show kidsF g ([p.1] :: ones (q.map Prod.fst)) = _
    rw [kidsF, h p (by simp), kidsF_ones q fun r hr => h r (by simp [hr]), its_cons]
theorem nodeF_nd : ∀ {d : Nat} {x : PV} {l : List ByteArray}, Nd d x l → l.length < 1073741824 → nodeF (d + 1) x = some l
  | 0, x, l, h, hb => by
    rw [h.2]
    unfold nodeC
    rw [nodeF, if_pos (by simp), strsOf_strs]
    simp [ones, kidsF]
  | d + 1, x, l, h, hb => by
    obtain ⟨q, q1, q2, q3, rfl⟩ := h.kids
    have hc := nd_count q q2
    rw [← q3] at hc
    have hk : kidsF (nodeF (d + 1)) (ones (q.map Prod.fst)) = some (its q) := kidsF_ones q fun p hp => nodeF_nd (q2 p hp) (by
      obtain ⟨a, b, rfl⟩ := List.append_of_mem hp
      rw [q3, its_append, its_cons, List.length_append, List.length_append] at hb; omega)
    unfold nodeC
    rw [nodeF, if_pos (by simp; omega), strs_nil, hk]
    simp [strsOf, ← q3]
theorem allF_rep {x : PV} {l : List ByteArray} (h : RepT x l) (hb : Bd l) : allF x = some l := by
  rcases h with ⟨rfl, rfl⟩ | ⟨d, h⟩
  · rfl
  · have h2 := nodeF_nd h hb.2
    have h3 := hb.2
    obtain ⟨k0, i0, rfl⟩ := h.shape
    unfold nodeC at h2 ⊢
    rw [allF, Int.toNat_natCast, h2]
    show (if (l.length : Int) = l.length ∧ l.length * 16 ≤ 140737488355328 then some l else none) = some l
    rw [if_pos ⟨rfl, by omega⟩]
theorem cpA_all : CpAll cpA := by
  intro x l h hb
  simp [cpA, allF_rep h hb]
theorem runAll (hc : CpAll cp) {x : PV} {l : List ByteArray} (h : RepT x l) (hb : Bd l) : Run (EX cp) 62 [.st [x]] = some (.own 97 1 (strs l)) := by
  rw [run_all]; exact hc x l h hb
theorem string_loop (l : List ByteArray) (hl : l.length < 1073741824) (hb : (flat l).length < 1073741824) : ∀ (m i : Nat) (acc : List UInt8), m + i = l.length → acc.length + (flat (l.drop i)).length < 1073741824 →
    Code (EX cp) L_rope_Rope_String_0 ⟨[(3, .mp 3 0 0), (10, .ms 10 0 l.length), (11, .p (pi l.length)), (12, .p (pi i))], [(3, .dp 100 2 (sbRow 5 (bRows acc))), (10, .row 97 1 false (strs l))]⟩ =
      some (.ex 0, ⟨[(3, .mp 3 0 0), (10, .ms 10 0 l.length), (11, .p (pi l.length)), (12, .p (pi l.length)), (13, .p (pb false))], [(3, .dp 100 2 (sbRow 5 (bRows (acc ++ flat (l.drop i))))), (10, .row 97 1 false (strs l))]⟩) := by
  intro m
  induction m with
  | zero =>
    intro i acc hi ha
    have : i = l.length := by omega
    subst this
    rw [L_rope_Rope_String_0, k_loop]
    simp [flat]
  | succ m ih =>
    intro i acc hi ha
    have hlt : i < l.length := by omega
    have hg := strs_at l i hlt
    rw [List.drop_eq_getElem_cons hlt, flat_cons] at ha ⊢
    rw [List.length_append, L_len] at ha
    generalize l[i] = a at *
    have hln : a.data.toList.length = a.size := by simp
    have hcap : acc.length + a.size + 4 ≤ maxBytes := by unfold maxBytes; omega
    have ih' := ih (i+1) (acc ++ L a) (by omega) (by rw [List.length_append, L_len]; omega)
    rw [← List.append_assoc, ← ih', L_rope_Rope_String_0, k_loop]
    simp (disch := omega) [hlt, hg, wrap_in, dec_yes, hcap, hln, if_yes, L]
theorem ropeString (hc : CpAll cp) {r : PV} {s : ByteArray} (h : Rp r s) : Run (EX cp) 26 [r] = some (.val (.sc (.string s))) := by
  obtain ⟨x, P, rfl, h1, h2, h3, h4⟩ := h
  have hfl : (flat P).length = s.size := by rw [h3, L_len]
  have bP := h2.bd (by omega)
  have d1 := runAll hc h1 bP
  have h := string_loop (cp := cp) P bP.2 bP.1 P.length 0 [] (by omega) (by simpa using bP.1)
  rw [List.drop_zero, List.nil_append, h3, bRows_nil, show ((0 : Nat) : Int) = 0 from rfl] at h
  rw [run_fn _ A_rope_Rope_String _ rfl rfl rfl]
  have e := mk_L s
  unfold sbRow at h
  simp [A_rope_Rope_String, d1, h, e]
theorem chunks_loop (l : List ByteArray) (hl : l.length < 1073741824) : ∀ (m i : Nat), m + i = l.length →
    Code (EX cp) L_rope_Rope_Chunks_0 ⟨[(3, .ms 3 0 i), (10, .ms 10 0 l.length), (11, .p (pi l.length)), (12, .p (pi i))], [(3, .row 9 1 false (strs (l.take i))), (10, .row 97 1 false (strs l))]⟩ =
      some (.ex 0, ⟨[(3, .ms 3 0 l.length), (10, .ms 10 0 l.length), (11, .p (pi l.length)), (12, .p (pi l.length)), (13, .p (pb false))], [(3, .row 9 1 false (strs l)), (10, .row 97 1 false (strs l))]⟩) := by
  intro m
  induction m with
  | zero =>
    intro i hi
    have : i = l.length := by omega
    subst this
    rw [List.take_length, L_rope_Rope_Chunks_0, k_loop]
    simp
  | succ m ih =>
    intro i hi
    have hlt : i < l.length := by omega
    have hg := strs_at l i hlt
    have hsn := strs_snoc (l.take i) l[i]
    rw [← List.take_succ_eq_append_getElem hlt] at hsn
    have htl : (l.take i).length = i := by rw [List.length_take]; omega
    have hcap : (i + 1) * 16 ≤ maxBytes ∧ i + 1 ≤ 9223372036854775807 := by unfold maxBytes; omega
    have hmin : min i l.length = i := by omega
    rw [← ih (i+1) (by omega), L_rope_Rope_Chunks_0, k_loop]
    generalize l[i] = a at *
    generalize l.take (i + 1) = t2 at *
    generalize l.take i = t1 at *
    simp (disch := omega) [hlt, hg, hsn, htl, hcap, wrap_in, dec_yes, if_yes]
theorem ropeChunks (hc : CpAll cp) {r : PV} {s : ByteArray} (h : Rp r s) : ∃ P, okP P ∧ flat P = L s ∧ Run (EX cp) 32 [r] = some (.own 9 1 (strs P)) := by
  obtain ⟨x, P, rfl, h1, h2, h3, h4⟩ := h
  have hfl : (flat P).length = s.size := by rw [h3, L_len]
  have bP := h2.bd (by omega)
  have d1 := runAll hc h1 bP
  have h := chunks_loop (cp := cp) P bP.2 P.length 0 (by omega)
  rw [List.take_zero, strs_nil, show ((0 : Nat) : Int) = 0 from rfl] at h
  have htk : (strs P).take P.length = strs P := List.take_of_length_le (by simp)
  refine ⟨P, h2, h3, ?_⟩
  rw [run_fn _ A_rope_Rope_Chunks _ rfl rfl rfl]
  simp [A_rope_Rope_Chunks, d1, h, htk]
theorem ropeSameNil {r : PV} {s : ByteArray} (h : Rp r s) : Run (EX cp) 24 [r, .sc (.pointer none)] = some (.val (pb (decide (s.size = 0)))) := by
  have d1 := ropeLen (cp := cp) h
  rw [run_fn _ A_rope_Rope_Same _ rfl rfl rfl]
  have e : decide ((s.size : Int) = 0) = decide (s.size = 0) := decide_eq_decide.2 (by omega)
  simp [A_rope_Rope_Same, d1]
theorem ropeSame (hc : CpAll cp) {r o : PV} {s t : ByteArray} (h : Rp r s) (k : Rp o t) : Run (EX cp) 24 [r, o] = some (.val (pb (decide (s = t)))) := by
  have d1 := ropeCounts (cp := cp) h
  have d2 := ropeCounts (cp := cp) k
  have d3 := ropeString hc h
  have d4 := ropeString hc k
  obtain ⟨y, Q, rfl, _⟩ := k
  rw [run_fn _ A_rope_Rope_Same _ rfl rfl rfl]
  unfold C4.pv at d1 d2
  by_cases c : s = t
  · subst c
    rw [decide_eq_true rfl]
    simp [A_rope_Rope_Same, d1, d2, d3, d4, eqCells]
  · rw [decide_eq_false c]
    generalize cntS s = c1 at *
    generalize cntS t = c2 at *
    obtain ⟨b, hE⟩ : ∃ b, eqCells [0, 0, 0, 0] [pi c1.1, pi c1.2.1, pi c1.2.2.1, pi c1.2.2.2] [pi c2.1, pi c2.2.1, pi c2.2.2.1, pi c2.2.2.2] = some b := ⟨_, by simp [eqCells]; rfl⟩
    cases b
    · simp [A_rope_Rope_Same, d1, d2, d3, d4, hE, c]
    · simp [A_rope_Rope_Same, d1, d2, d3, d4, hE, c]
end Go.Proofs.Ytomnggbideepeaa.AM

end
