/- edit.Check, edit.Do on the small machine. For texts of less than 2^40 bytes. -/
import Derived.Test.YtihgpnfkadldeaaAR19
namespace Go.Proofs.Ytihgpnfkadldeaa.AM
set_option linter.unusedSimpArgs false
set_option linter.unusedVariables false
open Go Go.Proofs.Ytihgpnfkadldeaa.U
variable {cp : List PV → Option Ret}
set_option maxHeartbeats 4000000 in
theorem editCheck (s : ByteArray) (l : List Ch) (hs : s.size < 1099511627776) (hl : l.length ≤ 9223372036854775807) (hc : ∀ c ∈ l, c.s.size < 1099511627776) : Run (EX cp) 36 [.sc (.string s), .sl 3 (chs l)] = some (.val (pi (chk s l))) := by
  have hv := utfValid (cp := cp) s hs
  rw [run_fn _ A_edit_Check _ rfl rfl rfl]
  unfold chk
  generalize valid (L s) = b at *
  cases b
  · simp (disch := omega) [A_edit_Check, hv]
  by_cases c8 : l.length ≤ 8
  case neg =>
    rw [if_neg (by simp), if_pos (by omega)]
    simp (disch := omega) [A_edit_Check, hv, c8, dec_yes, dec_no]
  rw [if_neg (by simp), if_neg (by omega)]
  have f1 := editFirst (cp := cp) l 10 68 [.pt [.sc (.string s)]] (rngB s) hl fun c _ => check2 s c
  have f2 := editFirst (cp := cp) l 11 69 [.pt [.fn 65 [.pt [.sc (.string s)]]]] (edgB s) hl fun c _ => check3 s c hs
  have f3 := editOrder (cp := cp) l hl
  have f4 := editFirst (cp := cp) l 12 71 [] badS' hl fun c hcl => check4 c (hc c hcl)
  have f5 := editLong (cp := cp) s l hs c8
  generalize (if l.any (rngB s) = true then (10 : Int) else 0) = n1 at *
  generalize (if l.any (edgB s) = true then (11 : Int) else 0) = n2 at *
  generalize (if ordd l = true then (0 : Int) else 180) = n3 at *
  generalize (if l.any badS' = true then (12 : Int) else 0) = n4 at *
  generalize (if lng s l = true then (13 : Int) else 0) = n5 at *
  have hlp := codes_loop (cp := cp) [n1, n2, n3, n4, n5] (by simp) 5 0 (by simp)
  rw [List.drop_zero, show ((0 : Nat) : Int) = 0 from rfl, show ([n1, n2, n3, n4, n5] : List Int).length = 5 from rfl, show ((5 : Nat) : Int) = 5 from rfl, show ints [n1, n2, n3, n4, n5] = [[pi n1], [pi n2], [pi n3], [pi n4], [pi n5]] from rfl] at hlp
  generalize fstNZ [n1, n2, n3, n4, n5] = r at *
  by_cases hr : r = 0
  · rw [if_pos hr] at hlp
    subst hr
    simp (disch := omega) [A_edit_Check, hv, c8, f1, f2, f3, f4, f5, hlp, dec_yes, dec_no]
  · rw [if_neg hr] at hlp
    simp (disch := omega) [A_edit_Check, hv, c8, f1, f2, f3, f4, f5, hlp, dec_yes, dec_no]
/-- What the changes make of a text, from a place on. -/
def doF (s : ByteArray) : List Ch → Int → List UInt8
  | [], k => (L s).drop k.toNat
  | c :: l, k => ((L s).drop k.toNat).take (c.f - k).toNat ++ L c.s ++ doF s l c.t
/-- One behind the other. -/
def Chain (s : ByteArray) : List Ch → Int → Prop
  | [], k => 0 ≤ k ∧ k ≤ s.size
  | c :: l, k => 0 ≤ k ∧ k ≤ c.f ∧ c.f ≤ c.t ∧ c.t ≤ s.size ∧ Chain s l c.t
theorem fstNZ_zero {l : List Int} (h : fstNZ l = 0) : ∀ n ∈ l, n = 0 := by
  induction l with
  | nil => simp
  | cons a l ih =>
    rw [fstNZ] at h
    intro n hn
    by_cases c : a = 0
    · rw [if_pos c] at h
      rcases List.mem_cons.1 hn with rfl | hn
      · exact c
      · exact ih h n hn
    · rw [if_neg c] at h; exact absurd h c
/-- What Check says. -/
structure Good18 (s : ByteArray) (l : List Ch) : Prop where
  val : valid (L s) = true
  len : l.length ≤ 8
  rng : ∀ c ∈ l, 0 ≤ c.f ∧ c.f ≤ c.t ∧ c.t ≤ s.size
  edg : ∀ c ∈ l, edge s c.f = true ∧ edge s c.t = true
  ord : ordd l = true
  txt : ∀ c ∈ l, valid (L c.s) = true
  lng : lng s l = false
theorem chk_good {s : ByteArray} {l : List Ch} (h : chk s l = 0) : Good18 s l := by
  unfold chk at h
  split at h
  · simp at h
  rename_i hv
  split at h
  · simp at h
  rename_i hl
  have hz := fstNZ_zero h
  simp only [List.mem_cons, List.not_mem_nil, or_false] at hz
  have z1 := hz _ (.inl rfl)
  have z2 := hz _ (.inr (.inl rfl))
  have z3 := hz _ (.inr (.inr (.inl rfl)))
  have z4 := hz _ (.inr (.inr (.inr (.inl rfl))))
  have z5 := hz _ (.inr (.inr (.inr (.inr rfl))))
  have y1 : l.any (rngB s) = false := by
    by_cases hb : l.any (rngB s) = true
    · rw [if_pos hb] at z1; omega
    · simpa using hb
  have y2 : l.any (edgB s) = false := by
    by_cases hb : l.any (edgB s) = true
    · rw [if_pos hb] at z2; omega
    · simpa using hb
  have y3 : ordd l = true := by
    by_cases hb : ordd l = true
    · exact hb
    · rw [if_neg hb] at z3; omega
  have y4 : l.any badS' = false := by
    by_cases hb : l.any badS' = true
    · rw [if_pos hb] at z4; omega
    · simpa using hb
  have y5 : AM.lng s l = false := by
    by_cases hb : AM.lng s l = true
    · rw [if_pos hb] at z5; omega
    · simpa using hb
  rw [List.any_eq_false] at y1 y2 y4
  refine ⟨by simpa using hv, by omega, fun c hc => ?_, fun c hc => ?_, y3, fun c hc => ?_, y5⟩
  · have := y1 c hc
    unfold rngB at this
    simp at this
    omega
  · have := y2 c hc
    unfold edgB at this
    simpa using this
  · have := y4 c hc
    unfold badS' at this
    simpa using this
theorem good_chk {s : ByteArray} {l : List Ch} (h : Good18 s l) : chk s l = 0 := by
  have y1 : l.any (rngB s) = false := by
    rw [List.any_eq_false]
    intro c hc
    have := h.rng c hc
    unfold rngB
    simp
    omega
  have y2 : l.any (edgB s) = false := by
    rw [List.any_eq_false]
    intro c hc
    have := h.edg c hc
    unfold edgB
    simp [this]
  have y4 : l.any badS' = false := by
    rw [List.any_eq_false]
    intro c hc
    have := h.txt c hc
    unfold badS'
    simp [this]
  unfold chk
  rw [if_neg (by rw [h.val]; simp), if_neg (by have := h.len; omega), y1, y2, y4, h.ord, h.lng]
  rfl
theorem chain_of (s : ByteArray) : ∀ (l : List Ch) (k : Int), 0 ≤ k → k ≤ s.size → (∀ c ∈ l, 0 ≤ c.f ∧ c.f ≤ c.t ∧ c.t ≤ s.size) → ordd l = true → (∀ c ∈ l.head?, k ≤ c.f) → Chain s l k
  | [], k, h0, h1, _, _, _ => ⟨h0, h1⟩
  | [c], k, h0, h1, hr, _, hh => by
    have := hr c (by simp)
    exact ⟨h0, hh c (by simp), this.2.1, this.2.2, by omega, this.2.2⟩
  | a :: b :: l, k, h0, h1, hr, ho, hh => by
    have ha := hr a (by simp)
    rw [ordd, Bool.and_eq_true] at ho
    have h2 : a.t ≤ b.f := by
      have := ho.1
      simp at this
      omega
    exact ⟨h0, hh a (by simp), ha.2.1, ha.2.2, chain_of s (b :: l) a.t (by omega) ha.2.2 (fun c hc => hr c (by simp [hc])) ho.2 (fun c hc => by simp at hc; subst hc; exact h2)⟩
theorem Good18.chain {s : ByteArray} {l : List Ch} (h : Good18 s l) : Chain s l 0 :=
  chain_of s l 0 (by omega) (by omega) h.rng h.ord fun c hc => (h.rng c (List.mem_of_mem_head? hc)).1
theorem doF_len (s : ByteArray) : ∀ (l : List Ch) (k : Int), Chain s l k → (doF s l k).length ≤ s.size + (l.map fun c => c.s.size).sum
  | [], k, h => by rw [doF, List.length_drop, L_len]; simp
  | c :: l, k, h => by
    obtain ⟨h0, h1, h2, h3, h4⟩ := h
    have ih := doF_len' s l c.t h4
    rw [doF, List.length_append, List.length_append, L_len, List.length_take, List.length_drop, L_len, List.map_cons, List.sum_cons]
    omega
where doF_len' (s : ByteArray) : ∀ (l : List Ch) (k : Int), Chain s l k → ((doF s l k).length : Int) ≤ s.size - k + (l.map fun c => c.s.size).sum
  | [], k, h => by obtain ⟨h0, h1⟩ := h; rw [doF, List.length_drop, L_len]; simp; omega
  | c :: l, k, h => by
    obtain ⟨h0, h1, h2, h3, h4⟩ := h
    have ih := doF_len' s l c.t h4
    rw [doF, List.length_append, List.length_append, L_len, List.length_take, List.length_drop, L_len, List.map_cons, List.sum_cons]
    omega
theorem do_loop (s : ByteArray) (l : List Ch) (hs : s.size < 1099511627776) (hl : l.length ≤ 8) (hc : ∀ c ∈ l, c.s.size < 1099511627776) : ∀ (m i : Nat) (acc : List UInt8) (k : Int), m + i = l.length → acc.length ≤ 2199023255552 * i → Chain s (l.drop i) k →
    ∃ (acc' : List UInt8) (k' : Int), acc'.length ≤ 2199023255552 * l.length ∧ 0 ≤ k' ∧ k' ≤ s.size ∧ acc' ++ (L s).drop k'.toNat = acc ++ doF s (l.drop i) k ∧
    Code (EX cp) L_edit_Do_0 ⟨[(0, .p (.sc (.string s))), (5, .mp 5 0 0), (6, .p (pi k)), (14, .p (.sl 3 (chs l))), (15, .p (pi l.length)), (16, .p (pi i))], [(5, .dp 78 2 (sbRow 5 (bRows acc)))]⟩ =
      some (.ex 0, ⟨[(0, .p (.sc (.string s))), (5, .mp 5 0 0), (6, .p (pi k')), (14, .p (.sl 3 (chs l))), (15, .p (pi l.length)), (16, .p (pi l.length)), (17, .p (pb false))], [(5, .dp 78 2 (sbRow 5 (bRows acc')))]⟩) := by
  intro m
  induction m with
  | zero =>
    intro i acc k hi ha hk
    have : i = l.length := by omega
    subst this
    rw [List.drop_length] at hk ⊢
    refine ⟨acc, k, ha, hk.1, hk.2, rfl, ?_⟩
    rw [L_edit_Do_0, k_loop]
    simp
  | succ m ih =>
    intro i acc k hi ha hk
    have h1 : i < l.length := by omega
    have hg := chs_at l i h1
    have hcs := hc l[i] (List.getElem_mem h1)
    rw [List.drop_eq_getElem_cons h1] at hk ⊢
    generalize l[i] = c at *
    obtain ⟨q0, q1, q2, q3, q4⟩ := hk
    have hpv : c.pv = [pi c.f, pi c.t, .sc (.string c.s)] := rfl
    rw [hpv] at hg
    have hex : (s.extract k.toNat c.f.toNat) = ⟨(((L s).drop k.toNat).take (c.f - k).toNat).toArray⟩ := by
      have := extract_mk s k.toNat (c.f - k).toNat
      rw [show k.toNat + (c.f - k).toNat = c.f.toNat by omega] at this
      exact this
    have hLx : L (s.extract k.toNat c.f.toNat) = ((L s).drop k.toNat).take (c.f - k).toNat := by rw [hex, L_mk]
    have hxs : (((L s).drop k.toNat).take (c.f - k).toNat).length ≤ s.size := by rw [List.length_take, List.length_drop, L_len]; omega
    obtain ⟨acc', k', a1, a2, a3, a4, a5⟩ := ih (i+1) (acc ++ ((L s).drop k.toNat).take (c.f - k).toNat ++ L c.s) c.t (by omega) (by simp only [List.length_append, L_len]; omega) q4
    refine ⟨acc', k', a1, a2, a3, ?_, ?_⟩
    · rw [a4, doF]; simp only [List.append_assoc]
    rw [← a5, L_edit_Do_0, k_loop]
    generalize ((L s).drop k.toNat).take (c.f - k).toNat = x at *
    have hLc : c.s.data.toList = L c.s := rfl
    have hLn := L_len c.s
    simp (disch := omega) [h1, hg, hex, hLc, maxBytes, dec_yes, dec_no, wrap_in, if_yes, -getElem?_pos]
end Go.Proofs.Ytihgpnfkadldeaa.AM
