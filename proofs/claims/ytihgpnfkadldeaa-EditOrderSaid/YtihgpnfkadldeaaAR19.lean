/- edit.Check on the small machine. For texts of less than 2^40 bytes. -/
import Derived.Test.YtihgpnfkadldeaaQ10
namespace Go.Proofs.Ytihgpnfkadldeaa.AM
set_option linter.unusedSimpArgs false
set_option linter.unusedVariables false
open Go Go.Proofs.Ytihgpnfkadldeaa.U
variable {cp : List PV → Option Ret}
theorem first_loop (l : List Ch) (e : Int) (fid : FuncId) (cs : List PV) (p : Ch → Bool) (hl : l.length ≤ 9223372036854775807) (hp : ∀ c ∈ l, Run (EX cp) fid (.st c.pv :: cs) = some (.val (pb (p c)))) : ∀ (m i : Nat), m + i = l.length →
    Code (EX cp) L_edit_first_0 ⟨[(1, .p (pi e)), (2, .p (.fn fid cs)), (9, .p (.sl 3 (chs l))), (10, .p (pi l.length)), (11, .p (pi i))], []⟩ =
      if (l.drop i).any p = true then some (.ret, ⟨[(6, .p (pi e))], []⟩) else some (.ex 0, ⟨[(1, .p (pi e)), (2, .p (.fn fid cs)), (9, .p (.sl 3 (chs l))), (10, .p (pi l.length)), (11, .p (pi l.length)), (12, .p (pb false))], []⟩) := by
  intro m
  induction m with
  | zero =>
    intro i hi
    have : i = l.length := by omega
    subst this
    rw [List.drop_length, List.any_nil, if_neg (by simp), L_edit_first_0, k_loop]
    simp
  | succ m ih =>
    intro i hi
    have h1 : i < l.length := by omega
    have ih' := ih (i+1) (by omega)
    have hg := chs_at l i h1
    have hr := hp l[i] (List.getElem_mem h1)
    rw [List.drop_eq_getElem_cons h1, List.any_cons]
    generalize l[i] = c at *
    have hpv : c.pv = [pi c.f, pi c.t, .sc (.string c.s)] := rfl
    rw [hpv] at hg hr
    cases hb : p c <;> rw [hb] at hr
    · rw [Bool.false_or, ← ih', L_edit_first_0, k_loop]
      simp (disch := omega) [h1, hg, hr, dec_yes, dec_no, wrap_in, -getElem?_pos]
    · rw [Bool.true_or, if_pos rfl, L_edit_first_0, k_loop]
      simp (disch := omega) [h1, hg, hr, dec_yes, dec_no, wrap_in, -getElem?_pos]
theorem editFirst (l : List Ch) (e : Int) (fid : FuncId) (cs : List PV) (p : Ch → Bool) (hl : l.length ≤ 9223372036854775807) (hp : ∀ c ∈ l, Run (EX cp) fid (.st c.pv :: cs) = some (.val (pb (p c)))) :
    Run (EX cp) 67 [.sl 3 (chs l), pi e, .fn fid cs] = some (.val (pi (if l.any p = true then e else 0))) := by
  have h := first_loop (cp := cp) l e fid cs p hl hp l.length 0 (by omega)
  rw [List.drop_zero, show ((0 : Nat) : Int) = 0 from rfl] at h
  rw [run_fn _ A_edit_first _ rfl rfl rfl]
  generalize l.any p = b at *
  cases b <;> simp (disch := omega) [A_edit_first, h]
/-- Ordered, none at the same empty place. -/
def ordd : List Ch → Bool
  | a :: b :: l => !(decide (b.f < a.t) || (decide (a.f = b.f) && decide (a.t = b.f))) && ordd (b :: l)
  | _ => true
theorem order_loop (l : List Ch) (hl : l.length ≤ 9223372036854775807) : ∀ (m i : Nat), m + i + 1 = l.length →
    Code (EX cp) L_edit_order_0 ⟨[(0, .p (.sl 3 (chs l))), (3, .p (pi ((i : Int) + 1)))], []⟩ =
      if ordd (l.drop i) = true then some (.ex 0, ⟨[(0, .p (.sl 3 (chs l))), (3, .p (pi l.length)), (9, .p (pb false))], []⟩) else some (.ret, ⟨[(2, .p (pi 180))], []⟩) := by
  intro m
  induction m with
  | zero =>
    intro i hi
    have hd : l.drop i = [l[i]'(by omega)] := by
      rw [List.drop_eq_getElem_cons (by omega), List.drop_of_length_le (by omega)]
    have : (i : Int) + 1 = l.length := by omega
    rw [this, hd, if_pos (by rfl), L_edit_order_0, k_loop]
    simp
  | succ m ih =>
    intro i hi
    have h0 : i < l.length := by omega
    have h1 : i + 1 < l.length := by omega
    have ih' := ih (i+1) (by omega)
    have hg0 := chs_at l i h0
    have hg1 := chs_at l (i + 1) h1
    rw [List.drop_eq_getElem_cons h1] at ih'
    rw [List.drop_eq_getElem_cons h0, List.drop_eq_getElem_cons h1]
    generalize l[i] = a at *
    generalize l[i+1] = b at *
    have hpa : a.pv = [pi a.f, pi a.t, .sc (.string a.s)] := rfl
    have hpb : b.pv = [pi b.f, pi b.t, .sc (.string b.s)] := rfl
    rw [hpa] at hg0
    rw [hpb] at hg1
    have e1 : ((i + 1 : Nat) : Int) + 1 = (i : Int) + 1 + 1 := by omega
    have e2 : ((i : Int) + 1).toNat = i + 1 := by omega
    rw [e1] at ih'
    have h1' : (i : Int) + 1 < l.length := by omega
    have e3 : (0 : Int) ≤ (i : Int) + 1 := by omega
    rw [ordd]
    by_cases c0 : b.f < a.t
    · rw [decide_eq_true c0, L_edit_order_0, k_loop]
      simp (disch := omega) [h0, h1, h1', e2, e3, hg0, hg1, c0, dec_yes, dec_no, wrap_in, -getElem?_pos]
    · by_cases c1 : a.f = b.f
      · by_cases c2 : a.t = b.f
        · rw [decide_eq_false c0, decide_eq_true c1, decide_eq_true c2, L_edit_order_0, k_loop]
          simp (disch := omega) [h0, h1, h1', e2, e3, hg0, hg1, c0, c1, c2, dec_yes, dec_no, wrap_in, -getElem?_pos]
        · rw [decide_eq_false c0, decide_eq_true c1, decide_eq_false c2]
          simp only [Bool.and_false, Bool.or_false, Bool.not_false, Bool.true_and]
          rw [← ih', L_edit_order_0, k_loop]
          simp (disch := omega) [h0, h1, h1', e2, e3, hg0, hg1, c0, c1, c2, dec_yes, dec_no, wrap_in, -getElem?_pos]
      · rw [decide_eq_false c0, decide_eq_false c1]
        simp only [Bool.false_and, Bool.or_false, Bool.not_false, Bool.true_and]
        rw [← ih', L_edit_order_0, k_loop]
        simp (disch := omega) [h0, h1, h1', e2, e3, hg0, hg1, c0, c1, dec_yes, dec_no, wrap_in, -getElem?_pos]
theorem editOrder (l : List Ch) (hl : l.length ≤ 9223372036854775807) : Run (EX cp) 70 [.sl 3 (chs l)] = some (.val (pi (if ordd l = true then 0 else 180))) := by
  rw [run_fn _ A_edit_order _ rfl rfl rfl]
  by_cases h0 : l.length = 0
  · have : l = [] := List.eq_nil_of_length_eq_zero h0
    subst this
    have h : Code (EX cp) L_edit_order_0 ⟨[(0, .p (.sl 3 [])), (3, .p (pi 1))], []⟩ = some (.ex 0, ⟨[(0, .p (.sl 3 [])), (3, .p (pi 1)), (9, .p (pb false))], []⟩) := by
      rw [L_edit_order_0, k_loop]
      simp (disch := omega) [dec_no]
    simp (disch := omega) [A_edit_order, h, ordd]
  · have h := order_loop (cp := cp) l hl (l.length - 1) 0 (by omega)
    rw [List.drop_zero, show ((0 : Nat) : Int) + 1 = 1 from rfl] at h
    generalize ordd l = b at *
    cases b <;> simp (disch := omega) [A_edit_order, h]
/-- How much longer the text may get, when all is cut. -/
def lngA (s : ByteArray) : Int → List Ch → Int
  | n, [] => n
  | n, c :: l => lngA s (n + min (max (IntKind.wrap .i64 (c.t - c.f)) 0) s.size) l
/-- What is left, if each text has room. -/
def lngB : Int → List Ch → Option Int
  | n, [] => some n
  | n, c :: l => if n < c.s.size then none else lngB (n - c.s.size) l
def lng (s : ByteArray) (l : List Ch) : Bool := match lngB (lngA s (20000 - s.size) l) l with
  | none => true
  | some n => decide (n < 0)
theorem long0_loop (s : ByteArray) (l : List Ch) (hs : s.size < 1099511627776) (hl : l.length ≤ 8) : ∀ (m i : Nat) (n : Int), m + i = l.length → -1099511627776 ≤ n → n ≤ 20000 + 1099511627776 * i →
    Code (EX cp) L_edit_long_0 ⟨[(0, .p (.sc (.string s))), (1, .p (.sl 3 (chs l))), (5, .p (pi n)), (13, .p (.sl 3 (chs l))), (14, .p (pi l.length)), (15, .p (pi i))], []⟩ =
      some (.ex 0, ⟨[(0, .p (.sc (.string s))), (1, .p (.sl 3 (chs l))), (5, .p (pi (lngA s n (l.drop i)))), (13, .p (.sl 3 (chs l))), (14, .p (pi l.length)), (15, .p (pi l.length)), (16, .p (pb false))], []⟩) := by
  intro m
  induction m with
  | zero =>
    intro i n hi h1 h2
    have : i = l.length := by omega
    subst this
    rw [List.drop_length, lngA, L_edit_long_0, k_loop]
    simp
  | succ m ih =>
    intro i n hi hn1 hn2
    have h1 : i < l.length := by omega
    have hg := chs_at l i h1
    rw [List.drop_eq_getElem_cons h1, lngA]
    generalize l[i] = c at *
    have hpv : c.pv = [pi c.f, pi c.t, .sc (.string c.s)] := rfl
    rw [hpv] at hg
    generalize hw : IntKind.wrap .i64 (c.t - c.f) = w at *
    have hm1 : mnmxs true (pi w) [pi 0] = some (pi (max w 0)) := by
      simp only [mnmxs, mnmx, if_true]
      rw [max_eq]
    have hm2 : mnmxs false (pi (max w 0)) [pi s.size] = some (pi (min (max w 0) s.size)) := by
      simp only [mnmxs, mnmx, Bool.false_eq_true, if_false]
      rw [min_eq]
    have b0 : 0 ≤ min (max w 0) s.size := by omega
    have b1 : min (max w 0) s.size ≤ s.size := by omega
    generalize min (max w 0) s.size = q at *
    have ih' := ih (i+1) (n + q) (by omega) (by omega) (by omega)
    rw [← ih', L_edit_long_0, k_loop]
    simp (disch := omega) [h1, hg, hw, hm1, hm2, dec_yes, dec_no, wrap_in, -mnmxs, -getElem?_pos]
theorem long1_loop (l : List Ch) (hl : l.length ≤ 8) : ∀ (m i : Nat) (n : Int), m + i = l.length → -1099511627776 ≤ n → n ≤ 9223372036854775807 →
    Code (EX cp) L_edit_long_1 ⟨[(5, .p (pi n)), (31, .p (.sl 3 (chs l))), (32, .p (pi l.length)), (33, .p (pi i))], []⟩ =
      match lngB n (l.drop i) with
      | some k => some (.ex 2, ⟨[(5, .p (pi k)), (31, .p (.sl 3 (chs l))), (32, .p (pi l.length)), (33, .p (pi l.length)), (34, .p (pb false))], []⟩)
      | none => some (.ret, ⟨[(4, .p (pi 13))], []⟩) := by
  intro m
  induction m with
  | zero =>
    intro i n hi h1 h2
    have : i = l.length := by omega
    subst this
    rw [List.drop_length, lngB, L_edit_long_1, k_loop]
    simp
  | succ m ih =>
    intro i n hi hn1 hn2
    have h1 : i < l.length := by omega
    have hg := chs_at l i h1
    rw [List.drop_eq_getElem_cons h1, lngB]
    generalize l[i] = c at *
    have hpv : c.pv = [pi c.f, pi c.t, .sc (.string c.s)] := rfl
    rw [hpv] at hg
    by_cases hc : n < c.s.size
    · rw [if_pos hc, L_edit_long_1, k_loop]
      simp (disch := omega) [h1, hg, hc, dec_yes, dec_no, wrap_in, -getElem?_pos]
    · rw [if_neg hc, ← ih (i+1) (n - c.s.size) (by omega) (by omega) (by omega), L_edit_long_1, k_loop]
      simp (disch := omega) [h1, hg, hc, dec_yes, dec_no, wrap_in, -getElem?_pos]
theorem lngA_bound (s : ByteArray) (hs : s.size < 1099511627776) : ∀ (l : List Ch) (n : Int), n ≤ lngA s n l ∧ lngA s n l ≤ n + 1099511627776 * l.length
  | [], n => by simp [lngA]
  | c :: l, n => by
    have h := lngA_bound s hs l (n + min (max (IntKind.wrap .i64 (c.t - c.f)) 0) s.size)
    rw [lngA, List.length_cons]
    generalize IntKind.wrap .i64 (c.t - c.f) = w at *
    omega
theorem editLong (s : ByteArray) (l : List Ch) (hs : s.size < 1099511627776) (hl : l.length ≤ 8) : Run (EX cp) 72 [.sc (.string s), .sl 3 (chs l)] = some (.val (pi (if lng s l = true then 13 else 0))) := by
  have h0 := long0_loop (cp := cp) s l hs hl l.length 0 (20000 - s.size) (by omega) (by omega) (by omega)
  have hb := lngA_bound s hs l (20000 - s.size)
  have h1 := long1_loop (cp := cp) l hl l.length 0 (lngA s (20000 - s.size) l) (by omega) (by omega) (by omega)
  rw [List.drop_zero, show ((0 : Nat) : Int) = 0 from rfl] at h0 h1
  unfold lng
  rw [run_fn _ A_edit_long _ rfl rfl rfl]
  generalize lngA s (20000 - s.size) l = n at *
  cases hB : lngB n l with
  | none =>
    rw [hB] at h1
    simp (disch := omega) [A_edit_long, h0, h1, wrap_in]
  | some k =>
    rw [hB] at h1
    by_cases hk : k < 0
    · simp (disch := omega) [A_edit_long, h0, h1, hk, wrap_in]
    · simp (disch := omega) [A_edit_long, h0, h1, hk, wrap_in]
/-! ### The closures of Check -/
def rngB (s : ByteArray) (c : Ch) : Bool := decide (c.f < 0) || decide (c.t < c.f) || decide ((s.size : Int) < c.t)
def edgB (s : ByteArray) (c : Ch) : Bool := !edge s c.f || !edge s c.t
def badS' (c : Ch) : Bool := !valid (L c.s)
theorem check1 (s : ByteArray) (i : Int) (hs : s.size < 1099511627776) : Run (EX cp) 65 [pi i, .pt [.sc (.string s)]] = some (.val (pb (edge s i))) := by
  have h := utfIsEdge (cp := cp) s i hs
  rw [run_fn _ A_edit_Check_1 _ rfl rfl rfl]
  simp (disch := omega) [A_edit_Check_1, h]
theorem check2 (s : ByteArray) (c : Ch) : Run (EX cp) 68 [.st c.pv, .pt [.sc (.string s)]] = some (.val (pb (rngB s c))) := by
  rw [run_fn _ A_edit_Check_2 _ rfl rfl rfl]
  unfold rngB
  have hpv : c.pv = [pi c.f, pi c.t, .sc (.string c.s)] := rfl
  rw [hpv]
  by_cases c0 : c.f < 0
  · simp (disch := omega) [A_edit_Check_2, c0, dec_yes]
  · by_cases c1 : c.t < c.f
    · simp (disch := omega) [A_edit_Check_2, c0, c1, dec_yes]
    · simp (disch := omega) [A_edit_Check_2, c0, c1, dec_yes]
theorem check3 (s : ByteArray) (c : Ch) (hs : s.size < 1099511627776) : Run (EX cp) 69 [.st c.pv, .pt [.fn 65 [.pt [.sc (.string s)]]]] = some (.val (pb (edgB s c))) := by
  have h1 := check1 (cp := cp) s c.f hs
  have h2 := check1 (cp := cp) s c.t hs
  rw [run_fn _ A_edit_Check_3 _ rfl rfl rfl]
  unfold edgB
  have hpv : c.pv = [pi c.f, pi c.t, .sc (.string c.s)] := rfl
  rw [hpv]
  generalize edge s c.f = b1 at *
  generalize edge s c.t = b2 at *
  cases b1 <;> simp (disch := omega) [A_edit_Check_3, h1, h2]
theorem check4 (c : Ch) (hs : c.s.size < 1099511627776) : Run (EX cp) 71 [.st c.pv] = some (.val (pb (badS' c))) := by
  have h1 := utfValid (cp := cp) c.s hs
  rw [run_fn _ A_edit_Check_4 _ rfl rfl rfl]
  unfold badS'
  have hpv : c.pv = [pi c.f, pi c.t, .sc (.string c.s)] := rfl
  rw [hpv]
  simp (disch := omega) [A_edit_Check_4, h1]
def fstNZ : List Int → Int
  | [] => 0
  | a :: l => if a = 0 then fstNZ l else a
theorem codes_loop (ns : List Int) (hn : ns.length ≤ 100) : ∀ (m i : Nat), m + i = ns.length →
    Code (EX cp) L_edit_Check_0 ⟨[(30, .ms 30 0 ns.length), (31, .p (pi ns.length)), (32, .p (pi i))], [(30, .row 49 1 false (ints ns))]⟩ =
      if fstNZ (ns.drop i) = 0 then some (.ex 1, ⟨[(30, .ms 30 0 ns.length), (31, .p (pi ns.length)), (32, .p (pi ns.length)), (33, .p (pb false))], [(30, .row 49 1 false (ints ns))]⟩) else some (.ret, ⟨[(4, .p (pi (fstNZ (ns.drop i))))], []⟩) := by
  intro m
  induction m with
  | zero =>
    intro i hi
    have : i = ns.length := by omega
    subst this
    rw [List.drop_length, if_pos (by rfl), L_edit_Check_0, k_loop]
    simp
  | succ m ih =>
    intro i hi
    have h1 : i < ns.length := by omega
    have ih' := ih (i+1) (by omega)
    have hg := ints_at ns i h1
    rw [List.drop_eq_getElem_cons h1, fstNZ]
    generalize ns[i] = n at *
    by_cases c : n = 0
    · subst c
      simp only [if_true]
      rw [← ih', L_edit_Check_0, k_loop]
      simp (disch := omega) [h1, hg, dec_yes, dec_no, wrap_in, -getElem?_pos]
    · rw [if_neg c, if_neg c, L_edit_Check_0, k_loop]
      simp (disch := omega) [h1, hg, c, dec_yes, dec_no, wrap_in, -getElem?_pos]
/-- What is wrong with changes of a text. -/
def chk (s : ByteArray) (l : List Ch) : Int :=
  if valid (L s) = false then 12 else if 8 < l.length then 70 else
    fstNZ [if l.any (rngB s) = true then 10 else 0, if l.any (edgB s) = true then 11 else 0, if ordd l = true then 0 else 180, if l.any badS' = true then 12 else 0, if lng s l = true then 13 else 0]
end Go.Proofs.Ytihgpnfkadldeaa.AM
