/- Made by pack.py: AR19, AR20, AR21, AR22, AR23, AR24, AR25, AR26, AR27, AR28, AR29, AR30, AR31, AR32, AR33, AR34, RE5, AR35, AR36, AR37, AR38, RE6, RE7. No condition but what each says. -/
import Derived.Test.YtjpibniecllafaaGreatR13
import Derived.Test.YtjpibniecllafaaGreatR12
set_option linter.unusedSimpArgs false
set_option linter.unusedVariables false
section
namespace Go.Proofs.YtjpibniecllafaaGreat.AM
open Go Go.Proofs.YtjpibniecllafaaGreat.U
variable {cp : List PV → Option Ret}
theorem Toi (l : List Ch) (e : Int) (fid : FuncId) (cs : List PV) (p : Ch → Bool) (hl : l.length ≤ 9223372036854775807) (hp : ∀ c ∈ l, Run (EX cp) fid (.st c.pv :: cs) = some (.val (pb (p c)))) : ∀ (m i : Nat), m + i = l.length →
 Code (EX cp) L_edit_first_0 ⟨[(1, .p (pi e)), (2, .p (.fn fid cs)), (9, .p (.sl 3 (chs l))), (10, .p (pi l.length)), (11, .p (pi i))], []⟩ =
  if (l.drop i).any p = true then some (.ret, ⟨[(6, .p (pi e))], []⟩) else some (.ex 0, ⟨[(1, .p (pi e)), (2, .p (.fn fid cs)), (9, .p (.sl 3 (chs l))), (10, .p (pi l.length)), (11, .p (pi l.length)), (12, .p (pb false))], []⟩) := by
 intro m
 induction m with
 | zero =>
  intro i hi
  have : i = l.length := by omega
  subst this
  rw [List.drop_length, List.any_nil, if_neg (by simp), L_edit_first_0, Tag]
  simp
 | succ m ih =>
  intro i hi
  have h1 : i < l.length := by omega
  have ih' := ih (i+1) (by omega)
  have hg := Tbs l i h1
  have hr := hp l[i] (List.getElem_mem h1)
  rw [List.drop_eq_getElem_cons h1, List.any_cons]
  generalize l[i] = c at *
  have hpv : c.pv = [pi c.f, pi c.t, .sc (.string c.s)] := rfl
  rw [hpv] at hg hr
  cases hb : p c <;> rw [hb] at hr
  · rw [Bool.false_or, ← ih', L_edit_first_0, Tag]
    simp (disch := omega) [h1, hg, hr, Tab, Tad, Tae, -getElem?_pos]
  · rw [Bool.true_or, if_pos rfl, L_edit_first_0, Tag]
    simp (disch := omega) [h1, hg, hr, Tab, Tad, Tae, -getElem?_pos]
theorem editFirst (l : List Ch) (e : Int) (fid : FuncId) (cs : List PV) (p : Ch → Bool) (hl : l.length ≤ 9223372036854775807) (hp : ∀ c ∈ l, Run (EX cp) fid (.st c.pv :: cs) = some (.val (pb (p c)))) :
 Run (EX cp) 91 [.sl 3 (chs l), pi e, .fn fid cs] = some (.val (pi (if l.any p = true then e else 0))) := by
 have h := Toi (cp := cp) l e fid cs p hl hp l.length 0 (by omega)
 rw [List.drop_zero, show ((0 : Nat) : Int) = 0 from rfl] at h
 rw [Tam _ A_edit_first _ rfl rfl rfl]
 generalize l.any p = b at *
 cases b <;> simp (disch := omega) [A_edit_first, h]
def ordd : List Ch → Bool
 | a :: b :: l => !(decide (b.f < a.t) || (decide (a.f = b.f) && decide (a.t = b.f))) && ordd (b :: l)
 | _ => true
theorem Toj (l : List Ch) (hl : l.length ≤ 9223372036854775807) : ∀ (m i : Nat), m + i + 1 = l.length →
 Code (EX cp) L_edit_order_0 ⟨[(0, .p (.sl 3 (chs l))), (3, .p (pi ((i : Int) + 1)))], []⟩ =
  if ordd (l.drop i) = true then some (.ex 0, ⟨[(0, .p (.sl 3 (chs l))), (3, .p (pi l.length)), (9, .p (pb false))], []⟩) else some (.ret, ⟨[(2, .p (pi 180))], []⟩) := by
 intro m
 induction m with
 | zero =>
  intro i hi
  have hd : l.drop i = [l[i]'(by omega)] := by
   rw [List.drop_eq_getElem_cons (by omega), List.drop_of_length_le (by omega)]
  have : (i : Int) + 1 = l.length := by omega
  rw [this, hd, if_pos (by rfl), L_edit_order_0, Tag]
  simp
 | succ m ih =>
  intro i hi
  have h0 : i < l.length := by omega
  have h1 : i + 1 < l.length := by omega
  have ih' := ih (i+1) (by omega)
  have hg0 := Tbs l i h0
  have hg1 := Tbs l (i + 1) h1
  rw [List.drop_eq_getElem_cons h1] at ih'
  rw [List.drop_eq_getElem_cons h0, List.drop_eq_getElem_cons h1]
  generalize l[i] = a at *
  generalize l[i+1] = b at *
  have hpa : a.pv = [pi a.f, pi a.t, .sc (.string a.s)] := rfl
  have hpb : b.pv = [pi b.f, pi b.t, .sc (.string b.s)] := rfl
  rw [hpa] at hg0
  rw [hpb] at hg1
  have e1 : ((i + 1 : Nat) : Int) + 1 = (i : Int) + 1 + 1 := by omega
  have e2 : ((i : Int) + 1).toNat = i + 1 := by omega
  rw [e1] at ih'
  have h1' : (i : Int) + 1 < l.length := by omega
  have e3 : (0 : Int) ≤ (i : Int) + 1 := by omega
  rw [ordd]
  by_cases c0 : b.f < a.t
  · rw [decide_eq_true c0, L_edit_order_0, Tag]
    simp (disch := omega) [h0, h1, h1', e2, e3, hg0, hg1, c0, Tab, Tad, Tae, -getElem?_pos]
  · by_cases c1 : a.f = b.f
    · by_cases c2 : a.t = b.f
      · rw [decide_eq_false c0, decide_eq_true c1, decide_eq_true c2, L_edit_order_0, Tag]
        simp (disch := omega) [h0, h1, h1', e2, e3, hg0, hg1, c0, c1, c2, Tab, Tad, Tae, -getElem?_pos]
      · rw [decide_eq_false c0, decide_eq_true c1, decide_eq_false c2]
        simp only [Bool.and_false, Bool.or_false, Bool.not_false, Bool.true_and]
        rw [← ih', L_edit_order_0, Tag]
        simp (disch := omega) [h0, h1, h1', e2, e3, hg0, hg1, c0, c1, c2, Tab, Tad, Tae, -getElem?_pos]
    · rw [decide_eq_false c0, decide_eq_false c1]
      simp only [Bool.false_and, Bool.or_false, Bool.not_false, Bool.true_and]
      rw [← ih', L_edit_order_0, Tag]
      simp (disch := omega) [h0, h1, h1', e2, e3, hg0, hg1, c0, c1, Tab, Tad, Tae, -getElem?_pos]
theorem editOrder (l : List Ch) (hl : l.length ≤ 9223372036854775807) : Run (EX cp) 94 [.sl 3 (chs l)] = some (.val (pi (if ordd l = true then 0 else 180))) := by
 rw [Tam _ A_edit_order _ rfl rfl rfl]
 by_cases h0 : l.length = 0
 · have : l = [] := List.eq_nil_of_length_eq_zero h0
   subst this
   have h : Code (EX cp) L_edit_order_0 ⟨[(0, .p (.sl 3 [])), (3, .p (pi 1))], []⟩ = some (.ex 0, ⟨[(0, .p (.sl 3 [])), (3, .p (pi 1)), (9, .p (pb false))], []⟩) := by
    rw [L_edit_order_0, Tag]
    simp (disch := omega) [Tad]
   simp (disch := omega) [A_edit_order, h, ordd]
 · have h := Toj (cp := cp) l hl (l.length - 1) 0 (by omega)
   rw [List.drop_zero, show ((0 : Nat) : Int) + 1 = 1 from rfl] at h
   generalize ordd l = b at *
   cases b <;> simp (disch := omega) [A_edit_order, h]
def lngA (s : ByteArray) : Int → List Ch → Int
 | n, [] => n
 | n, c :: l => lngA s (n + min (max (IntKind.wrap .i64 (c.t - c.f)) 0) s.size) l
def lngB : Int → List Ch → Option Int
 | n, [] => some n
 | n, c :: l => if n < c.s.size then none else lngB (n - c.s.size) l
def lng (s : ByteArray) (l : List Ch) : Bool := match lngB (lngA s (20000 - s.size) l) l with
 | none => true
 | some n => decide (n < 0)
theorem Tok (s : ByteArray) (l : List Ch) (hs : s.size < 1099511627776) (hl : l.length ≤ 8) : ∀ (m i : Nat) (n : Int), m + i = l.length → -1099511627776 ≤ n → n ≤ 20000 + 1099511627776 * i →
 Code (EX cp) L_edit_long_0 ⟨[(0, .p (.sc (.string s))), (1, .p (.sl 3 (chs l))), (5, .p (pi n)), (13, .p (.sl 3 (chs l))), (14, .p (pi l.length)), (15, .p (pi i))], []⟩ =
  some (.ex 0, ⟨[(0, .p (.sc (.string s))), (1, .p (.sl 3 (chs l))), (5, .p (pi (lngA s n (l.drop i)))), (13, .p (.sl 3 (chs l))), (14, .p (pi l.length)), (15, .p (pi l.length)), (16, .p (pb false))], []⟩) := by
 intro m
 induction m with
 | zero =>
  intro i n hi h1 h2
  have : i = l.length := by omega
  subst this
  rw [List.drop_length, lngA, L_edit_long_0, Tag]
  simp
 | succ m ih =>
  intro i n hi hn1 hn2
  have h1 : i < l.length := by omega
  have hg := Tbs l i h1
  rw [List.drop_eq_getElem_cons h1, lngA]
  generalize l[i] = c at *
  have hpv : c.pv = [pi c.f, pi c.t, .sc (.string c.s)] := rfl
  rw [hpv] at hg
  generalize hw : IntKind.wrap .i64 (c.t - c.f) = w at *
  have hm1 : mnmxs true (pi w) [pi 0] = some (pi (max w 0)) := by
   simp only [mnmxs, mnmx, if_true]
   rw [Tuo]
  have hm2 : mnmxs false (pi (max w 0)) [pi s.size] = some (pi (min (max w 0) s.size)) := by
   simp only [mnmxs, mnmx, Bool.false_eq_true, if_false]
   rw [Tup]
  have b0 : 0 ≤ min (max w 0) s.size := by omega
  have b1 : min (max w 0) s.size ≤ s.size := by omega
  generalize min (max w 0) s.size = q at *
  have ih' := ih (i+1) (n + q) (by omega) (by omega) (by omega)
  rw [← ih', L_edit_long_0, Tag]
  simp (disch := omega) [h1, hg, hw, hm1, hm2, Tab, Tad, Tae, -mnmxs, -getElem?_pos]
theorem Tol (l : List Ch) (hl : l.length ≤ 8) : ∀ (m i : Nat) (n : Int), m + i = l.length → -1099511627776 ≤ n → n ≤ 9223372036854775807 →
 Code (EX cp) L_edit_long_1 ⟨[(5, .p (pi n)), (31, .p (.sl 3 (chs l))), (32, .p (pi l.length)), (33, .p (pi i))], []⟩ =
  match lngB n (l.drop i) with
  | some k => some (.ex 2, ⟨[(5, .p (pi k)), (31, .p (.sl 3 (chs l))), (32, .p (pi l.length)), (33, .p (pi l.length)), (34, .p (pb false))], []⟩)
  | none => some (.ret, ⟨[(4, .p (pi 13))], []⟩) := by
 intro m
 induction m with
 | zero =>
  intro i n hi h1 h2
  have : i = l.length := by omega
  subst this
  rw [List.drop_length, lngB, L_edit_long_1, Tag]
  simp
 | succ m ih =>
  intro i n hi hn1 hn2
  have h1 : i < l.length := by omega
  have hg := Tbs l i h1
  rw [List.drop_eq_getElem_cons h1, lngB]
  generalize l[i] = c at *
  have hpv : c.pv = [pi c.f, pi c.t, .sc (.string c.s)] := rfl
  rw [hpv] at hg
  by_cases hc : n < c.s.size
  · rw [if_pos hc, L_edit_long_1, Tag]
    simp (disch := omega) [h1, hg, hc, Tab, Tad, Tae, -getElem?_pos]
  · rw [if_neg hc, ← ih (i+1) (n - c.s.size) (by omega) (by omega) (by omega), L_edit_long_1, Tag]
    simp (disch := omega) [h1, hg, hc, Tab, Tad, Tae, -getElem?_pos]
theorem Th0 (s : ByteArray) (hs : s.size < 1099511627776) : ∀ (l : List Ch) (n : Int), n ≤ lngA s n l ∧ lngA s n l ≤ n + 1099511627776 * l.length
 | [], n => by simp [lngA]
 | c :: l, n => by
  have h := Th0 s hs l (n + min (max (IntKind.wrap .i64 (c.t - c.f)) 0) s.size)
  rw [lngA, List.length_cons]
  generalize IntKind.wrap .i64 (c.t - c.f) = w at *
  omega
theorem editLong (s : ByteArray) (l : List Ch) (hs : s.size < 1099511627776) (hl : l.length ≤ 8) : Run (EX cp) 96 [.sc (.string s), .sl 3 (chs l)] = some (.val (pi (if lng s l = true then 13 else 0))) := by
 have h0 := Tok (cp := cp) s l hs hl l.length 0 (20000 - s.size) (by omega) (by omega) (by omega)
 have hb := Th0 s hs l (20000 - s.size)
 have h1 := Tol (cp := cp) l hl l.length 0 (lngA s (20000 - s.size) l) (by omega) (by omega) (by omega)
 rw [List.drop_zero, show ((0 : Nat) : Int) = 0 from rfl] at h0 h1
 unfold lng
 rw [Tam _ A_edit_long _ rfl rfl rfl]
 generalize lngA s (20000 - s.size) l = n at *
 cases hB : lngB n l with
 | none =>
  rw [hB] at h1
  simp (disch := omega) [A_edit_long, h0, h1, Tae]
 | some k =>
  rw [hB] at h1
  by_cases hk : k < 0
  · simp (disch := omega) [A_edit_long, h0, h1, hk, Tae]
  · simp (disch := omega) [A_edit_long, h0, h1, hk, Tae]
def rngB (s : ByteArray) (c : Ch) : Bool := decide (c.f < 0) || decide (c.t < c.f) || decide ((s.size : Int) < c.t)
def edgB (s : ByteArray) (c : Ch) : Bool := !edge s c.f || !edge s c.t
def badS' (c : Ch) : Bool := !valid (L c.s)
theorem check1 (s : ByteArray) (i : Int) (hs : s.size < 1099511627776) : Run (EX cp) 90 [pi i, .pt [.sc (.string s)]] = some (.val (pb (edge s i))) := by
 have h := utfIsEdge (cp := cp) s i hs
 rw [Tam _ A_edit_Check_1 _ rfl rfl rfl]
 simp (disch := omega) [A_edit_Check_1, h]
theorem check2 (s : ByteArray) (c : Ch) : Run (EX cp) 92 [.st c.pv, .pt [.sc (.string s)]] = some (.val (pb (rngB s c))) := by
 rw [Tam _ A_edit_Check_2 _ rfl rfl rfl]
 unfold rngB
 have hpv : c.pv = [pi c.f, pi c.t, .sc (.string c.s)] := rfl
 rw [hpv]
 by_cases c0 : c.f < 0
 · simp (disch := omega) [A_edit_Check_2, c0, Tab]
 · by_cases c1 : c.t < c.f
   · simp (disch := omega) [A_edit_Check_2, c0, c1, Tab]
   · simp (disch := omega) [A_edit_Check_2, c0, c1, Tab]
theorem check3 (s : ByteArray) (c : Ch) (hs : s.size < 1099511627776) : Run (EX cp) 93 [.st c.pv, .pt [.fn 90 [.pt [.sc (.string s)]]]] = some (.val (pb (edgB s c))) := by
 have h1 := check1 (cp := cp) s c.f hs
 have h2 := check1 (cp := cp) s c.t hs
 rw [Tam _ A_edit_Check_3 _ rfl rfl rfl]
 unfold edgB
 have hpv : c.pv = [pi c.f, pi c.t, .sc (.string c.s)] := rfl
 rw [hpv]
 generalize edge s c.f = b1 at *
 generalize edge s c.t = b2 at *
 cases b1 <;> simp (disch := omega) [A_edit_Check_3, h1, h2]
theorem check4 (c : Ch) (hs : c.s.size < 1099511627776) : Run (EX cp) 95 [.st c.pv] = some (.val (pb (badS' c))) := by
 have h1 := utfValid (cp := cp) c.s hs
 rw [Tam _ A_edit_Check_4 _ rfl rfl rfl]
 unfold badS'
 have hpv : c.pv = [pi c.f, pi c.t, .sc (.string c.s)] := rfl
 rw [hpv]
 simp (disch := omega) [A_edit_Check_4, h1]
def fstNZ : List Int → Int
 | [] => 0
 | a :: l => if a = 0 then fstNZ l else a
theorem Tom (ns : List Int) (hn : ns.length ≤ 100) : ∀ (m i : Nat), m + i = ns.length →
 Code (EX cp) L_edit_Check_0 ⟨[(30, .ms 30 0 ns.length), (31, .p (pi ns.length)), (32, .p (pi i))], [(30, .row 26 1 false (ints ns))]⟩ =
  if fstNZ (ns.drop i) = 0 then some (.ex 1, ⟨[(30, .ms 30 0 ns.length), (31, .p (pi ns.length)), (32, .p (pi ns.length)), (33, .p (pb false))], [(30, .row 26 1 false (ints ns))]⟩) else some (.ret, ⟨[(4, .p (pi (fstNZ (ns.drop i))))], []⟩) := by
 intro m
 induction m with
 | zero =>
  intro i hi
  have : i = ns.length := by omega
  subst this
  rw [List.drop_length, if_pos (by rfl), L_edit_Check_0, Tag]
  simp
 | succ m ih =>
  intro i hi
  have h1 : i < ns.length := by omega
  have ih' := ih (i+1) (by omega)
  have hg := Te7 ns i h1
  rw [List.drop_eq_getElem_cons h1, fstNZ]
  generalize ns[i] = n at *
  by_cases c : n = 0
  · subst c
    simp only [if_true]
    rw [← ih', L_edit_Check_0, Tag]
    simp (disch := omega) [h1, hg, Tab, Tad, Tae, -getElem?_pos]
  · rw [if_neg c, if_neg c, L_edit_Check_0, Tag]
    simp (disch := omega) [h1, hg, c, Tab, Tad, Tae, -getElem?_pos]
def chk (s : ByteArray) (l : List Ch) : Int :=
 if valid (L s) = false then 12 else if 8 < l.length then 70 else
  fstNZ [if l.any (rngB s) = true then 10 else 0, if l.any (edgB s) = true then 11 else 0, if ordd l = true then 0 else 180, if l.any badS' = true then 12 else 0, if lng s l = true then 13 else 0]
set_option maxHeartbeats 4000000 in
theorem editCheck (s : ByteArray) (l : List Ch) (hs : s.size < 1099511627776) (hl : l.length ≤ 9223372036854775807) (hc : ∀ c ∈ l, c.s.size < 1099511627776) : Run (EX cp) 52 [.sc (.string s), .sl 3 (chs l)] = some (.val (pi (chk s l))) := by
 have hv := utfValid (cp := cp) s hs
 rw [Tam _ A_edit_Check _ rfl rfl rfl]
 unfold chk
 generalize valid (L s) = b at *
 cases b
 · simp (disch := omega) [A_edit_Check, hv]
 by_cases c8 : l.length ≤ 8
 case neg =>
  rw [if_neg (by simp), if_pos (by omega)]
  simp (disch := omega) [A_edit_Check, hv, c8, Tab, Tad]
 rw [if_neg (by simp), if_neg (by omega)]
 have f1 := editFirst (cp := cp) l 10 92 [.pt [.sc (.string s)]] (rngB s) hl fun c _ => check2 s c
 have f2 := editFirst (cp := cp) l 11 93 [.pt [.fn 90 [.pt [.sc (.string s)]]]] (edgB s) hl fun c _ => check3 s c hs
 have f3 := editOrder (cp := cp) l hl
 have f4 := editFirst (cp := cp) l 12 95 [] badS' hl fun c hcl => check4 c (hc c hcl)
 have f5 := editLong (cp := cp) s l hs c8
 generalize (if l.any (rngB s) = true then (10 : Int) else 0) = n1 at *
 generalize (if l.any (edgB s) = true then (11 : Int) else 0) = n2 at *
 generalize (if ordd l = true then (0 : Int) else 180) = n3 at *
 generalize (if l.any badS' = true then (12 : Int) else 0) = n4 at *
 generalize (if lng s l = true then (13 : Int) else 0) = n5 at *
 have hlp := Tom (cp := cp) [n1, n2, n3, n4, n5] (by simp) 5 0 (by simp)
 rw [List.drop_zero, show ((0 : Nat) : Int) = 0 from rfl, show ([n1, n2, n3, n4, n5] : List Int).length = 5 from rfl, show ((5 : Nat) : Int) = 5 from rfl, show ints [n1, n2, n3, n4, n5] = [[pi n1], [pi n2], [pi n3], [pi n4], [pi n5]] from rfl] at hlp
 generalize fstNZ [n1, n2, n3, n4, n5] = r at *
 by_cases hr : r = 0
 · rw [if_pos hr] at hlp
   subst hr
   simp (disch := omega) [A_edit_Check, hv, c8, f1, f2, f3, f4, f5, hlp, Tab, Tad]
 · rw [if_neg hr] at hlp
   simp (disch := omega) [A_edit_Check, hv, c8, f1, f2, f3, f4, f5, hlp, Tab, Tad]
def doF (s : ByteArray) : List Ch → Int → List UInt8
 | [], k => (L s).drop k.toNat
 | c :: l, k => ((L s).drop k.toNat).take (c.f - k).toNat ++ L c.s ++ doF s l c.t
def Chain (s : ByteArray) : List Ch → Int → Prop
 | [], k => 0 ≤ k ∧ k ≤ s.size
 | c :: l, k => 0 ≤ k ∧ k ≤ c.f ∧ c.f ≤ c.t ∧ c.t ≤ s.size ∧ Chain s l c.t
theorem Ton {l : List Int} (h : fstNZ l = 0) : ∀ n ∈ l, n = 0 := by
 induction l with
 | nil => simp
 | cons a l ih =>
  rw [fstNZ] at h
  intro n hn
  by_cases c : a = 0
  · rw [if_pos c] at h
    rcases List.mem_cons.1 hn with rfl | hn
    · exact c
    · exact ih h n hn
  · rw [if_neg c] at h; exact absurd h c
structure Good18 (s : ByteArray) (l : List Ch) : Prop where
 val : valid (L s) = true
 len : l.length ≤ 8
 rng : ∀ c ∈ l, 0 ≤ c.f ∧ c.f ≤ c.t ∧ c.t ≤ s.size
 edg : ∀ c ∈ l, edge s c.f = true ∧ edge s c.t = true
 ord : ordd l = true
 txt : ∀ c ∈ l, valid (L c.s) = true
 lng : lng s l = false
theorem Tco {s : ByteArray} {l : List Ch} (h : chk s l = 0) : Good18 s l := by
 unfold chk at h
 split at h
 · simp at h
 rename_i hv
 split at h
 · simp at h
 rename_i hl
 have hz := Ton h
 simp only [List.mem_cons, List.not_mem_nil, or_false] at hz
 have z1 := hz _ (.inl rfl)
 have z2 := hz _ (.inr (.inl rfl))
 have z3 := hz _ (.inr (.inr (.inl rfl)))
 have z4 := hz _ (.inr (.inr (.inr (.inl rfl))))
 have z5 := hz _ (.inr (.inr (.inr (.inr rfl))))
 have y1 : l.any (rngB s) = false := by
  by_cases hb : l.any (rngB s) = true
  · rw [if_pos hb] at z1; omega
  · simpa using hb
 have y2 : l.any (edgB s) = false := by
  by_cases hb : l.any (edgB s) = true
  · rw [if_pos hb] at z2; omega
  · simpa using hb
 have y3 : ordd l = true := by
  by_cases hb : ordd l = true
  · exact hb
  · rw [if_neg hb] at z3; omega
 have y4 : l.any badS' = false := by
  by_cases hb : l.any badS' = true
  · rw [if_pos hb] at z4; omega
  · simpa using hb
 have y5 : AM.lng s l = false := by
  by_cases hb : AM.lng s l = true
  · rw [if_pos hb] at z5; omega
  · simpa using hb
 rw [List.any_eq_false] at y1 y2 y4
 refine ⟨by simpa using hv, by omega, fun c hc => ?_, fun c hc => ?_, y3, fun c hc => ?_, y5⟩
 · have := y1 c hc
   unfold rngB at this
   simp at this
   omega
 · have := y2 c hc
   unfold edgB at this
   simpa using this
 · have := y4 c hc
   unfold badS' at this
   simpa using this
theorem Tm8 (s : ByteArray) : ∀ (l : List Ch) (k : Int), 0 ≤ k → k ≤ s.size → (∀ c ∈ l, 0 ≤ c.f ∧ c.f ≤ c.t ∧ c.t ≤ s.size) → ordd l = true → (∀ c ∈ l.head?, k ≤ c.f) → Chain s l k
 | [], k, h0, h1, _, _, _ => ⟨h0, h1⟩
 | [c], k, h0, h1, hr, _, hh => by
  have := hr c (by simp)
  exact ⟨h0, hh c (by simp), this.2.1, this.2.2, by omega, this.2.2⟩
 | a :: b :: l, k, h0, h1, hr, ho, hh => by
  have ha := hr a (by simp)
  rw [ordd, Bool.and_eq_true] at ho
  have h2 : a.t ≤ b.f := by
   have := ho.1
   simp at this
   omega
  exact ⟨h0, hh a (by simp), ha.2.1, ha.2.2, Tm8 s (b :: l) a.t (by omega) ha.2.2 (fun c hc => hr c (by simp [hc])) ho.2 (fun c hc => by simp at hc; subst hc; exact h2)⟩
theorem Good18.chain {s : ByteArray} {l : List Ch} (h : Good18 s l) : Chain s l 0 :=
 Tm8 s l 0 (by omega) (by omega) h.rng h.ord fun c hc => (h.rng c (List.mem_of_mem_head? hc)).1
theorem Tq4 (s : ByteArray) : ∀ (l : List Ch) (k : Int), Chain s l k → (doF s l k).length ≤ s.size + (l.map fun c => c.s.size).sum
 | [], k, h => by rw [doF, List.length_drop, L_len]; simp
 | c :: l, k, h => by
  obtain ⟨h0, h1, h2, h3, h4⟩ := h
  have ih := doF_len' s l c.t h4
  rw [doF, List.length_append, List.length_append, L_len, List.length_take, List.length_drop, L_len, List.map_cons, List.sum_cons]
  omega
where doF_len' (s : ByteArray) : ∀ (l : List Ch) (k : Int), Chain s l k → ((doF s l k).length : Int) ≤ s.size - k + (l.map fun c => c.s.size).sum
 | [], k, h => by obtain ⟨h0, h1⟩ := h; rw [doF, List.length_drop, L_len]; simp; omega
 | c :: l, k, h => by
  obtain ⟨h0, h1, h2, h3, h4⟩ := h
  have ih := doF_len' s l c.t h4
  rw [doF, List.length_append, List.length_append, L_len, List.length_take, List.length_drop, L_len, List.map_cons, List.sum_cons]
  omega
def doS (s : ByteArray) (l : List Ch) : ByteArray := if chk s l = 0 then ⟨(doF s l 0).toArray⟩ else s
theorem Tlo (s : ByteArray) (k : Nat) : s.extract k s.size = ⟨((L s).drop k).toArray⟩ := by
 rcases Nat.le_total k s.size with h | h
 · have := Thw s k (s.size - k)
   rw [show k + (s.size - k) = s.size by omega] at this
   rw [this, List.take_of_length_le (by rw [List.length_drop, L_len]; exact Nat.le_refl _)]
 · rw [List.drop_of_length_le (by rw [L_len]; exact h)]
   apply L_inj
   rw [L_mk]
   apply List.eq_nil_of_length_eq_zero
   have := L_len (s.extract k s.size)
   rw [ByteArray.size_extract] at this
   show (L (s.extract k s.size)).length = 0
   omega
theorem Tkh (l : List Ch) (hl : l.length ≤ 9223372036854775807) : ∀ (m i : Nat), m + i + 1 = l.length →
 Code (EX cp) L_ref11_Ordered_0 ⟨[(0, .p (.sl 3 (chs l))), (3, .p (pi ((i : Int) + 1)))], []⟩ =
  if ordd (l.drop i) = true then some (.ex 0, ⟨[(0, .p (.sl 3 (chs l))), (3, .p (pi l.length)), (9, .p (pb false))], []⟩) else some (.ret, ⟨[(2, .p (pb false))], []⟩) := by
 intro m
 induction m with
 | zero =>
  intro i hi
  have hd : l.drop i = [l[i]'(by omega)] := by
   rw [List.drop_eq_getElem_cons (by omega), List.drop_of_length_le (by omega)]
  have : (i : Int) + 1 = l.length := by omega
  rw [this, hd, if_pos (by rfl), L_ref11_Ordered_0, Tag]
  simp
 | succ m ih =>
  intro i hi
  have h0 : i < l.length := by omega
  have h1 : i + 1 < l.length := by omega
  have ih' := ih (i+1) (by omega)
  have hg0 := Tbs l i h0
  have hg1 := Tbs l (i + 1) h1
  rw [List.drop_eq_getElem_cons h1] at ih'
  rw [List.drop_eq_getElem_cons h0, List.drop_eq_getElem_cons h1]
  generalize l[i] = a at *
  generalize l[i+1] = b at *
  have hpa : a.pv = [pi a.f, pi a.t, .sc (.string a.s)] := rfl
  have hpb : b.pv = [pi b.f, pi b.t, .sc (.string b.s)] := rfl
  rw [hpa] at hg0
  rw [hpb] at hg1
  have e1 : ((i + 1 : Nat) : Int) + 1 = (i : Int) + 1 + 1 := by omega
  have e2 : ((i : Int) + 1).toNat = i + 1 := by omega
  rw [e1] at ih'
  have h1' : (i : Int) + 1 < l.length := by omega
  have e3 : (0 : Int) ≤ (i : Int) + 1 := by omega
  rw [ordd]
  by_cases c0 : b.f < a.t
  · rw [decide_eq_true c0, L_ref11_Ordered_0, Tag]
    simp (disch := omega) [h0, h1, h1', e2, e3, hg0, hg1, c0, Tab, Tad, Tae, -getElem?_pos]
  · by_cases c1 : b.f = a.f
    · by_cases c2 : a.f = a.t
      · rw [decide_eq_false c0, decide_eq_true c1.symm, decide_eq_true (show a.t = b.f by omega), L_ref11_Ordered_0, Tag]
        simp (disch := omega) [h0, h1, h1', e2, e3, hg0, hg1, c0, c1, c2, Tab, Tad, Tae, -getElem?_pos]
      · rw [decide_eq_false c0, decide_eq_true c1.symm, decide_eq_false (show ¬ a.t = b.f by omega)]
        simp only [Bool.and_false, Bool.or_false, Bool.not_false, Bool.true_and]
        rw [← ih', L_ref11_Ordered_0, Tag]
        simp (disch := omega) [h0, h1, h1', e2, e3, hg0, hg1, c0, c1, c2, Tab, Tad, Tae, -getElem?_pos]
    · rw [decide_eq_false c0, decide_eq_false (show ¬ a.f = b.f by omega)]
      simp only [Bool.false_and, Bool.or_false, Bool.not_false, Bool.true_and]
      rw [← ih', L_ref11_Ordered_0, Tag]
      simp (disch := omega) [h0, h1, h1', e2, e3, hg0, hg1, c0, c1, Tab, Tad, Tae, -getElem?_pos]
theorem refOrdered (l : List Ch) (hl : l.length ≤ 9223372036854775807) : Run (EX cp) 65 [.sl 3 (chs l)] = some (.val (pb (ordd l))) := by
 rw [Tam _ A_ref11_Ordered _ rfl rfl rfl]
 by_cases h0 : l.length = 0
 · have : l = [] := List.eq_nil_of_length_eq_zero h0
   subst this
   have h : Code (EX cp) L_ref11_Ordered_0 ⟨[(0, .p (.sl 3 [])), (3, .p (pi 1))], []⟩ = some (.ex 0, ⟨[(0, .p (.sl 3 [])), (3, .p (pi 1)), (9, .p (pb false))], []⟩) := by
    rw [L_ref11_Ordered_0, Tag]
    simp (disch := omega) [Tad]
   simp (disch := omega) [A_ref11_Ordered, h, ordd]
 · have h := Tkh (cp := cp) l hl (l.length - 1) 0 (by omega)
   rw [List.drop_zero, show ((0 : Nat) : Int) + 1 = 1 from rfl] at h
   generalize ordd l = b at *
   cases b <;> simp (disch := omega) [A_ref11_Ordered, h]
theorem Ttv (s : ByteArray) (l : List Ch) (hl : l.length ≤ 8) : ∀ (m i : Nat), m + i = l.length →
 Code (EX cp) L_ref17_Check_0 ⟨[(0, .p (.sc (.string s))), (1, .p (.sl 3 (chs l))), (5, .p (pi i))], []⟩ =
  if (l.drop i).any (rngB s) = true then some (.ret, ⟨[(4, .p (pi 10))], []⟩) else some (.ex 0, ⟨[(0, .p (.sc (.string s))), (1, .p (.sl 3 (chs l))), (5, .p (pi l.length)), (20, .p (pb false))], []⟩) := by
 intro m
 induction m with
 | zero =>
  intro i hi
  have : i = l.length := by omega
  subst this
  rw [List.drop_length, List.any_nil, if_neg (by simp), L_ref17_Check_0, Tag]
  simp
 | succ m ih =>
  intro i hi
  have h1 : i < l.length := by omega
  have ih' := ih (i+1) (by omega)
  have hg := Tbs l i h1
  rw [List.drop_eq_getElem_cons h1, List.any_cons]
  generalize l[i] = c at *
  have hpv : c.pv = [pi c.f, pi c.t, .sc (.string c.s)] := rfl
  rw [hpv] at hg
  rw [show rngB s c = (decide (c.f < 0) || decide (c.t < c.f) || decide ((s.size : Int) < c.t)) from rfl]
  by_cases c0 : c.f < 0
  · rw [decide_eq_true c0, L_ref17_Check_0, Tag]
    simp (disch := omega) [h1, hg, c0, Tab, Tad, Tae, -getElem?_pos]
  · by_cases c1 : c.t < c.f
    · rw [decide_eq_true c1, L_ref17_Check_0, Tag]
      simp (disch := omega) [h1, hg, c0, c1, Tab, Tad, Tae, -getElem?_pos]
    · by_cases c2 : (s.size : Int) < c.t
      · rw [decide_eq_true c2, L_ref17_Check_0, Tag]
        simp (disch := omega) [h1, hg, c0, c1, c2, Tab, Tad, Tae, -getElem?_pos]
      · rw [decide_eq_false c0, decide_eq_false c1, decide_eq_false c2]
        simp only [Bool.false_or]
        rw [← ih', L_ref17_Check_0, Tag]
        simp (disch := omega) [h1, hg, c0, c1, c2, Tab, Tad, Tae, -getElem?_pos]
theorem Ttw (s : ByteArray) (l : List Ch) (hs : s.size < 1099511627776) (hl : l.length ≤ 8) : ∀ (m i : Nat), m + i = l.length →
 Code (EX cp) L_ref17_Check_1 ⟨[(0, .p (.sc (.string s))), (1, .p (.sl 3 (chs l))), (6, .p (pi i))], []⟩ =
  if (l.drop i).any (edgB s) = true then some (.ret, ⟨[(4, .p (pi 11))], []⟩) else some (.ex 2, ⟨[(0, .p (.sc (.string s))), (1, .p (.sl 3 (chs l))), (6, .p (pi l.length)), (55, .p (pb false))], []⟩) := by
 intro m
 induction m with
 | zero =>
  intro i hi
  have : i = l.length := by omega
  subst this
  rw [List.drop_length, List.any_nil, if_neg (by simp), L_ref17_Check_1, Tag]
  simp
 | succ m ih =>
  intro i hi
  have h1 : i < l.length := by omega
  have ih' := ih (i+1) (by omega)
  have hg := Tbs l i h1
  rw [List.drop_eq_getElem_cons h1, List.any_cons]
  generalize l[i] = c at *
  have hpv : c.pv = [pi c.f, pi c.t, .sc (.string c.s)] := rfl
  rw [hpv] at hg
  have n1 := refIsEdge (cp := cp) s c.f hs
  have n2 := refIsEdge (cp := cp) s c.t hs
  rw [show edgB s c = (!edge s c.f || !edge s c.t) from rfl]
  generalize edge s c.f = b1 at *
  generalize edge s c.t = b2 at *
  cases b1
  · rw [L_ref17_Check_1, Tag]
    simp (disch := omega) [h1, hg, n1, Tab, Tad, Tae, -getElem?_pos]
  · cases b2
    · rw [L_ref17_Check_1, Tag]
      simp (disch := omega) [h1, hg, n1, n2, Tab, Tad, Tae, -getElem?_pos]
    · simp only [Bool.not_true, Bool.false_or]
      rw [← ih', L_ref17_Check_1, Tag]
      simp (disch := omega) [h1, hg, n1, n2, Tab, Tad, Tae, -getElem?_pos]
theorem Ttx (l : List Ch) (n : Int) (hc : ∀ c ∈ l, c.s.size < 1099511627776) (hl : l.length ≤ 8) : ∀ (m i : Nat), m + i = l.length →
 Code (EX cp) L_ref17_Check_2 ⟨[(1, .p (.sl 3 (chs l))), (7, .p (pi n)), (8, .p (pi i))], []⟩ =
  if (l.drop i).any badS' = true then some (.ret, ⟨[(4, .p (pi 12))], []⟩) else some (.ex 4, ⟨[(1, .p (.sl 3 (chs l))), (7, .p (pi n)), (8, .p (pi l.length)), (84, .p (pb false))], []⟩) := by
 intro m
 induction m with
 | zero =>
  intro i hi
  have : i = l.length := by omega
  subst this
  rw [List.drop_length, List.any_nil, if_neg (by simp), L_ref17_Check_2, Tag]
  simp
 | succ m ih =>
  intro i hi
  have h1 : i < l.length := by omega
  have ih' := ih (i+1) (by omega)
  have hg := Tbs l i h1
  have hcs := hc l[i] (List.getElem_mem h1)
  rw [List.drop_eq_getElem_cons h1, List.any_cons]
  generalize l[i] = c at *
  have hpv : c.pv = [pi c.f, pi c.t, .sc (.string c.s)] := rfl
  rw [hpv] at hg
  have n1 := refValid (cp := cp) c.s hcs
  rw [show badS' c = !valid (L c.s) from rfl]
  generalize valid (L c.s) = b1 at *
  cases b1
  · rw [L_ref17_Check_2, Tag]
    simp (disch := omega) [h1, hg, n1, Tab, Tad, Tae, -getElem?_pos]
  · simp only [Bool.not_true, Bool.false_or]
    rw [← ih', L_ref17_Check_2, Tag]
    simp (disch := omega) [h1, hg, n1, Tab, Tad, Tae, -getElem?_pos]
def cutN : Int → List Ch → Int
 | n, [] => n
 | n, c :: l => cutN (n - (c.t - c.f)) l
theorem Tq5 (l : List Ch) (z : Nat) (hz : z < 1099511627776) (hr : ∀ c ∈ l, 0 ≤ c.f ∧ c.f ≤ c.t ∧ c.t ≤ z) (hl : l.length ≤ 8) : ∀ (m i : Nat) (n : Int), m + i = l.length → n ≤ z → -1099511627776 * i ≤ n →
 Code (EX cp) L_ref17_Check_3 ⟨[(1, .p (.sl 3 (chs l))), (7, .p (pi n)), (9, .p (pi i))], []⟩ =
  some (.ex 6, ⟨[(1, .p (.sl 3 (chs l))), (7, .p (pi (cutN n (l.drop i)))), (9, .p (pi l.length)), (97, .p (pb false))], []⟩) := by
 intro m
 induction m with
 | zero =>
  intro i n hi h1 h2
  have : i = l.length := by omega
  subst this
  rw [List.drop_length, cutN, L_ref17_Check_3, Tag]
  simp
 | succ m ih =>
  intro i n hi hn1 hn2
  have h1 : i < l.length := by omega
  have hg := Tbs l i h1
  have hcr := hr l[i] (List.getElem_mem h1)
  rw [List.drop_eq_getElem_cons h1, cutN]
  generalize l[i] = c at *
  have hpv : c.pv = [pi c.f, pi c.t, .sc (.string c.s)] := rfl
  rw [hpv] at hg
  rw [← ih (i+1) (n - (c.t - c.f)) (by omega) (by omega) (by omega), L_ref17_Check_3, Tag]
  simp (disch := omega) [h1, hg, Tab, Tad, Tae, -getElem?_pos]
theorem Th1 (z : Nat) : ∀ (l : List Ch) (n : Int), (∀ c ∈ l, 0 ≤ c.f ∧ c.f ≤ c.t ∧ c.t ≤ z) → cutN n l ≤ n ∧ n - z * l.length ≤ cutN n l
 | [], n, _ => by simp [cutN]
 | c :: l, n, h => by
  have h1 := h c (by simp)
  have ih := Th1 z l (n - (c.t - c.f)) fun c hc => h c (by simp [hc])
  rw [cutN, List.length_cons]
  have : (z : Int) * ((l.length + 1 : Nat) : Int) = z * l.length + z := by rw [Int.natCast_add, Int.mul_add]; simp
  omega
def addN : Int → List Ch → Bool
 | _, [] => false
 | n, c :: l => decide (20000 - n < c.s.size) || addN (n + c.s.size) l
theorem Tq6 (l : List Ch) (hl : l.length ≤ 8) : ∀ (m i : Nat) (n : Int), m + i = l.length → -17592186044416 ≤ n → n ≤ 20000 →
 ∃ k : Int, Code (EX cp) L_ref17_Check_4 ⟨[(1, .p (.sl 3 (chs l))), (7, .p (pi n)), (10, .p (pi i))], []⟩ =
  if addN n (l.drop i) = true then some (.ret, ⟨[(4, .p (pi 13))], []⟩) else some (.ex 8, ⟨[(1, .p (.sl 3 (chs l))), (7, .p (pi k)), (10, .p (pi l.length)), (118, .p (pb false))], []⟩) := by
 intro m
 induction m with
 | zero =>
  intro i n hi h1 h2
  have : i = l.length := by omega
  subst this
  refine ⟨n, ?_⟩
  rw [List.drop_length, addN, if_neg (by simp), L_ref17_Check_4, Tag]
  simp
 | succ m ih =>
  intro i n hi hn1 hn2
  have h1 : i < l.length := by omega
  have hg := Tbs l i h1
  rw [List.drop_eq_getElem_cons h1, addN]
  generalize l[i] = c at *
  have hpv : c.pv = [pi c.f, pi c.t, .sc (.string c.s)] := rfl
  rw [hpv] at hg
  by_cases c0 : 20000 - n < c.s.size
  · refine ⟨0, ?_⟩
    rw [decide_eq_true c0, L_ref17_Check_4, Tag]
    simp (disch := omega) [h1, hg, c0, Tab, Tad, Tae, -getElem?_pos]
  · obtain ⟨k, hk⟩ := ih (i+1) (n + c.s.size) (by omega) (by omega) (by omega)
    refine ⟨k, ?_⟩
    rw [decide_eq_false c0, Bool.false_or, ← hk, L_ref17_Check_4, Tag]
    simp (disch := omega) [h1, hg, c0, Tab, Tad, Tae, -getElem?_pos]
theorem Tm9 (s : ByteArray) (hs : s.size < 1099511627776) : ∀ (l : List Ch) (n : Int), (∀ c ∈ l, 0 ≤ c.f ∧ c.f ≤ c.t ∧ c.t ≤ s.size) → lngA s (20000 - n) l = 20000 - cutN n l
 | [], n, _ => rfl
 | c :: l, n, h => by
  have h1 := h c (by simp)
  have hw : IntKind.wrap .i64 (c.t - c.f) = c.t - c.f := Tae _ (by omega) (by omega)
  have ih := Tm9 s hs l (n - (c.t - c.f)) fun c hc => h c (by simp [hc])
  rw [lngA, cutN, hw, ← ih]
  congr 1
  omega
theorem Tna : ∀ (l : List Ch) (n : Int), n ≤ 20000 → (match lngB (20000 - n) l with | none => true | some k => decide (k < 0)) = addN n l
 | [], n, h => by simp [lngB, addN]; omega
 | c :: l, n, h => by
  rw [lngB, addN]
  by_cases c0 : 20000 - n < c.s.size
  · rw [if_pos c0, decide_eq_true c0]; rfl
  · have ih := Tna l (n + c.s.size) (by omega)
    rw [if_neg c0, decide_eq_false c0, Bool.false_or, ← ih, show (20000 : Int) - (n + c.s.size) = 20000 - n - c.s.size by omega]
theorem Tty : ∀ (l : List Ch) (n : Int), n < 0 → (match lngB n l with | none => true | some k => decide (k < 0)) = true
 | [], n, h => by simp [lngB, h]
 | c :: l, n, h => by rw [lngB, if_pos (by omega)]
theorem Tye (s : ByteArray) (l : List Ch) (hs : s.size < 1099511627776) (hr : ∀ c ∈ l, 0 ≤ c.f ∧ c.f ≤ c.t ∧ c.t ≤ s.size) : lng s l = (decide (20000 < cutN s.size l) || addN (cutN s.size l) l) := by
 unfold lng
 rw [Tm9 s hs l s.size hr]
 by_cases c0 : (20000 : Int) < cutN s.size l
 · rw [decide_eq_true c0, Bool.true_or]
   exact Tty l _ (by omega)
 · rw [decide_eq_false c0, Bool.false_or]
   exact Tna l _ (by omega)
set_option maxHeartbeats 4000000 in
set_option maxRecDepth 10000 in
theorem refCheck (s : ByteArray) (l : List Ch) (hs : s.size < 1099511627776) (hl : l.length ≤ 9223372036854775807) (hc : ∀ c ∈ l, c.s.size < 1099511627776) : Run (EX cp) 32 [.sc (.string s), .sl 3 (chs l)] = some (.val (pi (chk s l))) := by
 have hv := refValid (cp := cp) s hs
 rw [Tam _ A_ref17_Check _ rfl rfl rfl]
 unfold chk
 generalize valid (L s) = b at *
 cases b
 · simp (disch := omega) [A_ref17_Check, hv]
 by_cases c8 : l.length ≤ 8
 case neg =>
  rw [if_neg (by simp), if_pos (by omega)]
  simp (disch := omega) [A_ref17_Check, hv, c8, Tab, Tad]
 rw [if_neg (by simp), if_neg (by omega)]
 have l0 := Ttv (cp := cp) s l c8 l.length 0 (by omega)
 have l1 := Ttw (cp := cp) s l hs c8 l.length 0 (by omega)
 have l2 := Ttx (cp := cp) l s.size hc c8 l.length 0 (by omega)
 have f3 := refOrdered (cp := cp) l hl
 rw [List.drop_zero, show ((0 : Nat) : Int) = 0 from rfl] at l0 l1 l2
 by_cases y1 : l.any (rngB s) = true
 · rw [if_pos y1] at l0
   rw [if_pos y1]
   simp (disch := omega) [A_ref17_Check, hv, c8, l0, fstNZ, Tab, Tad]
 rw [if_neg y1] at l0
 rw [if_neg y1]
 by_cases y2 : l.any (edgB s) = true
 · rw [if_pos y2] at l1
   rw [if_pos y2]
   simp (disch := omega) [A_ref17_Check, hv, c8, l0, l1, fstNZ, Tab, Tad]
 rw [if_neg y2] at l1
 rw [if_neg y2]
 by_cases y3 : ordd l = true
 case neg =>
  rw [if_neg y3]
  rw [Bool.not_eq_true] at y3
  rw [y3] at f3
  simp (disch := omega) [A_ref17_Check, hv, c8, l0, l1, f3, fstNZ, Tab, Tad]
 rw [y3] at f3
 rw [if_pos y3]
 by_cases y4 : l.any badS' = true
 · rw [if_pos y4] at l2
   rw [if_pos y4]
   simp (disch := omega) [A_ref17_Check, hv, c8, l0, l1, l2, f3, fstNZ, Tab, Tad]
 rw [if_neg y4] at l2
 rw [if_neg y4]
 have hr : ∀ c ∈ l, 0 ≤ c.f ∧ c.f ≤ c.t ∧ c.t ≤ s.size := by
  rw [Bool.not_eq_true, List.any_eq_false] at y1
  intro c hcl
  have := y1 c hcl
  unfold rngB at this
  simp at this
  omega
 have l3 := Tq5 (cp := cp) l s.size hs hr c8 l.length 0 s.size (by omega) (by omega) (by omega)
 have hb := Th1 s.size l s.size hr
 have hb2 : (s.size : Int) * l.length ≤ 1099511627776 * 8 := by
  have h1 : s.size * l.length ≤ 1099511627776 * 8 := Nat.mul_le_mul (by omega) c8
  have h2 : ((s.size * l.length : Nat) : Int) ≤ ((1099511627776 * 8 : Nat) : Int) := Int.ofNat_le.2 h1
  rw [Int.natCast_mul] at h2
  exact h2
 rw [Tye s l hs hr]
 generalize hn : cutN s.size l = n at *
 rw [List.drop_zero, show ((0 : Nat) : Int) = 0 from rfl, hn] at l3
 by_cases y5 : (20000 : Int) < n
 · rw [decide_eq_true y5]
   simp (disch := omega) [A_ref17_Check, hv, c8, l0, l1, l2, l3, f3, y5, fstNZ, Tab, Tad]
 rw [decide_eq_false y5, Bool.false_or]
 obtain ⟨k, l4⟩ := Tq6 (cp := cp) l c8 l.length 0 n (by omega) (by omega) (by omega)
 rw [List.drop_zero, show ((0 : Nat) : Int) = 0 from rfl] at l4
 by_cases y6 : addN n l = true
 · rw [if_pos y6] at l4
   rw [if_pos y6]
   simp (disch := omega) [A_ref17_Check, hv, c8, l0, l1, l2, l3, l4, f3, y5, fstNZ, Tab, Tad]
 · rw [if_neg y6] at l4
   rw [if_neg y6]
   simp (disch := omega) [A_ref17_Check, hv, c8, l0, l1, l2, l3, l4, f3, y5, fstNZ, Tab, Tad]
theorem Ttz (s : ByteArray) (l : List Ch) (hs : s.size < 1099511627776) (hl : l.length ≤ 8) (hc : ∀ c ∈ l, c.s.size < 1099511627776) : ∀ (m i : Nat) (acc : ByteArray) (k : Int), m + i = l.length → acc.size ≤ 2199023255552 * i → Chain s (l.drop i) k →
 ∃ (acc' : ByteArray) (k' : Int), acc'.size ≤ 2199023255552 * l.length ∧ 0 ≤ k' ∧ k' ≤ s.size ∧ L acc' ++ (L s).drop k'.toNat = L acc ++ doF s (l.drop i) k ∧
 Code (EX cp) L_ref17_Do_0 ⟨[(0, .p (.sc (.string s))), (1, .p (.sl 3 (chs l))), (5, .p (.sc (.string acc))), (6, .p (pi k)), (7, .p (pi i))], []⟩ =
  some (.ex 0, ⟨[(0, .p (.sc (.string s))), (1, .p (.sl 3 (chs l))), (5, .p (.sc (.string acc'))), (6, .p (pi k')), (7, .p (pi l.length)), (16, .p (pb false))], []⟩) := by
 intro m
 induction m with
 | zero =>
  intro i acc k hi ha hk
  have : i = l.length := by omega
  subst this
  rw [List.drop_length] at hk ⊢
  refine ⟨acc, k, ha, hk.1, hk.2, rfl, ?_⟩
  rw [L_ref17_Do_0, Tag]
  simp
 | succ m ih =>
  intro i acc k hi ha hk
  have h1 : i < l.length := by omega
  have hg := Tbs l i h1
  have hcs := hc l[i] (List.getElem_mem h1)
  rw [List.drop_eq_getElem_cons h1] at hk ⊢
  generalize l[i] = c at *
  obtain ⟨q0, q1, q2, q3, q4⟩ := hk
  have hpv : c.pv = [pi c.f, pi c.t, .sc (.string c.s)] := rfl
  rw [hpv] at hg
  have hex : (s.extract k.toNat c.f.toNat) = ⟨(((L s).drop k.toNat).take (c.f - k).toNat).toArray⟩ := by
   have := Thw s k.toNat (c.f - k).toNat
   rw [show k.toNat + (c.f - k).toNat = c.f.toNat by omega] at this
   exact this
  have hLx : L (s.extract k.toNat c.f.toNat) = ((L s).drop k.toNat).take (c.f - k).toNat := by rw [hex, L_mk]
  have hxz : (s.extract k.toNat c.f.toNat).size ≤ s.size := by rw [ByteArray.size_extract]; omega
  generalize hx : s.extract k.toNat c.f.toNat = x at *
  have hz1 : (acc ++ x).size = acc.size + x.size := ByteArray.size_append
  have hz2 : (acc ++ x ++ c.s).size = acc.size + x.size + c.s.size := by rw [ByteArray.size_append, hz1]
  obtain ⟨acc', k', a1, a2, a3, a4, a5⟩ := ih (i+1) (acc ++ x ++ c.s) c.t (by omega) (by omega) q4
  refine ⟨acc', k', a1, a2, a3, ?_, ?_⟩
  · rw [a4, doF, Tit, Tit, hLx]; simp only [List.append_assoc]
  rw [← a5, L_ref17_Do_0, Tag]
  simp (disch := omega) [h1, hg, hx, hz1, Tab, Tad, Tae, Tb0, -getElem?_pos]
theorem refDo (s : ByteArray) (l : List Ch) (hs : s.size < 1099511627776) (hl : l.length ≤ 9223372036854775807) (hc : ∀ c ∈ l, c.s.size < 1099511627776) : Run (EX cp) 33 [.sc (.string s), .sl 3 (chs l)] = some (.val (.sc (.string (doS s l)))) := by
 have h := refCheck (cp := cp) s l hs hl hc
 rw [Tam _ A_ref17_Do _ rfl rfl rfl]
 unfold doS
 by_cases c0 : chk s l = 0
 · rw [c0] at h
   have hG := Tco c0
   obtain ⟨acc', k', a1, a2, a3, a4, a5⟩ := Ttz (cp := cp) s l hs hG.len hc l.length 0 ⟨#[]⟩ 0 (by omega) (by decide) hG.chain
   have := hG.len
   rw [List.drop_zero, show L ⟨#[]⟩ = [] from rfl, List.nil_append] at a4
   rw [if_pos c0]
   rw [show ((0 : Nat) : Int) = 0 from rfl] at a5
   have he := Tlo s k'.toNat
   have hxz : (s.extract k'.toNat s.size).size ≤ s.size := by rw [ByteArray.size_extract]; omega
   have hfin : acc' ++ s.extract k'.toNat s.size = ⟨(doF s l 0).toArray⟩ := by
    have e1 := L_mk ((L s).drop k'.toNat)
    have e2 := L_mk (doF s l 0)
    apply L_inj
    rw [Tit, he, e1, e2, a4]
   have hxs : (s.extract k'.toNat s.size).size = min s.size s.size - k'.toNat := ByteArray.size_extract
   simp (disch := omega) [A_ref17_Do, h, a5, hfin, Tab, Tad, Tae, Tb0, -getElem?_pos]
 · rw [if_neg c0]
   simp (disch := omega) [A_ref17_Do, h, c0, -getElem?_pos]
end Go.Proofs.YtjpibniecllafaaGreat.AM
end
section
namespace Go.Proofs.YtjpibniecllafaaGreat.AM
open Go Go.Proofs.YtjpibniecllafaaGreat.U
theorem Tlp (l : List UInt8) : ∀ i, i ≤ l.length → (∀ b, l[i]? = some b → ¬ cont b) → valid l = true → valid (l.take i) = true ∧ valid (l.drop i) = true := by
 refine along (P := fun l => ∀ i, i ≤ l.length → (∀ b, l[i]? = some b → ¬ cont b) → valid l = true → valid (l.take i) = true ∧ valid (l.drop i) = true) ?_ ?_ ?_ l
 · intro i _ _ _; simp [Tci]
 · intro a t h _ i _ _ hv; rw [Thv h] at hv; simp at hv
 · intro v r hs ih i hi hc hv
   rw [Tc0 hs] at hv
   by_cases h0 : i = 0
   · subst h0
     rw [List.take_zero, List.drop_zero, Tc0 hs]
     exact ⟨Tci, hv⟩
   by_cases h1 : i < (enc v).length
   · exfalso
     obtain ⟨a, t, e, _, hx⟩ := Tp4 v hs
     have hg : (enc v ++ r)[i]? = (enc v)[i]? := List.getElem?_append_left h1
     rw [hg, List.getElem?_eq_getElem h1] at hc
     refine hc _ rfl ?_
     have hm : (enc v)[i] ∈ t := by
      have : ∀ (l : List UInt8) (h : i < l.length), l = a :: t → l[i] ∈ t := by
       intro l h e
       subst e
       obtain ⟨j, rfl⟩ : ∃ j, i = j + 1 := ⟨i - 1, by omega⟩
       rw [List.getElem_cons_succ]
       exact List.getElem_mem _
      exact this _ h1 e
     exact hx _ hm
   · obtain ⟨j, rfl⟩ : ∃ j, i = (enc v).length + j := ⟨i - (enc v).length, by omega⟩
     rw [List.length_append] at hi
     have h2 := ih j (by omega) (fun b hb => hc b (by rw [List.getElem?_append_right (by omega), Nat.add_sub_cancel_left]; exact hb)) hv
     rw [List.take_length_add_append, List.drop_length_add_append, Tc0 hs]
     exact h2
theorem Th2 {s : ByteArray} {i : Int} (h : edge s i = true) : 0 ≤ i ∧ i ≤ s.size ∧ valid ((L s).take i.toNat) = true ∧ valid ((L s).drop i.toNat) = true := by
 unfold edge at h
 simp only [Bool.and_eq_true, decide_eq_true_eq, Bool.or_eq_true] at h
 obtain ⟨⟨⟨h0, h1⟩, h2⟩, h3⟩ := h
 refine ⟨h0, h1, Tlp _ _ (by rw [L_len]; omega) (fun b hb => ?_) h3⟩
 rcases h2 with h2 | h2
 · have : i.toNat = (L s).length := by rw [L_len]; omega
   rw [this, List.getElem?_eq_none (Nat.le_refl _)] at hb
   simp at hb
 · rw [hb] at h2
   simpa using h2
def fst18 (s : ByteArray) : List Ch → Int
 | [] => s.size
 | c :: _ => c.f
theorem Chain.fst {s : ByteArray} {l : List Ch} {k : Int} (h : Chain s l k) : 0 ≤ k ∧ k ≤ fst18 s l ∧ fst18 s l ≤ s.size := by
 cases l with
 | nil => exact ⟨h.1, h.2, Int.le_refl _⟩
 | cons c l => exact ⟨h.1, h.2.1, by have h1 := h.2.2.1; have h2 := h.2.2.2.1; show c.f ≤ _; omega⟩
end Go.Proofs.YtjpibniecllafaaGreat.AM
end
section
namespace Go.Proofs.YtjpibniecllafaaGreat.AM
open Go Go.Proofs.YtjpibniecllafaaGreat.U
variable {cp : List PV → Option Ret}
def okAt (rev : Int) (u : List Int) (fr : Int) (l : List At) (ns : List Int) (i : Nat) : Bool := match ns[i]?, l[i]? with
 | some n, some a => decide (n < fr) && a.vis rev u
 | _, _ => false
def atI (rev : Int) (u : List Int) (fr : Int) (l : List At) (ns : List Int) : Nat → Nat
 | 0 => 0
 | i + 1 => if okAt rev u fr l ns i = true then i + 1 else atI rev u fr l ns i
theorem Tnb (rev : Int) (u : List Int) (fr : Int) (l : List At) (ns : List Int) : ∀ i, atI rev u fr l ns i ≤ i
 | 0 => Nat.le_refl _
 | i + 1 => by rw [atI]; split <;> have := Tnb rev u fr l ns i <;> omega
def skN (rev rank : Int) : List At → Nat
 | [] => 0
 | a :: l => if rev < a.rv ∧ a.rk ≤ rank then skN rev rank l + 1 else 0
theorem Tuv (rev rank : Int) : ∀ l, skN rev rank l ≤ l.length
 | [] => Nat.le_refl _
 | a :: l => by rw [skN, List.length_cons]; split <;> have := Tuv rev rank l <;> omega
def spotF (rev : Int) (u : List Int) (rank : Int) (l : List At) (ns : List Int) (fr : Int) : Nat := atI rev u fr l ns l.length + skN rev rank (l.drop (atI rev u fr l ns l.length))
theorem Tnc (rev : Int) (u : List Int) (rank : Int) (l : List At) (ns : List Int) (fr : Int) : spotF rev u rank l ns fr ≤ l.length := by
 unfold spotF
 have h1 := Tnb rev u fr l ns l.length
 have h2 := Tuv rev rank (l.drop (atI rev u fr l ns l.length))
 rw [List.length_drop] at h2
 omega
set_option maxHeartbeats 1000000 in
theorem Too (l : List At) (ns : List Int) (rev : Int) (u : List Int) (fr rank : Int) (hn : ns.length = l.length + 1) (hl : l.length < 1099511627776) (hu : u.length ≤ 9223372036854775807) (hc : ∀ a ∈ l, a.cuts.length ≤ 9223372036854775807) : ∀ (m i : Nat), m + i = l.length →
 Code (EX cp) L_edit_spot_0 ⟨[(0, .p (.sl 5 (ats l))), (1, .p (.sl 1 (ints ns))), (2, .p (pi rev)), (3, .p (.sl 1 (ints u))), (4, .p (pi fr)), (5, .p (pi rank)), (13, .p (pi (atI rev u fr l ns i))), (16, .p (.sl 5 (ats l))), (17, .p (pi l.length)), (18, .p (pi i))], []⟩ =
  some (.ex 0, ⟨[(0, .p (.sl 5 (ats l))), (1, .p (.sl 1 (ints ns))), (2, .p (pi rev)), (3, .p (.sl 1 (ints u))), (4, .p (pi fr)), (5, .p (pi rank)), (13, .p (pi (atI rev u fr l ns l.length))), (16, .p (.sl 5 (ats l))), (17, .p (pi l.length)), (18, .p (pi l.length)), (19, .p (pb false))], []⟩) := by
 intro m
 induction m with
 | zero =>
  intro i hi
  have : i = l.length := by omega
  subst this
  rw [L_edit_spot_0, Tag]
  simp
 | succ m ih =>
  intro i hi
  have h1 : i < l.length := by omega
  have ih' := ih (i+1) (by omega)
  have hg := Tj8 l i h1
  have hgn := Te7 ns i (by omega)
  have c1 := visible (cp := cp) l[i] rev u hu (hc _ (List.getElem_mem h1))
  have hok : okAt rev u fr l ns i = (decide (ns[i]'(by omega) < fr) && l[i].vis rev u) := by
   unfold okAt
   rw [List.getElem?_eq_getElem (show i < ns.length by omega), List.getElem?_eq_getElem h1]
  rw [atI, hok] at ih'
  generalize ns[i]'(by omega) = n at *
  generalize l[i].vis rev u = b at *
  have hp : l[i].pv = [.sc (.string l[i].txt), pi l[i].rv, pi l[i].gr, pi l[i].rk, .sl 2 (cutsL l[i].cuts)] := rfl
  rw [hp] at hg c1
  generalize atI rev u fr l ns i = k at *
  by_cases cn : n < fr
  · cases b
    · rw [decide_eq_true cn] at ih'
      simp only [Bool.and_false, Bool.false_eq_true, if_false] at ih'
      rw [← ih', L_edit_spot_0, Tag]
      simp (disch := omega) [h1, hg, hgn, c1, cn, Tab, Tad, Tae, -getElem?_pos]
    · rw [decide_eq_true cn] at ih'
      simp only [Bool.and_true, if_true] at ih'
      rw [← ih', L_edit_spot_0, Tag]
      simp (disch := omega) [h1, hg, hgn, c1, cn, Tab, Tad, Tae, -getElem?_pos]
  · rw [decide_eq_false cn] at ih'
    simp only [Bool.false_and, Bool.false_eq_true, if_false] at ih'
    rw [← ih', L_edit_spot_0, Tag]
    simp (disch := omega) [h1, hg, hgn, c1, cn, Tab, Tad, Tae, -getElem?_pos]
theorem Top (l : List At) (rev rank : Int) (U : PV) (hl : l.length < 1099511627776) : ∀ (m i : Nat), m + i = l.length →
 Code (EX cp) L_edit_spot_1 ⟨[(0, .p (.sl 5 (ats l))), (2, .p (pi rev)), (5, .p (pi rank)), (13, .p (pi i))], []⟩ =
  some (.ex 2, ⟨[(0, .p (.sl 5 (ats l))), (2, .p (pi rev)), (5, .p (pi rank)), (13, .p (pi ((i + skN rev rank (l.drop i) : Nat) : Int))), (59, .p (pb false))], []⟩) := by
 intro m
 induction m with
 | zero =>
  intro i hi
  have : i = l.length := by omega
  subst this
  rw [List.drop_length, skN, Nat.add_zero, L_edit_spot_1, Tag]
  simp
 | succ m ih =>
  intro i hi
  have h1 : i < l.length := by omega
  have ih' := ih (i+1) (by omega)
  have hg := Tj8 l i h1
  rw [List.drop_eq_getElem_cons h1, skN]
  generalize l[i] = a at *
  have hp : a.pv = [.sc (.string a.txt), pi a.rv, pi a.gr, pi a.rk, .sl 2 (cutsL a.cuts)] := rfl
  rw [hp] at hg
  by_cases c0 : rev < a.rv
  · by_cases c1 : a.rk ≤ rank
    · rw [if_pos ⟨c0, c1⟩, show i + (skN rev rank (l.drop (i + 1)) + 1) = i + 1 + skN rev rank (l.drop (i + 1)) by omega, ← ih', L_edit_spot_1, Tag]
      simp (disch := omega) [h1, hg, c0, c1, Tab, Tad, Tae, -getElem?_pos]
    · rw [if_neg (fun h => c1 h.2), Nat.add_zero, L_edit_spot_1, Tag]
      simp (disch := omega) [h1, hg, c0, c1, Tab, Tad, Tae, -getElem?_pos]
  · rw [if_neg (fun h => c0 h.1), Nat.add_zero, L_edit_spot_1, Tag]
    simp (disch := omega) [h1, hg, c0, Tab, Tad, Tae, -getElem?_pos]
theorem editSpot (l : List At) (ns : List Int) (rev : Int) (u : List Int) (fr rank : Int) (hn : ns.length = l.length + 1) (hl : l.length < 1099511627776) (hu : u.length ≤ 9223372036854775807) (hc : ∀ a ∈ l, a.cuts.length ≤ 9223372036854775807) :
 Run (EX cp) 156 [.sl 5 (ats l), .sl 1 (ints ns), pi rev, .sl 1 (ints u), pi fr, pi rank] = some (.val (pi (spotF rev u rank l ns fr))) := by
 have h0 := Too (cp := cp) l ns rev u fr rank hn hl hu hc l.length 0 (by omega)
 have hle := Tnb rev u fr l ns l.length
 have h1 := Top (cp := cp) l rev rank (pi 0) hl (l.length - atI rev u fr l ns l.length) (atI rev u fr l ns l.length) (by omega)
 rw [atI, show ((0 : Nat) : Int) = 0 from rfl] at h0
 unfold spotF
 rw [Tam _ A_edit_spot _ rfl rfl rfl]
 generalize atI rev u fr l ns l.length = k at *
 generalize skN rev rank (l.drop k) = z at *
 have hn : Code (EX cp) L_edit_spot_1 ⟨[(0, .p (.sl 5 (ats l))), (1, .p (.sl 1 (ints ns))), (2, .p (pi rev)), (3, .p (.sl 1 (ints u))), (4, .p (pi fr)), (5, .p (pi rank)), (13, .p (pi k)), (16, .p (.sl 5 (ats l))), (17, .p (pi l.length)), (18, .p (pi l.length)), (19, .p (pb false))], []⟩ = Code (EX cp) L_edit_spot_1 ⟨[(0, .p (.sl 5 (ats l))), (2, .p (pi rev)), (5, .p (pi rank)), (13, .p (pi k))], []⟩ := by
  rw [L_edit_spot_1, Tag, Tag]
  rfl
 rw [← hn] at h1
 simp (disch := omega) [A_edit_spot, h0, h1]
set_option maxHeartbeats 1000000 in
theorem Toq (l : List At) (ns : List Int) (rev : Int) (u : List Int) (rank : Int) (c : List Ch) (hn : ns.length = l.length + 1) (hl : l.length < 1099511627776) (hu : u.length ≤ 9223372036854775807) (hc : ∀ a ∈ l, a.cuts.length ≤ 9223372036854775807) (hc8 : c.length ≤ 8) : ∀ (m i : Nat) (acc : List Int) (f : Bool), m + i = c.length → acc.length = i →
 ∃ f' : Bool, Code (EX cp) L_edit_Spots_0 ⟨[(0, .p (.sl 5 (ats l))), (1, .p (pi rev)), (2, .p (.sl 1 (ints u))), (4, .p (pi rank)), (11, .ms 11 0 (l.length + 1)), (12, .ms 12 0 acc.length), (26, .p (.sl 3 (chs c))), (27, .p (pi c.length)), (28, .p (pi i))], [(11, .row 3 1 f (ints ns)), (12, .row 3 1 false (ints acc))]⟩ =
  some (.ex 0, ⟨[(0, .p (.sl 5 (ats l))), (1, .p (pi rev)), (2, .p (.sl 1 (ints u))), (4, .p (pi rank)), (11, .ms 11 0 (l.length + 1)), (12, .ms 12 0 c.length), (26, .p (.sl 3 (chs c))), (27, .p (pi c.length)), (28, .p (pi c.length)), (29, .p (pb false))], [(11, .row 3 1 f' (ints ns)), (12, .row 3 1 false (ints (acc ++ (c.drop i).map fun x => (spotF rev u rank l ns x.f : Int))))]⟩) := by
 intro m
 induction m with
 | zero =>
  intro i acc f hi ha
  have : i = c.length := by omega
  subst this
  refine ⟨f, ?_⟩
  rw [List.drop_length, List.map_nil, List.append_nil, ha, L_edit_Spots_0, Tag]
  simp
 | succ m ih =>
  intro i acc f hi ha
  have h1 : i < c.length := by omega
  have hg := Tbs c i h1
  rw [List.drop_eq_getElem_cons h1, List.map_cons]
  have hp := editSpot (cp := cp) l ns rev u c[i].f rank hn hl hu hc
  obtain ⟨f', ih'⟩ := ih (i+1) (acc ++ [(spotF rev u rank l ns c[i].f : Int)]) true (by omega) (by simp [ha])
  refine ⟨f', ?_⟩
  generalize c[i] = x at *
  have hpv : x.pv = [pi x.f, pi x.t, .sc (.string x.s)] := rfl
  rw [hpv] at hg
  generalize spotF rev u rank l ns x.f = z at *
  have e : acc ++ (z : Int) :: (c.drop (i + 1)).map (fun x => (spotF rev u rank l ns x.f : Int)) = acc ++ [(z : Int)] ++ (c.drop (i + 1)).map (fun x => (spotF rev u rank l ns x.f : Int)) := by simp
  have hnt : (ints ns).take (l.length + 1) = ints ns := by rw [← hn]; exact List.take_of_length_le (by simp [ints])
  have hal : (acc ++ [(z : Int)]).length = i + 1 := by simp [ha]
  rw [hal] at ih'
  have hcap : (i + 1) * 8 ≤ maxBytes ∧ i + 1 ≤ 9223372036854775807 := by unfold maxBytes; omega
  rw [e, ← ih', ha, L_edit_Spots_0, Tag]
  simp (disch := omega) [h1, hg, hp, hn, hnt, ha, hcap, Tab, Tad, Tae, Tb0, -getElem?_pos]
def spotsF (l : List At) (rev : Int) (u : List Int) (c : List Ch) (rank : Int) : List Int := if chk (txtS rev u l) c = 0 then c.map fun x => (spotF rev u rank l (places rev u l) x.f : Int) else []
structure Fit2 (l : List At) : Prop where
 fit : Fit l
 sum : sumT l < 549755813888
theorem Fit2.txt {l : List At} (h : Fit2 l) (rev : Int) (u : List Int) : (txtS rev u l).size < 1099511627776 := by
 have h1 := Tmw rev u l
 have h2 := h.sum
 have : L (txtS rev u l) = txtF rev u l := L_mk _
 rw [← L_len, this]
 omega
set_option maxHeartbeats 1000000 in
theorem editSpots (l : List At) (rev : Int) (u : List Int) (c : List Ch) (rank : Int) (hf : Fit2 l) (hu : u.length ≤ 9223372036854775807) (hcl : c.length ≤ 9223372036854775807) (hcs : ∀ x ∈ c, x.s.size < 1099511627776) :
 Run (EX cp) 99 [.sl 5 (ats l), pi rev, .sl 1 (ints u), .sl 3 (chs c), pi rank] = some (.own 3 1 (ints (spotsF l rev u c rank))) := by
 have hl := hf.fit.len
 have d1 := atomText (cp := cp) l rev u hf.fit hu
 have d2 := editCheck (cp := cp) (txtS rev u l) c (hf.txt rev u) hcl hcs
 have d3 := atomPlaces (cp := cp) l rev u hf.fit hu
 have hc2 : ∀ a ∈ l, a.cuts.length ≤ 9223372036854775807 := fun a ha => by have := hf.fit.cuts a ha; omega
 have hpl := Thx rev u l
 rw [Tam _ A_edit_Spots _ rfl rfl rfl]
 unfold spotsF
 by_cases c0 : chk (txtS rev u l) c = 0
 · have h8 := (Tco c0).len
   obtain ⟨f', h⟩ := Toq (cp := cp) l (places rev u l) rev u rank c hpl hl hu hc2 h8 c.length 0 [] false (by omega) rfl
   rw [List.drop_zero, List.nil_append, show ((0 : Nat) : Int) = 0 from rfl, show ints [] = [] from rfl, show ([] : List Int).length = 0 from rfl] at h
   rw [if_pos c0]
   rw [c0] at d2
   have hml : (c.map fun x => (spotF rev u rank l (places rev u l) x.f : Int)).length = c.length := List.length_map _
   generalize (c.map fun x => (spotF rev u rank l (places rev u l) x.f : Int)) = o at *
   have ho : (ints o).take c.length = ints o := by rw [← hml]; exact List.take_of_length_le (by simp [ints])
   simp (disch := omega) [A_edit_Spots, d1, d2, d3, hpl, h, ho, hml, Tab, Tad]
 · rw [if_neg c0]
   simp (disch := omega) [A_edit_Spots, d1, d2, c0, Tab, Tad]
def hitB (n : Int) (x : Ch) : Bool := decide (x.f ≤ n) && decide (n < x.t)
def cutsI (rev : Int) (u : List Int) (c : List Ch) : List At → List Int → Int → List Int
 | a :: l, n :: ns, i => if a.vis rev u = true ∧ c.any (hitB n) = true then i :: cutsI rev u c l ns (i + 1) else cutsI rev u c l ns (i + 1)
 | _, _, _ => []
theorem Tki (rev : Int) (u : List Int) (c : List Ch) : ∀ (l : List At) (ns : List Int) (i : Int), (cutsI rev u c l ns i).length ≤ l.length
 | [], _, _ => by simp [cutsI]
 | a :: l, [], _ => by simp [cutsI]
 | a :: l, n :: ns, i => by
  rw [cutsI]
  have := Tki rev u c l ns (i + 1)
  split <;> simp <;> omega
set_option maxHeartbeats 1000000 in
theorem Tor (rev : Int) (u : List Int) (c : List Ch) (ns : List Int) (A : List (List PV)) (nn nl i : Nat) (n : Int) (hi : ns[i]? = some n) (hnn : nn = ns.length) (hb : nl < 1099511627776) (acc : List Int) (hacc : acc.length ≤ 1099511627776) (hc8 : c.length ≤ 8) : ∀ (m j : Nat), m + j = c.length →
 Code (EX cp) L_edit_Cuts_0 ⟨[(1, .p (pi rev)), (2, .p (.sl 1 (ints u))), (3, .p (.sl 3 (chs c))), (9, .ms 9 0 nn), (10, .ms 10 0 acc.length), (11, .p (pi i)), (26, .p (.sl 5 A)), (27, .p (pi nl)), (28, .p (pi i)), (38, .p (.sl 3 (chs c))), (39, .p (pi c.length)), (40, .p (pi j))], [(9, .row 3 1 false (ints ns)), (10, .row 3 1 false (ints acc))]⟩ =
  if (c.drop j).any (hitB n) = true then some (.ex 1, ⟨[(1, .p (pi rev)), (2, .p (.sl 1 (ints u))), (3, .p (.sl 3 (chs c))), (9, .ms 9 0 nn), (10, .ms 10 0 (acc.length + 1)), (26, .p (.sl 5 A)), (27, .p (pi nl)), (28, .p (pi i))], [(9, .row 3 1 false (ints ns)), (10, .row 3 1 false (ints (acc ++ [(i : Int)])))]⟩)
  else some (.ex 2, ⟨[(1, .p (pi rev)), (2, .p (.sl 1 (ints u))), (3, .p (.sl 3 (chs c))), (9, .ms 9 0 nn), (10, .ms 10 0 acc.length), (11, .p (pi i)), (26, .p (.sl 5 A)), (27, .p (pi nl)), (28, .p (pi i)), (38, .p (.sl 3 (chs c))), (39, .p (pi c.length)), (40, .p (pi c.length)), (41, .p (pb false))], [(9, .row 3 1 false (ints ns)), (10, .row 3 1 false (ints acc))]⟩) := by
 have hin : i < ns.length := by
  rcases Nat.lt_or_ge i ns.length with h | h
  · exact h
  · rw [List.getElem?_eq_none h] at hi; simp at hi
 have hgn : (ints ns)[i]? = some [pi n] := by unfold ints; rw [List.getElem?_map, hi]; rfl
 intro m
 induction m with
 | zero =>
  intro j hj
  have : j = c.length := by omega
  subst this
  rw [List.drop_length, List.any_nil, if_neg (by simp), L_edit_Cuts_0, Tag]
  simp
 | succ m ih =>
  intro j hj
  have h1 : j < c.length := by omega
  have hnl : i < nn := by omega
  have ih' := ih (j+1) (by omega)
  have hg := Tbs c j h1
  rw [List.drop_eq_getElem_cons h1, List.any_cons]
  generalize c[j] = x at *
  have hp : x.pv = [pi x.f, pi x.t, .sc (.string x.s)] := rfl
  rw [hp] at hg
  have hcap : (acc.length + 1) * 8 ≤ maxBytes ∧ acc.length + 1 ≤ 9223372036854775807 := by unfold maxBytes; omega
  rw [show hitB n x = (decide (x.f ≤ n) && decide (n < x.t)) from rfl]
  by_cases c0 : x.f ≤ n
  · by_cases c1 : n < x.t
    · rw [decide_eq_true c0, decide_eq_true c1, L_edit_Cuts_0, Tag]
      simp (disch := omega) [h1, hnl, hg, hgn, c0, c1, hcap, Tab, Tad, Tae, -getElem?_pos]
    · rw [decide_eq_false c1, Bool.and_false, Bool.false_or, ← ih', L_edit_Cuts_0, Tag]
      simp (disch := omega) [h1, hnl, hg, hgn, c0, c1, Tab, Tad, Tae, -getElem?_pos]
  · rw [decide_eq_false c0, Bool.false_and, Bool.false_or, ← ih', L_edit_Cuts_0, Tag]
    simp (disch := omega) [h1, hnl, hg, hgn, c0, Tab, Tad, Tae, -getElem?_pos]
set_option maxHeartbeats 2000000 in
theorem Tos (l : List At) (ns : List Int) (rev : Int) (u : List Int) (c : List Ch) (hn : ns.length = l.length + 1) (hl : l.length < 1099511627776) (hu : u.length ≤ 9223372036854775807) (hc : ∀ a ∈ l, a.cuts.length ≤ 9223372036854775807) (hc8 : c.length ≤ 8) : ∀ (m i : Nat) (acc : List Int), m + i = l.length → acc.length ≤ i →
 Code (EX cp) L_edit_Cuts_1 ⟨[(1, .p (pi rev)), (2, .p (.sl 1 (ints u))), (3, .p (.sl 3 (chs c))), (9, .ms 9 0 (l.length + 1)), (10, .ms 10 0 acc.length), (26, .p (.sl 5 (ats l))), (27, .p (pi l.length)), (28, .p (pi i))], [(9, .row 3 1 false (ints ns)), (10, .row 3 1 false (ints acc))]⟩ =
  some (.ex 0, ⟨[(1, .p (pi rev)), (2, .p (.sl 1 (ints u))), (3, .p (.sl 3 (chs c))), (9, .ms 9 0 (l.length + 1)), (10, .ms 10 0 (acc ++ cutsI rev u c (l.drop i) (ns.drop i) i).length), (26, .p (.sl 5 (ats l))), (27, .p (pi l.length)), (28, .p (pi l.length)), (29, .p (pb false))], [(9, .row 3 1 false (ints ns)), (10, .row 3 1 false (ints (acc ++ cutsI rev u c (l.drop i) (ns.drop i) i)))]⟩) := by
 intro m
 induction m with
 | zero =>
  intro i acc hi ha
  have : i = l.length := by omega
  subst this
  rw [List.drop_length, cutsI, List.append_nil, L_edit_Cuts_1, Tag]
  · simp
  · intro _ _ _ _ h _; simp at h
 | succ m ih =>
  intro i acc hi ha
  have h1 : i < l.length := by omega
  have h2 : i < ns.length := by omega
  have hg := Tj8 l i h1
  have c1 := visible (cp := cp) l[i] rev u hu (hc _ (List.getElem_mem h1))
  have hi2 : ns[i]? = some ns[i] := List.getElem?_eq_getElem h2
  have l0 := Tor (cp := cp) rev u c ns (ats l) (l.length + 1) l.length i ns[i] hi2 (by omega) hl acc (by omega) hc8 c.length 0 (by omega)
  rw [List.drop_zero, show ((0 : Nat) : Int) = 0 from rfl] at l0
  have i1 := ih (i+1) acc (by omega) (by omega)
  have i2 := ih (i+1) (acc ++ [(i : Int)]) (by omega) (by simp; omega)
  have hal : (acc ++ [(i : Int)]).length = acc.length + 1 := by simp
  rw [hal] at i2
  rw [List.drop_eq_getElem_cons h1, List.drop_eq_getElem_cons h2, cutsI]
  generalize ns[i] = n at *
  generalize l[i].vis rev u = b at *
  have hp : l[i].pv = [.sc (.string l[i].txt), pi l[i].rv, pi l[i].gr, pi l[i].rk, .sl 2 (cutsL l[i].cuts)] := rfl
  rw [hp] at hg c1
  have e1 : ((i + 1 : Nat) : Int) = (i : Int) + 1 := rfl
  cases b
  · rw [if_neg (by simp), ← e1, ← i1, L_edit_Cuts_1, Tag]
    simp (disch := omega) [h1, hg, c1, Tab, Tad, Tae, -getElem?_pos]
  · by_cases hb : c.any (hitB n) = true
    · rw [if_pos hb] at l0
      have e2 : acc ++ (i : Int) :: cutsI rev u c (l.drop (i + 1)) (ns.drop (i + 1)) ((i : Int) + 1) = acc ++ [(i : Int)] ++ cutsI rev u c (l.drop (i + 1)) (ns.drop (i + 1)) ((i : Int) + 1) := by simp
      rw [if_pos ⟨rfl, hb⟩, e2, ← e1, ← i2, L_edit_Cuts_1, Tag]
      simp (disch := omega) [h1, hg, c1, l0, Tab, Tad, Tae, -getElem?_pos]
    · rw [if_neg hb] at l0
      rw [if_neg (fun h => hb h.2), ← e1, ← i1, L_edit_Cuts_1, Tag]
      simp (disch := omega) [h1, hg, c1, l0, Tab, Tad, Tae, -getElem?_pos]
def cutsF (l : List At) (rev : Int) (u : List Int) (c : List Ch) : List Int := if chk (txtS rev u l) c = 0 then cutsI rev u c l (places rev u l) 0 else []
set_option maxHeartbeats 1000000 in
theorem editCuts (l : List At) (rev : Int) (u : List Int) (c : List Ch) (hf : Fit2 l) (hu : u.length ≤ 9223372036854775807) (hcl : c.length ≤ 9223372036854775807) (hcs : ∀ x ∈ c, x.s.size < 1099511627776) :
 Run (EX cp) 100 [.sl 5 (ats l), pi rev, .sl 1 (ints u), .sl 3 (chs c)] = some (.own 3 1 (ints (cutsF l rev u c))) := by
 have hl := hf.fit.len
 have d1 := atomText (cp := cp) l rev u hf.fit hu
 have d2 := editCheck (cp := cp) (txtS rev u l) c (hf.txt rev u) hcl hcs
 have d3 := atomPlaces (cp := cp) l rev u hf.fit hu
 have hc2 : ∀ a ∈ l, a.cuts.length ≤ 9223372036854775807 := fun a ha => by have := hf.fit.cuts a ha; omega
 have hpl := Thx rev u l
 rw [Tam _ A_edit_Cuts _ rfl rfl rfl]
 unfold cutsF
 by_cases c0 : chk (txtS rev u l) c = 0
 · have h8 := (Tco c0).len
   have h := Tos (cp := cp) l (places rev u l) rev u c hpl hl hu hc2 h8 l.length 0 [] (by omega) (by simp)
   rw [List.drop_zero, List.drop_zero, List.nil_append, show ((0 : Nat) : Int) = 0 from rfl, show ints [] = [] from rfl, show ([] : List Int).length = 0 from rfl] at h
   rw [if_pos c0]
   rw [c0] at d2
   generalize cutsI rev u c l (places rev u l) 0 = o at *
   have ho : (ints o).take o.length = ints o := List.take_of_length_le (by simp [ints])
   simp (disch := omega) [A_edit_Cuts, d1, d2, d3, hpl, h, ho, Tab, Tad]
 · rw [if_neg c0]
   simp (disch := omega) [A_edit_Cuts, d1, d2, c0, Tab, Tad]
theorem Ti7 (s : ByteArray) : ∀ (c : List Ch) (k : Int), Chain s c k → ∀ x ∈ c, k ≤ x.f
 | [], _, _, _, h => by simp at h
 | a :: c, k, hch, x, hx => by
  obtain ⟨h0, h1, h2, h3, h4⟩ := hch
  rcases List.mem_cons.1 hx with rfl | hx
  · exact h1
  · have := Ti7 s c a.t h4 x hx
    omega
def bools (l : List Bool) : List (List PV) := l.map fun b => [pb b]
@[simp] theorem Tq7 (l : List Bool) : (bools l).length = l.length := by simp [bools]
theorem Tnd (l : List Bool) (i : Nat) (h : i < l.length) : (bools l)[i]? = some [pb l[i]] := by simp [bools, List.getElem?_eq_getElem h]
theorem Tq8 (l : List Bool) (i : Nat) (b : Bool) : (bools l).set i [pb b] = bools (l.set i b) := by simp [bools, List.map_set]
def setB (is : List Int) (l : List Bool) : List Bool := is.foldl (fun l i => l.set i.toNat true) l
theorem Tt0 (is : List Int) : ∀ l : List Bool, (setB is l).length = l.length := by
 induction is with
 | nil => intro l; rfl
 | cons i is ih => intro l; show (setB is (l.set i.toNat true)).length = _; rw [ih]; simp
set_option maxHeartbeats 1000000 in
theorem Txb (A C : List (List PV)) (x4 x5 x6 : Int) (sp : List Int) (cu : List Int) (hcu : cu.length ≤ 1099511627776) (nl : Nat) (R16 : List (List PV)) : ∀ (m i : Nat) (bo : List Bool), m + i = cu.length → (∀ x ∈ cu, 0 ≤ x ∧ x < bo.length) → bo.length < 1099511627776 →
 Code (EX cp) L_edit_Upon_0 ⟨[(0, .p (.sl 5 A)), (3, .p (.sl 3 C)), (4, .p (pi x4)), (5, .p (pi x5)), (6, .p (pi x6)), (15, .ms 15 0 sp.length), (16, .ms 16 0 0), (17, .ms 17 0 bo.length), (50, .ms 50 0 cu.length), (51, .p (pi cu.length)), (52, .p (pi i))], [(15, .row 3 1 false (ints sp)), (16, .row 62 5 false []), (17, .row 4 1 false (bools bo)), (50, .row 3 1 false (ints cu))]⟩ =
  some (.ex 0, ⟨[(0, .p (.sl 5 A)), (3, .p (.sl 3 C)), (4, .p (pi x4)), (5, .p (pi x5)), (6, .p (pi x6)), (15, .ms 15 0 sp.length), (16, .ms 16 0 0), (17, .ms 17 0 bo.length), (50, .ms 50 0 cu.length), (51, .p (pi cu.length)), (52, .p (pi cu.length)), (53, .p (pb false))], [(15, .row 3 1 false (ints sp)), (16, .row 62 5 false []), (17, .row 4 1 false (bools (setB (cu.drop i) bo))), (50, .row 3 1 false (ints cu))]⟩) := by
 intro m
 induction m with
 | zero =>
  intro i bo hi hb hbl
  have : i = cu.length := by omega
  subst this
  rw [List.drop_length, setB, List.foldl_nil, L_edit_Upon_0, Tag]
  simp
 | succ m ih =>
  intro i bo hi hb hbl
  have h1 : i < cu.length := by omega
  have hg := Te7 cu i h1
  obtain ⟨b0, b1⟩ := hb cu[i] (List.getElem_mem h1)
  have ih' := ih (i+1) (bo.set cu[i].toNat true) (by omega) (by simpa using hb) (by simpa using hbl)
  rw [List.drop_eq_getElem_cons h1]
  have e : setB (cu[i] :: cu.drop (i + 1)) bo = setB (cu.drop (i + 1)) (bo.set cu[i].toNat true) := rfl
  rw [List.length_set] at ih'
  have hset := Tq8 bo cu[i].toNat true
  obtain ⟨y, hy⟩ := show ∃ y, (bools bo)[cu[i].toNat]? = some [pb y] from ⟨_, Tnd bo cu[i].toNat (by omega)⟩
  have hbl2 := Tq7 bo
  rw [e, ← ih', L_edit_Upon_0, Tag]
  generalize cu[i] = x at *
  simp (disch := omega) [h1, hg, b0, b1, hy, hset, hbl2, Tab, Tad, Tae, Tb0, -getElem?_pos]
def cutZ (now gr : Int) : List Bool → List At → List At
 | b :: bo, a :: l => (if b = true then cutAt a now gr else a) :: cutZ now gr bo l
 | _, l => l
theorem Tdw (now gr : Int) (l : List At) : cutZ now gr [] l = l := by cases l <;> rfl
theorem Tfu (now gr : Int) : ∀ (bo : List Bool) (l : List At), (cutZ now gr bo l).length = l.length
 | [], l => by rw [Tdw]
 | b :: bo, [] => rfl
 | b :: bo, a :: l => by rw [cutZ, List.length_cons, Tfu now gr bo l]; rfl
theorem Tne (now gr : Int) : ∀ (bo : List Bool) (l : List At) (i : Nat), bo.length ≤ i → (cutZ now gr bo l)[i]? = l[i]?
 | [], l, i, _ => by rw [Tdw]
 | b :: bo, [], i, _ => rfl
 | b :: bo, a :: l, i, h => by
  rw [List.length_cons] at h
  obtain ⟨j, rfl⟩ : ∃ j, i = j + 1 := ⟨i - 1, by omega⟩
  rw [cutZ, List.getElem?_cons_succ, List.getElem?_cons_succ]
  exact Tne now gr bo l j (by omega)
theorem Tkj (now gr : Int) : ∀ (bo : List Bool) (l : List At) (b : Bool) (h : bo.length < l.length), cutZ now gr (bo ++ [b]) l = (cutZ now gr bo l).set bo.length (if b = true then cutAt l[bo.length] now gr else l[bo.length])
 | [], [], b, h => by simp at h
 | [], a :: l, b, h => by
  show cutZ now gr [b] (a :: l) = _
  rw [cutZ, Tdw, Tdw]; rfl
 | c :: bo, [], b, h => by simp at h
 | c :: bo, a :: l, b, h => by
  rw [List.length_cons, List.length_cons] at h
  rw [List.cons_append, cutZ, cutZ, Tkj now gr bo l b (by omega)]
  simp only [List.length_cons, List.getElem_cons_succ, List.set_cons_succ]
set_option maxHeartbeats 2000000 in
theorem Txc (C : List (List PV)) (now gr rk : Int) (sp : List Int) (bo : List Bool) (l : List At) (hbo : bo.length = l.length) (hl : l.length < 1099511627776) (hc : ∀ a ∈ l, a.cuts.length < 68719476736) : ∀ (m i : Nat), m + i = l.length →
 Code (EX cp) L_edit_Upon_1 ⟨[(3, .p (.sl 3 C)), (4, .p (pi now)), (5, .p (pi gr)), (6, .p (pi rk)), (15, .ms 15 0 sp.length), (16, .ms 16 0 0), (17, .ms 17 0 l.length), (20, .ms 20 0 l.length), (68, .p (pi l.length)), (69, .p (pi i))], [(15, .row 3 1 false (ints sp)), (16, .row 62 5 false []), (17, .row 4 1 false (bools bo)), (20, .dp 62 5 (dats (cutZ now gr (bo.take i) l)))]⟩ =
  some (.ex 2, ⟨[(3, .p (.sl 3 C)), (4, .p (pi now)), (5, .p (pi gr)), (6, .p (pi rk)), (15, .ms 15 0 sp.length), (16, .ms 16 0 0), (17, .ms 17 0 l.length), (20, .ms 20 0 l.length), (68, .p (pi l.length)), (69, .p (pi l.length)), (70, .p (pb false))], [(15, .row 3 1 false (ints sp)), (16, .row 62 5 false []), (17, .row 4 1 false (bools bo)), (20, .dp 62 5 (dats (cutZ now gr bo l)))]⟩) := by
 intro m
 induction m with
 | zero =>
  intro i hi
  have : i = l.length := by omega
  subst this
  rw [← hbo, List.take_length, hbo, L_edit_Upon_1, Tag]
  simp
 | succ m ih =>
  intro i hi
  have h1 : i < l.length := by omega
  have h2 : i < bo.length := by omega
  have hgb := Tnd bo i h2
  have ih' := ih (i+1) (by omega)
  have htk : (bo.take i).length = i := by rw [List.length_take]; omega
  have hs := Tkj now gr (bo.take i) l bo[i] (by omega)
  rw [← List.take_succ_eq_append_getElem h2] at hs
  have hge := Tne now gr (bo.take i) l i (by omega)
  have hzl := Tfu now gr (bo.take i) l
  have hz2 := Tfu now gr (bo.take (i+1)) l
  simp only [htk] at hs
  rw [hs] at ih'
  generalize hz : cutZ now gr (bo.take i) l = z at *
  have hzi : i < z.length := by omega
  rw [List.getElem?_eq_getElem hzi, List.getElem?_eq_getElem h1] at hge
  have hge' := oIj hge
  have hcl := hc l[i] (List.getElem_mem h1)
  cases hb : bo[i]
  · rw [hb] at ih' hgb
    rw [if_neg (by simp), ← hge', List.set_getElem_self] at ih'
    rw [← ih', L_edit_Upon_1, Tag]
    simp (disch := omega) [h1, hgb, Tab, Tad, Tae, Tb0, -getElem?_pos]
  · rw [hb] at ih' hgb
    rw [if_pos rfl, ← hge'] at ih'
    rw [← hge'] at hcl
    have hg := Tmy z i hzi
    have hp := Tta z i hzi now gr
    have hln := Ttb (dats z) i 4 (.ow 0 0 [])
    generalize z[i] = a at *
    simp only [At.dv] at hg
    have hcap : (a.cuts.length + 1) * 16 ≤ maxBytes ∧ a.cuts.length + 1 ≤ 9223372036854775807 := by unfold maxBytes; omega
    have hsn := Tn8 a.cuts now gr
    have hset : (z.set i (cutAt a now gr)).length = l.length := by simp [hzl]
    rw [← ih', L_edit_Upon_1, Tag]
    simp (disch := omega) [h1, hgb, hg, hzl, hp, hln, hcap, hsn, hset, Tab, Tad, Tae, Tb0, -getElem?_pos]
def mrg (now gr rk : Int) (z : List At) : List Int → List Ch → Nat → List At
 | s :: sp, x :: c, k => (z.drop k).take (s.toNat - k) ++ newAts (L x.s) now gr rk ++ mrg now gr rk z sp c s.toNat
 | _, _, k => z.drop k
def Up (n : Nat) : List Int → Nat → Prop
 | [], k => k ≤ n
 | s :: sp, k => 0 ≤ s ∧ k ≤ s.toNat ∧ s.toNat ≤ n ∧ Up n sp s.toNat
set_option maxHeartbeats 2000000 in
theorem Txd (now gr rk : Int) (z : List At) (c : List Ch) (sp : List Int) (hsp : sp.length = c.length) (hz : z.length < 1000000) (hc8 : c.length ≤ 8) (hcs : ∀ x ∈ c, x.s.size < 1000000) : ∀ (m i k : Nat) (acc : List At) (f1 f2 : Bool), m + i = c.length → Up z.length (sp.drop i) k → k ≤ z.length → acc.length ≤ 2000000 * i →
 ∃ (acc' : List At) (k' : Nat) (f3 f4 : Bool), k' ≤ z.length ∧ acc'.length ≤ 2000000 * c.length ∧ acc' ++ z.drop k' = acc ++ mrg now gr rk z (sp.drop i) (c.drop i) k ∧
 Code (EX cp) L_edit_Upon_2 ⟨[(4, .p (pi now)), (5, .p (pi gr)), (6, .p (pi rk)), (15, .ms 15 0 c.length), (16, .ms 16 0 acc.length), (20, .ms 20 0 z.length), (22, .p (pi k)), (91, .p (.sl 3 (chs c))), (92, .p (pi c.length)), (93, .p (pi i))], [(15, .row 3 1 f1 (ints sp)), (16, .row 62 5 false (ats acc)), (20, .row 62 5 f2 (ats z))]⟩ =
  some (.ex 4, ⟨[(4, .p (pi now)), (5, .p (pi gr)), (6, .p (pi rk)), (15, .ms 15 0 c.length), (16, .ms 16 0 acc'.length), (20, .ms 20 0 z.length), (22, .p (pi k')), (91, .p (.sl 3 (chs c))), (92, .p (pi c.length)), (93, .p (pi c.length)), (94, .p (pb false))], [(15, .row 3 1 f3 (ints sp)), (16, .row 62 5 false (ats acc')), (20, .row 62 5 f4 (ats z))]⟩) := by
 intro m
 induction m with
 | zero =>
  intro i k acc f1 f2 hi hup hk ha
  have : i = c.length := by omega
  subst this
  refine ⟨acc, k, f1, f2, hk, ha, ?_, ?_⟩
  · rw [List.drop_length, ← hsp, List.drop_length, mrg]
    intro _ _ _ _ h _; simp at h
  · rw [L_edit_Upon_2, Tag]
    simp
 | succ m ih =>
  intro i k acc f1 f2 hi hup hk ha
  have h1 : i < c.length := by omega
  have h2 : i < sp.length := by omega
  have hg := Tbs c i h1
  have hgs := Te7 sp i h2
  have hxs := hcs c[i] (List.getElem_mem h1)
  rw [List.drop_eq_getElem_cons h2] at hup
  rw [List.drop_eq_getElem_cons h1, List.drop_eq_getElem_cons h2, mrg]
  obtain ⟨u0, u1, u2, u3⟩ := hup
  have hp := atomPut (cp := cp) [] 0 c[i].s now gr rk (by simp) (by simp) (by omega)
  rw [Ttf, Twl] at hp
  have hnl : (newAts (L c[i].s) now gr rk).length ≤ c[i].s.size := by
   rw [Te8]
   have := Ten (L c[i].s); rw [L_len] at this; exact this
  generalize c[i] = x at *
  generalize sp[i] = s at *
  obtain ⟨t, rfl⟩ : ∃ t : Nat, s = (t : Int) := ⟨s.toNat, by omega⟩
  rw [Int.toNat_natCast] at *
  have hpv : x.pv = [pi x.f, pi x.t, .sc (.string x.s)] := rfl
  rw [hpv] at hg
  generalize newAts (L x.s) now gr rk = nw at *
  have hml : ((z.drop k).take (t - k)).length = t - k := by rw [List.length_take, List.length_drop]; omega
  obtain ⟨acc', k', f3, f4, a1, a2, a3, a4⟩ := ih (i+1) t (acc ++ (z.drop k).take (t - k) ++ nw) f1 f2 (by omega) u3 u2 (by simp only [List.length_append, hml]; omega)
  refine ⟨acc', k', f3, f4, a1, a2, ?_, ?_⟩
  · rw [a3]; simp only [List.append_assoc]
  have e1 : (ats z).drop k = ats (z.drop k) := by simp [ats, List.map_drop]
  have e2 : (ats (z.drop k)).take (t - k) = ats ((z.drop k).take (t - k)) := by simp [ats, List.map_take]
  have e3 := Tdt acc ((z.drop k).take (t - k))
  have e4 := Tdt (acc ++ (z.drop k).take (t - k)) nw
  have e5 : (acc ++ (z.drop k).take (t - k)).length = acc.length + (t - k) := by rw [List.length_append, hml]
  have e6 : (acc ++ (z.drop k).take (t - k) ++ nw).length = acc.length + (t - k) + nw.length := by rw [List.length_append, e5]
  have e7 := Tiz nw
  rw [← a4, e6]
  generalize (z.drop k).take (t - k) = md at *
  generalize acc ++ md ++ nw = a3' at *
  generalize acc ++ md = a2' at *
  have hcap : (acc.length + (t - k)) * 64 ≤ maxBytes ∧ acc.length + (t - k) ≤ 9223372036854775807 := by unfold maxBytes; omega
  have hcap2 : (acc.length + (t - k) + nw.length) * 64 ≤ maxBytes ∧ acc.length + (t - k) + nw.length ≤ 9223372036854775807 := by unfold maxBytes; omega
  rw [L_edit_Upon_2, Tag]
  simp (disch := omega) [h1, hg, hgs, hp, e1, e2, e3, e4, e5, e7, hml, hcap, hcap2, Tab, Tad, Tae, Tb0, -getElem?_pos]
end Go.Proofs.YtjpibniecllafaaGreat.AM
end
section
namespace Go.Proofs.YtjpibniecllafaaGreat.AM
open Go Go.Proofs.YtjpibniecllafaaGreat.U
theorem Tt1 (rev rank : Int) : ∀ (l : List At) (a b : Nat), a ≤ b → a + skN rev rank (l.drop a) ≤ b + skN rev rank (l.drop b)
 | l, a, b, h => by
  by_cases hb : a + skN rev rank (l.drop a) ≤ b
  · omega
  · have key : ∀ (d : Nat) (m : List At), d ≤ skN rev rank m → skN rev rank m = d + skN rev rank (m.drop d) := by
     intro d
     induction d with
     | zero => intro m _; simp
     | succ d ih =>
      intro m hm
      cases m with
      | nil => simp [skN] at hm
      | cons x m =>
       rw [skN] at hm ⊢
       by_cases hx : rev < x.rv ∧ x.rk ≤ rank
       · rw [if_pos hx] at hm ⊢
         rw [List.drop_succ_cons, ih m (by omega)]; omega
       · rw [if_neg hx] at hm; omega
    have := key (b - a) (l.drop a) (by omega)
    rw [List.drop_drop, show a + (b - a) = b by omega] at this
    omega
theorem Tnf (rev : Int) (u : List Int) (l : List At) (ns : List Int) (f g : Int) (h : f ≤ g) : ∀ i, atI rev u f l ns i ≤ atI rev u g l ns i
 | 0 => Nat.le_refl _
 | i + 1 => by
  have ih := Tnf rev u l ns f g h i
  have hle := Tnb rev u f l ns i
  have hok : okAt rev u f l ns i = true → okAt rev u g l ns i = true := by
   unfold okAt
   split
   · simp only [Bool.and_eq_true, decide_eq_true_eq]
     rintro ⟨h1, h2⟩; exact ⟨by omega, h2⟩
   · simp
  rw [atI, atI]
  by_cases c0 : okAt rev u f l ns i = true
  · rw [if_pos c0, if_pos (hok c0)]; exact Nat.le_refl _
  · rw [if_neg c0]
    split <;> omega
theorem Th3 (rev : Int) (u : List Int) (rank : Int) (l : List At) (ns : List Int) (f g : Int) (h : f ≤ g) : spotF rev u rank l ns f ≤ spotF rev u rank l ns g := by
 unfold spotF
 exact Tt1 rev rank l _ _ (Tnf rev u l ns f g h _)
theorem Tng (s : ByteArray) (rev : Int) (u : List Int) (rank : Int) (l : List At) (ns : List Int) : ∀ (c : List Ch) (k : Int) (j : Nat), Chain s c k → (∀ x ∈ c.head?, j ≤ spotF rev u rank l ns x.f) → j ≤ l.length → Up l.length (c.map fun x => (spotF rev u rank l ns x.f : Int)) j
 | [], k, j, _, _, hj => hj
 | a :: c, k, j, hch, hh, hj => by
  obtain ⟨h0, h1, h2, h3, h4⟩ := hch
  have hs := Tnc rev u rank l ns a.f
  refine ⟨Int.natCast_nonneg _, ?_, by rw [Int.toNat_natCast]; exact hs, ?_⟩
  · rw [Int.toNat_natCast]; exact hh a (by simp)
  · rw [Int.toNat_natCast]
    refine Tng s rev u rank l ns c a.t _ h4 (fun x hx => ?_) hs
    refine Th3 rev u rank l ns a.f x.f ?_
    have := Ti7 s c a.t h4 x (List.mem_of_mem_head? hx)
    omega
theorem Tkk (l : List At) (rev : Int) (u : List Int) (c : List Ch) (rank : Int) (h : chk (txtS rev u l) c = 0) : Up l.length (spotsF l rev u c rank) 0 := by
 unfold spotsF
 rw [if_pos h]
 exact Tng _ rev u rank l _ c 0 0 (Tco h).chain (fun _ _ => Nat.zero_le _) (Nat.zero_le _)
theorem Th4 (l : List At) (rev : Int) (u : List Int) (c : List Ch) (rank : Int) (h : chk (txtS rev u l) c = 0) : (spotsF l rev u c rank).length = c.length := by
 unfold spotsF
 rw [if_pos h, List.length_map]
def cutI (now gr : Int) (l : List At) (i : Int) : List At := match l[i.toNat]? with
 | some a => l.set i.toNat (cutAt a now gr)
 | none => l
def cutIs (now gr : Int) (is : List Int) (l : List At) : List At := is.foldl (cutI now gr) l
theorem Tnh (now gr : Int) : ∀ (bo : List Bool) (l : List At) (i : Nat), bo.length = l.length → (∀ b, bo[i]? = some b → b = false) → cutZ now gr (bo.set i true) l = cutI now gr (cutZ now gr bo l) i
 | [], [], i, _, _ => by simp [cutZ, cutI]
 | b :: bo, a :: l, 0, h, hb => by
  have := hb b rfl
  subst this
  show cutZ now gr (true :: bo) (a :: l) = _
  rw [cutZ, cutZ, if_pos rfl, if_neg (by simp)]
  rfl
 | b :: bo, a :: l, i + 1, h, hb => by
  have ih := Tnh now gr bo l i (by simpa using h) (fun x hx => hb x (by simpa using hx))
  rw [List.set_cons_succ, cutZ, cutZ, ih]
  unfold cutI
  have e : (((i + 1 : Nat) : Int)).toNat = i + 1 := by omega
  have e2 : ((i : Nat) : Int).toNat = i := by omega
  rw [e, e2, List.getElem?_cons_succ]
  cases (cutZ now gr bo l)[i]? <;> rfl
theorem Tni (now gr : Int) (l : List At) : ∀ (is : List Int) (bo : List Bool), bo.length = l.length → (∀ i ∈ is, 0 ≤ i) → is.Nodup → (∀ i ∈ is, ∀ b, bo[i.toNat]? = some b → b = false) → cutZ now gr (setB is bo) l = cutIs now gr is (cutZ now gr bo l)
 | [], bo, _, _, _, _ => rfl
 | i :: is, bo, h, h0, hn, hb => by
  obtain ⟨h1, h2⟩ := List.nodup_cons.1 hn
  have hi := h0 i (by simp)
  show cutZ now gr (setB is (bo.set i.toNat true)) l = cutIs now gr is (cutI now gr (cutZ now gr bo l) i)
  have hne : ∀ x ∈ is, i.toNat ≠ x.toNat := fun x hx e => h1 (by have := h0 x (by simp [hx]); rw [show i = x by omega]; exact hx)
  rw [Tni now gr l is (bo.set i.toNat true) (by simpa using h) (fun x hx => h0 x (by simp [hx])) h2 (fun x hx b hbx => by
   rw [List.getElem?_set_ne (hne x hx)] at hbx
   exact hb x (by simp [hx]) b hbx)]
  rw [Tnh now gr bo l i.toNat h (hb i (by simp)), show ((i.toNat : Nat) : Int) = i by omega]
theorem Th5 (now gr : Int) : ∀ (n : Nat) (l : List At), cutZ now gr (List.replicate n false) l = l
 | 0, l => Tdw now gr l
 | n + 1, [] => rfl
 | n + 1, a :: l => by rw [List.replicate_succ, cutZ, if_neg (by simp), Th5 now gr n l]
theorem Tg3 (rev : Int) (u : List Int) (c : List Ch) : ∀ (l : List At) (ns : List Int) (k : Int), ∀ i ∈ cutsI rev u c l ns k, k ≤ i ∧ i < k + l.length
 | [], _, _, i, h => by simp [cutsI] at h
 | a :: l, [], _, i, h => by simp [cutsI] at h
 | a :: l, n :: ns, k, i, h => by
  rw [cutsI] at h
  have ih := Tg3 rev u c l ns (k + 1) i
  rw [List.length_cons]
  split at h
  · rcases List.mem_cons.1 h with rfl | h
    · omega
    · have := ih h; omega
  · have := ih h; omega
theorem Tg4 (rev : Int) (u : List Int) (c : List Ch) : ∀ (l : List At) (ns : List Int) (k : Int), (cutsI rev u c l ns k).Nodup
 | [], _, _ => by simp [cutsI]
 | a :: l, [], _ => by simp [cutsI]
 | a :: l, n :: ns, k => by
  rw [cutsI]
  have ih := Tg4 rev u c l ns (k + 1)
  split
  · refine List.nodup_cons.2 ⟨fun h => ?_, ih⟩
    have := (Tg3 rev u c l ns (k + 1) k h).1
    omega
  · exact ih
theorem Tg5 (l : List At) (rev : Int) (u : List Int) (c : List Ch) : ∀ i ∈ cutsF l rev u c, 0 ≤ i ∧ i < l.length := by
 intro i hi
 unfold cutsF at hi
 split at hi
 · have := Tg3 rev u c l _ 0 i hi; omega
 · simp at hi
theorem Tlq (l : List At) (rev : Int) (u : List Int) (c : List Ch) : (cutsF l rev u c).Nodup := by
 unfold cutsF
 split
 · exact Tg4 rev u c l _ 0
 · simp
def cutU (l : List At) (rev : Int) (u : List Int) (c : List Ch) (now gr : Int) : List At := cutZ now gr (setB (cutsF l rev u c) (List.replicate l.length false)) l
theorem Tt2 (l : List At) (rev : Int) (u : List Int) (c : List Ch) (now gr : Int) : (cutU l rev u c now gr).length = l.length := Tfu now gr _ l
theorem Txe (l : List At) (rev : Int) (u : List Int) (c : List Ch) (now gr : Int) : cutU l rev u c now gr = cutIs now gr (cutsF l rev u c) l := by
 unfold cutU
 rw [Tni now gr l (cutsF l rev u c) _ (by simp) (fun i hi => (Tg5 l rev u c i hi).1) (Tlq l rev u c) (fun i hi b hb => by
  have h := Tg5 l rev u c i hi
  rw [List.getElem?_replicate] at hb
  split at hb
  · exact (oIj hb).symm
  · simp at hb), Th5]
def uponF (l : List At) (rev : Int) (u : List Int) (c : List Ch) (now gr rk : Int) : List At :=
 if chk (txtS rev u l) c = 0 then mrg now gr rk (cutU l rev u c now gr) (spotsF l rev u c rk) c 0 else l
end Go.Proofs.YtjpibniecllafaaGreat.AM
end
section
namespace Go.Proofs.YtjpibniecllafaaGreat.AM
open Go Go.Proofs.YtjpibniecllafaaGreat.U
variable {cp : List PV → Option Ret}
theorem Tlr (n : Nat) : List.replicate n [pb false] = bools (List.replicate n false) := by simp [bools]
set_option maxHeartbeats 8000000 in
theorem editUpon (l : List At) (rev : Int) (u : List Int) (c : List Ch) (now gr rk : Int) (hf : Fit2 l) (hl : l.length < 1000000) (hlc : ∀ a ∈ l, a.cuts.length < 1000000) (hu : u.length ≤ 9223372036854775807) (hcl : c.length ≤ 9223372036854775807) (hcs : ∀ x ∈ c, x.s.size < 1000000) :
 Run (EX cp) 55 [.sl 5 (ats l), pi rev, .sl 1 (ints u), .sl 3 (chs c), pi now, pi gr, pi rk] = some (.own 62 5 (ats (uponF l rev u c now gr rk))) := by
 have hcs2 : ∀ x ∈ c, x.s.size < 1099511627776 := fun x hx => by have := hcs x hx; omega
 have d1 := atomText (cp := cp) l rev u hf.fit hu
 have d2 := editCheck (cp := cp) (txtS rev u l) c (hf.txt rev u) hcl hcs2
 have d3 := editSpots (cp := cp) l rev u c rk hf hu hcl hcs2
 have d4 := editCuts (cp := cp) l rev u c hf hu hcl hcs2
 have d5 := atomCopy (cp := cp) l (by omega) (fun a ha => by have := hlc a ha; omega)
 rw [Tam _ A_edit_Upon _ rfl rfl rfl]
 unfold uponF
 by_cases c0 : chk (txtS rev u l) c = 0
 case neg =>
  rw [if_neg c0]
  simp (disch := omega) [A_edit_Upon, d1, d2, d3, d5, c0, Tab, Tad]
 rw [if_pos c0]
 rw [c0] at d2
 have h8 := (Tco c0).len
 have hup := Tkk l rev u c rk c0
 have hsl := Th4 l rev u c rk c0
 have hcm := Tg5 l rev u c
 have hcn : (cutsF l rev u c).length ≤ l.length := by
  unfold cutsF; rw [if_pos c0]; exact Tki rev u c l _ 0
 have hzl := Tt2 l rev u c now gr
 unfold cutU at *
 generalize spotsF l rev u c rk = sp at *
 generalize cutsF l rev u c = cu at *
 have hbl : (setB cu (List.replicate l.length false)).length = l.length := by rw [Tt0]; simp
 have l0 := Txb (cp := cp) (ats l) (chs c) now gr rk sp cu (by omega) l.length [] cu.length 0 (List.replicate l.length false) (by omega) (by simpa using hcm) (by simp; omega)
 rw [List.drop_zero, show ((0 : Nat) : Int) = 0 from rfl, List.length_replicate, ← Tlr] at l0
 have l1 := Txc (cp := cp) (chs c) now gr rk sp (setB cu (List.replicate l.length false)) l hbl (by omega) (fun a ha => by have := hlc a ha; omega) l.length 0 (by omega)
 rw [List.take_zero, Tdw, show ((0 : Nat) : Int) = 0 from rfl] at l1
 generalize setB cu (List.replicate l.length false) = bo at *
 generalize cutZ now gr bo l = z at *
 obtain ⟨acc, k, f3, f4, a1, a2, a3, l2⟩ := Txd (cp := cp) now gr rk z c sp hsl (by omega) h8 hcs c.length 0 0 [] false true (by omega) (by rw [List.drop_zero, hzl]; exact hup) (by omega) (by simp)
 rw [show ((0 : Nat) : Int) = 0 from rfl, show ats [] = [] from rfl, show ([] : List At).length = 0 from rfl, hzl] at l2
 rw [hsl] at l0 l1
 rw [List.drop_zero, List.drop_zero, List.nil_append] at a3
 rw [← a3]
 rw [hzl] at a1
 have e1 : (ats z).drop k = ats (z.drop k) := by simp [ats, List.map_drop]
 have e2 := Tdt acc (z.drop k)
 have e3 : (ats (z.drop k)).take (l.length - k) = ats (z.drop k) := List.take_of_length_le (by simp; omega)
 have e4 : (acc ++ z.drop k).length = acc.length + (l.length - k) := by rw [List.length_append, List.length_drop, hzl]
 have e5 := Tiz (acc ++ z.drop k)
 rw [e4] at e5
 have hcap : (acc.length + (l.length - k)) * 64 ≤ maxBytes ∧ acc.length + (l.length - k) ≤ 9223372036854775807 := by unfold maxBytes; omega
 have hcap2 : l.length * 64 ≤ maxBytes ∧ l.length ≤ 9223372036854775807 := by unfold maxBytes; omega
 have hcap3 : l.length ≤ maxBytes := by unfold maxBytes; omega
 have hdl : (dats l).length = l.length := Ts7 l
 simp (disch := omega) [A_edit_Upon, a1, hsl, d1, d2, d3, d4, d5, c0, l0, l1, l2, hzl, hcap, hcap2, hcap3, e1, e2, e3, e4, e5, Tab, Tad]
end Go.Proofs.YtjpibniecllafaaGreat.AM
end
section
namespace Go.Proofs.YtjpibniecllafaaGreat.AM
open Go Go.Proofs.YtjpibniecllafaaGreat.U
attribute [local simp] cellR thereV RV.sv innE inlE reach pos subH SV.mapr RV.mapr Ob.mapr SV.refs RV.id? RV.ref Ob.refs noRow shnE shrE okK closeB freshs at0 newS leftS finishS oneS manyS allP sameFz Ob.noPin startS entryS List.range_succ List.filterMap_cons List.filterMap_nil SV.rv fzvs fzv liveV liveR rcellss rcells fillQ fixN RV.isNil revO
variable {cp : List PV → Option Ret}
set_option maxHeartbeats 4000000 in
theorem engEdit (l : List At) (U : List (List Int)) (fl : Int) (G F : List Int) (base g rk : Int) (c : List Ch) (l' : List At) (hl : l.length < 1000000) (hlc : ∀ a ∈ l, a.cuts.length < 1000000) (hf : Fit2 l)
 (hb : fl ≤ base ∧ base ≤ fl + U.length - 1) (hu : (undU U fl base).length ≤ 9223372036854775807) (hcl : c.length ≤ 9223372036854775807) (hcs : ∀ x ∈ c, x.s.size < 1000000) (hk : chk (txtS base (undU U fl base) l) c = 0)
 (hg : inR g) (hg2 : ¬ (g ∈ F ∨ g < 0 ∨ 60 ≤ g)) (hn : ¬ 200 ≤ fl + (U.length : Int) - 1) (hr : 0 ≤ rk ∧ rk ≤ 1000000)
 (hl' : uponF l base (undU U fl base) c (fl + U.length) g rk = l') (h40 : l'.length ≤ 4000) (hf' : Fit l') (hu' : (undU (U ++ [lastS U]) fl (fl + (U ++ [lastS U]).length - 1)).length ≤ 9223372036854775807)
 (hft : (headT l' (U ++ [lastS U]) fl).size ≤ 20000) :
 Run (EX cp) 1000021 [.hp [.mp 0 0 0, .p (pi base), .p (pi g), .p (pi rk), .p (.sl 3 (chs c))] (engH (ats l) U fl G F)] = some (.shr (.p (.tu [pi (fl + U.length), pi 0])) (engH2 (ats l') U fl G F (U ++ [lastS U]) fl (insS g G) F)) := by
 have h1 := engText (cp := cp) l U fl G F base hf.fit hu hb
 have hcs2 : ∀ x ∈ c, x.s.size < 1099511627776 := fun x hx => by have := hcs x hx; omega
 have h2 := editCheck (cp := cp) (txtS base (undU U fl base) l) c (hf.txt base (undU U fl base)) hcl hcs2
 rw [hk] at h2
 have h3 := engCopy (cp := cp) l U fl G F (by omega) (fun a ha => by have := hlc a ha; omega)
 have h4 := Tcy (cp := cp) U fl G F g hg
 have e4 : revAdd U fl G F g = .shr (.p (.tu [pi (fl + U.length), pi 0])) [(0, revO (U ++ [lastS U]) fl (insS g G) F)] := by
  unfold revAdd
  rw [if_neg hg2, if_neg hn]
 rw [e4] at h4
 have h5 := engUndoneAt (cp := cp) (ats l) U fl G F base
 have h6 := editUpon (cp := cp) l base (undU U fl base) c (fl + U.length) g rk hf hl hlc hu hcl hcs
 rw [hl'] at h6
 have h7 := engFits (cp := cp) l' (U ++ [lastS U]) fl (insS g G) F hf' (by simp) hu'
 rw [decide_eq_true (by omega : ((headT l' (U ++ [lastS U]) fl).size : Int) ≤ 20000)] at h7
 have r1 : decide (rk < 0) = false := decide_eq_false (by omega)
 have r2 : decide (1000000 < rk) = false := decide_eq_false (by omega)
 have r3 : decide ((4000 : Int) < (l'.length : Int)) = false := decide_eq_false (by omega)
 have hlen : (ats l').length = l'.length := Tlc l'
 simp only [engH, revO] at h1 h2 h3 h4 h5 h6 h7
 rw [Td5 _ 21 A_engine_Engine_Edit _ _ (by decide) (by decide) rfl rfl rfl rfl rfl (by simp [engH])]
 simp (disch := omega) [A_engine_Engine_Edit, engH, engH2, h1, h2, h3, h4, h5, h6, h7, hlen, Tab, Tad]
end Go.Proofs.YtjpibniecllafaaGreat.AM
end
section
namespace Go.Proofs.YtjpibniecllafaaGreat.AM
open Go Go.Proofs.YtjpibniecllafaaGreat.U
theorem Tt3 (l : List At) (rev : Int) (u : List Int) (c : List Ch) (now gr rk : Int) : uponF l rev u c now gr rk = mrg now gr rk (cutIs now gr (cutsF l rev u c) l) (spotsF l rev u c rk) c 0 := by
 unfold uponF
 by_cases c0 : chk (txtS rev u l) c = 0
 · rw [if_pos c0, Txe]
 · rw [if_neg c0]
   unfold cutsF spotsF
   rw [if_neg c0, if_neg c0]
   cases c <;> rfl
theorem Tls (now gr rk : Int) (z : List At) : ∀ (sp : List Int) (c : List Ch) (k : Nat), ∀ a ∈ mrg now gr rk z sp c k, a ∈ z ∨ ∃ x ∈ c, a ∈ newAts (L x.s) now gr rk
 | [], c, k, a, h => by
  have : mrg now gr rk z [] c k = z.drop k := by cases c <;> rfl
  rw [this] at h; exact Or.inl (List.mem_of_mem_drop h)
 | s :: sp, [], k, a, h => Or.inl (List.mem_of_mem_drop h)
 | s :: sp, x :: c, k, a, h => by
  rw [mrg] at h
  simp only [List.mem_append] at h
  rcases h with (h | h) | h
  · exact Or.inl (List.mem_of_mem_drop (List.mem_of_mem_take h))
  · exact Or.inr ⟨x, by simp, h⟩
  · rcases Tls now gr rk z sp c _ a h with h | ⟨y, hy, h⟩
    · exact Or.inl h
    · exact Or.inr ⟨y, by simp [hy], h⟩
theorem Tde {s : List UInt8} {rv gr rk : Int} {a : At} (h : a ∈ newAts s rv gr rk) : a.cuts = [] ∧ a.rv = rv ∧ a.gr = gr ∧ a.rk = rk ∧ 1 ≤ a.txt.size ∧ a.txt.size ≤ 4 := by
 obtain ⟨v, hv, rfl⟩ := List.mem_map.1 h
 have : (chS v).size = (enc v).length := Tiy _
 have h2 := Tcs v
 refine ⟨rfl, rfl, rfl, rfl, ?_, ?_⟩
 · show 1 ≤ (chS v).size; omega
 · show (chS v).size ≤ 4; omega
theorem Tq9 (m : Nat) : ∀ z : List At, (∀ a ∈ z, a.txt.size ≤ m) → sumT z ≤ m * z.length := by
 intro z
 induction z with
 | nil => intro _; simp [sumT]
 | cons a z ih =>
  intro h
  rw [Tdl, List.length_cons, Nat.mul_succ]
  have h1 := h a (by simp)
  have h2 := ih fun b hb => h b (by simp [hb])
  omega
theorem Tra (l : List At) (hl : l.length < 1000000) (ht : ∀ a ∈ l, a.txt.size ≤ 1000) (hc : ∀ a ∈ l, a.cuts.length < 1000000) : Fit2 l :=
 ⟨⟨by omega, by have := Tq9 1000 l ht; omega, fun a ha => by have := hc a ha; omega⟩, by have := Tq9 1000 l ht; omega⟩
def tl (l : List At) : List UInt8 := (l.map fun a => a.txt).flatMap L
theorem Trb (a b : List At) : tl (a ++ b) = tl a ++ tl b := by simp [tl]
theorem Tyf (rev : Int) (u : List Int) (l : List At) (h : ∀ a ∈ l, a.vis rev u = true) : txtF rev u l = tl l := Tmz rev u l h
theorem L_chS (v : Int) : L (chS v) = enc v := L_mk _
def okTx (l : List At) : Prop := ∀ a ∈ l, ∃ v, sc v ∧ a.txt = chS v
theorem okTx.vs : ∀ {l : List At}, okTx l → ∃ vs : List Int, (∀ v ∈ vs, sc v) ∧ (l.map fun a => a.txt) = vs.map chS
 | [], _ => ⟨[], by simp, rfl⟩
 | a :: l, h => by
  obtain ⟨v, h1, h2⟩ := h a (by simp)
  obtain ⟨vs, h3, h4⟩ := okTx.vs (l := l) fun b hb => h b (by simp [hb])
  exact ⟨v :: vs, by simpa [h1] using h3, by rw [List.map_cons, List.map_cons, h2, h4]⟩
theorem Tnj (vs : List Int) : (vs.map chS).flatMap L = encs vs := by
 induction vs with
 | nil => rfl
 | cons v vs ih => rw [List.map_cons, List.flatMap_cons, ih, L_chS]; rfl
theorem Tkl (s : List UInt8) (rv gr rk : Int) : okTx (newAts s rv gr rk) := by
 intro a h
 obtain ⟨v, hv, rfl⟩ := List.mem_map.1 h
 exact ⟨v, Tdk _ v hv, rfl⟩
theorem Tyg (s : List UInt8) (rv gr rk : Int) : tl (newAts s rv gr rk) = clean s := by
 unfold tl; rw [Tlf, Tqm]
theorem okTx.size {l : List At} (h : okTx l) : ∀ a ∈ l, 1 ≤ a.txt.size ∧ a.txt.size ≤ 4 := by
 intro a ha
 obtain ⟨v, _, h2⟩ := h a ha
 rw [h2]
 have : (chS v).size = (enc v).length := Tiy _
 rw [this]; exact Tcs v
theorem Tt4 (l : List At) (h : okTx l) (e : Nat) (ha : valid ((tl l).take e) = true) : ∃ k, k ≤ l.length ∧ tl (l.take k) = (tl l).take e ∧ tl (l.drop k) = (tl l).drop e := by
 obtain ⟨vs, h1, h2⟩ := h.vs
 have hlen : l.length = vs.length := by have := congrArg List.length h2; simpa using this
 have ht : tl l = encs vs := by unfold tl; rw [h2, Tnj]
 rw [ht] at ha ⊢
 have hp : points ((encs vs).take e ++ (encs vs).drop e) = points ((encs vs).take e) ++ points ((encs vs).drop e) := Tis ha _
 rw [List.take_append_drop, Tfk vs h1] at hp
 have htk : ∀ k, tl (l.take k) = encs (vs.take k) := fun k => by unfold tl; rw [List.map_take, h2, ← List.map_take, Tnj]
 obtain ⟨ps, qs, hv, he⟩ : ∃ ps qs, vs = ps ++ qs ∧ encs ps = (encs vs).take e := ⟨_, _, hp, Tbx _ ha⟩
 have hk : vs.take ps.length = ps := by rw [hv, List.take_left]
 refine ⟨ps.length, ?_, ?_, ?_⟩
 · rw [hlen, hv, List.length_append]; omega
 · rw [htk, hk, he]
 · have h5 := Trb (l.take ps.length) (l.drop ps.length)
   rw [List.take_append_drop, ht, htk, hk, he] at h5
   have h6 := (List.take_append_drop e (encs vs)).symm
   rw [h5] at h6
   have h7 : (encs vs).take e ++ tl (l.drop ps.length) = (encs vs).take e ++ (encs vs).drop e := by
    rw [List.take_append_drop]; exact h5.symm
   exact List.append_cancel_left h7
theorem Tt5 (rev rank : Int) (l : List At) (h : ∀ a ∈ l, a.rv ≤ rev) : skN rev rank l = 0 := by
 cases l with
 | nil => rfl
 | cons a l => rw [skN, if_neg]; have := h a (by simp); omega
def zU (rev : Int) (u : List Int) (c : List Ch) (now gr : Int) : List At → List Int → List At
 | a :: l, n :: ns => (if a.vis rev u = true ∧ c.any (hitB n) = true then cutAt a now gr else a) :: zU rev u c now gr l ns
 | l, _ => l
theorem Tt6 (now gr : Int) (p : List At) (a : At) (l : List At) : cutI now gr (p ++ a :: l) (p.length : Nat) = p ++ cutAt a now gr :: l := by
 unfold cutI
 rw [Int.toNat_natCast, List.getElem?_append_right (Nat.le_refl _), Nat.sub_self, List.getElem?_cons_zero]
 simp [List.set_append_right]
theorem Ti8 (rev : Int) (u : List Int) (c : List Ch) (now gr : Int) : ∀ (l : List At) (ns : List Int) (p : List At), cutIs now gr (cutsI rev u c l ns (p.length : Nat)) (p ++ l) = p ++ zU rev u c now gr l ns
 | [], ns, p => by cases ns <;> rfl
 | a :: l, [], p => rfl
 | a :: l, n :: ns, p => by
  rw [cutsI, zU]
  by_cases h : a.vis rev u = true ∧ c.any (hitB n) = true
  · rw [if_pos h, if_pos h]
    show cutIs now gr (cutsI rev u c l ns ((p.length : Nat) + 1)) (cutI now gr (p ++ a :: l) (p.length : Nat)) = _
    rw [Tt6]
    have ih := Ti8 rev u c now gr l ns (p ++ [cutAt a now gr])
    rw [List.length_append] at ih
    simpa using ih
  · rw [if_neg h, if_neg h]
    have ih := Ti8 rev u c now gr l ns (p ++ [a])
    rw [List.length_append] at ih
    simpa using ih
theorem Ti9 (l : List At) (rev : Int) (u : List Int) (c : List Ch) (now gr rk : Int) (h : chk (txtS rev u l) c = 0) : uponF l rev u c now gr rk = mrg now gr rk (zU rev u c now gr l (places rev u l)) (spotsF l rev u c rk) c 0 := by
 rw [Tt3]
 unfold cutsF
 rw [if_pos h]
 have := Ti8 rev u c now gr l (places rev u l) []
 rw [List.nil_append, List.nil_append] at this
 rw [← this]; rfl
theorem Tnk (rev : Int) (u : List Int) (c : List Ch) (now gr : Int) : ∀ (l : List At) (ns : List Int), (zU rev u c now gr l ns).length = l.length
 | [], ns => by cases ns <;> rfl
 | a :: l, [] => rfl
 | a :: l, n :: ns => by rw [zU, List.length_cons, List.length_cons, Tnk rev u c now gr l ns]
theorem zU_at (rev : Int) (u : List Int) (c : List Ch) (now gr : Int) : ∀ (l : List At) (ns : List Int) (i : Nat) (a : At) (n : Int), l[i]? = some a → ns[i]? = some n → (zU rev u c now gr l ns)[i]? = some (if a.vis rev u = true ∧ c.any (hitB n) = true then cutAt a now gr else a)
 | [], ns, i, a, n, h, _ => by simp at h
 | b :: l, [], i, a, n, _, h => by simp at h
 | b :: l, m :: ns, 0, a, n, h1, h2 => by
  simp only [List.getElem?_cons_zero, oIE] at h1 h2
  subst h1; subst h2; rw [zU]; rfl
 | b :: l, m :: ns, i + 1, a, n, h1, h2 => by
  rw [List.getElem?_cons_succ] at h1 h2
  rw [zU, List.getElem?_cons_succ]
  exact zU_at rev u c now gr l ns i a n h1 h2
theorem Tuw (rev : Int) (u : List Int) (c : List Ch) (now gr : Int) : ∀ (l : List At) (ns : List Int), ∀ b ∈ zU rev u c now gr l ns, ∃ a ∈ l, b = a ∨ b = cutAt a now gr
 | [], ns, b, h => by cases ns <;> simp [zU] at h
 | a :: l, [], b, h => ⟨b, h, Or.inl rfl⟩
 | a :: l, n :: ns, b, h => by
  rw [zU] at h
  rcases List.mem_cons.1 h with rfl | h
  · refine ⟨a, by simp, ?_⟩
    split
    · exact Or.inr rfl
    · exact Or.inl rfl
  · obtain ⟨x, h1, h2⟩ := Tuw rev u c now gr l ns b h
    exact ⟨x, by simp [h1], h2⟩
end Go.Proofs.YtjpibniecllafaaGreat.AM
end
section
namespace Go.Proofs.YtjpibniecllafaaGreat.AM
open Go Go.Proofs.YtjpibniecllafaaGreat.U
structure Eng where
 l : List At
 U : List (List Int)
 fl : Int
 G : List Int
 F : List Int
namespace Eng
def ut (E : Eng) (r : Int) : List Int := undU E.U E.fl r
def textAt (E : Eng) (r : Int) : ByteArray := txtS r (E.ut r) E.l
def txt (E : Eng) : ByteArray := headT E.l E.U E.fl
abbrev hp (E : Eng) : List (Nat × Ob) := engH (ats E.l) E.U E.fl E.G E.F
abbrev hp2 (E E' : Eng) : List (Nat × Ob) := engH2 (ats E'.l) E.U E.fl E.G E.F E'.U E'.fl E'.G E'.F
def upon (E : Eng) (b g rk : Int) (c : List Ch) : List At := uponF E.l b (E.ut b) c (E.fl + E.U.length) g rk
def edit (E : Eng) (b g rk : Int) (c : List Ch) : Int × Int × Eng :=
 if ¬ (E.fl ≤ b ∧ b ≤ E.fl + E.U.length - 1) then (0, 190, E)
 else if chk (E.textAt b) c ≠ 0 then (0, chk (E.textAt b) c, E)
 else if g ∈ E.F ∨ g < 0 ∨ 60 ≤ g then (0, 210, E)
 else if 200 ≤ E.fl + E.U.length - 1 then (0, 70, E)
 else if rk < 0 ∨ 1000000 < rk then (0, 10, E)
 else if 4000 < (E.upon b g rk c).length then (0, 70, E)
 else if 20000 < (headT (E.upon b g rk c) (E.U ++ [lastS E.U]) E.fl).size then (0, 13, E)
 else (E.fl + E.U.length, 0, ⟨E.upon b g rk c, E.U ++ [lastS E.U], E.fl, insS g E.G, E.F⟩)
def new : Eng := ⟨[], [[]], 0, [], []⟩
end Eng
structure EOk (E : Eng) : Prop where
 len : E.l.length ≤ 4000
 tx : okTx E.l
 cuts : ∀ a ∈ E.l, (a.cuts.length : Int) ≤ E.fl + E.U.length - 1
 u1 : 1 ≤ E.U.length
 fl0 : 0 ≤ E.fl
 hd : E.fl + E.U.length - 1 ≤ 200
 us : ∀ s ∈ E.U, (s.length : Int) ≤ E.fl + E.U.length - 1
theorem EOk.new : EOk Eng.new := ⟨by simp [Eng.new], fun a h => by simp [Eng.new] at h, fun a h => by simp [Eng.new] at h, by simp [Eng.new], by simp [Eng.new], by simp [Eng.new], fun s h => by simp [Eng.new] at h; subst h; simp [Eng.new]⟩
theorem Tt7 (U : List (List Int)) (fl r : Int) : undU U fl r = [] ∨ undU U fl r ∈ U := by
 unfold undU
 split
 · rename_i h
   have : (r - fl).toNat < U.length := by omega
   right
   rw [List.getD_eq_getElem?_getD, List.getElem?_eq_getElem this]
   exact List.getElem_mem this
 · exact Or.inl rfl
theorem Tkm (U : List (List Int)) (h : 1 ≤ U.length) : lastS U ∈ U := by
 have : U ≠ [] := fun e => by rw [e] at h; simp at h
 unfold lastS
 rw [List.getLastD_eq_getLast?, List.getLast?_eq_some_getLast this]
 exact List.getLast_mem this
namespace EOk
variable {E : Eng} (H : EOk E)
include H
theorem ul (r : Int) : (undU E.U E.fl r).length ≤ 9223372036854775807 := by
 have := H.hd
 rcases Tt7 E.U E.fl r with h | h
 · rw [h]; simp
 · have := H.us _ h; omega
theorem cl : ∀ a ∈ E.l, a.cuts.length ≤ 200 := fun a ha => by have := H.cuts a ha; have := H.hd; omega
theorem fit2 : Fit2 E.l := Tra E.l (by have := H.len; omega) (fun a ha => by have := H.tx.size a ha; omega) (fun a ha => by have := H.cl a ha; omega)
end EOk
theorem okTx.mrg {now gr rk : Int} {z : List At} (hz : okTx z) (sp : List Int) (c : List Ch) (k : Nat) : okTx (mrg now gr rk z sp c k) := by
 intro a ha
 rcases Tls now gr rk z sp c k a ha with h | ⟨x, _, h⟩
 · exact hz a h
 · exact Tkl _ now gr rk a h
theorem Tfv (l : List At) (rev : Int) (u : List Int) (c : List Ch) (now gr rk : Int) : ∀ a ∈ uponF l rev u c now gr rk, (∃ b ∈ l, a = b ∨ a = cutAt b now gr) ∨ ∃ x ∈ c, a ∈ newAts (L x.s) now gr rk := by
 intro a ha
 by_cases c0 : chk (txtS rev u l) c = 0
 · rw [Ti9 l rev u c now gr rk c0] at ha
   rcases Tls now gr rk _ _ c 0 a ha with h | h
   · exact Or.inl (Tuw rev u c now gr l _ a h)
   · exact Or.inr h
 · unfold uponF at ha
   rw [if_neg c0] at ha
   exact Or.inl ⟨a, ha, Or.inl rfl⟩
theorem Trc {l : List At} (h : okTx l) (rev : Int) (u : List Int) (c : List Ch) (now gr rk : Int) : okTx (uponF l rev u c now gr rk) := by
 intro a ha
 rcases Tfv l rev u c now gr rk a ha with ⟨b, hb, rfl | rfl⟩ | ⟨x, _, h⟩
 · exact h _ hb
 · exact h b hb
 · exact Tkl _ now gr rk a h
theorem Tkn (l : List At) (rev : Int) (u : List Int) (c : List Ch) (now gr rk : Int) (m : Int) (h0 : 0 ≤ m) (h : ∀ a ∈ l, (a.cuts.length : Int) ≤ m) : ∀ a ∈ uponF l rev u c now gr rk, (a.cuts.length : Int) ≤ m + 1 := by
 intro a ha
 rcases Tfv l rev u c now gr rk a ha with ⟨b, hb, rfl | rfl⟩ | ⟨x, _, hx⟩
 · have := h _ hb; omega
 · have := h b hb
   have e : (cutAt b now gr).cuts.length = b.cuts.length + 1 := by simp [cutAt]
   omega
 · rw [(Tde hx).1]; simp; omega
theorem EOk.edit {E : Eng} (H : EOk E) (b g rk : Int) (c : List Ch) : EOk (E.edit b g rk c).2.2 := by
 unfold Eng.edit
 repeat' split
 all_goals first | exact H | skip
 rename_i h1 h2 h3 h4 h5 h6 h7
 have hl := Tkm E.U H.u1
 have h0 := H.fl0
 have hu := H.u1
 refine ⟨by show (E.upon b g rk c).length ≤ 4000; omega, Trc H.tx _ _ _ _ _ _, ?_, by simp, H.fl0, ?_, ?_⟩
 · intro a ha
   have := Tkn E.l b (E.ut b) c (E.fl + E.U.length) g rk (E.fl + E.U.length - 1) (by omega) H.cuts a ha
   simp only [List.length_append, List.length_singleton]
   omega
 · simp only [List.length_append, List.length_singleton]
   omega
 · intro s hs
   simp only [List.length_append, List.length_singleton]
   rcases List.mem_append.1 hs with h | h
   · have := H.us s h; omega
   · rw [List.mem_singleton] at h
     subst h
     have := H.us _ hl; omega
end Go.Proofs.YtjpibniecllafaaGreat.AM
end
section
namespace Go.Proofs.YtjpibniecllafaaGreat.AM
open Go Go.Proofs.YtjpibniecllafaaGreat.U
attribute [local simp] cellR thereV RV.sv innE inlE reach pos subH SV.mapr RV.mapr Ob.mapr SV.refs RV.id? RV.ref Ob.refs noRow shnE shrE okK closeB freshs at0 newS leftS finishS oneS manyS allP sameFz Ob.noPin startS entryS List.range_succ List.filterMap_cons List.filterMap_nil SV.rv fzvs fzv liveV liveR rcellss rcells fillQ fixN RV.isNil revO
variable {cp : List PV → Option Ret}
def ChW (c : List Ch) : Prop := c.length ≤ 9223372036854775807 ∧ ∀ x ∈ c, x.s.size < 1000000
abbrev cEdit (E : Eng) (b g rk : Int) (c : List Ch) : List PV := [.hp [.mp 0 0 0, .p (pi b), .p (pi g), .p (pi rk), .p (.sl 3 (chs c))] E.hp]
section
variable (E : Eng) (H : EOk E) (b g rk : Int) (c : List Ch)
include H
set_option maxHeartbeats 4000000 in
theorem Trd (hb : ¬ (E.fl ≤ b ∧ b ≤ E.fl + E.U.length - 1)) : Run (EX cp) 1000021 (cEdit E b g rk c) = some (.shr (.p (.tu [pi 0, pi 190])) E.hp) := by
 have _h := H
 have h1 := Tn9 (cp := cp) (ats E.l) E.U E.fl E.G E.F b hb
 simp only [engH] at h1
 rw [Td5 _ 21 A_engine_Engine_Edit _ _ (by decide) (by decide) rfl rfl rfl rfl rfl (by simp [Eng.hp, engH])]
 simp (disch := omega) [A_engine_Engine_Edit, Eng.hp, engH, h1]
set_option maxHeartbeats 4000000 in
theorem Tt8 (hw : ChW c) (hb : E.fl ≤ b ∧ b ≤ E.fl + E.U.length - 1) (hk : chk (E.textAt b) c ≠ 0) : Run (EX cp) 1000021 (cEdit E b g rk c) = some (.shr (.p (.tu [pi 0, pi (chk (E.textAt b) c)])) E.hp) := by
 have h1 := engText (cp := cp) E.l E.U E.fl E.G E.F b H.fit2.fit (H.ul b) hb
 have h2 := editCheck (cp := cp) (E.textAt b) c (H.fit2.txt b (E.ut b)) hw.1 (fun x hx => by have := hw.2 x hx; omega)
 have h1' : txtS b (undU E.U E.fl b) E.l = E.textAt b := rfl
 rw [h1'] at h1
 generalize E.textAt b = t at *
 generalize chk t c = n at *
 simp only [engH] at h1
 rw [Td5 _ 21 A_engine_Engine_Edit _ _ (by decide) (by decide) rfl rfl rfl rfl rfl (by simp [Eng.hp, engH])]
 simp (disch := omega) [A_engine_Engine_Edit, Eng.hp, engH, h1, h2, hk, Tab, Tad]
variable (hw : ChW c) (hb : E.fl ≤ b ∧ b ≤ E.fl + E.U.length - 1) (hk : chk (E.textAt b) c = 0) (hg : inR g)
include hw hb hk hg
set_option maxHeartbeats 4000000 in
theorem Tnl (n : Int) (hn : n ≠ 0) (ha : revAdd E.U E.fl E.G E.F g = .shr (.p (.tu [pi 0, pi n])) [(0, revO E.U E.fl E.G E.F)]) : Run (EX cp) 1000021 (cEdit E b g rk c) = some (.shr (.p (.tu [pi 0, pi n])) E.hp) := by
 have h1 := engText (cp := cp) E.l E.U E.fl E.G E.F b H.fit2.fit (H.ul b) hb
 have h2 := editCheck (cp := cp) (E.textAt b) c (H.fit2.txt b (E.ut b)) hw.1 (fun x hx => by have := hw.2 x hx; omega)
 have h1' : txtS b (undU E.U E.fl b) E.l = E.textAt b := rfl
 rw [h1'] at h1
 rw [hk] at h2
 have h3 := engCopy (cp := cp) E.l E.U E.fl E.G E.F (by have := H.len; omega) (fun a ha => by have := H.cl a ha; omega)
 have h4 := Tcy (cp := cp) E.U E.fl E.G E.F g hg
 rw [ha] at h4
 simp only [engH, revO] at h1 h3 h4
 rw [Td5 _ 21 A_engine_Engine_Edit _ _ (by decide) (by decide) rfl rfl rfl rfl rfl (by simp [Eng.hp, engH])]
 simp (disch := omega) [A_engine_Engine_Edit, Eng.hp, engH, h1, h2, h3, h4, hn, Tab, Tad]
variable (ha : revAdd E.U E.fl E.G E.F g = .shr (.p (.tu [pi (E.fl + E.U.length), pi 0])) [(0, revO (E.U ++ [lastS E.U]) E.fl (insS g E.G) E.F)])
include ha
set_option maxHeartbeats 4000000 in
theorem Tre (hr : rk < 0 ∨ 1000000 < rk) : Run (EX cp) 1000021 (cEdit E b g rk c) = some (.shr (.p (.tu [pi 0, pi 10])) E.hp) := by
 have h1 := engText (cp := cp) E.l E.U E.fl E.G E.F b H.fit2.fit (H.ul b) hb
 have h2 := editCheck (cp := cp) (E.textAt b) c (H.fit2.txt b (E.ut b)) hw.1 (fun x hx => by have := hw.2 x hx; omega)
 have h1' : txtS b (undU E.U E.fl b) E.l = E.textAt b := rfl
 rw [h1'] at h1
 rw [hk] at h2
 have h3 := engCopy (cp := cp) E.l E.U E.fl E.G E.F (by have := H.len; omega) (fun a ha => by have := H.cl a ha; omega)
 have h4 := Tcy (cp := cp) E.U E.fl E.G E.F g hg
 rw [ha] at h4
 simp only [engH, revO] at h1 h3 h4
 rw [Td5 _ 21 A_engine_Engine_Edit _ _ (by decide) (by decide) rfl rfl rfl rfl rfl (by simp [Eng.hp, engH])]
 by_cases r1 : rk < 0
 · simp (disch := omega) [A_engine_Engine_Edit, Eng.hp, engH, h1, h2, h3, h4, Tab, Tad]
 · simp (disch := omega) [A_engine_Engine_Edit, Eng.hp, engH, h1, h2, h3, h4, Tab, Tad]
end
end Go.Proofs.YtjpibniecllafaaGreat.AM
end
