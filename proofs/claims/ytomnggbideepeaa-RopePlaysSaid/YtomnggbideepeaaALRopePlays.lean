/- The law RopePlays on the small machine. No condition. -/
import Derived.Test.YtomnggbideepeaaRL2
import Derived.Test.YtomnggbideepeaaAT1
namespace Go.Proofs.Ytomnggbideepeaa.ropePlays
set_option linter.unusedSimpArgs false
set_option linter.unusedVariables false
open Go Go.Proofs.Ytomnggbideepeaa.U Go.Proofs.Ytomnggbideepeaa.AM
def shapes : List PSh := [.one (.tx), .one (.sl [.i .i64, .i .i64, .i .i64, .tx]), .one (.i .i64)]
structure Sp where
  w : Int
  f : Int
  u : Int
  s : ByteArray
def Sp.wf (x : Sp) : Prop := (-9223372036854775808 ≤ x.w ∧ x.w ≤ 9223372036854775807) ∧ (-9223372036854775808 ≤ x.f ∧ x.f ≤ 9223372036854775807) ∧ (-9223372036854775808 ≤ x.u ∧ x.u ≤ 9223372036854775807)
def sts (l : List Sp) : List (List PV) := l.map fun x => [pi x.w, pi x.f, pi x.u, .sc (.string x.s)]
theorem sts_len (l : List Sp) : (sts l).length = l.length := by simp [sts]
theorem sts_at (l : List Sp) (n : Nat) (h : n < l.length) : (sts l)[n]? = some [pi l[n].w, pi l[n].f, pi l[n].u, .sc (.string l[n].s)] := by simp [sts, List.getElem?_eq_getElem h]
theorem wtr_sts : ∀ {l : List (List PV)}, WTR [.i .i64, .i .i64, .i .i64, .tx] l → ∃ cs : List Sp, l = sts cs ∧ ∀ c ∈ cs, c.wf
  | _, .nil => ⟨[], rfl, by simp⟩
  | _, .cons hc hl => by
    obtain ⟨cs, rfl, hs⟩ := wtr_sts hl
    cases hc with
    | cons h1 hc => cases hc with
    | cons h2 hc => cases hc with
    | cons h3 hc => cases hc with
    | cons h4 hc =>
      cases hc
      obtain ⟨w, rfl, hw⟩ := wt_i64 h1
      obtain ⟨a, rfl, ha⟩ := wt_i64 h2
      obtain ⟨b, rfl, hb⟩ := wt_i64 h3
      obtain ⟨t, rfl, ht⟩ := wt_tx h4
      refine ⟨⟨w, a, b, t⟩ :: cs, rfl, fun x hx => ?_⟩
      rcases List.mem_cons.1 hx with rfl | hx
      · exact ⟨hw, ha, hb⟩
      · exact hs x hx
theorem wt_sts {x : PV} (h : WTA (.one (.sl [.i .i64, .i .i64, .i .i64, .tx])) x) : ∃ cs : List Sp, x = .sl 4 (sts cs) ∧ ∀ c ∈ cs, c.wf := by
  cases h with
  | one h => cases h with
    | sl hl hr =>
      obtain ⟨cs, rfl, hs⟩ := wtr_sts hr
      exact ⟨cs, rfl, hs⟩
theorem clean_small {n : Nat} (a : ByteArray) (h : a.size ≤ n) : (cleanS a).size ≤ 4 * n := by
  have e : L (cleanS a) = clean (L a) := L_mk _
  have hcl := clean_le (L a)
  rw [L_len, ← e, L_len] at hcl
  omega
/-- What Byte tells, and what the law takes for it. -/
theorem byte_tells {r : PV} {t : ByteArray} (h : Rp r t) (at' : Int) : (¬ (0 ≤ at' ∧ at' < t.size) ∧ Run EA 27 [r, pi at'] = some (.val (.tu [pI .u8 0, pb false]))) ∨
    ((0 ≤ at' ∧ at' < t.size) ∧ ∃ (a : UInt8), bt? t at' = some (bi a) ∧ Run EA 27 [r, pi at'] = some (.val (.tu [pI .u8 (bi a), pb true]))) := by
  by_cases c : 0 ≤ at' ∧ at' < t.size
  · right
    refine ⟨c, ?_⟩
    obtain ⟨k, rfl⟩ : ∃ k : Nat, at' = k := ⟨at'.toNat, by omega⟩
    have hk : k < (L t).length := by rw [L_len]; omega
    have ha : (L t)[k]? = some (L t)[k] := List.getElem?_eq_getElem hk
    exact ⟨(L t)[k], (bt_at t k _ _ (List.drop_eq_getElem_cons hk)).1, ropeByte (cp := cpA) h k _ ha⟩
  · exact Or.inl ⟨c, ropeByteNo (cp := cpA) h at' c⟩
abbrev st (cs : List Sp) (at' : Int) (r : PV) (t : ByteArray) (i : Nat) : AM.St := ⟨[(1, .p (.sl 4 (sts cs))), (2, .p (pi at')), (7, .p r), (9, .p (.sc (.string t))), (10, .p (pi i))], []⟩
set_option maxHeartbeats 8000000 in
theorem step4 (cs : List Sp) (at' : Int) (i : Nat) (hi : i < cs.length) (hl : cs.length ≤ 16) (r : PV) (t : ByteArray) (hr : Rp r t) (ht : t.size ≤ 20000) (hs : cs[i].s.size ≤ 300) (hw : cs[i].w = 4) :
    ∃ r' t', Rp r' t' ∧ t'.size ≤ 20000 ∧ AM.Code EA L_law4_RopePlays_0 (st cs at' r t i) = AM.Code EA L_law4_RopePlays_0 (st cs at' r' t' (i + 1)) := by
  have hg := sts_at cs i hi
  have hul := sts_len cs
  have hi' : (i : Int) < cs.length := by omega
  have w4 : IntKind.wrap .i64 ((i : Int) + 1) = (i : Int) + 1 := wrap_in _ (by omega) (by omega)
  have cl := clean_small cs[i].s hs
  generalize cs[i] = x at *
  obtain ⟨w, f, u, s⟩ := x
  dsimp only at hs cl hg hw
  have d1 : Run EA _ _ = _ := law4Step (cp := cpA) t s w f u (by omega) (by omega)
  have d2 : Run EA _ _ = _ := law4Whole (cp := cpA) cpA_all hr
  subst hw
  rcases ropeNew (cp := cpA) s (by omega) with ⟨h2, _⟩ | ⟨_, o, ho, d3⟩
  · omega
  have hz : (t ++ cleanS s).size = t.size + (cleanS s).size := by rw [← L_len, L_append, List.length_append, L_len, L_len]
  rcases ropeConcat (cp := cpA) hr ho (by omega) (by omega) with ⟨h2, d4⟩ | ⟨h2, z, hz2, d4⟩
  · have e : stepP t 4 f u s = (t, 13) := by unfold stepP; rw [if_pos rfl, if_pos (by omega)]
    rw [e] at d1
    refine ⟨r, t, hr, ht, ?_⟩
    have d5 : Run EA _ _ = _ := ropeIsEdge (cp := cpA) hr at'
    have d6 : Run EA _ _ = _ := refIsEdge (cp := cpA) t at' (by omega)
    rw [show EX cpA = EA from rfl] at *
    have hb := byte_tells hr at'
    conv => lhs; rw [L_law4_RopePlays_0, k_loop]
    rcases hb with ⟨c, d7⟩ | ⟨c, a, hb, d7⟩
    · by_cases ca : 0 ≤ at'
      · simp (disch := omega) [hi', hi, hg, hul, -getElem?_pos, w4, hs, d1, d2, d5, d6, d7, d3, d4, ca, c, dec_yes, dec_no]
        rfl
      · simp (disch := omega) [hi', hi, hg, hul, -getElem?_pos, w4, hs, d1, d2, d5, d6, d7, d3, d4, ca, c, dec_yes, dec_no]
        rfl
    · simp (disch := omega) [hi', hi, hg, hul, -getElem?_pos, w4, hs, d1, d2, d5, d6, d7, d3, d4, hb, c, dec_yes, dec_no]
      rfl
  · have e : stepP t 4 f u s = (t ++ cleanS s, 0) := by unfold stepP; rw [if_pos rfl, if_neg (by omega)]
    rw [e] at d1
    refine ⟨z, _, hz2, by omega, ?_⟩
    have d5 : Run EA _ _ = _ := ropeIsEdge (cp := cpA) hz2 at'
    have d6 : Run EA _ _ = _ := refIsEdge (cp := cpA) (t ++ cleanS s) at' (by omega)
    have d8 : Run EA _ _ = _ := law4Whole (cp := cpA) cpA_all hz2
    rw [show EX cpA = EA from rfl] at *
    have hb := byte_tells hz2 at'
    obtain ⟨zx, rfl⟩ : ∃ x, z = .pt [x] := by
      obtain ⟨x, P, h, _⟩ := hz2
      exact ⟨x, h⟩
    generalize t ++ cleanS s = t2 at *
    conv => lhs; rw [L_law4_RopePlays_0, k_loop]
    rcases hb with ⟨c, d7⟩ | ⟨c, a, hb, d7⟩
    · by_cases ca : 0 ≤ at'
      · simp (disch := omega) [hi', hi, hg, hul, -getElem?_pos, w4, hs, d1, d2, d5, d6, d7, d3, d4, d8, ca, c, dec_yes, dec_no]
        rfl
      · simp (disch := omega) [hi', hi, hg, hul, -getElem?_pos, w4, hs, d1, d2, d5, d6, d7, d3, d4, d8, ca, c, dec_yes, dec_no]
        rfl
    · simp (disch := omega) [hi', hi, hg, hul, -getElem?_pos, w4, hs, d1, d2, d5, d6, d7, d3, d4, d8, hb, c, dec_yes, dec_no]
      rfl
set_option maxHeartbeats 8000000 in
theorem step3 (cs : List Sp) (at' : Int) (i : Nat) (hi : i < cs.length) (hl : cs.length ≤ 16) (r : PV) (t : ByteArray) (hr : Rp r t) (ht : t.size ≤ 20000) (hs : cs[i].s.size ≤ 300) (hw : cs[i].w = 3) :
    ∃ r' t', Rp r' t' ∧ t'.size ≤ 20000 ∧ AM.Code EA L_law4_RopePlays_0 (st cs at' r t i) = AM.Code EA L_law4_RopePlays_0 (st cs at' r' t' (i + 1)) := by
  have hg := sts_at cs i hi
  have hul := sts_len cs
  have hi' : (i : Int) < cs.length := by omega
  have w4 : IntKind.wrap .i64 ((i : Int) + 1) = (i : Int) + 1 := wrap_in _ (by omega) (by omega)
  have cl := clean_small cs[i].s hs
  generalize cs[i] = x at *
  obtain ⟨w, f, u, s⟩ := x
  dsimp only at hs cl hg hw
  have d1 : Run EA _ _ = _ := law4Step (cp := cpA) t s w f u (by omega) (by omega)
  have d2 : Run EA _ _ = _ := law4Whole (cp := cpA) cpA_all hr
  subst hw
  rcases ropeSlice (cp := cpA) hr f u with ⟨h2, d4⟩ | ⟨h2, z, hz2, d4⟩
  · have e : stepP t 3 f u s = (t, chkR t f u) := by unfold stepP; rw [if_neg (by omega), if_pos h2]
    rw [e] at d1
    refine ⟨r, t, hr, ht, ?_⟩
    generalize chkR t f u = q at *
    have d5 : Run EA _ _ = _ := ropeIsEdge (cp := cpA) hr at'
    have d6 : Run EA _ _ = _ := refIsEdge (cp := cpA) t at' (by omega)
    rw [show EX cpA = EA from rfl] at *
    have hb := byte_tells hr at'
    conv => lhs; rw [L_law4_RopePlays_0, k_loop]
    rcases hb with ⟨c, d7⟩ | ⟨c, a, hb, d7⟩
    · by_cases ca : 0 ≤ at'
      · simp (disch := omega) [hi', hi, hg, hul, -getElem?_pos, w4, hs, d1, d2, d5, d6, d7, d4, h2, ca, c, dec_yes, dec_no]
        rfl
      · simp (disch := omega) [hi', hi, hg, hul, -getElem?_pos, w4, hs, d1, d2, d5, d6, d7, d4, h2, ca, c, dec_yes, dec_no]
        rfl
    · simp (disch := omega) [hi', hi, hg, hul, -getElem?_pos, w4, hs, d1, d2, d5, d6, d7, d4, h2, hb, c, dec_yes, dec_no]
      rfl
  · have e : stepP t 3 f u s = (t.extract f.toNat u.toNat, 0) := by unfold stepP; rw [if_neg (by omega), if_neg (by omega), if_pos rfl]
    rw [e] at d1
    have hz : (t.extract f.toNat u.toNat).size ≤ 20000 := by rw [← L_len, L_extract, List.length_take, List.length_drop, L_len]; omega
    refine ⟨z, _, hz2, hz, ?_⟩
    have d5 : Run EA _ _ = _ := ropeIsEdge (cp := cpA) hz2 at'
    have d6 : Run EA _ _ = _ := refIsEdge (cp := cpA) (t.extract f.toNat u.toNat) at' (by omega)
    have d8 : Run EA _ _ = _ := law4Whole (cp := cpA) cpA_all hz2
    rw [show EX cpA = EA from rfl] at *
    have hb := byte_tells hz2 at'
    obtain ⟨zx, rfl⟩ : ∃ x, z = .pt [x] := by
      obtain ⟨x, P, h, _⟩ := hz2
      exact ⟨x, h⟩
    generalize t.extract f.toNat u.toNat = t2 at *
    conv => lhs; rw [L_law4_RopePlays_0, k_loop]
    rcases hb with ⟨c, d7⟩ | ⟨c, a, hb, d7⟩
    · by_cases ca : 0 ≤ at'
      · simp (disch := omega) [hi', hi, hg, hul, -getElem?_pos, w4, hs, d1, d2, d5, d6, d7, d4, d8, ca, c, dec_yes, dec_no]
        rfl
      · simp (disch := omega) [hi', hi, hg, hul, -getElem?_pos, w4, hs, d1, d2, d5, d6, d7, d4, d8, ca, c, dec_yes, dec_no]
        rfl
    · simp (disch := omega) [hi', hi, hg, hul, -getElem?_pos, w4, hs, d1, d2, d5, d6, d7, d4, d8, hb, c, dec_yes, dec_no]
      rfl
set_option maxHeartbeats 8000000 in
theorem step0 (cs : List Sp) (at' : Int) (i : Nat) (hi : i < cs.length) (hl : cs.length ≤ 16) (r : PV) (t : ByteArray) (hr : Rp r t) (ht : t.size ≤ 20000) (hs : cs[i].s.size ≤ 300) (hw : cs[i].w ≠ 4 ∧ cs[i].w ≠ 3) :
    ∃ r' t', Rp r' t' ∧ t'.size ≤ 20000 ∧ AM.Code EA L_law4_RopePlays_0 (st cs at' r t i) = AM.Code EA L_law4_RopePlays_0 (st cs at' r' t' (i + 1)) := by
  have hg := sts_at cs i hi
  have hul := sts_len cs
  have hi' : (i : Int) < cs.length := by omega
  have w4 : IntKind.wrap .i64 ((i : Int) + 1) = (i : Int) + 1 := wrap_in _ (by omega) (by omega)
  have cl := clean_small cs[i].s hs
  generalize cs[i] = x at *
  obtain ⟨w, f, u, s⟩ := x
  dsimp only at hs cl hg hw
  have d1 : Run EA _ _ = _ := law4Step (cp := cpA) t s w f u (by omega) (by omega)
  have d2 : Run EA _ _ = _ := law4Whole (cp := cpA) cpA_all hr
  obtain ⟨c4, c3⟩ := hw
  rcases ropeReplace (cp := cpA) hr (by omega) f u s (by omega) with ⟨h2, d4⟩ | ⟨h2, h3, d4⟩ | ⟨h2, h3, z, hz2, d4⟩
  · have e : stepP t w f u s = (t, chkR t f u) := by unfold stepP; rw [if_neg c4, if_pos h2]
    rw [e] at d1
    refine ⟨r, t, hr, ht, ?_⟩
    generalize chkR t f u = q at *
    have d5 : Run EA _ _ = _ := ropeIsEdge (cp := cpA) hr at'
    have d6 : Run EA _ _ = _ := refIsEdge (cp := cpA) t at' (by omega)
    rw [show EX cpA = EA from rfl] at *
    have hb := byte_tells hr at'
    conv => lhs; rw [L_law4_RopePlays_0, k_loop]
    rcases hb with ⟨c, d7⟩ | ⟨c, a, hb, d7⟩
    · by_cases ca : 0 ≤ at'
      · simp (disch := omega) [hi', hi, hg, hul, -getElem?_pos, w4, hs, d1, d2, d5, d6, d7, d4, h2, c4, c3, ca, c, dec_yes, dec_no]
        rfl
      · simp (disch := omega) [hi', hi, hg, hul, -getElem?_pos, w4, hs, d1, d2, d5, d6, d7, d4, h2, c4, c3, ca, c, dec_yes, dec_no]
        rfl
    · simp (disch := omega) [hi', hi, hg, hul, -getElem?_pos, w4, hs, d1, d2, d5, d6, d7, d4, h2, c4, c3, hb, c, dec_yes, dec_no]
      rfl
  · have e : stepP t w f u s = (t, 13) := by unfold stepP; rw [if_neg c4, if_neg (by omega), if_neg c3, if_pos (by omega)]
    rw [e] at d1
    refine ⟨r, t, hr, ht, ?_⟩
    have d5 : Run EA _ _ = _ := ropeIsEdge (cp := cpA) hr at'
    have d6 : Run EA _ _ = _ := refIsEdge (cp := cpA) t at' (by omega)
    rw [show EX cpA = EA from rfl] at *
    have hb := byte_tells hr at'
    conv => lhs; rw [L_law4_RopePlays_0, k_loop]
    rcases hb with ⟨c, d7⟩ | ⟨c, a, hb, d7⟩
    · by_cases ca : 0 ≤ at'
      · simp (disch := omega) [hi', hi, hg, hul, -getElem?_pos, w4, hs, d1, d2, d5, d6, d7, d4, c4, c3, ca, c, dec_yes, dec_no]
        rfl
      · simp (disch := omega) [hi', hi, hg, hul, -getElem?_pos, w4, hs, d1, d2, d5, d6, d7, d4, c4, c3, ca, c, dec_yes, dec_no]
        rfl
    · simp (disch := omega) [hi', hi, hg, hul, -getElem?_pos, w4, hs, d1, d2, d5, d6, d7, d4, c4, c3, hb, c, dec_yes, dec_no]
      rfl
  · have e : stepP t w f u s = (replS t f u s, 0) := by unfold stepP; rw [if_neg c4, if_neg (by omega), if_neg c3, if_neg (by omega)]
    rw [e] at d1
    refine ⟨z, _, hz2, h3, ?_⟩
    have d5 : Run EA _ _ = _ := ropeIsEdge (cp := cpA) hz2 at'
    have d6 : Run EA _ _ = _ := refIsEdge (cp := cpA) (replS t f u s) at' (by omega)
    have d8 : Run EA _ _ = _ := law4Whole (cp := cpA) cpA_all hz2
    rw [show EX cpA = EA from rfl] at *
    have hb := byte_tells hz2 at'
    obtain ⟨zx, rfl⟩ : ∃ x, z = .pt [x] := by
      obtain ⟨x, P, h, _⟩ := hz2
      exact ⟨x, h⟩
    generalize replS t f u s = t2 at *
    conv => lhs; rw [L_law4_RopePlays_0, k_loop]
    rcases hb with ⟨c, d7⟩ | ⟨c, a, hb, d7⟩
    · by_cases ca : 0 ≤ at'
      · simp (disch := omega) [hi', hi, hg, hul, -getElem?_pos, w4, hs, d1, d2, d5, d6, d7, d4, c4, c3, d8, ca, c, dec_yes, dec_no]
        rfl
      · simp (disch := omega) [hi', hi, hg, hul, -getElem?_pos, w4, hs, d1, d2, d5, d6, d7, d4, c4, c3, d8, ca, c, dec_yes, dec_no]
        rfl
    · simp (disch := omega) [hi', hi, hg, hul, -getElem?_pos, w4, hs, d1, d2, d5, d6, d7, d4, c4, c3, d8, hb, c, dec_yes, dec_no]
      rfl
theorem step_long (cs : List Sp) (at' : Int) (i : Nat) (hi : i < cs.length) (hl : cs.length ≤ 16) (r : PV) (t : ByteArray) (hs : ¬ cs[i].s.size ≤ 300) :
    AM.Code EA L_law4_RopePlays_0 (st cs at' r t i) = some (.ret, ⟨[(6, .p (pb true))], []⟩) := by
  have hg := sts_at cs i hi
  have hul := sts_len cs
  have hi' : (i : Int) < cs.length := by omega
  generalize cs[i] = x at *
  rw [L_law4_RopePlays_0, k_loop]
  simp (disch := omega) [hi', hi, hg, hul, -getElem?_pos, hs, dec_yes, dec_no]
theorem loop (cs : List Sp) (at' : Int) (hl : cs.length ≤ 16) : ∀ (m i : Nat) (r : PV) (t : ByteArray), Rp r t → t.size ≤ 20000 → i + m = cs.length →
    AM.Code EA L_law4_RopePlays_0 (st cs at' r t i) = some (.ret, ⟨[(6, .p (pb true))], []⟩) ∨
    ∃ r' t', AM.Code EA L_law4_RopePlays_0 (st cs at' r t i) = some (.ex 0, ⟨[(1, .p (.sl 4 (sts cs))), (2, .p (pi at')), (7, .p r'), (9, .p (.sc (.string t'))), (10, .p (pi cs.length)), (42, .p (pb false))], []⟩) := by
  intro m
  induction m with
  | zero =>
    intro i r t hr ht hi
    have : i = cs.length := by omega
    subst this
    right
    refine ⟨r, t, ?_⟩
    have hul := sts_len cs
    rw [L_law4_RopePlays_0, k_loop]
    simp [hul]
  | succ m ih =>
    intro i r t hr ht hi
    by_cases hs : cs[i].s.size ≤ 300
    case neg => exact Or.inl (step_long cs at' i (by omega) hl r t hs)
    have hst : ∃ r' t', Rp r' t' ∧ t'.size ≤ 20000 ∧ AM.Code EA L_law4_RopePlays_0 (st cs at' r t i) = AM.Code EA L_law4_RopePlays_0 (st cs at' r' t' (i + 1)) := by
      by_cases c4 : cs[i].w = 4
      · exact step4 cs at' i (by omega) hl r t hr ht hs c4
      by_cases c3 : cs[i].w = 3
      · exact step3 cs at' i (by omega) hl r t hr ht hs c3
      · exact step0 cs at' i (by omega) hl r t hr ht hs ⟨c4, c3⟩
    obtain ⟨r', t', h1, h2, h3⟩ := hst
    rw [h3]
    exact ih (i + 1) r' t' h1 h2 (by omega)
set_option maxHeartbeats 4000000 in
theorem law (xs : List PV) (h : WTAs shapes xs) : Run EA 9 xs = some (.val (.sc (.bool true))) := by
  cases h with
  | cons h1 h => cases h with
  | cons h2 h => cases h with
  | cons h3 h =>
  cases h
  obtain ⟨s, rfl, hs⟩ := wt_str h1
  obtain ⟨cs, rfl, hn⟩ := wt_sts h2
  obtain ⟨at', rfl, ha⟩ := wt_int h3
  clear h1 h2 h3
  have hk : Run EA 19 [] = some (.val (pb true)) := known4
  have hul := sts_len cs
  rw [show Run EA 9 [.sc (.string s), .sl 4 (sts cs), pi at'] = _ from run_fn _ A_law4_RopePlays _ rfl rfl rfl, ← show EA = EX cpA from rfl]
  by_cases c0 : s.size ≤ 600
  case neg => simp (disch := omega) [A_law4_RopePlays, hk, c0, hul, dec_yes, dec_no]
  by_cases c1 : cs.length ≤ 16
  case neg => simp (disch := omega) [A_law4_RopePlays, hk, c0, c1, hul, dec_yes, dec_no]
  have zs := clean_small s c0
  rcases ropeNew (cp := cpA) s (by omega) with ⟨h2, _⟩ | ⟨_, r, hr, d1⟩
  · omega
  have d2 : Run EA _ _ = _ := refClean (cp := cpA) s (by omega)
  have lp := loop cs at' c1 cs.length 0 r _ hr (by omega) (by omega)
  unfold st at lp
  rw [show ((0 : Nat) : Int) = 0 from rfl] at lp
  generalize cleanS s = t at *
  rw [show EX cpA = EA from rfl] at *
  rcases lp with lp | ⟨r', t', lp⟩
  · simp (disch := omega) [A_law4_RopePlays, hk, c0, c1, hul, d1, d2, lp, dec_yes, dec_no]
  · simp (disch := omega) [A_law4_RopePlays, hk, c0, c1, hul, d1, d2, lp, dec_yes, dec_no]
end Go.Proofs.Ytomnggbideepeaa.ropePlays
