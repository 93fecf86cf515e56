/- Made by pack.py: AMG, AM14. No condition but what each says. -/
import Derived.Test.YtjpibniecllafaaGreatR3
set_option linter.unusedSimpArgs false
set_option linter.unusedVariables false
section
namespace Go.Proofs.YtjpibniecllafaaGreat.AM
open Go Go.RowKit
section
variable {α : Type}
theorem Tl4 {k : Nat} : ∀ {l : List (List α)}, (∀ c ∈ l, c.length = k) → l.flatten.length = l.length * k
 | [], _ => by simp
 | c :: l, h => by
  have := Tl4 (l := l) (fun c hc => h c (by simp [hc]))
  simp [List.flatten_cons, this, h c (by simp), Nat.add_mul]; omega
theorem Tf6 {k : Nat} : ∀ {l : List (List α)} (n : Nat), (∀ c ∈ l, c.length = k) → l.flatten.drop (n * k) = (l.drop n).flatten
 | l, 0, _ => by simp
 | [], n + 1, _ => by simp
 | c :: l, n + 1, h => by
  have hc : c.length = k := h c (by simp)
  have e : (n + 1) * k = c.length + n * k := by rw [Nat.add_mul, hc]; omega
  rw [e, List.flatten_cons, ← List.drop_drop, List.drop_left, List.drop_succ_cons]
  exact Tf6 n (fun c hc => h c (by simp [hc]))
theorem fl_at {k i : Nat} {l : List (List α)} {c : List α} (hk : ∀ c ∈ l, c.length = k) (hc : l[i]? = some c) : (l.drop i).flatten = c ++ (l.drop (i + 1)).flatten := by
 have hil : i < l.length := (List.getElem?_eq_some_iff.1 hc).1
 rw [List.drop_eq_getElem_cons hil, List.flatten_cons]; congr 1
 simpa [List.getElem?_eq_getElem hil] using hc
theorem Tf7 {k i j n : Nat} {l : List (List α)} {c : List α} (hk : ∀ c ∈ l, c.length = k) (hc : l[i]? = some c) (hle : j + n ≤ c.length) : (l.flatten.drop (i * k + j)).take n = (c.drop j).take n := by
 rw [← List.drop_drop, Tf6 i hk, fl_at hk hc, List.drop_append_of_le_length (by omega), List.take_append_of_le_length (by simp; omega)]
theorem Txq {k i j : Nat} {l : List (List α)} {c : List α} {x : α} (hk : ∀ c ∈ l, c.length = k) (hc : l[i]? = some c) (hx : c[j]? = some x) : l.flatten[i * k + j]? = some x := by
 have hj : j < c.length := (List.getElem?_eq_some_iff.1 hx).1
 have h := Tf7 (j := j) (n := 1) hk hc (by omega)
 have h2 := congrArg (fun z : List α => z[0]?) h
 simp only [List.getElem?_take, List.getElem?_drop, Nat.add_zero, Nat.zero_lt_one, if_true] at h2
 rw [h2]; exact hx
theorem fl_in {k i : Nat} {l : List (List α)} (hil : i < l.length) : i * k + k ≤ l.length * k := by
 have := Nat.mul_le_mul_right k (show i + 1 ≤ l.length from hil)
 rwa [Nat.add_mul, Nat.one_mul] at this
theorem Tug {k : Nat} : ∀ {l : List (List α)} {i : Nat} {c : List α}, (∀ c ∈ l, c.length = k) → i < l.length → (l.set i c).flatten = l.flatten.take (i * k) ++ c ++ l.flatten.drop (i * k + k)
 | [], i, c, _, h => by simp at h
 | x :: l, 0, c, hk, h => by
  have hx := hk x (by simp)
  simp only [List.set_cons_zero, List.flatten_cons, Nat.zero_mul, List.take_zero, List.nil_append, Nat.zero_add]
  rw [show k = x.length from hx.symm, List.drop_left]
 | x :: l, i + 1, c, hk, h => by
  have hx := hk x (by simp)
  have ih := Tug (l := l) (i := i) (c := c) (fun c hc => hk c (by simp [hc])) (by simpa using h)
  have e : (i + 1) * k = x.length + i * k := by rw [Nat.add_mul, hx]; omega
  rw [List.set_cons_succ, List.flatten_cons, ih, List.flatten_cons, e, List.take_append, List.take_of_length_le (l := x) (by omega), Nat.add_sub_cancel_left, show x.length + i * k + k = x.length + (i * k + k) by omega, List.drop_append, List.drop_of_length_le (l := x) (by omega), Nat.add_sub_cancel_left]
  simp [List.append_assoc]
theorem Txr {k i j n : Nat} {l : List (List α)} {c yc : List α} (hk : ∀ c ∈ l, c.length = k) (hc : l[i]? = some c) (hle : j + n ≤ c.length) (hy : yc.length = n) : (l.set i (c.take j ++ yc ++ c.drop (j + n))).flatten = l.flatten.take (i * k + j) ++ yc ++ l.flatten.drop (i * k + j + n) := by
 have hil : i < l.length := (List.getElem?_eq_some_iff.1 hc).1
 have hck : c.length = k := hk c (List.mem_of_getElem? hc)
 have hdi := fl_at hk hc
 rw [Tug hk hil]
 have e3 : l.flatten.drop (i * k + k) = (l.drop (i + 1)).flatten := by
  rw [← List.drop_drop, Tf6 i hk, hdi]
  conv => lhs; rw [← hck]
  rw [List.drop_left]
 have e1 : l.flatten.take (i * k + j) = l.flatten.take (i * k) ++ c.take j := by
  rw [List.take_add, Tf6 i hk, hdi, List.take_append_of_le_length (by omega)]
 have e2 : l.flatten.drop (i * k + j + n) = c.drop (j + n) ++ l.flatten.drop (i * k + k) := by
  rw [show i * k + j + n = i * k + (j + n) by omega, ← List.drop_drop, Tf6 i hk, hdi, List.drop_append_of_le_length (by omega), e3]
 rw [e1, e2]
 simp [List.append_assoc]
end
section
variable {w : World} {g : Gs} {h : Nat → Option Ob}
theorem QRepL.length : ∀ {l vs}, QRepL w g h l vs → l.length = vs.length
 | _, _, .nil => rfl
 | _, _, .cons _ b => by simp [QRepL.length b]
theorem QRepL.get : ∀ {l vs}, QRepL w g h l vs → ∀ (i : Nat) (x : RV), l[i]? = some x → ∃ v, vs[i]? = some v ∧ QRep w g h x v
 | _, _, .nil, i, x, h => by simp at h
 | _, _, .cons a b, 0, x, h => by simp at h; subst h; exact ⟨_, rfl, a⟩
 | _, _, .cons a b, i + 1, x, h => by simpa using QRepL.get b i x (by simpa using h)
theorem QRepL.drop : ∀ {l vs}, QRepL w g h l vs → ∀ n, QRepL w g h (l.drop n) (vs.drop n)
 | _, _, h, 0 => h
 | _, _, .nil, n + 1 => .nil
 | _, _, .cons a b, n + 1 => QRepL.drop b n
theorem QRepL.take : ∀ {l vs}, QRepL w g h l vs → ∀ n, QRepL w g h (l.take n) (vs.take n)
 | _, _, h, 0 => .nil
 | _, _, .nil, n + 1 => .nil
 | _, _, .cons a b, n + 1 => .cons a (QRepL.take b n)
theorem QRepL.append : ∀ {l vs}, QRepL w g h l vs → ∀ {m us}, QRepL w g h m us → QRepL w g h (l ++ m) (vs ++ us)
 | _, _, .nil, _, _, h => h
 | _, _, .cons a b, _, _, h => .cons a (QRepL.append b h)
theorem RepL.qrepl : ∀ {l : List PV} {us : List Value}, RepL w g.lm l us → QRepL w g h (l.map RV.p) us
 | _, _, .nil => .nil
 | _, _, .cons a b => .cons a (RepL.qrepl b)
end
theorem Tet {k i j : Nat} {l : List (List RV)} {c : RV} (hk : ∀ c ∈ l, c.length = k) (h : cellR l i j = some c) : l.flatten[i * k + j]? = some c := by
 unfold cellR at h
 split at h
 · rename_i r hr; exact Txq hk hr h
 · simp at h
theorem Tl5 {w : World} {base e e' k n m cap b : Nat} {v : Value} {xs : List Value} {cur : Array Value} {z : Nat × Nat} (h : w.ownsRow base e k v n xs) (hv : v = .slice (some ⟨b, 0, none⟩) m cap) (hg : w.heap[b]? = some (.cells cur e' z)) : xs = cur.toList.take (n * k) := by
 rcases h.2 with ⟨h1, _⟩ | ⟨b', cap', cur', h1, _, h2, _, _, _, h3⟩
 · rw [hv] at h1; simp at h1
 · rw [hv] at h1
   simp only [Value.slice.injEq, oIE, Addr.mk.injEq, and_true] at h1
   obtain ⟨rfl, _⟩ := h1
   rw [hg] at h2
   simp only [oIE, Obj.cells.injEq] at h2
   rw [← h3, h2.1]
section
variable {P : Program} {base : Nat} {w0 : World} {lm0 : L0} {N : Nat} {g : Gs} {a : Act} {w : World} {s : St} {o : Oper}
theorem Sim.gro (S : Sim base w0 lm0 N g a w s) {d e k : Nat} {l : List (List RV)} (hd : get s.h d = some (.gr e k l)) {i j : Nat} {u : Value} (hr : SRep w g (get s.h) (.mp d i j) u) :
 0 < k ∧ (∀ c ∈ l, c.length = k) ∧ ∃ b xs, u = .pointer (some ⟨b, i * k + j, none⟩) ∧ blk (g.v d) = some b ∧ w.ownsRow base e k (g.v d) l.length xs ∧ QRepL w g (get s.h) l.flatten xs ∧ (∀ u ∈ xs, u.oneCell' = true) := by
 obtain ⟨h1, h2, ⟨xs, h3, h5⟩, h6⟩ := S.ob d _ hd
 simp only [SRep, hd] at hr
 obtain ⟨b, hb, rfl⟩ := hr
 exact ⟨h1, h2, b, xs, rfl, hb, h3, S.gs d e k l xs hd h3, h5⟩
theorem Tns {e k n : Nat} {v : Value} {xs : List Value} (h : w.ownsRow base e k v n xs) : ∃ ad m c, v = .slice ad m c := by
 rcases h.2 with ⟨rfl, _⟩ | ⟨_, _, _, rfl, _⟩ <;> exact ⟨_, _, _, rfl⟩
theorem Tse (S : Sim base w0 lm0 N g a w s) {v : SV} {u : Value} (hr : SRep w g (get s.h) v u) {d : Nat} (hid : v.id? = some d) (hl : liveR s.h d = true) : u.cells = #[u] ∧ u.oneCell' = true := by
 have sl : ∀ {u : Value}, (∃ ad m c, u = .slice ad m c) → u.cells = #[u] ∧ u.oneCell' = true := fun ⟨_, _, _, h⟩ => by rw [h]; exact ⟨rfl, rfl⟩
 have pt : ∀ {u : Value}, (∃ ad, u = .pointer ad) → u.cells = #[u] ∧ u.oneCell' = true := fun ⟨_, h⟩ => by rw [h]; exact ⟨rfl, rfl⟩
 unfold liveR at hl
 cases v with
 | ms d' off len =>
  simp only [SV.id?, oIE] at hid
  subst hid
  cases hd : get s.h d' with
  | none => rw [hd] at hl; simp at hl
  | some ob =>
   rw [hd] at hl
   have hob := S.ob d' ob hd
   cases ob <;> simp only [SRep, hd] at hr <;> first | exact hr.elim | (simp [Ob.live] at hl; done) | skip
   all_goals
    obtain ⟨_, hr⟩ := hr
    refine sl ?_
    rcases hr with ⟨_, _, rfl⟩ | ⟨_, _, _, rfl, _⟩
    · obtain ⟨_, _, ⟨xs, h3, _⟩, _⟩ := hob
      exact Tns h3
    · exact ⟨_, _, _, rfl⟩
 | mp d' i j =>
  simp only [SV.id?, oIE] at hid
  subst hid
  cases hd : get s.h d' with
  | none => rw [hd] at hl; simp at hl
  | some ob =>
   rw [hd] at hl
   have hob := S.ob d' ob hd
   cases ob <;> simp only [SRep, hd] at hr <;> first | exact hr.elim | (simp [Ob.live] at hl; done) | skip
   all_goals
    refine pt ?_
    first
    | (obtain ⟨_, _, rfl⟩ := hr; exact ⟨_, rfl⟩)
    | (obtain ⟨b, h1, _⟩ := hob; rw [hr, h1]; exact ⟨_, rfl⟩)
 | mo d' =>
  simp only [SV.id?, oIE] at hid
  subst hid
  cases hd : get s.h d' with
  | none => rw [hd] at hl; simp at hl
  | some ob =>
   rw [hd] at hl
   have hob := S.ob d' ob hd
   cases ob <;> simp only [SRep, hd] at hr <;> first | exact hr.elim | (simp [Ob.live] at hl; done) | skip
   obtain ⟨_, ⟨b, h1, _⟩, _⟩ := hob
   rw [hr, h1]; exact pt ⟨_, rfl⟩
 | _ => simp [SV.id?] at hid
theorem Tdg (S : Sim base w0 lm0 N g a w s) {v : SV} {u : Value} (hr : SRep w g (get s.h) v u) {c : List RV} (hc : rcells v = some c) (hl : liveV s.h v = true) : QRepL w g (get s.h) c u.cells.toList ∧ ∀ x ∈ u.cells.toList, x.oneCell' = true := by
 have one : ∀ {r : RV}, v = r.sv → ∀ {d}, v.id? = some d → v.refs = [d] → QRepL w g (get s.h) [r] u.cells.toList ∧ ∀ x ∈ u.cells.toList, x.oneCell' = true := by
  intro r hv d hid href
  have hld : liveR s.h d = true := by
   unfold liveV at hl
   rw [href] at hl
   simpa using hl
  obtain ⟨q1, q2⟩ := Tse S hr hid hld
  rw [q1]
  exact ⟨.cons (QRep.sv.2 (by rw [← hv]; exact hr)) .nil, fun x hx => by simp at hx; rw [hx]; exact q2⟩
 cases v with
 | p x =>
  simp only [rcells] at hc
  split at hc
  · rename_i c' hx
    obtain rfl := oIj hc
    obtain ⟨q1, q2⟩ := Rep.cells hr hx
    exact ⟨q1.qrepl, q2⟩
  · simp at hc
 | ms d off len => simp only [rcells, oIE] at hc; subst hc; exact one rfl rfl rfl
 | mp d i j => simp only [rcells, oIE] at hc; subst hc; exact one rfl rfl rfl
 | mo d => simp only [rcells, oIE] at hc; subst hc; exact one rfl rfl rfl
 | sst l =>
  simp only [rcells, oIE] at hc
  subst hc
  obtain ⟨vs, rfl, q1, q2⟩ := hr
  exact ⟨by simpa [Value.cells] using q1, by simpa [Value.cells] using q2⟩
 | _ => simp [rcells] at hc
theorem Tvr (S : Sim base w0 lm0 N g a w s) {t : TypeId} {x : Operand} {y : X} {e : Eff} {call : Call} {d : Nat} (ho : o.op = .load t x) (ha : aggT P t = some false) (hx : okX x y = true)
 (he : eff call s d (.ldr y) = some e) : EffOK P base w0 lm0 N g a w s o e := by
 simp only [eff] at he
 split at he
 case h_2 => simp at he
 rename_i d' i j hv
 have hr := Taf S hx hv
 split at he
 case h_2 => simp at he
 rename_i e' k l hd
 split at he
 case h_2 => simp at he
 rename_i c hc
 split at he
 case isFalse => simp at he
 simp only [oIE] at he
 subst he
 obtain ⟨h0, hk, b, xs, hu, hb, hown, hq, h1⟩ := S.gro hd hr
 obtain ⟨v0, hv0, hrep⟩ := hq.get _ _ (Tet hk hc)
 refine EffOK.pure S (u := v0) ?_ (QRep.sv.1 hrep)
 have := Tcw ha (Ta1 hown hb hv0)
 simp [execOp, ho, hu, this]
theorem Tsf (S : Sim base w0 lm0 N g a w s) {t : TypeId} {x : Operand} {y : X} {k : Nat} {e : Eff} {call : Call} {d : Nat} (ho : o.op = .load t x) (ha : aggT P t = some true) (hk : P.cellsOf t = k) (h0 : 0 < k) (hx : okX x y = true)
 (he : eff call s d (.ldkr k y) = some e) : EffOK P base w0 lm0 N g a w s o e := by
 simp only [eff] at he
 split at he
 case h_2 => simp at he
 rename_i d' i j hv
 have hr := Taf S hx hv
 split at he
 case h_2 => simp at he
 rename_i e' k' l hd
 split at he
 case h_2 => simp at he
 rename_i c hc
 split at he
 case isFalse => simp at he
 rename_i hle
 simp only [oIE] at he
 subst he
 obtain ⟨h0', hk', b, xs, hu, hb, hown, hq, h1⟩ := S.gro hd hr
 have hq' := (hq.drop (i * k' + j)).take k
 rw [Tf7 hk' hc hle] at hq'
 have hl := hq'.length
 rw [List.length_take, List.length_drop, Nat.min_eq_left (by omega)] at hl
 refine EffOK.pure S (u := .agg ((xs.drop (i * k' + j)).take k).toArray) ?_ ⟨_, rfl, hq', fun u hu => h1 u (List.mem_of_mem_drop (List.mem_of_mem_take hu))⟩
 have := Tec (P := P) (w := w) ha hk h0 (b := b) (o := i * k' + j) (vs := (xs.drop (i * k' + j)).take k) hl.symm (fun q u hu => Ta1 hown hb (by
  rw [List.getElem?_take] at hu
  split at hu
  · rw [List.getElem?_drop] at hu; exact hu
  · simp at hu))
 simp [execOp, ho, hu, this]
theorem QRepL.sv1 {w : World} {g : Gs} {h : Nat → Option Ob} : ∀ {l : List RV} {us : List Value}, QRepL w g h l us → SRepL w g h (l.map RV.sv) us
 | _, _, .nil => .nil
 | _, _, .cons a b => .cons (QRep.sv.1 a) (QRepL.sv1 b)
theorem Tf8 {r : RV} (h : r.isNil = true) : r = .p (.sc (.slice none 0 0)) := by
 unfold RV.isNil at h
 split at h
 · rfl
 · simp at h
theorem Thj {lm : Nat → Nat} : ∀ {ks : List Nat} {ys : List PV} {us : List Value}, RepL w lm ys us → RepL w lm (fixN ks ys) us
 | [], _, _, h => h
 | _ :: _, [], _, h => h
 | k :: ks, y :: ys, _, .cons a b => by
  simp only [fixN]
  refine .cons ?_ (Thj b)
  split
  · rename_i h
    have e : y = .sc (.slice none 0 0) := by simpa using Tf8 h.2
    subst e
    cases a
    exact .sl0
  · exact a
theorem Tsg (S : Sim base w0 lm0 N g a w s) {t : TypeId} {x : Operand} {y : X} {el k : Nat} {e : Eff} {call : Call} {d : Nat} (h0k : 0 < k) (ho : o.op = .load t x) (ha : aggT P t = some false) (hx : okX x y = true)
 (he : eff call s d (.ldrn el k y) = some e) : EffOK P base w0 lm0 N g a w s o e := by
 simp only [eff] at he
 split at he
 case h_2 => simp at he
 rename_i d' i j hv
 have hr := Taf S hx hv
 split at he
 case h_2 => simp at he
 rename_i e' k' l hd
 split at he
 case h_2 => simp at he
 rename_i c hc
 obtain ⟨h0, hk, b, xs, hu, hb, hown, hq, h1⟩ := S.gro hd hr
 obtain ⟨v0, hv0, hrep⟩ := hq.get _ _ (Tet hk hc)
 have hrun : (execOp a.eval o).run P w = .ok (.value v0) w := by
  have := Tcw ha (Ta1 hown hb hv0)
  simp [execOp, ho, hu, this]
 split at he
 · rename_i hn
   split at he
   case h_2 => simp at he
   rename_i id hid
   simp only [oIE] at he
   subst he
   obtain rfl := Tf8 hn
   obtain rfl := Ta2 hrep
   obtain ⟨S', T'⟩ := S.new (lm' := g.lm) (v0 := .slice none 0 0) (o := .row el k false []) (Tav hid) (Ta6 hid) (Below.refl _ w) (fun _ _ => rfl) rfl (fun b hb => by simp [blk] at hb)
    ⟨h0k, by simp, ⟨[], by simp only [Tah]; exact World.ownsRow_nil w base el k, .nil, by simp⟩, fun b hb => by simp only [Tah] at hb; simp [blk] at hb⟩
   refine ⟨.slice none 0 0, w, _, .inl hrun, S', ?_⟩
   have := Tbb (w' := w) (g' := ⟨g.lm, upd g.v id (.slice none 0 0)⟩) (h' := AM.put s.h id (.row el k false [])) (Taa _ _ _) (n := 0) rfl
   simp only [Tah] at this
   exact this
 · split at he
   case isFalse => simp at he
   simp only [oIE] at he
   subst he
   exact EffOK.pure S hrun (QRep.sv.1 hrep)
theorem Tsh (S : Sim base w0 lm0 N g a w s) {t : TypeId} {x : Operand} {y : X} {ks : List Nat} {e : Eff} {call : Call} {d : Nat} (ho : o.op = .load t x) (ha : aggT P t = some true) (hk : P.cellsOf t = ks.length) (h0 : 0 < ks.length) (hx : okX x y = true)
 (he : eff call s d (.ldkf ks y) = some e) : EffOK P base w0 lm0 N g a w s o e := by
 simp only [eff] at he
 split at he
 case h_2 => simp at he
 rename_i d' i j hv
 have hr := Taf S hx hv
 split at he
 case h_2 => simp at he
 rename_i e' k' l hd
 split at he
 case h_2 => simp at he
 rename_i c hc
 split at he
 case isFalse => simp at he
 rename_i hle
 split at he
 case h_2 => simp at he
 rename_i ys fr hf
 simp only [oIE] at he
 subst he
 obtain ⟨h0', hk', b, xs, hu, hb, hown, hq, h1⟩ := S.gro hd hr
 have hq' := (hq.drop (i * k' + j)).take ks.length
 rw [Tf7 hk' hc hle] at hq'
 have hl := hq'.length
 rw [List.length_take, List.length_drop, Nat.min_eq_left (by omega)] at hl
 refine EffOK.frzs S hq'.sv1 hf (u := .agg ((xs.drop (i * k' + j)).take ks.length).toArray) ?_ (fun lm' hrl => .st (Thj hrl) fun u hu => h1 u (List.mem_of_mem_drop (List.mem_of_mem_take hu)))
 have := Tec (P := P) (w := w) ha hk h0 (b := b) (o := i * k' + j) (vs := (xs.drop (i * k' + j)).take ks.length) hl.symm (fun q u hu => Ta1 hown hb (by
  rw [List.getElem?_take] at hu
  split at hu
  · rw [List.getElem?_drop] at hu; exact hu
  · simp at hu))
 simp [execOp, ho, hu, this]
theorem Tvs (S : Sim base w0 lm0 N g a w s) {x : Operand} {y : X} {call : Call} {d : Nat} {e : Eff} (ho : o.op = .nilCheck x) (hx : okX x y = true) (he : eff call s d (.nkr y) = some e) : EffOK P base w0 lm0 N g a w s o e := by
 simp only [eff] at he
 split at he
 case h_2 => simp at he
 rename_i d' i j hv
 have hr := Taf S hx hv
 split at he
 case h_2 => simp at he
 rename_i e' k l hd
 simp only [oIE] at he
 subst he
 obtain ⟨_, _, b, xs, hu, _⟩ := S.gro hd hr
 exact EffOK.pure S (u := a.eval x) (by simp [execOp, ho, hu]) hr
theorem Tvt (S : Sim base w0 lm0 N g a w s) {ne : Bool} {op : BinOp} (hop : op = if ne then .neq else .eql) {t ty e : TypeId} {x1 : Operand} {y1 : X} {call : Call} {d : Nat} {r : Eff} (ho : o.op = .binOp op t x1 (.const (.pointer none)) ty) (ht : P.underlying t = some (.pointer e)) (hx1 : okX x1 y1 = true) (hr : eff call s d (.nlq ne y1) = some r) :
 EffOK P base w0 lm0 N g a w s o r := by
 simp only [eff] at hr
 split at hr
 case h_2 => simp at hr
 rename_i d' i j hv
 have hrr := Taf S hx1 hv
 split at hr
 case h_2 => simp at hr
 rename_i e' k l hd
 simp only [oIE] at hr
 subst hr
 obtain ⟨_, _, b, xs, hu, _⟩ := S.gro hd hrr
 have hq := The (P := P) (w := w) ht (some ⟨b, i * k + j, none⟩)
 have e2 : a.eval (.const (.pointer none)) = .pointer none := rfl
 refine EffOK.pure S (u := .bool ne) ?_ (.sc _)
 cases ne <;> subst hop <;> simp [execOp, ho, hu, e2, eqGuard, binOp, hq]
theorem Tvu (S : Sim base w0 lm0 N g a w s) {t : TypeId} {fs : Array Field} {i : Nat} {f : Field} {x : Operand} {y : X} {off : Nat} {call : Call} {d : Nat} {e : Eff} (ho : o.op = .fieldAddr t x i) (ht : P.underlying t = some (.struct fs)) (hf : fs[i]? = some f) (hoff : f.offset = off) (h0 : 0 < P.cellsOf f.type) (hx : okX x y = true)
 (he : eff call s d (.far y off) = some e) : EffOK P base w0 lm0 N g a w s o e := by
 have hrun : ∀ b of, a.eval x = .pointer (some ⟨b, of, none⟩) → (execOp a.eval o).run P w = .ok (.value (.pointer (some ⟨b, of + off, none⟩))) w := by
  intro b of hu
  simp [execOp, ho, hu, Instr.fieldAt, run_underlying ht, hf, Instr.sureAddr, Tcq h0, hoff]
 simp only [eff] at he
 split at he
 case h_2 => simp at he
 rename_i d' i' j hv
 have hr := Taf S hx hv
 split at he
 case h_2 => simp at he
 rename_i e' k l hd
 simp only [oIE] at he
 subst he
 obtain ⟨_, _, b, xs, hu, hb, _⟩ := S.gro hd hr
 refine EffOK.pure S (hrun b _ hu) ?_
 simp only [SRep, hd]
 exact ⟨b, hb, by rw [Nat.add_assoc]⟩
theorem Tvv (S : Sim base w0 lm0 N g a w s) {t el : TypeId} {x i : Operand} {y j : X} {m : Nat} {call : Call} {d : Nat} {e : Eff} (ho : o.op = .indexAddr t x i) (ht : P.underlying t = some (.array m el)) (hk : P.cellsOf el = 1) (hx : okX x y = true) (hi : okX i j = true)
 (he : eff call s d (.aar m y j) = some e) : EffOK P base w0 lm0 N g a w s o e := by
 simp only [eff] at he
 split at he
 case h_2 => simp at he
 rename_i d' i' j' u hv hw
 have hr := Taf S hx hv
 split at he
 case h_2 => simp at he
 rename_i n hn
 split at he
 case h_2 => simp at he
 rename_i e' k l hd
 split at he
 case isFalse => simp at he
 rename_i hlt
 simp only [oIE] at he
 subst he
 obtain ⟨ki, hi'⟩ := Tba S hi hw hn
 obtain ⟨_, _, b, xs, hu, hb, _⟩ := S.gro hd hr
 have h1 : (0 : Int) ≤ (n : Int) ∧ (n : Int) < (m : Int) := by omega
 refine EffOK.pure S (u := .pointer (some ⟨b, i' * k + j' + n, none⟩)) ?_ ?_
 · simp [execOp, ho, hu, hi', Instr.indexAt, run_underlying ht, asIntOf, h1, Instr.sureAddr, Tan hk (by omega), add_n, hlt]
 · simp only [SRep, hd]
   exact ⟨b, hb, by rw [Nat.add_assoc]⟩
theorem Tvw (S : Sim base w0 lm0 N g a w s) {t el : TypeId} {m : Nat} {x i : Operand} {y j : X} {call : Call} {d : Nat} {e : Eff} (ho : o.op = .index t x i) (ht : P.underlying t = some (.array m el)) (ha : aggT P el = some false) (hk : P.cellsOf el = 1) (hx : okX x y = true) (hi : okX i j = true)
 (he : eff call s d (.ix1 m y j) = some e) : EffOK P base w0 lm0 N g a w s o e := by
 simp only [eff] at he
 split at he
 case h_2 => simp at he
 rename_i l v hv hw
 split at he
 case h_2 => simp at he
 rename_i n hn
 split at he
 case isFalse => simp at he
 rename_i hlt
 split at he
 case h_2 => simp at he
 rename_i c hc
 simp only [oIE] at he
 subst he
 obtain ⟨vs, hu, hl, h1⟩ := Thc (Taf S hx hv)
 obtain ⟨ki, hi'⟩ := Tba S hi hw hn
 obtain ⟨u, hu2, hrep⟩ := hl.get _ _ hc
 refine EffOK.pure S (u := u) ?_ hrep
 have hlt2 : (0 : Int) ≤ (n : Int) ∧ (n : Int) < (m : Int) := by omega
 simp [execOp, ho, hu, hi', Instr.index, asIntOf, run_underlying ht, hlt2, hlt, Tan hk (by omega), Ted ha hu2]
theorem Tvx (S : Sim base w0 lm0 N g a w s) {x : Operand} {y : X} {i : Nat} {call : Call} {d : Nat} {e : Eff} (ho : o.op = .extract x i) (hx : okX x y = true) (he : eff call s d (.exr y i) = some e) : EffOK P base w0 lm0 N g a w s o e := by
 simp only [eff] at he
 split at he
 · rename_i l hv
   obtain ⟨vs, hu, hl⟩ := Taf S hx hv
   split at he
   case h_2 => simp at he
   rename_i c hc
   split at he
   case isFalse => simp at he
   simp only [oIE] at he
   subst he
   obtain ⟨v, hv, hrep⟩ := hl.get _ _ hc
   exact EffOK.pure S (u := v) (by simp [execOp, ho, hu, Instr.extract, hv]) (QRep.sv.1 hrep)
 · rename_i l hv
   exact To0 S (call := call) (d := d) ho hx (by simp only [eff, hv]; exact he)
 · simp at he
theorem Tjp {g : Gs} {h : Nat → Option Ob} : ∀ {vs : List SV} {l : List RV} {us : List Value}, rvs vs = some l → SRepL w g h vs us → QRepL w g h l us
 | [], l, us, hv, hr => by
  simp only [rvs, oIE] at hv
  subst hv
  cases hr
  exact .nil
 | v :: vs, l, us, hv, hr => by
  simp only [rvs] at hv
  split at hv
  case h_2 => simp at hv
  rename_i x hx
  split at hv
  case h_2 => simp at hv
  rename_i xs hxs
  obtain rfl := oIj hv
  cases hr with
  | cons h1 h2 => exact .cons (QRep.sv.2 (by rw [← SV.rv_sv hx]; exact h1)) (Tjp hxs h2)
theorem Tvy (S : Sim base w0 lm0 N g a w s) {f : FuncId} {xs : List Operand} {ys : List X} {call : Call} {d : Nat} {e : Eff} (ho : o.op = .makeFunc (.func f) #[] xs.toArray) (hx : okXs xs ys = true) (he : eff call s d (.mkr f ys) = some e) : EffOK P base w0 lm0 N g a w s o e := by
 simp only [eff] at he
 split at he
 case h_2 => simp at he
 rename_i vs hv
 split at he
 case h_2 => simp at he
 rename_i l hl
 simp only [oIE] at he
 subst he
 exact EffOK.pure S (u := .func (.func f) #[] (xs.map a.eval).toArray) (by simp [execOp, ho, Instr.makeFunc]) ⟨_, rfl, Tjp hl (Tax S hx hv)⟩
theorem Sim.newGr (S : Sim base w0 lm0 N g a w s) {id : Nat} (hid : get s.h id = none) (hid2 : id < 1000000) {e k : Nat} (h0 : 0 < k) {l : List (List RV)} (hk : ∀ c ∈ l, c.length = k) {cs : Array Value} (hq : QRepL w g (get s.h) l.flatten cs.toList) (h1 : ∀ u ∈ cs.toList, u.oneCell' = true) (hm : l.length ≤ maxLen) :
 let w' := w.alloc (.cells cs e)
 let g' : Gs := ⟨upd g.lm w.heap.size 0, upd g.v id (.slice (some ⟨w.heap.size, 0, none⟩) l.length l.length)⟩
 Sim base w0 lm0 N g' a w' ⟨s.t, AM.put s.h id (.gr e k l)⟩ ∧ Tr w g (get s.h) w' g' (get (AM.put s.h id (.gr e k l))) := by
 intro w' g'
 have hlm : ∀ b, b < w.heap.size → upd g.lm w.heap.size 0 b = g.lm b := fun b h => Ta7 _ (by omega) _
 have hsz : cs.size = l.length * k := by
  have := hq.length
  rw [Tl4 hk] at this
  simpa using this.symm
 have hwn : w'.heap[w.heap.size]? = some (.cells cs e (0, 0)) := by simp only [w', World.alloc]; exact Array.getElem?_push_size
 have T : Tr w g (get s.h) w' g' (get (AM.put s.h id (.gr e k l))) := ⟨Ext.of_below (Tay w _) hlm, fun d o1 h1 => by
  have hne : id ≠ d := fun e => by rw [← e, hid] at h1; simp at h1
  exact .inr ⟨Ta7 _ (Ne.symm hne) _, o1, by rw [Tac _ hne]; exact h1, Shp.refl _⟩⟩
 refine S.new hid hid2 (Tay w _) hlm rfl (fun b hb => ?_) ⟨h0, hk, ⟨cs.toList, ?_, h1⟩, fun b hb => ?_⟩ (fun e1 k1 l1 he xs hw => ?_)
 · simp [blk] at hb; omega
 · simp only [Tah]
   exact World.ownsRow_lit w cs l.length S.bw hm hsz
 · simp only [Tah] at hb
   simp [blk] at hb
   subst hb
   exact Tah _ _ _
 · simp only [Ob.gr.injEq] at he
   obtain ⟨rfl, rfl, rfl⟩ := he
   have : xs = cs.toList := by
    rw [Tl5 hw (Tah _ _ _) hwn, List.take_of_length_le (by simp; omega)]
   rw [this]
   exact hq.tr T
theorem Tf9 {w' : World} {g' : Gs} {h' : List (Nat × Ob)} {id e k : Nat} {l : List (List RV)} {b n m : Nat} (hd : get h' id = some (.gr e k l)) (hv : g'.v id = .slice (some ⟨b, 0, none⟩) n m) : SRep w' g' (get h') (.mp id 0 0) (.pointer (some ⟨b, 0, none⟩)) := by
 simp only [SRep, hd, hv]
 exact ⟨b, rfl, by simp⟩
theorem Tsi (S : Sim base w0 lm0 N g a w s) {e k : Nat} (h0 : 0 < k) {x : Operand} {y : X} {call : Call} {d : Nat} {r : Eff} (ho : o.op = .box e x) (hx : okX x y = true) (he : eff call s d (.boxr e k y) = some r) : EffOK P base w0 lm0 N g a w s o r := by
 simp only [eff] at he
 split at he
 case h_2 => simp at he
 rename_i v hv
 split at he
 case h_2 => simp at he
 rename_i c hc
 split at he
 case isFalse => simp at he
 rename_i hcond
 split at he
 case h_2 => simp at he
 rename_i id hid
 simp only [oIE] at he
 subst he
 obtain ⟨q1, q2⟩ := Tdg S (Taf S hx hv) hc hcond.2
 obtain ⟨S2, T2⟩ := S.newGr (Tav hid) (Ta6 hid) (e := e) h0 (l := [c]) (by simpa using hcond.1) (cs := (a.eval x).cells) (by simpa using q1) q2 (by simp [maxLen])
 refine EffOK.mk' (u := .pointer (some ⟨w.heap.size, 0, none⟩)) rfl ?_ S2 (Tf9 (Taa _ _ _) (Tah _ _ _))
 simp [execOp, ho, Instr.box, newVar, Go.newRow]
theorem Tvz (S : Sim base w0 lm0 N g a w s) {e k : Nat} (h0 : 0 < k) {c : List PV} {z : Value} {call : Call} {d : Nat} {r : Eff} (ho : o.op = .alloc e) (hz : (P.info? e).bind (·.zero) = some z) (hok : okZ z.cells.toList c = true) (hk : c.length = k)
 (he : eff call s d (.alr e k c) = some r) : EffOK P base w0 lm0 N g a w s o r := by
 simp only [eff] at he
 split at he
 case h_2 => simp at he
 rename_i id hid
 simp only [oIE] at he
 subst he
 obtain ⟨h2, h3⟩ := Tbz (w := w) (lm := g.lm) hok
 obtain ⟨S2, T2⟩ := S.newGr (Tav hid) (Ta6 hid) (e := e) h0 (l := [c.map .p]) (by simpa using hk) (cs := z.cells) (by simpa using h2.qrepl) h3 (by simp [maxLen])
 refine EffOK.mk' (u := .pointer (some ⟨w.heap.size, 0, none⟩)) rfl ?_ S2 (Tf9 (Taa _ _ _) (Tah _ _ _))
 simp [execOp, ho, Instr.alloc, Tc5 hz, newVar, Go.newRow]
theorem Sim.setGr (S : Sim base w0 lm0 N g a w s) {d e k : Nat} {l l' : List (List RV)} (hd : get s.h d = some (.gr e k l)) (hl : l'.length = l.length) (hk : ∀ c ∈ l', c.length = k) {b : Nat} {xs : List Value} {cur : Array Value} {cap : Nat} (hv : g.v d = .slice (some ⟨b, 0, none⟩) l.length cap) (hb : base ≤ b) (hc : l.length ≤ cap) (hm : cap ≤ maxLen)
 (hg : w.heap[b]? = some (.cells cur e (0, 0))) {new : Array Value} (hn : new.size = cap * k) (hq : QRepL w g (get s.h) l'.flatten xs) (hx : new.toList.take (l.length * k) = xs) (h1 : ∀ u ∈ xs, u.oneCell' = true) :
 Sim base w0 lm0 N g a (w.setRow b new) ⟨s.t, AM.put s.h d (.gr e k l')⟩ := by
 have hblk : blk (g.v d) = some b := by rw [hv]; rfl
 have hlm : g.lm b = 0 := (S.ob d _ hd).2.2.2 b hblk
 have hext : Ext w g.lm (w.setRow b new) g.lm := by
  exact Ext.blocks fun b' _ h0 => ⟨setRow_other w b b' new (fun e' => by subst e'; omega), rfl⟩
 have T : Tr w g (get s.h) (w.setRow b new) g (get (AM.put s.h d (.gr e k l'))) := ⟨hext, fun d1 o1 hd1 => .inr ⟨rfl, by
  by_cases e' : d = d1
  · subst e'
    rw [hd] at hd1
    obtain rfl := oIj hd1
    exact ⟨_, Taa _ _ _, rfl, hl.symm⟩
  · exact ⟨o1, by rw [Tac _ e']; exact hd1, Shp.refl _⟩⟩⟩
 refine S.cells hd ⟨rfl, hl.symm⟩ rfl (fun x hi => by rw [hi.plain rfl]; exact .self _ _) hext (below_setRow (Below.refl _ _) hb _) (fun e1 k1 l1 he ys hw => ?_) (fun b' hb' _ => ⟨setRow_other _ _ _ _ (fun e => hb' d (.self _ _) (by rw [hblk, e])), rfl⟩) ⟨(S.ob d _ hd).1, hk, ⟨xs, ?_, h1⟩, fun b' hb' => ?_⟩
 · simp only [Ob.gr.injEq] at he
   obtain ⟨rfl, rfl, rfl⟩ := he
   have : ys = xs := by rw [Tl5 hw hv (setRow_heap _ _ _ _ _ _ hg), hl]; exact hx
   rw [this]
   exact hq.tr T
 · refine ⟨?_, .inr ⟨b, cap, new, by rw [hl]; exact hv, hb, setRow_heap _ _ _ _ _ _ hg, by omega, hm, hn, by rw [hl]; exact hx⟩⟩
   rw [← hq.length, Tl4 hk]
 · rw [hblk] at hb'
   obtain rfl := oIj hb'
   exact hlm
theorem Sim.stoGr (S : Sim base w0 lm0 N g a w s) {t : TypeId} {k : Nat} (h0 : 0 < k) {x y : Operand} (ho : o.op = .store t x y) (hk : P.cellsOf t = k) {d' i j e k' : Nat} {l : List (List RV)} {c yc : List RV} (hd : get s.h d' = some (.gr e k' l)) (hr : SRep w g (get s.h) (.mp d' i j) (a.eval x)) (hc : l[i]? = some c) (hle : j + k ≤ c.length) (hyk : yc.length = k)
 (hq : QRepL w g (get s.h) yc (a.eval y).cells.toList) (hc1 : ∀ u ∈ (a.eval y).cells.toList, u.oneCell' = true) : EffOK P base w0 lm0 N g a w s o ⟨undefS, [(d', .gr e k' (l.set i (c.take j ++ yc ++ c.drop (j + k))))]⟩ := by
 obtain ⟨_, hk', b, xs0, hu, hb, hown, hq0, h1⟩ := S.gro hd hr
 have hil : i < l.length := (List.getElem?_eq_some_iff.1 hc).1
 have hck : c.length = k' := hk' c (List.mem_of_getElem? hc)
 rcases hown.2 with ⟨hv, _⟩ | ⟨b', cap, cur, hv, q1, hg, q3, q4, q5, hxs⟩
 · rw [hv] at hb; simp [blk] at hb
 have hbb : b' = b := by rw [hv] at hb; simpa [blk] using hb
 subst hbb
 have hvn : (a.eval y).cells.size = k := by have := hq.length; simp at this; omega
 have hin := fl_in (k := k') hil
 have hcap : l.length * k' ≤ cap * k' := Nat.mul_le_mul_right k' q3
 have hxl : xs0.length = l.length * k' := by rw [← hq0.length, Tl4 hk']
 have hst := run_storeCells_at P b' (i * k' + j) e (a.eval y).cells.toList 0 cur w hg (by simp; omega) hc1
 simp only [Nat.add_zero, Array.length_toList, hvn] at hst
 have hrun : (execOp a.eval o).run P w = .ok .skip (w.setRow b' (cur.toList.take (i * k' + j) ++ (a.eval y).cells.toList ++ cur.toList.drop (i * k' + j + k)).toArray) := by
  simp only [execOp, ho, Instr.storeAt, hu, Instr.sureAddr, storeVar, Sem.run_bind, Sem.run_pure, Result.andThen_ok, Tan hk h0, hvn, ne_eq, not_true, if_false, hst]
 have hnk : ∀ c' ∈ l.set i (c.take j ++ yc ++ c.drop (j + k)), c'.length = k' := by
  intro c' hc'
  rcases List.mem_or_eq_of_mem_set hc' with h2 | h2
  · exact hk' _ h2
  · rw [h2]; simp; omega
 have hnew : ((cur.toList.take (i * k' + j) ++ (a.eval y).cells.toList ++ cur.toList.drop (i * k' + j + k)).toArray.toList.take (l.length * k')) = xs0.take (i * k' + j) ++ (a.eval y).cells.toList ++ xs0.drop (i * k' + j + k) := by
  rw [← hxs]
  simp only [List.take_append, List.length_append, List.length_take, Array.length_toList, List.take_take, List.drop_take, hvn]
  rw [List.take_of_length_le (l := (a.eval y).cells.toList) (by simp; omega)]
  congr 2
  · congr 1; omega
  · congr 1; omega
 have S2 := S.setGr hd (l' := l.set i (c.take j ++ yc ++ c.drop (j + k))) (by simp) hnk hv q1 q3 q4 hg (new := (cur.toList.take (i * k' + j) ++ (a.eval y).cells.toList ++ cur.toList.drop (i * k' + j + k)).toArray) (by simp; omega)
  (xs := xs0.take (i * k' + j) ++ (a.eval y).cells.toList ++ xs0.drop (i * k' + j + k)) (by rw [Txr hk' hc hle hyk]; exact ((hq0.take _).append hq).append (hq0.drop _)) hnew (by
   intro u hu
   simp only [List.mem_append] at hu
   rcases hu with (hu | hu) | hu
   · exact h1 u (List.mem_of_mem_take hu)
   · exact hc1 u hu
   · exact h1 u (List.mem_of_mem_drop hu))
 exact ⟨undef, _, _, .inr ⟨hrun, rfl⟩, S2, Rep.sc _⟩
theorem Tsj (S : Sim base w0 lm0 N g a w s) {t : TypeId} {k : Nat} (h0 : 0 < k) {x y : Operand} {x' y' : X} {call : Call} {d : Nat} {r : Eff} (ho : o.op = .store t x y) (hk : P.cellsOf t = k) (hx : okX x x' = true) (hy : okX y y' = true) (he : eff call s d (.stor k x' y') = some r) : EffOK P base w0 lm0 N g a w s o r := by
 simp only [eff] at he
 split at he
 case h_2 => simp at he
 rename_i d' i j v hvx hvy
 split at he
 case h_2 => simp at he
 rename_i yc hyc
 split at he
 case isFalse => simp at he
 rename_i hcond
 split at he
 case h_2 => simp at he
 rename_i e k' l hd
 split at he
 case h_2 => simp at he
 rename_i c hc
 split at he
 case isFalse => simp at he
 rename_i hle
 simp only [oIE] at he
 subst he
 obtain ⟨q1, q2⟩ := Tdg S (Taf S hy hvy) hyc hcond.2
 exact S.stoGr h0 ho hk hd (Taf S hx hvx) hc hle hcond.1 q1 q2
theorem Fz.gr {o' : Option Ob} {e k : Nat} {l : List (List RV)} (h : Fz (some (.gr e k l)) o') : o' = some (.gr e k l) := by
 unfold Fz at h
 exact h.symm
theorem Tpe (S : Sim base w0 lm0 N g a w s) {t : TypeId} {k : Nat} (h0 : 0 < k) {x y : Operand} {x' y' : X} {call : Call} {d : Nat} {r : Eff} (ho : o.op = .store t x y) (hk : P.cellsOf t = k) (hx : okX x x' = true) (hy : okX y y' = true) (he : eff call s d (.storf k x' y') = some r) : EffOK P base w0 lm0 N g a w s o r := by
 simp only [eff] at he
 split at he
 case h_2 => simp at he
 rename_i d' i j v hvx hvy
 split at he
 case h_2 => simp at he
 rename_i z fr hf
 split at he
 case h_2 => simp at he
 rename_i yc hyc
 split at he
 case isFalse => simp at he
 rename_i hyk
 split at he
 case h_2 => simp at he
 rename_i e k' l hd
 split at he
 case h_2 => simp at he
 rename_i c hc
 split at he
 case isFalse => simp at he
 rename_i hle
 simp only [oIE] at he
 subst he
 obtain ⟨lm', S1, r1, T1, F1⟩ := Tcp S (fun d => Fz.refl _) (Taf S hy hvy) hf
 have hd1 := (hd ▸ F1 d' : Fz (some (.gr e k' l)) _).gr
 obtain ⟨q1, q2⟩ := r1.cells hyc
 obtain ⟨u, w', g', hrun, S2, R2⟩ := S1.stoGr h0 ho hk hd1 ((Taf S hx hvx).tr T1) hc hle (yc := yc.map .p) (by simpa using hyk) q1.qrepl q2
 exact ⟨u, w', g', hrun, by rw [Tai]; exact S2, by rw [Tai]; exact R2⟩
inductive PartsQ (w : World) (g : Gs) (h : Nat → Option Ob) (place : Nat → Option (Nat × Nat)) : List (Nat × Nat × List RV) → List (Nat × Value) → Prop
 | nil : PartsQ w g h place [] []
 | cons {off n c i v ps vs} : place i = some (off, n) → QRepL w g h c v.cells.toList → (∀ u ∈ v.cells.toList, u.oneCell' = true) → PartsQ w g h place ps vs → PartsQ w g h place ((off, n, c) :: ps) ((i, v) :: vs)
theorem Tga {g : Gs} {h : Nat → Option Ob} {place : Nat → Option (Nat × Nat)} : ∀ {ps : List (Nat × Nat × List RV)} {vs : List (Nat × Value)} {z cs : List RV} {zc : Array Value}, PartsQ w g h place ps vs → fillQ z ps = some cs → QRepL w g h z zc.toList → (∀ u ∈ zc.toList, u.oneCell' = true) →
 ∃ cc, Instr.fill place zc vs = some cc ∧ QRepL w g h cs cc.toList ∧ ∀ u ∈ cc.toList, u.oneCell' = true
 | [], _, z, cs, zc, .nil, hh, hr, h1 => by
  simp only [fillQ, oIE] at hh
  subst hh
  exact ⟨zc, rfl, hr, h1⟩
 | (off, n, c) :: ps, _, z, cs, zc, .cons (i := i) (v := v) (vs := vs) hp hcr hc1 hps, hh, hr, h1 => by
  simp only [fillQ] at hh
  split at hh
  case isFalse => simp at hh
  rename_i hcn
  obtain ⟨hlen, hle⟩ := hcn
  have hvl : v.cells.size = n := by have := hcr.length; simp at this; omega
  have hzl : z.length = zc.size := by simpa using hr.length
  have hfs := Tid v.cells.toList off 0 zc (by simp; omega)
  simp only [Nat.add_zero, Array.length_toList, hvl] at hfs
  have hr' : QRepL w g h (z.take off ++ c ++ z.drop (off + n)) (zc.toList.take off ++ v.cells.toList ++ zc.toList.drop (off + n)) := ((hr.take off).append hcr).append (hr.drop (off + n))
  have e1 : (v.cells.zipIdx.foldl (fun cs (p : Value × Nat) => cs.setIfInBounds (off + p.2) p.1) zc).toList = zc.toList.take off ++ v.cells.toList ++ zc.toList.drop (off + n) := by
   rw [← hfs, ← Array.foldl_toList]
   simp
  have := Tga (ps := ps) (vs := vs) (cs := cs) (zc := v.cells.zipIdx.foldl (fun cs (p : Value × Nat) => cs.setIfInBounds (off + p.2) p.1) zc) hps hh (by rw [e1]; exact hr') (by
   rw [e1]
   intro u hu
   simp only [List.mem_append] at hu
   rcases hu with (hu | hu) | hu
   · exact h1 u (List.mem_of_mem_take hu)
   · exact hc1 u hu
   · exact h1 u (List.mem_of_mem_drop hu))
  obtain ⟨cc, h3, h4, h5⟩ := this
  refine ⟨cc, ?_, h4, h5⟩
  rw [Instr.fill]
  simp only [hp]
  rw [if_neg (by simp [hvl]; omega)]
  exact h3
theorem Tef (S : Sim base w0 lm0 N g a w s) {place : Nat → Option (Nat × Nat)} : ∀ {ps : List (Nat × Operand)} {qs : List (Nat × Nat × X)} {vs : List SV} {cs : List (List RV)}, okPs place ps qs = true → SRepL w g (get s.h) vs (ps.map fun p => a.eval p.2) → vs.all (liveV s.h) = true → rcellss vs = some cs →
 PartsQ w g (get s.h) place ((qs.zip cs).map fun q => (q.1.1, q.1.2.1, q.2)) (ps.map fun p => (p.1, a.eval p.2))
 | [], [], vs, cs, h, hr, hl, hc => .nil
 | (i, x) :: ps, (off, n, y) :: qs, vs, cs, h, hr, hl, hc => by
  simp only [okPs, Bool.and_eq_true] at h
  obtain ⟨⟨hp, hx⟩, h⟩ := h
  cases hr with
  | cons r1 r2 =>
   rename_i v vs'
   simp only [List.all_cons, Bool.and_eq_true] at hl
   simp only [rcellss] at hc
   split at hc
   case h_2 => simp at hc
   rename_i c hc0
   split at hc
   case h_2 => simp at hc
   rename_i cs' hcs
   obtain rfl := oIj hc
   obtain ⟨q1, q2⟩ := Tdg S r1 hc0 hl.1
   refine .cons ?_ q1 q2 (Tef S h r2 hl.2 hcs)
   cases hpl : place i with
   | none => rw [hpl] at hp; simp at hp
   | some q =>
    obtain ⟨o', n'⟩ := q
    rw [hpl] at hp
    simp at hp
    rw [hp.1, hp.2]
 | [], _ :: _, _, _, h, _, _, _ => by simp [okPs] at h
 | _ :: _, [], _, _, h, _, _, _ => by simp [okPs] at h
theorem Tl6 (S : Sim base w0 lm0 N g a w s) {t : TypeId} {fs : Array Field} {zv : Value} {z : List PV} {ps : Array (Nat × Operand)} {qs : List (Nat × Nat × X)} (ho : o.op = .build t ps) (ht : P.underlying t = some (.struct fs)) (hz : (P.info? t).bind (·.zero) = some zv) (hok : okZ zv.cells.toList z = true)
 (hsz : sizesOk P fs.toList = true) (hps : okPs (fun i => (fs[i]?).map fun f => (f.offset, P.cellsOf f.type)) ps.toList qs = true) {vs : List SV} (hr : SRepL w g (get s.h) vs (ps.toList.map fun p => a.eval p.2)) (hl : vs.all (liveV s.h) = true) {cs : List (List RV)} (hcs : rcellss vs = some cs) {l : List RV} (hf : fillQ (z.map .p) ((qs.zip cs).map fun q => (q.1.1, q.1.2.1, q.2)) = some l) :
 EffOK P base w0 lm0 N g a w s o ⟨.sst l, []⟩ := by
 have hp := Tef S hps hr hl hcs
 obtain ⟨z1, z2⟩ := Tbz (w := w) (lm := g.lm) hok
 obtain ⟨cc, h3, h4, h5⟩ := Tga hp hf z1.qrepl z2
 refine EffOK.pure S (u := .agg cc) ?_ ⟨cc.toList, by simp, h4, h5⟩
 have e1 : (fun i : Nat => ((fs.map fun f => (f.offset, P.cellsOf f.type))[i]? : Option (Nat × Nat))) = fun i => (fs[i]?).map fun f => (f.offset, P.cellsOf f.type) := by
  funext i; simp
 simp only [execOp, ho, Instr.build, Sem.run_bind, Tc5 hz, Result.andThen_ok, run_underlying ht, Thg fs hsz, Sem.run_pure, Array.toList_map]
 rw [e1]
 have h3' : Instr.fill (fun i => (fs[i]?).map fun f => (f.offset, P.cellsOf f.type)) zv.cells (ps.toList.map fun x => (x.1, a.eval x.2)) = some cc := h3
 simp only [h3']
 rfl
theorem Tsk (S : Sim base w0 lm0 N g a w s) {t : TypeId} {fs : Array Field} {zv : Value} {z : List PV} {ps : Array (Nat × Operand)} {qs : List (Nat × Nat × X)} {call : Call} {d : Nat} {r : Eff} (ho : o.op = .build t ps) (ht : P.underlying t = some (.struct fs)) (hz : (P.info? t).bind (·.zero) = some zv) (hok : okZ zv.cells.toList z = true)
 (hsz : sizesOk P fs.toList = true) (hps : okPs (fun i => (fs[i]?).map fun f => (f.offset, P.cellsOf f.type)) ps.toList qs = true) (he : eff call s d (.bldr z qs) = some r) : EffOK P base w0 lm0 N g a w s o r := by
 simp only [eff] at he
 split at he
 case h_2 => simp at he
 rename_i vs hv
 split at he
 case isFalse => simp at he
 rename_i hl
 split at he
 case h_2 => simp at he
 rename_i cs hcs
 split at he
 case h_2 => simp at he
 rename_i l hf
 simp only [oIE] at he
 subst he
 exact Tl6 S ho ht hz hok hsz hps (Tb3 (P := P) S hps hv).1 hl hcs hf
theorem Tl7 : ∀ {vs : List SV} {us : List Value} {g : Gs} {s : St} {xs : List SV} {fr : List (Nat × Ob)} {h0 : List (Nat × Ob)} (S : Sim base w0 lm0 N g a w s) (hf : ∀ d, Fz (get h0 d) (get s.h d)) (hr : SRepL w g (get s.h) vs us) (he : fzvs h0 vs = some (xs, fr)),
 ∃ lm', Sim base w0 lm0 N ⟨lm', g.v⟩ a w ⟨s.t, putAll s.h fr⟩ ∧ SRepL w ⟨lm', g.v⟩ (get (putAll s.h fr)) xs us ∧ Tr w g (get s.h) w ⟨lm', g.v⟩ (get (putAll s.h fr)) ∧ ∀ d, Fz (get h0 d) (get (putAll s.h fr) d)
 | [], _, g, s, xs, fr, h0, S, hf, .nil, he => by
  simp only [fzvs, oIE, Prod.mk.injEq] at he
  obtain ⟨rfl, rfl⟩ := he
  exact ⟨g.lm, S, .nil, ⟨Ext.refl _ _, fun d o h => .inr ⟨rfl, o, h, Shp.refl _⟩⟩, hf⟩
 | v :: vs, _, g, s, xs, fr, h0, S, hf, .cons (u := u0) (us := us') hv hvs, he => by
  simp only [fzvs] at he
  split at he
  case h_2 => simp at he
  rename_i x f1 h1
  split at he
  case h_2 => simp at he
  rename_i ys f2 h2
  simp only [oIE, Prod.mk.injEq] at he
  obtain ⟨rfl, rfl⟩ := he
  have one : ∃ lm', Sim base w0 lm0 N ⟨lm', g.v⟩ a w ⟨s.t, putAll s.h f1⟩ ∧ SRep w ⟨lm', g.v⟩ (get (putAll s.h f1)) x u0 ∧ Tr w g (get s.h) w ⟨lm', g.v⟩ (get (putAll s.h f1)) ∧ ∀ d, Fz (get h0 d) (get (putAll s.h f1) d) := by
   have keep : x = v ∧ f1 = [] → ∃ lm', Sim base w0 lm0 N ⟨lm', g.v⟩ a w ⟨s.t, putAll s.h f1⟩ ∧ SRep w ⟨lm', g.v⟩ (get (putAll s.h f1)) x u0 ∧ Tr w g (get s.h) w ⟨lm', g.v⟩ (get (putAll s.h f1)) ∧ ∀ d, Fz (get h0 d) (get (putAll s.h f1) d) := by
    rintro ⟨rfl, rfl⟩
    exact ⟨g.lm, S, hv, ⟨Ext.refl _ _, fun d o h => .inr ⟨rfl, o, h, Shp.refl _⟩⟩, hf⟩
   cases v with
   | ms d off n =>
    simp only [fzv] at h1
    split at h1
    · split at h1
      case h_2 => simp at h1
      rename_i y fr' hfz
      simp only [oIE, Prod.mk.injEq] at h1
      obtain ⟨rfl, rfl⟩ := h1
      obtain ⟨lm', S1, r1, T1, F1⟩ := Tcp S hf hv hfz
      exact ⟨lm', S1, r1, T1, F1⟩
    · simp only [oIE, Prod.mk.injEq] at h1
      exact keep ⟨h1.1.symm, h1.2.symm⟩
   | _ => simp only [fzv, oIE, Prod.mk.injEq] at h1; exact keep ⟨h1.1.symm, h1.2.symm⟩
  obtain ⟨lm1, S1, r1, T1, F1⟩ := one
  obtain ⟨lm2, S2, r2, T2, F2⟩ := Tl7 S1 F1 (hvs.tr T1) h2
  rw [Tai]
  exact ⟨lm2, S2, .cons (r1.tr T2) r2, T1.trans T2, F2⟩
theorem Tv0 {h h' : List (Nat × Ob)} (hf : ∀ d, Fz (get h d) (get h' d)) {v : SV} (hl : liveV h v = true) : liveV h' v = true := by
 unfold liveV at hl ⊢
 rw [List.all_eq_true] at hl ⊢
 intro d hd
 have h1 := hl d hd
 have h2 := hf d
 unfold liveR at h1 ⊢
 cases hg : get h d with
 | none => rw [hg] at h1; simp at h1
 | some o1 =>
  rw [hg] at h1 h2
  cases hg' : get h' d with
  | none => rw [hg'] at h2; cases o1 <;> simp [Fz] at h2
  | some o2 =>
   rw [hg'] at h2
   cases o1 with
   | row e k fz l => obtain ⟨fz', hh⟩ := h2.row; rw [oIj hh]; rfl
   | _ => simp only [Fz, oIE] at h2; subst h2; exact h1
theorem Tpf (S : Sim base w0 lm0 N g a w s) {t : TypeId} {fs : Array Field} {zv : Value} {z : List PV} {ps : Array (Nat × Operand)} {qs : List (Nat × Nat × X)} {call : Call} {d : Nat} {r : Eff} (ho : o.op = .build t ps) (ht : P.underlying t = some (.struct fs)) (hz : (P.info? t).bind (·.zero) = some zv) (hok : okZ zv.cells.toList z = true)
 (hsz : sizesOk P fs.toList = true) (hps : okPs (fun i => (fs[i]?).map fun f => (f.offset, P.cellsOf f.type)) ps.toList qs = true) (he : eff call s d (.bldrf z qs) = some r) : EffOK P base w0 lm0 N g a w s o r := by
 simp only [eff] at he
 split at he
 case h_2 => simp at he
 rename_i vs hv
 split at he
 case h_2 => simp at he
 rename_i vs2 fr hfz
 split at he
 case isFalse => simp at he
 rename_i hl
 split at he
 case h_2 => simp at he
 rename_i cs hcs
 split at he
 case h_2 => simp at he
 rename_i l hf
 simp only [oIE] at he
 subst he
 obtain ⟨lm', S1, r1, T1, F1⟩ := Tl7 S (fun d => Fz.refl _) (Tb3 (P := P) S hps hv).1 hfz
 obtain ⟨u, w', g', hrun, S2, R2⟩ := Tl6 S1 ho ht hz hok hsz hps r1 (by
  rw [List.all_eq_true] at hl ⊢
  exact fun v hv => Tv0 F1 (hl v hv)) hcs hf
 exact ⟨u, w', g', hrun, S2, R2⟩
end
end Go.Proofs.YtjpibniecllafaaGreat.AM
end
section
namespace Go.Proofs.YtjpibniecllafaaGreat.AM
open Go Go.RowKit
def isSl (P : Program) (t el : TypeId) : Bool := match P.underlying t with | some (.slice e) => e == el | _ => false
def isStr (P : Program) (t : TypeId) : Bool := match P.underlying t with | some .string => true | _ => false
theorem Tcx {P : Program} {t el : TypeId} (h : isSl P t el = true) : P.underlying t = some (.slice el) := by
 unfold isSl at h
 split at h
 · rename_i e he
   rw [he]; simp at h; rw [h]
 · simp at h
theorem Tbe {P : Program} {t : TypeId} (h : isStr P t = true) : P.underlying t = some .string := by
 unfold isStr at h
 split at h
 · assumption
 · simp at h
def zeroOf (P : Program) (e : TypeId) : Option Value := (P.info? e).bind (·.zero)
def zeroCellsOf (P : Program) (el : TypeId) (n : Nat) : Array Value := if n = 0 then #[] else ((zeroOf P el).getD .nilFunc).cells
def okS1 (P : Program) (op : Op) (so : SOp) (y : X) : Bool := match so, op with
 | .un u, .unOp u' _ x => decide (u' = u) && okX x y
 | .cv k, .convert t1 t2 x => (P.underlying t1).isSome && (match P.underlying t2 with | some (.int k') => decide (k' = k) | _ => false) && okX x y
 | .i2s, .convert t1 t2 x => (P.underlying t1).isSome && isStr P t2 && okX x y
 | .s2s, .convert t1 t2 x => (P.underlying t1).isSome && isStr P t2 && okX x y
 | _, _ => false
def okS2 (P : Program) (op : Op) (so : SOp) (y1 y2 : X) : Bool := match so, op with
 | .bin b, .binOp b' _ x1 x2 _ => decide (b' = b) && okX x1 y1 && okX x2 y2
 | .idx, .index t x1 x2 => isStr P t && okX x1 y1 && okX x2 y2
 | .beq ne, .binOp b t x1 x2 _ => decide (b = if ne then .neq else .eql) && (match P.underlying t with | some .bool => true | _ => false) && okX x1 y1 && okX x2 y2
 | .peq ne, .binOp b t x1 x2 _ => decide (b = if ne then .neq else .eql) && (match P.underlying t with | some (.pointer _) => true | _ => false) && okX x1 y1 && okX x2 y2
 | _, _ => false
def okBlt (P : Program) (c : Go.Call) (ao : AOp) : Bool := match c.callee, c.args.toList, c.argTypes.toList, ao with
 | .builtin .len, [x], [t], .len y => (match P.underlying t with | some (.slice _) => true | _ => false) && okX x y
 | .builtin .len, [x], [t], .lens y => isStr P t && okX x y
 | .builtin .append, [x, y], [t, t2], .app e k by_ x' y' => t2 == t && decide (0 < k) && isSl P t e && elOk P e k by_ && okX x x' && okX y y'
 | .builtin .append, [x, y], [t, t2], .apps e by_ x' y' => isSl P t e && isStr P t2 && elOk P e 1 by_ && okX x x' && okX y y'
 | .builtin .copy, [x, y], [t, _], .cpy k x' y' => decide (0 < k) && (match P.underlying t with | some (.slice e) => P.cellsOf e == k | _ => false) && okX x x' && okX y y'
 | .builtin .len, [x], [t], .lend y => (match P.underlying t with | some (.slice _) => true | _ => false) && okX x y
 | .builtin .copy, [x, y], [t, _], .cpyd k x' y' => decide (0 < k) && (match P.underlying t with | some (.slice e) => P.cellsOf e == k | _ => false) && okX x x' && okX y y'
 | .builtin .copy, [x, y], [t, _], .cpyo k x' y' => decide (0 < k) && (match P.underlying t with | some (.slice e) => P.cellsOf e == k | _ => false) && okX x x' && okX y y'
 | .builtin .max, xs, _, .mm true ys => okXs xs ys
 | .builtin .min, xs, _, .mm false ys => okXs xs ys
 | _, _, _, _ => false
def okA (P : Program) (op : Op) (ao : AOp) : Bool := match ao with
 | .mv y => (match op with | .move x => okX x y | .assign x => okX x y | _ => false)
 | .nl _ k => decide (0 < k) && (match op with | .move (.const (.slice none 0 0)) => true | .assign (.const (.slice none 0 0)) => true | _ => false)
 | .pick c' a' b' => (match op with | .pick c a b => okX c c' && okX a a' && okX b b' | _ => false)
 | .box e k y => (match op with | .box t x => t == e && decide (0 < k) && okX x y | _ => false)
 | .alloc e k rows => (match op with | .alloc t => t == e && decide (0 < k) && (match zeroOf P e with | some z => okZ z.cells.toList rows.flatten | none => false) && (rows.all fun c => c.length == k) && decide (rows.length ≤ 1000000) | _ => false)
 | .boxp e k y => (match op with | .box t x => t == e && decide (0 < k) && okX x y | _ => false)
 | .alcp e k c => (match op with | .alloc t => t == e && decide (0 < k) && (match zeroOf P e with | some z => okZ z.cells.toList [c].flatten | none => false) && ([c].all fun x => x.length == k) | _ => false)
 | .bld z qs => (match op with
  | .build t ps => (match P.underlying t, zeroOf P t with
   | some (.struct fs), some zv => okZ zv.cells.toList z && sizesOk P fs.toList && okPs (fun i => (fs[i]?).map fun f => (f.offset, P.cellsOf f.type)) ps.toList qs
   | _, _ => false)
  | _ => false)
 | .bldp z qs => (match op with
  | .build t ps => (match P.underlying t, zeroOf P t with
   | some (.struct fs), some zv => okZ zv.cells.toList z && sizesOk P fs.toList && okPs (fun i => (fs[i]?).map fun f => (f.offset, P.cellsOf f.type)) ps.toList qs
   | _, _ => false)
  | _ => false)
 | .bsl el k z qs => (match op with
  | .buildSlice t n ps => isSl P t el && decide (0 < k) && P.cellsOf el == k && z.length == n && (z.all fun c => c.length == k) && decide (n * k ≤ 16777216) && (decide (n * k = 0) || (zeroOf P el).isSome) && okZ (zeroRow (zeroCellsOf P el (n * k)) (n * k)).toList z.flatten && okRs k ps.toList qs
  | _ => false)
 | .bslp el k z qs => (match op with
  | .buildSlice t n ps => isSl P t el && decide (0 < k) && P.cellsOf el == k && z.length == n && (z.all fun c => c.length == k) && decide (n * k ≤ 16777216) && (decide (n * k = 0) || (zeroOf P el).isSome) && okZ (zeroRow (zeroCellsOf P el (n * k)) (n * k)).toList z.flatten && okRs k ps.toList qs
  | _ => false)
 | .iad k y j => (match op with | .indexAddr t x i => (match P.underlying t with | some (.slice e) => P.cellsOf e == k | _ => false) && decide (0 < k) && okX x y && okX i j | _ => false)
 | .fad y off => (match op with
  | .fieldAddr t x i => (match P.underlying t with | some (.struct fs) => (match fs[i]? with | some f => f.offset == off && decide (0 < P.cellsOf f.type) | none => false) | _ => false) && okX x y
  | _ => false)
 | .ld1d y => (match op with | .load t x => decide (aggT P t = some false) && okX x y | _ => false)
 | .ld1o y => (match op with | .load t x => decide (aggT P t = some false) && okX x y | _ => false)
 | .sto1o x' y' => (match op with | .store t x y => P.cellsOf t == 1 && okX x x' && okX y y' | _ => false)
 | .stod x' y' => (match op with | .store t x y => P.cellsOf t == 1 && okX x x' && okX y y' | _ => false)
 | .sbn T _ => (match op with | .alloc t => t == T && (match zeroOf P T with | some z => (match z.cells.toList with | [.pointer none, .slice none 0 0] => true | _ => false) | none => false) | _ => false)
 | .mvs y _ => (match op with | .move x => okX x y | .assign x => okX x y | _ => false)
 | .iap k y j => (match op with | .indexAddr t x i => (match P.underlying t with | some (.slice e) => P.cellsOf e == k | _ => false) && decide (0 < k) && okX x y && okX i j | _ => false)
 | .ldp1 y => (match op with | .load t x => decide (aggT P t = some false) && okX x y | _ => false)
 | .ldpk k y => (match op with | .load t x => decide (aggT P t = some true) && P.cellsOf t == k && decide (0 < k) && okX x y | _ => false)
 | .mvp y => (match op with | .move x => okX x y | .assign x => okX x y | _ => false)
 | .ld1 y => (match op with | .load t x => decide (aggT P t = some false) && okX x y | _ => false)
 | .ldk k y => (match op with | .load t x => decide (aggT P t = some true) && P.cellsOf t == k && decide (0 < k) && okX x y | _ => false)
 | .sto k x' y' => (match op with | .store t x y => P.cellsOf t == k && decide (0 < k) && okX x x' && okX y y' | _ => false)
 | .s1 so y => okS1 P op so y
 | .s2 so y1 y2 => okS2 P op so y1 y2
 | .eqst ne ks y1 y2 => (match op with
  | .binOp b t x1 x2 _ => decide (b = if ne then .neq else .eql) && (match P.underlying t with | some (.struct fs) => okFs P 0 ks fs.toList | _ => false) && !P.stoodInHeld t && !P.eqGuardType P.depth t && okX x1 y1 && okX x2 y2
  | _ => false)
 | .nck y => (match op with | .nilCheck x => okX x y | _ => false)
 | .mki t y => (match op with | .makeInterface t' x => t' == t && (match P.underlying t with | some (.interface _) => false | some _ => true | none => false) && okX x y | _ => false)
 | .fld1 y off => (match op with
  | .field t x i => (match P.underlying t with | some (.struct fs) => (match fs[i]? with | some f => f.offset == off && decide (aggT P f.type = some false) | none => false) | _ => false) && okX x y
  | _ => false)
 | .fldk y off k => (match op with
  | .field t x i => (match P.underlying t with | some (.struct fs) => (match fs[i]? with | some f => f.offset == off && decide (aggT P f.type = some true) && P.cellsOf f.type == k && decide (0 < k) | none => false) | _ => false) && okX x y
  | _ => false)
 | .ixa k m y j => (match op with | .index t x i => (match P.underlying t with | some (.array m' e) => m' == m && decide (aggT P e = some true) && P.cellsOf e == k | _ => false) && decide (0 < k) && okX x y && okX i j | _ => false)
 | .fa y off => (match op with
  | .fieldAddr t x i => (match P.underlying t with | some (.struct fs) => (match fs[i]? with | some f => f.offset == off && decide (0 < P.cellsOf f.type) | none => false) | _ => false) && okX x y
  | _ => false)
 | .ia k y j => (match op with | .indexAddr t x i => (match P.underlying t with | some (.slice e) => P.cellsOf e == k | _ => false) && decide (0 < k) && okX x y && okX i j | _ => false)
 | .aa k m y j => (match op with | .indexAddr t x i => (match P.underlying t with | some (.array m' e) => m' == m && P.cellsOf e == k | _ => false) && decide (0 < k) && okX x y && okX i j | _ => false)
 | .mkf f ys => (match op with | .makeFunc (.func f') first xs => f' == f && first.toList.isEmpty && okXs xs.toList ys | _ => false)
 | .mks e k by_ z x' y' => (match op with | .makeSlice t x y => isSl P t e && decide (0 < k) && elOk P e k by_ && (match zeroOf P e with | some z' => okZ z'.cells.toList z | none => false) && okX x x' && okX y y' | _ => false)
 | .slc k y lo' hi' mx' => (match op with | .slice t x lo hi mx => (match P.underlying t with | some (.slice e) => P.cellsOf e == k | _ => false) && decide (0 < k) && okX x y && okO lo lo' && okO hi hi' && okO mx mx' && (!mx.isSome || hi.isSome) | _ => false)
 | .sls y lo' hi' => (match op with | .slice t x lo hi none => isStr P t && okX x y && okO lo lo' && okO hi hi' | _ => false)
 | .rng y => (match op with | .range t x => isStr P t && okX x y | _ => false)
 | .nxt y => (match op with | .next x true => okX x y | _ => false)
 | .ext y i => (match op with | .extract x j => j == i && okX x y | _ => false)
 | .b2s y => (match op with | .convert t1 t2 x => (match P.underlying t1 with | some (.slice e) => (match P.underlying e with | some (.int .u8) => true | _ => false) | _ => false) && isStr P t2 && okX x y | _ => false)
 | .ldr y => (match op with | .load t x => decide (aggT P t = some false) && okX x y | _ => false)
 | .ldkr k y => (match op with | .load t x => decide (aggT P t = some true) && P.cellsOf t == k && decide (0 < k) && okX x y | _ => false)
 | .ldrn _ k y => (match op with | .load t x => decide (aggT P t = some false) && decide (0 < k) && okX x y | _ => false)
 | .ldkf ks y => (match op with | .load t x => decide (aggT P t = some true) && P.cellsOf t == ks.length && decide (0 < ks.length) && okX x y | _ => false)
 | .nkr y => (match op with | .nilCheck x => okX x y | _ => false)
 | .nlq ne y => (match op with | .binOp b t x (.const (.pointer none)) _ => decide (b = if ne then .neq else .eql) && (match P.underlying t with | some (.pointer _) => true | _ => false) && okX x y | _ => false)
 | .far y off => (match op with
  | .fieldAddr t x i => (match P.underlying t with | some (.struct fs) => (match fs[i]? with | some f => f.offset == off && decide (0 < P.cellsOf f.type) | none => false) | _ => false) && okX x y
  | _ => false)
 | .aar m y j => (match op with | .indexAddr t x i => (match P.underlying t with | some (.array m' e) => m' == m && P.cellsOf e == 1 | _ => false) && okX x y && okX i j | _ => false)
 | .ix1 m y j => (match op with | .index t x i => (match P.underlying t with | some (.array m' e) => m' == m && decide (aggT P e = some false) && P.cellsOf e == 1 | _ => false) && okX x y && okX i j | _ => false)
 | .exr y i => (match op with | .extract x j => j == i && okX x y | _ => false)
 | .mkr f ys => (match op with | .makeFunc (.func f') first xs => f' == f && first.toList.isEmpty && okXs xs.toList ys | _ => false)
 | .boxr e k y => (match op with | .box t x => t == e && decide (0 < k) && okX x y | _ => false)
 | .alr e k c => (match op with | .alloc t => t == e && decide (0 < k) && (match zeroOf P e with | some z => okZ z.cells.toList c | none => false) && c.length == k | _ => false)
 | .stor k x' y' => (match op with | .store t x y => P.cellsOf t == k && decide (0 < k) && okX x x' && okX y y' | _ => false)
 | .storf k x' y' => (match op with | .store t x y => P.cellsOf t == k && decide (0 < k) && okX x x' && okX y y' | _ => false)
 | .bldr z qs => (match op with
  | .build t ps => (match P.underlying t, zeroOf P t with
   | some (.struct fs), some zv => okZ zv.cells.toList z && sizesOk P fs.toList && okPs (fun i => (fs[i]?).map fun f => (f.offset, P.cellsOf f.type)) ps.toList qs
   | _, _ => false)
  | _ => false)
 | .bldrf z qs => (match op with
  | .build t ps => (match P.underlying t, zeroOf P t with
   | some (.struct fs), some zv => okZ zv.cells.toList z && sizesOk P fs.toList && okPs (fun i => (fs[i]?).map fun f => (f.offset, P.cellsOf f.type)) ps.toList qs
   | _, _ => false)
  | _ => false)
 | ao => (match op with | .call c => okBlt P c ao | _ => false)
section
variable {P : Program} {base : Nat} {w0 : World} {lm0 : L0} {N : Nat} {g : Gs} {a : Act} {w : World} {s : St} {o : Oper}
theorem ofList {α : Type} {x : Array α} {l : List α} (h : x.toList = l) : x = l.toArray := by rw [← h]
theorem Tpg (S : Sim base w0 lm0 N g a w s) {c : Go.Call} {ao : AOp} {call : Call} {d : Nat} {e : Eff} (ho : o.op = .call c) (h : okBlt P c ao = true) (he : eff call s d ao = some e) : EffOK P base w0 lm0 N g a w s o e := by
 obtain ⟨cal, args, ts⟩ := c
 unfold okBlt at h
 dsimp only at h
 split at h
 · rename_i x t y h2 h3
   rw [ofList h2, ofList h3] at ho
   simp only [Bool.and_eq_true] at h
   cases ht : P.underlying t with
   | none => rw [ht] at h; simp at h
   | some q =>
    rw [ht] at h
    cases q <;> simp at h
    exact Tva S ho ht h he
 · rename_i x t y h2 h3
   rw [ofList h2, ofList h3] at ho
   simp only [Bool.and_eq_true] at h
   exact Tr1 S ho (Tbe h.1) h.2 he
 · rename_i x y t t2 e' k by_ x' y' h2 h3
   rw [ofList h2, ofList h3] at ho
   simp only [Bool.and_eq_true, decide_eq_true_eq, beq_iff_eq] at h
   obtain ⟨⟨⟨⟨⟨rfl, q1⟩, q2⟩, q3⟩, q4⟩, q5⟩ := h
   exact Tvk S q1 ho (Tcx q2) q3 q4 q5 he
 · rename_i x y t t2 e' by_ x' y' h2 h3
   rw [ofList h2, ofList h3] at ho
   simp only [Bool.and_eq_true] at h
   obtain ⟨⟨⟨⟨q1, q2⟩, q3⟩, q4⟩, q5⟩ := h
   exact Tr6 S ho (Tcx q1) (Tbe q2) q3 q4 q5 he
 · rename_i x y t t2 k x' y' h2 h3
   rw [ofList h2, ofList h3] at ho
   simp only [Bool.and_eq_true, decide_eq_true_eq] at h
   obtain ⟨⟨⟨q1, q2⟩, q3⟩, q4⟩ := h
   cases ht : P.underlying t with
   | none => rw [ht] at q2; simp at q2
   | some q =>
    rw [ht] at q2
    cases q <;> simp at q2
    exact Tpa S q1 ho ht q2 q3 q4 he
 · rename_i x t y h2 h3
   rw [ofList h2, ofList h3] at ho
   simp only [Bool.and_eq_true] at h
   cases ht : P.underlying t with
   | none => rw [ht] at h; simp at h
   | some q =>
    rw [ht] at h
    cases q <;> simp at h
    exact Tr9 S ho ht h he
 · rename_i x y t t2 k x' y' h2 h3
   rw [ofList h2, ofList h3] at ho
   simp only [Bool.and_eq_true, decide_eq_true_eq] at h
   obtain ⟨⟨⟨q1, q2⟩, q3⟩, q4⟩ := h
   cases ht : P.underlying t with
   | none => rw [ht] at q2; simp at q2
   | some q =>
    rw [ht] at q2
    cases q <;> simp at q2
    exact Tr7 S q1 ho ht q2 q3 q4 he
 · rename_i x y t t2 k x' y' h2 h3
   rw [ofList h2, ofList h3] at ho
   simp only [Bool.and_eq_true, decide_eq_true_eq] at h
   obtain ⟨⟨⟨q1, q2⟩, q3⟩, q4⟩ := h
   cases ht : P.underlying t with
   | none => rw [ht] at q2; simp at q2
   | some q =>
    rw [ht] at q2
    cases q <;> simp at q2
    exact Tsd S q1 ho ht q2 q3 q4 he
 · exact Tud S (mx := true) (xs := args.toList) (by simpa using ho) h he
 · exact Tud S (mx := false) (xs := args.toList) (by simpa using ho) h he
 · simp at h
theorem Tsl (S : Sim base w0 lm0 N g a w s) {so : SOp} {y : X} {call : Call} {d : Nat} {e : Eff} (h : okS1 P o.op so y = true) (he : eff call s d (.s1 so y) = some e) : EffOK P base w0 lm0 N g a w s o e := by
 simp only [eff] at he
 split at he
 · rename_i z hv
   cases hr : sop1 so z with
   | none => rw [hr] at he; simp [uns] at he
   | some r =>
    rw [hr] at he
    simp only [uns, oIE] at he
    subst he
    unfold okS1 at h
    split at h
    · rename_i u u' t x ho
      simp only [Bool.and_eq_true, decide_eq_true_eq] at h
      exact Txm S ho h.1 h.2 hv hr
    · rename_i k t1 t2 x ho
      simp only [Bool.and_eq_true] at h
      obtain ⟨⟨q1, q2⟩, q3⟩ := h
      obtain ⟨d1, hd1⟩ := Option.isSome_iff_exists.1 q1
      cases ht : P.underlying t2 with
      | none => rw [ht] at q2; simp at q2
      | some q =>
       rw [ht] at q2
       cases q <;> simp at q2
       subst q2
       exact Txn S ho hd1 ht q3 hv hr
    · rename_i t1 t2 x ho
      simp only [Bool.and_eq_true] at h
      obtain ⟨⟨q1, q2⟩, q3⟩ := h
      obtain ⟨d1, hd1⟩ := Option.isSome_iff_exists.1 q1
      exact Tu3 S ho hd1 (Tbe q2) q3 hv hr
    · rename_i t1 t2 x ho
      simp only [Bool.and_eq_true] at h
      obtain ⟨⟨q1, q2⟩, q3⟩ := h
      obtain ⟨d1, hd1⟩ := Option.isSome_iff_exists.1 q1
      exact Tu4 S ho hd1 (Tbe q2) q3 hv hr
    · simp at h
 · simp at he
theorem Tsm (S : Sim base w0 lm0 N g a w s) {so : SOp} {y1 y2 : X} {call : Call} {d : Nat} {e : Eff} (h : okS2 P o.op so y1 y2 = true) (he : eff call s d (.s2 so y1 y2) = some e) : EffOK P base w0 lm0 N g a w s o e := by
 have plain : (∀ ne, so ≠ .peq ne) → ∃ z1 z2 r, y1.ev s = some (.p z1) ∧ y2.ev s = some (.p z2) ∧ sop2 so z1 z2 = some r ∧ e = ⟨.p r, []⟩ := by
  intro hne
  simp only [eff] at he
  split at he
  · rename_i z1 z2 hv1 hv2
    cases hr : sop2 so z1 z2 with
    | none => rw [hr] at he; simp [uns] at he
    | some r =>
     rw [hr] at he
     simp only [uns, oIE] at he
     exact ⟨z1, z2, r, hv1, hv2, hr, he.symm⟩
  · exfalso
    cases so <;> first | (simp at he; done) | exact hne _ rfl
  · simp at he
 unfold okS2 at h
 split at h
 · rename_i b b' t x1 x2 ty ho
   simp only [Bool.and_eq_true, decide_eq_true_eq] at h
   obtain ⟨⟨rfl, q2⟩, q3⟩ := h
   obtain ⟨z1, z2, r, hv1, hv2, hr, rfl⟩ := plain (by simp)
   exact Tu5 S ho q2 q3 hv1 hv2 hr
 · rename_i t x1 x2 ho
   simp only [Bool.and_eq_true] at h
   obtain ⟨⟨q1, q2⟩, q3⟩ := h
   obtain ⟨z1, z2, r, hv1, hv2, hr, rfl⟩ := plain (by simp)
   exact Tu6 S ho (Tbe q1) q2 q3 hv1 hv2 hr
 · rename_i ne b t x1 x2 ty ho
   simp only [Bool.and_eq_true, decide_eq_true_eq] at h
   obtain ⟨⟨⟨q0, q1⟩, q2⟩, q3⟩ := h
   obtain ⟨z1, z2, r, hv1, hv2, hr, rfl⟩ := plain (by simp)
   cases ht : P.underlying t with
   | none => rw [ht] at q1; simp at q1
   | some q =>
    rw [ht] at q1
    cases q <;> simp at q1
    exact Tu7 S q0 ho ht q2 q3 hv1 hv2 hr
 · rename_i ne b t x1 x2 ty ho
   simp only [Bool.and_eq_true, decide_eq_true_eq] at h
   obtain ⟨⟨⟨q0, q1⟩, q2⟩, q3⟩ := h
   cases ht : P.underlying t with
   | none => rw [ht] at q1; simp at q1
   | some q =>
    rw [ht] at q1
    cases q <;> simp at q1
    exact Tu8 S q0 ho ht q2 q3 he
 · simp at h
theorem Tie {k : Nat} {l : List (List PV)} (h : (l.all fun c => c.length == k) = true) : ∀ c ∈ l, c.length = k := by
 intro c hc
 have := List.all_eq_true.1 h c hc
 simpa using this
theorem Tph (S : Sim base w0 lm0 N g a w s) {ao : AOp} {call : Call} {d : Nat} {e : Eff} (h : okA P o.op ao = true) (he : eff call s d ao = some e) : EffOK P base w0 lm0 N g a w s o e := by
 cases ao
 case mv y =>
  simp only [eff] at he
  cases hv : y.ev s with
  | none => rw [hv] at he; simp at he
  | some v =>
   rw [hv] at he
   simp only [oIE] at he
   subst he
   simp only [okA] at h
   split at h
   · rename_i x ho; exact Tua S (.inl ho) h hv
   · rename_i x ho; exact Tua S (.inr ho) h hv
   · simp at h
 case nl e' k =>
  simp only [okA, Bool.and_eq_true, decide_eq_true_eq] at h
  obtain ⟨h0, h⟩ := h
  split at h
  · rename_i ho; exact Tue S h0 (.inl ho) he
  · rename_i ho; exact Tue S h0 (.inr ho) he
  · simp at h
 case pick c' a' b' =>
  simp only [okA] at h
  split at h
  · rename_i c x y ho
    simp only [Bool.and_eq_true] at h
    obtain ⟨⟨q1, q2⟩, q3⟩ := h
    simp only [eff] at he
    split at he
    · rename_i b v1 v2 h1 h2 h3
      simp only [oIE] at he
      subst he
      exact Try S ho q1 q2 q3 h1 h2 h3
    · simp at he
  · simp at h
 case box e' k y =>
  simp only [okA] at h
  split at h
  · rename_i t x ho
    simp only [Bool.and_eq_true, decide_eq_true_eq, beq_iff_eq] at h
    obtain ⟨⟨rfl, q2⟩, q3⟩ := h
    exact To4 S q2 ho q3 he
  · simp at h
 case alloc e' k rows =>
  simp only [okA] at h
  split at h
  · rename_i t ho
    simp only [Bool.and_eq_true, decide_eq_true_eq, beq_iff_eq] at h
    obtain ⟨⟨⟨⟨rfl, q2⟩, q3⟩, q4⟩, q5⟩ := h
    cases hz : zeroOf P t with
    | none => rw [hz] at q3; simp at q3
    | some z =>
     rw [hz] at q3
     exact Tjl S q2 ho hz q3 (Tie q4) (by simp only [maxLen]; omega) he
  · simp at h
 case boxp e' k y =>
  simp only [okA] at h
  split at h
  · rename_i t x ho
    simp only [Bool.and_eq_true, decide_eq_true_eq, beq_iff_eq] at h
    obtain ⟨⟨rfl, q2⟩, q3⟩ := h
    exact Tr3 S q2 ho q3 he
  · simp at h
 case alcp e' k rows =>
  simp only [okA] at h
  split at h
  · rename_i t ho
    simp only [Bool.and_eq_true, decide_eq_true_eq, beq_iff_eq] at h
    obtain ⟨⟨⟨rfl, q2⟩, q3⟩, q4⟩ := h
    cases hz : zeroOf P t with
    | none => rw [hz] at q3; simp at q3
    | some z =>
     rw [hz] at q3
     exact Tr4 S q2 ho hz q3 (Tie q4) he
  · simp at h
 case bld z qs =>
  simp only [okA] at h
  split at h
  · rename_i t ps ho
    split at h
    · rename_i fs zv ht hz
      simp only [Bool.and_eq_true] at h
      obtain ⟨⟨q1, q2⟩, q3⟩ := h
      exact Tdy S ho ht hz q1 q2 q3 he
    · simp at h
  · simp at h
 case bldp z qs =>
  have he' : eff call s d (.bld z qs) = some e := by
   simp only [eff] at he ⊢
   cases hv0 : evp s (qs.map fun q => q.2.2) with
   | none => rw [hv0] at he; simp at he
   | some ys =>
    rw [hv0] at he
    dsimp only at he
    obtain ⟨q1, q2⟩ := Tku hv0
    rw [q1]
    dsimp only
    rw [q2 s.h]
    exact he
  simp only [okA] at h
  split at h
  · rename_i t ps ho
    split at h
    · rename_i fs zv ht hz
      simp only [Bool.and_eq_true] at h
      obtain ⟨⟨q1, q2⟩, q3⟩ := h
      exact Tdy S ho ht hz q1 q2 q3 he'
    · simp at h
  · simp at h
 case bsl el k z qs =>
  simp only [okA] at h
  split at h
  · rename_i t n ps ho
    simp only [Bool.and_eq_true, decide_eq_true_eq, beq_iff_eq, Bool.or_eq_true] at h
    obtain ⟨⟨⟨⟨⟨⟨⟨⟨q1, q2⟩, q3⟩, q4⟩, q5⟩, q6⟩, q7⟩, q8⟩, q9⟩ := h
    exact Tvi S q2 ho (Tcx q1) q3 q4 (Tie q5) rfl q7 q8 q6 q9 he
  · simp at h
 case bslp el k z qs =>
  simp only [okA] at h
  split at h
  · rename_i t n ps ho
    simp only [Bool.and_eq_true, decide_eq_true_eq, beq_iff_eq, Bool.or_eq_true] at h
    obtain ⟨⟨⟨⟨⟨⟨⟨⟨q1, q2⟩, q3⟩, q4⟩, q5⟩, q6⟩, q7⟩, q8⟩, q9⟩ := h
    exact Tr5 S q2 ho (Tcx q1) q3 q4 (Tie q5) rfl q7 q8 q6 q9 he
  · simp at h
 case iad k y j =>
  simp only [okA] at h
  split at h
  · rename_i t x i ho
    simp only [Bool.and_eq_true, decide_eq_true_eq] at h
    obtain ⟨⟨⟨q1, q2⟩, q3⟩, q4⟩ := h
    split at q1
    · rename_i e' ht
      exact Tvp S ho ht (by simpa using q1) q2 q3 q4 he
    · simp at q1
  · simp at h
 case fad y off =>
  simp only [okA] at h
  split at h
  · rename_i t x i ho
    simp only [Bool.and_eq_true] at h
    obtain ⟨q1, q2⟩ := h
    split at q1
    · rename_i fs ht
      split at q1
      · rename_i f hf
        simp only [Bool.and_eq_true, decide_eq_true_eq, beq_iff_eq] at q1
        exact Tvo S ho ht hf q1.1 q1.2 q2 he
      · simp at q1
    · simp at q1
  · simp at h
 case ld1d y =>
  simp only [okA] at h
  split at h
  · rename_i t x ho
    simp only [Bool.and_eq_true, decide_eq_true_eq] at h
    exact Tr8 S ho h.1 h.2 he
  · simp at h
 case ld1o y =>
  simp only [okA] at h
  split at h
  · rename_i t x ho
    simp only [Bool.and_eq_true, decide_eq_true_eq] at h
    exact Tsa S ho h.1 h.2 he
  · simp at h
 case sto1o x' y' =>
  simp only [okA] at h
  split at h
  · rename_i t x y ho
    simp only [Bool.and_eq_true, beq_iff_eq] at h
    exact Tpc S ho h.1.1 h.1.2 h.2 he
  · simp at h
 case stod x' y' =>
  simp only [okA] at h
  split at h
  · rename_i t x y ho
    simp only [Bool.and_eq_true, beq_iff_eq] at h
    exact Tsb S ho h.1.1 h.1.2 h.2 he
  · simp at h
 case sbn T e1 =>
  simp only [okA] at h
  split at h
  · rename_i t ho
    simp only [Bool.and_eq_true, beq_iff_eq] at h
    obtain ⟨rfl, h2⟩ := h
    cases hz : zeroOf P t with
    | none => rw [hz] at h2; simp at h2
    | some z =>
     rw [hz] at h2
     dsimp only at h2
     split at h2
     · rename_i hzc
       exact Tvq S ho hz (by apply Array.ext'; rw [hzc]) he
     · simp at h2
  · simp at h
 case mvs y z =>
  simp only [okA] at h
  split at h
  · rename_i x ho; exact Tpb S (.inl ho) h he
  · rename_i x ho; exact Tpb S (.inr ho) h he
  · simp at h
 case iap k y j =>
  have he' : eff call s d (.ia k y j) = some e := by
   simp only [eff] at he ⊢
   split at he
   · rename_i h1 h2; rw [h1, h2]; exact he
   · simp at he
  simp only [okA] at h
  split at h
  · rename_i t x i ho
    simp only [Bool.and_eq_true, decide_eq_true_eq] at h
    obtain ⟨⟨⟨q1, q2⟩, q3⟩, q4⟩ := h
    split at q1
    · rename_i e' ht
      exact Tuc S ho ht (by simpa using q1) q2 q3 q4 he'
    · simp at q1
  · simp at h
 case ldp1 y =>
  have he' : eff call s d (.ld1 y) = some e := by
   simp only [eff] at he ⊢
   split at he
   · rename_i h1; rw [h1]; exact he
   · simp at he
  simp only [okA] at h
  split at h
  · rename_i t x ho
    simp only [Bool.and_eq_true, decide_eq_true_eq] at h
    exact Toy S ho h.1 h.2 he'
  · simp at h
 case ldpk k y =>
  have he' : eff call s d (.ldk k y) = some e := by
   simp only [eff] at he ⊢
   split at he
   · rename_i h1; rw [h1]; exact he
   · simp at he
  simp only [okA] at h
  split at h
  · rename_i t x ho
    simp only [Bool.and_eq_true, decide_eq_true_eq, beq_iff_eq] at h
    obtain ⟨⟨⟨q1, q2⟩, q3⟩, q4⟩ := h
    exact Toz S ho q1 q2 q3 q4 he'
  · simp at h
 case mvp y =>
  simp only [eff] at he
  cases hv : y.ev s with
  | none => rw [hv] at he; simp at he
  | some v =>
   rw [hv] at he
   dsimp only at he
   cases hf : frz s.h v with
   | none => rw [hf] at he; simp at he
   | some q =>
    obtain ⟨z, fr⟩ := q
    rw [hf] at he
    simp only [oIE] at he
    subst he
    simp only [okA] at h
    split at h
    · rename_i x ho
      exact EffOK.frz S (Taf S h hv) hf (u := a.eval x) (by simp [execOp, ho]) (fun lm' h => h)
    · rename_i x ho
      exact EffOK.frz S (Taf S h hv) hf (u := a.eval x) (by simp [execOp, ho]) (fun lm' h => h)
    · simp at h
 case ld1 y =>
  simp only [okA] at h
  split at h
  · rename_i t x ho
    simp only [Bool.and_eq_true, decide_eq_true_eq] at h
    exact Toy S ho h.1 h.2 he
  · simp at h
 case ldk k y =>
  simp only [okA] at h
  split at h
  · rename_i t x ho
    simp only [Bool.and_eq_true, decide_eq_true_eq, beq_iff_eq] at h
    obtain ⟨⟨⟨q1, q2⟩, q3⟩, q4⟩ := h
    exact Toz S ho q1 q2 q3 q4 he
  · simp at h
 case sto k x' y' =>
  simp only [okA] at h
  split at h
  · rename_i t x y ho
    simp only [Bool.and_eq_true, decide_eq_true_eq, beq_iff_eq] at h
    obtain ⟨⟨⟨q1, q2⟩, q3⟩, q4⟩ := h
    exact Tvj S q2 ho q1 q3 q4 he
  · simp at h
 case s1 so y => exact Tsl S h he
 case s2 so y1 y2 => exact Tsm S h he
 case eqst ne ks y1 y2 =>
  simp only [okA] at h
  split at h
  · rename_i b t x1 x2 ty ho
    simp only [Bool.and_eq_true, decide_eq_true_eq, Bool.not_eq_true'] at h
    obtain ⟨⟨⟨⟨⟨q1, q2⟩, q3⟩, q4⟩, q5⟩, q6⟩ := h
    cases ht : P.underlying t with
    | none => rw [ht] at q2; simp at q2
    | some q =>
     rw [ht] at q2
     cases q <;> simp at q2
     exact Tr2 S q1 ho ht q2 q3 q4 q5 q6 he
  · simp at h
 case nck y =>
  simp only [okA] at h
  split at h
  · rename_i x ho; exact Tvd S ho h he
  · simp at h
 case mki t y =>
  simp only [okA] at h
  split at h
  · rename_i t' x ho
    simp only [Bool.and_eq_true, beq_iff_eq] at h
    obtain ⟨⟨rfl, q2⟩, q3⟩ := h
    cases ht : P.underlying t' with
    | none => rw [ht] at q2; simp at q2
    | some q =>
     rw [ht] at q2
     exact Tvf S ho ht (fun ms hms => by rw [hms] at q2; simp at q2) q3 he
  · simp at h
 case fld1 y off =>
  simp only [okA] at h
  split at h
  · rename_i t x i ho
    simp only [Bool.and_eq_true] at h
    obtain ⟨q1, q2⟩ := h
    split at q1
    · rename_i fs ht
      split at q1
      · rename_i f hf
        simp only [Bool.and_eq_true, decide_eq_true_eq, beq_iff_eq] at q1
        exact Trz S ho ht hf q1.1 q1.2 q2 he
      · simp at q1
    · simp at q1
  · simp at h
 case ixa k m y j =>
  simp only [okA] at h
  split at h
  · rename_i t x i ho
    simp only [Bool.and_eq_true, decide_eq_true_eq] at h
    obtain ⟨⟨⟨q1, q2⟩, q3⟩, q4⟩ := h
    split at q1
    · rename_i m' e' ht
      simp only [Bool.and_eq_true, decide_eq_true_eq, beq_iff_eq] at q1
      obtain ⟨⟨rfl, p2⟩, p3⟩ := q1
      exact Tu9 S ho ht p2 p3 q2 q3 q4 he
    · simp at q1
  · simp at h
 case fldk y off k =>
  simp only [okA] at h
  split at h
  · rename_i t x i ho
    simp only [Bool.and_eq_true] at h
    obtain ⟨q1, q2⟩ := h
    split at q1
    · rename_i fs ht
      split at q1
      · rename_i f hf
        simp only [Bool.and_eq_true, decide_eq_true_eq, beq_iff_eq] at q1
        obtain ⟨⟨⟨p1, p2⟩, p3⟩, p4⟩ := q1
        exact Tr0 S ho ht hf p1 p2 p3 p4 q2 he
      · simp at q1
    · simp at q1
  · simp at h
 case fa y off =>
  simp only [okA] at h
  split at h
  · rename_i t x i ho
    simp only [Bool.and_eq_true] at h
    obtain ⟨q1, q2⟩ := h
    split at q1
    · rename_i fs ht
      split at q1
      · rename_i f hf
        simp only [Bool.and_eq_true, decide_eq_true_eq, beq_iff_eq] at q1
        exact Txo S ho ht hf q1.1 q1.2 q2 he
      · simp at q1
    · simp at q1
  · simp at h
 case ia k y j =>
  simp only [okA] at h
  split at h
  · rename_i t x i ho
    simp only [Bool.and_eq_true, decide_eq_true_eq] at h
    obtain ⟨⟨⟨q1, q2⟩, q3⟩, q4⟩ := h
    split at q1
    · rename_i e' ht
      exact Tuc S ho ht (by simpa using q1) q2 q3 q4 he
    · simp at q1
  · simp at h
 case aa k m y j =>
  simp only [okA] at h
  split at h
  · rename_i t x i ho
    simp only [Bool.and_eq_true, decide_eq_true_eq] at h
    obtain ⟨⟨⟨q1, q2⟩, q3⟩, q4⟩ := h
    split at q1
    · rename_i m' e' ht
      simp only [Bool.and_eq_true, beq_iff_eq] at q1
      obtain ⟨rfl, q5⟩ := q1
      exact Txp S ho ht q5 q2 q3 q4 he
    · simp at q1
  · simp at h
 case mkf f ys =>
  simp only [okA] at h
  split at h
  · rename_i f' first xs ho
    simp only [Bool.and_eq_true, beq_iff_eq] at h
    obtain ⟨⟨rfl, q2⟩, q3⟩ := h
    have : first = #[] := by simpa using q2
    subst this
    exact Tve S (xs := xs.toList) (by simpa using ho) q3 he
  · simp at h
 case mks e' k by_ z x' y' =>
  simp only [okA] at h
  split at h
  · rename_i t x y ho
    simp only [Bool.and_eq_true, decide_eq_true_eq] at h
    obtain ⟨⟨⟨⟨⟨q1, q2⟩, q3⟩, q4⟩, q5⟩, q6⟩ := h
    cases hz : zeroOf P e' with
    | none => rw [hz] at q4; simp at q4
    | some zv =>
     rw [hz] at q4
     exact Tvl S q2 ho (Tcx q1) q3 hz q4 q5 q6 he
  · simp at h
 case slc k y lo' hi' mx' =>
  simp only [okA] at h
  split at h
  · rename_i t x lo hi mx ho
    simp only [Bool.and_eq_true, decide_eq_true_eq] at h
    obtain ⟨⟨⟨⟨⟨⟨q1, q2⟩, q3⟩, q4⟩, q5⟩, q6⟩, q7⟩ := h
    split at q1
    · rename_i e' ht
      exact Tvc S ho ht (by simpa using q1) q2 q3 q4 q5 q6 (fun hm => by rw [hm] at q7; simpa using q7) he
    · simp at q1
  · simp at h
 case sls y lo' hi' =>
  simp only [okA] at h
  split at h
  · rename_i t x lo hi ho
    simp only [Bool.and_eq_true] at h
    obtain ⟨⟨⟨q1, q2⟩, q3⟩, q4⟩ := h
    exact Tvb S ho (Tbe q1) q2 q3 q4 he
  · simp at h
 case rng y =>
  simp only [okA] at h
  split at h
  · rename_i t x ho
    simp only [Bool.and_eq_true] at h
    exact Tvm S ho (Tbe h.1) h.2 he
  · simp at h
 case nxt y =>
  simp only [okA] at h
  split at h
  · rename_i x ho; exact Tvn S ho h he
  · simp at h
 case ext y i =>
  simp only [okA] at h
  split at h
  · rename_i x j ho
    simp only [Bool.and_eq_true, beq_iff_eq] at h
    obtain ⟨rfl, q2⟩ := h
    exact To0 S ho q2 he
  · simp at h
 case b2s y =>
  simp only [okA] at h
  split at h
  · rename_i t1 t2 x ho
    simp only [Bool.and_eq_true] at h
    obtain ⟨⟨q1, q2⟩, q3⟩ := h
    split at q1
    · rename_i e' ht
      split at q1
      · rename_i hu; exact Tvh S ho ht (Tbe q2) hu q3 he
      · simp at q1
    · simp at q1
  · simp at h
 case ldr y =>
  simp only [okA] at h
  split at h
  · rename_i t x ho
    simp only [Bool.and_eq_true, decide_eq_true_eq] at h
    exact Tvr S ho h.1 h.2 he
  · simp at h
 case ldkr k y =>
  simp only [okA] at h
  split at h
  · rename_i t x ho
    simp only [Bool.and_eq_true, decide_eq_true_eq, beq_iff_eq] at h
    obtain ⟨⟨⟨q1, q2⟩, q3⟩, q4⟩ := h
    exact Tsf S ho q1 q2 q3 q4 he
  · simp at h
 case ldrn e1 k y =>
  simp only [okA] at h
  split at h
  · rename_i t x ho
    simp only [Bool.and_eq_true, decide_eq_true_eq] at h
    exact Tsg S h.1.2 ho h.1.1 h.2 he
  · simp at h
 case ldkf ks y =>
  simp only [okA] at h
  split at h
  · rename_i t x ho
    simp only [Bool.and_eq_true, decide_eq_true_eq, beq_iff_eq] at h
    obtain ⟨⟨⟨q1, q2⟩, q3⟩, q4⟩ := h
    exact Tsh S ho q1 q2 q3 q4 he
  · simp at h
 case nkr y =>
  simp only [okA] at h
  split at h
  · rename_i x ho; exact Tvs S ho h he
  · simp at h
 case nlq ne y =>
  simp only [okA] at h
  split at h
  · rename_i b t x ty ho
    simp only [Bool.and_eq_true, decide_eq_true_eq] at h
    obtain ⟨⟨q1, q2⟩, q3⟩ := h
    cases ht : P.underlying t with
    | none => rw [ht] at q2; simp at q2
    | some q =>
     rw [ht] at q2
     cases q <;> simp at q2
     exact Tvt S q1 ho ht q3 he
  · simp at h
 case far y off =>
  simp only [okA] at h
  split at h
  · rename_i t x i ho
    simp only [Bool.and_eq_true] at h
    obtain ⟨q1, q2⟩ := h
    split at q1
    · rename_i fs ht
      split at q1
      · rename_i f hf
        simp only [Bool.and_eq_true, decide_eq_true_eq, beq_iff_eq] at q1
        exact Tvu S ho ht hf q1.1 q1.2 q2 he
      · simp at q1
    · simp at q1
  · simp at h
 case aar m y j =>
  simp only [okA] at h
  split at h
  · rename_i t x i ho
    simp only [Bool.and_eq_true] at h
    obtain ⟨⟨q1, q2⟩, q3⟩ := h
    split at q1
    · rename_i m' e' ht
      simp only [Bool.and_eq_true, beq_iff_eq] at q1
      obtain ⟨rfl, q5⟩ := q1
      exact Tvv S ho ht q5 q2 q3 he
    · simp at q1
  · simp at h
 case ix1 m y j =>
  simp only [okA] at h
  split at h
  · rename_i t x i ho
    simp only [Bool.and_eq_true] at h
    obtain ⟨⟨q1, q2⟩, q3⟩ := h
    split at q1
    · rename_i m' e' ht
      simp only [Bool.and_eq_true, decide_eq_true_eq, beq_iff_eq] at q1
      obtain ⟨⟨rfl, p2⟩, p3⟩ := q1
      exact Tvw S ho ht p2 p3 q2 q3 he
    · simp at q1
  · simp at h
 case exr y i =>
  simp only [okA] at h
  split at h
  · rename_i x j ho
    simp only [Bool.and_eq_true, beq_iff_eq] at h
    obtain ⟨rfl, q2⟩ := h
    exact Tvx S ho q2 he
  · simp at h
 case mkr f ys =>
  simp only [okA] at h
  split at h
  · rename_i f' first xs ho
    simp only [Bool.and_eq_true, beq_iff_eq] at h
    obtain ⟨⟨rfl, q2⟩, q3⟩ := h
    have : first = #[] := by simpa using q2
    subst this
    exact Tvy S (xs := xs.toList) (by simpa using ho) q3 he
  · simp at h
 case boxr e' k y =>
  simp only [okA] at h
  split at h
  · rename_i t x ho
    simp only [Bool.and_eq_true, decide_eq_true_eq, beq_iff_eq] at h
    obtain ⟨⟨rfl, q2⟩, q3⟩ := h
    exact Tsi S q2 ho q3 he
  · simp at h
 case alr e' k c =>
  simp only [okA] at h
  split at h
  · rename_i t ho
    simp only [Bool.and_eq_true, decide_eq_true_eq, beq_iff_eq] at h
    obtain ⟨⟨⟨rfl, q2⟩, q3⟩, q4⟩ := h
    cases hz : zeroOf P t with
    | none => rw [hz] at q3; simp at q3
    | some z =>
     rw [hz] at q3
     exact Tvz S q2 ho hz q3 q4 he
  · simp at h
 case stor k x' y' =>
  simp only [okA] at h
  split at h
  · rename_i t x y ho
    simp only [Bool.and_eq_true, decide_eq_true_eq, beq_iff_eq] at h
    obtain ⟨⟨⟨q1, q2⟩, q3⟩, q4⟩ := h
    exact Tsj S q2 ho q1 q3 q4 he
  · simp at h
 case storf k x' y' =>
  simp only [okA] at h
  split at h
  · rename_i t x y ho
    simp only [Bool.and_eq_true, decide_eq_true_eq, beq_iff_eq] at h
    obtain ⟨⟨⟨q1, q2⟩, q3⟩, q4⟩ := h
    exact Tpe S q2 ho q1 q3 q4 he
  · simp at h
 case bldr z qs =>
  simp only [okA] at h
  split at h
  · rename_i t ps ho
    split at h
    · rename_i fs zv ht hz
      simp only [Bool.and_eq_true] at h
      obtain ⟨⟨q1, q2⟩, q3⟩ := h
      exact Tsk S ho ht hz q1 q2 q3 he
    · simp at h
  · simp at h
 case bldrf z qs =>
  simp only [okA] at h
  split at h
  · rename_i t ps ho
    split at h
    · rename_i fs zv ht hz
      simp only [Bool.and_eq_true] at h
      obtain ⟨⟨q1, q2⟩, q3⟩ := h
      exact Tpf S ho ht hz q1 q2 q3 he
    · simp at h
  · simp at h
 all_goals
  simp only [okA] at h
  split at h
  · rename_i c ho; exact Tpg S ho h he
  · simp at h
end
end Go.Proofs.YtjpibniecllafaaGreat.AM
end
