/- The small machine's operations that read, each against Go's. No condition. -/
import Derived.Test.YtihgpnfkadldeaaAM4
namespace Go.Proofs.Ytihgpnfkadldeaa.AM
open Go Go.RowKit
set_option linter.unusedVariables false
set_option linter.unusedSimpArgs false

def okC : Value → SV → Bool
  | .int k n, .p (.sc (.int k' n')) => decide (k = k') && decide (n = n')
  | .bool b, .p (.sc (.bool b')) => b == b'
  | .string s, .p (.sc (.string s')) => s.data.toList == s'.data.toList
  | .pointer none, .p (.sc (.pointer none)) => true
  | .nilFunc, .p (.sc .nilFunc) => true
  | .slice none 0 0, .xs k [] => decide (0 < k)
  | _, _ => false
def okX : Operand → X → Bool
  | .tmp n, .t m => n == m
  | .func f, .f g => f == g
  | .const v, .c s => okC v s
  | _, _ => false
def okXs : List Operand → List X → Bool
  | [], [] => true
  | x :: xs, y :: ys => okX x y && okXs xs ys
  | _, _ => false

/-- An operation against Go's, at one state. -/
def EffOK (P : Program) (base : Nat) (w0 : World) (lm0 : Nat → Nat) (N : Nat) (g : Gs) (a : Act) (w : World) (s : St) (o : Oper) (e : Eff) : Prop :=
  ∃ u w' g', ((execOp a.eval o).run P w = .ok (.value u) w' ∨ ((execOp a.eval o).run P w = .ok .skip w' ∧ u = undef)) ∧
    Sim base w0 lm0 N g' a w' ⟨s.t, putAll s.h e.hs⟩ ∧ SRep w' g' (get (putAll s.h e.hs)) e.v u

theorem add_n (b o n : Nat) : (⟨b, o, none⟩ : Addr).add n = ⟨b, o + n, none⟩ := by unfold Addr.add; split <;> simp_all

section
variable {P : Program} {base : Nat} {w0 : World} {lm0 : Nat → Nat} {N : Nat} {g : Gs} {a : Act} {w : World} {s : St} {o : Oper}

theorem okC_sound {u : Value} {v : SV} (h : okC u v = true) : SRep w g (get s.h) v u := by
  unfold okC at h
  split at h
  · simp at h; obtain ⟨rfl, rfl⟩ := h; exact .sc _
  · simp at h; subst h; exact .sc _
  · rename_i s1 s2
    have : s1 = s2 := by
      obtain ⟨⟨x⟩⟩ := s1; obtain ⟨⟨y⟩⟩ := s2
      simp at h; subst h; rfl
    subst this; exact .sc _
  · exact .sc _
  · exact .sc _
  · exact ⟨none, rfl, by simpa using h, by simp, .inl rfl⟩
  · simp at h

theorem okX_sound (S : Sim base w0 lm0 N g a w s) {x : Operand} {y : X} (h : okX x y = true) {v : SV} (hv : y.ev s = some v) : SRep w g (get s.h) v (a.eval x) := by
  cases x <;> cases y <;> simp only [okX] at h <;> first | (simp at h; done) | skip
  · simp at h
    subst h
    obtain ⟨u, h1, h2⟩ := S.tm _ _ hv
    simp only [Act.eval]
    rw [Array.getD_eq_getD_getElem?, h1]
    exact h2
  · rename_i u v0
    have : v0 = v := by
      cases v0 <;> simp only [X.ev] at hv <;> first | exact Option.some.inj hv | (simp at hv)
    subst this
    exact okC_sound h
  · simp at h
    subst h
    obtain rfl := Option.some.inj hv
    exact Rep.fn .nil

theorem okXs_sound (S : Sim base w0 lm0 N g a w s) : ∀ {xs : List Operand} {ys : List X} {vs : List SV}, okXs xs ys = true → evs s ys = some vs → SRepL w g (get s.h) vs (xs.map a.eval)
  | [], [], vs, h, hv => by simp only [evs, Option.some.injEq] at hv; subst hv; exact .nil
  | x :: xs, y :: ys, vs, h, hv => by
    simp only [okXs, Bool.and_eq_true] at h
    simp only [evs] at hv
    cases h1 : y.ev s with
    | none => rw [h1] at hv; simp at hv
    | some v =>
      rw [h1] at hv; dsimp only at hv
      cases h2 : evs s ys with
      | none => rw [h2] at hv; simp at hv
      | some vs' =>
        rw [h2] at hv
        obtain rfl := Option.some.inj hv
        exact .cons (okX_sound S h.1 h1) (okXs_sound S h.2 h2)
  | [], _ :: _, _, h, _ => by simp [okXs] at h
  | _ :: _, [], _, h, _ => by simp [okXs] at h

theorem EffOK.pure (S : Sim base w0 lm0 N g a w s) {u : Value} {v : SV} (hrun : (execOp a.eval o).run P w = .ok (.value u) w) (hr : SRep w g (get s.h) v u) : EffOK P base w0 lm0 N g a w s o ⟨v, []⟩ :=
  ⟨u, w, g, .inl hrun, S, hr⟩

theorem EffOK.frzs (S : Sim base w0 lm0 N g a w s) {vs : List SV} {us : List Value} (hr : SRepL w g (get s.h) vs us) {xs : List PV} {fr : List (Nat × Ob)} (he : frzs s.h vs = some (xs, fr)) {u : Value} {x : PV}
    (hrun : (execOp a.eval o).run P w = .ok (.value u) w) (hx : ∀ lm', RepL w lm' xs us → Rep w lm' x u) : EffOK P base w0 lm0 N g a w s o ⟨.p x, fr⟩ := by
  obtain ⟨lm', S', r', T', _⟩ := frzs_sim S (fun d => Fz.refl _) hr he
  exact ⟨u, w, ⟨lm', g.v⟩, .inl hrun, S', hx lm' r'⟩

/-- Of one value. -/
theorem EffOK.frz (S : Sim base w0 lm0 N g a w s) {v : SV} {u0 : Value} (hr : SRep w g (get s.h) v u0) {y : PV} {fr : List (Nat × Ob)} (he : frz s.h v = some (y, fr)) {u : Value} {x : PV}
    (hrun : (execOp a.eval o).run P w = .ok (.value u) w) (hx : ∀ lm', Rep w lm' y u0 → Rep w lm' x u) : EffOK P base w0 lm0 N g a w s o ⟨.p x, fr⟩ := by
  obtain ⟨lm', S', r', T', _⟩ := frz_sim S (fun d => Fz.refl _) hr he
  exact ⟨u, w, ⟨lm', g.v⟩, .inl hrun, S', hx lm' r'⟩

/-! ### moves, picks -/
theorem eff_mv (S : Sim base w0 lm0 N g a w s) {x : Operand} {y : X} {v : SV} (ho : o.op = .move x ∨ o.op = .assign x) (hx : okX x y = true) (hv : y.ev s = some v) : EffOK P base w0 lm0 N g a w s o ⟨v, []⟩ := by
  refine EffOK.pure S (u := a.eval x) ?_ (okX_sound S hx hv)
  rcases ho with ho | ho <;> simp [execOp, ho]

theorem rep_bool {lm : Nat → Nat} {b : Bool} {u : Value} (h : Rep w lm (.sc (.bool b)) u) : u = .bool b := by cases h; rfl
theorem rep_pt {lm : Nat → Nat} {l : List PV} {u : Value} (h : Rep w lm (.pt l) u) : ∃ b o vs, u = .pointer (some ⟨b, o, none⟩) ∧ RepL w lm l vs ∧ Mem w lm b o vs := by cases h with | pt a m => exact ⟨_, _, _, rfl, a, m⟩
theorem rep_st {lm : Nat → Nat} {l : List PV} {u : Value} (h : Rep w lm (.st l) u) : ∃ vs : List Value, u = .agg vs.toArray ∧ RepL w lm l vs ∧ ∀ u ∈ vs, u.oneCell' = true := by cases h with | st a o => exact ⟨_, rfl, a, o⟩
theorem rep_tu {lm : Nat → Nat} {l : List PV} {u : Value} (h : Rep w lm (.tu l) u) : ∃ vs : List Value, u = .tuple vs.toArray ∧ RepL w lm l vs := by cases h with | tu a => exact ⟨_, rfl, a⟩
theorem rep_fn {lm : Nat → Nat} {f : FuncId} {l : List PV} {u : Value} (h : Rep w lm (.fn f l) u) : ∃ vs : List Value, u = .func (.func f) #[] vs.toArray ∧ RepL w lm l vs := by cases h with | fn a => exact ⟨_, rfl, a⟩
theorem rep_ifc {lm : Nat → Nat} {t : TypeId} {x : PV} {u : Value} (h : Rep w lm (.ifc t x) u) : ∃ v : Value, u = .iface t v ∧ Rep w lm x v := by cases h with | ifc a => exact ⟨_, rfl, a⟩
theorem rep_sl {lm : Nat → Nat} {k : Nat} {l : List (List PV)} {u : Value} (h : Rep w lm (.sl k l) u) : ∃ a cap, u = .slice a l.length cap ∧ l.length ≤ cap ∧ (l = [] ∨ (0 < k ∧ (∀ c ∈ l, c.length = k) ∧ ∃ b o vs, a = some ⟨b, o, none⟩ ∧ RepL w lm l.flatten vs ∧ Mem w lm b o vs)) := by
  cases h with
  | sl h0 hk a m hc => exact ⟨_, _, rfl, hc, .inr ⟨h0, hk, _, _, _, rfl, a, m⟩⟩
  | sl0 => exact ⟨_, _, rfl, Nat.zero_le _, .inl rfl⟩
theorem rep_sc {lm : Nat → Nat} {v : Value} {u : Value} (h : Rep w lm (.sc v) u) : u = v := by cases h; rfl

theorem eff_pick (S : Sim base w0 lm0 N g a w s) {c x y : Operand} {c' x' y' : X} {b : Bool} {v1 v2 : SV} (ho : o.op = .pick c x y) (hc : okX c c' = true) (hx : okX x x' = true) (hy : okX y y' = true)
    (h1 : c'.ev s = some (.p (.sc (.bool b)))) (h2 : x'.ev s = some v1) (h3 : y'.ev s = some v2) : EffOK P base w0 lm0 N g a w s o ⟨if b then v1 else v2, []⟩ := by
  have hb := rep_bool (okX_sound S hc h1)
  refine EffOK.pure S (u := if b then a.eval x else a.eval y) ?_ ?_
  · simp [execOp, ho, hb, asBool]
  · cases b
    · exact okX_sound S hy h3
    · exact okX_sound S hx h2

/-! ### loads -/
/-- Is a type a struct or an array, and of how many cells? -/
def aggT (P : Program) (t : TypeId) : Option Bool := match P.underlying t with
  | some (.struct _) => some true
  | some (.array _ _) => some true
  | some _ => some false
  | none => none

theorem run_isAgg {t : TypeId} {b : Bool} (h : aggT P t = some b) (w : World) : (isAgg t).run P w = .ok b w := by
  unfold aggT at h
  cases hu : P.underlying t with
  | none => rw [hu] at h; simp at h
  | some d =>
    rw [hu] at h
    simp only [isAgg, Sem.run_bind, run_underlying hu, Result.andThen_ok]
    cases d <;> simp at h <;> subst h <;> rfl
theorem run_sizeOf {t : TypeId} {k : Nat} (h : P.cellsOf t = k) (h0 : 0 < k) (w : World) : (sizeOf t).run P w = .ok k w := by
  unfold Program.cellsOf at h
  cases hi : P.info? t with
  | none => rw [hi] at h; simp at h; omega
  | some i =>
    rw [hi] at h
    simp at h
    simp [sizeOf, typeInfo, hi, h]

theorem run_load1 {t : TypeId} (h : aggT P t = some false) {ad : Addr} {u : Value} (hc : w.cell? ad = some u) : (Instr.loadAt t (.pointer (some ad))).run P w = .ok u w := by
  simp [Instr.loadAt, Instr.sureAddr, loadVar, run_isAgg h, hc]
theorem run_loadk {t : TypeId} (h : aggT P t = some true) {k : Nat} (hk : P.cellsOf t = k) (h0 : 0 < k) {b o : Nat} {vs : List Value} (hl : vs.length = k) (hc : ∀ j u, vs[j]? = some u → w.cell? ⟨b, o + j, none⟩ = some u) :
    (Instr.loadAt t (.pointer (some ⟨b, o, none⟩))).run P w = .ok (.agg vs.toArray) w := by
  have := run_loadCells_list (P := P) w ⟨b, o, none⟩ vs (fun j v h => by rw [add_n]; exact hc j v h)
  rw [hl] at this
  simp [Instr.loadAt, Instr.sureAddr, loadVar, run_isAgg h, run_sizeOf hk h0, this]

theorem cellAt_flat {k : Nat} : ∀ {l : List (List PV)} {i j : Nat} {c : PV}, (∀ c ∈ l, c.length = k) → cellAt l i j = some c → l.flatten[i * k + j]? = some c
  | [], i, j, c, _, h => by simp [cellAt] at h
  | x :: l, 0, j, c, hk, h => by
    simp [cellAt] at h
    have hj : j < x.length := (List.getElem?_eq_some_iff.1 h).1
    rw [List.flatten_cons, Nat.zero_mul, Nat.zero_add, List.getElem?_append_left hj]; exact h
  | x :: l, i + 1, j, c, hk, h => by
    have hx : x.length = k := hk x (by simp)
    have h' : cellAt l i j = some c := by simpa [cellAt] using h
    rw [List.flatten_cons, List.getElem?_append_right (by rw [hx, Nat.add_mul]; omega), show (i + 1) * k + j - x.length = i * k + j by rw [hx, Nat.add_mul]; omega]
    exact cellAt_flat (fun c hc => hk c (by simp [hc])) h'

theorem own_cells {base e k n : Nat} {v : Value} {xs : List Value} (h : w.ownsRow base e k v n xs) {b : Nat} (hb : blk v = some b) {i : Nat} {u : Value} (hu : xs[i]? = some u) : w.cell? ⟨b, i, none⟩ = some u := by
  rcases h.2 with ⟨rfl, _⟩ | ⟨b', cap, cur, rfl, _, hg, _, _, _, ht⟩
  · simp [blk] at hb
  · simp [blk] at hb
    subst hb
    rw [cell_of_row w b' i cur e (0, 0) hg]
    rw [← ht, List.getElem?_take] at hu
    split at hu
    · simpa using hu
    · simp at hu

/-- A live row's object, opened. -/
theorem Sim.row (S : Sim base w0 lm0 N g a w s) {d e k : Nat} {fz : Bool} {l : List (List PV)} (hd : get s.h d = some (.row e k fz l)) {i j : Nat} {u : Value} (hr : SRep w g (get s.h) (.mp d i j) u) :
    0 < k ∧ (∀ c ∈ l, c.length = k) ∧ ∃ b xs, u = .pointer (some ⟨b, i * k + j, none⟩) ∧ blk (g.v d) = some b ∧ w.ownsRow base e k (g.v d) l.length xs ∧ RepL w g.lm l.flatten xs ∧ (∀ u ∈ xs, u.oneCell' = true) := by
  obtain ⟨h1, h2, ⟨xs, h3, h4, h5⟩, h6⟩ := S.ob d _ hd
  simp only [SRep, hd] at hr
  obtain ⟨b, hb, rfl⟩ := hr
  exact ⟨h1, h2, b, xs, rfl, hb, h3, h4, h5⟩

theorem eff_ld1 (S : Sim base w0 lm0 N g a w s) {t : TypeId} {x : Operand} {y : X} {e : Eff} {call : Call} {d : Nat} (ho : o.op = .load t x) (ha : aggT P t = some false) (hx : okX x y = true)
    (he : eff call s d (.ld1 y) = some e) : EffOK P base w0 lm0 N g a w s o e := by
  simp only [eff] at he
  cases hv : y.ev s with
  | none => rw [hv] at he; simp at he
  | some v =>
    rw [hv] at he
    have hr := okX_sound S hx hv
    cases v with
    | p z =>
      cases z with
      | pt l =>
        cases l with
        | nil => simp at he
        | cons c l =>
          simp only [Option.some.injEq] at he
          subst he
          obtain ⟨b, of, vs, hu, hl, hm⟩ := rep_pt hr
          cases hl with
          | cons hc hl =>
            rename_i v0 vs
            obtain ⟨h1, h2, h3⟩ := hm 0 v0 rfl
            rw [Nat.add_zero] at h1
            refine EffOK.pure S (u := v0) ?_ hc
            simp [execOp, ho, hu, run_load1 ha h1]
      | _ => simp at he
    | mp d' i j =>
      dsimp only at he
      cases hd : get s.h d' with
      | none => rw [hd] at he; simp at he
      | some ob =>
        cases ob <;> rw [hd] at he <;> first | (simp at he; done) | skip
        rename_i e' k fz l
        dsimp only at he
        cases hc : cellAt l i j with
        | none => rw [hc] at he; simp at he
        | some c =>
          rw [hc] at he
          simp only [Option.some.injEq] at he
          subst he
          obtain ⟨h0, hk, b, xs, hu, hb, hown, hrl, h1⟩ := S.row hd hr
          obtain ⟨v0, hv0, hrep⟩ := hrl.get _ _ (cellAt_flat hk hc)
          refine EffOK.pure S (u := v0) ?_ hrep
          have := run_load1 ha (own_cells hown hb hv0)
          simp [execOp, ho, hu, this]
    | _ => simp at he
end
end Go.Proofs.Ytihgpnfkadldeaa.AM
