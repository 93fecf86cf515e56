/- Results, code, calls: what the small machine computes, Go computes. No condition. -/
import Derived.Test.YtihgpnfkadldeaaAM22
import Derived.Scope
import Derived.LoopN
namespace Go.Proofs.Ytihgpnfkadldeaa.AM
open Go Go.RowKit
set_option linter.unusedVariables false
set_option linter.unusedSimpArgs false

section
variable {P : Program} {base : Nat} {w0 : World} {lm0 : Nat → Nat} {N : Nat} {g : Gs} {a : Act} {w : World} {s : St} {Q : Exit → Act → World → Prop}

def resOne (tmps : Array Value) : ResultVar → Sem Value
  | .tmp t => pure (tmps.getD t undef)
  | .cell a t => do loadVar t (← asAddr (tmps.getD a undef))
theorem results_eq (fn : Func) (tmps : Array Value) : results fn tmps = (do
    let vs ← fn.results.mapM (resOne tmps)
    pure (if h : vs.size = 1 then vs[0] else .tuple vs)) := by
  unfold results
  rfl

theorem run_mapM {α : Type} {f : α → Sem Value} : ∀ {l : List α} {us : List Value}, l.length = us.length → (∀ (i : Nat) (x : α) (u : Value), l[i]? = some x → us[i]? = some u → (f x).run P w = .ok u w) → (l.mapM f).run P w = .ok us w
  | [], [], _, _ => by simp
  | [], u :: us, h, _ => by simp at h
  | x :: l, [], h, _ => by simp at h
  | x :: l, u :: us, h, hr => by
    have h1 := hr 0 x u rfl rfl
    have h2 := run_mapM (l := l) (us := us) (by simpa using h) fun i y v hy hv => hr (i + 1) y v (by simpa using hy) (by simpa using hv)
    simp [List.mapM_cons, h1, h2]

theorem run_cell1 {t : TypeId} (h : aggT P t = some false) {ad : Addr} {u : Value} (hc : w.cell? ad = some u) : (loadVar t ad).run P w = .ok u w := by
  simp [loadVar, run_isAgg h, hc]
theorem run_cellk {t : TypeId} (h : aggT P t = some true) {k : Nat} (hk : P.cellsOf t = k) (h0 : 0 < k) {b o : Nat} {vs : List Value} (hl : vs.length = k) (hc : ∀ (j : Nat) (u : Value), vs[j]? = some u → w.cell? ⟨b, o + j, none⟩ = some u) :
    (loadVar t ⟨b, o, none⟩).run P w = .ok (.agg vs.toArray) w := by
  have := run_loadCells_list (P := P) w ⟨b, o, none⟩ vs (fun j v h => by rw [add_n]; exact hc j v h)
  rw [hl] at this
  simp [loadVar, run_isAgg h, run_sizeOf hk h0, this]

/-- One result. -/
theorem one_sound (S : Sim base w0 lm0 N g a w s) {h0 : List (Nat × Ob)} (hf : ∀ d, Fz (get h0 d) (get s.h d)) {r : ResultVar} {ar : ARes} (hok : okRes P r ar = true) {x : PV} (h : finish.one ⟨s.t, h0⟩ ar = some x) :
    ∃ lm' h' u, (resOne a.tmps r).run P w = .ok u w ∧ Sim base w0 lm0 N ⟨lm', g.v⟩ a w ⟨s.t, h'⟩ ∧ Rep w lm' x u ∧ Tr w g (get s.h) w ⟨lm', g.v⟩ (get h') ∧ ∀ d, Fz (get h0 d) (get h' d) := by
  have tr0 : Tr w g (get s.h) w ⟨g.lm, g.v⟩ (get s.h) := ⟨Ext.refl _ _, fun d o h => .inr ⟨rfl, o, h, Shp.refl _⟩⟩
  cases ar with
  | t n =>
    cases r with
    | cell n' t => simp [okRes] at hok
    | tmp n' =>
      simp only [okRes, beq_iff_eq] at hok
      subst hok
      simp only [finish.one] at h
      cases hv : get s.t n' with
      | none => rw [hv] at h; simp at h
      | some v =>
        rw [hv] at h
        dsimp only at h
        cases hfz : frz h0 v with
        | none => rw [hfz] at h; simp at h
        | some q =>
          obtain ⟨y, fr⟩ := q
          rw [hfz] at h
          simp only [Option.some.injEq] at h
          subst h
          obtain ⟨u, hu, hr⟩ := S.tm _ _ hv
          obtain ⟨lm', S', r', T', F'⟩ := frz_sim S hf hr hfz
          exact ⟨lm', putAll s.h fr, u, by simp [resOne, hu], S', r', T', F'⟩
  | c1 n =>
    cases r with
    | tmp n' => simp [okRes] at hok
    | cell n' t =>
      simp only [okRes, Bool.and_eq_true, beq_iff_eq, decide_eq_true_eq] at hok
      obtain ⟨rfl, ha⟩ := hok
      simp only [finish.one] at h
      cases hv : get s.t n' with
      | none => rw [hv] at h; simp at h
      | some v =>
        rw [hv] at h
        cases v <;> first | (simp at h; done) | skip
        rename_i d i j
        dsimp only at h
        cases hd : get h0 d with
        | none => rw [hd] at h; simp at h
        | some ob =>
          cases ob <;> rw [hd] at h <;> first | (simp at h; done) | skip
          rename_i e k fz l
          dsimp only at h
          obtain ⟨fz', hd'⟩ := (hd ▸ hf d : Fz (some (.row e k fz l)) (get s.h d)).row
          obtain ⟨u, hu, hr⟩ := S.tm _ _ hv
          obtain ⟨q0, hk, b, xs, rfl, hb, hown, hrl, h1⟩ := S.row hd' hr
          obtain ⟨v0, hv0, hrep⟩ := hrl.get _ _ (cellAt_flat hk h)
          refine ⟨g.lm, s.h, v0, ?_, S, hrep, tr0, hf⟩
          have := run_cell1 (P := P) ha (own_cells hown hb hv0)
          simp [resOne, hu, asAddr, this]
  | td n => simp [finish.one] at h
  | ck n k0 =>
    cases r with
    | tmp n' => simp [okRes] at hok
    | cell n' t =>
      simp only [okRes, Bool.and_eq_true, beq_iff_eq, decide_eq_true_eq] at hok
      obtain ⟨⟨⟨rfl, ha⟩, hks⟩, h0k⟩ := hok
      simp only [finish.one] at h
      cases hv : get s.t n' with
      | none => rw [hv] at h; simp at h
      | some v =>
        rw [hv] at h
        cases v <;> first | (simp at h; done) | skip
        rename_i d i j
        dsimp only at h
        cases hd : get h0 d with
        | none => rw [hd] at h; simp at h
        | some ob =>
          cases ob <;> rw [hd] at h <;> first | (simp at h; done) | skip
          rename_i e k fz l
          dsimp only at h
          cases hc : l[i]? with
          | none => rw [hc] at h; simp at h
          | some c =>
            rw [hc] at h
            dsimp only at h
            split at h
            · rename_i hle
              simp only [Option.some.injEq] at h
              subst h
              obtain ⟨fz', hd'⟩ := (hd ▸ hf d : Fz (some (.row e k fz l)) (get s.h d)).row
              obtain ⟨u, hu, hr⟩ := S.tm _ _ hv
              obtain ⟨q0, hk, b, xs, rfl, hb, hown, hrl, h1⟩ := S.row hd' hr
              have hil : i < l.length := (List.getElem?_eq_some_iff.1 hc).1
              have hck : c.length = k := hk c (List.mem_of_getElem? hc)
              have e1 : (l.flatten.drop (i * k + j)).take k0 = (c.drop j).take k0 := by
                rw [← List.drop_drop, flatten_drop i hk]
                have : l.drop i = c :: l.drop (i + 1) := by
                  rw [List.drop_eq_getElem_cons hil]
                  congr 1
                  simpa [List.getElem?_eq_getElem hil] using hc
                rw [this, List.flatten_cons, List.drop_append_of_le_length (by omega), List.take_append_of_le_length (by simp; omega)]
              have hrl' := (hrl.drop (i * k + j)).take k0
              rw [e1] at hrl'
              have hlen := hrl'.length
              rw [List.length_take, List.length_drop, Nat.min_eq_left (by omega)] at hlen
              refine ⟨g.lm, s.h, .agg ((xs.drop (i * k + j)).take k0).toArray, ?_, S, (.st hrl' fun u hu => h1 u (List.mem_of_mem_drop (List.mem_of_mem_take hu))), tr0, hf⟩
              have := run_cellk (P := P) (w := w) ha hks h0k (b := b) (o := i * k + j) (vs := (xs.drop (i * k + j)).take k0) hlen.symm (fun q u hu => own_cells hown hb (by
                rw [List.getElem?_take] at hu
                split at hu
                · rw [List.getElem?_drop] at hu; exact hu
                · simp at hu))
              simp [resOne, hu, asAddr, this]
            · simp at h

theorem many_sound : ∀ {rs : List ARes} {res : List ResultVar} {g : Gs} {s : St} {h0 : List (Nat × Ob)} {xs : List PV} (S : Sim base w0 lm0 N g a w s) (hf : ∀ d, Fz (get h0 d) (get s.h d)), okRess P res rs = true → finish.many ⟨s.t, h0⟩ rs = some xs →
    ∃ lm' h' us, res.length = us.length ∧ (∀ (i : Nat) (r : ResultVar) (u : Value), res[i]? = some r → us[i]? = some u → (resOne a.tmps r).run P w = .ok u w) ∧ Sim base w0 lm0 N ⟨lm', g.v⟩ a w ⟨s.t, h'⟩ ∧ RepL w lm' xs us ∧ Ext w g.lm w lm'
  | [], [], g, s, h0, xs, S, hf, hok, h => by
    simp only [finish.many, Option.some.injEq] at h
    subst h
    exact ⟨g.lm, s.h, [], rfl, fun i r u hr => by simp at hr, S, .nil, Ext.refl _ _⟩
  | [], r :: res, g, s, h0, xs, S, hf, hok, h => by simp [okRess] at hok
  | ar :: rs, [], g, s, h0, xs, S, hf, hok, h => by simp [okRess] at hok
  | ar :: rs, r :: res, g, s, h0, xs, S, hf, hok, h => by
    simp only [okRess, Bool.and_eq_true] at hok
    simp only [finish.many] at h
    cases h1 : finish.one ⟨s.t, h0⟩ ar with
    | none => rw [h1] at h; simp at h
    | some x =>
      rw [h1] at h
      dsimp only at h
      cases h2 : finish.many ⟨s.t, h0⟩ rs with
      | none => rw [h2] at h; simp at h
      | some ys =>
        rw [h2] at h
        simp only [Option.some.injEq] at h
        subst h
        obtain ⟨lm1, h1', u, k1, S1, R1, T1, F1⟩ := one_sound S hf hok.1 h1
        obtain ⟨lm2, h2', us, m1, m2, S2, R2, X2⟩ := many_sound S1 F1 hok.2 h2
        refine ⟨lm2, h2', u :: us, by simp [m1], fun i r' v hr hv => ?_, S2, .cons (R1.ext X2) R2, T1.ext.trans X2⟩
        cases i with
        | zero =>
          simp only [List.getElem?_cons_zero, Option.some.injEq] at hr hv
          subst hr; subst hv; exact k1
        | succ i =>
          simp only [List.getElem?_cons_succ] at hr hv
          exact m2 i r' v hr hv

theorem results_one {fn : Func} {r : ResultVar} (h : fn.results.toList = [r]) {u : Value} (hu : (resOne a.tmps r).run P w = .ok u w) : (results fn a.tmps).run P w = .ok u w := by
  have hm : (fn.results.toList.mapM (resOne a.tmps)).run P w = .ok [u] w := by rw [h]; simp [hu]
  rw [results_eq, Sem.run_bind, Array.mapM_eq_mapM_toList, Sem.run_map, hm]
  simp
theorem results_many {fn : Func} {us : List Value} (hl : fn.results.toList.length = us.length) (h1 : us.length ≠ 1) (hu : ∀ (i : Nat) (r : ResultVar) (u : Value), fn.results.toList[i]? = some r → us[i]? = some u → (resOne a.tmps r).run P w = .ok u w) : (results fn a.tmps).run P w = .ok (.tuple us.toArray) w := by
  rw [results_eq, Sem.run_bind, Array.mapM_eq_mapM_toList, Sem.run_map, run_mapM hl hu]
  simp [h1]

theorem finish_sound (S : Sim base w0 lm0 N g a w s) {fn : Func} {afn : AFunc} (hok : okRess P fn.results.toList afn.rs = true) {r : Ret} (h : finish afn s = some r) :
    ∃ v lm', (results fn a.tmps).run P w = .ok v w ∧ (∀ b, b < base → lm' b = lm0 b) ∧ RRep base w lm' r v := by
  have lmk : ∀ {lm' h'}, Sim base w0 lm0 N ⟨lm', g.v⟩ a w ⟨s.t, h'⟩ → ∀ b, b < base → lm' b = lm0 b := fun S' => S'.lm
  have byOne : ∀ {ar : ARes} {x : PV}, afn.rs = [ar] → finish.one s ar = some x → r = .val x → ∃ v lm', (results fn a.tmps).run P w = .ok v w ∧ (∀ b, b < base → lm' b = lm0 b) ∧ RRep base w lm' r v := by
    rintro ar x har hx rfl
    rw [har] at hok
    cases hr : fn.results.toList with
    | nil => rw [hr] at hok; simp [okRess] at hok
    | cons r0 l =>
      rw [hr] at hok
      cases l with
      | cons _ _ => simp [okRess] at hok
      | nil =>
        simp only [okRess, Bool.and_true] at hok
        obtain ⟨lm', h', u, k1, S', R', _, _⟩ := one_sound S (fun d => Fz.refl _) hok hx
        exact ⟨u, lm', results_one hr k1, lmk S', R'⟩
  have byMany : ∀ {xs : List PV}, afn.rs.length ≠ 1 → finish.many s afn.rs = some xs → r = .val (.tu xs) → ∃ v lm', (results fn a.tmps).run P w = .ok v w ∧ (∀ b, b < base → lm' b = lm0 b) ∧ RRep base w lm' r v := by
    rintro xs hne hx rfl
    obtain ⟨lm', h', us, m1, m2, S', R', _⟩ := many_sound S (fun d => Fz.refl _) hok hx
    have hl : ∀ {res : List ResultVar} {rs : List ARes}, okRess P res rs = true → res.length = rs.length := by
      intro res
      induction res with
      | nil => intro rs h; cases rs with
        | nil => rfl
        | cons _ _ => simp [okRess] at h
      | cons r res ih => intro rs h; cases rs with
        | nil => simp [okRess] at h
        | cons _ _ => simp only [okRess, Bool.and_eq_true] at h; simp [ih h.2]
    exact ⟨_, lm', results_many m1 (by have := hl hok; omega) m2, lmk S', .tu R'⟩
  unfold finish at h
  split at h
  · rename_i n hn
    split at h
    · rename_i d off len hv
      split at h
      · rename_i e k fz l hd
        split at h
        · rename_i hq
          obtain ⟨rfl, rfl, rfl⟩ := hq
          simp only [Option.some.injEq] at h
          subst h
          rw [hn] at hok
          cases hr : fn.results.toList with
          | nil => rw [hr] at hok; simp [okRess] at hok
          | cons r0 l0 =>
            rw [hr] at hok
            cases l0 with
            | cons _ _ => simp [okRess] at hok
            | nil =>
              simp only [okRess, Bool.and_true] at hok
              cases r0 with
              | cell n' t => simp [okRes] at hok
              | tmp n' =>
                simp only [okRes, beq_iff_eq] at hok
                subst hok
                obtain ⟨u, hu, hrep⟩ := S.tm _ _ hv
                refine ⟨u, g.lm, results_one hr (by simp [resOne, hu]), S.lm, ?_⟩
                simp only [SRep, hd] at hrep
                obtain ⟨_, h | h⟩ := hrep
                · obtain ⟨_, _, rfl⟩ := h
                  obtain ⟨q1, q2, q3, q4⟩ := S.ob d _ hd
                  exact ⟨q1, q2, q3, fun b hb => by simpa using q4 b hb⟩
                · obtain ⟨h, _⟩ := h; simp at h
        · split at h
          · rename_i hle
            simp only [Option.some.injEq] at h
            subst h
            refine byOne hn (x := .sl k ((l.drop off).take len)) ?_ rfl
            simp only [finish.one, hv, frz, hd, if_pos hle]
          · simp at h
      · simp at h
    · rename_i v hnm hv
      cases hfz : frz s.h v with
      | none => rw [hfz] at h; simp at h
      | some q =>
        rw [hfz] at h
        simp only [Option.some.injEq] at h
        subst h
        refine byOne hn (x := q.1) ?_ rfl
        simp only [finish.one, hv, hfz]
    · simp at h
  · rename_i n hn
    split at h
    · rename_i d off len hv
      split at h
      · rename_i e k l hd
        split at h
        · rename_i hq
          obtain ⟨rfl, rfl⟩ := hq
          simp only [Option.some.injEq] at h
          subst h
          rw [hn] at hok
          cases hr : fn.results.toList with
          | nil => rw [hr] at hok; simp [okRess] at hok
          | cons r0 l0 =>
            rw [hr] at hok
            cases l0 with
            | cons _ _ => simp [okRess] at hok
            | nil =>
              simp only [okRess, Bool.and_true] at hok
              cases r0 with
              | cell n' t => simp [okRes] at hok
              | tmp n' =>
                simp only [okRes, beq_iff_eq] at hok
                subst hok
                obtain ⟨u, hu, hrep⟩ := S.tm _ _ hv
                refine ⟨u, g.lm, results_one hr (by simp [resOne, hu]), S.lm, fun x => g.v (x + d), ?_, ?_, ?_⟩
                · simp only [SRep, hd] at hrep
                  obtain ⟨_, h | h⟩ := hrep
                  · obtain ⟨_, _, rfl⟩ := h; simp
                  · obtain ⟨h, _⟩ := h; simp at h
                · exact dp_shift (S.ob d _ hd) (Nat.le_refl _) (by simp) fun p => by
                    have e0 : nid 0 p + d = nid d p := by unfold nid; omega
                    rw [e0]
                · obtain ⟨own, hap⟩ := S.ap
                  have hlt := S.lt _ _ hd
                  refine ⟨fun b => own b - d, fun x b hi hb => ?_⟩
                  have hi' : Ids d (.dp e k l) (x + d) := by
                    rcases hi with rfl | ⟨_, _, _, p, e1, k1, l1, ho, hp, hk, rfl⟩
                    · exact .inl (by omega)
                    · exact .inr ⟨_, _, _, p, e1, k1, l1, ho, hp, hk, by unfold nid; omega⟩
                  have := hap d _ (x + d) b hd rfl hi' hb
                  show own b - d = x
                  omega
        · simp at h
      · simp at h
    · simp at h
  · rename_i ar hne hne' har
    cases h1 : finish.one s ar with
    | none => rw [h1] at h; simp at h
    | some x =>
      rw [h1] at h
      simp only [Option.some.injEq] at h
      exact byOne har h1 h.symm
  · rename_i hne1 hne0 hne2
    cases h1 : finish.many s afn.rs with
    | none => rw [h1] at h; simp at h
    | some xs =>
      rw [h1] at h
      simp only [Option.some.injEq] at h
      refine byMany (fun hl => ?_) h1 h.symm
      obtain ⟨ar, har⟩ := List.length_eq_one_iff.1 hl
      exact hne2 ar har

/-! ### code and calls -/
def exitOf : Out → Exit
  | .nor => .normal
  | .ex i => .exit i
  | .ret => .ret

structure EnvOk (P : Program) (E : Env) : Prop where
  mixed : P.follows .mixedOrders = true
  ap : ∀ f fn, E.ap f = some fn → okFunc P f fn = true
  ext : ∀ f args r, E.isExt f = true → E.ext f args = some r → CallOK P f args r ∧ Callable P f

def CS (P : Program) (E : Env) (k : Nat) : Prop := ∀ (N : Nat) (c : Go.Code) (ac : ACode) (s : St) (o : Out) (s' : St) (base : Nat) (w0 : World) (lm0 : Nat → Nat) (g : Gs) (a : Act) (w : World) (Q : Exit → Act → World → Prop),
  okCode P N c ac = true → code E k ac s = some (o, s') → Sim base w0 lm0 N g a w s → (∀ g' a' w', Sim base w0 lm0 N g' a' w' s' → Q (exitOf o) a' w') → c.wp P Q a w
def RS (P : Program) (E : Env) (k : Nat) : Prop := ∀ (N : Nat) (c : Go.Code) (keep : List Nat) (ac : ACode) (s : St) (o : Out) (s' : St) (base : Nat) (w0 : World) (lm0 : Nat → Nat) (g : Gs) (a : Act) (w : World) (Q : Exit → Act → World → Prop),
  okCode P N c ac = true → code E k (.loop keep ac) s = some (o, s') → Sim base w0 lm0 N g a w s → (∀ g' a' w', Sim base w0 lm0 N g' a' w' s' → Q (exitOf o) a' w') → Code.rounds P c Q k a w

theorem entry_get : ∀ {args : List PV} {m n : Nat} {v : SV}, get (entry m args) n = some v → ∃ x, v = .p x ∧ m ≤ n ∧ args[n - m]? = some x
  | [], m, n, v, h => by simp [entry, get] at h
  | x :: xs, m, n, v, h => by
    simp only [entry, get] at h
    split at h
    · rename_i e
      subst e
      simp only [Option.some.injEq] at h
      exact ⟨x, h.symm, Nat.le_refl _, by simp⟩
    · obtain ⟨y, h1, h2, h3⟩ := entry_get h
      refine ⟨y, h1, by omega, ?_⟩
      rw [show n - m = (n - (m + 1)) + 1 by omega]
      simpa using h3

theorem finish_plain {fn : AFunc} {s : St} {r : Ret} (h : finish fn s = some r) (k T e : Nat) : r ≠ .sb k T e := by
  rintro rfl
  unfold finish at h
  repeat' split at h
  all_goals simp at h

theorem call_step {E : Env} (hE : EnvOk P E) {k : Nat} (hc : CS P E k) : Good P (call E (k + 1)) := by
  intro f args r h
  rw [c_call] at h
  split at h
  · rename_i he
    exact hE.ext f args r he h
  · cases hap : E.ap f with
    | none => rw [hap] at h; simp at h
    | some fn =>
      rw [hap] at h
      dsimp only at h
      have hok := hE.ap f fn hap
      unfold okFunc at hok
      cases hf : P.funcs[f]? with
      | none => rw [hf] at hok; simp at hok
      | some gf =>
        rw [hf] at hok
        cases hb : gf.body with
        | none => dsimp only at hok; rw [hb] at hok; simp at hok
        | some c =>
          dsimp only at hok
          rw [hb] at hok
          simp only [Bool.and_eq_true, decide_eq_true_eq, Bool.not_eq_true', beq_iff_eq] at hok
          obtain ⟨⟨⟨⟨h1, h2⟩, h3⟩, h4⟩, h5⟩ := hok
          refine ⟨?_, gf, hf, h4, by simp [hb]⟩
          split at h
          · rename_i hlen
            refine CallOK.of ?_ (fun k1 T1 e1 => by
              split at h
              · simp at h
              · exact finish_plain h k1 T1 e1
              · simp at h)
            intro w0 lm0 vs hvs
            have hvl := hvs.length
            have fin : ∀ {o : Out} {s' : St}, code E k fn.body ⟨entry 0 args, []⟩ = some (o, s') → (o = .nor ∨ o = .ret) → finish fn s' = some r → Calls P f vs.toArray w0 fun e w' => ∃ u lm', e = .returned u ∧ Below w0.heap.size w0 w' ∧ (∀ b, b < w0.heap.size → lm' b = lm0 b) ∧ RRep w0.heap.size w' lm' r u := by
              intro o s' ho hor hfin
              refine calls_of_wp hf hb ?_
              refine hc gf.ntmps c fn.body ⟨entry 0 args, []⟩ o s' w0.heap.size w0 lm0 ⟨lm0, fun _ => undef⟩ _ w0 _ h1 ho ⟨rfl, ?_, rfl, Below.refl _ _, fun _ _ => rfl, fun n v hn => ?_, fun d o hd => by simp [get] at hd, fun d o hd => by simp [get] at hd, ⟨fun _ => 0, fun d o x b hd => by simp [get] at hd⟩⟩ ?_
              · simp; omega
              · obtain ⟨x, rfl, _, hx⟩ := entry_get hn
                simp only [Nat.sub_zero] at hx
                obtain ⟨u, hu, hrep⟩ := hvs.get _ _ hx
                refine ⟨u, ?_, hrep⟩
                have hlt : n < vs.length := (List.getElem?_eq_some_iff.1 hu).1
                rw [Array.getElem?_append_left (by simpa using hlt)]
                simpa using hu
              · intro g' a' w' S'
                obtain ⟨v, lm', q1, q2, q3⟩ := finish_sound S' h3 hfin
                have : bodyPost P gf (fun e w' => ∃ u lm', e = .returned u ∧ Below w0.heap.size w0 w' ∧ (∀ b, b < w0.heap.size → lm' b = lm0 b) ∧ RRep w0.heap.size w' lm' r u) .normal a' w' := ⟨S'.defers, v, q1, v, lm', rfl, S'.below, q2, q3⟩
                rcases hor with rfl | rfl <;> exact this
            split at h
            · simp at h
            · rename_i o s' hne ho
              refine fin ho ?_ h
              cases o with
              | nor => exact .inl rfl
              | ret => exact .inr rfl
              | ex i => exact (hne i rfl).elim
            · simp at h
          · simp at h

theorem code_step {E : Env} (hE : EnvOk P E) {k : Nat} (hG : Good P (call E k)) (hc : CS P E k) (hr : RS P E k) : CS P E (k + 1) := by
  intro N c
  induction c with
  | scope x ih =>
    intro ac s o s' base w0 lm0 g a w Q hok h S hK
    refine wp_scope_straight (ih ac s o s' base w0 lm0 g a w _ (by simpa only [okCode] using hok) h S fun g' a' w' S' => ?_)
    have := hK g' a' w' S'
    cases o <;> exact this
  | skip =>
    intro ac s o s' base w0 lm0 g a w Q hok h S hK
    cases ac <;> simp only [okCode] at hok <;> first | (simp at hok; done) | skip
    rw [c_skip] at h
    simp only [Option.some.injEq, Prod.mk.injEq] at h
    obtain ⟨rfl, rfl⟩ := h
    exact wp_skip (hK g a w S)
  | label l =>
    intro ac s o s' base w0 lm0 g a w Q hok h S hK
    cases ac <;> simp only [okCode] at hok <;> first | (simp at hok; done) | skip
    rw [c_skip] at h
    simp only [Option.some.injEq, Prod.mk.injEq] at h
    obtain ⟨rfl, rfl⟩ := h
    exact wp_label (hK g a w S)
  | region id ops draw =>
    intro ac s o s' base w0 lm0 g a w Q hok h S hK
    cases ac <;> simp only [okCode] at hok <;> first | (simp at hok; done) | skip
    rename_i as keep
    rw [c_reg] at h
    cases hs : steps (call E k) as s with
    | none => rw [hs] at h; simp at h
    | some s1 =>
      rw [hs] at h
      simp only [Option.some.injEq, Prod.mk.injEq] at h
      obtain ⟨rfl, rfl⟩ := h
      exact region_sound hE.mixed hG hok S hs fun g' a' w' S' => let ⟨g'', S''⟩ := S'.norm keep; hK g'' a' w' S''
  | seq x y ihx ihy =>
    intro ac s o s' base w0 lm0 g a w Q hok h S hK
    cases ac <;> simp only [okCode, Bool.and_eq_true] at hok <;> first | (simp at hok; done) | skip
    rename_i x' y'
    rw [c_seq] at h
    cases h1 : code E k x' s with
    | none => rw [h1] at h; simp at h
    | some q =>
      obtain ⟨o1, s1⟩ := q
      rw [h1] at h
      refine wp_seq (hc N x x' s o1 s1 base w0 lm0 g a w _ hok.1 h1 S fun g' a' w' S' => ?_)
      cases o1 with
      | nor => exact hc N y y' s1 o s' base w0 lm0 g' a' w' Q hok.2 h S' hK
      | ex i =>
        simp only [Option.some.injEq, Prod.mk.injEq] at h
        obtain ⟨rfl, rfl⟩ := h
        exact hK g' a' w' S'
      | ret =>
        simp only [Option.some.injEq, Prod.mk.injEq] at h
        obtain ⟨rfl, rfl⟩ := h
        exact hK g' a' w' S'
  | cond x y z ihy ihz =>
    intro ac s o s' base w0 lm0 g a w Q hok h S hK
    cases ac <;> simp only [okCode, Bool.and_eq_true] at hok <;> first | (simp at hok; done) | skip
    rename_i x' y' z'
    obtain ⟨⟨h1, h2⟩, h3⟩ := hok
    rw [c_ite] at h
    split at h
    · rename_i b hv
      have hb := rep_bool (okX_sound S h1 hv)
      refine wp_cond hb ?_
      cases b with
      | true => exact hc N y y' s o s' base w0 lm0 g a w Q h2 h S hK
      | false => exact hc N z z' s o s' base w0 lm0 g a w Q h3 h S hK
    · simp at h
  | block i x ih =>
    intro ac s o s' base w0 lm0 g a w Q hok h S hK
    cases ac <;> simp only [okCode, Bool.and_eq_true, beq_iff_eq] at hok <;> first | (simp at hok; done) | skip
    rename_i j x'
    obtain ⟨rfl, h2⟩ := hok
    rw [c_blk] at h
    cases h1 : code E k x' s with
    | none => rw [h1] at h; simp at h
    | some q =>
      obtain ⟨o1, s1⟩ := q
      rw [h1] at h
      refine wp_block (hc N x x' s o1 s1 base w0 lm0 g a w _ h2 h1 S fun g' a' w' S' => ?_)
      cases o1 with
      | nor =>
        simp only [Option.some.injEq, Prod.mk.injEq] at h
        obtain ⟨rfl, rfl⟩ := h
        exact hK g' a' w' S'
      | ex m =>
        dsimp only at h
        by_cases hm : m = i
        · rw [if_pos hm] at h
          simp only [Option.some.injEq, Prod.mk.injEq] at h
          obtain ⟨rfl, rfl⟩ := h
          simp only [exitOf, Exit.inBlock, if_pos hm]
          exact hK g' a' w' S'
        · rw [if_neg hm] at h
          simp only [Option.some.injEq, Prod.mk.injEq] at h
          obtain ⟨rfl, rfl⟩ := h
          simp only [exitOf, Exit.inBlock, if_neg hm]
          exact hK g' a' w' S'
      | ret =>
        simp only [Option.some.injEq, Prod.mk.injEq] at h
        obtain ⟨rfl, rfl⟩ := h
        exact hK g' a' w' S'
  | loop x ih =>
    intro ac s o s' base w0 lm0 g a w Q hok h S hK
    cases ac <;> simp only [okCode] at hok <;> first | (simp at hok; done) | skip
    rename_i keep x'
    rw [c_loop] at h
    obtain ⟨g1, S1⟩ := S.norm keep
    cases h1 : code E k x' (AM.norm keep s) with
    | none => rw [h1] at h; simp at h
    | some q =>
      obtain ⟨o1, s1⟩ := q
      rw [h1] at h
      refine wp_loop_rounds (k + 1) ?_
      rw [rounds_succ]
      refine hc N x x' _ o1 s1 base w0 lm0 g1 a w _ hok h1 S1 fun g' a' w' S' => ?_
      cases o1 with
      | nor => exact hr N x keep x' s1 o s' base w0 lm0 g' a' w' Q hok h S' hK
      | ex m =>
        simp only [Option.some.injEq, Prod.mk.injEq] at h
        obtain ⟨rfl, rfl⟩ := h
        exact hK g' a' w' S'
      | ret =>
        simp only [Option.some.injEq, Prod.mk.injEq] at h
        obtain ⟨rfl, rfl⟩ := h
        exact hK g' a' w' S'
  | exit i =>
    intro ac s o s' base w0 lm0 g a w Q hok h S hK
    cases ac <;> simp only [okCode, beq_iff_eq] at hok <;> first | (simp at hok; done) | skip
    subst hok
    rw [c_ex] at h
    simp only [Option.some.injEq, Prod.mk.injEq] at h
    obtain ⟨rfl, rfl⟩ := h
    exact wp_exit (hK g a w S)
  | ret =>
    intro ac s o s' base w0 lm0 g a w Q hok h S hK
    cases ac <;> simp only [okCode] at hok <;> first | (simp at hok; done) | skip
    rw [c_ret] at h
    simp only [Option.some.injEq, Prod.mk.injEq] at h
    obtain ⟨rfl, rfl⟩ := h
    exact wp_ret (hK g a w S)
  | rangeFunc => intro ac s o s' base w0 lm0 g a w Q hok; simp [okCode] at hok
  | goto => intro ac s o s' base w0 lm0 g a w Q hok; simp [okCode] at hok
  | refuse => intro ac s o s' base w0 lm0 g a w Q hok; simp [okCode] at hok

theorem rounds_step {E : Env} {k : Nat} (hc : CS P E k) (hr : RS P E k) : RS P E (k + 1) := by
  intro N x keep x' s o s' base w0 lm0 g a w Q hok h S hK
  rw [c_loop] at h
  obtain ⟨g1, S1⟩ := S.norm keep
  cases h1 : code E k x' (AM.norm keep s) with
  | none => rw [h1] at h; simp at h
  | some q =>
    obtain ⟨o1, s1⟩ := q
    rw [h1] at h
    rw [rounds_succ]
    refine hc N x x' _ o1 s1 base w0 lm0 g1 a w _ hok h1 S1 fun g' a' w' S' => ?_
    cases o1 with
    | nor => exact hr N x keep x' s1 o s' base w0 lm0 g' a' w' Q hok h S' hK
    | ex m =>
      simp only [Option.some.injEq, Prod.mk.injEq] at h
      obtain ⟨rfl, rfl⟩ := h
      exact hK g' a' w' S'
    | ret =>
      simp only [Option.some.injEq, Prod.mk.injEq] at h
      obtain ⟨rfl, rfl⟩ := h
      exact hK g' a' w' S'

theorem all_sound {E : Env} (hE : EnvOk P E) : ∀ k, Good P (call E k) ∧ CS P E k ∧ RS P E k
  | 0 => ⟨fun f args r h => by simp [call] at h, fun N c ac s o s' base w0 lm0 g a w Q hok h => by simp [code] at h, fun N c keep ac s o s' base w0 lm0 g a w Q hok h => by simp [code] at h⟩
  | k + 1 =>
    let ⟨h1, h2, h3⟩ := all_sound hE k
    ⟨call_step hE h2, code_step hE h1 h2 h3, rounds_step h2 h3⟩

/-- WHAT THE SMALL MACHINE COMPUTES, GO COMPUTES. -/
theorem run_sound {E : Env} (hE : EnvOk P E) {f : FuncId} {args : List PV} {r : Ret} (h : Run E f args = some r) : CallOK P f args r ∧ Callable P f := by
  obtain ⟨k, hk⟩ := (Run_iff ..).1 h
  exact (all_sound hE k).1 f args r hk
end
end Go.Proofs.Ytihgpnfkadldeaa.AM
