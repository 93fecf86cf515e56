/- Two steps in the other order. No condition. -/
import Derived.Test.YtihgpnfkadldeaaAM20
namespace Go.Proofs.Ytihgpnfkadldeaa.AM
open Go Go.RowKit
set_option linter.unusedVariables false
set_option linter.unusedSimpArgs false

section
variable {s s' : St} {call : Call}

theorem pre_eff {o : AOper} {e : Eff} (h : pre call o s = some e) : eff call s (o.d.getD 0) o.o = some e ∨ e = ⟨undefS, []⟩ := by
  unfold pre at h
  cases hg : o.g with
  | none => rw [hg] at h; exact .inl h
  | some q =>
    obtain ⟨g, w⟩ := q
    rw [hg] at h
    dsimp only at h
    cases hv : get s.t g with
    | none => rw [hv] at h; simp at h
    | some v =>
      rw [hv] at h
      dsimp only at h
      split at h
      · split at h
        · exact .inl h
        · exact .inr (Option.some.inj h).symm
      · exact .inr (Option.some.inj h).symm
      · simp at h

/-- What comes ahead of a step is the same where what it looks at is. -/
theorem pre_same {o : AOper} (hr : ∀ n ∈ o.reads, get s.t n = get s'.t n) (he : eff call s (o.d.getD 0) o.o = eff call s' (o.d.getD 0) o.o) : pre call o s = pre call o s' := by
  unfold pre
  cases hg : o.g with
  | none => exact he
  | some q =>
    obtain ⟨g, w⟩ := q
    dsimp only
    rw [hr g (by simp [AOper.reads, hg]), he]

theorem xs_same {o : AOper} (hr : ∀ n ∈ o.reads, get s.t n = get s'.t n) : ∀ x ∈ o.o.xs, x.ev s = x.ev s' := fun x hx =>
  ev_of_slots fun n hn => hr n (by
    unfold AOper.reads
    exact List.mem_append_left _ (List.mem_filterMap.2 ⟨x, hx, hn⟩))

theorem get_puts_ne {t : List (Nat × SV)} {d : Option Nat} {v : SV} {n : Nat} (h : ∀ e, d = some e → e ≠ n) : get (puts t d v) n = get t n := by
  cases d with
  | none => rfl
  | some e => exact get_put_ne _ (h e rfl) _

theorem reads_keep {a i : AOper} (h : apartS a i = true) {t : List (Nat × SV)} {v : SV} : ∀ n ∈ i.reads, get (puts t a.d v) n = get t n := fun n hn =>
  get_puts_ne fun e he => by
    simp only [apartS, he, Bool.and_eq_true, Bool.not_eq_true'] at h
    rintro rfl
    simp [hn] at h

/-! ### operations that make nothing -/
def HsF (h : List (Nat × Ob)) (hs : List (Nat × Ob)) : Prop := ∀ q ∈ hs, ∃ e k fz l, get h q.1 = some (.row e k fz l) ∧ q.2 = .row e k true l
theorem HsF.nil {h : List (Nat × Ob)} : HsF h [] := fun q hq => by simp at hq
theorem HsOK.toF {h : List (Nat × Ob)} {hs : List (Nat × Ob)} (h1 : HsOK h 0 hs) (h2 : HsOK h 300000 hs) : HsF h hs := fun q hq => by
  rcases h1 q hq with r | ⟨_, r⟩
  · exact r
  · rcases h2 q hq with r' | ⟨_, r'⟩
    · exact r'
    · simp only [cand] at r r'; omega
theorem frz_hsF {h : List (Nat × Ob)} {v : SV} {x : PV} {fr : List (Nat × Ob)} (he : frz h v = some (x, fr)) : HsF h fr := (frz_hs he 0).toF (frz_hs he 300000)
theorem frzs_hsF {h : List (Nat × Ob)} {vs : List SV} {xs : List PV} {fr : List (Nat × Ob)} (he : frzs h vs = some (xs, fr)) : HsF h fr := (frzs_hs 0 he).toF (frzs_hs 300000 he)

theorem unfresh_hs {d : Nat} {o : AOp} (ho : o.hard = false) (hf : o.fresh = false) {e : Eff} (he : eff call s d o = some e) : HsF s.h e.hs := by
  cases o <;> first | (simp [AOp.hard] at ho; done) | (simp [AOp.fresh] at hf; done) | skip
  all_goals
    simp only [eff, uns] at he
    repeat' split at he
    all_goals
      first
      | (simp at he; done)
      | (simp only [Option.some.injEq] at he; subst he
         first
         | exact .nil
         | exact frz_hsF ‹frz _ _ = some _›
         | exact frzs_hsF ‹frzs _ _ = some _›)
theorem unfresh_d {d d' : Nat} {o : AOp} (ho : o.hard = false) (hf : o.fresh = false) : eff call s d o = eff call s d' o := by
  cases o <;> first | (simp [AOp.hard] at ho; done) | (simp [AOp.fresh] at hf; done) | rfl

/-- A number that no object has. -/
theorem free_id (h h' : List (Nat × Ob)) : ∃ d, get h d = none ∧ get h (d + 100000) = none ∧ get h' d = none ∧ get h' (d + 100000) = none := by
  have big : ∀ (h : List (Nat × Ob)), ∃ n, ∀ d, n ≤ d → get h d = none := by
    intro h
    induction h with
    | nil => exact ⟨0, fun d _ => rfl⟩
    | cons q h ih =>
      obtain ⟨n, hn⟩ := ih
      obtain ⟨c, o⟩ := q
      refine ⟨max n (c + 1), fun d hd => ?_⟩
      simp only [get]
      rw [if_neg (by omega)]
      exact hn d (by omega)
  obtain ⟨n, hn⟩ := big h
  obtain ⟨m, hm⟩ := big h'
  exact ⟨max n m, hn _ (by omega), hn _ (by omega), hm _ (by omega), hm _ (by omega)⟩
theorem unfresh_soft {d : Nat} {o : AOp} (ho : o.hard = false) (hf : o.fresh = false) (hx : ∀ x ∈ o.xs, x.ev s = x.ev s') (hz : ∀ x ∈ o.xs, ∀ v, x.ev s = some v → FzV s.h s'.h v) : eff call s d o = eff call s' d o := by
  obtain ⟨c, h1, h2, h3, h4⟩ := free_id s.h s'.h
  rw [unfresh_d ho hf (d' := c), unfresh_d (s := s') ho hf (d' := c)]
  exact eff_soft call c o ho hx hz ⟨fun _ => h3, fun _ => h1⟩ ⟨fun _ => h4, fun _ => h2⟩

theorem HsF.ok {h hs : List (Nat × Ob)} (hh : HsF h hs) (d : Nat) : HsOK h d hs := fun q hq => .inl (hh q hq)
theorem HsF.none {h hs : List (Nat × Ob)} (hh : HsF h hs) {c : Nat} : get h c = none ↔ get (putAll h hs) c = none := by
  constructor
  · intro hn
    rw [get_putAll]
    split
    · rename_i o ho
      obtain ⟨e, k, fz, l, h1, _⟩ := hh _ (get_rev_mem ho)
      rw [h1] at hn; simp at hn
    · exact hn
  · intro hn
    cases hg : get h c with
    | none => rfl
    | some x => exact absurd hn (putAll_keeps hs (by rw [hg]; simp))

theorem pre_hs {o : AOper} (ho : o.o.hard = false) {e : Eff} (h : pre call o s = some e) : HsOK s.h (o.d.getD 0) e.hs := by
  rcases pre_eff h with h | rfl
  · exact soft_hs ho h
  · exact .nil
theorem pre_hsF {o : AOper} (ho : o.o.hard = false) (hf : o.o.fresh = false) {e : Eff} (h : pre call o s = some e) : HsF s.h e.hs := by
  rcases pre_eff h with h | rfl
  · exact unfresh_hs ho hf h
  · exact .nil
theorem pre_bare {o : AOper} (ho : o.o.bare = true) {e : Eff} (h : pre call o s = some e) : e.hs = [] := by
  rcases pre_eff h with h | rfl
  · exact bare_hs call _ _ ho h
  · rfl

/-- What comes ahead of a step, behind one that is apart from it. -/
theorem pre_keep (hw : WF s) {a i : AOper} (hs : apartS a i = true) (hh : apartH a i = true) {ea : Eff} (ha : pre call a s = some ea) : pre call i (app a s ea) = pre call i s := by
  have hr : ∀ n ∈ i.reads, get (app a s ea).t n = get s.t n := reads_keep hs
  refine pre_same hr ?_
  have hx := xs_same hr
  by_cases hi : i.o.bare = true
  · exact eff_bare call _ _ hi hx
  by_cases hb : a.o.bare = true
  · refine eff_congr call _ _ hx fun d => ?_
    simp only [app, pre_bare hb ha, putAll]
  · simp only [apartH, hb, hi, Bool.false_or, Bool.and_eq_true, Bool.not_eq_true', Bool.or_eq_true, Bool.and_eq_false_iff, bne_iff_ne, ne_eq, decide_eq_true_eq] at hh
    obtain ⟨⟨h1, h2⟩, h3⟩ := hh
    have hok := pre_hs h1 ha
    have fz : ∀ x ∈ i.o.xs, ∀ v, x.ev s = some v → FzV s.h (app a s ea).h v := fun x hx' v hv d hd => soft_fz hok (ev_id hw hv hd)
    have hx' : ∀ x ∈ i.o.xs, x.ev s = x.ev (app a s ea) := fun x h => (hx x h).symm
    by_cases f1 : i.o.fresh = true
    · by_cases f2 : a.o.fresh = true
      · rcases h3 with h3 | h3
        · rcases h3 with h3 | h3
          · rw [h3] at f2; simp at f2
          · rw [h3] at f1; simp at f1
        · obtain ⟨⟨h3, h4⟩, h5⟩ := h3
          exact (eff_soft call _ _ h2 hx' fz (soft_none hok (by simp only [cand]; omega)) (soft_none hok (by simp only [cand]; omega))).symm
      · have hF := pre_hsF h1 (by simpa using f2) ha
        exact (eff_soft call _ _ h2 hx' fz hF.none hF.none).symm
    · exact (unfresh_soft h2 (by simpa using f1) hx' fz).symm

theorem apartH_symm {a i : AOper} (h : apartH a i = true) : apartH i a = true := by
  simp only [apartH, Bool.or_eq_true, Bool.and_eq_true, Bool.not_eq_true', Bool.and_eq_false_iff, bne_iff_ne, ne_eq, decide_eq_true_eq] at h ⊢
  rcases h with (h | h) | ⟨⟨h1, h2⟩, h3⟩
  · exact .inl (.inr h)
  · exact .inl (.inl h)
  · refine .inr ⟨⟨h2, h1⟩, ?_⟩
    rcases h3 with h3 | ⟨⟨h3, h4⟩, h5⟩
    · exact .inl h3.symm
    · exact .inr ⟨⟨fun e => h3 e.symm, h5⟩, h4⟩

/-- What both put into memory does not clash. -/
theorem hs_comm {a i : AOper} (hh : apartH a i = true) {ea ei : Eff} (ha : pre call a s = some ea) (hi : pre call i s = some ei) (d : Nat) :
    get (putAll (putAll s.h ea.hs) ei.hs) d = get (putAll (putAll s.h ei.hs) ea.hs) d := by
  have key : ∀ o1 o2, get ei.hs.reverse d = some o1 → get ea.hs.reverse d = some o2 → o1 = o2 := by
    intro o1 o2 h1 h2
    by_cases hb : a.o.bare = true
    · rw [pre_bare hb ha] at h2; simp [get] at h2
    by_cases hc : i.o.bare = true
    · rw [pre_bare hc hi] at h1; simp [get] at h1
    simp only [apartH, hb, hc, Bool.false_or, Bool.and_eq_true, Bool.not_eq_true', Bool.or_eq_true, Bool.and_eq_false_iff, bne_iff_ne, ne_eq, decide_eq_true_eq] at hh
    obtain ⟨⟨q1, q2⟩, q3⟩ := hh
    have m1 := get_rev_mem h1
    have m2 := get_rev_mem h2
    rcases pre_hs q2 hi _ m1 with ⟨e, k, fz, l, g1, g2⟩ | ⟨g1, g2⟩
    · rcases pre_hs q1 ha _ m2 with ⟨e', k', fz', l', g1', g2'⟩ | ⟨g1', g2'⟩
      · dsimp only at g1 g2 g1' g2'
        rw [g1] at g1'
        simp only [Option.some.injEq, Ob.row.injEq] at g1'
        rw [g2, g2', g1'.1, g1'.2.1, g1'.2.2.2]
      · dsimp only at g1 g1'; rw [g1] at g1'; simp at g1'
    · rcases pre_hs q1 ha _ m2 with ⟨e', k', fz', l', g1', g2'⟩ | ⟨g1', g2'⟩
      · dsimp only at g1 g1'; rw [g1] at g1'; simp at g1'
      · exfalso
        dsimp only at g1 g2 g1' g2'
        rcases q3 with (q3 | q3) | ⟨⟨q3, q4⟩, q5⟩
        · obtain ⟨_, _, _, _, r, _⟩ := pre_hsF q1 q3 ha _ m2
          dsimp only at r; rw [g1] at r; simp at r
        · obtain ⟨_, _, _, _, r, _⟩ := pre_hsF q2 q3 hi _ m1
          dsimp only at r; rw [g1] at r; simp at r
        · simp only [cand] at g2 g2'; omega
  rw [get_putAll, get_putAll, get_putAll, get_putAll]
  cases h1 : get ei.hs.reverse d with
  | none => cases h2 : get ea.hs.reverse d <;> rfl
  | some o1 => cases h2 : get ea.hs.reverse d with
    | none => rfl
    | some o2 => rw [key o1 o2 h1 h2]

theorem ts_comm {a i : AOper} (h : apartS a i = true) (v u : SV) (n : Nat) : get (puts (puts s.t a.d v) i.d u) n = get (puts (puts s.t i.d u) a.d v) n := by
  cases ha : a.d with
  | none => rfl
  | some d =>
    cases hi : i.d with
    | none => rfl
    | some e =>
      have hne : e ≠ d := by simp only [apartS, ha, hi, Bool.and_eq_true, bne_iff_ne] at h; exact h.2
      simp only [puts, get_put]
      by_cases h1 : d = n
      · subst h1; simp [hne]
      · simp [h1]

/-- Two steps that are apart, in the other order. -/
theorem swap (hw : WF s) {a i : AOper} (hin : indep a i = true) {s1 s2 : St} (h1 : step call a s = some s1) (h2 : step call i s1 = some s2) :
    ∃ s1' s2', step call i s = some s1' ∧ step call a s1' = some s2' ∧ Eqv s2 s2' := by
  simp only [indep, Bool.and_eq_true] at hin
  obtain ⟨⟨ha, hi⟩, hh⟩ := hin
  rw [step_pre] at h1 h2
  cases pa : pre call a s with
  | none => rw [pa] at h1; simp at h1
  | some ea =>
    rw [pa] at h1
    simp only [Option.map_some, Option.some.injEq] at h1
    subst h1
    rw [pre_keep hw ha hh pa] at h2
    cases pi : pre call i s with
    | none => rw [pi] at h2; simp at h2
    | some ei =>
      rw [pi] at h2
      simp only [Option.map_some, Option.some.injEq] at h2
      subst h2
      refine ⟨app i s ei, app a (app i s ei) ea, by rw [step_pre, pi]; rfl, ?_, ?_⟩
      · rw [step_pre, pre_keep hw hi (apartH_symm hh) pi, pa]; rfl
      · exact ⟨fun n => ts_comm ha ea.v ei.v n, fun d => hs_comm hh pa pi d⟩
end
end Go.Proofs.Ytihgpnfkadldeaa.AM
