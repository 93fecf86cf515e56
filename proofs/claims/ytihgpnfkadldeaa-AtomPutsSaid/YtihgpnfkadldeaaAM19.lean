/- Steps in another order. No condition. -/
import Derived.Test.YtihgpnfkadldeaaAM18
namespace Go.Proofs.Ytihgpnfkadldeaa.AM
open Go Go.RowKit
set_option linter.unusedVariables false
set_option linter.unusedSimpArgs false

def Eqv (s s' : St) : Prop := (∀ n, get s.t n = get s'.t n) ∧ ∀ d, get s.h d = get s'.h d
theorem Eqv.refl (s : St) : Eqv s s := ⟨fun _ => rfl, fun _ => rfl⟩
theorem Eqv.symm {s s' : St} (h : Eqv s s') : Eqv s' s := ⟨fun n => (h.1 n).symm, fun n => (h.2 n).symm⟩
theorem Eqv.trans {a b c : St} (h : Eqv a b) (k : Eqv b c) : Eqv a c := ⟨fun n => (h.1 n).trans (k.1 n), fun n => (h.2 n).trans (k.2 n)⟩
theorem Eqv.ev {s s' : St} (h : Eqv s s') (x : X) : x.ev s = x.ev s' := by
  cases x with
  | t n => exact h.1 n
  | c v => rfl
  | f n => rfl

def WF (s : St) : Prop := ∀ n v d, get s.t n = some v → v.id? = some d → get s.h d ≠ none

/-- What a step does, ahead of doing it. -/
def pre (call : Call) (o : AOper) (s : St) : Option Eff :=
  match o.g with
  | none => eff call s (o.d.getD 0) o.o
  | some (g, w) => match get s.t g with
    | some v => match v with
      | .p (.sc (.bool b)) => if b = w then eff call s (o.d.getD 0) o.o else some ⟨undefS, []⟩
      | .p (.sc (.tuple _)) => some ⟨undefS, []⟩
      | _ => none
    | none => none
def app (o : AOper) (s : St) (e : Eff) : St := ⟨puts s.t o.d e.v, putAll s.h e.hs⟩

theorem step_pre (call : Call) (o : AOper) (s : St) : step call o s = (pre call o s).map (app o s) := by
  unfold step pre app
  cases o.g with
  | none => cases eff call s (o.d.getD 0) o.o <;> rfl
  | some q =>
    obtain ⟨g, w⟩ := q
    dsimp only
    cases get s.t g with
    | none => rfl
    | some v =>
      cases v with
      | p y =>
        cases y with
        | sc x =>
          cases x
          all_goals
            dsimp only
            first
            | rfl
            | (split
               · cases eff call s (o.d.getD 0) o.o <;> rfl
               · rfl)
        | _ => rfl
      | _ => rfl

def X.slot : X → Option Nat | .t n => some n | _ => none
def AOper.reads (o : AOper) : List Nat := o.o.xs.filterMap X.slot ++ (match o.g with | some (g, _) => [g] | none => [])

theorem ev_of_slots {s s' : St} {x : X} (h : ∀ n, x.slot = some n → get s.t n = get s'.t n) : x.ev s = x.ev s' := by
  cases x with
  | t n => exact h n rfl
  | c v => rfl
  | f n => rfl
theorem ev_id {s : St} (hw : WF s) {x : X} {v : SV} {d : Nat} (hv : x.ev s = some v) (hd : v.id? = some d) : get s.h d ≠ none := by
  cases x with
  | t n => exact hw n v d hv hd
  | c u => cases u <;> simp only [X.ev] at hv <;> first | (simp at hv; done) | (obtain rfl := Option.some.inj hv; simp [SV.id?] at hd)
  | f n => simp only [X.ev] at hv; obtain rfl := Option.some.inj hv; simp [SV.id?] at hd

def cand (d c : Nat) : Prop := c = d ∨ c = d + 100000
def HsOK (h : List (Nat × Ob)) (d : Nat) (hs : List (Nat × Ob)) : Prop :=
  ∀ q ∈ hs, (∃ e k fz l, get h q.1 = some (.row e k fz l) ∧ q.2 = .row e k true l) ∨ (get h q.1 = none ∧ cand d q.1)

theorem newId_cand {h : List (Nat × Ob)} {d id : Nat} (e : newId h d = some id) : get h id = none ∧ cand d id := by
  refine ⟨newId_none e, ?_⟩
  unfold newId at e
  split at e
  · split at e
    · simp at e; exact .inl e.symm
    · split at e
      · simp at e; exact .inr e.symm
      · simp at e
  · simp at e
theorem frz_hs {h : List (Nat × Ob)} {v : SV} {x : PV} {fr : List (Nat × Ob)} (he : frz h v = some (x, fr)) (d : Nat) : HsOK h d fr := by
  cases v with
  | p y => simp only [frz, Option.some.injEq, Prod.mk.injEq] at he; rw [← he.2]; intro q hq; simp at hq
  | xs k l => simp only [frz, Option.some.injEq, Prod.mk.injEq] at he; rw [← he.2]; intro q hq; simp at hq
  | ms d' off len =>
    simp only [frz] at he
    split at he
    · rename_i e k fz l hd
      split at he
      · simp only [Option.some.injEq, Prod.mk.injEq] at he
        rw [← he.2]
        intro q hq
        simp at hq
        subst hq
        exact .inl ⟨e, k, fz, l, hd, rfl⟩
      · simp at he
    · simp at he
  | mp d' i j =>
    simp only [frz] at he
    split at he
    · rename_i e k fz l hd
      split at he
      · split at he
        · simp only [Option.some.injEq, Prod.mk.injEq] at he
          rw [← he.2]
          intro q hq
          simp at hq
          subst hq
          exact .inl ⟨e, k, fz, l, hd, rfl⟩
        · simp at he
      · simp at he
    · simp at he
theorem HsOK.append {h : List (Nat × Ob)} {d : Nat} {a b : List (Nat × Ob)} (ha : HsOK h d a) (hb : HsOK h d b) : HsOK h d (a ++ b) := fun q hq => (List.mem_append.1 hq).elim (ha q) (hb q)
theorem HsOK.nil {h : List (Nat × Ob)} {d : Nat} : HsOK h d [] := fun q hq => by simp at hq
theorem HsOK.new {h : List (Nat × Ob)} {d id : Nat} (e : newId h d = some id) (o : Ob) : HsOK h d [(id, o)] := fun q hq => by
  simp at hq; subst hq; exact .inr (newId_cand e)
theorem frzs_hs {h : List (Nat × Ob)} (d : Nat) : ∀ {vs : List SV} {xs : List PV} {fr : List (Nat × Ob)}, frzs h vs = some (xs, fr) → HsOK h d fr
  | [], xs, fr, he => by simp only [frzs, Option.some.injEq, Prod.mk.injEq] at he; rw [← he.2]; exact .nil
  | v :: vs, xs, fr, he => by
    obtain ⟨x, f1, ys, f2, h1, h2, h3⟩ := frzs_cons he
    simp only [Prod.mk.injEq] at h3
    rw [h3.2]
    exact (frz_hs h1 d).append (frzs_hs d h2)
theorem ret1_hs {h fr : List (Nat × Ob)} {d : Nat} {r : Ret} {e : Eff} (hf : HsOK h d fr) (he : ret1 h fr d r = some e) : HsOK h d e.hs := by
  cases r with
  | sb k T e1 => simp [ret1] at he
  | val x => simp only [ret1, Option.some.injEq] at he; subst he; exact hf
  | own e' k l =>
    simp only [ret1] at he
    split at he
    · rename_i id hid
      simp only [Option.some.injEq] at he
      subst he
      exact hf.append (.new hid _)
    · simp at he
  | deep e' k l =>
    simp only [ret1] at he
    split at he
    · split at he
      · rename_i id hid
        simp only [Option.some.injEq] at he
        subst he
        exact hf.append (.new hid _)
      · simp at he
    · simp at he
theorem ret1d_hs {h fr : List (Nat × Ob)} {d : Nat} {r : Ret} {e : Eff} (hf : HsOK h d fr) (he : ret1d h fr d r = some e) : HsOK h d e.hs := by
  cases r with
  | sb k T e1 => simp [ret1d] at he
  | val x => simp [ret1d] at he
  | own e' k l => simp [ret1d] at he
  | deep e' k l =>
    simp only [ret1d] at he
    split at he
    · rename_i id hid
      simp only [Option.some.injEq] at he
      subst he
      exact hf.append (.new hid _)
    · simp at he

/-- What an operation that writes nothing old puts into memory. -/
theorem soft_hs {s : St} {call : Call} {d : Nat} {o : AOp} (ho : o.hard = false) {e : Eff} (he : eff call s d o = some e) : HsOK s.h d e.hs := by
  cases o <;> first | (simp [AOp.hard] at ho; done) | skip
  all_goals
    simp only [eff, uns] at he
    repeat' split at he
    all_goals
      first
      | (simp at he; done)
      | (simp only [Option.some.injEq] at he; subst he
         first
         | exact .nil
         | exact HsOK.new ‹newId _ _ = some _› _
         | exact frz_hs ‹frz _ _ = some _› d
         | exact frzs_hs d ‹frzs _ _ = some _›
         | exact (frz_hs ‹frz _ _ = some _› d).append (HsOK.new ‹newId _ _ = some _› _)
         | exact (frzs_hs d ‹frzs _ _ = some _›).append (HsOK.new ‹newId _ _ = some _› _))
      | exact ret1_hs (frzs_hs d ‹frzs _ _ = some _›) he
      | exact ret1d_hs (frzs_hs d ‹frzs _ _ = some _›) he

theorem get_putAll (h : List (Nat × Ob)) : ∀ (l : List (Nat × Ob)) (d : Nat), get (putAll h l) d = (match get l.reverse d with | some o => some o | none => get h d)
  | [], d => by simp [putAll, get]
  | (c, o) :: l, d => by
    have hap : ∀ (a b : List (Nat × Ob)) (d : Nat), get (a ++ b) d = (match get a d with | some o => some o | none => get b d) := by
      intro a
      induction a with
      | nil => intro b d; simp [get]
      | cons q a ih =>
        intro b d
        obtain ⟨q1, q2⟩ := q
        simp only [List.cons_append, get]
        split
        · rfl
        · exact ih b d
    rw [putAll, get_putAll _ l d, List.reverse_cons, hap]
    cases get l.reverse d with
    | some x => rfl
    | none =>
      simp only [get]
      rw [get_put]
      split <;> rfl

theorem putAll_keeps {h : List (Nat × Ob)} (l : List (Nat × Ob)) {d : Nat} (hd : get h d ≠ none) : get (putAll h l) d ≠ none := by
  rw [get_putAll]
  split
  · simp
  · exact hd
theorem get_rev_mem {l : List (Nat × Ob)} {d : Nat} {o : Ob} (h : get l.reverse d = some o) : (d, o) ∈ l := by simpa using get_mem h
theorem putAll_has {h l : List (Nat × Ob)} {d : Nat} {o : Ob} (hm : (d, o) ∈ l) : get (putAll h l) d ≠ none := by
  rw [get_putAll]
  split
  · simp
  · rename_i hn
    have : ∀ (l : List (Nat × Ob)), (d, o) ∈ l → get l d ≠ none := by
      intro l
      induction l with
      | nil => intro h; simp at h
      | cons q l ih =>
        intro h
        obtain ⟨q1, q2⟩ := q
        simp only [get]
        split
        · simp
        · rename_i hne
          rcases List.mem_cons.1 h with h | h
          · simp at h; exact absurd h.1.symm hne
          · exact ih h
    exact absurd hn (this _ (by simpa using hm))

theorem soft_fz {h : List (Nat × Ob)} {d : Nat} {hs : List (Nat × Ob)} (hh : HsOK h d hs) {c : Nat} (hc : get h c ≠ none) : Fz (get h c) (get (putAll h hs) c) := by
  rw [get_putAll]
  split
  · rename_i o ho
    rcases hh _ (get_rev_mem ho) with ⟨e, k, fz, l, h1, h2⟩ | ⟨h1, _⟩
    · dsimp only at h1 h2; rw [h1, h2]; exact ⟨rfl, rfl, rfl⟩
    · exact absurd h1 hc
  · exact Fz.refl _
theorem soft_none {h : List (Nat × Ob)} {d : Nat} {hs : List (Nat × Ob)} (hh : HsOK h d hs) {c : Nat} (hc : ¬ cand d c) : get h c = none ↔ get (putAll h hs) c = none := by
  constructor
  · intro hn
    rw [get_putAll]
    split
    · rename_i o ho
      rcases hh _ (get_rev_mem ho) with ⟨e, k, fz, l, h1, h2⟩ | ⟨_, h1⟩
      · rw [h1] at hn; simp at hn
      · exact absurd h1 hc
    · exact hn
  · intro hn
    cases hg : get h c with
    | none => rfl
    | some x => exact absurd hn (putAll_keeps hs (by rw [hg]; simp))

/-- What an operation gives points to what is there. -/
theorem eff_id {s : St} (hw : WF s) {call : Call} {d : Nat} {o : AOp} {e : Eff} (he : eff call s d o = some e) {d' : Nat} (hd : e.v.id? = some d') : get (putAll s.h e.hs) d' ≠ none := by
  have r0 : ∀ fr id o n, e = ⟨.ms id 0 n, fr ++ [(id, o)]⟩ → get (putAll s.h e.hs) d' ≠ none := by
    rintro fr id o n rfl
    simp [SV.id?] at hd
    subst hd
    exact putAll_has (List.mem_append_right _ (List.mem_singleton_self _))
  have r1 : ∀ fr r, ret1 s.h fr d r = some e → get (putAll s.h e.hs) d' ≠ none := by
    intro fr r he
    cases r with
    | sb k T e1 => simp [ret1] at he
    | val x => simp only [ret1, Option.some.injEq] at he; subst he; simp [SV.id?] at hd
    | own e' k l =>
      simp only [ret1] at he
      split at he
      · exact r0 _ _ _ _ (Option.some.inj he).symm
      · simp at he
    | deep e' k l =>
      simp only [ret1] at he
      split at he
      · split at he
        · exact r0 _ _ _ _ (Option.some.inj he).symm
        · simp at he
      · simp at he
  have r2 : ∀ fr r, ret1d s.h fr d r = some e → get (putAll s.h e.hs) d' ≠ none := by
    intro fr r he
    cases r with
    | sb k T e1 => simp [ret1d] at he
    | val x => simp [ret1d] at he
    | own e' k l => simp [ret1d] at he
    | deep e' k l =>
      simp only [ret1d] at he
      split at he
      · exact r0 _ _ _ _ (Option.some.inj he).symm
      · simp at he
  cases o
  case mvs x y =>
    simp only [eff] at he
    split at he
    · rename_i v d1 off len hv hy
      split at he
      · split at he
        · simp only [Option.some.injEq] at he
          subst he
          exact putAll_keeps _ (ev_id hw hv hd)
        · simp at he
      · simp at he
    · simp at he
  case sbw f x y =>
    simp only [eff, sbwE] at he
    repeat' split at he
    all_goals first | (simp at he; done) | (simp only [Option.some.injEq] at he; subst he; simp [SV.id?] at hd; done)
  case sbs f x =>
    simp only [eff, sbsE] at he
    repeat' split at he
    all_goals first | (simp at he; done) | (simp only [Option.some.injEq] at he; subst he; simp [SV.id?] at hd; done)
  all_goals
    simp only [eff, uns] at he
    repeat' split at he
    all_goals
      first
      | (simp at he; done)
      | (simp only [Option.some.injEq] at he; subst he
         first
         | (simp [SV.id?, undefS] at hd; done)
         | (simp only [SV.id?, Option.some.injEq] at hd; subst hd
            first
            | exact putAll_has (List.mem_append_right _ (List.mem_singleton_self _))
            | exact putAll_has (List.mem_singleton_self _)
            | exact putAll_has (List.mem_cons_of_mem _ (List.mem_singleton_self _))
            | exact ev_id hw ‹X.ev s _ = some (.mp _ _ _)› rfl
            | exact ev_id hw ‹X.ev s _ = some (.ms _ _ _)› rfl
            | exact ev_id hw ‹X.ev s _ = some _› rfl)
         | exact ev_id hw ‹X.ev s _ = some _› hd
         | (split at hd <;> exact ev_id hw ‹X.ev s _ = some _› hd))
      | exact r1 _ _ he
      | exact r2 _ _ he
end Go.Proofs.Ytihgpnfkadldeaa.AM
