/- Made by pack.py: AM21, AM22, AMP. No condition but what each says. -/
import Derived.Test.YtjpibniecllafaaGreatR6
set_option linter.unusedSimpArgs false
set_option linter.unusedVariables false
section
namespace Go.Proofs.YtjpibniecllafaaGreat.AM
open Go Go.RowKit
section
variable {s s' : St} {call : Call}
theorem Tcg {o : AOper} {e : Eff} (h : pre call o s = some e) : eff call s (o.d.getD 0) o.o = some e ∨ e = ⟨undefS, []⟩ := by
 unfold pre at h
 cases hg : o.g with
 | none => rw [hg] at h; exact .inl h
 | some q =>
  obtain ⟨g, w⟩ := q
  rw [hg] at h
  dsimp only at h
  cases hv : get s.t g with
  | none => rw [hv] at h; simp at h
  | some v =>
   rw [hv] at h
   dsimp only at h
   split at h
   · split at h
     · exact .inl h
     · exact .inr (oIj h).symm
   · exact .inr (oIj h).symm
   · simp at h
theorem Tfo {o : AOper} (hr : ∀ n ∈ o.reads, get s.t n = get s'.t n) (he : eff call s (o.d.getD 0) o.o = eff call s' (o.d.getD 0) o.o) : pre call o s = pre call o s' := by
 unfold pre
 cases hg : o.g with
 | none => exact he
 | some q =>
  obtain ⟨g, w⟩ := q
  dsimp only
  rw [hr g (by simp [AOper.reads, hg]), he]
theorem Tk1 {o : AOper} (hr : ∀ n ∈ o.reads, get s.t n = get s'.t n) : ∀ x ∈ o.o.xs, x.ev s = x.ev s' := fun x hx =>
 Tky fun n hn => hr n (by
  unfold AOper.reads
  exact List.mem_append_left _ (List.mem_filterMap.2 ⟨x, hx, hn⟩))
theorem Tk2 {t : List (Nat × SV)} {d : Option Nat} {v : SV} {n : Nat} (h : ∀ e, d = some e → e ≠ n) : get (puts t d v) n = get t n := by
 cases d with
 | none => rfl
 | some e => exact Tac _ (h e rfl) _
theorem Te2 {a i : AOper} (h : apartS a i = true) {t : List (Nat × SV)} {v : SV} : ∀ n ∈ i.reads, get (puts t a.d v) n = get t n := fun n hn =>
 Tk2 fun e he => by
  simp only [apartS, he, Bool.and_eq_true, Bool.not_eq_true'] at h
  rintro rfl
  simp [hn] at h
def HsF (h : List (Nat × Ob)) (hs : List (Nat × Ob)) : Prop := ∀ q ∈ hs, ∃ e k fz l, get h q.1 = some (.row e k fz l) ∧ q.2 = .row e k true l
theorem HsF.nil {h : List (Nat × Ob)} : HsF h [] := fun q hq => by simp at hq
theorem HsOK.toF {h : List (Nat × Ob)} {hs : List (Nat × Ob)} (h1 : HsOK h 0 hs) (h2 : HsOK h 1 hs) : HsF h hs := fun q hq => by
 rcases h1 q hq with r | ⟨_, r⟩
 · exact r
 · rcases h2 q hq with r' | ⟨_, r'⟩
   · exact r'
   · obtain ⟨_, i, _, e1⟩ := r
     obtain ⟨_, j, _, e2⟩ := r'
     omega
theorem Tv5 {h : List (Nat × Ob)} {v : SV} {x : PV} {fr : List (Nat × Ob)} (he : frz h v = some (x, fr)) : HsF h fr := (Tfh he 0).toF (Tfh he 1)
theorem Tss {h : List (Nat × Ob)} {vs : List SV} {xs : List PV} {fr : List (Nat × Ob)} (he : frzs h vs = some (xs, fr)) : HsF h fr := (Tdc 0 he).toF (Tdc 1 he)
theorem Tnv {d : Nat} {o : AOp} (ho : o.hard = false) (hf : o.fresh = false) {e : Eff} (he : eff call s d o = some e) : HsF s.h e.hs := by
  cases o <;> first | (simp [AOp.hard] at ho; done) | (simp [AOp.fresh] at hf; done) | skip
  all_goals
    simp only [eff, uns] at he
    repeat' split at he
    all_goals
      first
      | (simp at he; done)
      | (simp only [oIE] at he; subst he
         first
         | exact .nil
         | exact Tv5 ‹frz _ _ = some _›
         | exact Tss ‹frzs _ _ = some _›)
theorem Tjt {d d' : Nat} {o : AOp} (ho : o.hard = false) (hf : o.fresh = false) : eff call s d o = eff call s d' o := by
 cases o <;> first | (simp [AOp.hard] at ho; done) | (simp [AOp.fresh] at hf; done) | rfl
theorem Tv6 (h h' : List (Nat × Ob)) : ∃ d, ∀ j, get h (d + j * 100000) = none ∧ get h' (d + j * 100000) = none := by
 have big : ∀ (h : List (Nat × Ob)), ∃ n, ∀ d, n ≤ d → get h d = none := by
  intro h
  induction h with
  | nil => exact ⟨0, fun d _ => rfl⟩
  | cons q h ih =>
   obtain ⟨n, hn⟩ := ih
   obtain ⟨c, o⟩ := q
   refine ⟨max n (c + 1), fun d hd => ?_⟩
   simp only [get]
   rw [if_neg (by omega)]
   exact hn d (by omega)
 obtain ⟨n, hn⟩ := big h
 obtain ⟨m, hm⟩ := big h'
 exact ⟨max n m, fun j => ⟨hn _ (by omega), hm _ (by omega)⟩⟩
theorem Tju {d : Nat} {o : AOp} (ho : o.hard = false) (hf : o.fresh = false) (hx : ∀ x ∈ o.xs, x.ev s = x.ev s') (hz : ∀ x ∈ o.xs, ∀ v, x.ev s = some v → FzV s.h s'.h v) : eff call s d o = eff call s' d o := by
 obtain ⟨c, h1⟩ := Tv6 s.h s'.h
 rw [Tjt ho hf (d' := c), Tjt (s := s') ho hf (d' := c)]
 exact Tfn call c o ho hx hz fun j _ => ⟨fun _ => (h1 j).2, fun _ => (h1 j).1⟩
theorem HsF.ok {h hs : List (Nat × Ob)} (hh : HsF h hs) (d : Nat) : HsOK h d hs := fun q hq => .inl (hh q hq)
theorem HsF.none {h hs : List (Nat × Ob)} (hh : HsF h hs) {c : Nat} : get h c = none ↔ get (putAll h hs) c = none := by
 constructor
 · intro hn
   rw [Ta5]
   split
   · rename_i o ho
     obtain ⟨e, k, fz, l, h1, _⟩ := hh _ (Tbc ho)
     rw [h1] at hn; simp at hn
   · exact hn
 · intro hn
   cases hg : get h c with
   | none => rfl
   | some x => exact absurd hn (Tat hs (by rw [hg]; simp))
theorem Tgl {o : AOper} (ho : o.o.hard = false) {e : Eff} (h : pre call o s = some e) : HsOK s.h (o.d.getD 0) e.hs := by
 rcases Tcg h with h | rfl
 · exact Tpm ho h
 · exact .nil
theorem Tk3 {o : AOper} (ho : o.o.hard = false) (hf : o.o.fresh = false) {e : Eff} (h : pre call o s = some e) : HsF s.h e.hs := by
 rcases Tcg h with h | rfl
 · exact Tnv ho hf h
 · exact .nil
theorem Tik {o : AOper} (ho : o.o.bare = true) {e : Eff} (h : pre call o s = some e) : e.hs = [] := by
 rcases Tcg h with h | rfl
 · exact Tv1 call _ _ ho h
 · rfl
theorem Tps (hw : WF s) {a i : AOper} (hs : apartS a i = true) (hh : apartH0 a i = true) {ea : Eff} (ha : pre call a s = some ea) : pre call i (app a s ea) = pre call i s := by
 have hr : ∀ n ∈ i.reads, get (app a s ea).t n = get s.t n := Te2 hs
 refine Tfo hr ?_
 have hx := Tk1 hr
 by_cases hi : i.o.bare = true
 · exact Tso call _ _ hi hx
 by_cases hb : a.o.bare = true
 · refine Tgh call _ _ hx ?_
   simp only [app, Tik hb ha, putAll]
 · simp only [apartH0, hb, hi, Bool.false_or, Bool.and_eq_true, Bool.not_eq_true', Bool.or_eq_true, Bool.and_eq_false_iff, bne_iff_ne, ne_eq, decide_eq_true_eq] at hh
   obtain ⟨⟨h1, h2⟩, h3⟩ := hh
   have hok := Tgl h1 ha
   have fz : ∀ x ∈ i.o.xs, ∀ v, x.ev s = some v → FzV s.h (app a s ea).h v := fun x hx' v hv d hd => Tv3 hok (ev_id hw hv hd)
   have hx' : ∀ x ∈ i.o.xs, x.ev s = x.ev (app a s ea) := fun x h => (hx x h).symm
   by_cases f1 : i.o.fresh = true
   · by_cases f2 : a.o.fresh = true
     · rcases h3 with h3 | h3
       · rcases h3 with h3 | h3
         · rw [h3] at f2; simp at f2
         · rw [h3] at f1; simp at f1
       · obtain ⟨⟨h3, h4⟩, h5⟩ := h3
         exact (Tfn call _ _ h2 hx' fz fun k hk => Tjr hok (by rintro ⟨_, j, hj, e1⟩; omega)).symm
     · have hF := Tk3 h1 (by simpa using f2) ha
       exact (Tfn call _ _ h2 hx' fz fun _ _ => hF.none).symm
   · exact (Tju h2 (by simpa using f1) hx' fz).symm
theorem Tjv {a i : AOper} (h : apartH0 a i = true) : apartH0 i a = true := by
 simp only [apartH0, Bool.or_eq_true, Bool.and_eq_true, Bool.not_eq_true', Bool.and_eq_false_iff, bne_iff_ne, ne_eq, decide_eq_true_eq] at h ⊢
 rcases h with (h | h) | ⟨⟨h1, h2⟩, h3⟩
 · exact .inl (.inr h)
 · exact .inl (.inl h)
 · refine .inr ⟨⟨h2, h1⟩, ?_⟩
   rcases h3 with h3 | ⟨⟨h3, h4⟩, h5⟩
   · exact .inl h3.symm
   · exact .inr ⟨⟨fun e => h3 e.symm, h5⟩, h4⟩
theorem Tst {a i : AOper} (hh : apartH0 a i = true) {ea ei : Eff} (ha : pre call a s = some ea) (hi : pre call i s = some ei) :
 putAll (putAll s.h ea.hs) ei.hs = putAll (putAll s.h ei.hs) ea.hs := by
 have key : ∀ d o1 o2, (d, o1) ∈ ei.hs → (d, o2) ∈ ea.hs → o1 = o2 := by
  intro d o1 o2 m1 m2
  by_cases hb : a.o.bare = true
  · rw [Tik hb ha] at m2; simp at m2
  by_cases hc : i.o.bare = true
  · rw [Tik hc hi] at m1; simp at m1
  simp only [apartH0, hb, hc, Bool.false_or, Bool.and_eq_true, Bool.not_eq_true', Bool.or_eq_true, Bool.and_eq_false_iff, bne_iff_ne, ne_eq, decide_eq_true_eq] at hh
  obtain ⟨⟨q1, q2⟩, q3⟩ := hh
  rcases Tgl q2 hi _ m1 with ⟨e, k, fz, l, g1, g2⟩ | ⟨g1, g2⟩
  · rcases Tgl q1 ha _ m2 with ⟨e', k', fz', l', g1', g2'⟩ | ⟨g1', g2'⟩
    · dsimp only at g1 g2 g1' g2'
      rw [g1] at g1'
      simp only [oIE, Ob.row.injEq] at g1'
      rw [g2, g2', g1'.1, g1'.2.1, g1'.2.2.2]
    · dsimp only at g1 g1'; rw [g1] at g1'; simp at g1'
  · rcases Tgl q1 ha _ m2 with ⟨e', k', fz', l', g1', g2'⟩ | ⟨g1', g2'⟩
    · dsimp only at g1 g1'; rw [g1] at g1'; simp at g1'
    · exfalso
      dsimp only at g1 g2 g1' g2'
      rcases q3 with (q3 | q3) | ⟨⟨q3, q4⟩, q5⟩
      · obtain ⟨_, _, _, _, r, _⟩ := Tk3 q1 q3 ha _ m2
        dsimp only at r; rw [g1] at r; simp at r
      · obtain ⟨_, _, _, _, r, _⟩ := Tk3 q2 q3 hi _ m1
        dsimp only at r; rw [g1] at r; simp at r
      · obtain ⟨_, i1, _, e1⟩ := g2
        obtain ⟨_, i2, _, e2⟩ := g2'
        omega
 exact Tdb _ _ _ fun q hq r hr e => (key q.1 r.2 q.2 (by rw [e]; exact hr) hq).symm
def HsN (h hs : List (Nat × Ob)) : Prop := ∀ q ∈ hs, (∃ e k fz l, get h q.1 = some (.row e k fz l) ∧ q.2 = .row e k true l) ∨ get h q.1 = none
theorem HsOK.n {h hs : List (Nat × Ob)} {d : Nat} (hh : HsOK h d hs) : HsN h hs := fun q hq => (hh q hq).imp id fun h => h.1
theorem HsN.fz {h hs : List (Nat × Ob)} (hh : HsN h hs) {c : Nat} (hc : get h c ≠ none) : Fz (get h c) (get (putAll h hs) c) := by
 rw [Ta5]
 split
 · rename_i o ho
   rcases hh _ (Tbc ho) with ⟨e, k, fz, l, h1, h2⟩ | h1
   · dsimp only at h1 h2; rw [h1, h2]; exact ⟨rfl, rfl, rfl⟩
   · exact absurd h1 hc
 · exact Fz.refl _
theorem Tmf {d : Nat} {o : AOp} (ho : o.quiet = true) {e : Eff} (he : eff call s d o = some e) : e.hs = [] := by
 cases o <;> first | (simp [AOp.quiet] at ho; done) | skip
 all_goals
  simp only [eff] at he
  repeat' split at he
  all_goals first | (simp at he; done) | (simp only [oIE] at he; subst he; rfl)
theorem Tgm {v : SV} (h : ∀ d, v.ref d = true → get s.h d ≠ none) : thereV s.h v = true := by
 unfold thereV
 cases hid : v.id? with
 | none => rfl
 | some d =>
  cases hg : get s.h d with
  | none => exact absurd hg (h d (Tuh hid))
  | some o => dsimp only; rw [hg]; rfl
theorem Tnw (hw : WF s) (hf : ∀ c, get s.h c ≠ none → Fz (get s.h c) (get s'.h c)) {d : Nat} {o : AOp} (ho : o.quiet = true) (hx : ∀ x ∈ o.xs, x.ev s = x.ev s') : eff call s d o = eff call s' d o := by
  have hmp : ∀ {x : X} {d' i j : Nat}, x.ev s = some (.mp d' i j) → Fz (get s.h d') (get s'.h d') := fun {x d' i j} hv => hf d' (Tcn hw hv (by simp [SV.ref]))
  have cases_ : ∀ {a b : Option Ob}, Fz a b → (∃ e k l, a = some (.gr e k l) ∧ b = some (.gr e k l)) ∨ ((∀ e k l, a ≠ some (.gr e k l)) ∧ ∀ e k l, b ≠ some (.gr e k l)) := by
    intro a b h
    rcases h.two with ⟨e, k, fz, fz', l, rfl, rfl⟩ | ⟨rfl, _⟩
    · exact .inr ⟨fun _ _ _ h => by simp at h, fun _ _ _ h => by simp at h⟩
    · cases a with
      | none => exact .inr ⟨fun _ _ _ h => by simp at h, fun _ _ _ h => by simp at h⟩
      | some o => cases o <;> first | exact .inl ⟨_, _, _, rfl, rfl⟩ | exact .inr ⟨fun _ _ _ h => by simp at h, fun _ _ _ h => by simp at h⟩
  have gen : ∀ {α : Type} {a b : Option Ob} (F : Nat → Nat → List (List RV) → Option α), Fz a b → (match a with | some (.gr e k l) => F e k l | _ => none) = (match b with | some (.gr e k l) => F e k l | _ => none) := by
    intro α a b F h
    rcases cases_ h with ⟨e, k, l, rfl, rfl⟩ | ⟨h1, h2⟩
    · rfl
    · have : ∀ {c : Option Ob}, (∀ e k l, c ≠ some (.gr e k l)) → (match c with | some (.gr e k l) => F e k l | _ => none) = none := by
        intro c hc
        split
        · rename_i e k l; exact absurd rfl (hc e k l)
        · rfl
      rw [this h1, this h2]
  have th : ∀ {c : RV}, (∀ d, c.sv.ref d = true → get s.h d ≠ none) → thereV s.h c.sv = true ∧ thereV s'.h c.sv = true := fun {c} hc => by
    refine ⟨Tgm hc, Tgm (s := s') fun d hd => ?_⟩
    have h1 := hc d hd
    have h2 := hf d h1
    intro h3
    rw [h3] at h2
    exact h1 (h2.none_iff.2 rfl)
  cases o <;> first | (simp [AOp.quiet] at ho; done) | skip
  case exr x i =>
    have e1 := hx x (by simp [AOp.xs])
    simp only [eff, ← e1]
    cases hv : x.ev s with
    | none => rfl
    | some v =>
      cases v with
      | stu l =>
        dsimp only
        cases hc : l[i]? with
        | none => rfl
        | some c =>
          obtain ⟨t1, t2⟩ := th (c := c) fun d hd => Tcn hw hv (List.any_eq_true.2 ⟨c, List.mem_of_getElem? hc, by cases c <;> first | (simp [RV.ref, RV.sv, SV.ref] at hd; done) | simpa [RV.ref, RV.sv, SV.ref] using hd⟩)
          dsimp only
          rw [t1, t2]
      | p y => cases y <;> rfl
      | _ => rfl
  case ldr x =>
    have e1 := hx x (by simp [AOp.xs])
    simp only [eff, ← e1]
    cases hv : x.ev s with
    | none => rfl
    | some v =>
      cases v with
      | mp d' i j =>
        dsimp only
        rcases cases_ (hmp hv) with ⟨e, k, l, h1, h2⟩ | ⟨h1, h2⟩
        · rw [h1, h2]
          dsimp only
          cases hc : cellR l i j with
          | none => rfl
          | some c =>
            obtain ⟨t1, t2⟩ := th (c := c) fun d hd => hw.h _ _ d h1 (Tgk hc hd)
            dsimp only
            rw [t1, t2]
        · exact gen (fun e k l => match cellR l i j with | some c => if thereV s.h c.sv = true then some (⟨c.sv, []⟩ : Eff) else none | none => none) (a := get s.h d') (b := get s'.h d') (hmp hv) |>.trans (by
            have : ∀ {F G : Nat → Nat → List (List RV) → Option Eff}, (match get s'.h d' with | some (.gr e k l) => F e k l | _ => none) = (match get s'.h d' with | some (.gr e k l) => G e k l | _ => none) := by
              intro F G
              split
              · rename_i e k l hh; exact absurd hh (h2 e k l)
              · rfl
            exact this)
      | _ => rfl
  all_goals
    simp only [eff, AOp.xs, List.mem_cons, List.mem_nil_iff, or_false, forall_eq_or_imp, forall_eq] at hx ⊢
    first
    | (obtain ⟨e1, e2⟩ := hx
       simp only [← e1, ← e2])
    | simp only [← hx]
  case ldkr k x =>
    cases hv : x.ev s with
    | none => rfl
    | some v =>
      cases v with
      | mp d' i j => exact gen (fun _ _ l => match l[i]? with | some c => if j + k ≤ c.length then some (⟨.sst ((c.drop j).take k), []⟩ : Eff) else none | none => none) (hmp hv)
      | _ => rfl
  case nkr x =>
    cases hv : x.ev s with
    | none => rfl
    | some v =>
      cases v with
      | mp d' i j => exact gen (fun _ _ _ => some (⟨.mp d' i j, []⟩ : Eff)) (hmp hv)
      | _ => rfl
  case nlq ne x =>
    cases hv : x.ev s with
    | none => rfl
    | some v =>
      cases v with
      | mp d' i j => exact gen (fun _ _ _ => some (⟨.p (.sc (.bool ne)), []⟩ : Eff)) (hmp hv)
      | _ => rfl
  case far x off =>
    cases hv : x.ev s with
    | none => rfl
    | some v =>
      cases v with
      | mp d' i j => exact gen (fun _ _ _ => some (⟨.mp d' i (j + off), []⟩ : Eff)) (hmp hv)
      | _ => rfl
  case aar m x i =>
    cases hv : x.ev s with
    | none => rfl
    | some v =>
      cases v with
      | mp d' i' j =>
        cases i.ev s with
        | none => rfl
        | some w =>
          dsimp only
          cases natOf w with
          | none => rfl
          | some n => exact gen (fun _ _ _ => if n < m then some (⟨.mp d' i' (j + n), []⟩ : Eff) else none) (hmp hv)
      | _ => rfl
theorem Tpt {d : Nat} {f : FuncId} {vs : List SV} {cl : Bool} {e : Eff} (he : innE call s d f vs cl = some e) : ∀ q ∈ e.hs, get s.h q.1 = none ∧ 2000 ≤ q.1 % 100000 := by
 unfold innE at he
 split at he
 case h_2 => simp at he
 rename_i R hR
 split at he
 case isFalse => simp at he
 split at he
 case h_2 => simp at he
 rename_i r hc
 cases r with
 | shn v h' =>
  rw [Tc7] at he
  by_cases hcond : 2000 + 50 * d + h'.length ≤ 100000 ∧ okK h' R.length = true ∧ (v.refs.all fun i => decide (i < R.length + h'.length)) = true ∧ closeB h' (R.length + h'.length) = true
  case neg => rw [if_neg hcond] at he; simp at he
  rw [if_pos hcond] at he
  obtain ⟨c2, c3, c4, c5⟩ := hcond
  split at he
  case h_2 => simp at he
  rename_i fr hfr
  simp only [oIE] at he
  subst he
  obtain ⟨f1, f2, f3⟩ := Tej hfr c2
  intro q hq
  obtain ⟨q0, hq0, rfl⟩ := List.mem_map.1 hq
  have hm := Teu c3 q0 hq0
  have hmem : at0 (R ++ fr) q0.1 ∈ fr := by
   have : at0 (R ++ fr) q0.1 = at0 fr (q0.1 - R.length) := by
    unfold at0
    rw [List.getD_eq_getElem?_getD, List.getD_eq_getElem?_getD, List.getElem?_append_right hm.1]
   rw [this]
   exact Ta3 (by omega)
  obtain ⟨a1, a2, j, a3, a4, a5⟩ := f3 _ hmem
  exact ⟨a1, by dsimp only; omega⟩
 | _ => exact nomatch (show (none : Option Eff) = some e from he)
theorem Tmg {d : Nat} {o : AOp} (ho : o.isInn = true) {e : Eff} (he : eff call s d o = some e) : ∀ q ∈ e.hs, get s.h q.1 = none ∧ 2000 ≤ q.1 % 100000 := by
 cases o <;> first | (simp [AOp.isInn] at ho; done) | skip
 all_goals
  simp only [eff] at he
  split at he
  · exact Tpt he
  · simp at he
theorem Tdo {h h' : List (Nat × Ob)} : ∀ {n i : Nat}, (∀ c, 2000 ≤ c % 100000 → (get h c = none ↔ get h' c = none)) → 2000 ≤ i → i + n ≤ 100000 → freshs h n i = freshs h' n i
 | 0, i, _, _, _ => rfl
 | n + 1, i, hh, h1, h2 => by
  have e1 : newIdN h 8 i = newIdN h' 8 i := Tey 8 i fun j _ => hh _ (by omega)
  simp only [freshs, e1, Tdo (n := n) (i := i + 1) hh (by omega) (by omega)]
theorem Tb5 (hw : WF s) (hf : ∀ c, get s.h c ≠ none → Fz (get s.h c) (get s'.h c)) : ∀ (n : Nat) (todo acc : List Nat), (∀ d ∈ todo, get s.h d ≠ none) → reach s.h n todo acc = reach s'.h n todo acc
 | 0, _, _, _ => rfl
 | n + 1, [], _, _ => rfl
 | n + 1, d :: todo, acc, ht => by
  simp only [reach]
  split
  · exact Tb5 hw hf n todo acc fun e he => ht e (by simp [he])
  · have h0 := ht d (by simp)
    have h1 := hf d h0
    rcases h1.two with ⟨e, k, fz, fz', l, h2, h3⟩ | ⟨h2, _⟩
    · rw [h2, h3]
      dsimp only
      have : (Ob.row e k fz l).noPin = true ∧ (Ob.row e k fz' l).noPin = true := ⟨rfl, rfl⟩
      rw [if_pos this.1, if_pos this.2]
      exact Tb5 hw hf n _ _ fun c hc => by
       rcases List.mem_append.1 hc with hc | hc
       · exact ht c (by simp [hc])
       · simp [Ob.refs] at hc
    · rw [← h2]
      cases ho : get s.h d with
      | none => exact absurd ho h0
      | some o =>
       dsimp only
       split
       · exact Tb5 hw hf n _ _ fun c hc => by
          rcases List.mem_append.1 hc with hc | hc
          · exact ht c (by simp [hc])
          · exact hw.h d o c ho (Ob.mem_refs.1 hc)
       · rfl
theorem Tsu (hw : WF s) (hf : ∀ c, get s.h c ≠ none → Fz (get s.h c) (get s'.h c)) (hn : ∀ c, 2000 ≤ c % 100000 → (get s.h c = none ↔ get s'.h c = none)) {d : Nat} {f : FuncId} {l : List X} (hx : ∀ x ∈ l, x.ev s = x.ev s') : eff call s d (.inn f l) = eff call s' d (.inn f l) := by
 simp only [eff, ← Taq hx]
 cases hv : evs s l with
 | none => rfl
 | some vs =>
  dsimp only
  unfold innE
  have ht : ∀ d ∈ vs.flatMap SV.refs, get s.h d ≠ none := fun d hd => by
   obtain ⟨v, h1, h2⟩ := List.mem_flatMap.1 hd
   exact Te0 hw hv v h1 d (SV.mem_refs.1 h2)
  rw [← Tb5 hw hf 300 _ [] ht]
  cases hR : reach s.h 300 (vs.flatMap SV.refs) [] with
  | none => rfl
  | some R =>
   dsimp only
   obtain ⟨_, _, hRx, _⟩ := Tbl hR
   have hRe : ∀ d ∈ R, get s.h d ≠ none := fun d hd => by obtain ⟨o, q, _⟩ := hRx d hd; rw [q]; simp
   have hnr : noRow s.h R = noRow s'.h R := by
    unfold noRow
    apply Bool.eq_iff_iff.2
    rw [List.all_eq_true, List.all_eq_true]
    refine forall_congr' fun d => forall_congr' fun hd => ?_
    rcases (hf d (hRe d hd)).two with ⟨e, k, fz, fz', l, h2, h3⟩ | ⟨h2, _⟩
    · rw [h2, h3]
    · rw [h2]
   simp only [Bool.not_true, Bool.false_or]
   rw [← hnr]
   by_cases hc : noRow s.h R = true
   · rw [if_pos hc, if_pos hc]
     have hsame : ∀ d ∈ R, get s.h d = get s'.h d := fun d hd => by
      have h1 := List.all_eq_true.1 hc d hd
      rcases (hf d (hRe d hd)).two with ⟨e, k, fz, fz', l, h2, h3⟩ | ⟨h2, _⟩
      · rw [h2] at h1; simp at h1
      · exact h2
     have hsub : ∀ (R' : List Nat) (i : Nat), (∀ d ∈ R', get s.h d = get s'.h d) → subH s.h (pos R) R' i = subH s'.h (pos R) R' i := by
      intro R'
      induction R' with
      | nil => intro i _; rfl
      | cons d R' ih =>
       intro i hh
       simp only [subH, hh d (by simp)]
       rw [ih (i + 1) fun e he => hh e (by simp [he])]
     rw [hsub R 0 hsame]
     cases hcc : call (f + 2000000) [.hp (vs.map (·.mapr (pos R))) (subH s'.h (pos R) R 0)] with
     | none => rfl
     | some r =>
      dsimp only
      cases r with
      | shn v h' =>
       rw [Tc7, Tc7]
       by_cases hcond : 2000 + 50 * d + h'.length ≤ 100000 ∧ okK h' R.length = true ∧ (v.refs.all fun i => decide (i < R.length + h'.length)) = true ∧ closeB h' (R.length + h'.length) = true
       · rw [if_pos hcond, if_pos hcond, Tdo hn (by omega) hcond.1]
       · rw [if_neg hcond, if_neg hcond]
      | _ => rfl
   · rw [if_neg hc, if_neg hc]
theorem Tdi {o : AOper} (ho : o.o.quiet = true) {e : Eff} (h : pre call o s = some e) : e.hs = [] := by
 rcases Tcg h with h | rfl
 · exact Tmf ho h
 · rfl
theorem Te3 {o : AOper} (ho : o.o.isInn = true) {e : Eff} (h : pre call o s = some e) : ∀ q ∈ e.hs, get s.h q.1 = none ∧ 2000 ≤ q.1 % 100000 := by
 rcases Tcg h with h | rfl
 · exact Tmg ho h
 · intro q hq; simp at hq
theorem Tjw (hw : WF s) {a i : AOper} (hs : apartS a i = true) (hh : qpair a i = true ∨ qpair i a = true) {ea : Eff} (ha : pre call a s = some ea) : pre call i (app a s ea) = pre call i s := by
 have hr : ∀ n ∈ i.reads, get (app a s ea).t n = get s.t n := Te2 hs
 have hx := Tk1 hr
 have hx' : ∀ x ∈ i.o.xs, x.ev s = x.ev (app a s ea) := fun x h => (hx x h).symm
 refine Tfo hr ?_
 have byq : HsN s.h ea.hs → i.o.quiet = true → eff call (app a s ea) (i.d.getD 0) i.o = eff call s (i.d.getD 0) i.o := fun hn hq => (Tnw hw (fun c hc => hn.fz hc) hq hx').symm
 have nil : ea.hs = [] → eff call (app a s ea) (i.d.getD 0) i.o = eff call s (i.d.getD 0) i.o := fun he => Tgh call _ _ hx (by simp only [app, he, putAll])
 simp only [qpair, Bool.or_eq_true, Bool.and_eq_true, Bool.not_eq_true', decide_eq_true_eq] at hh
 rcases hh with (⟨q1, _⟩ | ⟨⟨q1, q2⟩, q3⟩) | (⟨q1, q2⟩ | ⟨⟨q1, q2⟩, q3⟩)
 · exact nil (Tdi q1 ha)
 ·
  have ha2 := Te3 (by cases ho : a.o <;> rw [ho] at q1 <;> first | rfl | (simp [AOp.isInc] at q1)) ha
  have hn : HsN s.h ea.hs := fun q hq => .inr (ha2 q hq).1
  refine (Tfn call _ _ q2 hx' (fun x hx0 v hv d hd => hn.fz (ev_id hw hv hd)) fun j _ => ?_).symm
  show get s.h _ = none ↔ get (putAll s.h ea.hs) _ = none
  constructor
  · intro h0
    rw [Ta5]
    split
    · rename_i o ho
      have := (ha2 _ (Tbc ho)).2
      dsimp only at this
      omega
    · exact h0
  · intro h0
    cases hg : get s.h (i.d.getD 0 + j * 100000) with
    | none => rfl
    | some x => exact absurd h0 (Tat ea.hs (by rw [hg]; simp))
 ·
  rcases q2 with (q2 | q2) | q2
  · exact nil (Tdi q2 ha)
  · exact byq (Tgl q2 ha).n q1
  · exact byq (fun q hq => .inr (Te3 q2 ha q hq).1) q1
 ·
  have hok := Tgl q2 ha
  cases ho : i.o <;> rw [ho] at q1 <;> first | (simp [AOp.isInc] at q1; done) | skip
  rename_i f l
  refine (Tsu hw (fun c hc => hok.n.fz hc) (fun c hc => ?_) fun x hxx => hx' x (by rw [ho]; exact hxx)).symm
  refine Tjr hok ?_
  rintro ⟨_, j, _, e1⟩
  omega
theorem Tmh {a i : AOper} (hh : qpair a i = true) {ea ei : Eff} (ha : pre call a s = some ea) (hi : pre call i s = some ei) :
 putAll (putAll s.h ea.hs) ei.hs = putAll (putAll s.h ei.hs) ea.hs := by
 simp only [qpair, Bool.or_eq_true, Bool.and_eq_true, Bool.not_eq_true', decide_eq_true_eq] at hh
 rcases hh with ⟨q1, _⟩ | ⟨⟨q1, q2⟩, q3⟩
 · rw [Tdi q1 ha]; rfl
 · have ha2 := Te3 (by cases ho : a.o <;> rw [ho] at q1 <;> first | rfl | (simp [AOp.isInc] at q1)) ha
   refine Tdb _ _ _ fun q hq r hr e => ?_
   exfalso
   obtain ⟨a1, a2⟩ := ha2 q hq
   rcases Tgl q2 hi r hr with ⟨e', k, fz, l, g1, _⟩ | ⟨_, ⟨_, j, _, g2⟩⟩
   · rw [← e, a1] at g1; simp at g1
   · rw [e] at a2
     omega
theorem Tpu {R fr : List Nat} {h h' : List (Nat × Ob)} {n i0 : Nat} (hf : freshs h n i0 = some fr) (hi : i0 + n ≤ 100000) (h0 : 2000 ≤ i0) {i : Nat} (h1 : R.length ≤ i) (h2 : i < R.length + n) : get h (at0 (R ++ fr) i) = none ∧ 2000 ≤ at0 (R ++ fr) i % 100000 := by
 obtain ⟨f1, f2, f3⟩ := Tej hf hi
 have hmem : at0 (R ++ fr) i ∈ fr := by
  have : at0 (R ++ fr) i = at0 fr (i - R.length) := by
   unfold at0
   rw [List.getD_eq_getElem?_getD, List.getD_eq_getElem?_getD, List.getElem?_append_right h1]
  rw [this]
  exact Ta3 (by omega)
 obtain ⟨a1, a2, j, a3, a4, a5⟩ := f3 _ hmem
 exact ⟨a1, by omega⟩
theorem Til {d : Nat} {f : FuncId} {vs : List SV} {e : Eff} (he : inlE call s d f vs = some e) : ∀ q ∈ e.hs, get s.h q.1 ≠ none ∨ 2000 ≤ q.1 % 100000 := by
 unfold inlE at he
 split at he
 case h_2 => simp at he
 rename_i R hR
 split at he
 case h_2 => simp at he
 rename_i r hc
 cases r with
 | shr v h' =>
  rw [Tek] at he
  by_cases hcond : R.length ≤ h'.length ∧ 2000 + 50 * d + (h'.length - R.length) ≤ 100000 ∧ okK h' 0 = true ∧ (v.refs.all fun i => decide (i < h'.length)) = true ∧ closeB h' h'.length = true
  case neg => rw [if_neg hcond] at he; simp at he
  rw [if_pos hcond] at he
  obtain ⟨c1, c2, c3, c4, c5⟩ := hcond
  split at he
  case h_2 => simp at he
  rename_i fr hfr
  simp only [oIE] at he
  subst he
  obtain ⟨_, _, hRx, _⟩ := Tbl hR
  intro q hq
  obtain ⟨q0, hq0, rfl⟩ := List.mem_map.1 hq
  have hm := Teu c3 q0 hq0
  by_cases hlt : q0.1 < R.length
  · left
    dsimp only
    rw [Teg hlt]
    obtain ⟨o, ho, _⟩ := hRx _ (Ta3 hlt)
    rw [ho]; simp
  · exact .inr (Tpu (h' := h') hfr c2 (by omega) (by omega) (by omega)).2
 | _ => exact nomatch (show (none : Option Eff) = some e from he)
theorem Tmi {d : Nat} {o : AOp} (ho : o.isShr = true) {e : Eff} (he : eff call s d o = some e) : ∀ q ∈ e.hs, get s.h q.1 ≠ none ∨ 2000 ≤ q.1 % 100000 := by
 cases o <;> first | (simp [AOp.isShr] at ho; done) | skip
 case inl f l =>
  simp only [eff] at he
  split at he
  · exact Til he
  · simp at he
 case inn f l =>
  simp only [eff] at he
  split at he
  · exact fun q hq => .inr (Tpt he q hq).2
  · simp at he
 case inq f l =>
  simp only [eff] at he
  split at he
  · exact fun q hq => .inr (Tpt he q hq).2
  · simp at he
 case cvs x l =>
  simp only [eff] at he
  split at he
  · exact Til he
  · exact Til he
  · simp at he
theorem Tuj {d : Nat} {o : AOp} (ho : o.isNew = true) {e : Eff} (he : eff call s d o = some e) : ∀ q ∈ e.hs, get s.h q.1 = none ∧ cand d q.1 := by
 cases o <;> first | (simp [AOp.isNew] at ho; done) | skip
 all_goals
  simp only [eff] at he
  split at he
  · simp only [oIE] at he
    subst he
    intro q hq
    simp only [List.mem_singleton] at hq
    subst hq
    exact Thp ‹newId _ _ = some _›
  · simp at he
theorem Tgn {h h' : List (Nat × Ob)} {f : Nat → Nat} : ∀ {R : List Nat} {i : Nat}, (∀ d ∈ R, get h d = get h' d) → subH h f R i = subH h' f R i
 | [], _, _ => rfl
 | d :: R, i, hh => by
  simp only [subH, hh d (by simp)]
  rw [Tgn (R := R) (i := i + 1) fun e he => hh e (by simp [he])]
theorem Tim (hw : WF s) (hf : ∀ c, get s.h c ≠ none → get s'.h c = get s.h c) (hn : ∀ c, 2000 ≤ c % 100000 → (get s.h c = none ↔ get s'.h c = none)) {d : Nat} {f : FuncId} {vs : List SV} (ht : ∀ d ∈ vs.flatMap SV.refs, get s.h d ≠ none) : inlE call s d f vs = inlE call s' d f vs := by
 unfold inlE
 have hrs := Tb5 (s := s) (s' := s') hw (fun c hc => by rw [hf c hc]; exact Fz.refl _) 300 (vs.flatMap SV.refs) [] ht
 rw [← hrs]
 cases hR : reach s.h 300 (vs.flatMap SV.refs) [] with
 | none => rfl
 | some R =>
  dsimp only
  obtain ⟨_, _, hRx, _⟩ := Tbl hR
  rw [Tgn (h := s.h) (h' := s'.h) fun d hd => by obtain ⟨o, q, _⟩ := hRx d hd; rw [hf d (by rw [q]; simp)]]
  cases hcc : call (f + 1000000) [.hp (vs.map (·.mapr (pos R))) (subH s'.h (pos R) R 0)] with
  | none => rfl
  | some r =>
   dsimp only
   cases r with
   | shr v h' =>
    rw [Tek, Tek]
    by_cases hcond : R.length ≤ h'.length ∧ 2000 + 50 * d + (h'.length - R.length) ≤ 100000 ∧ okK h' 0 = true ∧ (v.refs.all fun i => decide (i < h'.length)) = true ∧ closeB h' h'.length = true
    · rw [if_pos hcond, if_pos hcond, Tdo hn (by omega) hcond.2.1]
    · rw [if_neg hcond, if_neg hcond]
   | _ => rfl
theorem Tmj (hw : WF s) (hf : ∀ c, get s.h c ≠ none → get s'.h c = get s.h c) (hn : ∀ c, 2000 ≤ c % 100000 → (get s.h c = none ↔ get s'.h c = none)) {d : Nat} {f : FuncId} {vs : List SV} {cl : Bool} (ht : ∀ d ∈ vs.flatMap SV.refs, get s.h d ≠ none) : innE call s d f vs cl = innE call s' d f vs cl := by
 unfold innE
 have hrs := Tb5 (s := s) (s' := s') hw (fun c hc => by rw [hf c hc]; exact Fz.refl _) 300 (vs.flatMap SV.refs) [] ht
 rw [← hrs]
 cases hR : reach s.h 300 (vs.flatMap SV.refs) [] with
 | none => rfl
 | some R =>
  dsimp only
  obtain ⟨_, _, hRx, _⟩ := Tbl hR
  have hsm : ∀ d ∈ R, get s.h d = get s'.h d := fun d hd => by obtain ⟨o, q, _⟩ := hRx d hd; rw [hf d (by rw [q]; simp)]
  have hnr : noRow s.h R = noRow s'.h R := by
   unfold noRow
   apply Bool.eq_iff_iff.2
   rw [List.all_eq_true, List.all_eq_true]
   exact forall_congr' fun d => forall_congr' fun hd => by rw [hsm d hd]
  rw [Tgn hsm, hnr]
  by_cases hc : (!cl || noRow s'.h R) = true
  · rw [if_pos hc, if_pos hc]
    cases hcc : call (f + 2000000) [.hp (vs.map (·.mapr (pos R))) (subH s'.h (pos R) R 0)] with
    | none => rfl
    | some r =>
     dsimp only
     cases r with
     | shn v h' =>
      rw [Tc7, Tc7]
      by_cases hcond : 2000 + 50 * d + h'.length ≤ 100000 ∧ okK h' R.length = true ∧ (v.refs.all fun i => decide (i < R.length + h'.length)) = true ∧ closeB h' (R.length + h'.length) = true
      · rw [if_pos hcond, if_pos hcond, Tdo hn (by omega) hcond.1]
      · rw [if_neg hcond, if_neg hcond]
     | _ => rfl
  · rw [if_neg hc, if_neg hc]
theorem Tsv (hw : WF s) (hf : ∀ c, get s.h c ≠ none → get s'.h c = get s.h c) (hn : ∀ c, 2000 ≤ c % 100000 → (get s.h c = none ↔ get s'.h c = none)) {d : Nat} {o : AOp} (ho : o.isShr = true) (hx : ∀ x ∈ o.xs, x.ev s = x.ev s') : eff call s d o = eff call s' d o := by
 have ht : ∀ {l : List X} {vs : List SV}, evs s l = some vs → ∀ d ∈ vs.flatMap SV.refs, get s.h d ≠ none := fun hv d hd => by
  obtain ⟨v, h1, h2⟩ := List.mem_flatMap.1 hd
  exact Te0 hw hv v h1 d (SV.mem_refs.1 h2)
 cases o <;> first | (simp [AOp.isShr] at ho; done) | skip
 case inl f l =>
  have e1 : evs s l = evs s' l := Taq hx
  simp only [eff, ← e1]
  cases hv : evs s l with
  | none => rfl
  | some vs => exact Tim hw hf hn (ht hv)
 case inn f l =>
  have e1 : evs s l = evs s' l := Taq hx
  simp only [eff, ← e1]
  cases hv : evs s l with
  | none => rfl
  | some vs => exact Tmj hw hf hn (ht hv)
 case inq f l =>
  have e1 : evs s l = evs s' l := Taq hx
  simp only [eff, ← e1]
  cases hv : evs s l with
  | none => rfl
  | some vs => exact Tmj hw hf hn (ht hv)
 case cvs x l =>
  have e1 := hx x (by simp [AOp.xs])
  have e2 : evs s l = evs s' l := Taq fun y hy => hx y (by simp [AOp.xs, hy])
  simp only [eff, ← e1, ← e2]
  cases hv0 : x.ev s with
  | none => rfl
  | some v =>
   cases hv : evs s l with
   | none =>
    cases v with
    | p y => cases y <;> rfl
    | _ => rfl
   | some vs =>
    have hcap : ∀ (cs : List SV), (∀ u ∈ cs, ∀ d, u.ref d = true → v.ref d = true) → ∀ d ∈ (vs ++ cs).flatMap SV.refs, get s.h d ≠ none := fun cs hcs d hd => by
     obtain ⟨u, h1, h2⟩ := List.mem_flatMap.1 hd
     rcases List.mem_append.1 h1 with h1 | h1
     · exact Te0 hw hv u h1 d (SV.mem_refs.1 h2)
     · exact Tcn hw hv0 (hcs u h1 d (SV.mem_refs.1 h2))
    cases v with
    | fnv f cs =>
     exact Tim hw hf hn (hcap _ fun u hu d hd => by
      obtain ⟨r, hr, rfl⟩ := List.mem_map.1 hu
      exact List.any_eq_true.2 ⟨r, hr, by cases r <;> first | (simp [RV.ref, RV.sv, SV.ref] at hd; done) | simpa [RV.ref, RV.sv, SV.ref] using hd⟩)
    | p y =>
     cases y with
     | fn f cs =>
      exact Tim hw hf hn (hcap _ fun u hu d hd => by
       obtain ⟨r, hr, rfl⟩ := List.mem_map.1 hu
       simp [SV.ref] at hd)
     | _ => rfl
    | _ => rfl
theorem Tjx (hw : WF s) {a i : AOper} (hs : apartS a i = true) (hh : qpair2 a i = true ∨ qpair2 i a = true) {ea : Eff} (ha : pre call a s = some ea) : pre call i (app a s ea) = pre call i s := by
 have hr : ∀ n ∈ i.reads, get (app a s ea).t n = get s.t n := Te2 hs
 have hx := Tk1 hr
 have hx' : ∀ x ∈ i.o.xs, x.ev s = x.ev (app a s ea) := fun x h => (hx x h).symm
 refine Tfo hr ?_
 simp only [qpair2, Bool.and_eq_true, decide_eq_true_eq] at hh
 rcases hh with ⟨⟨q1, q2⟩, q3⟩ | ⟨⟨q1, q2⟩, q3⟩
 ·
  have hk : ∀ q ∈ ea.hs, get s.h q.1 ≠ none ∨ 2000 ≤ q.1 % 100000 := by
   rcases Tcg ha with he | rfl
   · exact Tmi q1 he
   · intro q hq; simp at hq
  have hnn : newId s.h (i.d.getD 0) = newId (app a s ea).h (i.d.getD 0) := Tjq fun j _ => by
   show get s.h _ = none ↔ get (putAll s.h ea.hs) _ = none
   constructor
   · intro h0
     rw [Ta5]
     split
     · rename_i o ho
       rcases hk _ (Tbc ho) with h | h
       · exact absurd h0 h
       · dsimp only at h; omega
     · exact h0
   · intro h0
     cases hg : get s.h (i.d.getD 0 + j * 100000) with
     | none => rfl
     | some x => exact absurd h0 (Tat ea.hs (by rw [hg]; simp))
  cases ho : i.o <;> rw [ho] at q2 <;> first | (simp [AOp.isNew] at q2; done) | skip
  all_goals simp only [eff, hnn]
 · have hk : ∀ q ∈ ea.hs, get s.h q.1 = none ∧ cand (a.d.getD 0) q.1 := by
    rcases Tcg ha with he | rfl
    · exact Tuj q2 he
    · intro q hq; simp at hq
   refine (Tsv hw (fun c hc => ?_) (fun c hc => ?_) q1 hx').symm
   · show get (putAll s.h ea.hs) c = _
     rw [Ta5]
     split
     · rename_i o ho; exact absurd (hk _ (Tbc ho)).1 hc
     · rfl
   · show get s.h c = none ↔ get (putAll s.h ea.hs) c = none
     constructor
     · intro h0
       rw [Ta5]
       split
       · rename_i o ho
         obtain ⟨_, _, j, _, e1⟩ := hk _ (Tbc ho)
         dsimp only at e1
         omega
       · exact h0
     · intro h0
       cases hg : get s.h c with
       | none => rfl
       | some x => exact absurd h0 (Tat ea.hs (by rw [hg]; simp))
theorem Tmk {a i : AOper} (hh : qpair2 a i = true) {ea ei : Eff} (ha : pre call a s = some ea) (hi : pre call i s = some ei) :
 putAll (putAll s.h ea.hs) ei.hs = putAll (putAll s.h ei.hs) ea.hs := by
 simp only [qpair2, Bool.and_eq_true, decide_eq_true_eq] at hh
 obtain ⟨⟨q1, q2⟩, q3⟩ := hh
 refine Tdb _ _ _ fun q hq r hr e => ?_
 exfalso
 have k2 : get s.h r.1 = none ∧ cand (i.d.getD 0) r.1 := by
  rcases Tcg hi with he | rfl
  · exact Tuj q2 he r hr
  · simp at hr
 have k1 : get s.h q.1 ≠ none ∨ 2000 ≤ q.1 % 100000 := by
  rcases Tcg ha with he | rfl
  · exact Tmi q1 he q hq
  · simp at hq
 obtain ⟨g1, _, j, _, g2⟩ := k2
 rcases k1 with k1 | k1
 · rw [e] at k1; exact k1 g1
 · rw [e] at k1; omega
theorem Tml (hw : WF s) {a i : AOper} (hs : apartS a i = true) (hh : apartH a i = true) {ea : Eff} (ha : pre call a s = some ea) : pre call i (app a s ea) = pre call i s := by
 simp only [apartH, Bool.or_eq_true] at hh
 rcases hh with (((hh | hh) | hh) | hh) | hh
 · exact Tps hw hs hh ha
 · exact Tjw hw hs (.inl hh) ha
 · exact Tjw hw hs (.inr hh) ha
 · exact Tjx hw hs (.inl hh) ha
 · exact Tjx hw hs (.inr hh) ha
theorem Tk4 {a i : AOper} (h : apartH a i = true) : apartH i a = true := by
 simp only [apartH, Bool.or_eq_true] at h ⊢
 rcases h with (((h | h) | h) | h) | h
 · exact .inl (.inl (.inl (.inl (Tjv h))))
 · exact .inl (.inl (.inr h))
 · exact .inl (.inl (.inl (.inr h)))
 · exact .inr h
 · exact .inl (.inr h)
theorem Tv7 {a i : AOper} (hh : apartH a i = true) {ea ei : Eff} (ha : pre call a s = some ea) (hi : pre call i s = some ei) :
 putAll (putAll s.h ea.hs) ei.hs = putAll (putAll s.h ei.hs) ea.hs := by
 simp only [apartH, Bool.or_eq_true] at hh
 rcases hh with (((hh | hh) | hh) | hh) | hh
 · exact Tst hh ha hi
 · exact Tmh hh ha hi
 · exact (Tmh hh hi ha).symm
 · exact Tmk hh ha hi
 · exact (Tmk hh hi ha).symm
theorem Tv8 {a i : AOper} (h : apartS a i = true) (v u : SV) (n : Nat) : get (puts (puts s.t a.d v) i.d u) n = get (puts (puts s.t i.d u) a.d v) n := by
 cases ha : a.d with
 | none => rfl
 | some d =>
  cases hi : i.d with
  | none => rfl
  | some e =>
   have hne : e ≠ d := by simp only [apartS, ha, hi, Bool.and_eq_true, bne_iff_ne] at h; exact h.2
   simp only [puts, Ta9]
   by_cases h1 : d = n
   · subst h1; simp [hne]
   · simp [h1]
theorem swap (hw : WF s) {a i : AOper} (hin : indep a i = true) {s1 s2 : St} (h1 : step call a s = some s1) (h2 : step call i s1 = some s2) :
 ∃ s1' s2', step call i s = some s1' ∧ step call a s1' = some s2' ∧ Eqv s2 s2' := by
 simp only [indep, Bool.and_eq_true] at hin
 obtain ⟨⟨ha, hi⟩, hh⟩ := hin
 rw [Tda] at h1 h2
 cases pa : pre call a s with
 | none => rw [pa] at h1; simp at h1
 | some ea =>
  rw [pa] at h1
  simp only [Option.map_some, oIE] at h1
  subst h1
  rw [Tml hw ha hh pa] at h2
  cases pi : pre call i s with
  | none => rw [pi] at h2; simp at h2
  | some ei =>
   rw [pi] at h2
   simp only [Option.map_some, oIE] at h2
   subst h2
   refine ⟨app i s ei, app a (app i s ei) ea, by rw [Tda, pi]; rfl, ?_, ?_⟩
   · rw [Tda, Tml hw hi (Tk4 hh) pi, pa]; rfl
   · exact ⟨fun n => Tv8 ha ea.v ei.v n, Tv7 hh pa pi⟩
end
end Go.Proofs.YtjpibniecllafaaGreat.AM
end
section
namespace Go.Proofs.YtjpibniecllafaaGreat.AM
open Go Go.RowKit
section
variable {s s' : St} {call : Call}
theorem WF.step (hw : WF s) {o : AOper} (h : step call o s = some s') : WF s' := by
 rw [Tda] at h
 cases hp : pre call o s with
 | none => rw [hp] at h; simp at h
 | some e =>
  rw [hp] at h
  simp only [Option.map_some, oIE] at h
  subst h
  have hr : RefE s e := by
   rcases Tcg hp with he | rfl
   · exact Tv4 hw he
   · exact .ng (fun d hd => by simp [SV.ref, undefS] at hd) rfl
  refine ⟨fun n v d hn hd => ?_, hw.put hr.h⟩
  have old : get s.t n = some v → get (app o s e).h d ≠ none := fun hn => Tat e.hs (hw.t n v d hn hd)
  cases hod : o.d with
  | none => exact old (by simpa [app, hod, puts] using hn)
  | some k =>
   simp only [app, hod, puts, Ta9] at hn
   split at hn
   · simp only [oIE] at hn
     subst hn
     exact hr.v d hd
   · exact old hn
theorem Tsw {t t' : List (Nat × SV)} (e : ∀ n, get t n = get t' n) (d : Option Nat) (v : SV) (n : Nat) : get (puts t d v) n = get (puts t' d v) n := by
 cases d with
 | none => exact e n
 | some d => simp only [puts, Ta9, e]
theorem Eqv.step (E : Eqv s s') {o : AOper} {s1 : St} (h : step call o s = some s1) : ∃ s1', AM.step call o s' = some s1' ∧ Eqv s1 s1' := by
 rw [Tda] at h
 have hp : pre call o s = pre call o s' := Tfo (fun n _ => E.1 n) (Tgh call _ _ (fun x _ => E.ev x) E.2)
 cases he : pre call o s with
 | none => rw [he] at h; simp at h
 | some e =>
  rw [he] at h
  simp only [Option.map_some, oIE] at h
  subst h
  exact ⟨app o s' e, by rw [Tda, ← hp, he]; rfl, fun n => Tsw E.1 _ _ n, by simp only [app, E.2]⟩
theorem Eqv.steps : ∀ {os : List AOper} {s s' s1 : St}, Eqv s s' → steps call os s = some s1 → ∃ s1', AM.steps call os s' = some s1' ∧ Eqv s1 s1'
 | [], s, s', s1, E, h => by
  simp only [AM.steps, oIE] at h
  subst h
  exact ⟨s', rfl, E⟩
 | o :: os, s, s', s1, E, h => by
  simp only [AM.steps] at h
  cases h1 : AM.step call o s with
  | none => rw [h1] at h; simp at h
  | some s2 =>
   rw [h1] at h
   obtain ⟨s2', k1, k2⟩ := E.step h1
   obtain ⟨s3, k3, k4⟩ := k2.steps h
   exact ⟨s3, by simp only [AM.steps, k1]; exact k3, k4⟩
theorem front {i : AOper} {B : List AOper} : ∀ {A : List AOper} {s sn : St}, WF s → (∀ a ∈ A, indep a i = true) → steps call (A ++ i :: B) s = some sn → ∃ s1 sn', step call i s = some s1 ∧ steps call (A ++ B) s1 = some sn' ∧ Eqv sn sn'
 | [], s, sn, hw, hA, h => by
  simp only [List.nil_append, steps] at h
  cases h1 : step call i s with
  | none => rw [h1] at h; simp at h
  | some s1 => rw [h1] at h; exact ⟨s1, sn, rfl, h, Eqv.refl _⟩
 | a :: A, s, sn, hw, hA, h => by
  simp only [List.cons_append, steps] at h
  cases ha : step call a s with
  | none => rw [ha] at h; simp at h
  | some sa =>
   rw [ha] at h
   obtain ⟨sai, sn1, k1, k2, k3⟩ := front (hw.step ha) (fun x hx => hA x (by simp [hx])) h
   obtain ⟨si, sia, m1, m2, m3⟩ := swap hw (hA a (by simp)) ha k1
   obtain ⟨sn2, n1, n2⟩ := m3.steps k2
   exact ⟨si, sn2, m1, by simp only [List.cons_append, steps, m2]; exact n1, k3.trans n2⟩
def pickL (aos : List AOper) (l : List Nat) : List AOper := l.filterMap fun i => aos[i]?
theorem Te4 : ∀ (aos : List AOper), pickL aos (List.range aos.length) = aos
 | [] => rfl
 | a :: aos => by
  have ih := Te4 aos
  unfold pickL at ih ⊢
  rw [List.length_cons, List.range_succ_eq_map, List.filterMap_cons]
  simp only [List.getElem?_cons_zero, List.filterMap_map]
  congr 1
def rem (n : Nat) (listed : Array Bool) : List Nat := (List.range n).filter fun i => !listed.getD i true
theorem Tsx {n i : Nat} {listed : Array Bool} (hi : i < n) (hl : listed.getD i true = false) :
 ∃ A B, rem n listed = A ++ i :: B ∧ rem n (listed.setIfInBounds i true) = A ++ B ∧ ∀ j ∈ A, j < i ∧ listed.getD j true = false := by
 obtain ⟨X, Y, hXY⟩ := List.append_of_mem (List.mem_range.2 hi)
 have hp : List.Pairwise (· < ·) (X ++ i :: Y) := hXY ▸ List.pairwise_lt_range
 obtain ⟨_, hp2, hp3⟩ := List.pairwise_append.1 hp
 have hX : ∀ j ∈ X, j < i := fun j hj => hp3 j hj i (by simp)
 have hY : ∀ j ∈ Y, i < j := fun j hj => (List.pairwise_cons.1 hp2).1 j hj
 have hisz : i < listed.size := by
  rcases Nat.lt_or_ge i listed.size with h | h
  · exact h
  · simp [Array.getElem?_eq_none h] at hl
 have keep : ∀ (l : List Nat), (∀ j ∈ l, j ≠ i) → l.filter (fun j => !(listed.setIfInBounds i true).getD j true) = l.filter (fun j => !listed.getD j true) := fun l hl => by
  refine List.filter_congr fun j hj => ?_
  rw [getD_set_ne true (Ne.symm (hl j hj))]
 refine ⟨X.filter fun j => !listed.getD j true, Y.filter fun j => !listed.getD j true, ?_, ?_, ?_⟩
 · unfold rem
   rw [hXY, List.filter_append, List.filter_cons_of_pos (by simp only [hl]; rfl)]
 · unfold rem
   rw [hXY, List.filter_append, List.filter_cons_of_neg (by simp [hisz]), keep X fun j hj => Nat.ne_of_lt (hX j hj), keep Y fun j hj => Nat.ne_of_gt (hY j hj)]
 · intro j hj
   rw [List.mem_filter] at hj
   exact ⟨hX j hj.1, by simpa using hj.2⟩
end
section
variable {ops : List Oper}
theorem Tpv (md : Region.Mode) (acc : List Nat) (j : Nat) : ∀ (es : List Edge) (m : Nat), (es.foldl (fun m e => if Region.binds md e then m ||| (1 <<< e.on) ||| acc.getD e.on 0 else m) m).testBit j = true →
 m.testBit j = true ∨ ∃ e ∈ es, Region.binds md e = true ∧ (e.on = j ∨ (acc.getD e.on 0).testBit j = true)
 | [], m, h => .inl h
 | e :: es, m, h => by
  rw [List.foldl_cons] at h
  rcases Tpv md acc j es _ h with h | ⟨e', he', hb⟩
  · split at h
    · rename_i hb
      rw [Nat.testBit_or, Nat.testBit_or, Bool.or_eq_true, Bool.or_eq_true] at h
      rcases h with (h | h) | h
      · exact .inl h
      · refine .inr ⟨e, by simp, hb, .inl ?_⟩
        rw [Nat.shiftLeft_eq, Nat.one_mul, Nat.testBit_two_pow] at h
        simpa using h
      · exact .inr ⟨e, by simp, hb, .inr h⟩
    · exact .inl h
  · exact .inr ⟨e', by simp [he'], hb⟩
theorem Tmm (md : Region.Mode) : ∀ (os : List Oper) (n : Nat) (acc : List Nat), (∀ i, i < acc.length → (befs md os n acc)[i]? = acc[i]?) ∧
 ∀ (i : Nat) (o : Oper), os[i]? = some o → ∃ pre : List Nat, pre.length = acc.length + i ∧ (∀ j, j < pre.length → (befs md os n acc)[j]? = pre[j]?) ∧
  (befs md os n acc)[acc.length + i]? = some (o.after.toList.foldl (fun m e => if Region.binds md e then m ||| (1 <<< e.on) ||| pre.getD e.on 0 else m) 0)
 | [], n, acc => ⟨fun i _ => rfl, fun i o h => by simp at h⟩
 | o :: os, n, acc => by
  obtain ⟨h1, h2⟩ := Tmm md os (n + 1) (acc ++ [o.after.toList.foldl (fun m e => if Region.binds md e then m ||| (1 <<< e.on) ||| acc.getD e.on 0 else m) 0])
  refine ⟨fun i hi => ?_, fun i o' ho => ?_⟩
  · simp only [befs]
    rw [h1 i (by simp; omega), List.getElem?_append_left hi]
  · cases i with
    | zero =>
     simp only [List.getElem?_cons_zero, oIE] at ho
     subst ho
     refine ⟨acc, rfl, fun j hj => ?_, ?_⟩
     · simp only [befs]
       rw [h1 j (by simp; omega), List.getElem?_append_left hj]
     · simp only [befs]
       rw [h1 _ (by simp)]
       simp
    | succ i =>
     simp only [List.getElem?_cons_succ] at ho
     obtain ⟨pre, k1, k2, k3⟩ := h2 i o' ho
     refine ⟨pre, ?_, ?_, ?_⟩
     · rw [k1]; simp; omega
     · simpa only [befs] using k2
     · simp only [befs]
       rw [← k3]
       congr 1
       simp; omega
theorem Tgo (md : Region.Mode) : ∀ (os : List Oper) (n : Nat), backs md os n = true → ∀ (i : Nat) (o : Oper), os[i]? = some o → ∀ e ∈ o.after, Region.binds md e = true → e.on < n + i
 | [], n, h, i, o, ho => by simp at ho
 | o :: os, n, h, i, o', ho => by
  simp only [backs, Bool.and_eq_true] at h
  cases i with
  | zero =>
   simp only [List.getElem?_cons_zero, oIE] at ho
   subst ho
   intro e he hb
   have := List.all_eq_true.1 h.1 e (by simpa using he)
   simpa [hb] using this
  | succ i =>
   simp only [List.getElem?_cons_succ] at ho
   intro e he hb
   have := Tgo md os (n + 1) h.2 i o' ho e he hb
   omega
def Closed (ops : List Oper) (listed : Array Bool) : Prop := ∀ (j : Nat) (o : Oper), ops[j]? = some o → listed.getD j false = true → ∀ e ∈ o.after, Region.binds .any e = true → listed.getD e.on false = true
theorem Tnx {listed : Array Bool} (hc : Closed ops listed) (hb : backs .any ops 0 = true) : ∀ (i : Nat) (o : Oper), ops[i]? = some o → (∀ e ∈ o.after, Region.binds .any e = true → listed.getD e.on false = true) →
 ∀ j, ((befs .any ops 0 [])[i]?.getD 0).testBit j = true → listed.getD j false = true := by
 intro i
 induction i using Nat.strongRecOn with
 | ind i ih =>
  intro o ho hall j hj
  obtain ⟨pre, k1, k2, k3⟩ := (Tmm .any ops 0 []).2 i o ho
  simp only [List.length_nil, Nat.zero_add] at k1 k3
  rw [k3] at hj
  rcases Tpv .any pre j _ 0 hj with h | ⟨e, he, hbe, h⟩
  · simp at h
  · have hl := hall e (by simpa using he) hbe
    rcases h with rfl | h
    · exact hl
    · have hlt := Tgo .any ops 0 hb i o ho e (by simpa using he) hbe
      simp only [Nat.zero_add] at hlt
      have hon : ∃ o', ops[e.on]? = some o' := by
       have : i < ops.length := (List.getElem?_eq_some_iff.1 ho).1
       exact ⟨ops[e.on]'(by omega), List.getElem?_eq_getElem _⟩
      obtain ⟨o', ho'⟩ := hon
      refine ih e.on hlt o' ho' (hc e.on o' ho' hl) j ?_
      rw [k2 _ (by omega)]
      rw [List.getD_eq_getElem?_getD] at h
      exact h
theorem Thq {m : Nat} {i : AOper} : ∀ {aos : List AOper} {n : Nat}, okPair m i aos n = true → ∀ (j : Nat) (a : AOper), aos[j]? = some a → m.testBit (n + j) = true ∨ indep a i = true
 | [], n, h, j, a, ha => by simp at ha
 | b :: aos, n, h, j, a, ha => by
  simp only [okPair, Bool.and_eq_true, Bool.or_eq_true] at h
  cases j with
  | zero =>
   simp only [List.getElem?_cons_zero, oIE] at ha
   subst ha
   exact h.1
  | succ j =>
   simp only [List.getElem?_cons_succ] at ha
   have := Thq h.2 j a ha
   rwa [show n + 1 + j = n + (j + 1) by omega] at this
theorem Tgp : ∀ {ms : List Nat} {seen aos : List AOper}, okPairs ms seen aos = true → ms.length = aos.length → ∀ (i : Nat) (ai : AOper), aos[i]? = some ai → ∀ (j : Nat) (aj : AOper), (seen ++ aos)[j]? = some aj → j < seen.length + i → (ms[i]?.getD 0).testBit j = true ∨ indep aj ai = true
 | [], seen, aos, h, hl, i, ai, hi => by
  cases aos with
  | nil => simp at hi
  | cons a aos => simp at hl
 | m :: ms, seen, [], h, hl, i, ai, hi => by simp at hi
 | m :: ms, seen, a :: aos, h, hl, i, ai, hi => by
  simp only [okPairs, Bool.and_eq_true] at h
  intro j aj hj hlt
  cases i with
  | zero =>
   simp only [List.getElem?_cons_zero, oIE] at hi
   subst hi
   rw [List.getElem?_append_left (by omega)] at hj
   have := Thq h.1 j aj hj
   simpa using this
  | succ i =>
   simp only [List.getElem?_cons_succ] at hi
   have := Tgp h.2 (by simpa using hl) i ai hi j aj (by simpa using hj) (by simp; omega)
   simpa using this
end
section
variable {P : Program} {base : Nat} {w0 : World} {lm0 : L0} {N : Nat} {g : Gs} {a : Act} {w : World} {s : St} {call : Call} {Q : Exit → Act → World → Prop} {ops : Array Oper}
theorem Sim.wf (S : Sim base w0 lm0 N g a w s) : WF s := by
 refine ⟨fun n v d hn hd => ?_, fun x o d hx hd => ?_⟩
 · obtain ⟨u, _, hr⟩ := S.tm n v hn
   obtain ⟨o, ho, _⟩ := hr.there hd
   rw [ho]; simp
 · cases o with
   | gr e k l =>
    obtain ⟨_, _, ⟨xs, h3, _⟩, _⟩ := S.ob x _ hx
    have hq := S.gs x e k l xs hx h3
    have key : ∀ (l : List RV) (us : List Value), QRepL w g (get s.h) l us → (l.any (·.ref d)) = true → get s.h d ≠ none := by
     intro l us hq
     induction hq with
     | nil => intro h; simp at h
     | cons a b ih =>
      intro h
      simp only [List.any_cons, Bool.or_eq_true] at h
      rcases h with h | h
      · rename_i r _ _ _
        obtain ⟨o, ho, _⟩ := SRep.there (v := r.sv) (QRep.sv.1 a) (e := d) (by cases r <;> first | (simp [RV.ref, RV.sv, SV.ref] at h; done) | simpa [RV.ref, RV.sv, SV.ref] using h)
        rw [ho]; simp
      · exact ih h
    refine key _ _ hq ?_
    obtain ⟨c, hc, h2⟩ := List.any_eq_true.1 hd
    obtain ⟨r, hr, h3⟩ := List.any_eq_true.1 h2
    exact List.any_eq_true.2 ⟨r, List.mem_flatten.2 ⟨c, hc, hr⟩, h3⟩
   | _ => simp [Ob.ref] at hd
theorem Sim.eqv (S : Sim base w0 lm0 N g a w s) {s' : St} (E : Eqv s s') : Sim base w0 lm0 N g a w s' :=
 S.less (fun n v h => by rw [E.1]; exact h) (fun d o h => by rw [E.2]; exact h) (fun n v d _ _ => by rw [E.2]) (fun _ _ d _ _ => by rw [E.2]) (fun d _ => by rw [E.2])
theorem Tel : ∀ {os : List Oper} {aos : List AOper}, okOps P N ops os aos = true → os.length = aos.length ∧ ∀ (i : Nat) (o : Oper), os[i]? = some o → ∃ ao, aos[i]? = some ao ∧ okOper P N ops o ao = true
 | [], [], h => ⟨rfl, fun i o ho => by simp at ho⟩
 | [], a :: aos, h => by simp [okOps] at h
 | o :: os, [], h => by simp [okOps] at h
 | o :: os, a :: aos, h => by
  simp only [okOps, Bool.and_eq_true] at h
  obtain ⟨h1, h2⟩ := Tel h.2
  refine ⟨by simp [h1], fun i o' ho => ?_⟩
  cases i with
  | zero =>
   simp only [List.getElem?_cons_zero, oIE] at ho
   subst ho
   exact ⟨a, rfl, h.1⟩
  | succ i =>
   simp only [List.getElem?_cons_succ] at ho ⊢
   exact h2 i o' ho
theorem Tmn (hG : Good P call) {aos : List AOper} (hok : okOps P N ops ops.toList aos = true) {sn : St} (hK : ∀ g' a' w', Sim base w0 lm0 N g' a' w' sn → Q .normal a' w') :
 ∀ (l : List Nat) {g : Gs} {a : Act} {w : World} {s : St}, (∀ i ∈ l, i < ops.size) → Sim base w0 lm0 N g a w s → steps call (pickL aos l) s = some sn → wpOps P ops Q l a w
 | [], g, a, w, s, hl, S, h => by
  simp only [pickL, List.filterMap_nil, steps, oIE] at h
  subst h
  exact hK g a w S
 | i :: l, g, a, w, s, hl, S, h => by
  have hi : i < ops.size := hl i (by simp)
  obtain ⟨ao, h1, h2⟩ := (Tel hok).2 i ops[i] (by simp [hi])
  simp only [pickL, List.filterMap_cons, h1, steps] at h
  rw [wpOps_cons]
  cases hs : step call ao s with
  | none => rw [hs] at h; simp at h
  | some s1 =>
   rw [hs] at h
   exact Thn S hG (Array.getElem?_eq_getElem hi) h2 hs fun g' a' w' S' => Tmn hG hok hK l (fun j hj => hl j (by simp [hj])) S' h
theorem Tny {listed : Array Bool} (hb : backs .any ops.toList 0 = true) : ∀ n, n < ops.size → listed.getD n true = false → ∃ i, i ∈ Region.ready .any ops listed := by
 intro n
 induction n using Nat.strongRecOn with
 | ind n ih =>
  intro hn hl
  by_cases h : ∀ e ∈ ops[n].after, Region.binds .any e = true → listed.getD e.on false = true
  · exact ⟨n, mem_ready.2 ⟨hl, ops[n], Array.getElem?_eq_getElem hn, h⟩⟩
  · have : ∃ e, e ∈ ops[n].after ∧ Region.binds .any e = true ∧ listed.getD e.on false ≠ true := by
     apply Classical.byContradiction
     intro hno
     exact h fun e he hbe => Classical.byContradiction fun hx => hno ⟨e, he, hbe, hx⟩
    obtain ⟨e, he, hbe, hx⟩ := this
    have hlt := Tgo .any ops.toList 0 hb n ops[n] (by simp [hn]) e he hbe
    simp only [Nat.zero_add] at hlt
    by_cases hsz : e.on < listed.size
    · refine ih e.on hlt (by omega) ?_
      simp [hsz] at hx ⊢
      exact hx
    ·
     exfalso
     simp [Array.getElem?_eq_none (show listed.size ≤ n by omega)] at hl
theorem Tv9 (hG : Good P call) {aos : List AOper} (hok : okOps P N ops ops.toList aos = true) (hord : okOrder ops.toList aos = true) {sn : St} (hK : ∀ g' a' w', Sim base w0 lm0 N g' a' w' sn → Q .normal a' w') :
 ∀ (fuel : Nat) {listed : Array Bool} {g : Gs} {a : Act} {w : World} {s : St}, Closed ops.toList listed → (rem ops.size listed).length ≤ fuel → Sim base w0 lm0 N g a w s → (∃ sn', steps call (pickL aos (rem ops.size listed)) s = some sn' ∧ Eqv sn sn') → wpAny P .any ops Q fuel listed a w := by
 simp only [okOrder, Bool.and_eq_true] at hord
 obtain ⟨hb, hpairs⟩ := hord
 have nil : ∀ {listed : Array Bool} {g : Gs} {a : Act} {w : World} {s : St}, rem ops.size listed = [] → Sim base w0 lm0 N g a w s → (∃ sn', steps call (pickL aos (rem ops.size listed)) s = some sn' ∧ Eqv sn sn') → Q .normal a w := by
  rintro listed g a w s hr S ⟨sn', h1, h2⟩
  rw [hr] at h1
  simp only [pickL, List.filterMap_nil, steps, oIE] at h1
  subst h1
  exact hK g a w (S.eqv h2.symm)
 have emp : ∀ {listed : Array Bool}, Region.ready .any ops listed = [] → rem ops.size listed = [] := by
  intro listed hr
  cases hrem : rem ops.size listed with
  | nil => rfl
  | cons i l =>
   exfalso
   have hm : i ∈ rem ops.size listed := by rw [hrem]; simp
   unfold rem at hm
   rw [List.mem_filter, List.mem_range] at hm
   obtain ⟨j, hj⟩ := Tny hb i hm.1 (by simpa using hm.2)
   rw [hr] at hj
   cases hj
 intro fuel
 induction fuel with
 | zero =>
  intro listed g a w s hc hl S hs
  have hr : rem ops.size listed = [] := List.length_eq_zero_iff.1 (by omega)
  refine ⟨?_, nil hr S hs⟩
  cases hrd : Region.ready .any ops listed with
  | nil => rfl
  | cons i l =>
   exfalso
   have hi : i ∈ Region.ready .any ops listed := by rw [hrd]; simp
   obtain ⟨h0, o, ho, _⟩ := mem_ready.1 hi
   have : i ∈ rem ops.size listed := by
    unfold rem
    rw [List.mem_filter, List.mem_range]
    exact ⟨(Array.getElem?_eq_some_iff.1 ho).1, by simp only [h0]; rfl⟩
   rw [hr] at this
   cases this
 | succ fuel ih =>
  intro listed g a w s hc hl S hs
  refine ⟨fun hr => nil (emp hr) S hs, fun i hi => ?_⟩
  obtain ⟨h0, o, ho, hall⟩ := mem_ready.1 hi
  have hin : i < ops.size := (Array.getElem?_eq_some_iff.1 ho).1
  obtain ⟨A, B, r1, r2, r3⟩ := Tsx hin h0
  obtain ⟨hlen, hget⟩ := Tel hok
  have hoi : ops.toList[i]? = some o := by simpa using ho
  obtain ⟨ao, ha1, ha2⟩ := hget i o hoi
  obtain ⟨sn', hs1, hs2⟩ := hs
  rw [r1] at hs1
  have e1 : pickL aos (A ++ i :: B) = pickL aos A ++ ao :: pickL aos B := by simp [pickL, ha1]
  have e2 : pickL aos (A ++ B) = pickL aos A ++ pickL aos B := by simp [pickL]
  rw [e1] at hs1
  have hind : ∀ x ∈ pickL aos A, indep x ao = true := by
   intro x hx
   obtain ⟨j, hjA, hj⟩ := List.mem_filterMap.1 hx
   obtain ⟨q1, q2⟩ := r3 j hjA
   have hbl : (befs .any ops.toList 0 []).length = aos.length := by
    have : ∀ (os : List Oper) (n : Nat) (acc : List Nat), (befs .any os n acc).length = acc.length + os.length := by
     intro os
     induction os with
     | nil => intro n acc; simp [befs]
     | cons o os ih => intro n acc; rw [befs, ih]; simp; omega
    rw [this, List.length_nil, Nat.zero_add, hlen]
   rcases Tgp hpairs hbl i ao ha1 j x (by simpa using hj) (by simpa using q1) with h | h
   · have := Tnx hc hb i o hoi hall j h
     exfalso
     have hsz : j < listed.size := by
      rcases Nat.lt_or_ge j listed.size with h | h
      · exact h
      · simp [Array.getElem?_eq_none h] at this
     simp [hsz] at this q2
     rw [this] at q2
     cases q2
   · exact h
  obtain ⟨s1, sn2, k1, k2, k3⟩ := front S.wf hind hs1
  refine Thn S hG ho ha2 k1 fun g' a' w' S' => ih ?_ ?_ S' ⟨sn2, ?_, hs2.trans k3⟩
  · intro j oj hoj hlj e he hbe
    by_cases hji : j = i
    · subst hji
      rw [hoi] at hoj
      obtain rfl := oIj hoj
      exact getD_set_true (hall e he hbe)
    · rw [getD_set_ne false (Ne.symm hji)] at hlj
      exact getD_set_true (hc j oj hoj hlj e he hbe)
  · rw [r2]
    rw [r1] at hl
    simp at hl ⊢
    omega
  · rw [r2, e2]; exact k2
theorem Sim.drawn (S : Sim base w0 lm0 N g a w s) (n : Nat) : Sim base w0 lm0 N g a { w with drawn := n } s :=
 S.turn (h' := s.h) ⟨Ext.blocks fun _ _ _ => ⟨rfl, rfl⟩, fun d o h => .inr ⟨rfl, o, h, Shp.refl _⟩⟩ ⟨rfl, rfl, rfl, Nat.le_refl _, fun _ _ => rfl⟩ (fun _ _ => rfl)
  (fun d o h => (S.ob d o h).keep (fun _ _ => rfl) (Ext.blocks fun _ _ _ => ⟨rfl, rfl⟩) fun _ _ _ b _ => ⟨rfl, rfl⟩) S.lt S.ap (fun d e k l h1 => .inl ⟨h1, rfl, fun _ _ => rfl⟩) (fun b _ _ hF => ⟨⟨rfl, rfl⟩, hF⟩)
theorem Tfi (hm : P.follows .mixedOrders = true) (hG : Good P call) {aos : List AOper} {id : Nat} {draw : Bool} (hok : okRegion P N ops aos draw = true) (S : Sim base w0 lm0 N g a w s) {sn : St} (hs : steps call aos s = some sn)
 (hK : ∀ g' a' w', Sim base w0 lm0 N g' a' w' sn → Q .normal a' w') : (Go.Code.region id ops draw).wp P Q a w := by
 simp only [okRegion, Bool.and_eq_true, Bool.or_eq_true, Bool.not_eq_true'] at hok
 obtain ⟨h1, h2⟩ := hok
 have hlen := (Tel h1).1
 have hsz : ops.size = aos.length := by simpa using hlen
 cases draw with
 | false =>
  refine wp_region (Tmn hG h1 hK _ (fun i hi => List.mem_range.1 hi) S ?_)
  rw [hsz, Te4]; exact hs
 | true =>
  have h2 : okOrder ops.toList aos = true := by simpa using h2
  have hrem : rem ops.size (Array.replicate ops.size false) = List.range ops.size := by
   unfold rem
   rw [List.filter_eq_self]
   intro i hi
   have := List.mem_range.1 hi
   simp [this]
  refine wp_region_any hm (Tv9 hG h1 h2 hK _ (fun j o _ hj => ?_) ?_ (S.drawn _) ⟨sn, ?_, Eqv.refl _⟩)
  · exfalso
    by_cases hjn : j < ops.size <;> simp [hjn] at hj
  · rw [hrem]; simp
  · rw [hrem, hsz, Te4]; exact hs
end
end Go.Proofs.YtjpibniecllafaaGreat.AM
end
section
namespace Go.Proofs.YtjpibniecllafaaGreat.AM
open Go Go.RowKit
theorem Fz.trans {a b c : Option Ob} (h : Fz a b) (k : Fz b c) : Fz a c := by
 rcases h.two with ⟨e, n, fz, fz', l, rfl, rfl⟩ | ⟨rfl, _⟩
 · rcases k.two with ⟨e1, n1, f1, f2, l1, h1, rfl⟩ | ⟨rfl, _⟩
   · simp only [oIE, Ob.row.injEq] at h1
     obtain ⟨rfl, rfl, _, rfl⟩ := h1
     exact ⟨rfl, rfl, rfl⟩
   · exact ⟨rfl, rfl, rfl⟩
 · exact k
structure KeepP (pins : List Nat) (h0 h : List (Nat × Ob)) : Prop where
 p : get h 999999 = some (.pin pins)
 k : ∀ d ∈ pins, get h0 d ≠ none ∧ Fz (get h0 d) (get h d)
section
variable {pins : List Nat} {h0 : List (Nat × Ob)} {s s' : St} {call : Call}
theorem KeepP.put {h hs : List (Nat × Ob)} (K : KeepP pins h0 h) (hn : HsN h hs) : KeepP pins h0 (putAll h hs) := by
 refine ⟨?_, fun d hd => ?_⟩
 · have := hn.fz (c := 999999) (by rw [K.p]; simp)
   rw [K.p] at this
   simp only [Fz] at this
   exact this.symm
 · obtain ⟨q1, q2⟩ := K.k d hd
   exact ⟨q1, q2.trans (hn.fz fun h => q1 (q2.none_iff.2 h))⟩
theorem Tpw {h : List (Nat × Ob)} : ∀ {vs xs : List SV} {fr : List (Nat × Ob)}, fzvs h vs = some (xs, fr) → HsN h fr
 | [], xs, fr, he => by simp only [fzvs, oIE, Prod.mk.injEq] at he; obtain ⟨rfl, rfl⟩ := he; exact fun q hq => by simp at hq
 | v :: vs, xs, fr, he => by
  simp only [fzvs] at he
  split at he
  case h_2 => simp at he
  rename_i x f1 h1
  split at he
  case h_2 => simp at he
  rename_i ys f2 h2
  simp only [oIE, Prod.mk.injEq] at he
  obtain ⟨rfl, rfl⟩ := he
  have one : HsN h f1 := by
   cases v with
   | ms d off n =>
    simp only [fzv] at h1
    split at h1
    · split at h1
      case h_2 => simp at h1
      rename_i y fr' hfz
      simp only [oIE, Prod.mk.injEq] at h1
      obtain ⟨rfl, rfl⟩ := h1
      exact (Tfh hfz 0).n
    · simp only [oIE, Prod.mk.injEq] at h1
      obtain ⟨rfl, rfl⟩ := h1
      exact fun q hq => by simp at hq
   | _ => simp only [fzv, oIE, Prod.mk.injEq] at h1; obtain ⟨rfl, rfl⟩ := h1; exact fun q hq => by simp at hq
  exact fun q hq => by
   rcases List.mem_append.1 hq with hq | hq
   · exact one q hq
   · exact Tpw h2 q hq
theorem ro_hs {d : Nat} {o : AOp} (ho : o.ro = true) {e : Eff} (he : eff call s d o = some e) : HsN s.h e.hs := by
 by_cases h1 : o.hard = false
 · exact (Tpm h1 he).n
 by_cases h2 : o.quiet = true
 · rw [Tmf h2 he]; exact fun q hq => by simp at hq
 by_cases h3 : o.isInn = true
 · exact fun q hq => .inr (Tmg h3 he q hq).1
 cases o <;> first | (simp [AOp.hard] at h1; done) | (simp [AOp.quiet] at h2; done) | (simp [AOp.isInn] at h3; done) | (simp [AOp.ro, AOp.hard, AOp.quiet] at ho; done) | skip
 case boxr e1 k x =>
  simp only [eff] at he
  repeat' split at he
  all_goals first | (simp at he; done) | (simp only [oIE] at he; subst he; exact fun q hq => by simp only [List.mem_singleton] at hq; subst hq; exact .inr (Tav ‹newId _ _ = some _›))
 case alr e1 k c =>
  simp only [eff] at he
  repeat' split at he
  all_goals first | (simp at he; done) | (simp only [oIE] at he; subst he; exact fun q hq => by simp only [List.mem_singleton] at hq; subst hq; exact .inr (Tav ‹newId _ _ = some _›))
 case bldr z ps =>
  simp only [eff] at he
  repeat' split at he
  all_goals first | (simp at he; done) | (simp only [oIE] at he; subst he; exact fun q hq => by simp at hq)
 case bldrf z ps =>
  simp only [eff] at he
  repeat' split at he
  all_goals first | (simp at he; done) | (simp only [oIE] at he; subst he; exact Tpw ‹fzvs _ _ = some _›)
theorem Tmo : ∀ {os : List AOper} {s s' : St}, (os.all fun o => o.o.ro) = true → steps call os s = some s' → KeepP pins h0 s.h → KeepP pins h0 s'.h
 | [], s, s', _, h, K => by simp only [steps, oIE] at h; subst h; exact K
 | o :: os, s, s', hr, h, K => by
  simp only [List.all_cons, Bool.and_eq_true] at hr
  simp only [steps] at h
  cases h1 : step call o s with
  | none => rw [h1] at h; simp at h
  | some s1 =>
   rw [h1] at h
   refine Tmo hr.2 h ?_
   rw [Tda] at h1
   cases hp : pre call o s with
   | none => rw [hp] at h1; simp at h1
   | some e =>
    rw [hp] at h1
    simp only [Option.map_some, oIE] at h1
    subst h1
    refine K.put ?_
    rcases Tcg hp with he | rfl
    · exact ro_hs hr.1 he
    · exact fun q hq => by simp at hq
theorem KeepP.pinned {h : List (Nat × Ob)} (K : KeepP pins h0 h) {d : Nat} (hd : d ∈ pins) : pinned h d = true := by
 unfold AM.pinned
 rw [K.p]
 simpa using hd
theorem KeepP.same {h h' : List (Nat × Ob)} (K : KeepP pins h0 h) (h9 : get h' 999999 = get h 999999) (hd : ∀ d ∈ pins, get h' d = get h d) : KeepP pins h0 h' := ⟨h9.trans K.p, fun d hm => ⟨(K.k d hm).1, by rw [hd d hm]; exact (K.k d hm).2⟩⟩
theorem KeepP.ren1 (K : KeepP pins h0 s.h) (n : Nat) : KeepP pins h0 (AM.ren1 s n).h := by
 unfold AM.ren1
 split
 case h_2 => exact K
 rename_i v hv
 split
 case h_2 => exact K
 rename_i d hd
 split
 · exact K
 split
 case h_2 => exact K
 rename_i o hn ho
 split
 case isFalse => exact K
 rename_i hc
 obtain ⟨_, hn8, hlv, hpn, _, _⟩ := hc
 have hget : ∀ e, get (AM.put (s.h.filter fun q => q.1 != d) n o) e = if n = e then some o else if e = d then none else get s.h e := by
  intro e
  rw [Ta9]
  split
  · rfl
  · have := Tb4 (fun x => x != d) s.h e
    rw [this]
    by_cases he : e = d <;> simp [he]
 refine K.same ?_ fun e he => ?_
 · show get (AM.put (s.h.filter fun q => q.1 != d) n o) 999999 = _
   have h9 : (999999 : Nat) ≠ d := fun h => by
    rw [← h, K.p] at ho
    rw [← oIj ho] at hlv
    simp [Ob.live] at hlv
   rw [hget, if_neg (by omega), if_neg h9]
 · show get (AM.put (s.h.filter fun q => q.1 != d) n o) e = _
   have h1 : n ≠ e := fun h => by
    obtain ⟨q1, q2⟩ := K.k e he
    rw [h] at hn
    exact q1 (q2.none_iff.2 hn)
   have h2 : e ≠ d := fun h => by
    rw [h] at he
    rw [K.pinned he] at hpn
    simp at hpn
   rw [hget, if_neg h1, if_neg h2]
theorem KeepP.norm (K : KeepP pins h0 s.h) (keep : List Nat) : KeepP pins h0 (AM.norm keep s).h := by
 unfold AM.norm
 have h1 : KeepP pins h0 (⟨keepT keep s.t, gc (keepT keep s.t) s.h⟩ : St).h := by
  have hg : ∀ d, get (gc (keepT keep s.t) s.h) d = if ((keepT keep s.t).any (fun r => r.2.ref d) || (s.h.any fun r => r.2.ref d) || AM.pinned s.h d || d == 999999) then get s.h d else none := fun d => Tb4 (fun d => ((keepT keep s.t).any fun r => r.2.ref d) || (s.h.any fun r => r.2.ref d) || AM.pinned s.h d || d == 999999) s.h d
  refine K.same ?_ fun d hd => ?_
  · show get (gc (keepT keep s.t) s.h) 999999 = _
    rw [hg]; simp
  · show get (gc (keepT keep s.t) s.h) d = _
    rw [hg, K.pinned hd]; simp
 have : ∀ (l : List Nat) {s : St}, KeepP pins h0 s.h → KeepP pins h0 (l.foldl AM.ren1 s).h := by
  intro l
  induction l with
  | nil => intro s K; exact K
  | cons n l ih => intro s K; exact ih (K.ren1 n)
 exact this keep h1
theorem Tdj {E : Env} : ∀ (k : Nat) {c : ACode} {s s' : St} {o : Out}, c.ro = true → code E k c s = some (o, s') → KeepP pins h0 s.h → KeepP pins h0 s'.h
 | 0, _, _, _, _, _, h, _ => by simp [code] at h
 | k + 1, c, s, s', o, hr, h, K => by
  cases c with
  | skip => rw [Tot] at h; simp only [oIE, Prod.mk.injEq] at h; obtain ⟨_, rfl⟩ := h; exact K
  | ex i => rw [c_ex] at h; simp only [oIE, Prod.mk.injEq] at h; obtain ⟨_, rfl⟩ := h; exact K
  | ret => rw [c_ret] at h; simp only [oIE, Prod.mk.injEq] at h; obtain ⟨_, rfl⟩ := h; exact K
  | reg ops keep =>
   rw [c_reg] at h
   cases h1 : steps (AM.call E k) ops s with
   | none => rw [h1] at h; simp at h
   | some s1 =>
    rw [h1] at h
    simp only [oIE, Prod.mk.injEq] at h
    obtain ⟨_, rfl⟩ := h
    exact (Tmo hr h1 K).norm keep
  | regf ops keep fz => simp [ACode.ro] at hr
  | loopc keep a => simp [ACode.ro] at hr
  | seq a b =>
   simp only [ACode.ro, Bool.and_eq_true] at hr
   rw [c_seq] at h
   cases h1 : code E k a s with
   | none => rw [h1] at h; simp at h
   | some y =>
    obtain ⟨o1, s1⟩ := y
    rw [h1] at h
    have K1 := Tdj k hr.1 h1 K
    cases o1 with
    | nor => exact Tdj k hr.2 h K1
    | ex i => simp only [oIE, Prod.mk.injEq] at h; obtain ⟨_, rfl⟩ := h; exact K1
    | ret => simp only [oIE, Prod.mk.injEq] at h; obtain ⟨_, rfl⟩ := h; exact K1
  | ite x a b =>
   simp only [ACode.ro, Bool.and_eq_true] at hr
   rw [c_ite] at h
   split at h
   · split at h
     · exact Tdj k hr.1 h K
     · exact Tdj k hr.2 h K
   · simp at h
  | blk i a =>
   rw [c_blk] at h
   cases h1 : code E k a s with
   | none => rw [h1] at h; simp at h
   | some y =>
    obtain ⟨o1, s1⟩ := y
    rw [h1] at h
    have K1 := Tdj k (by simpa [ACode.ro] using hr) h1 K
    cases o1 with
    | nor => simp only [oIE, Prod.mk.injEq] at h; obtain ⟨_, rfl⟩ := h; exact K1
    | ex j =>
     dsimp only at h
     split at h
     · simp only [oIE, Prod.mk.injEq] at h; obtain ⟨_, rfl⟩ := h; exact K1
     · simp only [oIE, Prod.mk.injEq] at h; obtain ⟨_, rfl⟩ := h; exact K1
    | ret => simp only [oIE, Prod.mk.injEq] at h; obtain ⟨_, rfl⟩ := h; exact K1
  | loop keep a =>
   rw [Tjd] at h
   cases h1 : code E k a (AM.norm keep s) with
   | none => rw [h1] at h; simp at h
   | some y =>
    obtain ⟨o1, s1⟩ := y
    rw [h1] at h
    have K1 := Tdj k (by simpa [ACode.ro] using hr) h1 (K.norm keep)
    cases o1 with
    | nor => exact Tdj k hr h K1
    | ex i => simp only [oIE, Prod.mk.injEq] at h; obtain ⟨_, rfl⟩ := h; exact K1
    | ret => simp only [oIE, Prod.mk.injEq] at h; obtain ⟨_, rfl⟩ := h; exact K1
end
theorem Twa {E : Env} {k : Nat} {c : ACode} {vs : List SV} {h : List (Nat × Ob)} {o : Out} {s' : St} (hr : c.ro = true) (hk : okK h 0 = true) (hl : h.length ≤ 1000) (hc : code E k c (startS vs h) = some (o, s')) (hfz : sameFz h s'.h = true) : ∀ d, get h d ≠ none → get s'.h d = get h d := by
 have hlt : ∀ d, get h d ≠ none → d < h.length := fun d hd => by have := (Tcc hk d).1 hd; omega
 have hkeys : h.map (fun q => q.1) = List.range h.length := by rw [Tei hk, List.range_eq_range']
 have K : KeepP (List.range h.length) h s'.h := by
  refine Tdj k hr hc ⟨?_, fun d hd => ?_⟩
  · show get (AM.put h 999999 (.pin (h.map fun q => q.1))) 999999 = _
    rw [Taa, hkeys]
  · have hd' : d < h.length := by simpa using hd
    refine ⟨(Tcc hk d).2 (by omega), ?_⟩
    show Fz _ (get (AM.put h 999999 (.pin (h.map fun q => q.1))) d)
    rw [Tac _ (by omega)]
    exact Fz.refl _
 intro d hd
 obtain ⟨_, q2⟩ := K.k d (by simpa using hlt d hd)
 rcases q2.two with ⟨e, n, fz, fz', l, h1, h2⟩ | ⟨h1, _⟩
 · have := List.all_eq_true.1 hfz _ (Tc8 h1)
   dsimp only at this
   rw [h2] at this
   simp only [beq_iff_eq] at this
   rw [h1, h2, this]
 · exact h1.symm
end Go.Proofs.YtjpibniecllafaaGreat.AM
end
