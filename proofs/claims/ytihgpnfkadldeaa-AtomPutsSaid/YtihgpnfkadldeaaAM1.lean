/- The small machine without a bound on its rounds: what it comes to, and by which equations. No condition. -/
import Derived.Test.YtihgpnfkadldeaaAM0
namespace Go.Proofs.Ytihgpnfkadldeaa.AM
set_option linter.unusedSimpArgs false
set_option linter.unusedVariables false
open Go

theorem eff_form (s : St) (d : Nat) (o : AOp) : (∃ e, ∀ c, eff c s d o = e) ∨ (∃ (f : FuncId) (ys : List PV) (g : Ret → Option Eff), ∀ c, eff c s d o = (c f ys).bind g) := by
  cases o
  case cl f l =>
    cases h1 : evs s l with
    | none => exact .inl ⟨none, fun c => by simp only [eff, h1]⟩
    | some vs =>
      cases h2 : frzs s.h vs with
      | none => exact .inl ⟨none, fun c => by simp only [eff, h1, h2]⟩
      | some q => exact .inr ⟨f, q.1, ret1 s.h q.2 d, fun c => by simp only [eff, h1, h2]; cases c f q.1 <;> rfl⟩
  case cld f l =>
    cases h1 : evs s l with
    | none => exact .inl ⟨none, fun c => by simp only [eff, h1]⟩
    | some vs =>
      cases h2 : frzs s.h vs with
      | none => exact .inl ⟨none, fun c => by simp only [eff, h1, h2]⟩
      | some q => exact .inr ⟨f, q.1, ret1d s.h q.2 d, fun c => by simp only [eff, h1, h2]; cases c f q.1 <;> rfl⟩
  case cv x l =>
    cases h0 : x.ev s with
    | none => exact .inl ⟨none, fun c => by simp only [eff, h0]⟩
    | some v =>
      cases h1 : evs s l with
      | none => exact .inl ⟨none, fun c => by simp only [eff, h0, h1]⟩
      | some vs =>
        cases v with
        | p y =>
          cases y with
          | fn f cs =>
            cases h2 : frzs s.h vs with
            | none => exact .inl ⟨none, fun c => by simp only [eff, h0, h1, h2]⟩
            | some q => exact .inr ⟨f, q.1 ++ cs, ret1 s.h q.2 d, fun c => by simp only [eff, h0, h1, h2]; cases c f (q.1 ++ cs) <;> rfl⟩
          | _ => exact .inl ⟨none, fun c => by simp only [eff, h0, h1]⟩
        | _ => exact .inl ⟨none, fun c => by simp only [eff, h0, h1]⟩
  case inv ty f m x l =>
    cases h0 : x.ev s with
    | none => exact .inl ⟨none, fun c => by simp only [eff, h0]⟩
    | some v =>
      cases h1 : evs s l with
      | none => exact .inl ⟨none, fun c => by simp only [eff, h0, h1]⟩
      | some vs =>
        cases v with
        | p y =>
          cases y with
          | ifc t' y =>
            by_cases ht : t' = ty
            · cases h2 : frzs s.h vs with
              | none => exact .inl ⟨none, fun c => by simp only [eff, h0, h1, h2, ht, if_true]⟩
              | some q => exact .inr ⟨f, y :: q.1, ret1 s.h q.2 d, fun c => by simp only [eff, h0, h1, h2, ht, if_true]; cases c f (y :: q.1) <;> rfl⟩
            · exact .inl ⟨none, fun c => by simp only [eff, h0, h1, ht, if_false]⟩
          | _ => exact .inl ⟨none, fun c => by simp only [eff, h0, h1]⟩
        | _ => exact .inl ⟨none, fun c => by simp only [eff, h0, h1]⟩
  case sbw f x y => exact .inr ⟨f, [], sbwE s x y, fun c => by simp only [eff]; cases c f [] <;> rfl⟩
  case sbs f x => exact .inr ⟨f, [], sbsE s x, fun c => by simp only [eff]; cases c f [] <;> rfl⟩
  all_goals exact .inl ⟨_, fun c => rfl⟩

def LeC (c c' : Call) : Prop := ∀ f a r, c f a = some r → c' f a = some r

theorem eff_mono {c c' : Call} (h : LeC c c') {s : St} {d : Nat} {o : AOp} {e : Eff} (he : eff c s d o = some e) : eff c' s d o = some e := by
  rcases eff_form s d o with ⟨x, hx⟩ | ⟨f, ys, g, hx⟩
  · rw [hx] at he ⊢; exact he
  · rw [hx] at he ⊢
    cases hc : c f ys with
    | none => rw [hc] at he; exact absurd he (by simp)
    | some r => rw [hc] at he; rw [h _ _ _ hc]; exact he

theorem step_mono {c c' : Call} (h : LeC c c') {o : AOper} {s s' : St} (hs : step c o s = some s') : step c' o s = some s' := by
  have key : ∀ {x}, (match eff c s (o.d.getD 0) o.o with | some e => some (⟨puts s.t o.d e.v, putAll s.h e.hs⟩ : St) | none => none) = some x → (match eff c' s (o.d.getD 0) o.o with | some e => some (⟨puts s.t o.d e.v, putAll s.h e.hs⟩ : St) | none => none) = some x := by
    intro x hx
    cases he : eff c s (o.d.getD 0) o.o with
    | none => rw [he] at hx; exact absurd hx (by simp)
    | some e => rw [he] at hx; rw [eff_mono h he]; exact hx
  unfold step at hs ⊢
  cases hg : o.g with
  | none => simp only [hg] at hs ⊢; exact key hs
  | some gw =>
    obtain ⟨g, w⟩ := gw
    simp only [hg] at hs ⊢
    cases hv : get s.t g with
    | none => simp only [hv] at hs; exact absurd hs (by simp)
    | some v =>
      simp only [hv] at hs ⊢
      split at hs
      · split at hs
        · rename_i h1; rw [if_pos h1]; exact key hs
        · rename_i h1; rw [if_neg h1]; exact hs
      · exact hs
      · exact absurd hs (by simp)

theorem steps_mono {c c' : Call} (h : LeC c c') : ∀ (os : List AOper) {s s' : St}, steps c os s = some s' → steps c' os s = some s'
  | [], _, _, hs => hs
  | o :: os, s, s', hs => by
    simp only [steps] at hs ⊢
    cases h1 : step c o s with
    | none => rw [h1] at hs; exact absurd hs (by simp)
    | some s1 => rw [h1] at hs; rw [step_mono h h1]; exact steps_mono h os hs

section
variable (E : Env) (k : Nat)
theorem c_skip (s : St) : code E (k + 1) .skip s = some (.nor, s) := rfl
theorem c_ex (id : Nat) (s : St) : code E (k + 1) (.ex id) s = some (.ex id, s) := rfl
theorem c_ret (s : St) : code E (k + 1) .ret s = some (.ret, s) := rfl
theorem c_reg (ops : List AOper) (keep : List Nat) (s : St) : code E (k + 1) (.reg ops keep) s = match steps (call E k) ops s with | some s' => some (.nor, norm keep s') | none => none := rfl
theorem c_seq (a b : ACode) (s : St) : code E (k + 1) (.seq a b) s = match code E k a s with | some (.nor, s') => code E k b s' | r => r := rfl
theorem c_ite (x : X) (a b : ACode) (s : St) : code E (k + 1) (.ite x a b) s = match x.ev s with | some (.p (.sc (.bool c))) => if c then code E k a s else code E k b s | _ => none := rfl
theorem c_blk (id : Nat) (a : ACode) (s : St) : code E (k + 1) (.blk id a) s = match code E k a s with | some (.ex i, s') => if i = id then some (.nor, s') else some (.ex i, s') | r => r := rfl
theorem c_loop (keep : List Nat) (a : ACode) (s : St) : code E (k + 1) (.loop keep a) s = match code E k a (norm keep s) with | some (.nor, s') => code E k (.loop keep a) s' | r => r := rfl
theorem c_call (f : FuncId) (args : List PV) : call E (k + 1) f args = if E.isExt f then E.ext f args else
    match E.ap f with
    | some fn => if args.length = fn.np then
        match code E k fn.body ⟨entry 0 args, []⟩ with
        | some (.ex _, _) => none
        | some (_, s) => finish fn s
        | none => none
      else none
    | none => none := rfl
end

mutual
theorem code_mono (E : Env) : ∀ k c s x, code E k c s = some x → code E (k + 1) c s = some x
  | 0, _, _, _, h => by simp [code] at h
  | k + 1, c, s, x, h => by
    have hc : LeC (call E k) (call E (k + 1)) := fun f a r hr => call_mono E k f a r hr
    have ih := code_mono E k
    cases c with
    | skip => exact h
    | ex id => exact h
    | ret => exact h
    | reg ops keep =>
      rw [c_reg] at h ⊢
      cases h1 : steps (call E k) ops s with
      | none => rw [h1] at h; exact absurd h (by simp)
      | some s' => rw [h1] at h; rw [steps_mono hc ops h1]; exact h
    | seq a b =>
      rw [c_seq] at h ⊢
      cases h1 : code E k a s with
      | none => rw [h1] at h; exact absurd h (by simp)
      | some y =>
        rw [h1] at h; rw [ih _ _ _ h1]
        obtain ⟨o, s'⟩ := y
        cases o with
        | nor => exact ih _ _ _ h
        | _ => exact h
    | ite x a b =>
      rw [c_ite] at h ⊢
      split at h
      · split at h
        · rename_i h1; rw [if_pos h1]; exact ih _ _ _ h
        · rename_i h1; rw [if_neg h1]; exact ih _ _ _ h
      · exact absurd h (by simp)
    | blk id a =>
      rw [c_blk] at h ⊢
      cases h1 : code E k a s with
      | none => rw [h1] at h; exact absurd h (by simp)
      | some y => rw [h1] at h; rw [ih _ _ _ h1]; exact h
    | loop keep a =>
      rw [c_loop] at h ⊢
      cases h1 : code E k a (norm keep s) with
      | none => rw [h1] at h; exact absurd h (by simp)
      | some y =>
        rw [h1] at h; rw [ih _ _ _ h1]
        obtain ⟨o, s'⟩ := y
        cases o with
        | nor => exact ih _ _ _ h
        | _ => exact h
theorem call_mono (E : Env) : ∀ k f a r, call E k f a = some r → call E (k + 1) f a = some r
  | 0, _, _, _, h => by simp [call] at h
  | k + 1, f, a, r, h => by
    have ih := code_mono E k
    rw [c_call] at h ⊢
    split at h
    · rename_i h1; rw [if_pos h1]; exact h
    · rename_i h1; rw [if_neg h1]
      cases h2 : E.ap f with
      | none => rw [h2] at h; exact absurd h (by simp)
      | some fn =>
        simp only [h2] at h ⊢
        split at h
        · rename_i h3; rw [if_pos h3]
          cases h4 : code E k fn.body ⟨entry 0 a, []⟩ with
          | none => rw [h4] at h; exact absurd h (by simp)
          | some y => rw [h4] at h; rw [ih _ _ _ h4]; exact h
        · exact absurd h (by simp)
end

theorem code_le (E : Env) {k m : Nat} (hkm : k ≤ m) {c s x} (h : code E k c s = some x) : code E m c s = some x := by
  induction hkm with
  | refl => exact h
  | step _ ih => exact code_mono E _ _ _ _ ih
theorem call_le (E : Env) {k m : Nat} (hkm : k ≤ m) {f a r} (h : call E k f a = some r) : call E m f a = some r := by
  induction hkm with
  | refl => exact h
  | step _ ih => exact call_mono E _ _ _ _ ih

open Classical in
/-- What a text comes to. -/
noncomputable def Code (E : Env) (c : ACode) (s : St) : Option (Out × St) := if h : ∃ k x, code E k c s = some x then some (Classical.choose (Classical.choose_spec h)) else none
open Classical in
/-- What a call comes to. -/
noncomputable def Run (E : Env) (f : FuncId) (a : List PV) : Option Ret := if h : ∃ k x, call E k f a = some x then some (Classical.choose (Classical.choose_spec h)) else none

theorem Code_iff (E : Env) (c : ACode) (s : St) (x : Out × St) : Code E c s = some x ↔ ∃ k, code E k c s = some x := by
  unfold Code
  constructor
  · intro h
    split at h
    · rename_i hh
      have := Classical.choose_spec (Classical.choose_spec hh)
      rw [Option.some.inj h] at this
      exact ⟨_, this⟩
    · exact absurd h (by simp)
  · rintro ⟨k, hk⟩
    have hh : ∃ k x, code E k c s = some x := ⟨k, x, hk⟩
    rw [dif_pos hh]
    have := Classical.choose_spec (Classical.choose_spec hh)
    rcases Nat.le_total k (Classical.choose hh) with hl | hl
    · rw [← this, code_le E hl hk]
    · rw [← hk, code_le E hl this]
theorem Run_iff (E : Env) (f : FuncId) (a : List PV) (r : Ret) : Run E f a = some r ↔ ∃ k, call E k f a = some r := by
  unfold Run
  constructor
  · intro h
    split at h
    · rename_i hh
      have := Classical.choose_spec (Classical.choose_spec hh)
      rw [Option.some.inj h] at this
      exact ⟨_, this⟩
    · exact absurd h (by simp)
  · rintro ⟨k, hk⟩
    have hh : ∃ k x, call E k f a = some x := ⟨k, r, hk⟩
    rw [dif_pos hh]
    have := Classical.choose_spec (Classical.choose_spec hh)
    rcases Nat.le_total k (Classical.choose hh) with hl | hl
    · rw [← this, call_le E hl hk]
    · rw [← hk, call_le E hl this]

theorem ext_some {α : Type} {a b : Option α} (h : ∀ x, a = some x ↔ b = some x) : a = b := by
  cases a with
  | none => cases b with
    | none => rfl
    | some y => exact ((h y).2 rfl)
  | some x => exact ((h x).1 rfl).symm

theorem steps_Run (E : Env) : ∀ (os : List AOper) (s s' : St), steps (Run E) os s = some s' ↔ ∃ k, steps (call E k) os s = some s' := by
  have e1 : ∀ (s : St) (d : Nat) (o : AOp) e, eff (Run E) s d o = some e ↔ ∃ k, eff (call E k) s d o = some e := by
    intro s d o e
    rcases eff_form s d o with ⟨x, hx⟩ | ⟨f, ys, g, hx⟩
    · simp only [hx]; exact ⟨fun h => ⟨0, h⟩, fun ⟨_, h⟩ => h⟩
    · simp only [hx]
      constructor
      · intro h
        cases hr : Run E f ys with
        | none => rw [hr] at h; exact absurd h (by simp)
        | some r => obtain ⟨k, hk⟩ := (Run_iff E f ys r).1 hr; rw [hr] at h; exact ⟨k, by rw [hk]; exact h⟩
      · rintro ⟨k, h⟩
        cases hr : call E k f ys with
        | none => rw [hr] at h; exact absurd h (by simp)
        | some r => rw [(Run_iff E f ys r).2 ⟨k, hr⟩]; rw [hr] at h; exact h
  have hle : ∀ k, LeC (call E k) (Run E) := fun k f a r h => (Run_iff E f a r).2 ⟨k, h⟩
  intro os
  induction os with
  | nil => intro s s'; exact ⟨fun h => ⟨0, h⟩, fun ⟨_, h⟩ => h⟩
  | cons o os ih =>
    intro s s'
    refine ⟨fun h => ?_, fun ⟨k, h⟩ => steps_mono (hle k) _ h⟩
    simp only [steps] at h
    cases h1 : step (Run E) o s with
    | none => rw [h1] at h; exact absurd h (by simp)
    | some s1 =>
      rw [h1] at h
      obtain ⟨k2, hk2⟩ := (ih s1 s').1 h
      have : ∃ k, step (call E k) o s = some s1 := by
        have key : ∀ {x}, (match eff (Run E) s (o.d.getD 0) o.o with | some e => some (⟨puts s.t o.d e.v, putAll s.h e.hs⟩ : St) | none => none) = some x → ∃ k, (match eff (call E k) s (o.d.getD 0) o.o with | some e => some (⟨puts s.t o.d e.v, putAll s.h e.hs⟩ : St) | none => none) = some x := by
          intro x hx
          cases he : eff (Run E) s (o.d.getD 0) o.o with
          | none => rw [he] at hx; exact absurd hx (by simp)
          | some e => rw [he] at hx; obtain ⟨k, hk⟩ := (e1 _ _ _ _).1 he; exact ⟨k, by rw [hk]; exact hx⟩
        unfold step at h1 ⊢
        cases hg : o.g with
        | none => simp only [hg] at h1 ⊢; exact key h1
        | some gw =>
          obtain ⟨g, w⟩ := gw
          simp only [hg] at h1 ⊢
          cases hv : get s.t g with
          | none => simp only [hv] at h1; exact absurd h1 (by simp)
          | some v =>
            simp only [hv] at h1 ⊢
            split at h1
            · split at h1
              · rename_i h2; simp only [if_pos h2]; exact key h1
              · rename_i h2; simp only [if_neg h2]; exact ⟨0, h1⟩
            · exact ⟨0, h1⟩
            · exact absurd h1 (by simp)
      obtain ⟨k1, hk1⟩ := this
      refine ⟨max k1 k2, ?_⟩
      simp only [steps]
      rw [step_mono (fun f a r h => call_le E (Nat.le_max_left k1 k2) h) hk1]
      exact steps_mono (fun f a r h => call_le E (Nat.le_max_right k1 k2) h) os hk2

section
variable (E : Env)
theorem Code_skip (s : St) : Code E .skip s = some (.nor, s) := (Code_iff ..).2 ⟨1, rfl⟩
theorem Code_ex (id : Nat) (s : St) : Code E (.ex id) s = some (.ex id, s) := (Code_iff ..).2 ⟨1, rfl⟩
theorem Code_ret (s : St) : Code E .ret s = some (.ret, s) := (Code_iff ..).2 ⟨1, rfl⟩
theorem Code_reg (ops : List AOper) (keep : List Nat) (s : St) : Code E (.reg ops keep) s = match steps (Run E) ops s with | some s' => some (.nor, norm keep s') | none => none := by
  refine ext_some fun x => ?_
  rw [Code_iff]
  constructor
  · rintro ⟨k, h⟩
    cases k with
    | zero => exact absurd h (by simp [code])
    | succ k =>
      rw [c_reg] at h
      cases h1 : steps (call E k) ops s with
      | none => rw [h1] at h; exact absurd h (by simp)
      | some s' => rw [(steps_Run E ops s s').2 ⟨k, h1⟩]; rw [h1] at h; exact h
  · intro h
    cases h1 : steps (Run E) ops s with
    | none => rw [h1] at h; exact absurd h (by simp)
    | some s' =>
      obtain ⟨k, hk⟩ := (steps_Run E ops s s').1 h1
      rw [h1] at h
      exact ⟨k + 1, by rw [c_reg]; rw [hk]; exact h⟩
theorem Code_seq (a b : ACode) (s : St) : Code E (.seq a b) s = match Code E a s with | some (.nor, s') => Code E b s' | r => r := by
  refine ext_some fun x => ?_
  rw [Code_iff]
  constructor
  · rintro ⟨k, h⟩
    cases k with
    | zero => exact absurd h (by simp [code])
    | succ k =>
      rw [c_seq] at h
      cases h1 : code E k a s with
      | none => rw [h1] at h; exact absurd h (by simp)
      | some y =>
        rw [(Code_iff E a s y).2 ⟨k, h1⟩]; rw [h1] at h
        obtain ⟨o, s'⟩ := y
        cases o with
        | nor => exact (Code_iff ..).2 ⟨k, h⟩
        | _ => exact h
  · intro h
    cases h1 : Code E a s with
    | none => rw [h1] at h; exact absurd h (by simp)
    | some y =>
      obtain ⟨k1, hk1⟩ := (Code_iff E a s y).1 h1
      rw [h1] at h
      obtain ⟨o, s'⟩ := y
      cases o with
      | nor =>
        obtain ⟨k2, hk2⟩ := (Code_iff ..).1 h
        exact ⟨max k1 k2 + 1, by rw [c_seq]; rw [code_le E (Nat.le_max_left k1 k2) hk1]; exact code_le E (Nat.le_max_right k1 k2) hk2⟩
      | _ => exact ⟨k1 + 1, by rw [c_seq]; rw [hk1]; exact h⟩
theorem Code_ite (x : X) (a b : ACode) (s : St) : Code E (.ite x a b) s = match x.ev s with | some (.p (.sc (.bool c))) => if c then Code E a s else Code E b s | _ => none := by
  refine ext_some fun y => ?_
  rw [Code_iff]
  constructor
  · rintro ⟨k, h⟩
    cases k with
    | zero => exact absurd h (by simp [code])
    | succ k =>
      rw [c_ite] at h
      split at h
      · split at h
        · rename_i h1; rw [if_pos h1]; exact (Code_iff ..).2 ⟨k, h⟩
        · rename_i h1; rw [if_neg h1]; exact (Code_iff ..).2 ⟨k, h⟩
      · exact absurd h (by simp)
  · intro h
    split at h
    · rename_i c hc
      split at h
      · rename_i h1; obtain ⟨k, hk⟩ := (Code_iff ..).1 h; exact ⟨k + 1, by rw [c_ite, hc]; simp only [if_pos h1]; exact hk⟩
      · rename_i h1; obtain ⟨k, hk⟩ := (Code_iff ..).1 h; exact ⟨k + 1, by rw [c_ite, hc]; simp only [if_neg h1]; exact hk⟩
    · exact absurd h (by simp)
theorem Code_blk (id : Nat) (a : ACode) (s : St) : Code E (.blk id a) s = match Code E a s with | some (.ex i, s') => if i = id then some (.nor, s') else some (.ex i, s') | r => r := by
  refine ext_some fun x => ?_
  rw [Code_iff]
  constructor
  · rintro ⟨k, h⟩
    cases k with
    | zero => exact absurd h (by simp [code])
    | succ k =>
      rw [c_blk] at h
      cases h1 : code E k a s with
      | none => rw [h1] at h; exact absurd h (by simp)
      | some y => rw [(Code_iff E a s y).2 ⟨k, h1⟩]; rw [h1] at h; exact h
  · intro h
    cases h1 : Code E a s with
    | none => rw [h1] at h; exact absurd h (by simp)
    | some y =>
      obtain ⟨k1, hk1⟩ := (Code_iff E a s y).1 h1
      rw [h1] at h
      exact ⟨k1 + 1, by rw [c_blk]; rw [hk1]; exact h⟩
theorem Code_loop (keep : List Nat) (a : ACode) (s : St) : Code E (.loop keep a) s = match Code E a (norm keep s) with | some (.nor, s') => Code E (.loop keep a) s' | r => r := by
  refine ext_some fun x => ?_
  rw [Code_iff]
  constructor
  · rintro ⟨k, h⟩
    cases k with
    | zero => exact absurd h (by simp [code])
    | succ k =>
      rw [c_loop] at h
      cases h1 : code E k a (norm keep s) with
      | none => rw [h1] at h; exact absurd h (by simp)
      | some y =>
        rw [(Code_iff E a _ y).2 ⟨k, h1⟩]; rw [h1] at h
        obtain ⟨o, s'⟩ := y
        cases o with
        | nor => exact (Code_iff ..).2 ⟨k, h⟩
        | _ => exact h
  · intro h
    cases h1 : Code E a (norm keep s) with
    | none => rw [h1] at h; exact absurd h (by simp)
    | some y =>
      obtain ⟨k1, hk1⟩ := (Code_iff E a _ y).1 h1
      rw [h1] at h
      obtain ⟨o, s'⟩ := y
      cases o with
      | nor =>
        obtain ⟨k2, hk2⟩ := (Code_iff ..).1 h
        exact ⟨max k1 k2 + 1, by rw [c_loop]; rw [code_le E (Nat.le_max_left k1 k2) hk1]; exact code_le E (Nat.le_max_right k1 k2) hk2⟩
      | _ => exact ⟨k1 + 1, by rw [c_loop]; rw [hk1]; exact h⟩
theorem Run_eq (f : FuncId) (fn : AFunc) (a : List PV) (he : E.isExt f = false) (hf : E.ap f = some fn) (ha : a.length = fn.np) :
    Run E f a = match Code E fn.body ⟨entry 0 a, []⟩ with | some (.ex _, _) => none | some (_, s) => finish fn s | none => none := by
  refine ext_some fun r => ?_
  rw [Run_iff]
  constructor
  · rintro ⟨k, h⟩
    cases k with
    | zero => exact absurd h (by simp [call])
    | succ k =>
      rw [c_call] at h; simp only [he, hf, ha, if_true, Bool.false_eq_true, if_false] at h
      cases h1 : code E k fn.body ⟨entry 0 a, []⟩ with
      | none => rw [h1] at h; exact absurd h (by simp)
      | some y => rw [(Code_iff ..).2 ⟨k, h1⟩]; rw [h1] at h; exact h
  · intro h
    cases h1 : Code E fn.body ⟨entry 0 a, []⟩ with
    | none => rw [h1] at h; exact absurd h (by simp)
    | some y =>
      obtain ⟨k, hk⟩ := (Code_iff ..).1 h1
      rw [h1] at h
      exact ⟨k + 1, by rw [c_call]; simp only [he, hf, ha, if_true, Bool.false_eq_true, if_false]; rw [hk]; exact h⟩
theorem Run_ext (f : FuncId) (a : List PV) (he : E.isExt f = true) : Run E f a = E.ext f a := by
  refine ext_some fun r => ?_
  rw [Run_iff]
  constructor
  · rintro ⟨k, h⟩
    cases k with
    | zero => exact absurd h (by simp [call])
    | succ k => rw [c_call, if_pos he] at h; exact h
  · intro h
    exact ⟨1, by rw [c_call, if_pos he]; exact h⟩
end
end Go.Proofs.Ytihgpnfkadldeaa.AM
