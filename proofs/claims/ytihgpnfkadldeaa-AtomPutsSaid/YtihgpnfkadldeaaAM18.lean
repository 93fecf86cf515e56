/- Two of the small machine's operations that do not hang on one another, in either order. No condition. -/
import Derived.Test.YtihgpnfkadldeaaAM17
namespace Go.Proofs.Ytihgpnfkadldeaa.AM
open Go Go.RowKit
set_option linter.unusedVariables false
set_option linter.unusedSimpArgs false

theorem Fz.two {a b : Option Ob} (h : Fz a b) : (∃ e k fz fz' l, a = some (.row e k fz l) ∧ b = some (.row e k fz' l)) ∨ a = b ∧ True := by
  cases a with
  | none => right; cases b with
    | none => exact ⟨rfl, trivial⟩
    | some y => simp [Fz] at h
  | some x =>
    cases x with
    | row e k fz l =>
      obtain ⟨fz', hb⟩ := h.row
      exact .inl ⟨e, k, fz, fz', l, rfl, hb⟩
    | _ => right; cases b with
      | none => simp [Fz] at h
      | some y => cases y <;> simp_all [Fz]

def FzV (h h' : List (Nat × Ob)) (v : SV) : Prop := ∀ d, v.id? = some d → Fz (get h d) (get h' d)

theorem frz_fz {h h' : List (Nat × Ob)} {v : SV} (hf : FzV h h' v) : frz h v = frz h' v := by
  cases v with
  | p x => rfl
  | xs k l => rfl
  | ms d off len => rcases (hf d rfl).two with ⟨e, k, fz, fz', l, h1, h2⟩ | ⟨h1, h2⟩ <;> simp only [frz, h1, h2]
  | mp d i j => rcases (hf d rfl).two with ⟨e, k, fz, fz', l, h1, h2⟩ | ⟨h1, h2⟩ <;> simp only [frz, h1, h2]
theorem elems_fz {h h' : List (Nat × Ob)} {v : SV} (hf : FzV h h' v) : elems h v = elems h' v := by
  cases v with
  | p x => cases x <;> rfl
  | xs k l => rfl
  | ms d off len => rcases (hf d rfl).two with ⟨e, k, fz, fz', l, h1, h2⟩ | ⟨h1, h2⟩ <;> simp only [elems, h1, h2]
  | mp d i j => rfl
theorem svLen_fz {h h' : List (Nat × Ob)} {v : SV} (hf : FzV h h' v) : svLen h v = svLen h' v := by
  cases v with
  | p x => cases x <;> rfl
  | xs k l => rfl
  | ms d off len => rcases (hf d rfl).two with ⟨e, k, fz, fz', l, h1, h2⟩ | ⟨h1, h2⟩ <;> simp only [svLen, h1, h2]
  | mp d i j => rfl
theorem frzs_fz {h h' : List (Nat × Ob)} : ∀ {vs : List SV}, (∀ v ∈ vs, FzV h h' v) → frzs h vs = frzs h' vs
  | [], _ => rfl
  | v :: vs, hf => by 
    have e : frzs h vs = frzs h' vs := frzs_fz fun u hu => hf u (by simp [hu])
    simp only [frzs, frz_fz (hf v (by simp)), e]
theorem newId_iff {h h' : List (Nat × Ob)} {d : Nat} (h1 : get h d = none ↔ get h' d = none) (h2 : get h (d + 100000) = none ↔ get h' (d + 100000) = none) : newId h d = newId h' d := by
  unfold newId
  cases e1 : get h d with
  | none => rw [h1.1 e1]
  | some x =>
    cases e1' : get h' d with
    | none => rw [h1.2 e1'] at e1; simp at e1
    | some x' =>
      dsimp only
      cases e2 : get h (d + 100000) with
      | none => rw [h2.1 e2]
      | some y =>
        cases e2' : get h' (d + 100000) with
        | none => rw [h2.2 e2'] at e2; simp at e2
        | some y' => rfl

section
variable {s s' : St}

theorem evs_mem : ∀ {l : List X} {vs : List SV}, evs s l = some vs → ∀ v ∈ vs, ∃ x ∈ l, x.ev s = some v
  | [], vs, h, v, hv => by simp only [evs, Option.some.injEq] at h; subst h; simp at hv
  | x :: l, vs, h, v, hv => by
    simp only [evs] at h
    cases h1 : x.ev s with
    | none => rw [h1] at h; simp at h
    | some u =>
      rw [h1] at h; dsimp only at h
      cases h2 : evs s l with
      | none => rw [h2] at h; simp at h
      | some us =>
        rw [h2] at h
        obtain rfl := Option.some.inj h
        rcases List.mem_cons.1 hv with rfl | hv
        · exact ⟨x, by simp, h1⟩
        · obtain ⟨y, hy, e⟩ := evs_mem h2 v hv
          exact ⟨y, by simp [hy], e⟩

/-- What an operation that writes nothing old does hangs on the cells of what it looks at. -/
theorem eff_soft (call : Call) (d : Nat) (o : AOp) (ho : o.hard = false) (hx : ∀ x ∈ o.xs, x.ev s = x.ev s') (hf : ∀ x ∈ o.xs, ∀ v, x.ev s = some v → FzV s.h s'.h v) (h1 : get s.h d = none ↔ get s'.h d = none) (h2 : get s.h (d + 100000) = none ↔ get s'.h (d + 100000) = none) : eff call s d o = eff call s' d o := by
  have hn := newId_iff h1 h2
  have hr : ∀ fr r, ret1 s.h fr d r = ret1 s'.h fr d r := fun fr r => by cases r <;> simp only [ret1, hn]
  have evsf : ∀ {l : List X}, (∀ x ∈ l, x ∈ o.xs) → evs s l = evs s' l ∧ ∀ vs, evs s' l = some vs → AM.frzs s.h vs = AM.frzs s'.h vs := by
    intro l hl
    have e := evs_congr (s := s) (s' := s') fun x hm => hx x (hl x hm)
    refine ⟨e, fun vs hvs => frzs_fz fun v hv => ?_⟩
    rw [← e] at hvs
    obtain ⟨x, hm, hxv⟩ := evs_mem hvs v hv
    exact hf x (hl x hm) v hxv
  have one : ∀ x ∈ o.xs, x.ev s = x.ev s' ∧ ∀ v, x.ev s' = some v → FzV s.h s'.h v := fun x hm => ⟨hx x hm, fun v hv => hf x hm v (by rw [hx x hm]; exact hv)⟩
  cases o
  case bld z ps =>
    obtain ⟨e1, e2⟩ := evsf (l := (AOp.bld z ps).xs) (fun x h => h)
    simp only [AOp.xs] at e1 e2
    simp only [eff, e1]
    cases hv : evs s' (ps.map fun q => q.2.2) with
    | none => rfl
    | some vs => simp only [e2 vs hv]
  case bsl a b z ps =>
    obtain ⟨e1, e2⟩ := evsf (l := (AOp.bsl a b z ps).xs) (fun x h => h)
    simp only [AOp.xs] at e1 e2
    simp only [eff, e1, hn]
    cases hv : evs s' (ps.map fun q => q.2) with
    | none => rfl
    | some vs => simp only [e2 vs hv]
  case mkf f cs =>
    obtain ⟨e1, e2⟩ := evsf (l := cs) (fun x h => h)
    simp only [eff, e1]
    cases hv : evs s' cs with
    | none => rfl
    | some vs => simp only [e2 vs hv]
  case mm mx l =>
    obtain ⟨e1, e2⟩ := evsf (l := l) (fun x h => h)
    simp only [eff, e1]
    cases hv : evs s' l with
    | none => rfl
    | some vs => simp only [e2 vs hv]
  case cld f l =>
    have hrd : ∀ fr r, ret1d s.h fr d r = ret1d s'.h fr d r := fun fr r => by cases r <;> simp only [ret1d, hn]
    obtain ⟨e1, e2⟩ := evsf (l := l) (fun x h => h)
    simp only [eff, e1, hrd]
    cases hv : evs s' l with
    | none => rfl
    | some vs => simp only [e2 vs hv]
  case fad x n =>
    obtain ⟨g1, g2⟩ := one x (by simp [AOp.xs])
    simp only [eff, g1]
    cases hv : x.ev s' with
    | none => rfl
    | some v =>
      cases v with
      | mp d' i j => rcases (g2 _ hv d' rfl).two with ⟨e, k, fz, fz', l, h1, h2⟩ | ⟨h1, h2⟩ <;> simp only [h1, h2]
      | _ => rfl
  case ld1d x =>
    obtain ⟨g1, g2⟩ := one x (by simp [AOp.xs])
    simp only [eff, g1]
    cases hv : x.ev s' with
    | none => rfl
    | some v =>
      cases v with
      | mp d' i j => rcases (g2 _ hv d' rfl).two with ⟨e, k, fz, fz', l, h1, h2⟩ | ⟨h1, h2⟩ <;> simp only [h1, h2]
      | _ => rfl
  case lend x =>
    obtain ⟨g1, g2⟩ := one x (by simp [AOp.xs])
    simp only [eff, g1]
    cases hv : x.ev s' with
    | none => rfl
    | some v =>
      cases v with
      | ms d' i j => rcases (g2 _ hv d' rfl).two with ⟨e, k, fz, fz', l, h1, h2⟩ | ⟨h1, h2⟩ <;> simp only [h1, h2]
      | _ => rfl
  case iad k x i =>
    obtain ⟨g1, g2⟩ := one x (by simp [AOp.xs])
    simp only [eff, g1, hx i (by simp [AOp.xs])]
    cases hv : x.ev s' with
    | none => rfl
    | some v =>
      cases i.ev s' with
      | none => cases v <;> rfl
      | some u =>
        cases v with
        | ms d' off len =>
          dsimp only
          cases natOf u with
          | none => rfl
          | some n => rcases (g2 _ hv d' rfl).two with ⟨e, k, fz, fz', l, h1, h2⟩ | ⟨h1, h2⟩ <;> simp only [h1, h2]
        | _ => rfl
  case cl f l =>
    obtain ⟨e1, e2⟩ := evsf (l := l) (fun x h => h)
    simp only [eff, e1, hr]
    cases hv : evs s' l with
    | none => rfl
    | some vs => simp only [e2 vs hv]
  case cv x l =>
    obtain ⟨e1, e2⟩ := evsf (l := l) (fun x h => List.mem_cons_of_mem _ h)
    simp only [eff, e1, hr, (one x (by simp [AOp.xs])).1]
    cases hv : evs s' l with
    | none =>
      cases x.ev s' with
      | none => rfl
      | some v => cases v with
        | p z => cases z <;> rfl
        | _ => rfl
    | some vs =>
      have e3 := e2 vs hv
      cases x.ev s' with
      | none => rfl
      | some v => cases v with
        | p z => cases z <;> first | rfl | (dsimp only; rw [e3])
        | _ => rfl
  case inv t f m x l =>
    obtain ⟨e1, e2⟩ := evsf (l := l) (fun x h => List.mem_cons_of_mem _ h)
    simp only [eff, e1, hr, (one x (by simp [AOp.xs])).1]
    cases hv : evs s' l with
    | none =>
      cases x.ev s' with
      | none => rfl
      | some v => cases v with
        | p z => cases z <;> rfl
        | _ => rfl
    | some vs =>
      have e3 := e2 vs hv
      cases x.ev s' with
      | none => rfl
      | some v => cases v with
        | p z => cases z <;> first | rfl | (dsimp only; rw [e3])
        | _ => rfl
  case slc k x lo hi mx =>
    obtain ⟨g1, g2⟩ := one x (by simp [AOp.xs])
    have q2 : natOr s 0 lo = natOr s' 0 lo := natOr_congr fun y hy => hx y (by simp only [AOp.xs, List.mem_cons, List.mem_append]; exact .inr (.inl (.inl hy)))
    have q3 : ∀ n, natOr s n hi = natOr s' n hi := fun n => natOr_congr fun y hy => hx y (by simp only [AOp.xs, List.mem_cons, List.mem_append]; exact .inr (.inl (.inr hy)))
    have q4 : ∀ m, mx = some m → natOr s 0 (some m) = natOr s' 0 (some m) := fun m hm => natOr_congr fun y hy => hx y (by simp only [AOp.xs, List.mem_cons, List.mem_append]; exact .inr (.inr (by rw [hm]; exact hy)))
    simp only [eff, g1, q2, q3]
    cases hv : x.ev s' with
    | none => rfl
    | some v =>
      have hvf := g2 v hv
      simp only [svLen_fz hvf, frz_fz hvf]
      cases mx with
      | some m => simp only [q4 m rfl]
      | none =>
        cases v with
        | p z => cases z <;> rfl
        | ms d' off len => rcases (hvf d' rfl).two with ⟨e, k, fz, fz', l, h1, h2⟩ | ⟨h1, h2⟩ <;> simp only [h1, h2]
        | _ => rfl
  case sls x lo hi =>
    have q2 : natOr s 0 lo = natOr s' 0 lo := natOr_congr fun y hy => hx y (by simp only [AOp.xs, List.mem_cons, List.mem_append]; exact .inr (.inl hy))
    have q3 : ∀ n, natOr s n hi = natOr s' n hi := fun n => natOr_congr fun y hy => hx y (by simp only [AOp.xs, List.mem_cons, List.mem_append]; exact .inr (.inr hy))
    simp only [eff, hx x (by simp [AOp.xs]), q2, q3]
  case pick c a b => simp only [eff, hx c (by simp [AOp.xs]), hx a (by simp [AOp.xs]), hx b (by simp [AOp.xs])]
  case nl a b => simp only [eff, hn]
  case alloc a b c => simp only [eff, hn]
  case s2 o x y =>
    obtain ⟨g1, g2⟩ := one x (by simp [AOp.xs])
    simp only [eff, g1, hx y (by simp [AOp.xs])]
    cases hv : x.ev s' with
    | none => rfl
    | some v =>
      cases y.ev s' with
      | none => cases v <;> rfl
      | some u =>
        cases v with
        | mp d' i j =>
          cases u with
          | p z => cases z with
            | sc c => cases c with
              | pointer pa => cases pa with
                | none => rcases (g2 _ hv d' rfl).two with ⟨e, k, fz, fz', l, h1, h2⟩ | ⟨h1, h2⟩ <;> simp only [h1, h2]
                | some _ => rfl
              | _ => rfl
            | _ => rfl
          | _ => rfl
        | p z => cases u <;> rfl
        | _ => rfl
  case eqst n ks x y => simp only [eff, hx x (by simp [AOp.xs]), hx y (by simp [AOp.xs])]
  case ia k x i =>
    obtain ⟨g1, g2⟩ := one x (by simp [AOp.xs])
    simp only [eff, g1, hx i (by simp [AOp.xs])]
    cases hv : x.ev s' with
    | none => rfl
    | some v =>
      cases i.ev s' with
      | none => cases v <;> rfl
      | some u =>
        dsimp only
        cases natOf u with
        | none => rfl
        | some n =>
          cases v with
          | ms d' off len => rcases (g2 _ hv d' rfl).two with ⟨e, k, fz, fz', l, h1, h2⟩ | ⟨h1, h2⟩ <;> simp only [h1, h2]
          | p z => cases z <;> rfl
          | _ => rfl
  case aa k m x i =>
    obtain ⟨g1, g2⟩ := one x (by simp [AOp.xs])
    simp only [eff, g1, hx i (by simp [AOp.xs])]
    cases hv : x.ev s' with
    | none => rfl
    | some v =>
      cases i.ev s' with
      | none => cases v <;> rfl
      | some u =>
        cases v with
        | mp d' i' j =>
          dsimp only
          cases natOf u with
          | none => rfl
          | some n => rcases (g2 _ hv d' rfl).two with ⟨e, k, fz, fz', l, h1, h2⟩ | ⟨h1, h2⟩ <;> simp only [h1, h2]
        | _ => rfl
  case mks a b c z x y => simp only [eff, hx x (by simp [AOp.xs]), hx y (by simp [AOp.xs]), hn]
  case box a b x =>
    obtain ⟨g1, g2⟩ := one x (by simp [AOp.xs])
    simp only [eff, g1, hn]
    cases hv : x.ev s' with
    | none => rfl
    | some v => simp only [frz_fz (g2 v hv)]
  case ldk k x =>
    obtain ⟨g1, g2⟩ := one x (by simp [AOp.xs])
    simp only [eff, g1]
    cases hv : x.ev s' with
    | none => rfl
    | some v =>
      cases v with
      | mp d' i j => rcases (g2 _ hv d' rfl).two with ⟨e, k, fz, fz', l, h1, h2⟩ | ⟨h1, h2⟩ <;> simp only [h1, h2]
      | p z => cases z with
        | pt l => cases l <;> rfl
        | _ => rfl
      | _ => rfl
  case iap k x i => simp only [eff, hx x (by simp [AOp.xs]), hx i (by simp [AOp.xs])]
  case ldp1 x => simp only [eff, hx x (by simp [AOp.xs])]
  case ldpk k x => simp only [eff, hx x (by simp [AOp.xs])]
  case mvp x =>
    obtain ⟨g1, g2⟩ := one x (by simp [AOp.xs])
    simp only [eff, g1]
    cases hv : x.ev s' with
    | none => rfl
    | some v => simp only [frz_fz (g2 v hv)]
  case ld1 x =>
    obtain ⟨g1, g2⟩ := one x (by simp [AOp.xs])
    simp only [eff, g1]
    cases hv : x.ev s' with
    | none => rfl
    | some v =>
      cases v with
      | mp d' i j => rcases (g2 _ hv d' rfl).two with ⟨e, k, fz, fz', l, h1, h2⟩ | ⟨h1, h2⟩ <;> simp only [h1, h2]
      | p z => cases z with
        | pt l => cases l <;> rfl
        | _ => rfl
      | _ => rfl
  case s1 o x => simp only [eff, hx x (by simp [AOp.xs])]
  case mki t x =>
    obtain ⟨g1, g2⟩ := one x (by simp [AOp.xs])
    simp only [eff, g1]
    cases hv : x.ev s' with
    | none => rfl
    | some v => simp only [frz_fz (g2 v hv)]
  case fld1 x n => simp only [eff, hx x (by simp [AOp.xs])]
  case bldp z ps =>
    have h1 : evp s (ps.map fun q => q.2.2) = evp s' (ps.map fun q => q.2.2) := evp_congr hx
    simp only [eff, h1]
  case bslp a b z ps =>
    have h1 : evp s (ps.map fun q => q.2) = evp s' (ps.map fun q => q.2) := evp_congr hx
    simp only [eff, h1]
  case ixa k m x i => simp only [eff, hx x (by simp [AOp.xs]), hx i (by simp [AOp.xs])]
  case fldk x n m => simp only [eff, hx x (by simp [AOp.xs])]
  case fa x n =>
    obtain ⟨g1, g2⟩ := one x (by simp [AOp.xs])
    simp only [eff, g1]
    cases hv : x.ev s' with
    | none => rfl
    | some v =>
      cases v with
      | mp d' i j => rcases (g2 _ hv d' rfl).two with ⟨e, k, fz, fz', l, h1, h2⟩ | ⟨h1, h2⟩ <;> simp only [h1, h2]
      | p z => cases z with
        | pt l => cases l <;> rfl
        | _ => rfl
      | _ => rfl
  case ext x n => simp only [eff, hx x (by simp [AOp.xs])]
  case mv x => simp only [eff, hx x (by simp [AOp.xs])]
  case nck x =>
    obtain ⟨g1, g2⟩ := one x (by simp [AOp.xs])
    simp only [eff, g1]
    cases hv : x.ev s' with
    | none => rfl
    | some v =>
      cases v with
      | mp d' i j => rcases (g2 _ hv d' rfl).two with ⟨e, k, fz, fz', l, h1, h2⟩ | ⟨h1, h2⟩ <;> simp only [h1, h2]
      | p z => cases z with
        | pt l => cases l <;> rfl
        | _ => rfl
      | _ => rfl
  case len x =>
    obtain ⟨g1, g2⟩ := one x (by simp [AOp.xs])
    simp only [eff, g1]
    cases hv : x.ev s' with
    | none => rfl
    | some v => simp only [svLen_fz (g2 v hv)]
  case lens x => simp only [eff, hx x (by simp [AOp.xs])]
  case rng x => simp only [eff, hx x (by simp [AOp.xs]), hn]
  case b2s x =>
    obtain ⟨g1, g2⟩ := one x (by simp [AOp.xs])
    simp only [eff, g1]
    cases hv : x.ev s' with
    | none => rfl
    | some v => simp only [elems_fz (g2 v hv)]
  all_goals simp [AOp.hard] at ho

/-- An operation that looks at no object. -/
theorem eff_bare (call : Call) (d : Nat) (o : AOp) (ho : o.bare = true) (hx : ∀ x ∈ o.xs, x.ev s = x.ev s') : eff call s d o = eff call s' d o := by
  cases o
  case mv x => simp only [eff, hx x (by simp [AOp.xs])]
  case pick c a b => simp only [eff, hx c (by simp [AOp.xs]), hx a (by simp [AOp.xs]), hx b (by simp [AOp.xs])]
  case s1 o x => simp only [eff, hx x (by simp [AOp.xs])]
  case eqst n ks x y => simp only [eff, hx x (by simp [AOp.xs]), hx y (by simp [AOp.xs])]
  case fld1 x n => simp only [eff, hx x (by simp [AOp.xs])]
  case bldp z ps =>
    have h1 : evp s (ps.map fun q => q.2.2) = evp s' (ps.map fun q => q.2.2) := evp_congr hx
    simp only [eff, h1]
  case bslp a b z ps =>
    have h1 : evp s (ps.map fun q => q.2) = evp s' (ps.map fun q => q.2) := evp_congr hx
    simp only [eff, h1]
  case ixa k m x i => simp only [eff, hx x (by simp [AOp.xs]), hx i (by simp [AOp.xs])]
  case fldk x n m => simp only [eff, hx x (by simp [AOp.xs])]
  case iap k x i => simp only [eff, hx x (by simp [AOp.xs]), hx i (by simp [AOp.xs])]
  case ldp1 x => simp only [eff, hx x (by simp [AOp.xs])]
  case ldpk k x => simp only [eff, hx x (by simp [AOp.xs])]
  case lens x => simp only [eff, hx x (by simp [AOp.xs])]
  case ext x n => simp only [eff, hx x (by simp [AOp.xs])]
  case sls x lo hi =>
    have q2 : natOr s 0 lo = natOr s' 0 lo := natOr_congr fun y hy => hx y (by simp only [AOp.xs, List.mem_cons, List.mem_append]; exact .inr (.inl hy))
    have q3 : ∀ n, natOr s n hi = natOr s' n hi := fun n => natOr_congr fun y hy => hx y (by simp only [AOp.xs, List.mem_cons, List.mem_append]; exact .inr (.inr hy))
    simp only [eff, hx x (by simp [AOp.xs]), q2, q3]
  case s2 o x y =>
    simp only [eff, hx x (by simp [AOp.xs]), hx y (by simp [AOp.xs])]
    cases o <;> first | (simp [AOp.bare] at ho; done) | rfl
  all_goals simp [AOp.bare] at ho
theorem bare_hs (call : Call) (d : Nat) (o : AOp) (ho : o.bare = true) {e : Eff} (he : eff call s d o = some e) : e.hs = [] := by
  cases o <;> first | (simp [AOp.bare] at ho; done) | skip
  all_goals
    simp only [eff, uns] at he
    repeat' split at he
    all_goals first | (simp at he; done) | (simp only [Option.some.injEq] at he; subst he; rfl)
end
end Go.Proofs.Ytihgpnfkadldeaa.AM
