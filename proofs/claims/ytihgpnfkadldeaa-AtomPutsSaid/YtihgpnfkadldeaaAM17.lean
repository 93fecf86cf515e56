/- The small machine's operations in another order. No condition. -/
import Derived.Test.YtihgpnfkadldeaaAM16
namespace Go.Proofs.Ytihgpnfkadldeaa.AM
open Go Go.RowKit
set_option linter.unusedVariables false
set_option linter.unusedSimpArgs false

/-- What an operation looks at. -/
def AOp.xs : AOp → List X
  | .mv x => [x]
  | .nl _ _ => []
  | .pick c a b => [c, a, b]
  | .box _ _ x => [x]
  | .alloc _ _ _ => []
  | .bld _ ps => ps.map fun q => q.2.2
  | .bsl _ _ _ ps => ps.map fun q => q.2
  | .iap _ x i => [x, i]
  | .ldp1 x => [x]
  | .ldpk _ x => [x]
  | .mvp x => [x]
  | .ld1 x => [x]
  | .ldk _ x => [x]
  | .sto _ a x => [a, x]
  | .s1 _ x => [x]
  | .s2 _ x y => [x, y]
  | .eqst _ _ x y => [x, y]
  | .nck x => [x]
  | .apps _ _ x y => [x, y]
  | .mki _ x => [x]
  | .inv _ _ _ x l => x :: l
  | .fld1 x _ => [x]
  | .fldk x _ _ => [x]
  | .ixa _ _ x i => [x, i]
  | .bldp _ ps => ps.map fun q => q.2.2
  | .bslp _ _ _ ps => ps.map fun q => q.2
  | .fa x _ => [x]
  | .ia _ x i => [x, i]
  | .aa _ _ x i => [x, i]
  | .mkf _ cs => cs
  | .mks _ _ _ _ l c => [l, c]
  | .slc _ x lo hi mx => x :: (lo.toList ++ hi.toList ++ mx.toList)
  | .sls x lo hi => x :: (lo.toList ++ hi.toList)
  | .len x => [x]
  | .lens x => [x]
  | .app _ _ _ x y => [x, y]
  | .cpy _ x y => [x, y]
  | .mm _ l => l
  | .rng x => [x]
  | .nxt x => [x]
  | .ext x _ => [x]
  | .cl _ l => l
  | .cv x l => x :: l
  | .b2s x => [x]
  | .cpyd _ x y => [x, y]
  | .cpyo _ x y => [x, y]
  | .iad _ x i => [x, i]
  | .fad x _ => [x]
  | .ld1d x => [x]
  | .ld1o x => [x]
  | .sto1o a x => [a, x]
  | .stod a x => [a, x]
  | .lend x => [x]
  | .mvs x y => [x, y]
  | .cld _ l => l
  | .sbn _ _ => []
  | .sbw _ x y => [x, y]
  | .sbs _ x => [x]

/-- Does it write what is there? -/
def AOp.hard : AOp → Bool
  | .sto .. | .apps .. | .app .. | .cpy .. | .nxt .. | .cpyd .. | .cpyo .. | .ld1o .. | .sto1o .. | .stod .. | .mvs .. | .sbn .. | .sbw .. | .sbs .. => true
  | _ => false
/-- Does it look at no object? -/
def AOp.bare : AOp → Bool
  | .mv .. | .pick .. | .s1 .. | .eqst .. | .fld1 .. | .ixa .. | .bldp .. | .bslp .. | .fldk .. | .sls .. | .lens .. | .ext .. | .iap .. | .ldp1 .. | .ldpk .. => true
  | .s2 o _ _ => match o with | .peq _ => false | _ => true
  | _ => false

section
variable {s s' : St}

theorem evs_congr : ∀ {l : List X}, (∀ x ∈ l, x.ev s = x.ev s') → evs s l = evs s' l
  | [], _ => rfl
  | x :: l, h => by
    simp only [evs]
    rw [h x (by simp), evs_congr fun y hy => h y (by simp [hy])]
theorem evp_congr : ∀ {l : List X}, (∀ x ∈ l, x.ev s = x.ev s') → evp s l = evp s' l
  | [], _ => rfl
  | x :: l, h => by
    simp only [evp]
    rw [h x (by simp), evp_congr fun y hy => h y (by simp [hy])]
theorem natOr_congr {d : Nat} {x : Option X} (h : ∀ y ∈ x.toList, y.ev s = y.ev s') : natOr s d x = natOr s' d x := by
  cases x with
  | none => rfl
  | some x => simp only [natOr]; rw [h x (by simp)]
theorem frz_congr {h h' : List (Nat × Ob)} (e : ∀ d, get h d = get h' d) (v : SV) : frz h v = frz h' v := by
  cases v <;> simp only [frz, e]
theorem frzs_congr {h h' : List (Nat × Ob)} (e : ∀ d, get h d = get h' d) : ∀ vs : List SV, frzs h vs = frzs h' vs
  | [] => rfl
  | v :: vs => by simp only [frzs, frz_congr e, frzs_congr e vs]
theorem newId_congr {h h' : List (Nat × Ob)} (e : ∀ d, get h d = get h' d) (d : Nat) : newId h d = newId h' d := by simp only [newId, e]
theorem elems_congr {h h' : List (Nat × Ob)} (e : ∀ d, get h d = get h' d) (v : SV) : elems h v = elems h' v := by
  cases v <;> simp only [elems, e]
theorem svLen_congr {h h' : List (Nat × Ob)} (e : ∀ d, get h d = get h' d) (v : SV) : svLen h v = svLen h' v := by
  cases v <;> simp only [svLen, e]
theorem ret1d_congr {h h' : List (Nat × Ob)} (e : ∀ d, get h d = get h' d) (fr : List (Nat × Ob)) (d : Nat) (r : Ret) : ret1d h fr d r = ret1d h' fr d r := by
  cases r <;> simp only [ret1d, newId_congr e]
theorem ret1_congr {h h' : List (Nat × Ob)} (e : ∀ d, get h d = get h' d) (fr : List (Nat × Ob)) (d : Nat) (r : Ret) : ret1 h fr d r = ret1 h' fr d r := by
  cases r <;> simp only [ret1, newId_congr e]

/-- What an operation does hangs on what it looks at alone. -/
theorem eff_congr (call : Call) (d : Nat) (o : AOp) (hx : ∀ x ∈ o.xs, x.ev s = x.ev s') (e : ∀ d, get s.h d = get s'.h d) : eff call s d o = eff call s' d o := by
  cases o
  case bld z ps =>
    have h1 : evs s (ps.map fun q => q.2.2) = evs s' (ps.map fun q => q.2.2) := evs_congr hx
    simp only [eff, frzs_congr e, h1]
  case bldp z ps =>
    have h1 : evp s (ps.map fun q => q.2.2) = evp s' (ps.map fun q => q.2.2) := evp_congr hx
    simp only [eff, h1]
  case bslp a b z ps =>
    have h1 : evp s (ps.map fun q => q.2) = evp s' (ps.map fun q => q.2) := evp_congr hx
    simp only [eff, h1]
  case bsl a b z ps =>
    have h1 : evs s (ps.map fun q => q.2) = evs s' (ps.map fun q => q.2) := evs_congr hx
    simp only [eff, frzs_congr e, h1, newId_congr e]
  case mkf f cs =>
    have h1 : evs s cs = evs s' cs := evs_congr hx
    simp only [eff, frzs_congr e, h1]
  case mm mx l =>
    have h1 : evs s l = evs s' l := evs_congr hx
    simp only [eff, frzs_congr e, h1]
  case cl f l =>
    have h1 : evs s l = evs s' l := evs_congr hx
    simp only [eff, frzs_congr e, h1, ret1_congr e]
  case cld f l =>
    have h1 : evs s l = evs s' l := evs_congr hx
    simp only [eff, frzs_congr e, h1, ret1d_congr e]
  case cpyd k x y => simp only [eff, hx x (by simp [AOp.xs]), hx y (by simp [AOp.xs]), e, elems_congr e]
  case cpyo k x y => simp only [eff, hx x (by simp [AOp.xs]), hx y (by simp [AOp.xs]), e]
  case iad k x i => simp only [eff, hx x (by simp [AOp.xs]), hx i (by simp [AOp.xs]), e]
  case fad x n => simp only [eff, hx x (by simp [AOp.xs]), e]
  case ld1d x => simp only [eff, hx x (by simp [AOp.xs]), e]
  case ld1o x => simp only [eff, hx x (by simp [AOp.xs]), e, newId_congr e]
  case sto1o a x => simp only [eff, hx a (by simp [AOp.xs]), hx x (by simp [AOp.xs]), e]
  case sbn T e1 => simp only [eff, newId_congr e]
  case sbw f x y => simp only [eff, sbwE, hx x (by simp [AOp.xs]), hx y (by simp [AOp.xs]), e]
  case sbs f x => simp only [eff, sbsE, hx x (by simp [AOp.xs]), e]
  case stod a x => simp only [eff, hx a (by simp [AOp.xs]), hx x (by simp [AOp.xs]), e]
  case lend x => simp only [eff, hx x (by simp [AOp.xs]), e]
  case mvs x y => simp only [eff, hx x (by simp [AOp.xs]), hx y (by simp [AOp.xs]), e]
  case cv x l =>
    have h1 : evs s l = evs s' l := evs_congr fun y hy => hx y (by simp [AOp.xs, hy])
    simp only [eff, frzs_congr e, hx x (by simp [AOp.xs]), h1, ret1_congr e]
  case inv t f m x l =>
    have h1 : evs s l = evs s' l := evs_congr fun y hy => hx y (by simp [AOp.xs, hy])
    simp only [eff, frzs_congr e, hx x (by simp [AOp.xs]), h1, ret1_congr e]
  case slc k x lo hi mx =>
    have h1 := hx x (by simp [AOp.xs])
    have h2 : natOr s 0 lo = natOr s' 0 lo := natOr_congr fun y hy => hx y (by simp only [AOp.xs, List.mem_cons, List.mem_append]; exact .inr (.inl (.inl hy)))
    have h3 : ∀ n, natOr s n hi = natOr s' n hi := fun n => natOr_congr fun y hy => hx y (by simp only [AOp.xs, List.mem_cons, List.mem_append]; exact .inr (.inl (.inr hy)))
    have h4 : ∀ m, mx = some m → natOr s 0 (some m) = natOr s' 0 (some m) := fun m hm => natOr_congr fun y hy => hx y (by simp only [AOp.xs, List.mem_cons, List.mem_append]; exact .inr (.inr (by rw [hm]; exact hy)))
    simp only [eff, h1, h2, h3, svLen_congr e, frz_congr e, e]
    cases mx with
    | none => rfl
    | some m => simp only [h4 m rfl]
  case sls x lo hi =>
    have h1 := hx x (by simp [AOp.xs])
    have h2 : natOr s 0 lo = natOr s' 0 lo := natOr_congr fun y hy => hx y (by simp only [AOp.xs, List.mem_cons, List.mem_append]; exact .inr (.inl hy))
    have h3 : ∀ n, natOr s n hi = natOr s' n hi := fun n => natOr_congr fun y hy => hx y (by simp only [AOp.xs, List.mem_cons, List.mem_append]; exact .inr (.inr hy))
    simp only [eff, h1, h2, h3]
  case pick c a b => simp only [eff, hx c (by simp [AOp.xs]), hx a (by simp [AOp.xs]), hx b (by simp [AOp.xs])]
  case nl a b => simp only [eff, newId_congr e]
  case alloc a b c => simp only [eff, newId_congr e]
  case sto k a x => simp only [eff, hx a (by simp [AOp.xs]), hx x (by simp [AOp.xs]), frz_congr e, e]
  case s2 o x y => simp only [eff, hx x (by simp [AOp.xs]), hx y (by simp [AOp.xs]), e]
  case eqst n ks x y => simp only [eff, hx x (by simp [AOp.xs]), hx y (by simp [AOp.xs])]
  case apps a b x y => simp only [eff, hx x (by simp [AOp.xs]), hx y (by simp [AOp.xs]), e, newId_congr e]
  case app a b c x y => simp only [eff, hx x (by simp [AOp.xs]), hx y (by simp [AOp.xs]), e, newId_congr e, elems_congr e]
  case cpy k x y => simp only [eff, hx x (by simp [AOp.xs]), hx y (by simp [AOp.xs]), e, elems_congr e]
  case ia k x i => simp only [eff, hx x (by simp [AOp.xs]), hx i (by simp [AOp.xs]), e]
  case aa k m x i => simp only [eff, hx x (by simp [AOp.xs]), hx i (by simp [AOp.xs]), e]
  case mks a b c z x y => simp only [eff, hx x (by simp [AOp.xs]), hx y (by simp [AOp.xs]), newId_congr e]
  case box a b x => simp only [eff, hx x (by simp [AOp.xs]), frz_congr e, newId_congr e]
  case ldk k x => simp only [eff, hx x (by simp [AOp.xs]), e]
  case s1 o x => simp only [eff, hx x (by simp [AOp.xs])]
  case mki t x => simp only [eff, hx x (by simp [AOp.xs]), frz_congr e]
  case fld1 x n => simp only [eff, hx x (by simp [AOp.xs])]
  case ixa k m x i => simp only [eff, hx x (by simp [AOp.xs]), hx i (by simp [AOp.xs])]
  case fldk x n m => simp only [eff, hx x (by simp [AOp.xs])]
  case fa x n => simp only [eff, hx x (by simp [AOp.xs]), e]
  case ext x n => simp only [eff, hx x (by simp [AOp.xs])]
  case mv x => simp only [eff, hx x (by simp [AOp.xs])]
  case iap k x i => simp only [eff, hx x (by simp [AOp.xs]), hx i (by simp [AOp.xs])]
  case ldp1 x => simp only [eff, hx x (by simp [AOp.xs])]
  case ldpk k x => simp only [eff, hx x (by simp [AOp.xs])]
  case mvp x => simp only [eff, hx x (by simp [AOp.xs]), frz_congr e]
  case ld1 x => simp only [eff, hx x (by simp [AOp.xs]), e]
  case nck x => simp only [eff, hx x (by simp [AOp.xs]), e]
  case len x => simp only [eff, hx x (by simp [AOp.xs]), svLen_congr e]
  case lens x => simp only [eff, hx x (by simp [AOp.xs])]
  case rng x => simp only [eff, hx x (by simp [AOp.xs]), newId_congr e]
  case nxt x => simp only [eff, hx x (by simp [AOp.xs]), e]
  case b2s x => simp only [eff, hx x (by simp [AOp.xs]), elems_congr e]
end
end Go.Proofs.Ytihgpnfkadldeaa.AM
