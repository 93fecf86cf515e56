/- Made by pack.py: AMO, AM17, AM18, AM19, AM20. No condition but what each says. -/
import Derived.Test.YtjpibniecllafaaGreatR5
import Derived.Orders
set_option linter.unusedSimpArgs false
set_option linter.unusedVariables false
section
namespace Go.Proofs.YtjpibniecllafaaGreat.AM
open Go Go.RowKit
theorem Tgf {α : Type} : ∀ (l m : List (Nat × α)) (x : Nat), get (l ++ m) x = (get l x).orElse fun _ => get m x
 | [], m, x => rfl
 | (d, o) :: l, m, x => by
  simp only [List.cons_append, get]
  split
  · rfl
  · exact Tgf l m x
theorem Tl8 {h : List (Nat × Ob)} {f : Nat → Nat} : ∀ (l : List Nat) (x : Nat), (∀ d ∈ l, get h d ≠ none) → get (canP h f l) x = if x ∈ l then (get h x).map (·.mapr f) else none
 | [], x, _ => rfl
 | d :: l, x, hl => by
  unfold canP
  rw [List.flatMap_cons, Tgf]
  have ih := Tl8 (f := f) l x fun e he => hl e (by simp [he])
  unfold canP at ih
  rw [ih]
  clear ih
  have hd := hl d (by simp)
  cases ho : get h d with
  | none => exact absurd ho hd
  | some o =>
   simp only [get]
   by_cases hx : d = x
   · subst hx; simp [ho]
   · rw [if_neg hx]
     have : x ≠ d := fun e => hx e.symm
     simp [this]
section
variable {P : Program} {base : Nat} {w0 : World} {lm0 : L0} {N : Nat} {g : Gs} {a : Act} {w : World} {s : St} {o : Oper}
theorem Sim.canon (S : Sim base w0 lm0 N g a w s) : ∃ g', Sim base w0 lm0 N g' a w (AM.canon s) := by
 unfold AM.canon
 generalize hp : pinsOf s.h = pins
 cases hR : reach s.h 300 (pins ++ s.t.flatMap fun q => q.2.refs) [] with
 | none => exact ⟨g, S⟩
 | some R =>
  dsimp only
  by_cases hc : R.take pins.length = pins ∧ (pins.all fun d => decide (d < 1000)) = true
  case neg => rw [if_neg hc]; exact ⟨g, S⟩
  rw [if_pos hc]
  obtain ⟨hc1, hc2⟩ := hc
  obtain ⟨hRn, hRt, hRx, hRc⟩ := Tbl hR
  have hRl := Teh hR
  generalize hD : R.drop pins.length = D
  have hRD : R = pins ++ D := by rw [← hD, ← List.take_append_drop pins.length R, hc1]; simp
  have hDl : D.length ≤ 300 := by rw [hRD] at hRl; simp at hRl; omega
  have hpl : ∀ d ∈ pins, d < 1000 := fun d hd => by simpa using List.all_eq_true.1 hc2 d hd
  have hnd : (pins ++ D).Nodup := hRD ▸ hRn
  obtain ⟨n1, n2, n3⟩ := List.nodup_append.1 hnd
  have hex : ∀ d ∈ R, get s.h d ≠ none := fun d hd => by obtain ⟨o, q, _⟩ := hRx d hd; rw [q]; simp
  have hpe : ∀ d ∈ pins, get s.h d ≠ none := fun d hd => hex d (by rw [hRD]; simp [hd])
  have hDe : ∀ d ∈ D, get s.h d ≠ none := fun d hd => hex d (by rw [hRD]; simp [hd])
  let f : Nat → Nat := canF pins D
  let u : Nat → Nat := fun x => if x < 1000 then x else if x = 999999 then 999999 else at0 D (x - 1000)
  show ∃ g', Sim base w0 lm0 N g' a w ⟨s.t.map fun q => (q.1, q.2.mapr f), canP s.h f pins ++ subH s.h f D 1000 ++ pinOb s.h⟩
  generalize hH : canP s.h f pins ++ subH s.h f D 1000 ++ pinOb s.h = H
  have hpz : ∀ x, get (pinOb s.h) x = if x = 999999 then (match get s.h 999999 with | some (.pin l) => some (.pin l) | _ => none) else none := fun x => by
   unfold pinOb
   split
   · rename_i l hl
     simp only [get]
     by_cases hx : x = 999999
     · rw [if_pos hx, if_pos hx.symm, hl]
     · rw [if_neg hx, if_neg fun e => hx e.symm]
   · rename_i hl
     by_cases hx : x = 999999
     · rw [if_pos hx]
       split
       · rename_i l hl2; exact absurd hl2 (hl l)
       · rfl
     · rw [if_neg hx]; rfl
  have hg : ∀ x, get H x = if x ∈ pins then (get s.h x).map (·.mapr f) else if 1000 ≤ x ∧ x < 1000 + D.length then (get s.h (at0 D (x - 1000))).map (·.mapr f) else if x = 999999 then (match get s.h 999999 with | some (.pin l) => some (.pin l) | _ => none) else none := fun x => by
   rw [← hH, Tgf, Tgf, Tl8 pins x hpe, Tcm hDe, hpz]
   by_cases h1 : x ∈ pins
   · have := hpl x h1
     have h2 := hpe x h1
     rw [if_pos h1, if_pos h1]
     cases ho : get s.h x with
     | none => exact absurd ho h2
     | some o => rfl
   · rw [if_neg h1, if_neg h1]
     by_cases h2 : 1000 ≤ x ∧ x < 1000 + D.length
     · rw [if_pos h2, if_pos h2]
       have h3 := hDe _ (Ta3 (R := D) (i := x - 1000) (by omega))
       cases ho : get s.h (at0 D (x - 1000)) with
       | none => exact absurd ho h3
       | some o => rfl
     · rw [if_neg h2, if_neg h2]; rfl
  have h9 : ∀ l, get s.h 999999 = some (.pin l) → (999999 : Nat) ∉ R := fun l hl hm => by
   obtain ⟨o, q1, q2⟩ := hRx _ hm
   rw [hl] at q1
   rw [← oIj q1] at q2
   simp [Ob.noPin] at q2
  have hin : ∀ e ∈ R, get H (f e) ≠ none ∧ u (f e) = e := fun e he => by
   by_cases h1 : e ∈ pins
   · have hfe : f e = e := if_pos (by simpa using h1)
     have := hpl e h1
     rw [hfe, hg, if_pos h1]
     refine ⟨fun h => hpe e h1 (by simpa using h), if_pos this⟩
   · have h2 : e ∈ D := by rw [hRD] at he; simpa [h1] using he
     have hfe : f e = 1000 + pos D e := if_neg (by simpa using h1)
     obtain ⟨q1, q2⟩ := Td1 h2
     have hnp : 1000 + pos D e ∉ pins := fun h => by have := hpl _ h; omega
     rw [hfe, hg, if_neg hnp, if_pos (by omega), Nat.add_sub_cancel_left, q2]
     refine ⟨fun h => hDe e h2 (by simpa using h), ?_⟩
     show (if _ then _ else if _ then _ else _) = e
     rw [if_neg (by omega), if_neg (by omega), Nat.add_sub_cancel_left, q2]
  have ren : Ren s.h H u f := by
   have cases3 : ∀ d, get H d ≠ none → (d ∈ pins ∧ u d = d) ∨ (1000 ≤ d ∧ d < 1000 + D.length ∧ u d = at0 D (d - 1000)) ∨ (d = 999999 ∧ u d = 999999 ∧ ∃ l, get s.h 999999 = some (.pin l)) := fun d hd => by
    rw [hg] at hd
    split at hd
    · rename_i h1; exact .inl ⟨h1, if_pos (hpl d h1)⟩
    · split at hd
      · rename_i h1 h2
        refine .inr (.inl ⟨h2.1, h2.2, ?_⟩)
        show (if _ then _ else if _ then _ else _) = _
        rw [if_neg (by omega), if_neg (by omega)]
      · split at hd
        · rename_i h3
          refine .inr (.inr ⟨h3, ?_, ?_⟩)
          · show (if _ then _ else if _ then _ else _) = _
            rw [if_neg (by omega), if_pos h3]
          · split at hd
            · rename_i l hl; exact ⟨l, hl⟩
            · exact absurd rfl hd
        · exact absurd rfl hd
   refine ⟨fun d o hd => ?_, fun d d' h1 h2 he => ?_, fun d o1 hd ho e he => ?_⟩
   · rcases cases3 d (by rw [hd]; simp) with ⟨q1, q2⟩ | ⟨q1, q2, q3⟩ | ⟨q1, q2, l, q3⟩
     · have := hpl d q1
       rw [hg, if_pos q1] at hd
       refine ⟨by omega, ?_⟩
       rw [q2]
       cases ho : get s.h d with
       | none => rw [ho] at hd; simp at hd
       | some o1 => rw [ho] at hd; exact ⟨o1, rfl, (oIj hd).symm⟩
     · have hnp : d ∉ pins := fun h => by have := hpl _ h; omega
       rw [hg, if_neg hnp, if_pos ⟨q1, q2⟩] at hd
       refine ⟨by omega, ?_⟩
       rw [q3]
       cases ho : get s.h (at0 D (d - 1000)) with
       | none => rw [ho] at hd; simp at hd
       | some o1 => rw [ho] at hd; exact ⟨o1, rfl, (oIj hd).symm⟩
     · have hnp : d ∉ pins := fun h => by have := hpl _ h; omega
       rw [hg, if_neg hnp, if_neg (by omega), if_pos q1, q3] at hd
       refine ⟨by omega, .pin l, by rw [q2]; exact q3, (oIj hd).symm⟩
   · rcases cases3 d h1 with ⟨q1, q2⟩ | ⟨q1, q2, q3⟩ | ⟨q1, q2, l, q3⟩
     · rcases cases3 d' h2 with ⟨r1, r2⟩ | ⟨r1, r2, r3⟩ | ⟨r1, r2, l', r3⟩
       · rw [q2, r2] at he; exact he
       · exfalso
         rw [q2, r3] at he
         exact n3 d q1 _ (Ta3 (R := D) (i := d' - 1000) (by omega)) he
       · have := hpl d q1; rw [q2, r2] at he; omega
     · rcases cases3 d' h2 with ⟨r1, r2⟩ | ⟨r1, r2, r3⟩ | ⟨r1, r2, l', r3⟩
       · exfalso
         rw [q3, r2] at he
         exact n3 d' r1 _ (Ta3 (R := D) (i := d - 1000) (by omega)) he.symm
       · rw [q3, r3] at he
         have e1 := Tbv n2 (i := d - 1000) (by omega)
         have e2 := Tbv n2 (i := d' - 1000) (by omega)
         rw [he] at e1
         omega
       · exfalso
         rw [q3, r2] at he
         exact h9 l' r3 (by rw [hRD, ← he]; exact List.mem_append.2 (.inr (Ta3 (by omega))))
     · rcases cases3 d' h2 with ⟨r1, r2⟩ | ⟨r1, r2, r3⟩ | ⟨r1, r2, l', r3⟩
       · have := hpl d' r1; rw [q2, r2] at he; omega
       · exfalso
         rw [q2, r3] at he
         exact h9 l q3 (by rw [hRD, he]; exact List.mem_append.2 (.inr (Ta3 (by omega))))
       · omega
   · rcases cases3 d hd with ⟨q1, q2⟩ | ⟨q1, q2, q3⟩ | ⟨q1, q2, l, q3⟩
     · rw [q2] at ho
       exact hin e (hRc d (by rw [hRD]; simp [q1]) o1 ho e (Ob.mem_refs.2 he))
     · rw [q3] at ho
       exact hin e (hRc _ (by rw [hRD]; exact List.mem_append.2 (.inr (Ta3 (by omega)))) o1 ho e (Ob.mem_refs.2 he))
     · rw [q2, q3] at ho
       rw [← oIj ho] at he
       simp [Ob.ref] at he
  have H2 := S.hs.ren ren
  refine ⟨⟨g.lm, fun x => g.v (lift u x)⟩, S.bas, S.size, S.defers, S.below, S.lm, fun n v hn => ?_, H2.ob, H2.lt, H2.ap, H2.gs, fun v z hz => ?_, S.pn, fun l hl => ?_, ⟨S.fr.ex, S.fr.sz, S.fr.kf, fun b hb => ren.free (S.fr.kd b hb)⟩⟩
  · have h1 := Tkv (SV.mapr f) s.t n
    rw [h1] at hn
    cases hn' : get s.t n with
    | none => rw [hn'] at hn; simp at hn
    | some v0 =>
     rw [hn'] at hn
     simp at hn
     subst hn
     obtain ⟨z, hz, hr⟩ := S.tm n v0 hn'
     refine ⟨z, hz, ren.srep (fun e he => hin e (hRt e ?_)) hr⟩
     rw [List.mem_append]
     exact .inr (List.mem_flatMap.2 ⟨(n, v0), Tc8 hn', SV.mem_refs.2 he⟩)
  · have hr := S.ov v z hz
    have hpv : ∀ e, v.ref e = true → e ∈ pins := fun e he => by
     obtain ⟨l, hl, hd⟩ := S.pn v z hz e he
     have h9 := (S.px l hl).1
     rw [← hp]
     unfold pinsOf
     rw [h9]
     exact hd
    have := ren.srep (w := w) (fun e he => hin e (by rw [hRD]; simp [hpv e he])) hr
    have e0 : SV.mapr f v = v := SV.mapr_id fun e he => by
     show canF pins D e = e
     unfold canF
     rw [if_pos (by simpa using hpv e he)]
    rw [e0] at this
    exact this
  · obtain ⟨q1, q2⟩ := S.px l hl
    have hpp : pins = l := by rw [← hp]; unfold pinsOf; rw [q1]
    refine ⟨?_, fun d hd => ?_⟩
    · have hnp : (999999 : Nat) ∉ pins := fun h => by have := hpl _ h; omega
      show get H 999999 = _
      rw [hg, if_neg hnp, if_neg (by omega), if_pos rfl, q1]
    · right
      have hd' : d ∈ pins := by rw [hpp]; exact hd
      show get H d ≠ none
      rw [hg, if_pos hd']
      intro h
      exact hpe d hd' (by simpa using h)
end
end Go.Proofs.YtjpibniecllafaaGreat.AM
end
section
namespace Go.Proofs.YtjpibniecllafaaGreat.AM
open Go Go.RowKit
def AOp.xs : AOp → List X
 | .mv x => [x]
 | .nl _ _ => []
 | .pick c a b => [c, a, b]
 | .box _ _ x => [x]
 | .alloc _ _ _ => []
 | .boxp _ _ x => [x]
 | .alcp _ _ _ => []
 | .bld _ ps => ps.map fun q => q.2.2
 | .bsl _ _ _ ps => ps.map fun q => q.2
 | .iap _ x i => [x, i]
 | .ldp1 x => [x]
 | .ldpk _ x => [x]
 | .mvp x => [x]
 | .ld1 x => [x]
 | .ldk _ x => [x]
 | .sto _ a x => [a, x]
 | .s1 _ x => [x]
 | .s2 _ x y => [x, y]
 | .eqst _ _ x y => [x, y]
 | .nck x => [x]
 | .apps _ _ x y => [x, y]
 | .mki _ x => [x]
 | .inv _ _ _ x l => x :: l
 | .fld1 x _ => [x]
 | .fldk x _ _ => [x]
 | .ixa _ _ x i => [x, i]
 | .bldp _ ps => ps.map fun q => q.2.2
 | .bslp _ _ _ ps => ps.map fun q => q.2
 | .fa x _ => [x]
 | .ia _ x i => [x, i]
 | .aa _ _ x i => [x, i]
 | .mkf _ cs => cs
 | .mks _ _ _ _ l c => [l, c]
 | .slc _ x lo hi mx => x :: (lo.toList ++ hi.toList ++ mx.toList)
 | .sls x lo hi => x :: (lo.toList ++ hi.toList)
 | .len x => [x]
 | .lens x => [x]
 | .app _ _ _ x y => [x, y]
 | .cpy _ x y => [x, y]
 | .mm _ l => l
 | .rng x => [x]
 | .nxt x => [x]
 | .ext x _ => [x]
 | .cl _ l => l
 | .cv x l => x :: l
 | .b2s x => [x]
 | .cpyd _ x y => [x, y]
 | .cpyo _ x y => [x, y]
 | .iad _ x i => [x, i]
 | .fad x _ => [x]
 | .ld1d x => [x]
 | .ld1o x => [x]
 | .sto1o a x => [a, x]
 | .stod a x => [a, x]
 | .lend x => [x]
 | .mvs x y => [x, y]
 | .cld _ l => l
 | .sbn _ _ => []
 | .sbw _ x y => [x, y]
 | .sbs _ x => [x]
 | .inl _ l => l
 | .cvs x l => x :: l
 | .mkr _ l => l
 | .exr x _ => [x]
 | .nlq _ x => [x]
 | .bldr _ ps => ps.map fun q => q.2.2
 | .boxr _ _ x => [x]
 | .ldr x => [x]
 | .ldkr _ x => [x]
 | .stor _ a x => [a, x]
 | .far x _ => [x]
 | .aar _ x i => [x, i]
 | .ix1 _ x i => [x, i]
 | .alr _ _ _ => []
 | .storf _ a x => [a, x]
 | .bldrf _ ps => ps.map fun q => q.2.2
 | .nkr x => [x]
 | .ldrn _ _ x => [x]
 | .ldkf _ x => [x]
 | .inn _ l => l
 | .inq _ l => l
def AOp.bare : AOp → Bool
 | .mv .. | .pick .. | .s1 .. | .eqst .. | .fld1 .. | .ixa .. | .ix1 .. | .bldp .. | .bslp .. | .fldk .. | .sls .. | .lens .. | .ext .. | .iap .. | .ldp1 .. | .ldpk .. => true
 | .s2 o _ _ => match o with | .peq _ => false | _ => true
 | _ => false
section
variable {s s' : St}
theorem Taq : ∀ {l : List X}, (∀ x ∈ l, x.ev s = x.ev s') → evs s l = evs s' l
 | [], _ => rfl
 | x :: l, h => by
  simp only [evs]
  rw [h x (by simp), Taq fun y hy => h y (by simp [hy])]
theorem Tce : ∀ {l : List X}, (∀ x ∈ l, x.ev s = x.ev s') → evp s l = evp s' l
 | [], _ => rfl
 | x :: l, h => by
  simp only [evp]
  rw [h x (by simp), Tce fun y hy => h y (by simp [hy])]
theorem Ta0 {d : Nat} {x : Option X} (h : ∀ y ∈ x.toList, y.ev s = y.ev s') : natOr s d x = natOr s' d x := by
 cases x with
 | none => rfl
 | some x => simp only [natOr]; rw [h x (by simp)]
theorem Tcf {h h' : List (Nat × Ob)} (e : ∀ d, get h d = get h' d) (v : SV) : frz h v = frz h' v := by
 cases v <;> simp only [frz, e]
theorem Tbh {h h' : List (Nat × Ob)} (e : ∀ d, get h d = get h' d) : ∀ vs : List SV, frzs h vs = frzs h' vs
 | [] => rfl
 | v :: vs => by simp only [frzs, Tcf e, Tbh e vs]
theorem Tfg {h h' : List (Nat × Ob)} (e : ∀ d, get h d = get h' d) : ∀ n d, newIdN h n d = newIdN h' n d
 | 0, _ => rfl
 | n + 1, d => by simp only [newIdN, e, Tfg e n]
theorem Tau {h h' : List (Nat × Ob)} (e : ∀ d, get h d = get h' d) (d : Nat) : newId h d = newId h' d := by simp only [newId, Tfg e]
theorem Tc9 {h h' : List (Nat × Ob)} (e : ∀ d, get h d = get h' d) (v : SV) : elems h v = elems h' v := by
 cases v <;> simp only [elems, e]
theorem Tgg {h h' : List (Nat × Ob)} (e : ∀ d, get h d = get h' d) (v : SV) : svLen h v = svLen h' v := by
 cases v <;> simp only [svLen, e]
theorem Tkw {h h' : List (Nat × Ob)} (e : ∀ d, get h d = get h' d) (fr : List (Nat × Ob)) (d : Nat) (r : Ret) : ret1d h fr d r = ret1d h' fr d r := by
 cases r <;> simp only [ret1d, Tau e]
theorem Tex {h h' : List (Nat × Ob)} (e : ∀ d, get h d = get h' d) (fr : List (Nat × Ob)) (d : Nat) (r : Ret) : ret1 h fr d r = ret1 h' fr d r := by
 cases r <;> simp only [ret1, Tau e]
theorem Tgh (call : Call) (d : Nat) (o : AOp) (hx : ∀ x ∈ o.xs, x.ev s = x.ev s') (e0 : s.h = s'.h) : eff call s d o = eff call s' d o := by
 have e : ∀ d, get s.h d = get s'.h d := fun d => by rw [e0]
 cases o
 case inl f l =>
  have h1 : evs s l = evs s' l := Taq hx
  simp only [eff, h1, inlE, e0]
 case cvs x l =>
  have h1 : evs s l = evs s' l := Taq fun y hy => hx y (by simp [AOp.xs, hy])
  have h2 : x.ev s = x.ev s' := hx x (by simp [AOp.xs])
  simp only [eff, h1, h2, inlE, e0]
 case mkr f cs =>
  have h1 : evs s cs = evs s' cs := Taq hx
  simp only [eff, h1]
 case bldr z ps =>
  have h1 : evs s (ps.map fun q => q.2.2) = evs s' (ps.map fun q => q.2.2) := Taq hx
  simp only [eff, h1, e0]
 case exr x i => simp only [eff, hx x (by simp [AOp.xs]), e0]
 case nlq ne x => simp only [eff, hx x (by simp [AOp.xs]), e0]
 case boxr e1 k x => simp only [eff, hx x (by simp [AOp.xs]), e0]
 case ldr x => simp only [eff, hx x (by simp [AOp.xs]), e0]
 case ldkr k x => simp only [eff, hx x (by simp [AOp.xs]), e0]
 case stor k a x => simp only [eff, hx a (by simp [AOp.xs]), hx x (by simp [AOp.xs]), e0]
 case far x off => simp only [eff, hx x (by simp [AOp.xs]), e0]
 case aar m x i => simp only [eff, hx x (by simp [AOp.xs]), hx i (by simp [AOp.xs]), e0]
 case ix1 m x i => simp only [eff, hx x (by simp [AOp.xs]), hx i (by simp [AOp.xs])]
 case alr e1 k c => simp only [eff, e0]
 case storf k a x => simp only [eff, hx a (by simp [AOp.xs]), hx x (by simp [AOp.xs]), e0]
 case nkr x => simp only [eff, hx x (by simp [AOp.xs]), e0]
 case ldrn e1 k x => simp only [eff, hx x (by simp [AOp.xs]), e0]
 case ldkf ks x => simp only [eff, hx x (by simp [AOp.xs]), e0]
 case bldrf z ps =>
  have h1 : evs s (ps.map fun q => q.2.2) = evs s' (ps.map fun q => q.2.2) := Taq hx
  simp only [eff, h1, e0]
 case inn f l =>
  have h1 : evs s l = evs s' l := Taq hx
  simp only [eff, h1, innE, e0]
 case inq f l =>
  have h1 : evs s l = evs s' l := Taq hx
  simp only [eff, h1, innE, e0]
 case bld z ps =>
  have h1 : evs s (ps.map fun q => q.2.2) = evs s' (ps.map fun q => q.2.2) := Taq hx
  simp only [eff, Tbh e, h1]
 case bldp z ps =>
  have h1 : evp s (ps.map fun q => q.2.2) = evp s' (ps.map fun q => q.2.2) := Tce hx
  simp only [eff, h1]
 case bslp a b z ps =>
  have h1 : evp s (ps.map fun q => q.2) = evp s' (ps.map fun q => q.2) := Tce hx
  simp only [eff, h1]
 case bsl a b z ps =>
  have h1 : evs s (ps.map fun q => q.2) = evs s' (ps.map fun q => q.2) := Taq hx
  simp only [eff, Tbh e, h1, Tau e]
 case mkf f cs =>
  have h1 : evs s cs = evs s' cs := Taq hx
  simp only [eff, Tbh e, h1]
 case mm mx l =>
  have h1 : evs s l = evs s' l := Taq hx
  simp only [eff, Tbh e, h1]
 case cl f l =>
  have h1 : evs s l = evs s' l := Taq hx
  simp only [eff, Tbh e, h1, Tex e]
 case cld f l =>
  have h1 : evs s l = evs s' l := Taq hx
  simp only [eff, Tbh e, h1, Tkw e]
 case cpyd k x y => simp only [eff, hx x (by simp [AOp.xs]), hx y (by simp [AOp.xs]), e, Tc9 e]
 case cpyo k x y => simp only [eff, hx x (by simp [AOp.xs]), hx y (by simp [AOp.xs]), e]
 case iad k x i => simp only [eff, hx x (by simp [AOp.xs]), hx i (by simp [AOp.xs]), e]
 case fad x n => simp only [eff, hx x (by simp [AOp.xs]), e]
 case ld1d x => simp only [eff, hx x (by simp [AOp.xs]), e]
 case ld1o x => simp only [eff, hx x (by simp [AOp.xs]), e, Tau e]
 case sto1o a x => simp only [eff, hx a (by simp [AOp.xs]), hx x (by simp [AOp.xs]), e]
 case sbn T e1 => simp only [eff, Tau e]
 case sbw f x y => simp only [eff, sbwE, hx x (by simp [AOp.xs]), hx y (by simp [AOp.xs]), e]
 case sbs f x => simp only [eff, sbsE, hx x (by simp [AOp.xs]), e]
 case stod a x => simp only [eff, hx a (by simp [AOp.xs]), hx x (by simp [AOp.xs]), e]
 case lend x => simp only [eff, hx x (by simp [AOp.xs]), e]
 case mvs x y => simp only [eff, hx x (by simp [AOp.xs]), hx y (by simp [AOp.xs]), e]
 case cv x l =>
  have h1 : evs s l = evs s' l := Taq fun y hy => hx y (by simp [AOp.xs, hy])
  simp only [eff, Tbh e, hx x (by simp [AOp.xs]), h1, Tex e]
 case inv t f m x l =>
  have h1 : evs s l = evs s' l := Taq fun y hy => hx y (by simp [AOp.xs, hy])
  simp only [eff, Tbh e, hx x (by simp [AOp.xs]), h1, Tex e]
 case slc k x lo hi mx =>
  have h1 := hx x (by simp [AOp.xs])
  have h2 : natOr s 0 lo = natOr s' 0 lo := Ta0 fun y hy => hx y (by simp only [AOp.xs, List.mem_cons, List.mem_append]; exact .inr (.inl (.inl hy)))
  have h3 : ∀ n, natOr s n hi = natOr s' n hi := fun n => Ta0 fun y hy => hx y (by simp only [AOp.xs, List.mem_cons, List.mem_append]; exact .inr (.inl (.inr hy)))
  have h4 : ∀ m, mx = some m → natOr s 0 (some m) = natOr s' 0 (some m) := fun m hm => Ta0 fun y hy => hx y (by simp only [AOp.xs, List.mem_cons, List.mem_append]; exact .inr (.inr (by rw [hm]; exact hy)))
  simp only [eff, h1, h2, h3, Tgg e, Tcf e, e]
  cases mx with
  | none => rfl
  | some m => simp only [h4 m rfl]
 case sls x lo hi =>
  have h1 := hx x (by simp [AOp.xs])
  have h2 : natOr s 0 lo = natOr s' 0 lo := Ta0 fun y hy => hx y (by simp only [AOp.xs, List.mem_cons, List.mem_append]; exact .inr (.inl hy))
  have h3 : ∀ n, natOr s n hi = natOr s' n hi := fun n => Ta0 fun y hy => hx y (by simp only [AOp.xs, List.mem_cons, List.mem_append]; exact .inr (.inr hy))
  simp only [eff, h1, h2, h3]
 case pick c a b => simp only [eff, hx c (by simp [AOp.xs]), hx a (by simp [AOp.xs]), hx b (by simp [AOp.xs])]
 case nl a b => simp only [eff, Tau e]
 case alloc a b c => simp only [eff, Tau e]
 case alcp a b c => simp only [eff, Tau e]
 case boxp a b x => simp only [eff, hx x (by simp [AOp.xs]), Tcf e, Tau e]
 case sto k a x => simp only [eff, hx a (by simp [AOp.xs]), hx x (by simp [AOp.xs]), Tcf e, e]
 case s2 o x y => simp only [eff, hx x (by simp [AOp.xs]), hx y (by simp [AOp.xs]), e]
 case eqst n ks x y => simp only [eff, hx x (by simp [AOp.xs]), hx y (by simp [AOp.xs])]
 case apps a b x y => simp only [eff, hx x (by simp [AOp.xs]), hx y (by simp [AOp.xs]), e, Tau e]
 case app a b c x y => simp only [eff, hx x (by simp [AOp.xs]), hx y (by simp [AOp.xs]), e, Tau e, Tc9 e]
 case cpy k x y => simp only [eff, hx x (by simp [AOp.xs]), hx y (by simp [AOp.xs]), e, Tc9 e]
 case ia k x i => simp only [eff, hx x (by simp [AOp.xs]), hx i (by simp [AOp.xs]), e]
 case aa k m x i => simp only [eff, hx x (by simp [AOp.xs]), hx i (by simp [AOp.xs]), e]
 case mks a b c z x y => simp only [eff, hx x (by simp [AOp.xs]), hx y (by simp [AOp.xs]), Tau e]
 case box a b x => simp only [eff, hx x (by simp [AOp.xs]), Tcf e, Tau e]
 case ldk k x => simp only [eff, hx x (by simp [AOp.xs]), e]
 case s1 o x => simp only [eff, hx x (by simp [AOp.xs])]
 case mki t x => simp only [eff, hx x (by simp [AOp.xs]), Tcf e]
 case fld1 x n => simp only [eff, hx x (by simp [AOp.xs])]
 case ixa k m x i => simp only [eff, hx x (by simp [AOp.xs]), hx i (by simp [AOp.xs])]
 case fldk x n m => simp only [eff, hx x (by simp [AOp.xs])]
 case fa x n => simp only [eff, hx x (by simp [AOp.xs]), e]
 case ext x n => simp only [eff, hx x (by simp [AOp.xs])]
 case mv x => simp only [eff, hx x (by simp [AOp.xs])]
 case iap k x i => simp only [eff, hx x (by simp [AOp.xs]), hx i (by simp [AOp.xs])]
 case ldp1 x => simp only [eff, hx x (by simp [AOp.xs])]
 case ldpk k x => simp only [eff, hx x (by simp [AOp.xs])]
 case mvp x => simp only [eff, hx x (by simp [AOp.xs]), Tcf e]
 case ld1 x => simp only [eff, hx x (by simp [AOp.xs]), e]
 case nck x => simp only [eff, hx x (by simp [AOp.xs]), e]
 case len x => simp only [eff, hx x (by simp [AOp.xs]), Tgg e]
 case lens x => simp only [eff, hx x (by simp [AOp.xs])]
 case rng x => simp only [eff, hx x (by simp [AOp.xs]), Tau e]
 case nxt x => simp only [eff, hx x (by simp [AOp.xs]), e]
 case b2s x => simp only [eff, hx x (by simp [AOp.xs]), Tc9 e]
end
end Go.Proofs.YtjpibniecllafaaGreat.AM
end
section
namespace Go.Proofs.YtjpibniecllafaaGreat.AM
open Go Go.RowKit
theorem Fz.two {a b : Option Ob} (h : Fz a b) : (∃ e k fz fz' l, a = some (.row e k fz l) ∧ b = some (.row e k fz' l)) ∨ a = b ∧ True := by
 cases a with
 | none => right; cases b with
  | none => exact ⟨rfl, trivial⟩
  | some y => simp [Fz] at h
 | some x =>
  cases x with
  | row e k fz l =>
   obtain ⟨fz', hb⟩ := h.row
   exact .inl ⟨e, k, fz, fz', l, rfl, hb⟩
  | _ => right; cases b with
   | none => simp [Fz] at h
   | some y => cases y <;> simp_all [Fz]
def FzV (h h' : List (Nat × Ob)) (v : SV) : Prop := ∀ d, v.id? = some d → Fz (get h d) (get h' d)
theorem Tho {h h' : List (Nat × Ob)} {v : SV} (hf : FzV h h' v) : frz h v = frz h' v := by
 cases v with
 | p x => rfl
 | xs k l => rfl
 | ms d off len => rcases (hf d rfl).two with ⟨e, k, fz, fz', l, h1, h2⟩ | ⟨h1, h2⟩ <;> simp only [frz, h1, h2]
 | mp d i j => rcases (hf d rfl).two with ⟨e, k, fz, fz', l, h1, h2⟩ | ⟨h1, h2⟩ <;> simp only [frz, h1, h2]
 | mo d => rfl
 | sst l => rfl
 | stu l => rfl
 | fnv f l => rfl
theorem Tsn {h h' : List (Nat × Ob)} {v : SV} (hf : FzV h h' v) : elems h v = elems h' v := by
 cases v with
 | p x => cases x <;> rfl
 | xs k l => rfl
 | ms d off len => rcases (hf d rfl).two with ⟨e, k, fz, fz', l, h1, h2⟩ | ⟨h1, h2⟩ <;> simp only [elems, h1, h2]
 | mp d i j => rfl
 | mo d => rfl
 | sst l => rfl
 | stu l => rfl
 | fnv f l => rfl
theorem Tl9 {h h' : List (Nat × Ob)} {v : SV} (hf : FzV h h' v) : svLen h v = svLen h' v := by
 cases v with
 | p x => cases x <;> rfl
 | xs k l => rfl
 | ms d off len => rcases (hf d rfl).two with ⟨e, k, fz, fz', l, h1, h2⟩ | ⟨h1, h2⟩ <;> simp only [svLen, h1, h2]
 | mp d i j => rfl
 | mo d => rfl
 | sst l => rfl
 | stu l => rfl
 | fnv f l => rfl
theorem Tpl {h h' : List (Nat × Ob)} : ∀ {vs : List SV}, (∀ v ∈ vs, FzV h h' v) → frzs h vs = frzs h' vs
 | [], _ => rfl
 | v :: vs, hf => by
  have e : frzs h vs = frzs h' vs := Tpl fun u hu => hf u (by simp [hu])
  simp only [frzs, Tho (hf v (by simp)), e]
theorem Tey {h h' : List (Nat × Ob)} : ∀ (n d : Nat), (∀ j, j < n → (get h (d + j * 100000) = none ↔ get h' (d + j * 100000) = none)) → newIdN h n d = newIdN h' n d
 | 0, _, _ => rfl
 | n + 1, d, hj => by
  have h0 := hj 0 (by omega)
  rw [Nat.zero_mul, Nat.add_zero] at h0
  have ih := Tey (h := h) (h' := h') n (d + 100000) fun j hlt => by
   have := hj (j + 1) (by omega)
   rw [show d + (j + 1) * 100000 = d + 100000 + j * 100000 by omega] at this
   exact this
  unfold newIdN
  cases e1 : get h d with
  | none => rw [h0.1 e1]
  | some x =>
   cases e1' : get h' d with
   | none => rw [h0.2 e1'] at e1; simp at e1
   | some x' => exact ih
theorem Tjq {h h' : List (Nat × Ob)} {d : Nat} (h1 : ∀ j, j < 8 → (get h (d + j * 100000) = none ↔ get h' (d + j * 100000) = none)) : newId h d = newId h' d := by
 unfold newId
 rw [Tey 8 d h1]
section
variable {s s' : St}
theorem Tkx : ∀ {l : List X} {vs : List SV}, evs s l = some vs → ∀ v ∈ vs, ∃ x ∈ l, x.ev s = some v
 | [], vs, h, v, hv => by simp only [evs, oIE] at h; subst h; simp at hv
 | x :: l, vs, h, v, hv => by
  simp only [evs] at h
  cases h1 : x.ev s with
  | none => rw [h1] at h; simp at h
  | some u =>
   rw [h1] at h; dsimp only at h
   cases h2 : evs s l with
   | none => rw [h2] at h; simp at h
   | some us =>
    rw [h2] at h
    obtain rfl := oIj h
    rcases List.mem_cons.1 hv with rfl | hv
    · exact ⟨x, by simp, h1⟩
    · obtain ⟨y, hy, e⟩ := Tkx h2 v hv
      exact ⟨y, by simp [hy], e⟩
theorem Tfn (call : Call) (d : Nat) (o : AOp) (ho : o.hard = false) (hx : ∀ x ∈ o.xs, x.ev s = x.ev s') (hf : ∀ x ∈ o.xs, ∀ v, x.ev s = some v → FzV s.h s'.h v) (h1 : ∀ j, j < 8 → (get s.h (d + j * 100000) = none ↔ get s'.h (d + j * 100000) = none)) : eff call s d o = eff call s' d o := by
 have hn := Tjq h1
 have hr : ∀ fr r, ret1 s.h fr d r = ret1 s'.h fr d r := fun fr r => by cases r <;> simp only [ret1, hn]
 have evsf : ∀ {l : List X}, (∀ x ∈ l, x ∈ o.xs) → evs s l = evs s' l ∧ ∀ vs, evs s' l = some vs → AM.frzs s.h vs = AM.frzs s'.h vs := by
  intro l hl
  have e := Taq (s := s) (s' := s') fun x hm => hx x (hl x hm)
  refine ⟨e, fun vs hvs => Tpl fun v hv => ?_⟩
  rw [← e] at hvs
  obtain ⟨x, hm, hxv⟩ := Tkx hvs v hv
  exact hf x (hl x hm) v hxv
 have one : ∀ x ∈ o.xs, x.ev s = x.ev s' ∧ ∀ v, x.ev s' = some v → FzV s.h s'.h v := fun x hm => ⟨hx x hm, fun v hv => hf x hm v (by rw [hx x hm]; exact hv)⟩
 cases o
 case mkr f cs =>
  have e1 := (evsf (l := (AOp.mkr f cs).xs) (fun x h => h)).1
  simp only [AOp.xs] at e1
  simp only [eff, e1]
 case ix1 m x i => simp only [eff, hx x (by simp [AOp.xs]), hx i (by simp [AOp.xs])]
 case bld z ps =>
  obtain ⟨e1, e2⟩ := evsf (l := (AOp.bld z ps).xs) (fun x h => h)
  simp only [AOp.xs] at e1 e2
  simp only [eff, e1]
  cases hv : evs s' (ps.map fun q => q.2.2) with
  | none => rfl
  | some vs => simp only [e2 vs hv]
 case bsl a b z ps =>
  obtain ⟨e1, e2⟩ := evsf (l := (AOp.bsl a b z ps).xs) (fun x h => h)
  simp only [AOp.xs] at e1 e2
  simp only [eff, e1, hn]
  cases hv : evs s' (ps.map fun q => q.2) with
  | none => rfl
  | some vs => simp only [e2 vs hv]
 case mkf f cs =>
  obtain ⟨e1, e2⟩ := evsf (l := cs) (fun x h => h)
  simp only [eff, e1]
  cases hv : evs s' cs with
  | none => rfl
  | some vs => simp only [e2 vs hv]
 case mm mx l =>
  obtain ⟨e1, e2⟩ := evsf (l := l) (fun x h => h)
  simp only [eff, e1]
  cases hv : evs s' l with
  | none => rfl
  | some vs => simp only [e2 vs hv]
 case cld f l =>
  have hrd : ∀ fr r, ret1d s.h fr d r = ret1d s'.h fr d r := fun fr r => by cases r <;> simp only [ret1d, hn]
  obtain ⟨e1, e2⟩ := evsf (l := l) (fun x h => h)
  simp only [eff, e1, hrd]
  cases hv : evs s' l with
  | none => rfl
  | some vs => simp only [e2 vs hv]
 case fad x n =>
  obtain ⟨g1, g2⟩ := one x (by simp [AOp.xs])
  simp only [eff, g1]
  cases hv : x.ev s' with
  | none => rfl
  | some v =>
   cases v with
   | mp d' i j => rcases (g2 _ hv d' rfl).two with ⟨e, k, fz, fz', l, h1, h2⟩ | ⟨h1, h2⟩ <;> simp only [h1, h2]
   | _ => rfl
 case ld1d x =>
  obtain ⟨g1, g2⟩ := one x (by simp [AOp.xs])
  simp only [eff, g1]
  cases hv : x.ev s' with
  | none => rfl
  | some v =>
   cases v with
   | mp d' i j => rcases (g2 _ hv d' rfl).two with ⟨e, k, fz, fz', l, h1, h2⟩ | ⟨h1, h2⟩ <;> simp only [h1, h2]
   | _ => rfl
 case lend x =>
  obtain ⟨g1, g2⟩ := one x (by simp [AOp.xs])
  simp only [eff, g1]
  cases hv : x.ev s' with
  | none => rfl
  | some v =>
   cases v with
   | ms d' i j => rcases (g2 _ hv d' rfl).two with ⟨e, k, fz, fz', l, h1, h2⟩ | ⟨h1, h2⟩ <;> simp only [h1, h2]
   | _ => rfl
 case iad k x i =>
  obtain ⟨g1, g2⟩ := one x (by simp [AOp.xs])
  simp only [eff, g1, hx i (by simp [AOp.xs])]
  cases hv : x.ev s' with
  | none => rfl
  | some v =>
   cases i.ev s' with
   | none => cases v <;> rfl
   | some u =>
    cases v with
    | ms d' off len =>
     dsimp only
     cases natOf u with
     | none => rfl
     | some n => rcases (g2 _ hv d' rfl).two with ⟨e, k, fz, fz', l, h1, h2⟩ | ⟨h1, h2⟩ <;> simp only [h1, h2]
    | _ => rfl
 case cl f l =>
  obtain ⟨e1, e2⟩ := evsf (l := l) (fun x h => h)
  simp only [eff, e1, hr]
  cases hv : evs s' l with
  | none => rfl
  | some vs => simp only [e2 vs hv]
 case cv x l =>
  obtain ⟨e1, e2⟩ := evsf (l := l) (fun x h => List.mem_cons_of_mem _ h)
  simp only [eff, e1, hr, (one x (by simp [AOp.xs])).1]
  cases hv : evs s' l with
  | none =>
   cases x.ev s' with
   | none => rfl
   | some v => cases v with
    | p z => cases z <;> rfl
    | _ => rfl
  | some vs =>
   have e3 := e2 vs hv
   cases x.ev s' with
   | none => rfl
   | some v => cases v with
    | p z => cases z <;> first | rfl | (dsimp only; rw [e3])
    | _ => rfl
 case inv t f m x l =>
  obtain ⟨e1, e2⟩ := evsf (l := l) (fun x h => List.mem_cons_of_mem _ h)
  simp only [eff, e1, hr, (one x (by simp [AOp.xs])).1]
  cases hv : evs s' l with
  | none =>
   cases x.ev s' with
   | none => rfl
   | some v => cases v with
    | p z => cases z <;> rfl
    | _ => rfl
  | some vs =>
   have e3 := e2 vs hv
   cases x.ev s' with
   | none => rfl
   | some v => cases v with
    | p z => cases z <;> first | rfl | (dsimp only; rw [e3])
    | _ => rfl
 case slc k x lo hi mx =>
  obtain ⟨g1, g2⟩ := one x (by simp [AOp.xs])
  have q2 : natOr s 0 lo = natOr s' 0 lo := Ta0 fun y hy => hx y (by simp only [AOp.xs, List.mem_cons, List.mem_append]; exact .inr (.inl (.inl hy)))
  have q3 : ∀ n, natOr s n hi = natOr s' n hi := fun n => Ta0 fun y hy => hx y (by simp only [AOp.xs, List.mem_cons, List.mem_append]; exact .inr (.inl (.inr hy)))
  have q4 : ∀ m, mx = some m → natOr s 0 (some m) = natOr s' 0 (some m) := fun m hm => Ta0 fun y hy => hx y (by simp only [AOp.xs, List.mem_cons, List.mem_append]; exact .inr (.inr (by rw [hm]; exact hy)))
  simp only [eff, g1, q2, q3]
  cases hv : x.ev s' with
  | none => rfl
  | some v =>
   have hvf := g2 v hv
   simp only [Tl9 hvf, Tho hvf]
   cases mx with
   | some m => simp only [q4 m rfl]
   | none =>
    cases v with
    | p z => cases z <;> rfl
    | ms d' off len => rcases (hvf d' rfl).two with ⟨e, k, fz, fz', l, h1, h2⟩ | ⟨h1, h2⟩ <;> simp only [h1, h2]
    | _ => rfl
 case sls x lo hi =>
  have q2 : natOr s 0 lo = natOr s' 0 lo := Ta0 fun y hy => hx y (by simp only [AOp.xs, List.mem_cons, List.mem_append]; exact .inr (.inl hy))
  have q3 : ∀ n, natOr s n hi = natOr s' n hi := fun n => Ta0 fun y hy => hx y (by simp only [AOp.xs, List.mem_cons, List.mem_append]; exact .inr (.inr hy))
  simp only [eff, hx x (by simp [AOp.xs]), q2, q3]
 case pick c a b => simp only [eff, hx c (by simp [AOp.xs]), hx a (by simp [AOp.xs]), hx b (by simp [AOp.xs])]
 case nl a b => simp only [eff, hn]
 case alloc a b c => simp only [eff, hn]
 case alcp a b c => simp only [eff, hn]
 case boxp a b x =>
  obtain ⟨g1, g2⟩ := one x (by simp [AOp.xs])
  simp only [eff, g1, hn]
  cases hv : x.ev s' with
  | none => rfl
  | some v => simp only [Tho (g2 v hv)]
 case s2 o x y =>
  obtain ⟨g1, g2⟩ := one x (by simp [AOp.xs])
  simp only [eff, g1, hx y (by simp [AOp.xs])]
  cases hv : x.ev s' with
  | none => rfl
  | some v =>
   cases y.ev s' with
   | none => cases v <;> rfl
   | some u =>
    cases v with
    | mp d' i j =>
     cases u with
     | p z => cases z with
      | sc c => cases c with
       | pointer pa => cases pa with
        | none => rcases (g2 _ hv d' rfl).two with ⟨e, k, fz, fz', l, h1, h2⟩ | ⟨h1, h2⟩ <;> simp only [h1, h2]
        | some _ => rfl
       | _ => rfl
      | _ => rfl
     | _ => rfl
    | p z => cases u <;> rfl
    | _ => rfl
 case eqst n ks x y => simp only [eff, hx x (by simp [AOp.xs]), hx y (by simp [AOp.xs])]
 case ia k x i =>
  obtain ⟨g1, g2⟩ := one x (by simp [AOp.xs])
  simp only [eff, g1, hx i (by simp [AOp.xs])]
  cases hv : x.ev s' with
  | none => rfl
  | some v =>
   cases i.ev s' with
   | none => cases v <;> rfl
   | some u =>
    dsimp only
    cases natOf u with
    | none => rfl
    | some n =>
     cases v with
     | ms d' off len => rcases (g2 _ hv d' rfl).two with ⟨e, k, fz, fz', l, h1, h2⟩ | ⟨h1, h2⟩ <;> simp only [h1, h2]
     | p z => cases z <;> rfl
     | _ => rfl
 case aa k m x i =>
  obtain ⟨g1, g2⟩ := one x (by simp [AOp.xs])
  simp only [eff, g1, hx i (by simp [AOp.xs])]
  cases hv : x.ev s' with
  | none => rfl
  | some v =>
   cases i.ev s' with
   | none => cases v <;> rfl
   | some u =>
    cases v with
    | mp d' i' j =>
     dsimp only
     cases natOf u with
     | none => rfl
     | some n => rcases (g2 _ hv d' rfl).two with ⟨e, k, fz, fz', l, h1, h2⟩ | ⟨h1, h2⟩ <;> simp only [h1, h2]
    | _ => rfl
 case mks a b c z x y => simp only [eff, hx x (by simp [AOp.xs]), hx y (by simp [AOp.xs]), hn]
 case box a b x =>
  obtain ⟨g1, g2⟩ := one x (by simp [AOp.xs])
  simp only [eff, g1, hn]
  cases hv : x.ev s' with
  | none => rfl
  | some v => simp only [Tho (g2 v hv)]
 case ldk k x =>
  obtain ⟨g1, g2⟩ := one x (by simp [AOp.xs])
  simp only [eff, g1]
  cases hv : x.ev s' with
  | none => rfl
  | some v =>
   cases v with
   | mp d' i j => rcases (g2 _ hv d' rfl).two with ⟨e, k, fz, fz', l, h1, h2⟩ | ⟨h1, h2⟩ <;> simp only [h1, h2]
   | p z => cases z with
    | pt l => cases l <;> rfl
    | _ => rfl
   | _ => rfl
 case iap k x i => simp only [eff, hx x (by simp [AOp.xs]), hx i (by simp [AOp.xs])]
 case ldp1 x => simp only [eff, hx x (by simp [AOp.xs])]
 case ldpk k x => simp only [eff, hx x (by simp [AOp.xs])]
 case mvp x =>
  obtain ⟨g1, g2⟩ := one x (by simp [AOp.xs])
  simp only [eff, g1]
  cases hv : x.ev s' with
  | none => rfl
  | some v => simp only [Tho (g2 v hv)]
 case ld1 x =>
  obtain ⟨g1, g2⟩ := one x (by simp [AOp.xs])
  simp only [eff, g1]
  cases hv : x.ev s' with
  | none => rfl
  | some v =>
   cases v with
   | mp d' i j => rcases (g2 _ hv d' rfl).two with ⟨e, k, fz, fz', l, h1, h2⟩ | ⟨h1, h2⟩ <;> simp only [h1, h2]
   | p z => cases z with
    | pt l => cases l <;> rfl
    | _ => rfl
   | _ => rfl
 case s1 o x => simp only [eff, hx x (by simp [AOp.xs])]
 case mki t x =>
  obtain ⟨g1, g2⟩ := one x (by simp [AOp.xs])
  simp only [eff, g1]
  cases hv : x.ev s' with
  | none => rfl
  | some v => simp only [Tho (g2 v hv)]
 case fld1 x n => simp only [eff, hx x (by simp [AOp.xs])]
 case bldp z ps =>
  have h1 : evp s (ps.map fun q => q.2.2) = evp s' (ps.map fun q => q.2.2) := Tce hx
  simp only [eff, h1]
 case bslp a b z ps =>
  have h1 : evp s (ps.map fun q => q.2) = evp s' (ps.map fun q => q.2) := Tce hx
  simp only [eff, h1]
 case ixa k m x i => simp only [eff, hx x (by simp [AOp.xs]), hx i (by simp [AOp.xs])]
 case fldk x n m => simp only [eff, hx x (by simp [AOp.xs])]
 case fa x n =>
  obtain ⟨g1, g2⟩ := one x (by simp [AOp.xs])
  simp only [eff, g1]
  cases hv : x.ev s' with
  | none => rfl
  | some v =>
   cases v with
   | mp d' i j => rcases (g2 _ hv d' rfl).two with ⟨e, k, fz, fz', l, h1, h2⟩ | ⟨h1, h2⟩ <;> simp only [h1, h2]
   | p z => cases z with
    | pt l => cases l <;> rfl
    | _ => rfl
   | _ => rfl
 case ext x n => simp only [eff, hx x (by simp [AOp.xs])]
 case mv x => simp only [eff, hx x (by simp [AOp.xs])]
 case nck x =>
  obtain ⟨g1, g2⟩ := one x (by simp [AOp.xs])
  simp only [eff, g1]
  cases hv : x.ev s' with
  | none => rfl
  | some v =>
   cases v with
   | mp d' i j => rcases (g2 _ hv d' rfl).two with ⟨e, k, fz, fz', l, h1, h2⟩ | ⟨h1, h2⟩ <;> simp only [h1, h2]
   | p z => cases z with
    | pt l => cases l <;> rfl
    | _ => rfl
   | _ => rfl
 case len x =>
  obtain ⟨g1, g2⟩ := one x (by simp [AOp.xs])
  simp only [eff, g1]
  cases hv : x.ev s' with
  | none => rfl
  | some v => simp only [Tl9 (g2 v hv)]
 case lens x => simp only [eff, hx x (by simp [AOp.xs])]
 case rng x => simp only [eff, hx x (by simp [AOp.xs]), hn]
 case b2s x =>
  obtain ⟨g1, g2⟩ := one x (by simp [AOp.xs])
  simp only [eff, g1]
  cases hv : x.ev s' with
  | none => rfl
  | some v => simp only [Tsn (g2 v hv)]
 all_goals simp [AOp.hard] at ho
theorem Tso (call : Call) (d : Nat) (o : AOp) (ho : o.bare = true) (hx : ∀ x ∈ o.xs, x.ev s = x.ev s') : eff call s d o = eff call s' d o := by
 cases o
 case mv x => simp only [eff, hx x (by simp [AOp.xs])]
 case pick c a b => simp only [eff, hx c (by simp [AOp.xs]), hx a (by simp [AOp.xs]), hx b (by simp [AOp.xs])]
 case s1 o x => simp only [eff, hx x (by simp [AOp.xs])]
 case eqst n ks x y => simp only [eff, hx x (by simp [AOp.xs]), hx y (by simp [AOp.xs])]
 case fld1 x n => simp only [eff, hx x (by simp [AOp.xs])]
 case bldp z ps =>
  have h1 : evp s (ps.map fun q => q.2.2) = evp s' (ps.map fun q => q.2.2) := Tce hx
  simp only [eff, h1]
 case bslp a b z ps =>
  have h1 : evp s (ps.map fun q => q.2) = evp s' (ps.map fun q => q.2) := Tce hx
  simp only [eff, h1]
 case ix1 m x i => simp only [eff, hx x (by simp [AOp.xs]), hx i (by simp [AOp.xs])]
 case ixa k m x i => simp only [eff, hx x (by simp [AOp.xs]), hx i (by simp [AOp.xs])]
 case fldk x n m => simp only [eff, hx x (by simp [AOp.xs])]
 case iap k x i => simp only [eff, hx x (by simp [AOp.xs]), hx i (by simp [AOp.xs])]
 case ldp1 x => simp only [eff, hx x (by simp [AOp.xs])]
 case ldpk k x => simp only [eff, hx x (by simp [AOp.xs])]
 case lens x => simp only [eff, hx x (by simp [AOp.xs])]
 case ext x n => simp only [eff, hx x (by simp [AOp.xs])]
 case sls x lo hi =>
  have q2 : natOr s 0 lo = natOr s' 0 lo := Ta0 fun y hy => hx y (by simp only [AOp.xs, List.mem_cons, List.mem_append]; exact .inr (.inl hy))
  have q3 : ∀ n, natOr s n hi = natOr s' n hi := fun n => Ta0 fun y hy => hx y (by simp only [AOp.xs, List.mem_cons, List.mem_append]; exact .inr (.inr hy))
  simp only [eff, hx x (by simp [AOp.xs]), q2, q3]
 case s2 o x y =>
  simp only [eff, hx x (by simp [AOp.xs]), hx y (by simp [AOp.xs])]
  cases o <;> first | (simp [AOp.bare] at ho; done) | rfl
 all_goals simp [AOp.bare] at ho
theorem Tv1 (call : Call) (d : Nat) (o : AOp) (ho : o.bare = true) {e : Eff} (he : eff call s d o = some e) : e.hs = [] := by
 cases o <;> first | (simp [AOp.bare] at ho; done) | skip
 all_goals
  simp only [eff, uns] at he
  repeat' split at he
  all_goals first | (simp at he; done) | (simp only [oIE] at he; subst he; rfl)
end
end Go.Proofs.YtjpibniecllafaaGreat.AM
end
section
namespace Go.Proofs.YtjpibniecllafaaGreat.AM
open Go Go.RowKit
def Eqv (s s' : St) : Prop := (∀ n, get s.t n = get s'.t n) ∧ s.h = s'.h
theorem Eqv.refl (s : St) : Eqv s s := ⟨fun _ => rfl, rfl⟩
theorem Eqv.symm {s s' : St} (h : Eqv s s') : Eqv s' s := ⟨fun n => (h.1 n).symm, h.2.symm⟩
theorem Eqv.trans {a b c : St} (h : Eqv a b) (k : Eqv b c) : Eqv a c := ⟨fun n => (h.1 n).trans (k.1 n), h.2.trans k.2⟩
theorem Eqv.ev {s s' : St} (h : Eqv s s') (x : X) : x.ev s = x.ev s' := by
 cases x with
 | t n => exact h.1 n
 | c v => rfl
 | f n => rfl
structure WF (s : St) : Prop where
 t : ∀ n v d, get s.t n = some v → v.ref d = true → get s.h d ≠ none
 h : ∀ x o d, get s.h x = some o → o.ref d = true → get s.h d ≠ none
theorem Tuh {v : SV} {d : Nat} (h : v.id? = some d) : v.ref d = true := by
 cases v <;> simp [SV.id?, SV.ref] at h ⊢ <;> exact h
def pre (call : Call) (o : AOper) (s : St) : Option Eff :=
 match o.g with
 | none => eff call s (o.d.getD 0) o.o
 | some (g, w) => match get s.t g with
  | some v => match v with
   | .p (.sc (.bool b)) => if b = w then eff call s (o.d.getD 0) o.o else some ⟨undefS, []⟩
   | .p (.sc (.tuple _)) => some ⟨undefS, []⟩
   | _ => none
  | none => none
def app (o : AOper) (s : St) (e : Eff) : St := ⟨puts s.t o.d e.v, putAll s.h e.hs⟩
theorem Tda (call : Call) (o : AOper) (s : St) : step call o s = (pre call o s).map (app o s) := by
  unfold step pre app
  cases o.g with
  | none => cases eff call s (o.d.getD 0) o.o <;> rfl
  | some q =>
    obtain ⟨g, w⟩ := q
    dsimp only
    cases get s.t g with
    | none => rfl
    | some v =>
      cases v with
      | p y =>
        cases y with
        | sc x =>
          cases x
          all_goals
            dsimp only
            first
            | rfl
            | (split
               · cases eff call s (o.d.getD 0) o.o <;> rfl
               · rfl)
        | _ => rfl
      | _ => rfl
def X.slot : X → Option Nat | .t n => some n | _ => none
def AOper.reads (o : AOper) : List Nat := o.o.xs.filterMap X.slot ++ (match o.g with | some (g, _) => [g] | none => [])
theorem Tky {s s' : St} {x : X} (h : ∀ n, x.slot = some n → get s.t n = get s'.t n) : x.ev s = x.ev s' := by
 cases x with
 | t n => exact h n rfl
 | c v => rfl
 | f n => rfl
theorem Tcn {s : St} (hw : WF s) {x : X} {v : SV} {d : Nat} (hv : x.ev s = some v) (hd : v.ref d = true) : get s.h d ≠ none := by
 cases x with
 | t n => exact hw.t n v d hv hd
 | c u => cases u <;> simp only [X.ev] at hv <;> first | (simp at hv; done) | (obtain rfl := oIj hv; simp [SV.ref] at hd)
 | f n => simp only [X.ev] at hv; obtain rfl := oIj hv; simp [SV.ref] at hd
theorem ev_id {s : St} (hw : WF s) {x : X} {v : SV} {d : Nat} (hv : x.ev s = some v) (hd : v.id? = some d) : get s.h d ≠ none := Tcn hw hv (Tuh hd)
def cand (d c : Nat) : Prop := d < 100000 ∧ ∃ j, j < 8 ∧ c = d + j * 100000
def HsOK (h : List (Nat × Ob)) (d : Nat) (hs : List (Nat × Ob)) : Prop :=
 ∀ q ∈ hs, (∃ e k fz l, get h q.1 = some (.row e k fz l) ∧ q.2 = .row e k true l) ∨ (get h q.1 = none ∧ cand d q.1)
theorem Tgi {h : List (Nat × Ob)} : ∀ {n d id : Nat}, newIdN h n d = some id → ∃ j, j < n ∧ id = d + j * 100000
 | 0, d, id, e => by simp [newIdN] at e
 | n + 1, d, id, e => by
  unfold newIdN at e
  split at e
  · obtain rfl := oIj e
    exact ⟨0, by omega, by omega⟩
  · obtain ⟨j, h1, h2⟩ := Tgi e
    exact ⟨j + 1, by omega, by omega⟩
theorem Thp {h : List (Nat × Ob)} {d id : Nat} (e : newId h d = some id) : get h id = none ∧ cand d id := by
 refine ⟨Tav e, ?_⟩
 unfold newId at e
 split at e
 · rename_i hd; exact ⟨hd, Tgi e⟩
 · simp at e
theorem Tma {α : Type} {d e : Nat} (x y : α) (h : d ≠ e) : ∀ l : List (Nat × α), put (put l d x) e y = put (put l e y) d x
 | [] => by
  simp only [put]
  by_cases c : d < e
  · rw [if_neg h, if_neg (by omega), if_neg (Ne.symm h), if_pos c]
  · rw [if_neg h, if_pos (by omega), if_neg (Ne.symm h), if_neg c]
 | (k, u) :: l => by
  have ih := Tma x y h l
  by_cases c1 : k = d
  · subst c1
    by_cases c2 : e < k
    · simp [put, h, Ne.symm h, c2]
      omega
    · simp [put, h, c2]
  · by_cases c2 : k = e
    · subst c2
      by_cases c3 : d < k
      · simp [put, c1, Ne.symm c1, c3]
        omega
      · simp [put, c1, c3]
    · by_cases c3 : d < k
      · by_cases c4 : e < k
        · by_cases c5 : d < e
          · simp [put, c1, c2, c3, c4, h, Ne.symm h, c5]
            omega
          · have c6 : e < d := by omega
            simp [put, c1, c2, c3, c4, h, Ne.symm h, c6]
            omega
        · have c7 : ¬ e < d := by omega
          simp [put, c1, c2, c3, c4, h, Ne.symm h, c7]
      · by_cases c4 : e < k
        · have c7 : ¬ d < e := by omega
          simp [put, c1, c2, c3, c4, h, Ne.symm h, c7]
        · simp [put, c1, c2, c3, c4, ih]
theorem Tii {α : Type} {d : Nat} (x y : α) : ∀ l : List (Nat × α), put (put l d x) d y = put l d y
 | [] => by simp [put]
 | (k, u) :: l => by
  by_cases c1 : k = d
  · simp [put, c1]
  · by_cases c3 : d < k
    · simp [put, c1, c3]
    · simp [put, c1, c3, Tii x y l]
theorem Tez {d : Nat} {x : Ob} : ∀ (A h : List (Nat × Ob)), (∀ q ∈ A, q.1 = d → q.2 = x) → putAll (put h d x) A = put (putAll h A) d x
 | [], h, _ => rfl
 | (e, y) :: A, h, hA => by
  rw [putAll, putAll]
  by_cases c : d = e
  · subst c
    have : y = x := hA (d, y) (by simp) rfl
    subst this
    rw [Tii, Tez A h fun q hq => hA q (by simp [hq]), Tii]
  · rw [Tma x y c, Tez A _ fun q hq => hA q (by simp [hq])]
theorem Tdb : ∀ (A B h : List (Nat × Ob)), (∀ q ∈ A, ∀ r ∈ B, q.1 = r.1 → q.2 = r.2) → putAll (putAll h A) B = putAll (putAll h B) A
 | [], B, h, _ => rfl
 | (d, x) :: A, B, h, hc => by
  rw [putAll, Tdb A B _ fun q hq => hc q (by simp [hq]), Tez B h fun q hq e => (hc (d, x) (by simp) q hq e.symm).symm]
  rfl
theorem Tfh {h : List (Nat × Ob)} {v : SV} {x : PV} {fr : List (Nat × Ob)} (he : frz h v = some (x, fr)) (d : Nat) : HsOK h d fr := by
 cases v with
 | p y => simp only [frz, oIE, Prod.mk.injEq] at he; rw [← he.2]; intro q hq; simp at hq
 | xs k l => simp only [frz, oIE, Prod.mk.injEq] at he; rw [← he.2]; intro q hq; simp at hq
 | ms d' off len =>
  simp only [frz] at he
  split at he
  · rename_i e k fz l hd
    split at he
    · simp only [oIE, Prod.mk.injEq] at he
      rw [← he.2]
      intro q hq
      simp at hq
      subst hq
      exact .inl ⟨e, k, fz, l, hd, rfl⟩
    · simp at he
  · simp at he
 | mp d' i j =>
  simp only [frz] at he
  split at he
  · rename_i e k fz l hd
    split at he
    · split at he
      · simp only [oIE, Prod.mk.injEq] at he
        rw [← he.2]
        intro q hq
        simp at hq
        subst hq
        exact .inl ⟨e, k, fz, l, hd, rfl⟩
      · simp at he
    · simp at he
  · simp at he
 | mo d => simp [frz] at he
 | sst l => simp [frz] at he
 | stu l => simp [frz] at he
 | fnv f l => simp [frz] at he
theorem HsOK.append {h : List (Nat × Ob)} {d : Nat} {a b : List (Nat × Ob)} (ha : HsOK h d a) (hb : HsOK h d b) : HsOK h d (a ++ b) := fun q hq => (List.mem_append.1 hq).elim (ha q) (hb q)
theorem HsOK.nil {h : List (Nat × Ob)} {d : Nat} : HsOK h d [] := fun q hq => by simp at hq
theorem HsOK.new {h : List (Nat × Ob)} {d id : Nat} (e : newId h d = some id) (o : Ob) : HsOK h d [(id, o)] := fun q hq => by
 simp at hq; subst hq; exact .inr (Thp e)
theorem Tdc {h : List (Nat × Ob)} (d : Nat) : ∀ {vs : List SV} {xs : List PV} {fr : List (Nat × Ob)}, frzs h vs = some (xs, fr) → HsOK h d fr
 | [], xs, fr, he => by simp only [frzs, oIE, Prod.mk.injEq] at he; rw [← he.2]; exact .nil
 | v :: vs, xs, fr, he => by
  obtain ⟨x, f1, ys, f2, h1, h2, h3⟩ := To1 he
  simp only [Prod.mk.injEq] at h3
  rw [h3.2]
  exact (Tfh h1 d).append (Tdc d h2)
theorem Tv2 {h fr : List (Nat × Ob)} {d : Nat} {r : Ret} {e : Eff} (hf : HsOK h d fr) (he : ret1 h fr d r = some e) : HsOK h d e.hs := by
 cases r with
 | shr v hh => simp [ret1] at he
 | shn v hh => simp [ret1] at he
 | sb k T e1 => simp [ret1] at he
 | val x => simp only [ret1, oIE] at he; subst he; exact hf
 | own e' k l =>
  simp only [ret1] at he
  split at he
  · rename_i id hid
    simp only [oIE] at he
    subst he
    exact hf.append (.new hid _)
  · simp at he
 | deep e' k l =>
  simp only [ret1] at he
  split at he
  · split at he
    · rename_i id hid
      simp only [oIE] at he
      subst he
      exact hf.append (.new hid _)
    · simp at he
  · simp at he
theorem Tsp {h fr : List (Nat × Ob)} {d : Nat} {r : Ret} {e : Eff} (hf : HsOK h d fr) (he : ret1d h fr d r = some e) : HsOK h d e.hs := by
 cases r with
 | shr v hh => simp [ret1d] at he
 | shn v hh => simp [ret1d] at he
 | sb k T e1 => simp [ret1d] at he
 | val x => simp [ret1d] at he
 | own e' k l => simp [ret1d] at he
 | deep e' k l =>
  simp only [ret1d] at he
  split at he
  · rename_i id hid
    simp only [oIE] at he
    subst he
    exact hf.append (.new hid _)
  · simp at he
theorem Tpm {s : St} {call : Call} {d : Nat} {o : AOp} (ho : o.hard = false) {e : Eff} (he : eff call s d o = some e) : HsOK s.h d e.hs := by
  cases o <;> first | (simp [AOp.hard] at ho; done) | skip
  all_goals
    simp only [eff, uns] at he
    repeat' split at he
    all_goals
      first
      | (simp at he; done)
      | (simp only [oIE] at he; subst he
         first
         | exact .nil
         | exact HsOK.new ‹newId _ _ = some _› _
         | exact Tfh ‹frz _ _ = some _› d
         | exact Tdc d ‹frzs _ _ = some _›
         | exact (Tfh ‹frz _ _ = some _› d).append (HsOK.new ‹newId _ _ = some _› _)
         | exact (Tdc d ‹frzs _ _ = some _›).append (HsOK.new ‹newId _ _ = some _› _))
      | exact Tv2 (Tdc d ‹frzs _ _ = some _›) he
      | exact Tsp (Tdc d ‹frzs _ _ = some _›) he
theorem Ta5 (h : List (Nat × Ob)) : ∀ (l : List (Nat × Ob)) (d : Nat), get (putAll h l) d = (match get l.reverse d with | some o => some o | none => get h d)
 | [], d => by simp [putAll, get]
 | (c, o) :: l, d => by
  have hap : ∀ (a b : List (Nat × Ob)) (d : Nat), get (a ++ b) d = (match get a d with | some o => some o | none => get b d) := by
   intro a
   induction a with
   | nil => intro b d; simp [get]
   | cons q a ih =>
    intro b d
    obtain ⟨q1, q2⟩ := q
    simp only [List.cons_append, get]
    split
    · rfl
    · exact ih b d
  rw [putAll, Ta5 _ l d, List.reverse_cons, hap]
  cases get l.reverse d with
  | some x => rfl
  | none =>
   simp only [get]
   rw [Ta9]
   split <;> rfl
theorem Tat {h : List (Nat × Ob)} (l : List (Nat × Ob)) {d : Nat} (hd : get h d ≠ none) : get (putAll h l) d ≠ none := by
 rw [Ta5]
 split
 · simp
 · exact hd
theorem Tbc {l : List (Nat × Ob)} {d : Nat} {o : Ob} (h : get l.reverse d = some o) : (d, o) ∈ l := by simpa using Tc8 h
theorem Tbi {h l : List (Nat × Ob)} {d : Nat} {o : Ob} (hm : (d, o) ∈ l) : get (putAll h l) d ≠ none := by
 rw [Ta5]
 split
 · simp
 · rename_i hn
   have : ∀ (l : List (Nat × Ob)), (d, o) ∈ l → get l d ≠ none := by
    intro l
    induction l with
    | nil => intro h; simp at h
    | cons q l ih =>
     intro h
     obtain ⟨q1, q2⟩ := q
     simp only [get]
     split
     · simp
     · rename_i hne
       rcases List.mem_cons.1 h with h | h
       · simp at h; exact absurd h.1.symm hne
       · exact ih h
   exact absurd hn (this _ (by simpa using hm))
theorem Tv3 {h : List (Nat × Ob)} {d : Nat} {hs : List (Nat × Ob)} (hh : HsOK h d hs) {c : Nat} (hc : get h c ≠ none) : Fz (get h c) (get (putAll h hs) c) := by
 rw [Ta5]
 split
 · rename_i o ho
   rcases hh _ (Tbc ho) with ⟨e, k, fz, l, h1, h2⟩ | ⟨h1, _⟩
   · dsimp only at h1 h2; rw [h1, h2]; exact ⟨rfl, rfl, rfl⟩
   · exact absurd h1 hc
 · exact Fz.refl _
theorem Tjr {h : List (Nat × Ob)} {d : Nat} {hs : List (Nat × Ob)} (hh : HsOK h d hs) {c : Nat} (hc : ¬ cand d c) : get h c = none ↔ get (putAll h hs) c = none := by
 constructor
 · intro hn
   rw [Ta5]
   split
   · rename_i o ho
     rcases hh _ (Tbc ho) with ⟨e, k, fz, l, h1, h2⟩ | ⟨_, h1⟩
     · rw [h1] at hn; simp at hn
     · exact absurd h1 hc
   · exact hn
 · intro hn
   cases hg : get h c with
   | none => rfl
   | some x => exact absurd hn (Tat hs (by rw [hg]; simp))
def noGr (hs : List (Nat × Ob)) : Bool := hs.all fun q => !q.2.isGr
theorem Tmb {hs : List (Nat × Ob)} (h : noGr hs = true) : ∀ q ∈ hs, ∀ d, q.2.ref d = false := fun q hq d => by
 have := List.all_eq_true.1 h q hq
 obtain ⟨n, o⟩ := q
 cases o <;> first | rfl | (simp [Ob.isGr] at this)
theorem Tui {h hs : List (Nat × Ob)} {d : Nat} (hh : HsOK h d hs) (h2 : HsOK h (d + 1) hs) : noGr hs = true := by
 refine List.all_eq_true.2 fun q hq => ?_
 rcases hh q hq with ⟨_, _, _, _, _, e⟩ | ⟨_, _, j, _, e⟩
 · rw [e]; rfl
 · rcases h2 q hq with ⟨_, _, _, _, _, e'⟩ | ⟨_, _, j', _, e'⟩
   · rw [e']; rfl
   · omega
theorem Tmc {h : List (Nat × Ob)} {v : SV} {x : PV} {fr : List (Nat × Ob)} (he : frz h v = some (x, fr)) : noGr fr = true := Tui (Tfh he 0) (Tfh he 1)
theorem Td2 {h : List (Nat × Ob)} {vs : List SV} {xs : List PV} {fr : List (Nat × Ob)} (he : frzs h vs = some (xs, fr)) : noGr fr = true := Tui (Tdc 0 he) (Tdc 1 he)
theorem Tkz {h fr : List (Nat × Ob)} {d : Nat} {r : Ret} {e : Eff} (hf : noGr fr = true) (he : ret1 h fr d r = some e) : noGr e.hs = true := by
 have one : ∀ id o, o.isGr = false → noGr (fr ++ [(id, o)]) = true := fun id o ho => by
  unfold noGr at hf ⊢
  rw [List.all_append, hf]
  simp [ho]
 cases r with
 | shr v hh => simp [ret1] at he
 | shn v hh => simp [ret1] at he
 | sb k T e1 => simp [ret1] at he
 | val x => simp only [ret1, oIE] at he; subst he; exact hf
 | own e' k l =>
  simp only [ret1] at he
  split at he
  · simp only [oIE] at he; subst he; exact one _ _ rfl
  · simp at he
 | deep e' k l =>
  simp only [ret1] at he
  split at he
  · split at he
    · simp only [oIE] at he; subst he; exact one _ _ rfl
    · simp at he
  · simp at he
theorem Tsq {h fr : List (Nat × Ob)} {d : Nat} {r : Ret} {e : Eff} (hf : noGr fr = true) (he : ret1d h fr d r = some e) : noGr e.hs = true := by
 have one : ∀ id o, o.isGr = false → noGr (fr ++ [(id, o)]) = true := fun id o ho => by
  unfold noGr at hf ⊢
  rw [List.all_append, hf]
  simp [ho]
 cases r with
 | shr v hh => simp [ret1d] at he
 | shn v hh => simp [ret1d] at he
 | sb k T e1 => simp [ret1d] at he
 | val x => simp [ret1d] at he
 | own e' k l => simp [ret1d] at he
 | deep e' k l =>
  simp only [ret1d] at he
  split at he
  · simp only [oIE] at he; subst he; exact one _ _ rfl
  · simp at he
structure RefE (s : St) (e : Eff) : Prop where
 v : ∀ d, e.v.ref d = true → get (putAll s.h e.hs) d ≠ none
 h : ∀ q ∈ e.hs, ∀ d, q.2.ref d = true → get (putAll s.h e.hs) d ≠ none
theorem RefE.ng {s : St} {e : Eff} (hv : ∀ d, e.v.ref d = true → get (putAll s.h e.hs) d ≠ none) (hn : noGr e.hs = true) : RefE s e := ⟨hv, fun q hq d hd => by rw [Tmb hn q hq d] at hd; simp at hd⟩
theorem Tij {s : St} {h0 fr : List (Nat × Ob)} {d : Nat} {r : Ret} {e : Eff} (he : ret1 h0 fr d r = some e) : ∀ d', e.v.ref d' = true → get (putAll s.h e.hs) d' ≠ none := by
 intro d' hd
 have r0 : ∀ fr id o n, e = ⟨.ms id 0 n, fr ++ [(id, o)]⟩ → get (putAll s.h e.hs) d' ≠ none := by
  rintro fr id o n rfl
  simp only [SV.ref, beq_iff_eq] at hd
  subst hd
  exact Tbi (List.mem_append_right _ (List.mem_singleton_self _))
 cases r with
 | shr v hh => simp [ret1] at he
 | shn v hh => simp [ret1] at he
 | sb k T e1 => simp [ret1] at he
 | val x => simp only [ret1, oIE] at he; subst he; simp [SV.ref] at hd
 | own e' k l =>
  simp only [ret1] at he
  split at he
  · exact r0 _ _ _ _ (oIj he).symm
  · simp at he
 | deep e' k l =>
  simp only [ret1] at he
  split at he
  · split at he
    · exact r0 _ _ _ _ (oIj he).symm
    · simp at he
  · simp at he
theorem Tpn {s : St} {h0 fr : List (Nat × Ob)} {d : Nat} {r : Ret} {e : Eff} (he : ret1d h0 fr d r = some e) : ∀ d', e.v.ref d' = true → get (putAll s.h e.hs) d' ≠ none := by
 intro d' hd
 have r0 : ∀ fr id o n, e = ⟨.ms id 0 n, fr ++ [(id, o)]⟩ → get (putAll s.h e.hs) d' ≠ none := by
  rintro fr id o n rfl
  simp only [SV.ref, beq_iff_eq] at hd
  subst hd
  exact Tbi (List.mem_append_right _ (List.mem_singleton_self _))
 cases r with
 | shr v hh => simp [ret1d] at he
 | shn v hh => simp [ret1d] at he
 | sb k T e1 => simp [ret1d] at he
 | val x => simp [ret1d] at he
 | own e' k l => simp [ret1d] at he
 | deep e' k l =>
  simp only [ret1d] at he
  split at he
  · exact r0 _ _ _ _ (oIj he).symm
  · simp at he
theorem Te0 {s : St} (hw : WF s) : ∀ {l : List X} {vs : List SV}, evs s l = some vs → ∀ v ∈ vs, ∀ d, v.ref d = true → get s.h d ≠ none := fun {l vs} h v hv d hd => by
 obtain ⟨x, _, hx⟩ := Tkx h v hv
 exact Tcn hw hx hd
theorem Tpo : ∀ {vs : List SV} {l : List RV}, rvs vs = some l → ∀ d, (l.any (·.ref d)) = true → ∃ v ∈ vs, v.ref d = true
 | [], l, h, d, hd => by simp only [rvs, oIE] at h; subst h; simp at hd
 | v :: vs, l, h, d, hd => by
  simp only [rvs] at h
  split at h
  case h_2 => simp at h
  rename_i x hx
  split at h
  case h_2 => simp at h
  rename_i xs hxs
  obtain rfl := oIj h
  simp only [List.any_cons, Bool.or_eq_true] at hd
  rcases hd with hd | hd
  · refine ⟨v, by simp, ?_⟩
    rw [SV.rv_sv hx]
    cases x <;> first | (simp [RV.ref, RV.sv, SV.ref] at hd; done) | simpa [RV.ref, RV.sv, SV.ref] using hd
  · obtain ⟨u, hu, h2⟩ := Tpo hxs d hd
    exact ⟨u, by simp [hu], h2⟩
theorem Te1 {v : SV} {c : List RV} (h : rcells v = some c) {d : Nat} (hd : (c.any (·.ref d)) = true) : v.ref d = true := by
 have pl : ∀ l : List PV, ((l.map RV.p).any (·.ref d)) = true → False := fun l hl => by
  obtain ⟨r, hr, h2⟩ := List.any_eq_true.1 hl
  obtain ⟨x, _, rfl⟩ := List.mem_map.1 hr
  simp [RV.ref] at h2
 cases v <;> simp only [rcells] at h
 · split at h
   · obtain rfl := oIj h
     exact (pl _ hd).elim
   · simp at h
 · simp at h
 all_goals first | (simp at h; done) | (obtain rfl := oIj h; simpa [SV.ref, RV.ref] using hd)
theorem Tjs : ∀ {ps : List (Nat × Nat × List RV)} {z l : List RV}, fillQ z ps = some l → ∀ r ∈ l, r ∈ z ∨ ∃ q ∈ ps, r ∈ q.2.2
 | [], z, l, h, r, hr => by simp only [fillQ, oIE] at h; subst h; exact .inl hr
 | (off, n, c) :: ps, z, l, h, r, hr => by
  simp only [fillQ] at h
  split at h
  case isFalse => simp at h
  rcases Tjs h r hr with h1 | ⟨q, h1, h2⟩
  · simp only [List.mem_append] at h1
    rcases h1 with (h1 | h1) | h1
    · exact .inl (List.mem_of_mem_take h1)
    · exact .inr ⟨(off, n, c), by simp, h1⟩
    · exact .inl (List.mem_of_mem_drop h1)
  · exact .inr ⟨q, by simp [h1], h2⟩
theorem Tgj : ∀ {vs : List SV} {cs : List (List RV)}, rcellss vs = some cs → ∀ c ∈ cs, ∀ d, (c.any (·.ref d)) = true → ∃ v ∈ vs, v.ref d = true
 | [], cs, h, c, hc, d, hd => by simp only [rcellss, oIE] at h; subst h; simp at hc
 | v :: vs, cs, h, c, hc, d, hd => by
  simp only [rcellss] at h
  split at h
  case h_2 => simp at h
  rename_i x hx
  split at h
  case h_2 => simp at h
  rename_i xs hxs
  obtain rfl := oIj h
  rcases List.mem_cons.1 hc with rfl | hc
  · exact ⟨v, by simp, Te1 hx hd⟩
  · obtain ⟨u, hu, h2⟩ := Tgj hxs c hc d hd
    exact ⟨u, by simp [hu], h2⟩
theorem Tmd {vs : List SV} {cs : List (List RV)} {z : List PV} {ps : List (Nat × Nat × X)} {l : List RV} (hc : rcellss vs = some cs) (hf : fillQ (z.map .p) ((ps.zip cs).map fun q => (q.1.1, q.1.2.1, q.2)) = some l) {d : Nat} (hd : (l.any (·.ref d)) = true) : ∃ v ∈ vs, v.ref d = true := by
 obtain ⟨r, hr, h2⟩ := List.any_eq_true.1 hd
 rcases Tjs hf r hr with h1 | ⟨q, h1, h3⟩
 · obtain ⟨x, _, rfl⟩ := List.mem_map.1 h1
   simp [RV.ref] at h2
 · obtain ⟨p, hp, rfl⟩ := List.mem_map.1 h1
   exact Tgj hc p.2 (List.of_mem_zip (by simpa using hp)).2 d (List.any_eq_true.2 ⟨r, h3, h2⟩)
theorem Tme {h : List (Nat × Ob)} : ∀ {vs xs : List SV} {fr : List (Nat × Ob)}, fzvs h vs = some (xs, fr) → noGr fr = true ∧ ∀ v ∈ xs, ∀ d, v.ref d = true → ∃ u ∈ vs, u.ref d = true
 | [], xs, fr, he => by simp only [fzvs, oIE, Prod.mk.injEq] at he; obtain ⟨rfl, rfl⟩ := he; exact ⟨rfl, fun v hv => by simp at hv⟩
 | v :: vs, xs, fr, he => by
  simp only [fzvs] at he
  split at he
  case h_2 => simp at he
  rename_i x f1 h1
  split at he
  case h_2 => simp at he
  rename_i ys f2 h2
  simp only [oIE, Prod.mk.injEq] at he
  obtain ⟨rfl, rfl⟩ := he
  obtain ⟨q1, q2⟩ := Tme h2
  have one : noGr f1 = true ∧ ∀ d, x.ref d = true → v.ref d = true := by
   cases v with
   | ms d off n =>
    simp only [fzv] at h1
    split at h1
    · split at h1
      case h_2 => simp at h1
      rename_i y fr' hfz
      simp only [oIE, Prod.mk.injEq] at h1
      obtain ⟨rfl, rfl⟩ := h1
      exact ⟨Tmc hfz, fun d hd => by simp [SV.ref] at hd⟩
    · simp only [oIE, Prod.mk.injEq] at h1
      obtain ⟨rfl, rfl⟩ := h1
      exact ⟨rfl, fun d hd => hd⟩
   | _ => simp only [fzv, oIE, Prod.mk.injEq] at h1; obtain ⟨rfl, rfl⟩ := h1; exact ⟨rfl, fun d hd => hd⟩
  refine ⟨by unfold noGr at *; rw [List.all_append, one.1, q1]; rfl, fun u hu d hd => ?_⟩
  rcases List.mem_cons.1 hu with rfl | hu
  · exact ⟨v, by simp, one.2 d hd⟩
  · obtain ⟨z, hz, h3⟩ := q2 u hu d hd
    exact ⟨z, by simp [hz], h3⟩
theorem Tpp {h : List (Nat × Ob)} {h' : List (Nat × Ob)} {v : SV} {B : List Nat} {i0 n : Nat} (hk : okK h' i0 = true) (hn : n = i0 + h'.length) (hv : (v.refs.all fun i => decide (i < n)) = true) (hc : closeB h' n = true) (hB : ∀ i, i < i0 → get h (at0 B i) ≠ none) :
 (∀ d, (v.mapr (at0 B)).ref d = true → get (putAll h (h'.map fun q => (at0 B q.1, q.2.mapr (at0 B)))) d ≠ none) ∧ ∀ q ∈ h'.map (fun q => (at0 B q.1, q.2.mapr (at0 B))), ∀ d, q.2.ref d = true → get (putAll h (h'.map fun q => (at0 B q.1, q.2.mapr (at0 B)))) d ≠ none := by
 have key : ∀ i, i < n → get (putAll h (h'.map fun q => (at0 B q.1, q.2.mapr (at0 B)))) (at0 B i) ≠ none := fun i hi => by
  by_cases h0 : i < i0
  · exact Tat _ (hB i h0)
  · have := (Tcc hk i).2 (by omega)
    cases hg : get h' i with
    | none => exact absurd hg this
    | some o => exact Tbi (o := o.mapr (at0 B)) (List.mem_map.2 ⟨(i, o), Tc8 hg, rfl⟩)
 constructor
 · intro d hd
   have hd' := SV.mem_refs.2 hd
   have many : ∀ l : List RV, d ∈ (l.map (·.mapr (at0 B))).filterMap RV.id? → ∃ e ∈ l.filterMap RV.id?, at0 B e = d := fun l hl => by
    obtain ⟨r, hr, h2⟩ := List.mem_filterMap.1 hl
    obtain ⟨r0, hr0, rfl⟩ := List.mem_map.1 hr
    obtain ⟨e, he, h3⟩ := RV.mapr_ref h2
    exact ⟨e, List.mem_filterMap.2 ⟨r0, hr0, he⟩, h3⟩
   obtain ⟨e, he, rfl⟩ : ∃ e ∈ v.refs, at0 B e = d := by
    cases v with
    | p x => simp [SV.mapr, SV.refs] at hd'
    | xs k l => simp [SV.mapr, SV.refs] at hd'
    | ms d0 o n => exact ⟨d0, by simp [SV.refs], by simpa [SV.mapr, SV.refs, eq_comm] using hd'⟩
    | mp d0 i j => exact ⟨d0, by simp [SV.refs], by simpa [SV.mapr, SV.refs, eq_comm] using hd'⟩
    | mo d0 => exact ⟨d0, by simp [SV.refs], by simpa [SV.mapr, SV.refs, eq_comm] using hd'⟩
    | sst l => exact many l hd'
    | stu l => exact many l hd'
    | fnv f l => exact many l hd'
   exact key e (by simpa using List.all_eq_true.1 hv e he)
 · intro q hq d hd
   obtain ⟨q0, hq0, rfl⟩ := List.mem_map.1 hq
   have hcq := List.all_eq_true.1 hc q0 hq0
   have hd' := Ob.mem_refs.2 hd
   obtain ⟨x, o⟩ := q0
   cases o with
   | gr e k l =>
    simp only [Ob.mapr, Ob.refs, Tcd] at hd'
    obtain ⟨r, hr, h2⟩ := List.mem_filterMap.1 hd'
    obtain ⟨r0, hr0, rfl⟩ := List.mem_map.1 hr
    obtain ⟨e0, he, rfl⟩ := RV.mapr_ref h2
    exact key e0 (by simpa using List.all_eq_true.1 hcq e0 (List.mem_filterMap.2 ⟨r0, hr0, he⟩))
   | _ => simp [Ob.mapr, Ob.refs] at hd'
theorem Tk0 {s : St} {call : Call} {d : Nat} {f : FuncId} {vs : List SV} {e : Eff} (he : inlE call s d f vs = some e) : RefE s e := by
 unfold inlE at he
 split at he
 case h_2 => simp at he
 rename_i R hR
 split at he
 case h_2 => simp at he
 rename_i r hc
 cases r with
 | shr v h' =>
  rw [Tek] at he
  by_cases hcond : R.length ≤ h'.length ∧ 2000 + 50 * d + (h'.length - R.length) ≤ 100000 ∧ okK h' 0 = true ∧ (v.refs.all fun i => decide (i < h'.length)) = true ∧ closeB h' h'.length = true
  case neg => rw [if_neg hcond] at he; simp at he
  rw [if_pos hcond] at he
  obtain ⟨c1, c2, c3, c4, c5⟩ := hcond
  split at he
  case h_2 => simp at he
  rename_i fr hfr
  simp only [oIE] at he
  subst he
  obtain ⟨q1, q2⟩ := Tpp (h := s.h) (B := R ++ fr) c3 (by omega) c4 c5 (fun i hi => by omega)
  exact ⟨q1, q2⟩
 | _ => exact nomatch (show (none : Option Eff) = some e from he)
theorem Tpq {s : St} {call : Call} {d : Nat} {f : FuncId} {vs : List SV} {cl : Bool} {e : Eff} (he : innE call s d f vs cl = some e) : RefE s e := by
 unfold innE at he
 split at he
 case h_2 => simp at he
 rename_i R hR
 split at he
 case isFalse => simp at he
 split at he
 case h_2 => simp at he
 rename_i r hc
 cases r with
 | shn v h' =>
  rw [Tc7] at he
  by_cases hcond : 2000 + 50 * d + h'.length ≤ 100000 ∧ okK h' R.length = true ∧ (v.refs.all fun i => decide (i < R.length + h'.length)) = true ∧ closeB h' (R.length + h'.length) = true
  case neg => rw [if_neg hcond] at he; simp at he
  rw [if_pos hcond] at he
  obtain ⟨c2, c3, c4, c5⟩ := hcond
  split at he
  case h_2 => simp at he
  rename_i fr hfr
  simp only [oIE] at he
  subst he
  obtain ⟨_, _, hRx, _⟩ := Tbl hR
  obtain ⟨q1, q2⟩ := Tpp (h := s.h) (B := R ++ fr) c3 rfl c4 c5 (fun i hi => by
   rw [Teg hi]
   obtain ⟨o, ho, _⟩ := hRx _ (Ta3 hi)
   rw [ho]; simp)
  exact ⟨q1, q2⟩
 | _ => exact nomatch (show (none : Option Eff) = some e from he)
theorem Tgk {l : List (List RV)} {i j : Nat} {c : RV} (h : cellR l i j = some c) {e k d : Nat} (hd : c.sv.ref d = true) : (Ob.gr e k l).ref d = true := by
 unfold cellR at h
 split at h
 · rename_i r hr
   refine List.any_eq_true.2 ⟨r, List.mem_of_getElem? hr, List.any_eq_true.2 ⟨c, List.mem_of_getElem? h, ?_⟩⟩
   cases c <;> first | (simp [RV.ref, RV.sv, SV.ref] at hd; done) | simpa [RV.ref, RV.sv, SV.ref] using hd
 · simp at h
theorem Tsr {l : List (List RV)} {i : Nat} {c : List RV} (h : l[i]? = some c) {e k d m n : Nat} (hd : (((c.drop m).take n).any (·.ref d)) = true) : (Ob.gr e k l).ref d = true := by
 obtain ⟨r, hr, h2⟩ := List.any_eq_true.1 hd
 exact List.any_eq_true.2 ⟨c, List.mem_of_getElem? h, List.any_eq_true.2 ⟨r, List.mem_of_mem_drop (List.mem_of_mem_take hr), h2⟩⟩
theorem Tpr {l : List (List RV)} {i : Nat} {c yc : List RV} (h : l[i]? = some c) {e k d m n : Nat} (hd : (Ob.gr e k (l.set i (c.take m ++ yc ++ c.drop n))).ref d = true) : (Ob.gr e k l).ref d = true ∨ (yc.any (·.ref d)) = true := by
 obtain ⟨x, hx, h2⟩ := List.any_eq_true.1 hd
 rcases List.mem_or_eq_of_mem_set hx with hx | rfl
 · exact .inl (List.any_eq_true.2 ⟨x, hx, h2⟩)
 · obtain ⟨r, hr, h3⟩ := List.any_eq_true.1 h2
   simp only [List.mem_append] at hr
   rcases hr with (hr | hr) | hr
   · exact .inl (List.any_eq_true.2 ⟨c, List.mem_of_getElem? h, List.any_eq_true.2 ⟨r, List.mem_of_mem_take hr, h3⟩⟩)
   · exact .inr (List.any_eq_true.2 ⟨r, hr, h3⟩)
   · exact .inl (List.any_eq_true.2 ⟨c, List.mem_of_getElem? h, List.any_eq_true.2 ⟨r, List.mem_of_mem_drop hr, h3⟩⟩)
theorem Tv4 {s : St} (hw : WF s) {call : Call} {d : Nat} {o : AOp} {e : Eff} (he : eff call s d o = some e) : RefE s e := by
  cases o
  case inl f l =>
    simp only [eff] at he
    split at he
    · exact Tk0 he
    · simp at he
  case inn f l =>
    simp only [eff] at he
    split at he
    · exact Tpq he
    · simp at he
  case inq f l =>
    simp only [eff] at he
    split at he
    · exact Tpq he
    · simp at he
  case cvs x l =>
    simp only [eff] at he
    split at he
    · exact Tk0 he
    · exact Tk0 he
    · simp at he
  case mkr f l =>
    simp only [eff] at he
    split at he
    case h_2 => simp at he
    rename_i vs hv
    split at he
    case h_2 => simp at he
    rename_i r hr
    simp only [oIE] at he
    subst he
    refine .ng (fun d hd => ?_) rfl
    obtain ⟨v, h1, h2⟩ := Tpo hr d hd
    exact Te0 hw hv v h1 d h2
  case exr x i =>
    simp only [eff] at he
    split at he
    · rename_i l hv
      split at he
      case h_2 => simp at he
      rename_i c hc
      split at he
      case isFalse => simp at he
      simp only [oIE] at he
      subst he
      refine .ng (fun d hd => Tcn hw hv (List.any_eq_true.2 ⟨c, List.mem_of_getElem? hc, ?_⟩)) rfl
      cases c <;> first | (simp [RV.ref, RV.sv, SV.ref] at hd; done) | simpa [RV.ref, RV.sv, SV.ref] using hd
    · split at he
      case h_2 => simp at he
      simp only [oIE] at he
      subst he
      exact .ng (fun d hd => by simp [SV.ref] at hd) rfl
    · simp at he
  case ldr x =>
    simp only [eff] at he
    split at he
    case h_2 => simp at he
    split at he
    case h_2 => simp at he
    rename_i hd0
    split at he
    case h_2 => simp at he
    rename_i c hc
    split at he
    case isFalse => simp at he
    simp only [oIE] at he
    subst he
    exact .ng (fun d hd => hw.h _ _ d hd0 (Tgk hc hd)) rfl
  case ldrn e1 k x =>
    simp only [eff] at he
    split at he
    case h_2 => simp at he
    split at he
    case h_2 => simp at he
    rename_i hd0
    split at he
    case h_2 => simp at he
    rename_i c hc
    split at he
    · split at he
      case h_2 => simp at he
      simp only [oIE] at he
      subst he
      refine .ng (fun d hd => ?_) rfl
      simp only [SV.ref, beq_iff_eq] at hd
      subst hd
      exact Tbi (List.mem_singleton_self _)
    · split at he
      case isFalse => simp at he
      simp only [oIE] at he
      subst he
      exact .ng (fun d hd => hw.h _ _ d hd0 (Tgk hc hd)) rfl
  case ldkf ks x =>
    simp only [eff] at he
    repeat' split at he
    all_goals first | (simp at he; done) | (simp only [oIE] at he; subst he; exact .ng (fun d hd => by simp [SV.ref] at hd) (Td2 ‹frzs _ _ = some _›))
  case ldkr k x =>
    simp only [eff] at he
    split at he
    case h_2 => simp at he
    split at he
    case h_2 => simp at he
    rename_i hd0
    split at he
    case h_2 => simp at he
    rename_i c hc
    split at he
    case isFalse => simp at he
    simp only [oIE] at he
    subst he
    exact .ng (fun d hd => hw.h _ _ d hd0 (Tsr hc hd)) rfl
  case bldr z ps =>
    simp only [eff] at he
    split at he
    case h_2 => simp at he
    rename_i vs hv
    split at he
    case isFalse => simp at he
    split at he
    case h_2 => simp at he
    rename_i cs hcs
    split at he
    case h_2 => simp at he
    rename_i l hl
    simp only [oIE] at he
    subst he
    refine .ng (fun d hd => ?_) rfl
    obtain ⟨v, h1, h2⟩ := Tmd hcs hl hd
    exact Te0 hw hv v h1 d h2
  case bldrf z ps =>
    simp only [eff] at he
    split at he
    case h_2 => simp at he
    rename_i vs hv
    split at he
    case h_2 => simp at he
    rename_i vs2 fr hfz
    split at he
    case isFalse => simp at he
    split at he
    case h_2 => simp at he
    rename_i cs hcs
    split at he
    case h_2 => simp at he
    rename_i l hl
    simp only [oIE] at he
    subst he
    obtain ⟨q1, q2⟩ := Tme hfz
    refine .ng (fun d hd => ?_) q1
    obtain ⟨v, h1, h2⟩ := Tmd hcs hl hd
    obtain ⟨u, h3, h4⟩ := q2 v h1 d h2
    exact Tat _ (Te0 hw hv u h3 d h4)
  case boxr e1 k x =>
    simp only [eff] at he
    split at he
    case h_2 => simp at he
    rename_i v hv
    split at he
    case h_2 => simp at he
    rename_i c hc
    split at he
    case isFalse => simp at he
    split at he
    case h_2 => simp at he
    rename_i id hid
    simp only [oIE] at he
    subst he
    refine ⟨fun d hd => ?_, fun q hq d hd => ?_⟩
    · simp only [SV.ref, beq_iff_eq] at hd
      subst hd
      exact Tbi (List.mem_singleton_self _)
    · simp only [List.mem_singleton] at hq
      subst hq
      obtain ⟨x1, hx1, h2⟩ := List.any_eq_true.1 hd
      simp only [List.mem_singleton] at hx1
      subst hx1
      exact Tat _ (Tcn hw hv (Te1 hc h2))
  case alr e1 k c =>
    simp only [eff] at he
    split at he
    case h_2 => simp at he
    rename_i id hid
    simp only [oIE] at he
    subst he
    refine ⟨fun d hd => ?_, fun q hq d hd => ?_⟩
    · simp only [SV.ref, beq_iff_eq] at hd
      subst hd
      exact Tbi (List.mem_singleton_self _)
    · simp only [List.mem_singleton] at hq
      subst hq
      obtain ⟨x1, hx1, h2⟩ := List.any_eq_true.1 hd
      simp only [List.mem_singleton] at hx1
      subst hx1
      obtain ⟨r, hr, h3⟩ := List.any_eq_true.1 h2
      obtain ⟨x, _, rfl⟩ := List.mem_map.1 hr
      simp [RV.ref] at h3
  case stor k a x =>
    simp only [eff] at he
    split at he
    case h_2 => simp at he
    rename_i d' i j v hva hvx
    split at he
    case h_2 => simp at he
    rename_i yc hyc
    split at he
    case isFalse => simp at he
    split at he
    case h_2 => simp at he
    rename_i e1 k' l hd0
    split at he
    case h_2 => simp at he
    rename_i c hc
    split at he
    case isFalse => simp at he
    simp only [oIE] at he
    subst he
    refine ⟨fun d hd => by simp [SV.ref, undefS] at hd, fun q hq d hd => ?_⟩
    simp only [List.mem_singleton] at hq
    subst hq
    refine Tat _ ?_
    rcases Tpr hc hd with h1 | h1
    · exact hw.h _ _ d hd0 h1
    · exact Tcn hw hvx (Te1 hyc h1)
  case storf k a x =>
    simp only [eff] at he
    split at he
    case h_2 => simp at he
    rename_i d' i j v hva hvx
    split at he
    case h_2 => simp at he
    rename_i z fr hfz
    split at he
    case h_2 => simp at he
    rename_i yc hyc
    split at he
    case isFalse => simp at he
    split at he
    case h_2 => simp at he
    rename_i e1 k' l hd0
    split at he
    case h_2 => simp at he
    rename_i c hc
    split at he
    case isFalse => simp at he
    simp only [oIE] at he
    subst he
    refine ⟨fun d hd => by simp [SV.ref, undefS] at hd, fun q hq d hd => ?_⟩
    refine Tat _ ?_
    rcases List.mem_append.1 hq with hq | hq
    · rw [Tmb (Tmc hfz) q hq d] at hd; simp at hd
    · simp only [List.mem_singleton] at hq
      subst hq
      rcases Tpr hc hd with h1 | h1
      · exact hw.h _ _ d hd0 h1
      · obtain ⟨r, hr, h3⟩ := List.any_eq_true.1 h1
        obtain ⟨x, _, rfl⟩ := List.mem_map.1 hr
        simp [RV.ref] at h3
  case cl f l =>
    simp only [eff] at he
    repeat' split at he
    all_goals first | (simp at he; done) | exact .ng (Tij he) (Tkz (Td2 ‹frzs _ _ = some _›) he)
  case cv x l =>
    simp only [eff] at he
    repeat' split at he
    all_goals first | (simp at he; done) | exact .ng (Tij he) (Tkz (Td2 ‹frzs _ _ = some _›) he)
  case inv ty f m x l =>
    simp only [eff] at he
    repeat' split at he
    all_goals first | (simp at he; done) | exact .ng (Tij he) (Tkz (Td2 ‹frzs _ _ = some _›) he)
  case cld f l =>
    simp only [eff] at he
    repeat' split at he
    all_goals first | (simp at he; done) | exact .ng (Tpn he) (Tsq (Td2 ‹frzs _ _ = some _›) he)
  case mvs x y =>
    simp only [eff] at he
    split at he
    · rename_i v d1 off len hv hy
      split at he
      · split at he
        · simp only [oIE] at he
          subst he
          exact .ng (fun d hd => Tat _ (Tcn hw hv hd)) rfl
        · simp at he
      · simp at he
    · simp at he
  case sbw f x y =>
    simp only [eff, sbwE] at he
    repeat' split at he
    all_goals first | (simp at he; done) | (simp only [oIE] at he; subst he; exact .ng (fun d hd => by simp [SV.ref] at hd) rfl)
  case sbs f x =>
    simp only [eff, sbsE] at he
    repeat' split at he
    all_goals first | (simp at he; done) | (simp only [oIE] at he; subst he; exact .ng (fun d hd => by simp [SV.ref] at hd) rfl)
  all_goals
    simp only [eff, uns] at he
    repeat' split at he
    all_goals
      first
      | (simp at he; done)
      | (simp only [oIE] at he; subst he
         refine .ng (fun d' hd => ?_) ?_
         · first
           | (simp [SV.ref, undefS] at hd; done)
           | (simp only [SV.ref, beq_iff_eq] at hd; subst hd
              first
              | exact Tbi (List.mem_append_right _ (List.mem_singleton_self _))
              | exact Tbi (List.mem_singleton_self _)
              | exact Tbi (List.mem_cons_of_mem _ (List.mem_singleton_self _))
              | exact Tcn hw ‹X.ev s _ = some (.mp _ _ _)› (by simp [SV.ref])
              | exact Tcn hw ‹X.ev s _ = some (.ms _ _ _)› (by simp [SV.ref])
              | exact Tcn hw ‹X.ev s _ = some _› (by simp [SV.ref]))
           | exact Tcn hw ‹X.ev s _ = some _› hd
           | (split at hd <;> exact Tcn hw ‹X.ev s _ = some _› hd)
         · first
           | rfl
           | exact Tmc ‹frz _ _ = some _›
           | exact Td2 ‹frzs _ _ = some _›
           | (unfold noGr; rw [List.all_append]; rw [show (List.all _ _) = true from Tmc ‹frz _ _ = some _›]; rfl)
           | (unfold noGr; rw [List.all_append]; rw [show (List.all _ _) = true from Td2 ‹frzs _ _ = some _›]; rfl))
theorem WF.put {s : St} (hw : WF s) {hs : List (Nat × Ob)} (hh : ∀ q ∈ hs, ∀ d, q.2.ref d = true → get (putAll s.h hs) d ≠ none) : ∀ x o d, get (putAll s.h hs) x = some o → o.ref d = true → get (putAll s.h hs) d ≠ none := fun x o d hx hd => by
 have h1 := hx
 rw [Ta5] at h1
 split at h1
 · rename_i o' ho'
   obtain rfl := oIj h1
   exact hh _ (Tbc ho') d hd
 · exact Tat _ (hw.h x o d h1 hd)
def AOp.fresh : AOp → Bool
 | .box .. | .boxp .. | .alcp .. | .nl .. | .alloc .. | .bsl .. | .mks .. | .cl .. | .cv .. | .inv .. | .rng .. | .cld .. => true
 | _ => false
def apartS (a i : AOper) : Bool := match a.d with
 | some d => !(i.reads.contains d) && (match i.d with | some e => e != d | none => true)
 | none => true
def AOp.isInn : AOp → Bool
 | .inn .. | .inq .. => true
 | _ => false
def AOp.isInc : AOp → Bool
 | .inn .. => true
 | _ => false
def qpair (a i : AOper) : Bool := (a.o.quiet && (i.o.quiet || !i.o.hard || i.o.isInn)) || (a.o.isInc && !i.o.hard && decide (i.d.getD 0 < 2000))
def AOp.isShr : AOp → Bool
 | .inl .. | .inn .. | .inq .. | .cvs .. => true
 | _ => false
def AOp.isNew : AOp → Bool
 | .alloc .. | .nl .. => true
 | _ => false
def qpair2 (a i : AOper) : Bool := a.o.isShr && i.o.isNew && decide (i.d.getD 0 < 2000)
def apartH0 (a i : AOper) : Bool := a.o.bare || i.o.bare || (!a.o.hard && !i.o.hard && (!(a.o.fresh && i.o.fresh) || (a.d.getD 0 != i.d.getD 0 && decide (a.d.getD 0 < 100000) && decide (i.d.getD 0 < 100000))))
def apartH (a i : AOper) : Bool := apartH0 a i || qpair a i || qpair i a || qpair2 a i || qpair2 i a
def indep (a i : AOper) : Bool := apartS a i && apartS i a && apartH a i
def befs (md : Region.Mode) : List Oper → Nat → List Nat → List Nat
 | [], _, acc => acc
 | o :: os, n, acc => befs md os (n + 1) (acc ++ [o.after.toList.foldl (fun m e => if Region.binds md e then m ||| (1 <<< e.on) ||| acc.getD e.on 0 else m) 0])
def backs (md : Region.Mode) : List Oper → Nat → Bool
 | [], _ => true
 | o :: os, n => (o.after.toList.all fun e => !Region.binds md e || decide (e.on < n)) && backs md os (n + 1)
def okPair (m : Nat) (i : AOper) : List AOper → Nat → Bool
 | [], _ => true
 | a :: aos, j => (m.testBit j || indep a i) && okPair m i aos (j + 1)
def okPairs : List Nat → List AOper → List AOper → Bool
 | m :: ms, seen, i :: is => okPair m i seen 0 && okPairs ms (seen ++ [i]) is
 | _, _, _ => true
def okOrder (ops : List Oper) (aos : List AOper) : Bool := backs .any ops 0 && okPairs (befs .any ops 0 []) [] aos
def okOps (P : Program) (N : Nat) (ops : Array Oper) : List Oper → List AOper → Bool
 | [], [] => true
 | o :: os, a :: aos => okOper P N ops o a && okOps P N ops os aos
 | _, _ => false
def okRegion (P : Program) (N : Nat) (ops : Array Oper) (aos : List AOper) (draw : Bool) : Bool :=
 okOps P N ops ops.toList aos && (!draw || okOrder ops.toList aos)
def okCode (P : Program) (N : Nat) : Go.Code → ACode → Bool
 | .scope x, y => okCode P N x y
 | .skip, .skip => true
 | .label _, .skip => true
 | .region _ ops draw, .reg aos _ => okRegion P N ops aos draw
 | .region _ ops draw, .regf aos _ _ => okRegion P N ops aos draw
 | .seq x y, .seq x' y' => okCode P N x x' && okCode P N y y'
 | .cond c x y, .ite c' x' y' => okX c c' && okCode P N x x' && okCode P N y y'
 | .block i x, .blk j x' => i == j && okCode P N x x'
 | .loop x, .loop _ x' => okCode P N x x'
 | .loop x, .loopc _ x' => okCode P N x x'
 | .exit i, .ex j => i == j
 | .ret, .ret => true
 | _, _ => false
def okRes (P : Program) : ResultVar → ARes → Bool
 | .tmp n, .t m => n == m
 | .tmp n, .td m => n == m
 | .cell n t, .c1 m => n == m && decide (aggT P t = some false)
 | .cell n t, .ck m k => n == m && decide (aggT P t = some true) && P.cellsOf t == k && decide (0 < k)
 | _, _ => false
def okRess (P : Program) : List ResultVar → List ARes → Bool
 | [], [] => true
 | x :: xs, y :: ys => okRes P x y && okRess P xs ys
 | _, _ => false
def okFunc (P : Program) (f : FuncId) (fn : AFunc) : Bool := match P.funcs[f]? with
 | some g => (match g.body with
  | some c => okCode P g.ntmps c fn.body
  | none => false) && decide (fn.np ≤ g.ntmps) && okRess P g.results.toList fn.rs && !(g.name == "runtime.NumGoroutine") && fn.n == g.ntmps
 | none => false
end Go.Proofs.YtjpibniecllafaaGreat.AM
end
