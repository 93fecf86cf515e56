/- MADE BY sync2.py: AM16, AM17, AM18, AM19, AM20, AM21, one behind the other. No condition but what they say. -/
import Derived.Test.YtomnggbideepeaaQ4
import Derived.Orders
section
/- The small machine's steps, and the putting in order of its state, against Go's. No condition. -/
namespace Go.Proofs.Ytomnggbideepeaa.AM
open Go Go.RowKit
set_option linter.unusedVariables false
set_option linter.unusedSimpArgs false

def okOper (P : Program) (N : Nat) (ops : Array Oper) (o : Oper) (ao : AOper) : Bool :=
  decide (ao.d = o.dst) && (match ao.d with | some d => decide (d < N) | none => true) &&
  (match o.guard, ao.g with
    | none, none => true
    | some (j, b), some (g, b') => b == b' && decide ((ops[j]?).bind (·.dst) = some g)
    | _, _ => false) && (okA P o.op ao.o || okCall P o.op ao.o)

section
variable {P : Program} {base : Nat} {w0 : World} {lm0 : Nat → Nat} {N : Nat} {g : Gs} {a : Act} {w : World} {s : St} {o : Oper}

theorem Sim.puts (S : Sim base w0 lm0 N g a w s) {ao : AOper} {dst : Option Tmp} {v : SV} {u : Value} (hd : ao.d = dst) (hN : (match ao.d with | some d => decide (d < N) | none => true) = true) (hr : SRep w g (get s.h) v u) : Sim base w0 lm0 N g (a.put dst u) w ⟨AM.puts s.t ao.d v, s.h⟩ := by
  subst hd
  cases hq : ao.d with
  | none => exact S
  | some d =>
    rw [hq] at hN
    exact S.put (by simpa using hN) hr

theorem step_sound (hk : Kb base w0) (S : Sim base w0 lm0 N g a w s) {ops : Array Oper} {ao : AOper} {call : Call} (hG : Good P call) {i : Nat} (hi : ops[i]? = some o) (hok : okOper P N ops o ao = true) {s' : St} (hs : step call ao s = some s') {K : Act → World → Prop} {Q : Exit → Act → World → Prop}
    (hK : ∀ g' a' w', Sim base w0 lm0 N g' a' w' s' → K a' w') : wpOp P ops Q i K a w := by
  simp only [okOper, Bool.and_eq_true, decide_eq_true_eq] at hok
  obtain ⟨⟨⟨hd, hN⟩, hgd⟩, hop⟩ := hok
  have run : ∀ {e : Eff}, eff call s (ao.d.getD 0) ao.o = some e → s' = ⟨AM.puts s.t ao.d e.v, putAll s.h e.hs⟩ → o.wp P a w K Q := by
    rintro e he rfl
    simp only [Bool.or_eq_true] at hop
    rcases hop with hop | hop
    · obtain ⟨u, w', g', hrun, S', R'⟩ := eff_sound S hop he
      unfold Oper.wp
      rcases hrun with hrun | ⟨hrun, rfl⟩
      · rw [hrun, Oper.upon_value]
        exact hK g' _ _ (S'.puts hd hN R')
      · rw [hrun, Oper.upon_skip]
        exact hK g' _ _ (S'.puts hd hN R')
    · exact call_sound hk S hG hop he fun g' w' u S' R' => hK g' _ _ (S'.puts hd hN R')
  have nope : s' = ⟨AM.puts s.t ao.d undefS, s.h⟩ → K (a.put o.dst undef) w := by
    rintro rfl
    exact hK g _ _ (S.puts hd hN (Rep.sc _))
  unfold wpOp
  simp only [hi]
  unfold step at hs
  cases hg : o.guard with
  | none =>
    rw [hg] at hgd
    cases hag : ao.g with
    | some q => rw [hag] at hgd; simp at hgd
    | none =>
      rw [hag] at hs
      have hw : Region.wanted o (yielded ops a.tmps) = true := by simp [Region.wanted, hg]
      rw [if_pos hw]
      left
      cases he : eff call s (ao.d.getD 0) ao.o with
      | none => rw [he] at hs; simp at hs
      | some e =>
        rw [he] at hs
        exact run he (Option.some.inj hs).symm
  | some q =>
    obtain ⟨j, b⟩ := q
    rw [hg] at hgd
    cases hag : ao.g with
    | none => rw [hag] at hgd; simp at hgd
    | some q =>
      obtain ⟨gs, b'⟩ := q
      rw [hag] at hgd hs
      simp only [Bool.and_eq_true, beq_iff_eq, decide_eq_true_eq] at hgd
      obtain ⟨rfl, hgs⟩ := hgd
      dsimp only at hs
      cases hv : get s.t gs with
      | none => rw [hv] at hs; simp at hs
      | some v =>
        rw [hv] at hs
        dsimp only at hs
        obtain ⟨u, hu, hr⟩ := S.tm _ _ hv
        split at hs
        · rename_i b1
          have hb := rep_bool hr
          have hy : yielded ops a.tmps j = some b1 := by
            simp only [yielded, hgs, Option.bind_some, hu, hb]
          split at hs
          · rename_i hbb
            subst hbb
            have hw : Region.wanted o (yielded ops a.tmps) = true := by simp [Region.wanted, hg, hy]
            rw [if_pos hw]
            left
            cases he : eff call s (ao.d.getD 0) ao.o with
            | none => rw [he] at hs; simp at hs
            | some e =>
              rw [he] at hs
              exact run he (Option.some.inj hs).symm
          · rename_i hbb
            have hw : ¬ Region.wanted o (yielded ops a.tmps) = true := by simpa [Region.wanted, hg, hy] using hbb
            rw [if_neg hw]
            exact nope (Option.some.inj hs).symm
        · have hb := rep_sc hr
          have hy : yielded ops a.tmps j = none := by
            simp only [yielded, hgs, Option.bind_some, hu, hb]
          have hw : ¬ Region.wanted o (yielded ops a.tmps) = true := by simp [Region.wanted, hg, hy]
          rw [if_neg hw]
          exact nope (Option.some.inj hs).symm
        · simp at hs

/-! ### putting in order -/
theorem get_filter {α : Type} (p : Nat → Bool) : ∀ (l : List (Nat × α)) (n : Nat), get (l.filter fun q => p q.1) n = if p n then get l n else none
  | [], n => by simp [get]
  | (e, u) :: l, n => by
    have ih := get_filter p l n
    by_cases he : p e
    · rw [List.filter_cons_of_pos (by simpa using he)]
      simp only [get, ih]
      by_cases hn : e = n
      · subst hn; simp [he]
      · simp [hn]
    · rw [List.filter_cons_of_neg (by simpa using he), ih]
      simp only [get]
      by_cases hn : e = n
      · subst hn; simp [he]
      · simp [hn]
theorem get_mem {α : Type} : ∀ {l : List (Nat × α)} {n : Nat} {v : α}, get l n = some v → (n, v) ∈ l
  | [], n, v, h => by simp [get] at h
  | (e, u) :: l, n, v, h => by
    simp only [get] at h
    split at h
    · rename_i he; subst he; simp at h; subst h; simp
    · exact List.mem_cons_of_mem _ (get_mem h)
theorem get_map {α : Type} (f : α → α) : ∀ (l : List (Nat × α)) (n : Nat), get (l.map fun q => (q.1, f q.2)) n = (get l n).map f
  | [], n => by simp [get]
  | (e, u) :: l, n => by
    simp only [List.map_cons, get]
    split
    · rfl
    · exact get_map f l n

theorem SRep.weak {h h' : Nat → Option Ob} {v : SV} {u : Value} (hr : SRep w g h v u) (hh : ∀ d, v.id? = some d → h' d = h d) : SRep w g h' v u := by
  cases v with
  | p x => exact hr
  | xs k l => exact hr
  | ms d off len => simp only [SRep] at hr ⊢; rw [hh d rfl]; exact hr
  | mp d i j => simp only [SRep] at hr ⊢; rw [hh d rfl]; exact hr

/-- Fewer slots, fewer objects. -/
theorem Sim.less (S : Sim base w0 lm0 N g a w s) {t : List (Nat × SV)} {h : List (Nat × Ob)} (ht : ∀ n v, get t n = some v → get s.t n = some v) (hh : ∀ d o, get h d = some o → get s.h d = some o) (hr : ∀ n v d, get t n = some v → v.id? = some d → get h d = get s.h d) : Sim base w0 lm0 N g a w ⟨t, h⟩ :=
  ⟨S.bas, S.size, S.defers, S.below, S.lm, fun n v hn => let ⟨u, h1, h2⟩ := S.tm n v (ht n v hn); ⟨u, h1, h2.weak fun d hd => hr n v d hn hd⟩, fun d o hd => S.ob d o (hh d o hd), fun d o hd => S.lt d o (hh d o hd), let ⟨own, hap⟩ := S.ap; ⟨own, fun d o x b hd hl hi hb => hap d o x b (hh d o hd) hl hi hb⟩⟩

theorem ref_id (v : SV) (d : Nat) : v.ref d = true ↔ v.id? = some d := by
  cases v <;> simp [SV.ref, SV.id?]

theorem Sim.keepGc (S : Sim base w0 lm0 N g a w s) (keep : List Nat) : Sim base w0 lm0 N g a w ⟨keepT keep s.t, gc (keepT keep s.t) s.h⟩ := by
  have hg : ∀ d, get (gc (keepT keep s.t) s.h) d = if (keepT keep s.t).any (fun r => r.2.ref d) then get s.h d else none := fun d => get_filter (fun d => (keepT keep s.t).any fun r => r.2.ref d) s.h d
  refine S.less (fun n v hn => ?_) (fun d o hd => ?_) (fun n v d hn hd => ?_)
  · have := get_filter (fun n => keep.contains n) s.t n
    simp only [keepT] at hn
    rw [this] at hn
    split at hn
    · exact hn
    · simp at hn
  · rw [hg] at hd
    split at hd
    · exact hd
    · simp at hd
  · rw [hg, if_pos]
    exact List.any_eq_true.2 ⟨(n, v), get_mem hn, (ref_id v d).2 hd⟩

theorem Sim.ren1 (S : Sim base w0 lm0 N g a w s) (n : Nat) : ∃ g', Sim base w0 lm0 N g' a w (AM.ren1 s n) := by
  unfold AM.ren1
  cases hv : get s.t n with
  | none => exact ⟨g, S⟩
  | some v =>
    dsimp only
    cases hd : v.id? with
    | none => exact ⟨g, S⟩
    | some d =>
      dsimp only
      by_cases hdn : d = n
      · rw [if_pos hdn]; exact ⟨g, S⟩
      · rw [if_neg hdn]
        cases hn : get s.h n with
        | some o => exact ⟨g, S⟩
        | none =>
          cases ho : get s.h d with
          | none => exact ⟨g, S⟩
          | some o =>
            dsimp only
            split
            case isFalse => exact ⟨g, S⟩
            rename_i hcond
            obtain ⟨hdp, hn8⟩ := hcond
            let g' : Gs := ⟨g.lm, upd g.v n (g.v d)⟩
            have hget : ∀ e, get (AM.put (s.h.filter fun q => q.1 != d) n o) e = if n = e then some o else if e = d then none else get s.h e := by
              intro e
              rw [get_put]
              split
              · rfl
              · have := get_filter (fun x => x != d) s.h e
                rw [this]
                by_cases he : e = d <;> simp [he]
            have hni : ∀ e o1 x, get s.h e = some o1 → Ids e o1 x → x ≠ n := fun e o1 x h1 hi hx => by
              have := hi.lt (by rw [hx]; omega)
              rw [← this, hx, hn] at h1
              simp at h1
            refine ⟨g', S.bas, S.size, S.defers, S.below, S.lm, fun m v' hm => ?_, fun e o' he => ?_, fun e o' he => ?_, ?_⟩
            · have := get_map (SV.ren d n) s.t m
              rw [this] at hm
              cases hm' : get s.t m with
              | none => rw [hm'] at hm; simp at hm
              | some v0 =>
                rw [hm'] at hm
                simp at hm
                subst hm
                obtain ⟨u, hu, hr⟩ := S.tm m v0 hm'
                refine ⟨u, hu, ?_⟩
                have gne : ∀ e, e ≠ n → g'.v e = g.v e := fun e he => upd_ne _ he _
                have gn : g'.v n = g.v d := upd_same _ _ _
                cases v0 with
                | p x => exact hr
                | xs k l => exact hr
                | ms e off len =>
                  simp only [SV.ren]
                  by_cases he : e = d
                  · subst he
                    rw [if_pos rfl]
                    simp only [SRep, ho] at hr
                    simp only [SRep, hget, if_pos, gn]
                    exact hr
                  · rw [if_neg he]
                    have hen : e ≠ n := fun h => by subst h; simp only [SRep, hn] at hr
                    simp only [SRep, hget, if_neg (Ne.symm hen), if_neg he, gne e hen]
                    exact hr
                | mp e i j =>
                  simp only [SV.ren]
                  by_cases he : e = d
                  · subst he
                    rw [if_pos rfl]
                    simp only [SRep, ho] at hr
                    simp only [SRep, hget, if_pos, gn]
                    exact hr
                  · rw [if_neg he]
                    have hen : e ≠ n := fun h => by subst h; simp only [SRep, hn] at hr
                    simp only [SRep, hget, if_neg (Ne.symm hen), if_neg he, gne e hen]
                    exact hr
            · rw [hget] at he
              split at he
              · rename_i hne
                subst hne
                obtain rfl := Option.some.inj he
                have := S.ob d o ho
                have gn : g'.v n = g.v d := upd_same _ _ _
                cases o with
                | row e' k fz l => simp only [ORep, gn] at this ⊢; exact this
                | it st pos => simp only [ORep, gn] at this ⊢; exact this
                | dp e' k l => simp [Ob.isDp] at hdp
                | dead => trivial
              · rename_i hne
                split at he
                · simp at he
                · exact (S.ob e o' he).keep (fun x hi => upd_ne _ (hni e o' x he hi) _) (Ext.refl _ _) fun _ x hi b _ => ⟨rfl, rfl⟩
            · rw [hget] at he
              split at he
              · rename_i h; subst h; omega
              · split at he
                · simp at he
                · exact S.lt _ _ he
            · obtain ⟨own, hap⟩ := S.ap
              refine ⟨fun b => if own b = d then n else own b, fun e o1 x b he hl hi hb => ?_⟩
              dsimp only
              rw [hget] at he
              split at he
              · rename_i h
                subst h
                obtain rfl := Option.some.inj he
                obtain rfl := hi.plain hdp
                have gn : g'.v x = g.v d := upd_same _ _ _
                rw [gn] at hb
                exact if_pos (hap d o d b ho hl (.self _ _) hb)
              · rename_i h
                split at he
                · simp at he
                · rename_i h'
                  have ge : g'.v x = g.v x := upd_ne _ (hni e o1 x he hi) _
                  rw [ge] at hb
                  have hx := hap e o1 x b he hl hi hb
                  have hxd : x ≠ d := fun q => by
                    have := hi.lt (by rw [q]; exact S.lt _ _ ho)
                    exact h' (this.symm.trans q)
                  rw [hx, if_neg hxd]

theorem Sim.fz1 (S : Sim base w0 lm0 N g a w s) (n : Nat) : ∃ g', Sim base w0 lm0 N g' a w (AM.fz1 s n) := by
  unfold AM.fz1
  cases hv : get s.t n with
  | none => exact ⟨g, S⟩
  | some v =>
    dsimp only
    cases hf : AM.frz s.h v with
    | none => exact ⟨g, S⟩
    | some q =>
      obtain ⟨y, fr⟩ := q
      obtain ⟨u, hu, hr⟩ := S.tm n v hv
      obtain ⟨lm', S1, r1, T1, F1⟩ := frz_sim S (fun d => Fz.refl _) hr hf
      refine ⟨⟨lm', g.v⟩, ⟨S1.bas, S1.size, S1.defers, S1.below, S1.lm, fun m v' hm => ?_, S1.ob, S1.lt, S1.ap⟩⟩
      dsimp only at hm
      rw [get_put] at hm
      split at hm
      · rename_i h
        subst h
        obtain rfl := Option.some.inj hm
        exact ⟨u, hu, r1⟩
      · exact S1.tm m v' hm
theorem Sim.fzs (S : Sim base w0 lm0 N g a w s) : ∀ (l : List Nat), ∃ g', Sim base w0 lm0 N g' a w (l.foldl AM.fz1 s) := by
  intro l
  induction l generalizing g s with
  | nil => exact ⟨g, S⟩
  | cons n l ih =>
    obtain ⟨g', S'⟩ := S.fz1 n
    exact ih S'
theorem Sim.norm (S : Sim base w0 lm0 N g a w s) (keep : List Nat) : ∃ g', Sim base w0 lm0 N g' a w (AM.norm keep s) := by
  unfold AM.norm
  have : ∀ (l : List Nat) {g : Gs} {s : St}, Sim base w0 lm0 N g a w s → ∃ g', Sim base w0 lm0 N g' a w (l.foldl AM.ren1 s) := by
    intro l
    induction l with
    | nil => intro g s S; exact ⟨g, S⟩
    | cons n l ih =>
      intro g s S
      obtain ⟨g', S'⟩ := S.ren1 n
      exact ih S'
  exact this keep (S.keepGc keep)
end
end Go.Proofs.Ytomnggbideepeaa.AM

end
section
/- The small machine's operations in another order. No condition. -/
namespace Go.Proofs.Ytomnggbideepeaa.AM
open Go Go.RowKit
set_option linter.unusedVariables false
set_option linter.unusedSimpArgs false

/-- What an operation looks at. -/
def AOp.xs : AOp → List X
  | .mv x => [x]
  | .nl _ _ => []
  | .pick c a b => [c, a, b]
  | .box _ _ x => [x]
  | .alloc _ _ _ => []
  | .boxp _ _ x => [x]
  | .alcp _ _ _ => []
  | .bld _ ps => ps.map fun q => q.2.2
  | .bsl _ _ _ ps => ps.map fun q => q.2
  | .iap _ x i => [x, i]
  | .ldp1 x => [x]
  | .ldpk _ x => [x]
  | .mvp x => [x]
  | .ld1 x => [x]
  | .ldk _ x => [x]
  | .sto _ a x => [a, x]
  | .s1 _ x => [x]
  | .s2 _ x y => [x, y]
  | .eqst _ _ x y => [x, y]
  | .nck x => [x]
  | .apps _ _ x y => [x, y]
  | .mki _ x => [x]
  | .inv _ _ _ x l => x :: l
  | .fld1 x _ => [x]
  | .fldk x _ _ => [x]
  | .ixa _ _ x i => [x, i]
  | .bldp _ ps => ps.map fun q => q.2.2
  | .bslp _ _ _ ps => ps.map fun q => q.2
  | .fa x _ => [x]
  | .ia _ x i => [x, i]
  | .aa _ _ x i => [x, i]
  | .mkf _ cs => cs
  | .mks _ _ _ _ l c => [l, c]
  | .slc _ x lo hi mx => x :: (lo.toList ++ hi.toList ++ mx.toList)
  | .sls x lo hi => x :: (lo.toList ++ hi.toList)
  | .len x => [x]
  | .lens x => [x]
  | .app _ _ _ x y => [x, y]
  | .cpy _ x y => [x, y]
  | .mm _ l => l
  | .rng x => [x]
  | .nxt x => [x]
  | .ext x _ => [x]
  | .cl _ l => l
  | .cv x l => x :: l
  | .b2s x => [x]
  | .cpyd _ x y => [x, y]
  | .cpyo _ x y => [x, y]
  | .iad _ x i => [x, i]
  | .fad x _ => [x]
  | .ld1d x => [x]
  | .ld1o x => [x]
  | .sto1o a x => [a, x]
  | .stod a x => [a, x]
  | .lend x => [x]
  | .mvs x y => [x, y]
  | .cld _ l => l
  | .sbn _ _ => []
  | .sbw _ x y => [x, y]
  | .sbs _ x => [x]

/-- Does it write what is there? -/
def AOp.hard : AOp → Bool
  | .sto .. | .apps .. | .app .. | .cpy .. | .nxt .. | .cpyd .. | .cpyo .. | .ld1o .. | .sto1o .. | .stod .. | .mvs .. | .sbn .. | .sbw .. | .sbs .. => true
  | _ => false
/-- Does it look at no object? -/
def AOp.bare : AOp → Bool
  | .mv .. | .pick .. | .s1 .. | .eqst .. | .fld1 .. | .ixa .. | .bldp .. | .bslp .. | .fldk .. | .sls .. | .lens .. | .ext .. | .iap .. | .ldp1 .. | .ldpk .. => true
  | .s2 o _ _ => match o with | .peq _ => false | _ => true
  | _ => false

section
variable {s s' : St}

theorem evs_congr : ∀ {l : List X}, (∀ x ∈ l, x.ev s = x.ev s') → evs s l = evs s' l
  | [], _ => rfl
  | x :: l, h => by
    simp only [evs]
    rw [h x (by simp), evs_congr fun y hy => h y (by simp [hy])]
theorem evp_congr : ∀ {l : List X}, (∀ x ∈ l, x.ev s = x.ev s') → evp s l = evp s' l
  | [], _ => rfl
  | x :: l, h => by
    simp only [evp]
    rw [h x (by simp), evp_congr fun y hy => h y (by simp [hy])]
theorem natOr_congr {d : Nat} {x : Option X} (h : ∀ y ∈ x.toList, y.ev s = y.ev s') : natOr s d x = natOr s' d x := by
  cases x with
  | none => rfl
  | some x => simp only [natOr]; rw [h x (by simp)]
theorem frz_congr {h h' : List (Nat × Ob)} (e : ∀ d, get h d = get h' d) (v : SV) : frz h v = frz h' v := by
  cases v <;> simp only [frz, e]
theorem frzs_congr {h h' : List (Nat × Ob)} (e : ∀ d, get h d = get h' d) : ∀ vs : List SV, frzs h vs = frzs h' vs
  | [] => rfl
  | v :: vs => by simp only [frzs, frz_congr e, frzs_congr e vs]
theorem newId_congr {h h' : List (Nat × Ob)} (e : ∀ d, get h d = get h' d) (d : Nat) : newId h d = newId h' d := by simp only [newId, e]
theorem elems_congr {h h' : List (Nat × Ob)} (e : ∀ d, get h d = get h' d) (v : SV) : elems h v = elems h' v := by
  cases v <;> simp only [elems, e]
theorem svLen_congr {h h' : List (Nat × Ob)} (e : ∀ d, get h d = get h' d) (v : SV) : svLen h v = svLen h' v := by
  cases v <;> simp only [svLen, e]
theorem ret1d_congr {h h' : List (Nat × Ob)} (e : ∀ d, get h d = get h' d) (fr : List (Nat × Ob)) (d : Nat) (r : Ret) : ret1d h fr d r = ret1d h' fr d r := by
  cases r <;> simp only [ret1d, newId_congr e]
theorem ret1_congr {h h' : List (Nat × Ob)} (e : ∀ d, get h d = get h' d) (fr : List (Nat × Ob)) (d : Nat) (r : Ret) : ret1 h fr d r = ret1 h' fr d r := by
  cases r <;> simp only [ret1, newId_congr e]

/-- What an operation does hangs on what it looks at alone. -/
theorem eff_congr (call : Call) (d : Nat) (o : AOp) (hx : ∀ x ∈ o.xs, x.ev s = x.ev s') (e : ∀ d, get s.h d = get s'.h d) : eff call s d o = eff call s' d o := by
  cases o
  case bld z ps =>
    have h1 : evs s (ps.map fun q => q.2.2) = evs s' (ps.map fun q => q.2.2) := evs_congr hx
    simp only [eff, frzs_congr e, h1]
  case bldp z ps =>
    have h1 : evp s (ps.map fun q => q.2.2) = evp s' (ps.map fun q => q.2.2) := evp_congr hx
    simp only [eff, h1]
  case bslp a b z ps =>
    have h1 : evp s (ps.map fun q => q.2) = evp s' (ps.map fun q => q.2) := evp_congr hx
    simp only [eff, h1]
  case bsl a b z ps =>
    have h1 : evs s (ps.map fun q => q.2) = evs s' (ps.map fun q => q.2) := evs_congr hx
    simp only [eff, frzs_congr e, h1, newId_congr e]
  case mkf f cs =>
    have h1 : evs s cs = evs s' cs := evs_congr hx
    simp only [eff, frzs_congr e, h1]
  case mm mx l =>
    have h1 : evs s l = evs s' l := evs_congr hx
    simp only [eff, frzs_congr e, h1]
  case cl f l =>
    have h1 : evs s l = evs s' l := evs_congr hx
    simp only [eff, frzs_congr e, h1, ret1_congr e]
  case cld f l =>
    have h1 : evs s l = evs s' l := evs_congr hx
    simp only [eff, frzs_congr e, h1, ret1d_congr e]
  case cpyd k x y => simp only [eff, hx x (by simp [AOp.xs]), hx y (by simp [AOp.xs]), e, elems_congr e]
  case cpyo k x y => simp only [eff, hx x (by simp [AOp.xs]), hx y (by simp [AOp.xs]), e]
  case iad k x i => simp only [eff, hx x (by simp [AOp.xs]), hx i (by simp [AOp.xs]), e]
  case fad x n => simp only [eff, hx x (by simp [AOp.xs]), e]
  case ld1d x => simp only [eff, hx x (by simp [AOp.xs]), e]
  case ld1o x => simp only [eff, hx x (by simp [AOp.xs]), e, newId_congr e]
  case sto1o a x => simp only [eff, hx a (by simp [AOp.xs]), hx x (by simp [AOp.xs]), e]
  case sbn T e1 => simp only [eff, newId_congr e]
  case sbw f x y => simp only [eff, sbwE, hx x (by simp [AOp.xs]), hx y (by simp [AOp.xs]), e]
  case sbs f x => simp only [eff, sbsE, hx x (by simp [AOp.xs]), e]
  case stod a x => simp only [eff, hx a (by simp [AOp.xs]), hx x (by simp [AOp.xs]), e]
  case lend x => simp only [eff, hx x (by simp [AOp.xs]), e]
  case mvs x y => simp only [eff, hx x (by simp [AOp.xs]), hx y (by simp [AOp.xs]), e]
  case cv x l =>
    have h1 : evs s l = evs s' l := evs_congr fun y hy => hx y (by simp [AOp.xs, hy])
    simp only [eff, frzs_congr e, hx x (by simp [AOp.xs]), h1, ret1_congr e]
  case inv t f m x l =>
    have h1 : evs s l = evs s' l := evs_congr fun y hy => hx y (by simp [AOp.xs, hy])
    simp only [eff, frzs_congr e, hx x (by simp [AOp.xs]), h1, ret1_congr e]
  case slc k x lo hi mx =>
    have h1 := hx x (by simp [AOp.xs])
    have h2 : natOr s 0 lo = natOr s' 0 lo := natOr_congr fun y hy => hx y (by simp only [AOp.xs, List.mem_cons, List.mem_append]; exact .inr (.inl (.inl hy)))
    have h3 : ∀ n, natOr s n hi = natOr s' n hi := fun n => natOr_congr fun y hy => hx y (by simp only [AOp.xs, List.mem_cons, List.mem_append]; exact .inr (.inl (.inr hy)))
    have h4 : ∀ m, mx = some m → natOr s 0 (some m) = natOr s' 0 (some m) := fun m hm => natOr_congr fun y hy => hx y (by simp only [AOp.xs, List.mem_cons, List.mem_append]; exact .inr (.inr (by rw [hm]; exact hy)))
    simp only [eff, h1, h2, h3, svLen_congr e, frz_congr e, e]
    cases mx with
    | none => rfl
    | some m => simp only [h4 m rfl]
  case sls x lo hi =>
    have h1 := hx x (by simp [AOp.xs])
    have h2 : natOr s 0 lo = natOr s' 0 lo := natOr_congr fun y hy => hx y (by simp only [AOp.xs, List.mem_cons, List.mem_append]; exact .inr (.inl hy))
    have h3 : ∀ n, natOr s n hi = natOr s' n hi := fun n => natOr_congr fun y hy => hx y (by simp only [AOp.xs, List.mem_cons, List.mem_append]; exact .inr (.inr hy))
    simp only [eff, h1, h2, h3]
  case pick c a b => simp only [eff, hx c (by simp [AOp.xs]), hx a (by simp [AOp.xs]), hx b (by simp [AOp.xs])]
  case nl a b => simp only [eff, newId_congr e]
  case alloc a b c => simp only [eff, newId_congr e]
  case alcp a b c => simp only [eff, newId_congr e]
  case boxp a b x => simp only [eff, hx x (by simp [AOp.xs]), frz_congr e, newId_congr e]
  case sto k a x => simp only [eff, hx a (by simp [AOp.xs]), hx x (by simp [AOp.xs]), frz_congr e, e]
  case s2 o x y => simp only [eff, hx x (by simp [AOp.xs]), hx y (by simp [AOp.xs]), e]
  case eqst n ks x y => simp only [eff, hx x (by simp [AOp.xs]), hx y (by simp [AOp.xs])]
  case apps a b x y => simp only [eff, hx x (by simp [AOp.xs]), hx y (by simp [AOp.xs]), e, newId_congr e]
  case app a b c x y => simp only [eff, hx x (by simp [AOp.xs]), hx y (by simp [AOp.xs]), e, newId_congr e, elems_congr e]
  case cpy k x y => simp only [eff, hx x (by simp [AOp.xs]), hx y (by simp [AOp.xs]), e, elems_congr e]
  case ia k x i => simp only [eff, hx x (by simp [AOp.xs]), hx i (by simp [AOp.xs]), e]
  case aa k m x i => simp only [eff, hx x (by simp [AOp.xs]), hx i (by simp [AOp.xs]), e]
  case mks a b c z x y => simp only [eff, hx x (by simp [AOp.xs]), hx y (by simp [AOp.xs]), newId_congr e]
  case box a b x => simp only [eff, hx x (by simp [AOp.xs]), frz_congr e, newId_congr e]
  case ldk k x => simp only [eff, hx x (by simp [AOp.xs]), e]
  case s1 o x => simp only [eff, hx x (by simp [AOp.xs])]
  case mki t x => simp only [eff, hx x (by simp [AOp.xs]), frz_congr e]
  case fld1 x n => simp only [eff, hx x (by simp [AOp.xs])]
  case ixa k m x i => simp only [eff, hx x (by simp [AOp.xs]), hx i (by simp [AOp.xs])]
  case fldk x n m => simp only [eff, hx x (by simp [AOp.xs])]
  case fa x n => simp only [eff, hx x (by simp [AOp.xs]), e]
  case ext x n => simp only [eff, hx x (by simp [AOp.xs])]
  case mv x => simp only [eff, hx x (by simp [AOp.xs])]
  case iap k x i => simp only [eff, hx x (by simp [AOp.xs]), hx i (by simp [AOp.xs])]
  case ldp1 x => simp only [eff, hx x (by simp [AOp.xs])]
  case ldpk k x => simp only [eff, hx x (by simp [AOp.xs])]
  case mvp x => simp only [eff, hx x (by simp [AOp.xs]), frz_congr e]
  case ld1 x => simp only [eff, hx x (by simp [AOp.xs]), e]
  case nck x => simp only [eff, hx x (by simp [AOp.xs]), e]
  case len x => simp only [eff, hx x (by simp [AOp.xs]), svLen_congr e]
  case lens x => simp only [eff, hx x (by simp [AOp.xs])]
  case rng x => simp only [eff, hx x (by simp [AOp.xs]), newId_congr e]
  case nxt x => simp only [eff, hx x (by simp [AOp.xs]), e]
  case b2s x => simp only [eff, hx x (by simp [AOp.xs]), elems_congr e]
end
end Go.Proofs.Ytomnggbideepeaa.AM

end
section
/- Two of the small machine's operations that do not hang on one another, in either order. No condition. -/
namespace Go.Proofs.Ytomnggbideepeaa.AM
open Go Go.RowKit
set_option linter.unusedVariables false
set_option linter.unusedSimpArgs false

theorem Fz.two {a b : Option Ob} (h : Fz a b) : (∃ e k fz fz' l, a = some (.row e k fz l) ∧ b = some (.row e k fz' l)) ∨ a = b ∧ True := by
  cases a with
  | none => right; cases b with
    | none => exact ⟨rfl, trivial⟩
    | some y => simp [Fz] at h
  | some x =>
    cases x with
    | row e k fz l =>
      obtain ⟨fz', hb⟩ := h.row
      exact .inl ⟨e, k, fz, fz', l, rfl, hb⟩
    | _ => right; cases b with
      | none => simp [Fz] at h
      | some y => cases y <;> simp_all [Fz]

def FzV (h h' : List (Nat × Ob)) (v : SV) : Prop := ∀ d, v.id? = some d → Fz (get h d) (get h' d)

theorem frz_fz {h h' : List (Nat × Ob)} {v : SV} (hf : FzV h h' v) : frz h v = frz h' v := by
  cases v with
  | p x => rfl
  | xs k l => rfl
  | ms d off len => rcases (hf d rfl).two with ⟨e, k, fz, fz', l, h1, h2⟩ | ⟨h1, h2⟩ <;> simp only [frz, h1, h2]
  | mp d i j => rcases (hf d rfl).two with ⟨e, k, fz, fz', l, h1, h2⟩ | ⟨h1, h2⟩ <;> simp only [frz, h1, h2]
theorem elems_fz {h h' : List (Nat × Ob)} {v : SV} (hf : FzV h h' v) : elems h v = elems h' v := by
  cases v with
  | p x => cases x <;> rfl
  | xs k l => rfl
  | ms d off len => rcases (hf d rfl).two with ⟨e, k, fz, fz', l, h1, h2⟩ | ⟨h1, h2⟩ <;> simp only [elems, h1, h2]
  | mp d i j => rfl
theorem svLen_fz {h h' : List (Nat × Ob)} {v : SV} (hf : FzV h h' v) : svLen h v = svLen h' v := by
  cases v with
  | p x => cases x <;> rfl
  | xs k l => rfl
  | ms d off len => rcases (hf d rfl).two with ⟨e, k, fz, fz', l, h1, h2⟩ | ⟨h1, h2⟩ <;> simp only [svLen, h1, h2]
  | mp d i j => rfl
theorem frzs_fz {h h' : List (Nat × Ob)} : ∀ {vs : List SV}, (∀ v ∈ vs, FzV h h' v) → frzs h vs = frzs h' vs
  | [], _ => rfl
  | v :: vs, hf => by 
    have e : frzs h vs = frzs h' vs := frzs_fz fun u hu => hf u (by simp [hu])
    simp only [frzs, frz_fz (hf v (by simp)), e]
theorem newId_iff {h h' : List (Nat × Ob)} {d : Nat} (h1 : get h d = none ↔ get h' d = none) (h2 : get h (d + 100000) = none ↔ get h' (d + 100000) = none) : newId h d = newId h' d := by
  unfold newId
  cases e1 : get h d with
  | none => rw [h1.1 e1]
  | some x =>
    cases e1' : get h' d with
    | none => rw [h1.2 e1'] at e1; simp at e1
    | some x' =>
      dsimp only
      cases e2 : get h (d + 100000) with
      | none => rw [h2.1 e2]
      | some y =>
        cases e2' : get h' (d + 100000) with
        | none => rw [h2.2 e2'] at e2; simp at e2
        | some y' => rfl

section
variable {s s' : St}

theorem evs_mem : ∀ {l : List X} {vs : List SV}, evs s l = some vs → ∀ v ∈ vs, ∃ x ∈ l, x.ev s = some v
  | [], vs, h, v, hv => by simp only [evs, Option.some.injEq] at h; subst h; simp at hv
  | x :: l, vs, h, v, hv => by
    simp only [evs] at h
    cases h1 : x.ev s with
    | none => rw [h1] at h; simp at h
    | some u =>
      rw [h1] at h; dsimp only at h
      cases h2 : evs s l with
      | none => rw [h2] at h; simp at h
      | some us =>
        rw [h2] at h
        obtain rfl := Option.some.inj h
        rcases List.mem_cons.1 hv with rfl | hv
        · exact ⟨x, by simp, h1⟩
        · obtain ⟨y, hy, e⟩ := evs_mem h2 v hv
          exact ⟨y, by simp [hy], e⟩

/-- What an operation that writes nothing old does hangs on the cells of what it looks at. -/
theorem eff_soft (call : Call) (d : Nat) (o : AOp) (ho : o.hard = false) (hx : ∀ x ∈ o.xs, x.ev s = x.ev s') (hf : ∀ x ∈ o.xs, ∀ v, x.ev s = some v → FzV s.h s'.h v) (h1 : get s.h d = none ↔ get s'.h d = none) (h2 : get s.h (d + 100000) = none ↔ get s'.h (d + 100000) = none) : eff call s d o = eff call s' d o := by
  have hn := newId_iff h1 h2
  have hr : ∀ fr r, ret1 s.h fr d r = ret1 s'.h fr d r := fun fr r => by cases r <;> simp only [ret1, hn]
  have evsf : ∀ {l : List X}, (∀ x ∈ l, x ∈ o.xs) → evs s l = evs s' l ∧ ∀ vs, evs s' l = some vs → AM.frzs s.h vs = AM.frzs s'.h vs := by
    intro l hl
    have e := evs_congr (s := s) (s' := s') fun x hm => hx x (hl x hm)
    refine ⟨e, fun vs hvs => frzs_fz fun v hv => ?_⟩
    rw [← e] at hvs
    obtain ⟨x, hm, hxv⟩ := evs_mem hvs v hv
    exact hf x (hl x hm) v hxv
  have one : ∀ x ∈ o.xs, x.ev s = x.ev s' ∧ ∀ v, x.ev s' = some v → FzV s.h s'.h v := fun x hm => ⟨hx x hm, fun v hv => hf x hm v (by rw [hx x hm]; exact hv)⟩
  cases o
  case bld z ps =>
    obtain ⟨e1, e2⟩ := evsf (l := (AOp.bld z ps).xs) (fun x h => h)
    simp only [AOp.xs] at e1 e2
    simp only [eff, e1]
    cases hv : evs s' (ps.map fun q => q.2.2) with
    | none => rfl
    | some vs => simp only [e2 vs hv]
  case bsl a b z ps =>
    obtain ⟨e1, e2⟩ := evsf (l := (AOp.bsl a b z ps).xs) (fun x h => h)
    simp only [AOp.xs] at e1 e2
    simp only [eff, e1, hn]
    cases hv : evs s' (ps.map fun q => q.2) with
    | none => rfl
    | some vs => simp only [e2 vs hv]
  case mkf f cs =>
    obtain ⟨e1, e2⟩ := evsf (l := cs) (fun x h => h)
    simp only [eff, e1]
    cases hv : evs s' cs with
    | none => rfl
    | some vs => simp only [e2 vs hv]
  case mm mx l =>
    obtain ⟨e1, e2⟩ := evsf (l := l) (fun x h => h)
    simp only [eff, e1]
    cases hv : evs s' l with
    | none => rfl
    | some vs => simp only [e2 vs hv]
  case cld f l =>
    have hrd : ∀ fr r, ret1d s.h fr d r = ret1d s'.h fr d r := fun fr r => by cases r <;> simp only [ret1d, hn]
    obtain ⟨e1, e2⟩ := evsf (l := l) (fun x h => h)
    simp only [eff, e1, hrd]
    cases hv : evs s' l with
    | none => rfl
    | some vs => simp only [e2 vs hv]
  case fad x n =>
    obtain ⟨g1, g2⟩ := one x (by simp [AOp.xs])
    simp only [eff, g1]
    cases hv : x.ev s' with
    | none => rfl
    | some v =>
      cases v with
      | mp d' i j => rcases (g2 _ hv d' rfl).two with ⟨e, k, fz, fz', l, h1, h2⟩ | ⟨h1, h2⟩ <;> simp only [h1, h2]
      | _ => rfl
  case ld1d x =>
    obtain ⟨g1, g2⟩ := one x (by simp [AOp.xs])
    simp only [eff, g1]
    cases hv : x.ev s' with
    | none => rfl
    | some v =>
      cases v with
      | mp d' i j => rcases (g2 _ hv d' rfl).two with ⟨e, k, fz, fz', l, h1, h2⟩ | ⟨h1, h2⟩ <;> simp only [h1, h2]
      | _ => rfl
  case lend x =>
    obtain ⟨g1, g2⟩ := one x (by simp [AOp.xs])
    simp only [eff, g1]
    cases hv : x.ev s' with
    | none => rfl
    | some v =>
      cases v with
      | ms d' i j => rcases (g2 _ hv d' rfl).two with ⟨e, k, fz, fz', l, h1, h2⟩ | ⟨h1, h2⟩ <;> simp only [h1, h2]
      | _ => rfl
  case iad k x i =>
    obtain ⟨g1, g2⟩ := one x (by simp [AOp.xs])
    simp only [eff, g1, hx i (by simp [AOp.xs])]
    cases hv : x.ev s' with
    | none => rfl
    | some v =>
      cases i.ev s' with
      | none => cases v <;> rfl
      | some u =>
        cases v with
        | ms d' off len =>
          dsimp only
          cases natOf u with
          | none => rfl
          | some n => rcases (g2 _ hv d' rfl).two with ⟨e, k, fz, fz', l, h1, h2⟩ | ⟨h1, h2⟩ <;> simp only [h1, h2]
        | _ => rfl
  case cl f l =>
    obtain ⟨e1, e2⟩ := evsf (l := l) (fun x h => h)
    simp only [eff, e1, hr]
    cases hv : evs s' l with
    | none => rfl
    | some vs => simp only [e2 vs hv]
  case cv x l =>
    obtain ⟨e1, e2⟩ := evsf (l := l) (fun x h => List.mem_cons_of_mem _ h)
    simp only [eff, e1, hr, (one x (by simp [AOp.xs])).1]
    cases hv : evs s' l with
    | none =>
      cases x.ev s' with
      | none => rfl
      | some v => cases v with
        | p z => cases z <;> rfl
        | _ => rfl
    | some vs =>
      have e3 := e2 vs hv
      cases x.ev s' with
      | none => rfl
      | some v => cases v with
        | p z => cases z <;> first | rfl | (dsimp only; rw [e3])
        | _ => rfl
  case inv t f m x l =>
    obtain ⟨e1, e2⟩ := evsf (l := l) (fun x h => List.mem_cons_of_mem _ h)
    simp only [eff, e1, hr, (one x (by simp [AOp.xs])).1]
    cases hv : evs s' l with
    | none =>
      cases x.ev s' with
      | none => rfl
      | some v => cases v with
        | p z => cases z <;> rfl
        | _ => rfl
    | some vs =>
      have e3 := e2 vs hv
      cases x.ev s' with
      | none => rfl
      | some v => cases v with
        | p z => cases z <;> first | rfl | (dsimp only; rw [e3])
        | _ => rfl
  case slc k x lo hi mx =>
    obtain ⟨g1, g2⟩ := one x (by simp [AOp.xs])
    have q2 : natOr s 0 lo = natOr s' 0 lo := natOr_congr fun y hy => hx y (by simp only [AOp.xs, List.mem_cons, List.mem_append]; exact .inr (.inl (.inl hy)))
    have q3 : ∀ n, natOr s n hi = natOr s' n hi := fun n => natOr_congr fun y hy => hx y (by simp only [AOp.xs, List.mem_cons, List.mem_append]; exact .inr (.inl (.inr hy)))
    have q4 : ∀ m, mx = some m → natOr s 0 (some m) = natOr s' 0 (some m) := fun m hm => natOr_congr fun y hy => hx y (by simp only [AOp.xs, List.mem_cons, List.mem_append]; exact .inr (.inr (by rw [hm]; exact hy)))
    simp only [eff, g1, q2, q3]
    cases hv : x.ev s' with
    | none => rfl
    | some v =>
      have hvf := g2 v hv
      simp only [svLen_fz hvf, frz_fz hvf]
      cases mx with
      | some m => simp only [q4 m rfl]
      | none =>
        cases v with
        | p z => cases z <;> rfl
        | ms d' off len => rcases (hvf d' rfl).two with ⟨e, k, fz, fz', l, h1, h2⟩ | ⟨h1, h2⟩ <;> simp only [h1, h2]
        | _ => rfl
  case sls x lo hi =>
    have q2 : natOr s 0 lo = natOr s' 0 lo := natOr_congr fun y hy => hx y (by simp only [AOp.xs, List.mem_cons, List.mem_append]; exact .inr (.inl hy))
    have q3 : ∀ n, natOr s n hi = natOr s' n hi := fun n => natOr_congr fun y hy => hx y (by simp only [AOp.xs, List.mem_cons, List.mem_append]; exact .inr (.inr hy))
    simp only [eff, hx x (by simp [AOp.xs]), q2, q3]
  case pick c a b => simp only [eff, hx c (by simp [AOp.xs]), hx a (by simp [AOp.xs]), hx b (by simp [AOp.xs])]
  case nl a b => simp only [eff, hn]
  case alloc a b c => simp only [eff, hn]
  case alcp a b c => simp only [eff, hn]
  case boxp a b x =>
    obtain ⟨g1, g2⟩ := one x (by simp [AOp.xs])
    simp only [eff, g1, hn]
    cases hv : x.ev s' with
    | none => rfl
    | some v => simp only [frz_fz (g2 v hv)]
  case s2 o x y =>
    obtain ⟨g1, g2⟩ := one x (by simp [AOp.xs])
    simp only [eff, g1, hx y (by simp [AOp.xs])]
    cases hv : x.ev s' with
    | none => rfl
    | some v =>
      cases y.ev s' with
      | none => cases v <;> rfl
      | some u =>
        cases v with
        | mp d' i j =>
          cases u with
          | p z => cases z with
            | sc c => cases c with
              | pointer pa => cases pa with
                | none => rcases (g2 _ hv d' rfl).two with ⟨e, k, fz, fz', l, h1, h2⟩ | ⟨h1, h2⟩ <;> simp only [h1, h2]
                | some _ => rfl
              | _ => rfl
            | _ => rfl
          | _ => rfl
        | p z => cases u <;> rfl
        | _ => rfl
  case eqst n ks x y => simp only [eff, hx x (by simp [AOp.xs]), hx y (by simp [AOp.xs])]
  case ia k x i =>
    obtain ⟨g1, g2⟩ := one x (by simp [AOp.xs])
    simp only [eff, g1, hx i (by simp [AOp.xs])]
    cases hv : x.ev s' with
    | none => rfl
    | some v =>
      cases i.ev s' with
      | none => cases v <;> rfl
      | some u =>
        dsimp only
        cases natOf u with
        | none => rfl
        | some n =>
          cases v with
          | ms d' off len => rcases (g2 _ hv d' rfl).two with ⟨e, k, fz, fz', l, h1, h2⟩ | ⟨h1, h2⟩ <;> simp only [h1, h2]
          | p z => cases z <;> rfl
          | _ => rfl
  case aa k m x i =>
    obtain ⟨g1, g2⟩ := one x (by simp [AOp.xs])
    simp only [eff, g1, hx i (by simp [AOp.xs])]
    cases hv : x.ev s' with
    | none => rfl
    | some v =>
      cases i.ev s' with
      | none => cases v <;> rfl
      | some u =>
        cases v with
        | mp d' i' j =>
          dsimp only
          cases natOf u with
          | none => rfl
          | some n => rcases (g2 _ hv d' rfl).two with ⟨e, k, fz, fz', l, h1, h2⟩ | ⟨h1, h2⟩ <;> simp only [h1, h2]
        | _ => rfl
  case mks a b c z x y => simp only [eff, hx x (by simp [AOp.xs]), hx y (by simp [AOp.xs]), hn]
  case box a b x =>
    obtain ⟨g1, g2⟩ := one x (by simp [AOp.xs])
    simp only [eff, g1, hn]
    cases hv : x.ev s' with
    | none => rfl
    | some v => simp only [frz_fz (g2 v hv)]
  case ldk k x =>
    obtain ⟨g1, g2⟩ := one x (by simp [AOp.xs])
    simp only [eff, g1]
    cases hv : x.ev s' with
    | none => rfl
    | some v =>
      cases v with
      | mp d' i j => rcases (g2 _ hv d' rfl).two with ⟨e, k, fz, fz', l, h1, h2⟩ | ⟨h1, h2⟩ <;> simp only [h1, h2]
      | p z => cases z with
        | pt l => cases l <;> rfl
        | _ => rfl
      | _ => rfl
  case iap k x i => simp only [eff, hx x (by simp [AOp.xs]), hx i (by simp [AOp.xs])]
  case ldp1 x => simp only [eff, hx x (by simp [AOp.xs])]
  case ldpk k x => simp only [eff, hx x (by simp [AOp.xs])]
  case mvp x =>
    obtain ⟨g1, g2⟩ := one x (by simp [AOp.xs])
    simp only [eff, g1]
    cases hv : x.ev s' with
    | none => rfl
    | some v => simp only [frz_fz (g2 v hv)]
  case ld1 x =>
    obtain ⟨g1, g2⟩ := one x (by simp [AOp.xs])
    simp only [eff, g1]
    cases hv : x.ev s' with
    | none => rfl
    | some v =>
      cases v with
      | mp d' i j => rcases (g2 _ hv d' rfl).two with ⟨e, k, fz, fz', l, h1, h2⟩ | ⟨h1, h2⟩ <;> simp only [h1, h2]
      | p z => cases z with
        | pt l => cases l <;> rfl
        | _ => rfl
      | _ => rfl
  case s1 o x => simp only [eff, hx x (by simp [AOp.xs])]
  case mki t x =>
    obtain ⟨g1, g2⟩ := one x (by simp [AOp.xs])
    simp only [eff, g1]
    cases hv : x.ev s' with
    | none => rfl
    | some v => simp only [frz_fz (g2 v hv)]
  case fld1 x n => simp only [eff, hx x (by simp [AOp.xs])]
  case bldp z ps =>
    have h1 : evp s (ps.map fun q => q.2.2) = evp s' (ps.map fun q => q.2.2) := evp_congr hx
    simp only [eff, h1]
  case bslp a b z ps =>
    have h1 : evp s (ps.map fun q => q.2) = evp s' (ps.map fun q => q.2) := evp_congr hx
    simp only [eff, h1]
  case ixa k m x i => simp only [eff, hx x (by simp [AOp.xs]), hx i (by simp [AOp.xs])]
  case fldk x n m => simp only [eff, hx x (by simp [AOp.xs])]
  case fa x n =>
    obtain ⟨g1, g2⟩ := one x (by simp [AOp.xs])
    simp only [eff, g1]
    cases hv : x.ev s' with
    | none => rfl
    | some v =>
      cases v with
      | mp d' i j => rcases (g2 _ hv d' rfl).two with ⟨e, k, fz, fz', l, h1, h2⟩ | ⟨h1, h2⟩ <;> simp only [h1, h2]
      | p z => cases z with
        | pt l => cases l <;> rfl
        | _ => rfl
      | _ => rfl
  case ext x n => simp only [eff, hx x (by simp [AOp.xs])]
  case mv x => simp only [eff, hx x (by simp [AOp.xs])]
  case nck x =>
    obtain ⟨g1, g2⟩ := one x (by simp [AOp.xs])
    simp only [eff, g1]
    cases hv : x.ev s' with
    | none => rfl
    | some v =>
      cases v with
      | mp d' i j => rcases (g2 _ hv d' rfl).two with ⟨e, k, fz, fz', l, h1, h2⟩ | ⟨h1, h2⟩ <;> simp only [h1, h2]
      | p z => cases z with
        | pt l => cases l <;> rfl
        | _ => rfl
      | _ => rfl
  case len x =>
    obtain ⟨g1, g2⟩ := one x (by simp [AOp.xs])
    simp only [eff, g1]
    cases hv : x.ev s' with
    | none => rfl
    | some v => simp only [svLen_fz (g2 v hv)]
  case lens x => simp only [eff, hx x (by simp [AOp.xs])]
  case rng x => simp only [eff, hx x (by simp [AOp.xs]), hn]
  case b2s x =>
    obtain ⟨g1, g2⟩ := one x (by simp [AOp.xs])
    simp only [eff, g1]
    cases hv : x.ev s' with
    | none => rfl
    | some v => simp only [elems_fz (g2 v hv)]
  all_goals simp [AOp.hard] at ho

/-- An operation that looks at no object. -/
theorem eff_bare (call : Call) (d : Nat) (o : AOp) (ho : o.bare = true) (hx : ∀ x ∈ o.xs, x.ev s = x.ev s') : eff call s d o = eff call s' d o := by
  cases o
  case mv x => simp only [eff, hx x (by simp [AOp.xs])]
  case pick c a b => simp only [eff, hx c (by simp [AOp.xs]), hx a (by simp [AOp.xs]), hx b (by simp [AOp.xs])]
  case s1 o x => simp only [eff, hx x (by simp [AOp.xs])]
  case eqst n ks x y => simp only [eff, hx x (by simp [AOp.xs]), hx y (by simp [AOp.xs])]
  case fld1 x n => simp only [eff, hx x (by simp [AOp.xs])]
  case bldp z ps =>
    have h1 : evp s (ps.map fun q => q.2.2) = evp s' (ps.map fun q => q.2.2) := evp_congr hx
    simp only [eff, h1]
  case bslp a b z ps =>
    have h1 : evp s (ps.map fun q => q.2) = evp s' (ps.map fun q => q.2) := evp_congr hx
    simp only [eff, h1]
  case ixa k m x i => simp only [eff, hx x (by simp [AOp.xs]), hx i (by simp [AOp.xs])]
  case fldk x n m => simp only [eff, hx x (by simp [AOp.xs])]
  case iap k x i => simp only [eff, hx x (by simp [AOp.xs]), hx i (by simp [AOp.xs])]
  case ldp1 x => simp only [eff, hx x (by simp [AOp.xs])]
  case ldpk k x => simp only [eff, hx x (by simp [AOp.xs])]
  case lens x => simp only [eff, hx x (by simp [AOp.xs])]
  case ext x n => simp only [eff, hx x (by simp [AOp.xs])]
  case sls x lo hi =>
    have q2 : natOr s 0 lo = natOr s' 0 lo := natOr_congr fun y hy => hx y (by simp only [AOp.xs, List.mem_cons, List.mem_append]; exact .inr (.inl hy))
    have q3 : ∀ n, natOr s n hi = natOr s' n hi := fun n => natOr_congr fun y hy => hx y (by simp only [AOp.xs, List.mem_cons, List.mem_append]; exact .inr (.inr hy))
    simp only [eff, hx x (by simp [AOp.xs]), q2, q3]
  case s2 o x y =>
    simp only [eff, hx x (by simp [AOp.xs]), hx y (by simp [AOp.xs])]
    cases o <;> first | (simp [AOp.bare] at ho; done) | rfl
  all_goals simp [AOp.bare] at ho
theorem bare_hs (call : Call) (d : Nat) (o : AOp) (ho : o.bare = true) {e : Eff} (he : eff call s d o = some e) : e.hs = [] := by
  cases o <;> first | (simp [AOp.bare] at ho; done) | skip
  all_goals
    simp only [eff, uns] at he
    repeat' split at he
    all_goals first | (simp at he; done) | (simp only [Option.some.injEq] at he; subst he; rfl)
end
end Go.Proofs.Ytomnggbideepeaa.AM

end
section
/- Steps in another order. No condition. -/
namespace Go.Proofs.Ytomnggbideepeaa.AM
open Go Go.RowKit
set_option linter.unusedVariables false
set_option linter.unusedSimpArgs false

def Eqv (s s' : St) : Prop := (∀ n, get s.t n = get s'.t n) ∧ ∀ d, get s.h d = get s'.h d
theorem Eqv.refl (s : St) : Eqv s s := ⟨fun _ => rfl, fun _ => rfl⟩
theorem Eqv.symm {s s' : St} (h : Eqv s s') : Eqv s' s := ⟨fun n => (h.1 n).symm, fun n => (h.2 n).symm⟩
theorem Eqv.trans {a b c : St} (h : Eqv a b) (k : Eqv b c) : Eqv a c := ⟨fun n => (h.1 n).trans (k.1 n), fun n => (h.2 n).trans (k.2 n)⟩
theorem Eqv.ev {s s' : St} (h : Eqv s s') (x : X) : x.ev s = x.ev s' := by
  cases x with
  | t n => exact h.1 n
  | c v => rfl
  | f n => rfl

def WF (s : St) : Prop := ∀ n v d, get s.t n = some v → v.id? = some d → get s.h d ≠ none

/-- What a step does, ahead of doing it. -/
def pre (call : Call) (o : AOper) (s : St) : Option Eff :=
  match o.g with
  | none => eff call s (o.d.getD 0) o.o
  | some (g, w) => match get s.t g with
    | some v => match v with
      | .p (.sc (.bool b)) => if b = w then eff call s (o.d.getD 0) o.o else some ⟨undefS, []⟩
      | .p (.sc (.tuple _)) => some ⟨undefS, []⟩
      | _ => none
    | none => none
def app (o : AOper) (s : St) (e : Eff) : St := ⟨puts s.t o.d e.v, putAll s.h e.hs⟩

theorem step_pre (call : Call) (o : AOper) (s : St) : step call o s = (pre call o s).map (app o s) := by
  unfold step pre app
  cases o.g with
  | none => cases eff call s (o.d.getD 0) o.o <;> rfl
  | some q =>
    obtain ⟨g, w⟩ := q
    dsimp only
    cases get s.t g with
    | none => rfl
    | some v =>
      cases v with
      | p y =>
        cases y with
        | sc x =>
          cases x
          all_goals
            dsimp only
            first
            | rfl
            | (split
               · cases eff call s (o.d.getD 0) o.o <;> rfl
               · rfl)
        | _ => rfl
      | _ => rfl

def X.slot : X → Option Nat | .t n => some n | _ => none
def AOper.reads (o : AOper) : List Nat := o.o.xs.filterMap X.slot ++ (match o.g with | some (g, _) => [g] | none => [])

theorem ev_of_slots {s s' : St} {x : X} (h : ∀ n, x.slot = some n → get s.t n = get s'.t n) : x.ev s = x.ev s' := by
  cases x with
  | t n => exact h n rfl
  | c v => rfl
  | f n => rfl
theorem ev_id {s : St} (hw : WF s) {x : X} {v : SV} {d : Nat} (hv : x.ev s = some v) (hd : v.id? = some d) : get s.h d ≠ none := by
  cases x with
  | t n => exact hw n v d hv hd
  | c u => cases u <;> simp only [X.ev] at hv <;> first | (simp at hv; done) | (obtain rfl := Option.some.inj hv; simp [SV.id?] at hd)
  | f n => simp only [X.ev] at hv; obtain rfl := Option.some.inj hv; simp [SV.id?] at hd

def cand (d c : Nat) : Prop := c = d ∨ c = d + 100000
def HsOK (h : List (Nat × Ob)) (d : Nat) (hs : List (Nat × Ob)) : Prop :=
  ∀ q ∈ hs, (∃ e k fz l, get h q.1 = some (.row e k fz l) ∧ q.2 = .row e k true l) ∨ (get h q.1 = none ∧ cand d q.1)

theorem newId_cand {h : List (Nat × Ob)} {d id : Nat} (e : newId h d = some id) : get h id = none ∧ cand d id := by
  refine ⟨newId_none e, ?_⟩
  unfold newId at e
  split at e
  · split at e
    · simp at e; exact .inl e.symm
    · split at e
      · simp at e; exact .inr e.symm
      · simp at e
  · simp at e
theorem frz_hs {h : List (Nat × Ob)} {v : SV} {x : PV} {fr : List (Nat × Ob)} (he : frz h v = some (x, fr)) (d : Nat) : HsOK h d fr := by
  cases v with
  | p y => simp only [frz, Option.some.injEq, Prod.mk.injEq] at he; rw [← he.2]; intro q hq; simp at hq
  | xs k l => simp only [frz, Option.some.injEq, Prod.mk.injEq] at he; rw [← he.2]; intro q hq; simp at hq
  | ms d' off len =>
    simp only [frz] at he
    split at he
    · rename_i e k fz l hd
      split at he
      · simp only [Option.some.injEq, Prod.mk.injEq] at he
        rw [← he.2]
        intro q hq
        simp at hq
        subst hq
        exact .inl ⟨e, k, fz, l, hd, rfl⟩
      · simp at he
    · simp at he
  | mp d' i j =>
    simp only [frz] at he
    split at he
    · rename_i e k fz l hd
      split at he
      · split at he
        · simp only [Option.some.injEq, Prod.mk.injEq] at he
          rw [← he.2]
          intro q hq
          simp at hq
          subst hq
          exact .inl ⟨e, k, fz, l, hd, rfl⟩
        · simp at he
      · simp at he
    · simp at he
theorem HsOK.append {h : List (Nat × Ob)} {d : Nat} {a b : List (Nat × Ob)} (ha : HsOK h d a) (hb : HsOK h d b) : HsOK h d (a ++ b) := fun q hq => (List.mem_append.1 hq).elim (ha q) (hb q)
theorem HsOK.nil {h : List (Nat × Ob)} {d : Nat} : HsOK h d [] := fun q hq => by simp at hq
theorem HsOK.new {h : List (Nat × Ob)} {d id : Nat} (e : newId h d = some id) (o : Ob) : HsOK h d [(id, o)] := fun q hq => by
  simp at hq; subst hq; exact .inr (newId_cand e)
theorem frzs_hs {h : List (Nat × Ob)} (d : Nat) : ∀ {vs : List SV} {xs : List PV} {fr : List (Nat × Ob)}, frzs h vs = some (xs, fr) → HsOK h d fr
  | [], xs, fr, he => by simp only [frzs, Option.some.injEq, Prod.mk.injEq] at he; rw [← he.2]; exact .nil
  | v :: vs, xs, fr, he => by
    obtain ⟨x, f1, ys, f2, h1, h2, h3⟩ := frzs_cons he
    simp only [Prod.mk.injEq] at h3
    rw [h3.2]
    exact (frz_hs h1 d).append (frzs_hs d h2)
theorem ret1_hs {h fr : List (Nat × Ob)} {d : Nat} {r : Ret} {e : Eff} (hf : HsOK h d fr) (he : ret1 h fr d r = some e) : HsOK h d e.hs := by
  cases r with
  | sb k T e1 => simp [ret1] at he
  | val x => simp only [ret1, Option.some.injEq] at he; subst he; exact hf
  | own e' k l =>
    simp only [ret1] at he
    split at he
    · rename_i id hid
      simp only [Option.some.injEq] at he
      subst he
      exact hf.append (.new hid _)
    · simp at he
  | deep e' k l =>
    simp only [ret1] at he
    split at he
    · split at he
      · rename_i id hid
        simp only [Option.some.injEq] at he
        subst he
        exact hf.append (.new hid _)
      · simp at he
    · simp at he
theorem ret1d_hs {h fr : List (Nat × Ob)} {d : Nat} {r : Ret} {e : Eff} (hf : HsOK h d fr) (he : ret1d h fr d r = some e) : HsOK h d e.hs := by
  cases r with
  | sb k T e1 => simp [ret1d] at he
  | val x => simp [ret1d] at he
  | own e' k l => simp [ret1d] at he
  | deep e' k l =>
    simp only [ret1d] at he
    split at he
    · rename_i id hid
      simp only [Option.some.injEq] at he
      subst he
      exact hf.append (.new hid _)
    · simp at he

/-- What an operation that writes nothing old puts into memory. -/
theorem soft_hs {s : St} {call : Call} {d : Nat} {o : AOp} (ho : o.hard = false) {e : Eff} (he : eff call s d o = some e) : HsOK s.h d e.hs := by
  cases o <;> first | (simp [AOp.hard] at ho; done) | skip
  all_goals
    simp only [eff, uns] at he
    repeat' split at he
    all_goals
      first
      | (simp at he; done)
      | (simp only [Option.some.injEq] at he; subst he
         first
         | exact .nil
         | exact HsOK.new ‹newId _ _ = some _› _
         | exact frz_hs ‹frz _ _ = some _› d
         | exact frzs_hs d ‹frzs _ _ = some _›
         | exact (frz_hs ‹frz _ _ = some _› d).append (HsOK.new ‹newId _ _ = some _› _)
         | exact (frzs_hs d ‹frzs _ _ = some _›).append (HsOK.new ‹newId _ _ = some _› _))
      | exact ret1_hs (frzs_hs d ‹frzs _ _ = some _›) he
      | exact ret1d_hs (frzs_hs d ‹frzs _ _ = some _›) he

theorem get_putAll (h : List (Nat × Ob)) : ∀ (l : List (Nat × Ob)) (d : Nat), get (putAll h l) d = (match get l.reverse d with | some o => some o | none => get h d)
  | [], d => by simp [putAll, get]
  | (c, o) :: l, d => by
    have hap : ∀ (a b : List (Nat × Ob)) (d : Nat), get (a ++ b) d = (match get a d with | some o => some o | none => get b d) := by
      intro a
      induction a with
      | nil => intro b d; simp [get]
      | cons q a ih =>
        intro b d
        obtain ⟨q1, q2⟩ := q
        simp only [List.cons_append, get]
        split
        · rfl
        · exact ih b d
    rw [putAll, get_putAll _ l d, List.reverse_cons, hap]
    cases get l.reverse d with
    | some x => rfl
    | none =>
      simp only [get]
      rw [get_put]
      split <;> rfl

theorem putAll_keeps {h : List (Nat × Ob)} (l : List (Nat × Ob)) {d : Nat} (hd : get h d ≠ none) : get (putAll h l) d ≠ none := by
  rw [get_putAll]
  split
  · simp
  · exact hd
theorem get_rev_mem {l : List (Nat × Ob)} {d : Nat} {o : Ob} (h : get l.reverse d = some o) : (d, o) ∈ l := by simpa using get_mem h
theorem putAll_has {h l : List (Nat × Ob)} {d : Nat} {o : Ob} (hm : (d, o) ∈ l) : get (putAll h l) d ≠ none := by
  rw [get_putAll]
  split
  · simp
  · rename_i hn
    have : ∀ (l : List (Nat × Ob)), (d, o) ∈ l → get l d ≠ none := by
      intro l
      induction l with
      | nil => intro h; simp at h
      | cons q l ih =>
        intro h
        obtain ⟨q1, q2⟩ := q
        simp only [get]
        split
        · simp
        · rename_i hne
          rcases List.mem_cons.1 h with h | h
          · simp at h; exact absurd h.1.symm hne
          · exact ih h
    exact absurd hn (this _ (by simpa using hm))

theorem soft_fz {h : List (Nat × Ob)} {d : Nat} {hs : List (Nat × Ob)} (hh : HsOK h d hs) {c : Nat} (hc : get h c ≠ none) : Fz (get h c) (get (putAll h hs) c) := by
  rw [get_putAll]
  split
  · rename_i o ho
    rcases hh _ (get_rev_mem ho) with ⟨e, k, fz, l, h1, h2⟩ | ⟨h1, _⟩
    · dsimp only at h1 h2; rw [h1, h2]; exact ⟨rfl, rfl, rfl⟩
    · exact absurd h1 hc
  · exact Fz.refl _
theorem soft_none {h : List (Nat × Ob)} {d : Nat} {hs : List (Nat × Ob)} (hh : HsOK h d hs) {c : Nat} (hc : ¬ cand d c) : get h c = none ↔ get (putAll h hs) c = none := by
  constructor
  · intro hn
    rw [get_putAll]
    split
    · rename_i o ho
      rcases hh _ (get_rev_mem ho) with ⟨e, k, fz, l, h1, h2⟩ | ⟨_, h1⟩
      · rw [h1] at hn; simp at hn
      · exact absurd h1 hc
    · exact hn
  · intro hn
    cases hg : get h c with
    | none => rfl
    | some x => exact absurd hn (putAll_keeps hs (by rw [hg]; simp))

/-- What an operation gives points to what is there. -/
theorem eff_id {s : St} (hw : WF s) {call : Call} {d : Nat} {o : AOp} {e : Eff} (he : eff call s d o = some e) {d' : Nat} (hd : e.v.id? = some d') : get (putAll s.h e.hs) d' ≠ none := by
  have r0 : ∀ fr id o n, e = ⟨.ms id 0 n, fr ++ [(id, o)]⟩ → get (putAll s.h e.hs) d' ≠ none := by
    rintro fr id o n rfl
    simp [SV.id?] at hd
    subst hd
    exact putAll_has (List.mem_append_right _ (List.mem_singleton_self _))
  have r1 : ∀ fr r, ret1 s.h fr d r = some e → get (putAll s.h e.hs) d' ≠ none := by
    intro fr r he
    cases r with
    | sb k T e1 => simp [ret1] at he
    | val x => simp only [ret1, Option.some.injEq] at he; subst he; simp [SV.id?] at hd
    | own e' k l =>
      simp only [ret1] at he
      split at he
      · exact r0 _ _ _ _ (Option.some.inj he).symm
      · simp at he
    | deep e' k l =>
      simp only [ret1] at he
      split at he
      · split at he
        · exact r0 _ _ _ _ (Option.some.inj he).symm
        · simp at he
      · simp at he
  have r2 : ∀ fr r, ret1d s.h fr d r = some e → get (putAll s.h e.hs) d' ≠ none := by
    intro fr r he
    cases r with
    | sb k T e1 => simp [ret1d] at he
    | val x => simp [ret1d] at he
    | own e' k l => simp [ret1d] at he
    | deep e' k l =>
      simp only [ret1d] at he
      split at he
      · exact r0 _ _ _ _ (Option.some.inj he).symm
      · simp at he
  cases o
  case mvs x y =>
    simp only [eff] at he
    split at he
    · rename_i v d1 off len hv hy
      split at he
      · split at he
        · simp only [Option.some.injEq] at he
          subst he
          exact putAll_keeps _ (ev_id hw hv hd)
        · simp at he
      · simp at he
    · simp at he
  case sbw f x y =>
    simp only [eff, sbwE] at he
    repeat' split at he
    all_goals first | (simp at he; done) | (simp only [Option.some.injEq] at he; subst he; simp [SV.id?] at hd; done)
  case sbs f x =>
    simp only [eff, sbsE] at he
    repeat' split at he
    all_goals first | (simp at he; done) | (simp only [Option.some.injEq] at he; subst he; simp [SV.id?] at hd; done)
  all_goals
    simp only [eff, uns] at he
    repeat' split at he
    all_goals
      first
      | (simp at he; done)
      | (simp only [Option.some.injEq] at he; subst he
         first
         | (simp [SV.id?, undefS] at hd; done)
         | (simp only [SV.id?, Option.some.injEq] at hd; subst hd
            first
            | exact putAll_has (List.mem_append_right _ (List.mem_singleton_self _))
            | exact putAll_has (List.mem_singleton_self _)
            | exact putAll_has (List.mem_cons_of_mem _ (List.mem_singleton_self _))
            | exact ev_id hw ‹X.ev s _ = some (.mp _ _ _)› rfl
            | exact ev_id hw ‹X.ev s _ = some (.ms _ _ _)› rfl
            | exact ev_id hw ‹X.ev s _ = some _› rfl)
         | exact ev_id hw ‹X.ev s _ = some _› hd
         | (split at hd <;> exact ev_id hw ‹X.ev s _ = some _› hd))
      | exact r1 _ _ he
      | exact r2 _ _ he
end Go.Proofs.Ytomnggbideepeaa.AM

end
section
/- What is looked at, ahead of a proof: a function's code against its text for the small machine. No condition. -/
namespace Go.Proofs.Ytomnggbideepeaa.AM
open Go Go.RowKit
set_option linter.unusedVariables false
set_option linter.unusedSimpArgs false

/-- May it make an object? -/
def AOp.fresh : AOp → Bool
  | .box .. | .boxp .. | .alcp .. | .nl .. | .alloc .. | .bsl .. | .mks .. | .cl .. | .cv .. | .inv .. | .rng .. | .cld .. => true
  | _ => false
def apartS (a i : AOper) : Bool := match a.d with
  | some d => !(i.reads.contains d) && (match i.d with | some e => e != d | none => true)
  | none => true
def apartH (a i : AOper) : Bool := a.o.bare || i.o.bare || (!a.o.hard && !i.o.hard && (!(a.o.fresh && i.o.fresh) || (a.d.getD 0 != i.d.getD 0 && decide (a.d.getD 0 < 100000) && decide (i.d.getD 0 < 100000))))
def indep (a i : AOper) : Bool := apartS a i && apartS i a && apartH a i

/-- Bits of what binds an operation, itself and further on. -/
def befs (md : Region.Mode) : List Oper → Nat → List Nat → List Nat
  | [], _, acc => acc
  | o :: os, n, acc => befs md os (n + 1) (acc ++ [o.after.toList.foldl (fun m e => if Region.binds md e then m ||| (1 <<< e.on) ||| acc.getD e.on 0 else m) 0])
def backs (md : Region.Mode) : List Oper → Nat → Bool
  | [], _ => true
  | o :: os, n => (o.after.toList.all fun e => !Region.binds md e || decide (e.on < n)) && backs md os (n + 1)
def okPair (m : Nat) (i : AOper) : List AOper → Nat → Bool
  | [], _ => true
  | a :: as, j => (m.testBit j || indep a i) && okPair m i as (j + 1)
def okPairs : List Nat → List AOper → List AOper → Bool
  | m :: ms, seen, i :: is => okPair m i seen 0 && okPairs ms (seen ++ [i]) is
  | _, _, _ => true
def okOrder (ops : List Oper) (as : List AOper) : Bool := backs .any ops 0 && okPairs (befs .any ops 0 []) [] as

def okOps (P : Program) (N : Nat) (ops : Array Oper) : List Oper → List AOper → Bool
  | [], [] => true
  | o :: os, a :: as => okOper P N ops o a && okOps P N ops os as
  | _, _ => false
def okRegion (P : Program) (N : Nat) (ops : Array Oper) (as : List AOper) (draw : Bool) : Bool :=
  okOps P N ops ops.toList as && (!draw || okOrder ops.toList as)

def okCode (P : Program) (N : Nat) : Go.Code → ACode → Bool
  | .scope x, y => okCode P N x y
  | .skip, .skip => true
  | .label _, .skip => true
  | .region _ ops draw, .reg as _ => okRegion P N ops as draw
  | .region _ ops draw, .regf as _ _ => okRegion P N ops as draw
  | .seq x y, .seq x' y' => okCode P N x x' && okCode P N y y'
  | .cond c x y, .ite c' x' y' => okX c c' && okCode P N x x' && okCode P N y y'
  | .block i x, .blk j x' => i == j && okCode P N x x'
  | .loop x, .loop _ x' => okCode P N x x'
  | .exit i, .ex j => i == j
  | .ret, .ret => true
  | _, _ => false
def okRes (P : Program) : ResultVar → ARes → Bool
  | .tmp n, .t m => n == m
  | .tmp n, .td m => n == m
  | .cell n t, .c1 m => n == m && decide (aggT P t = some false)
  | .cell n t, .ck m k => n == m && decide (aggT P t = some true) && P.cellsOf t == k && decide (0 < k)
  | _, _ => false
def okRess (P : Program) : List ResultVar → List ARes → Bool
  | [], [] => true
  | x :: xs, y :: ys => okRes P x y && okRess P xs ys
  | _, _ => false
def okFunc (P : Program) (f : FuncId) (fn : AFunc) : Bool := match P.funcs[f]? with
  | some g => (match g.body with
    | some c => okCode P g.ntmps c fn.body
    | none => false) && decide (fn.np ≤ g.ntmps) && okRess P g.results.toList fn.rs && !(g.name == "runtime.NumGoroutine") && fn.n == g.ntmps
  | none => false
end Go.Proofs.Ytomnggbideepeaa.AM

end
section
/- Two steps in the other order. No condition. -/
namespace Go.Proofs.Ytomnggbideepeaa.AM
open Go Go.RowKit
set_option linter.unusedVariables false
set_option linter.unusedSimpArgs false

section
variable {s s' : St} {call : Call}

theorem pre_eff {o : AOper} {e : Eff} (h : pre call o s = some e) : eff call s (o.d.getD 0) o.o = some e ∨ e = ⟨undefS, []⟩ := by
  unfold pre at h
  cases hg : o.g with
  | none => rw [hg] at h; exact .inl h
  | some q =>
    obtain ⟨g, w⟩ := q
    rw [hg] at h
    dsimp only at h
    cases hv : get s.t g with
    | none => rw [hv] at h; simp at h
    | some v =>
      rw [hv] at h
      dsimp only at h
      split at h
      · split at h
        · exact .inl h
        · exact .inr (Option.some.inj h).symm
      · exact .inr (Option.some.inj h).symm
      · simp at h

/-- What comes ahead of a step is the same where what it looks at is. -/
theorem pre_same {o : AOper} (hr : ∀ n ∈ o.reads, get s.t n = get s'.t n) (he : eff call s (o.d.getD 0) o.o = eff call s' (o.d.getD 0) o.o) : pre call o s = pre call o s' := by
  unfold pre
  cases hg : o.g with
  | none => exact he
  | some q =>
    obtain ⟨g, w⟩ := q
    dsimp only
    rw [hr g (by simp [AOper.reads, hg]), he]

theorem xs_same {o : AOper} (hr : ∀ n ∈ o.reads, get s.t n = get s'.t n) : ∀ x ∈ o.o.xs, x.ev s = x.ev s' := fun x hx =>
  ev_of_slots fun n hn => hr n (by
    unfold AOper.reads
    exact List.mem_append_left _ (List.mem_filterMap.2 ⟨x, hx, hn⟩))

theorem get_puts_ne {t : List (Nat × SV)} {d : Option Nat} {v : SV} {n : Nat} (h : ∀ e, d = some e → e ≠ n) : get (puts t d v) n = get t n := by
  cases d with
  | none => rfl
  | some e => exact get_put_ne _ (h e rfl) _

theorem reads_keep {a i : AOper} (h : apartS a i = true) {t : List (Nat × SV)} {v : SV} : ∀ n ∈ i.reads, get (puts t a.d v) n = get t n := fun n hn =>
  get_puts_ne fun e he => by
    simp only [apartS, he, Bool.and_eq_true, Bool.not_eq_true'] at h
    rintro rfl
    simp [hn] at h

/-! ### operations that make nothing -/
def HsF (h : List (Nat × Ob)) (hs : List (Nat × Ob)) : Prop := ∀ q ∈ hs, ∃ e k fz l, get h q.1 = some (.row e k fz l) ∧ q.2 = .row e k true l
theorem HsF.nil {h : List (Nat × Ob)} : HsF h [] := fun q hq => by simp at hq
theorem HsOK.toF {h : List (Nat × Ob)} {hs : List (Nat × Ob)} (h1 : HsOK h 0 hs) (h2 : HsOK h 300000 hs) : HsF h hs := fun q hq => by
  rcases h1 q hq with r | ⟨_, r⟩
  · exact r
  · rcases h2 q hq with r' | ⟨_, r'⟩
    · exact r'
    · simp only [cand] at r r'; omega
theorem frz_hsF {h : List (Nat × Ob)} {v : SV} {x : PV} {fr : List (Nat × Ob)} (he : frz h v = some (x, fr)) : HsF h fr := (frz_hs he 0).toF (frz_hs he 300000)
theorem frzs_hsF {h : List (Nat × Ob)} {vs : List SV} {xs : List PV} {fr : List (Nat × Ob)} (he : frzs h vs = some (xs, fr)) : HsF h fr := (frzs_hs 0 he).toF (frzs_hs 300000 he)

theorem unfresh_hs {d : Nat} {o : AOp} (ho : o.hard = false) (hf : o.fresh = false) {e : Eff} (he : eff call s d o = some e) : HsF s.h e.hs := by
  cases o <;> first | (simp [AOp.hard] at ho; done) | (simp [AOp.fresh] at hf; done) | skip
  all_goals
    simp only [eff, uns] at he
    repeat' split at he
    all_goals
      first
      | (simp at he; done)
      | (simp only [Option.some.injEq] at he; subst he
         first
         | exact .nil
         | exact frz_hsF ‹frz _ _ = some _›
         | exact frzs_hsF ‹frzs _ _ = some _›)
theorem unfresh_d {d d' : Nat} {o : AOp} (ho : o.hard = false) (hf : o.fresh = false) : eff call s d o = eff call s d' o := by
  cases o <;> first | (simp [AOp.hard] at ho; done) | (simp [AOp.fresh] at hf; done) | rfl

/-- A number that no object has. -/
theorem free_id (h h' : List (Nat × Ob)) : ∃ d, get h d = none ∧ get h (d + 100000) = none ∧ get h' d = none ∧ get h' (d + 100000) = none := by
  have big : ∀ (h : List (Nat × Ob)), ∃ n, ∀ d, n ≤ d → get h d = none := by
    intro h
    induction h with
    | nil => exact ⟨0, fun d _ => rfl⟩
    | cons q h ih =>
      obtain ⟨n, hn⟩ := ih
      obtain ⟨c, o⟩ := q
      refine ⟨max n (c + 1), fun d hd => ?_⟩
      simp only [get]
      rw [if_neg (by omega)]
      exact hn d (by omega)
  obtain ⟨n, hn⟩ := big h
  obtain ⟨m, hm⟩ := big h'
  exact ⟨max n m, hn _ (by omega), hn _ (by omega), hm _ (by omega), hm _ (by omega)⟩
theorem unfresh_soft {d : Nat} {o : AOp} (ho : o.hard = false) (hf : o.fresh = false) (hx : ∀ x ∈ o.xs, x.ev s = x.ev s') (hz : ∀ x ∈ o.xs, ∀ v, x.ev s = some v → FzV s.h s'.h v) : eff call s d o = eff call s' d o := by
  obtain ⟨c, h1, h2, h3, h4⟩ := free_id s.h s'.h
  rw [unfresh_d ho hf (d' := c), unfresh_d (s := s') ho hf (d' := c)]
  exact eff_soft call c o ho hx hz ⟨fun _ => h3, fun _ => h1⟩ ⟨fun _ => h4, fun _ => h2⟩

theorem HsF.ok {h hs : List (Nat × Ob)} (hh : HsF h hs) (d : Nat) : HsOK h d hs := fun q hq => .inl (hh q hq)
theorem HsF.none {h hs : List (Nat × Ob)} (hh : HsF h hs) {c : Nat} : get h c = none ↔ get (putAll h hs) c = none := by
  constructor
  · intro hn
    rw [get_putAll]
    split
    · rename_i o ho
      obtain ⟨e, k, fz, l, h1, _⟩ := hh _ (get_rev_mem ho)
      rw [h1] at hn; simp at hn
    · exact hn
  · intro hn
    cases hg : get h c with
    | none => rfl
    | some x => exact absurd hn (putAll_keeps hs (by rw [hg]; simp))

theorem pre_hs {o : AOper} (ho : o.o.hard = false) {e : Eff} (h : pre call o s = some e) : HsOK s.h (o.d.getD 0) e.hs := by
  rcases pre_eff h with h | rfl
  · exact soft_hs ho h
  · exact .nil
theorem pre_hsF {o : AOper} (ho : o.o.hard = false) (hf : o.o.fresh = false) {e : Eff} (h : pre call o s = some e) : HsF s.h e.hs := by
  rcases pre_eff h with h | rfl
  · exact unfresh_hs ho hf h
  · exact .nil
theorem pre_bare {o : AOper} (ho : o.o.bare = true) {e : Eff} (h : pre call o s = some e) : e.hs = [] := by
  rcases pre_eff h with h | rfl
  · exact bare_hs call _ _ ho h
  · rfl

/-- What comes ahead of a step, behind one that is apart from it. -/
theorem pre_keep (hw : WF s) {a i : AOper} (hs : apartS a i = true) (hh : apartH a i = true) {ea : Eff} (ha : pre call a s = some ea) : pre call i (app a s ea) = pre call i s := by
  have hr : ∀ n ∈ i.reads, get (app a s ea).t n = get s.t n := reads_keep hs
  refine pre_same hr ?_
  have hx := xs_same hr
  by_cases hi : i.o.bare = true
  · exact eff_bare call _ _ hi hx
  by_cases hb : a.o.bare = true
  · refine eff_congr call _ _ hx fun d => ?_
    simp only [app, pre_bare hb ha, putAll]
  · simp only [apartH, hb, hi, Bool.false_or, Bool.and_eq_true, Bool.not_eq_true', Bool.or_eq_true, Bool.and_eq_false_iff, bne_iff_ne, ne_eq, decide_eq_true_eq] at hh
    obtain ⟨⟨h1, h2⟩, h3⟩ := hh
    have hok := pre_hs h1 ha
    have fz : ∀ x ∈ i.o.xs, ∀ v, x.ev s = some v → FzV s.h (app a s ea).h v := fun x hx' v hv d hd => soft_fz hok (ev_id hw hv hd)
    have hx' : ∀ x ∈ i.o.xs, x.ev s = x.ev (app a s ea) := fun x h => (hx x h).symm
    by_cases f1 : i.o.fresh = true
    · by_cases f2 : a.o.fresh = true
      · rcases h3 with h3 | h3
        · rcases h3 with h3 | h3
          · rw [h3] at f2; simp at f2
          · rw [h3] at f1; simp at f1
        · obtain ⟨⟨h3, h4⟩, h5⟩ := h3
          exact (eff_soft call _ _ h2 hx' fz (soft_none hok (by simp only [cand]; omega)) (soft_none hok (by simp only [cand]; omega))).symm
      · have hF := pre_hsF h1 (by simpa using f2) ha
        exact (eff_soft call _ _ h2 hx' fz hF.none hF.none).symm
    · exact (unfresh_soft h2 (by simpa using f1) hx' fz).symm

theorem apartH_symm {a i : AOper} (h : apartH a i = true) : apartH i a = true := by
  simp only [apartH, Bool.or_eq_true, Bool.and_eq_true, Bool.not_eq_true', Bool.and_eq_false_iff, bne_iff_ne, ne_eq, decide_eq_true_eq] at h ⊢
  rcases h with (h | h) | ⟨⟨h1, h2⟩, h3⟩
  · exact .inl (.inr h)
  · exact .inl (.inl h)
  · refine .inr ⟨⟨h2, h1⟩, ?_⟩
    rcases h3 with h3 | ⟨⟨h3, h4⟩, h5⟩
    · exact .inl h3.symm
    · exact .inr ⟨⟨fun e => h3 e.symm, h5⟩, h4⟩

/-- What both put into memory does not clash. -/
theorem hs_comm {a i : AOper} (hh : apartH a i = true) {ea ei : Eff} (ha : pre call a s = some ea) (hi : pre call i s = some ei) (d : Nat) :
    get (putAll (putAll s.h ea.hs) ei.hs) d = get (putAll (putAll s.h ei.hs) ea.hs) d := by
  have key : ∀ o1 o2, get ei.hs.reverse d = some o1 → get ea.hs.reverse d = some o2 → o1 = o2 := by
    intro o1 o2 h1 h2
    by_cases hb : a.o.bare = true
    · rw [pre_bare hb ha] at h2; simp [get] at h2
    by_cases hc : i.o.bare = true
    · rw [pre_bare hc hi] at h1; simp [get] at h1
    simp only [apartH, hb, hc, Bool.false_or, Bool.and_eq_true, Bool.not_eq_true', Bool.or_eq_true, Bool.and_eq_false_iff, bne_iff_ne, ne_eq, decide_eq_true_eq] at hh
    obtain ⟨⟨q1, q2⟩, q3⟩ := hh
    have m1 := get_rev_mem h1
    have m2 := get_rev_mem h2
    rcases pre_hs q2 hi _ m1 with ⟨e, k, fz, l, g1, g2⟩ | ⟨g1, g2⟩
    · rcases pre_hs q1 ha _ m2 with ⟨e', k', fz', l', g1', g2'⟩ | ⟨g1', g2'⟩
      · dsimp only at g1 g2 g1' g2'
        rw [g1] at g1'
        simp only [Option.some.injEq, Ob.row.injEq] at g1'
        rw [g2, g2', g1'.1, g1'.2.1, g1'.2.2.2]
      · dsimp only at g1 g1'; rw [g1] at g1'; simp at g1'
    · rcases pre_hs q1 ha _ m2 with ⟨e', k', fz', l', g1', g2'⟩ | ⟨g1', g2'⟩
      · dsimp only at g1 g1'; rw [g1] at g1'; simp at g1'
      · exfalso
        dsimp only at g1 g2 g1' g2'
        rcases q3 with (q3 | q3) | ⟨⟨q3, q4⟩, q5⟩
        · obtain ⟨_, _, _, _, r, _⟩ := pre_hsF q1 q3 ha _ m2
          dsimp only at r; rw [g1] at r; simp at r
        · obtain ⟨_, _, _, _, r, _⟩ := pre_hsF q2 q3 hi _ m1
          dsimp only at r; rw [g1] at r; simp at r
        · simp only [cand] at g2 g2'; omega
  rw [get_putAll, get_putAll, get_putAll, get_putAll]
  cases h1 : get ei.hs.reverse d with
  | none => cases h2 : get ea.hs.reverse d <;> rfl
  | some o1 => cases h2 : get ea.hs.reverse d with
    | none => rfl
    | some o2 => rw [key o1 o2 h1 h2]

theorem ts_comm {a i : AOper} (h : apartS a i = true) (v u : SV) (n : Nat) : get (puts (puts s.t a.d v) i.d u) n = get (puts (puts s.t i.d u) a.d v) n := by
  cases ha : a.d with
  | none => rfl
  | some d =>
    cases hi : i.d with
    | none => rfl
    | some e =>
      have hne : e ≠ d := by simp only [apartS, ha, hi, Bool.and_eq_true, bne_iff_ne] at h; exact h.2
      simp only [puts, get_put]
      by_cases h1 : d = n
      · subst h1; simp [hne]
      · simp [h1]

/-- Two steps that are apart, in the other order. -/
theorem swap (hw : WF s) {a i : AOper} (hin : indep a i = true) {s1 s2 : St} (h1 : step call a s = some s1) (h2 : step call i s1 = some s2) :
    ∃ s1' s2', step call i s = some s1' ∧ step call a s1' = some s2' ∧ Eqv s2 s2' := by
  simp only [indep, Bool.and_eq_true] at hin
  obtain ⟨⟨ha, hi⟩, hh⟩ := hin
  rw [step_pre] at h1 h2
  cases pa : pre call a s with
  | none => rw [pa] at h1; simp at h1
  | some ea =>
    rw [pa] at h1
    simp only [Option.map_some, Option.some.injEq] at h1
    subst h1
    rw [pre_keep hw ha hh pa] at h2
    cases pi : pre call i s with
    | none => rw [pi] at h2; simp at h2
    | some ei =>
      rw [pi] at h2
      simp only [Option.map_some, Option.some.injEq] at h2
      subst h2
      refine ⟨app i s ei, app a (app i s ei) ea, by rw [step_pre, pi]; rfl, ?_, ?_⟩
      · rw [step_pre, pre_keep hw hi (apartH_symm hh) pi, pa]; rfl
      · exact ⟨fun n => ts_comm ha ea.v ei.v n, fun d => hs_comm hh pa pi d⟩
end
end Go.Proofs.Ytomnggbideepeaa.AM

end
