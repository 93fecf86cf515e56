/- The small machine's steps, and the putting in order of its state, against Go's. No condition. -/
import Derived.Test.YtihgpnfkadldeaaAM15
namespace Go.Proofs.Ytihgpnfkadldeaa.AM
open Go Go.RowKit
set_option linter.unusedVariables false
set_option linter.unusedSimpArgs false

def okOper (P : Program) (N : Nat) (ops : Array Oper) (o : Oper) (ao : AOper) : Bool :=
  decide (ao.d = o.dst) && (match ao.d with | some d => decide (d < N) | none => true) &&
  (match o.guard, ao.g with
    | none, none => true
    | some (j, b), some (g, b') => b == b' && decide ((ops[j]?).bind (·.dst) = some g)
    | _, _ => false) && (okA P o.op ao.o || okCall P o.op ao.o)

section
variable {P : Program} {base : Nat} {w0 : World} {lm0 : Nat → Nat} {N : Nat} {g : Gs} {a : Act} {w : World} {s : St} {o : Oper}

theorem Sim.puts (S : Sim base w0 lm0 N g a w s) {ao : AOper} {dst : Option Tmp} {v : SV} {u : Value} (hd : ao.d = dst) (hN : (match ao.d with | some d => decide (d < N) | none => true) = true) (hr : SRep w g (get s.h) v u) : Sim base w0 lm0 N g (a.put dst u) w ⟨AM.puts s.t ao.d v, s.h⟩ := by
  subst hd
  cases hq : ao.d with
  | none => exact S
  | some d =>
    rw [hq] at hN
    exact S.put (by simpa using hN) hr

theorem step_sound (S : Sim base w0 lm0 N g a w s) {ops : Array Oper} {ao : AOper} {call : Call} (hG : Good P call) {i : Nat} (hi : ops[i]? = some o) (hok : okOper P N ops o ao = true) {s' : St} (hs : step call ao s = some s') {K : Act → World → Prop} {Q : Exit → Act → World → Prop}
    (hK : ∀ g' a' w', Sim base w0 lm0 N g' a' w' s' → K a' w') : wpOp P ops Q i K a w := by
  simp only [okOper, Bool.and_eq_true, decide_eq_true_eq] at hok
  obtain ⟨⟨⟨hd, hN⟩, hgd⟩, hop⟩ := hok
  have run : ∀ {e : Eff}, eff call s (ao.d.getD 0) ao.o = some e → s' = ⟨AM.puts s.t ao.d e.v, putAll s.h e.hs⟩ → o.wp P a w K Q := by
    rintro e he rfl
    simp only [Bool.or_eq_true] at hop
    rcases hop with hop | hop
    · obtain ⟨u, w', g', hrun, S', R'⟩ := eff_sound S hop he
      unfold Oper.wp
      rcases hrun with hrun | ⟨hrun, rfl⟩
      · rw [hrun, Oper.upon_value]
        exact hK g' _ _ (S'.puts hd hN R')
      · rw [hrun, Oper.upon_skip]
        exact hK g' _ _ (S'.puts hd hN R')
    · exact call_sound S hG hop he fun g' w' u S' R' => hK g' _ _ (S'.puts hd hN R')
  have nope : s' = ⟨AM.puts s.t ao.d undefS, s.h⟩ → K (a.put o.dst undef) w := by
    rintro rfl
    exact hK g _ _ (S.puts hd hN (Rep.sc _))
  unfold wpOp
  simp only [hi]
  unfold step at hs
  cases hg : o.guard with
  | none =>
    rw [hg] at hgd
    cases hag : ao.g with
    | some q => rw [hag] at hgd; simp at hgd
    | none =>
      rw [hag] at hs
      have hw : Region.wanted o (yielded ops a.tmps) = true := by simp [Region.wanted, hg]
      rw [if_pos hw]
      left
      cases he : eff call s (ao.d.getD 0) ao.o with
      | none => rw [he] at hs; simp at hs
      | some e =>
        rw [he] at hs
        exact run he (Option.some.inj hs).symm
  | some q =>
    obtain ⟨j, b⟩ := q
    rw [hg] at hgd
    cases hag : ao.g with
    | none => rw [hag] at hgd; simp at hgd
    | some q =>
      obtain ⟨gs, b'⟩ := q
      rw [hag] at hgd hs
      simp only [Bool.and_eq_true, beq_iff_eq, decide_eq_true_eq] at hgd
      obtain ⟨rfl, hgs⟩ := hgd
      dsimp only at hs
      cases hv : get s.t gs with
      | none => rw [hv] at hs; simp at hs
      | some v =>
        rw [hv] at hs
        dsimp only at hs
        obtain ⟨u, hu, hr⟩ := S.tm _ _ hv
        split at hs
        · rename_i b1
          have hb := rep_bool hr
          have hy : yielded ops a.tmps j = some b1 := by
            simp only [yielded, hgs, Option.bind_some, hu, hb]
          split at hs
          · rename_i hbb
            subst hbb
            have hw : Region.wanted o (yielded ops a.tmps) = true := by simp [Region.wanted, hg, hy]
            rw [if_pos hw]
            left
            cases he : eff call s (ao.d.getD 0) ao.o with
            | none => rw [he] at hs; simp at hs
            | some e =>
              rw [he] at hs
              exact run he (Option.some.inj hs).symm
          · rename_i hbb
            have hw : ¬ Region.wanted o (yielded ops a.tmps) = true := by simpa [Region.wanted, hg, hy] using hbb
            rw [if_neg hw]
            exact nope (Option.some.inj hs).symm
        · have hb := rep_sc hr
          have hy : yielded ops a.tmps j = none := by
            simp only [yielded, hgs, Option.bind_some, hu, hb]
          have hw : ¬ Region.wanted o (yielded ops a.tmps) = true := by simp [Region.wanted, hg, hy]
          rw [if_neg hw]
          exact nope (Option.some.inj hs).symm
        · simp at hs

/-! ### putting in order -/
theorem get_filter {α : Type} (p : Nat → Bool) : ∀ (l : List (Nat × α)) (n : Nat), get (l.filter fun q => p q.1) n = if p n then get l n else none
  | [], n => by simp [get]
  | (e, u) :: l, n => by
    have ih := get_filter p l n
    by_cases he : p e
    · rw [List.filter_cons_of_pos (by simpa using he)]
      simp only [get, ih]
      by_cases hn : e = n
      · subst hn; simp [he]
      · simp [hn]
    · rw [List.filter_cons_of_neg (by simpa using he), ih]
      simp only [get]
      by_cases hn : e = n
      · subst hn; simp [he]
      · simp [hn]
theorem get_mem {α : Type} : ∀ {l : List (Nat × α)} {n : Nat} {v : α}, get l n = some v → (n, v) ∈ l
  | [], n, v, h => by simp [get] at h
  | (e, u) :: l, n, v, h => by
    simp only [get] at h
    split at h
    · rename_i he; subst he; simp at h; subst h; simp
    · exact List.mem_cons_of_mem _ (get_mem h)
theorem get_map {α : Type} (f : α → α) : ∀ (l : List (Nat × α)) (n : Nat), get (l.map fun q => (q.1, f q.2)) n = (get l n).map f
  | [], n => by simp [get]
  | (e, u) :: l, n => by
    simp only [List.map_cons, get]
    split
    · rfl
    · exact get_map f l n

theorem SRep.weak {h h' : Nat → Option Ob} {v : SV} {u : Value} (hr : SRep w g h v u) (hh : ∀ d, v.id? = some d → h' d = h d) : SRep w g h' v u := by
  cases v with
  | p x => exact hr
  | xs k l => exact hr
  | ms d off len => simp only [SRep] at hr ⊢; rw [hh d rfl]; exact hr
  | mp d i j => simp only [SRep] at hr ⊢; rw [hh d rfl]; exact hr

/-- Fewer slots, fewer objects. -/
theorem Sim.less (S : Sim base w0 lm0 N g a w s) {t : List (Nat × SV)} {h : List (Nat × Ob)} (ht : ∀ n v, get t n = some v → get s.t n = some v) (hh : ∀ d o, get h d = some o → get s.h d = some o) (hr : ∀ n v d, get t n = some v → v.id? = some d → get h d = get s.h d) : Sim base w0 lm0 N g a w ⟨t, h⟩ :=
  ⟨S.bas, S.size, S.defers, S.below, S.lm, fun n v hn => let ⟨u, h1, h2⟩ := S.tm n v (ht n v hn); ⟨u, h1, h2.weak fun d hd => hr n v d hn hd⟩, fun d o hd => S.ob d o (hh d o hd), fun d o hd => S.lt d o (hh d o hd), let ⟨own, hap⟩ := S.ap; ⟨own, fun d o x b hd hl hi hb => hap d o x b (hh d o hd) hl hi hb⟩⟩

theorem ref_id (v : SV) (d : Nat) : v.ref d = true ↔ v.id? = some d := by
  cases v <;> simp [SV.ref, SV.id?]

theorem Sim.keepGc (S : Sim base w0 lm0 N g a w s) (keep : List Nat) : Sim base w0 lm0 N g a w ⟨keepT keep s.t, gc (keepT keep s.t) s.h⟩ := by
  have hg : ∀ d, get (gc (keepT keep s.t) s.h) d = if (keepT keep s.t).any (fun r => r.2.ref d) then get s.h d else none := fun d => get_filter (fun d => (keepT keep s.t).any fun r => r.2.ref d) s.h d
  refine S.less (fun n v hn => ?_) (fun d o hd => ?_) (fun n v d hn hd => ?_)
  · have := get_filter (fun n => keep.contains n) s.t n
    simp only [keepT] at hn
    rw [this] at hn
    split at hn
    · exact hn
    · simp at hn
  · rw [hg] at hd
    split at hd
    · exact hd
    · simp at hd
  · rw [hg, if_pos]
    exact List.any_eq_true.2 ⟨(n, v), get_mem hn, (ref_id v d).2 hd⟩

theorem Sim.ren1 (S : Sim base w0 lm0 N g a w s) (n : Nat) : ∃ g', Sim base w0 lm0 N g' a w (AM.ren1 s n) := by
  unfold AM.ren1
  cases hv : get s.t n with
  | none => exact ⟨g, S⟩
  | some v =>
    dsimp only
    cases hd : v.id? with
    | none => exact ⟨g, S⟩
    | some d =>
      dsimp only
      by_cases hdn : d = n
      · rw [if_pos hdn]; exact ⟨g, S⟩
      · rw [if_neg hdn]
        cases hn : get s.h n with
        | some o => exact ⟨g, S⟩
        | none =>
          cases ho : get s.h d with
          | none => exact ⟨g, S⟩
          | some o =>
            dsimp only
            split
            case isFalse => exact ⟨g, S⟩
            rename_i hcond
            obtain ⟨hdp, hn8⟩ := hcond
            let g' : Gs := ⟨g.lm, upd g.v n (g.v d)⟩
            have hget : ∀ e, get (AM.put (s.h.filter fun q => q.1 != d) n o) e = if n = e then some o else if e = d then none else get s.h e := by
              intro e
              rw [get_put]
              split
              · rfl
              · have := get_filter (fun x => x != d) s.h e
                rw [this]
                by_cases he : e = d <;> simp [he]
            have hni : ∀ e o1 x, get s.h e = some o1 → Ids e o1 x → x ≠ n := fun e o1 x h1 hi hx => by
              have := hi.lt (by rw [hx]; omega)
              rw [← this, hx, hn] at h1
              simp at h1
            refine ⟨g', S.bas, S.size, S.defers, S.below, S.lm, fun m v' hm => ?_, fun e o' he => ?_, fun e o' he => ?_, ?_⟩
            · have := get_map (SV.ren d n) s.t m
              rw [this] at hm
              cases hm' : get s.t m with
              | none => rw [hm'] at hm; simp at hm
              | some v0 =>
                rw [hm'] at hm
                simp at hm
                subst hm
                obtain ⟨u, hu, hr⟩ := S.tm m v0 hm'
                refine ⟨u, hu, ?_⟩
                have gne : ∀ e, e ≠ n → g'.v e = g.v e := fun e he => upd_ne _ he _
                have gn : g'.v n = g.v d := upd_same _ _ _
                cases v0 with
                | p x => exact hr
                | xs k l => exact hr
                | ms e off len =>
                  simp only [SV.ren]
                  by_cases he : e = d
                  · subst he
                    rw [if_pos rfl]
                    simp only [SRep, ho] at hr
                    simp only [SRep, hget, if_pos, gn]
                    exact hr
                  · rw [if_neg he]
                    have hen : e ≠ n := fun h => by subst h; simp only [SRep, hn] at hr
                    simp only [SRep, hget, if_neg (Ne.symm hen), if_neg he, gne e hen]
                    exact hr
                | mp e i j =>
                  simp only [SV.ren]
                  by_cases he : e = d
                  · subst he
                    rw [if_pos rfl]
                    simp only [SRep, ho] at hr
                    simp only [SRep, hget, if_pos, gn]
                    exact hr
                  · rw [if_neg he]
                    have hen : e ≠ n := fun h => by subst h; simp only [SRep, hn] at hr
                    simp only [SRep, hget, if_neg (Ne.symm hen), if_neg he, gne e hen]
                    exact hr
            · rw [hget] at he
              split at he
              · rename_i hne
                subst hne
                obtain rfl := Option.some.inj he
                have := S.ob d o ho
                have gn : g'.v n = g.v d := upd_same _ _ _
                cases o with
                | row e' k fz l => simp only [ORep, gn] at this ⊢; exact this
                | it st pos => simp only [ORep, gn] at this ⊢; exact this
                | dp e' k l => simp [Ob.isDp] at hdp
                | dead => trivial
              · rename_i hne
                split at he
                · simp at he
                · exact (S.ob e o' he).keep (fun x hi => upd_ne _ (hni e o' x he hi) _) (Ext.refl _ _) fun _ x hi b _ => ⟨rfl, rfl⟩
            · rw [hget] at he
              split at he
              · rename_i h; subst h; omega
              · split at he
                · simp at he
                · exact S.lt _ _ he
            · obtain ⟨own, hap⟩ := S.ap
              refine ⟨fun b => if own b = d then n else own b, fun e o1 x b he hl hi hb => ?_⟩
              dsimp only
              rw [hget] at he
              split at he
              · rename_i h
                subst h
                obtain rfl := Option.some.inj he
                obtain rfl := hi.plain hdp
                have gn : g'.v x = g.v d := upd_same _ _ _
                rw [gn] at hb
                exact if_pos (hap d o d b ho hl (.self _ _) hb)
              · rename_i h
                split at he
                · simp at he
                · rename_i h'
                  have ge : g'.v x = g.v x := upd_ne _ (hni e o1 x he hi) _
                  rw [ge] at hb
                  have hx := hap e o1 x b he hl hi hb
                  have hxd : x ≠ d := fun q => by
                    have := hi.lt (by rw [q]; exact S.lt _ _ ho)
                    exact h' (this.symm.trans q)
                  rw [hx, if_neg hxd]

theorem Sim.norm (S : Sim base w0 lm0 N g a w s) (keep : List Nat) : ∃ g', Sim base w0 lm0 N g' a w (AM.norm keep s) := by
  unfold AM.norm
  have : ∀ (l : List Nat) {g : Gs} {s : St}, Sim base w0 lm0 N g a w s → ∃ g', Sim base w0 lm0 N g' a w (l.foldl AM.ren1 s) := by
    intro l
    induction l with
    | nil => intro g s S; exact ⟨g, S⟩
    | cons n l ih =>
      intro g s S
      obtain ⟨g', S'⟩ := S.ren1 n
      exact ih S'
  exact this keep (S.keepGc keep)
end
end Go.Proofs.Ytihgpnfkadldeaa.AM
