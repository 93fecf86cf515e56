/- The machine's state and memory: what stays when memory grows or is written; the freezing of objects. No condition. -/
import Derived.Test.YtihgpnfkadldeaaAM2
namespace Go.Proofs.Ytihgpnfkadldeaa.AM
open Go Go.RowKit
set_option linter.unusedVariables false
set_option linter.unusedSimpArgs false

/-- One object is as the other, but for what its cells hold. -/
def Shp : Ob → Ob → Prop
  | .row _ k _ l, .row _ k' _ l' => k = k' ∧ l.length = l'.length
  | .it .., .it .. => True
  | .dp _ k l, .dp _ k' l' => k = k' ∧ l.length = l'.length
  | .row _ k _ l, .dp _ k' l' => k = k' ∧ l.length = l'.length
  | .dp _ k l, .row _ k' _ l' => k = k' ∧ l.length = l'.length
  | .dead, .dead => True
  | _, _ => False
theorem Shp.refl : ∀ o, Shp o o
  | .row .. => ⟨rfl, rfl⟩
  | .it .. => trivial
  | .dp .. => ⟨rfl, rfl⟩
  | .dead => trivial

structure Tr (w : World) (g : Gs) (h : Nat → Option Ob) (w' : World) (g' : Gs) (h' : Nat → Option Ob) : Prop where
  ext : Ext w g.lm w' g'.lm
  hp : ∀ d o, h d = some o → h' d = some .dead ∨ (g'.v d = g.v d ∧ ∃ o', h' d = some o' ∧ Shp o o')

theorem SRep.tr {w g h w' g' h'} (T : Tr w g h w' g' h') {v u} (r : SRep w g h v u) : SRep w' g' h' v u := by
  cases v with
  | p x => exact Rep.ext T.ext r
  | xs k l =>
    obtain ⟨a, h1, h2, h3, h4⟩ := r
    refine ⟨a, h1, h2, h3, h4.imp id ?_⟩
    rintro ⟨b, o, vs, e, hr, hm⟩
    exact ⟨b, o, vs, e, hr.ext T.ext, hm.ext T.ext⟩
  | ms d off len =>
    simp only [SRep] at r ⊢
    cases hd : h d with
    | none => rw [hd] at r; exact r.elim
    | some o =>
      rw [hd] at r
      rcases T.hp d o hd with h1 | ⟨h1, o', h2, h3⟩
      · rw [h1]; trivial
      · rw [h2]
        cases o <;> cases o' <;> simp only [Shp] at h3 <;> first | exact h3.elim | exact r.elim | trivial | skip
        all_goals
          obtain ⟨rfl, h4⟩ := h3
          dsimp only at r ⊢; rw [← h4, h1]; exact r
  | mp d i j =>
    simp only [SRep] at r ⊢
    cases hd : h d with
    | none => rw [hd] at r; exact r.elim
    | some o =>
      rw [hd] at r
      rcases T.hp d o hd with h1 | ⟨h1, o', h2, h3⟩
      · rw [h1]; trivial
      · rw [h2]
        cases o <;> cases o' <;> simp only [Shp] at h3 <;> first | exact h3.elim | trivial | skip
        all_goals
          first
          | (obtain ⟨rfl, h4⟩ := h3
             rw [h1]; exact r)
          | (rw [h1]; exact r)

theorem ownsRow_keep {w w' : World} {base : Nat} {e k : Nat} {v : Value} {n : Nat} {xs : List Value} (h : w.ownsRow base e k v n xs) (hb : ∀ b, blk v = some b → w'.heap[b]? = w.heap[b]?) : w'.ownsRow base e k v n xs := by
  refine ⟨h.1, ?_⟩
  rcases h.2 with h | ⟨b, cap, cur, rfl, h1, h2, rest⟩
  · exact .inl h
  · exact .inr ⟨b, cap, cur, rfl, h1, by rw [hb b rfl]; exact h2, rest⟩

theorem ORep.keep {w g base d o w' g'} (h : ORep w g base d o) (hv : ∀ x, Ids d o x → g'.v x = g.v x) (hx : Ext w g.lm w' g'.lm) (hb : o.live = true → ∀ x, Ids d o x → ∀ b, blk (g.v x) = some b → w'.heap[b]? = w.heap[b]? ∧ g'.lm b = g.lm b) : ORep w' g' base d o := by
  have hvd := hv d (.self _ _)
  cases o with
  | row e k fz l =>
    obtain ⟨h1, h2, ⟨xs, h3, h4, h5⟩, h6⟩ := h
    refine ⟨h1, h2, ⟨xs, ?_, h4.ext hx, h5⟩, fun b hbk => ?_⟩
    · rw [hvd]; exact ownsRow_keep h3 fun b e => (hb rfl d (.self _ _) b e).1
    · rw [hvd] at hbk; rw [(hb rfl d (.self _ _) b hbk).2]; exact h6 b hbk
  | it s pos =>
    obtain ⟨b, h1, h2, h3⟩ := h
    exact ⟨b, hvd.trans h1, h2, by rw [(hb rfl d (.self _ _) b (by rw [h1]; rfl)).1]; exact h3⟩
  | dp e k l =>
    obtain ⟨h1, h2, ⟨xs, h3, h4, h5, h7⟩, h6, h8⟩ := h
    refine ⟨h1, h2, ⟨xs, ?_, h4.ext hx, h5, fun p e' k' l' hp hk => ?_⟩, fun b hbk => ?_, fun p hp => ?_⟩
    · rw [hvd]; exact ownsRow_keep h3 fun b e => (hb rfl d (.self _ _) b e).1
    · have hi : Ids d (.dp e k l) (nid d p) := .inr ⟨e, k, l, p, e', k', l', rfl, hp, hk, rfl⟩
      obtain ⟨q1, q2, q3, ⟨ys, q4, q5, q6⟩, q7⟩ := h7 p e' k' l' hp hk
      have e1 := hv _ hi
      refine ⟨by rw [e1]; exact q1, q2, q3, ⟨ys, ?_, q5.ext hx, q6⟩, fun b hbk => ?_⟩
      · rw [e1]; exact ownsRow_keep q4 fun b e => (hb rfl _ hi b e).1
      · rw [e1] at hbk; rw [(hb rfl _ hi b hbk).2]; exact q7 b hbk
    · rw [hvd] at hbk; rw [(hb rfl d (.self _ _) b hbk).2]; exact h6 b hbk
    · obtain ⟨b, q1, q2⟩ := h8 p hp
      refine ⟨b, by rw [hvd]; exact q1, ?_⟩
      rw [World.cell?_of_block (a := ⟨b, p, none⟩) (hb rfl d (.self _ _) b (by rw [q1]; rfl)).1]
      exact q2
  | dead => trivial

theorem owns_block {w : World} {base e k n : Nat} {v : Value} {xs : List Value} (h3 : w.ownsRow base e k v n xs) {b : Nat} (hb : blk v = some b) : base ≤ b ∧ b < w.heap.size := by
  rcases h3.2 with ⟨h, _⟩ | ⟨b', cap, cur, h, h1, h2, _⟩
  · rw [h] at hb; simp [blk] at hb
  · rw [h] at hb; simp [blk] at hb; subst hb
    exact ⟨h1, (Array.getElem?_eq_some_iff.1 h2).1⟩

/-- A live object's block: new enough, and there. -/
theorem ORep.blockI {w g base d o} (h : ORep w g base d o) (hl : o.live = true) {x : Nat} (hi : Ids d o x) {b : Nat} (hb : blk (g.v x) = some b) : base ≤ b ∧ b < w.heap.size := by
  cases o with
  | row e k fz l =>
    obtain rfl := hi.plain rfl
    obtain ⟨_, _, ⟨xs, h3, _⟩, _⟩ := h
    exact owns_block h3 hb
  | it s pos =>
    obtain rfl := hi.plain rfl
    obtain ⟨b', h1, h2, h3⟩ := h
    rw [h1] at hb; simp [blk] at hb; subst hb
    exact ⟨h2, (Array.getElem?_eq_some_iff.1 h3).1⟩
  | dp e k l =>
    obtain ⟨_, _, ⟨xs, h3, _, _, h7⟩, _⟩ := h
    rcases hi with rfl | ⟨_, _, _, p, e', k', l', ho, hp, hk, rfl⟩
    · exact owns_block h3 hb
    · simp only [Ob.dp.injEq] at ho
      obtain ⟨rfl, rfl, rfl⟩ := ho
      obtain ⟨_, _, _, ⟨ys, q4, _⟩, _⟩ := h7 p e' k' l' hp hk
      exact owns_block q4 hb
  | dead => simp [Ob.live] at hl
theorem ORep.block {w g base d o} (h : ORep w g base d o) (hl : o.live = true) {b : Nat} (hb : blk (g.v d) = some b) : base ≤ b ∧ b < w.heap.size := h.blockI hl (.self _ _) hb

section
variable {base : Nat} {w0 : World} {lm0 : Nat → Nat} {N : Nat} {g : Gs} {a : Act} {w : World} {s : St}

theorem Sim.bw (S : Sim base w0 lm0 N g a w s) : base ≤ w.heap.size := by rw [S.bas]; exact S.below.size

theorem Sim.put (S : Sim base w0 lm0 N g a w s) {d : Nat} {v : SV} {u : Value} (hd : d < N) (hr : SRep w g (get s.h) v u) : Sim base w0 lm0 N g (a.put (some d) u) w ⟨put s.t d v, s.h⟩ := by
  refine ⟨S.bas, by simp [Act.put, S.size], S.defers, S.below, S.lm, fun n v' hn => ?_, S.ob, S.lt, S.ap⟩
  rw [get_put] at hn
  by_cases h : d = n
  · subst h
    rw [if_pos rfl] at hn
    obtain rfl := Option.some.inj hn
    exact ⟨u, by simp [Act.put, S.size, hd], hr⟩
  · rw [if_neg h] at hn
    obtain ⟨u', h1, h2⟩ := S.tm n v' hn
    exact ⟨u', by simp only [Act.put]; rw [Array.getElem?_setIfInBounds_ne h]; exact h1, h2⟩

/-- The state of memory turns into another one. -/
theorem Sim.turn (S : Sim base w0 lm0 N g a w s) {w' : World} {g' : Gs} {h' : List (Nat × Ob)} (T : Tr w g (get s.h) w' g' (get h')) (hb : Below base w w') (hl : ∀ b, b < base → g'.lm b = g.lm b)
    (ho : ∀ d o, get h' d = some o → ORep w' g' base d o)
    (hlt : ∀ d o, get h' d = some o → d < 1000000)
    (hap : ∃ own : Nat → Nat, ∀ d o x b, get h' d = some o → o.live = true → Ids d o x → blk (g'.v x) = some b → own b = x) : Sim base w0 lm0 N g' a w' ⟨s.t, h'⟩ :=
  ⟨S.bas, S.size, S.defers, S.below.trans hb, fun b h => (hl b h).trans (S.lm b h), fun n v hn => let ⟨u, h1, h2⟩ := S.tm n v hn; ⟨u, h1, h2.tr T⟩, ho, hlt, hap⟩

/-- Objects that are apart: their blocks are. -/
theorem Sim.far (S : Sim base w0 lm0 N g a w s) {d d' : Nat} {o o' : Ob} (h1 : get s.h d = some o) (h2 : get s.h d' = some o') (l1 : o.live = true) (l2 : o'.live = true) {x x' : Nat} (i1 : Ids d o x) (i2 : Ids d' o' x') (hne : x ≠ x') {b : Nat} (hb : blk (g.v x) = some b) : blk (g.v x') ≠ some b := fun hb' => by
  obtain ⟨own, hap⟩ := S.ap
  exact hne ((hap d o x b h1 l1 i1 hb).symm.trans (hap d' o' x' b h2 l2 i2 hb'))
theorem Sim.ne (S : Sim base w0 lm0 N g a w s) {d d' : Nat} {o o' : Ob} (h1 : get s.h d = some o) (h2 : get s.h d' = some o') (hne : d ≠ d') {x x' : Nat} (i1 : Ids d o x) (i2 : Ids d' o' x') : x ≠ x' := fun e => by
  have q1 := i1.mod (S.lt _ _ h1)
  have q2 := i2.mod (S.lt _ _ h2)
  rw [e] at q1
  exact hne (q1.symm.trans q2)

def upd {α : Type} (f : Nat → α) (d : Nat) (x : α) : Nat → α := fun e => if e = d then x else f e
theorem upd_same {α : Type} (f : Nat → α) (d : Nat) (x : α) : upd f d x d = x := if_pos rfl
theorem upd_ne {α : Type} (f : Nat → α) {d e : Nat} (h : e ≠ d) (x : α) : upd f d x e = f e := if_neg h

/-- An object's cells turn, or are frozen: all else stays. -/
theorem Sim.cells (S : Sim base w0 lm0 N g a w s) {w' : World} {d : Nat} {o o' : Ob} {lm' : Nat → Nat} (hd : get s.h d = some o) (hsh : Shp o o') (hlv : o.live = true) (hids : ∀ x, Ids d o' x → Ids d o x) (hx : Ext w g.lm w' lm') (hb : Below base w w')
    (hbl : ∀ b, (∀ x, Ids d o x → blk (g.v x) ≠ some b) → b < w.heap.size → w'.heap[b]? = w.heap[b]? ∧ lm' b = g.lm b) (hnew : ORep w' ⟨lm', g.v⟩ base d o') : Sim base w0 lm0 N ⟨lm', g.v⟩ a w' ⟨s.t, AM.put s.h d o'⟩ := by
  have hlv' : o'.live = true := by cases o <;> cases o' <;> simp_all [Shp, Ob.live]
  refine S.turn ⟨hx, fun d1 o1 h1 => .inr ⟨rfl, ?_⟩⟩ hb (fun b h => ?_) (fun d1 o1 h1 => ?_) (fun d1 o1 h1 => ?_) ?_
  · by_cases e : d = d1
    · subst e
      rw [hd] at h1
      obtain rfl := Option.some.inj h1
      exact ⟨o', get_put_same _ _ _, hsh⟩
    · exact ⟨o1, by rw [get_put_ne _ e]; exact h1, Shp.refl _⟩
  · refine (hbl b (fun x hx e => ?_) (Nat.lt_of_lt_of_le h S.bw)).2
    have := ((S.ob d o hd).blockI hlv hx e).1
    omega
  · by_cases e : d = d1
    · subst e
      rw [get_put_same] at h1
      obtain rfl := Option.some.inj h1
      exact hnew
    · rw [get_put_ne _ e] at h1
      refine (S.ob d1 o1 h1).keep (fun _ _ => rfl) hx fun hl x hi b hbk => ?_
      exact hbl b (fun y hy => S.far h1 hd hl hlv hi hy (S.ne h1 hd (Ne.symm e) hi hy) hbk) ((S.ob d1 o1 h1).blockI hl hi hbk).2
  · by_cases e : d = d1
    · subst e; exact S.lt _ _ hd
    · rw [get_put_ne _ e] at h1; exact S.lt _ _ h1
  · obtain ⟨own, hap⟩ := S.ap
    refine ⟨own, fun d1 o1 x b h1 l1 hi hbk => ?_⟩
    by_cases e : d = d1
    · subst e
      rw [get_put_same] at h1
      obtain rfl := Option.some.inj h1
      exact hap d o x b hd hlv (hids x hi) hbk
    · rw [get_put_ne _ e] at h1
      exact hap d1 o1 x b h1 l1 hi hbk
/-- The same of an object that has one block alone. -/
theorem Sim.cells1 (S : Sim base w0 lm0 N g a w s) {w' : World} {d : Nat} {o o' : Ob} {lm' : Nat → Nat} (hd : get s.h d = some o) (hsh : Shp o o') (hlv : o.live = true) (hp : o.isDp = false) (hp' : o'.isDp = false) (hx : Ext w g.lm w' lm') (hb : Below base w w')
    (hbl : ∀ b, blk (g.v d) ≠ some b → b < w.heap.size → w'.heap[b]? = w.heap[b]? ∧ lm' b = g.lm b) (hnew : ORep w' ⟨lm', g.v⟩ base d o') : Sim base w0 lm0 N ⟨lm', g.v⟩ a w' ⟨s.t, AM.put s.h d o'⟩ :=
  S.cells hd hsh hlv (fun x h => by rw [h.plain hp']; exact .self _ _) hx hb (fun b h => hbl b (h d (.self _ _))) hnew
end
end Go.Proofs.Ytihgpnfkadldeaa.AM
