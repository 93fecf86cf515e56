/- New objects, and the freezing of objects. No condition. -/
import Derived.Test.YtihgpnfkadldeaaAM3
namespace Go.Proofs.Ytihgpnfkadldeaa.AM
open Go Go.RowKit
set_option linter.unusedVariables false
set_option linter.unusedSimpArgs false

theorem cell_lt {w : World} {b o : Nat} {u : Value} (h : w.cell? ⟨b, o, none⟩ = some u) : b < w.heap.size := by
  rcases Nat.lt_or_ge b w.heap.size with h' | h'
  · exact h'
  · simp [World.cell?, Array.getElem?_eq_none h'] at h

theorem Ext.of_below {w w' : World} {lm lm' : Nat → Nat} (h : Below w.heap.size w w') (hl : ∀ b, b < w.heap.size → lm' b = lm b) : Ext w lm w' lm' := by
  intro b o u hc ho
  have hb := cell_lt hc
  exact ⟨(World.cell?_of_block (a := ⟨b, o, none⟩) (h.block b hb)).trans hc, by rw [hl b hb]; exact ho⟩

section
variable {base : Nat} {w0 : World} {lm0 : Nat → Nat} {N : Nat} {g : Gs} {a : Act} {w : World} {s : St}

/-- A new object, with all that it alone has. -/
theorem Sim.newG (S : Sim base w0 lm0 N g a w s) {id : Nat} (hid : get s.h id = none) (hid2 : id < 1000000) {w' : World} {lm' : Nat → Nat} {v' : Nat → Value} {o : Ob} (hb : Below w.heap.size w w') (hl : ∀ b, b < w.heap.size → lm' b = g.lm b)
    (hvs : ∀ x, x % 1000000 ≠ id → v' x = g.v x) (hv : ∀ x b, Ids id o x → blk (v' x) = some b → w.heap.size ≤ b) (hown : ∃ own : Nat → Nat, ∀ x b, Ids id o x → blk (v' x) = some b → own b = x) (ho : ORep w' ⟨lm', v'⟩ base id o) :
    Sim base w0 lm0 N ⟨lm', v'⟩ a w' ⟨s.t, AM.put s.h id o⟩ ∧ Tr w g (get s.h) w' ⟨lm', v'⟩ (get (AM.put s.h id o)) := by
  have hx := Ext.of_below hb hl
  have hne : ∀ d o1, get s.h d = some o1 → d ≠ id := fun d o1 h1 e => by rw [e, hid] at h1; simp at h1
  have hni : ∀ d o1 x, get s.h d = some o1 → Ids d o1 x → x % 1000000 ≠ id := fun d o1 x h1 hi e => hne d o1 h1 ((hi.mod (S.lt _ _ h1)).symm.trans e)
  have T : Tr w g (get s.h) w' ⟨lm', v'⟩ (get (AM.put s.h id o)) := ⟨hx, fun d o1 h1 => .inr ⟨hvs _ (hni d o1 d h1 (.self _ _)), o1, by rw [get_put_ne _ (Ne.symm (hne d o1 h1))]; exact h1, Shp.refl _⟩⟩
  refine ⟨S.turn T (hb.mono S.bw) (fun b h => hl b (Nat.lt_of_lt_of_le h S.bw)) (fun d o1 h1 => ?_) (fun d o1 h1 => ?_) ?_, T⟩
  · by_cases e : id = d
    · subst e
      rw [get_put_same] at h1
      obtain rfl := Option.some.inj h1
      exact ho
    · rw [get_put_ne _ e] at h1
      refine (S.ob d o1 h1).keep (fun x hi => hvs _ (hni d o1 x h1 hi)) hx fun hlv x hi b hbk => ?_
      have := ((S.ob d o1 h1).blockI hlv hi hbk).2
      exact ⟨hb.block b this, hl b this⟩
  · by_cases e : id = d
    · subst e; exact hid2
    · rw [get_put_ne _ e] at h1; exact S.lt _ _ h1
  · obtain ⟨own, hap⟩ := S.ap
    obtain ⟨own', hap'⟩ := hown
    refine ⟨fun b => if w.heap.size ≤ b then own' b else own b, fun d o1 x b h1 l1 hi hb1 => ?_⟩
    dsimp only
    by_cases e : id = d
    · subst e
      rw [get_put_same] at h1
      obtain rfl := Option.some.inj h1
      rw [if_pos (hv x b hi hb1)]
      exact hap' x b hi hb1
    · rw [get_put_ne _ e] at h1
      dsimp only at hb1
      rw [hvs _ (hni d o1 x h1 hi)] at hb1
      have := ((S.ob d o1 h1).blockI l1 hi hb1).2
      rw [if_neg (by omega)]
      exact hap d o1 x b h1 l1 hi hb1

/-- A new object. -/
theorem Sim.new (S : Sim base w0 lm0 N g a w s) {id : Nat} (hid : get s.h id = none) (hid2 : id < 1000000) {w' : World} {lm' : Nat → Nat} {v0 : Value} {o : Ob} (hb : Below w.heap.size w w') (hl : ∀ b, b < w.heap.size → lm' b = g.lm b)
    (hop : o.isDp = false) (hv : ∀ b, blk v0 = some b → w.heap.size ≤ b) (ho : ORep w' ⟨lm', upd g.v id v0⟩ base id o) :
    Sim base w0 lm0 N ⟨lm', upd g.v id v0⟩ a w' ⟨s.t, AM.put s.h id o⟩ ∧ Tr w g (get s.h) w' ⟨lm', upd g.v id v0⟩ (get (AM.put s.h id o)) :=
  S.newG hid hid2 hb hl (fun x hx => upd_ne _ (fun e => hx (by rw [e]; omega)) _) (fun x b hi hb1 => by obtain rfl := hi.plain hop; simp only [upd_same] at hb1; exact hv b hb1) ⟨fun _ => id, fun x b hi _ => (hi.plain hop).symm⟩ ho

/-- As before, but for the mark that an object is not written any more. -/
def Fz : Option Ob → Option Ob → Prop
  | some (.row e k _ l), some (.row e' k' _ l') => e = e' ∧ k = k' ∧ l = l'
  | a, b => a = b
theorem Fz.refl : ∀ o, Fz o o
  | some (.row ..) => ⟨rfl, rfl, rfl⟩
  | some (.it ..) => rfl
  | some (.dp ..) => rfl
  | some .dead => rfl
  | none => rfl
theorem Fz.row {o e k fz l} (h : Fz (some (.row e k fz l)) o) : ∃ fz', o = some (.row e k fz' l) := by
  cases o with
  | none => simp [Fz] at h
  | some o => cases o <;> simp [Fz] at h; obtain ⟨rfl, rfl, rfl⟩ := h; exact ⟨_, rfl⟩
theorem Fz.none_iff {o o'} (h : Fz o o') : o = none ↔ o' = none := by
  cases o with
  | none => cases o' with
    | none => simp
    | some x => simp [Fz] at h
  | some x => cases o' with
    | none => cases x <;> simp [Fz] at h
    | some y => simp
theorem Fz.set {o e k fz l} (h : Fz o (some (.row e k fz l))) : Fz o (some (.row e k true l)) := by
  cases o with
  | none => simp [Fz] at h
  | some o => cases o <;> simp_all [Fz]

theorem own_mem {w : World} {lm : Nat → Nat} {base e k n : Nat} {v : Value} {xs : List Value} (h : w.ownsRow base e k v n xs) (h1 : ∀ u ∈ xs, u.oneCell' = true) {b : Nat} (hb : blk v = some b) (hl : n * k ≤ lm b) (i : Nat) :
    Mem w lm b i (xs.drop i) := by
  intro j u hu
  rw [List.getElem?_drop] at hu
  have hlt : i + j < xs.length := (List.getElem?_eq_some_iff.1 hu).1
  refine ⟨?_, by have := h.1; omega, h1 u (List.mem_of_getElem? hu)⟩
  rcases h.2 with ⟨rfl, _⟩ | ⟨b', cap, cur, rfl, _, hg, _, _, _, ht⟩
  · simp [blk] at hb
  · simp [blk] at hb
    subst hb
    rw [cell_of_row w b' (i + j) cur e (0, 0) hg]
    rw [← ht, List.getElem?_take] at hu
    split at hu
    · simpa using hu
    · simp at hu

theorem Mem.take {w lm b o vs} (h : Mem w lm b o vs) (n : Nat) : Mem w lm b o (vs.take n) := fun j u hu => by
  rw [List.getElem?_take] at hu
  split at hu
  · exact h j u hu
  · simp at hu
theorem Mem.drop {w lm b o vs} (h : Mem w lm b o vs) (n : Nat) : Mem w lm b (o + n) (vs.drop n) := fun j u hu => by
  rw [List.getElem?_drop] at hu
  have := h _ u hu
  rw [Nat.add_assoc]
  exact this

/-- The row that an object is, frozen. -/
theorem Sim.freeze (S : Sim base w0 lm0 N g a w s) {d e k : Nat} {fz : Bool} {l : List (List PV)} (hd : get s.h d = some (.row e k fz l)) :
    ∃ lm', Sim base w0 lm0 N ⟨lm', g.v⟩ a w ⟨s.t, AM.put s.h d (.row e k true l)⟩ ∧ Tr w g (get s.h) w ⟨lm', g.v⟩ (get (AM.put s.h d (.row e k true l))) ∧ ∀ b, blk (g.v d) = some b → lm' b = l.length * k := by
  obtain ⟨h1, h2, ⟨xs, h3, h4, h5⟩, h6⟩ := S.ob d _ hd
  let lm' : Nat → Nat := fun b => if blk (g.v d) = some b then l.length * k else g.lm b
  have hlm : ∀ b, blk (g.v d) = some b → lm' b = l.length * k := fun b hb => if_pos hb
  have hx : Ext w g.lm w lm' := by
    intro b o u hc ho
    refine ⟨hc, ?_⟩
    by_cases e : blk (g.v d) = some b
    · rw [hlm b e]; rw [h6 b e] at ho
      split at ho
      · exact ho
      · omega
    · show o < if _ then _ else _
      rw [if_neg e]; exact ho
  refine ⟨lm', S.cells1 hd ⟨rfl, rfl⟩ rfl rfl rfl hx (Below.refl _ _) (fun b hb _ => ⟨rfl, if_neg hb⟩) ⟨h1, h2, ⟨xs, h3, h4.ext hx, h5⟩, fun b hb => by show lm' b = _; rw [hlm b hb]; simp⟩, ⟨hx, fun d1 o1 hd1 => .inr ⟨rfl, ?_⟩⟩, hlm⟩
  by_cases e : d = d1
  · subst e
    rw [hd] at hd1
    obtain rfl := Option.some.inj hd1
    exact ⟨_, get_put_same _ _ _, rfl, rfl⟩
  · exact ⟨o1, by rw [get_put_ne _ e]; exact hd1, Shp.refl _⟩

theorem take_drop_len {α : Type} (l : List α) {off len : Nat} (h : off + len ≤ l.length) : ((l.drop off).take len).length = len := by simp; omega

/-- A part of a frozen row reads as a plain slice. -/
theorem Sim.part (S : Sim base w0 lm0 N g a w s) {d e k : Nat} {l : List (List PV)} (hd : get s.h d = some (.row e k true l)) {off len : Nat} {u : Value} (hr : SRep w g (get s.h) (.ms d off len) u) : Rep w g.lm (.sl k ((l.drop off).take len)) u := by
  obtain ⟨h1, h2, ⟨xs, h3, h4, h5⟩, h6⟩ := S.ob d _ hd
  simp only [SRep, hd] at hr
  obtain ⟨hle, hr⟩ := hr
  have hmem : ∀ c ∈ (l.drop off).take len, c.length = k := fun c hc => h2 c (List.mem_of_mem_drop (List.mem_of_mem_take hc))
  have hfl : ((l.drop off).take len).flatten = (l.flatten.drop (off * k)).take (len * k) := by
    rw [flatten_drop off h2, flatten_take len (fun c hc => h2 c (List.mem_of_mem_drop hc))]
  have hll := take_drop_len l hle
  have key : ∀ b cap, blk (g.v d) = some b → len ≤ cap → Rep w g.lm (.sl k ((l.drop off).take len)) (.slice (some ⟨b, off * k, none⟩) len cap) := by
    intro b cap hb hcap
    have hm := (own_mem h3 h5 hb (lm := g.lm) (by rw [h6 b hb]; simp) (off * k)).take (len * k)
    have hrl := (h4.drop (off * k)).take (len * k)
    rw [← hfl] at hrl
    have := Rep.sl (w := w) (lm := g.lm) (cap := cap) h1 hmem hrl hm (by rw [hll]; exact hcap)
    rwa [hll] at this
  rcases hr with ⟨rfl, rfl, rfl⟩ | ⟨_, ad, cap, rfl, hcap, hz⟩
  · rcases h3.2 with ⟨hv, h0⟩ | ⟨b, cap, cur, hv, _, _, hcap, _⟩
    · rw [hv]
      have : l = [] := List.eq_nil_of_length_eq_zero h0
      subst this
      exact .sl0
    · have := key b cap (by rw [hv]; rfl) hcap
      rw [hv]
      simpa using this
  · by_cases h0 : len = 0
    · subst h0
      rw [List.take_zero]
      exact .sl0
    · rcases hz with hz | ⟨b, hb, rfl⟩
      · exact absurd hz h0
      · exact key b cap hb hcap

theorem frz_sim (S : Sim base w0 lm0 N g a w s) {h0 : List (Nat × Ob)} (hf : ∀ d, Fz (get h0 d) (get s.h d)) {v : SV} {u : Value} (hr : SRep w g (get s.h) v u) {x : PV} {fr : List (Nat × Ob)} (he : frz h0 v = some (x, fr)) :
    ∃ lm', Sim base w0 lm0 N ⟨lm', g.v⟩ a w ⟨s.t, putAll s.h fr⟩ ∧ Rep w lm' x u ∧ Tr w g (get s.h) w ⟨lm', g.v⟩ (get (putAll s.h fr)) ∧ ∀ d, Fz (get h0 d) (get (putAll s.h fr) d) := by
  have keep : Sim base w0 lm0 N ⟨g.lm, g.v⟩ a w ⟨s.t, putAll s.h []⟩ := S
  have tr0 : Tr w g (get s.h) w ⟨g.lm, g.v⟩ (get (putAll s.h [])) := ⟨Ext.refl _ _, fun d o h => .inr ⟨rfl, o, h, Shp.refl _⟩⟩
  cases v with
  | p y =>
    simp only [frz, Option.some.injEq, Prod.mk.injEq] at he
    obtain ⟨rfl, rfl⟩ := he
    exact ⟨g.lm, keep, hr, tr0, hf⟩
  | xs k l =>
    simp only [frz, Option.some.injEq, Prod.mk.injEq] at he
    obtain ⟨rfl, rfl⟩ := he
    obtain ⟨ad, rfl, h2, h3, h4⟩ := hr
    refine ⟨g.lm, keep, ?_, tr0, hf⟩
    rcases h4 with rfl | ⟨b, o, vs, rfl, h5, h6⟩
    · exact .sl0
    · exact .sl h2 h3 h5 h6 (Nat.le_refl _)
  | ms d off len =>
    simp only [frz] at he
    cases hd : get h0 d with
    | none => rw [hd] at he; simp at he
    | some o =>
      cases o <;> rw [hd] at he <;> first | (simp at he; done) | skip
      rename_i e k fz l
      obtain ⟨fz', hs⟩ := Fz.row (hd ▸ hf d)
      dsimp only at he
      split at he
      · rename_i hle
        simp only [Option.some.injEq, Prod.mk.injEq] at he
        obtain ⟨rfl, rfl⟩ := he
        obtain ⟨lm', S', T', _⟩ := S.freeze hs
        refine ⟨lm', S', S'.part (get_put_same _ _ _) (hr.tr T'), T', fun d1 => ?_⟩
        simp only [putAll]
        rw [get_put]
        split
        · rename_i h1; subst h1
          have := hf d; rw [hs] at this; exact this.set
        · exact hf d1
      · simp at he
  | mp d i j =>
    simp only [frz] at he
    cases hd : get h0 d with
    | none => rw [hd] at he; simp at he
    | some o =>
      cases o <;> rw [hd] at he <;> first | (simp at he; done) | skip
      rename_i e k fz l
      obtain ⟨fz', hs⟩ := Fz.row (hd ▸ hf d)
      dsimp only at he
      cases hi : l[i]? with
      | none => rw [hi] at he; simp at he
      | some c =>
        rw [hi] at he
        dsimp only at he
        split at he
        · rename_i hjk
          simp only [Option.some.injEq, Prod.mk.injEq] at he
          obtain ⟨rfl, rfl⟩ := he
          obtain ⟨lm', S', T', hlm⟩ := S.freeze hs
          refine ⟨lm', S', ?_, T', fun d1 => ?_⟩
          · have hr' := hr.tr T'
            simp only [SRep, get_put_same] at hr'
            obtain ⟨b, hb, rfl⟩ := hr'
            obtain ⟨h1, h2, ⟨xs, h3, h4, h5⟩, h6⟩ := S'.ob d _ (get_put_same _ _ _)
            have hil : i < l.length := (List.getElem?_eq_some_iff.1 hi).1
            have hck : c.length = k := h2 c (List.mem_of_getElem? hi)
            have hm := (own_mem h3 h5 hb (lm := lm') (by rw [hlm b hb]; exact Nat.le_refl _) (i * k + j)).take (k - j)
            have hrl := (h4.drop (i * k + j)).take (k - j)
            have e1 : (l.flatten.drop (i * k + j)).take (k - j) = c.drop j := by
              rw [← List.drop_drop, flatten_drop i h2]
              have : l.drop i = c :: l.drop (i + 1) := by
                rw [List.drop_eq_getElem_cons hil]
                congr 1
                simpa [List.getElem?_eq_getElem hil] using hi
              rw [this, List.flatten_cons, List.drop_append_of_le_length (by omega), List.take_append_of_le_length (by simp; omega), List.take_of_length_le (by simp; omega)]
            rw [e1] at hrl
            exact .pt hrl hm
          · simp only [putAll]
            rw [get_put]
            split
            · rename_i h1; subst h1
              have := hf d; rw [hs] at this; exact this.set
            · exact hf d1
        · simp at he

inductive SRepL (w : World) (g : Gs) (h : Nat → Option Ob) : List SV → List Value → Prop
  | nil : SRepL w g h [] []
  | cons {v u vs us} : SRep w g h v u → SRepL w g h vs us → SRepL w g h (v :: vs) (u :: us)
theorem SRepL.tr {w g h w' g' h'} (T : Tr w g h w' g' h') : ∀ {vs us}, SRepL w g h vs us → SRepL w' g' h' vs us
  | _, _, .nil => .nil
  | _, _, .cons a b => .cons (a.tr T) (SRepL.tr T b)

theorem Tr.trans {w g h w' g' h' w'' g'' h''} (T : Tr w g h w' g' h') (U : Tr w' g' h' w'' g'' h'') : Tr w g h w'' g'' h'' := by
  refine ⟨T.ext.trans U.ext, fun d o hd => ?_⟩
  rcases T.hp d o hd with h1 | ⟨h1, o', h2, h3⟩
  · rcases U.hp d _ h1 with h4 | ⟨h4, o'', h5, h6⟩
    · exact .inl h4
    · cases o'' <;> simp [Shp] at h6
      exact .inl h5
  · rcases U.hp d o' h2 with h4 | ⟨h4, o'', h5, h6⟩
    · exact .inl h4
    · refine .inr ⟨h4.trans h1, o'', h5, ?_⟩
      cases o <;> cases o' <;> cases o'' <;> simp_all [Shp]

theorem frzs_sim : ∀ {vs : List SV} {us : List Value} {g : Gs} {s : St} {xs : List PV} {fr : List (Nat × Ob)} {h0 : List (Nat × Ob)} (S : Sim base w0 lm0 N g a w s) (hf : ∀ d, Fz (get h0 d) (get s.h d)) (hr : SRepL w g (get s.h) vs us) (he : frzs h0 vs = some (xs, fr)),
    ∃ lm', Sim base w0 lm0 N ⟨lm', g.v⟩ a w ⟨s.t, putAll s.h fr⟩ ∧ RepL w lm' xs us ∧ Tr w g (get s.h) w ⟨lm', g.v⟩ (get (putAll s.h fr)) ∧ ∀ d, Fz (get h0 d) (get (putAll s.h fr) d)
  | [], _, g, s, xs, fr, h0, S, hf, .nil, he => by
    simp only [frzs, Option.some.injEq, Prod.mk.injEq] at he
    obtain ⟨rfl, rfl⟩ := he
    exact ⟨g.lm, S, .nil, ⟨Ext.refl _ _, fun d o h => .inr ⟨rfl, o, h, Shp.refl _⟩⟩, hf⟩
  | v :: vs, _, g, s, xs, fr, h0, S, hf, .cons (us := us') hv hvs, he => by
    simp only [frzs] at he
    cases h1 : frz h0 v with
    | none => rw [h1] at he; simp at he
    | some q =>
      obtain ⟨x, f1⟩ := q
      rw [h1] at he
      dsimp only at he
      cases h2 : frzs h0 vs with
      | none => rw [h2] at he; simp at he
      | some q =>
        obtain ⟨ys, f2⟩ := q
        rw [h2] at he
        simp only [Option.some.injEq, Prod.mk.injEq] at he
        obtain ⟨rfl, rfl⟩ := he
        obtain ⟨lm1, S1, r1, T1, F1⟩ := frz_sim S hf hv h1
        obtain ⟨lm2, S2, r2, T2, F2⟩ := frzs_sim S1 F1 (hvs.tr T1) h2
        rw [putAll_append]
        exact ⟨lm2, S2, .cons (r1.ext T2.ext) r2, T1.trans T2, F2⟩
end

/-! ### rows with cells that have a slice alone -/
theorem RepL.mk {w : World} {lm : Nat → Nat} : ∀ {l : List PV} {vs : List Value}, l.length = vs.length → (∀ (i : Nat) (x : PV) (v : Value), l[i]? = some x → vs[i]? = some v → Rep w lm x v) → RepL w lm l vs
  | [], [], _, _ => .nil
  | [], _ :: _, h, _ => by simp at h
  | _ :: _, [], h, _ => by simp at h
  | x :: l, v :: vs, h, hr => .cons (hr 0 x v rfl rfl) (RepL.mk (by simpa using h) fun i y u hy hu => hr (i + 1) y u (by simpa using hy) (by simpa using hu))

/-- A row that reads so, with its bound: a plain slice. -/
theorem RowR.plain {w : World} {g : Gs} {base x e k : Nat} {l : List (List PV)} (h : RowR w g base x e k l) {lm2 : Nat → Nat} (hx : Ext w g.lm w lm2) (hb : ∀ b, blk (g.v x) = some b → l.length * k ≤ lm2 b) : Rep w lm2 (.sl k l) (g.v x) := by
  obtain ⟨h0, hk, ⟨xs, h3, h4, h5⟩, h6⟩ := h
  have hl := flatten_len hk
  have hxl := h4.length
  rcases h3.2 with ⟨hv, hn⟩ | ⟨b, cap, cur, hv, _, _, hcap, _⟩
  · have : l = [] := List.eq_nil_of_length_eq_zero hn
    subst this
    rw [hv]
    exact .sl0
  · cases l with
    | nil => rw [hv]; exact .sl0
    | cons c l =>
      have hbb := hb b (by rw [hv]; rfl)
      have hm := own_mem h3 h5 (b := b) (by rw [hv]; rfl) hbb 0
      rw [hv]
      exact .sl h0 hk (h4.ext hx) (by simpa using hm) hcap

theorem setL_flatten (l : List (List PV)) : (setL l).flatten = l.flatten.map PV.set := by
  simp [setL, List.map_flatten]
theorem okSet_flat {l : List (List PV)} (h : okSet l = true) {p : Nat} {x : PV} (hp : l.flatten[p]? = some x) : x.noHole = true := by
  obtain ⟨c, hc, hx⟩ := List.mem_flatten.1 (List.mem_of_getElem? hp)
  exact List.all_eq_true.1 (List.all_eq_true.1 h c hc) x hx
theorem setL_lens {l : List (List PV)} {k : Nat} (h : ∀ c ∈ l, c.length = k) : ∀ c ∈ setL l, c.length = k := by
  intro c hc
  obtain ⟨c', hc', rfl⟩ := List.mem_map.1 hc
  simpa using h c' hc'

open Classical in
/-- What cells have alone is theirs no more. -/
theorem dp_settle {w : World} {g : Gs} {base d e k : Nat} {l : List (List PV)} (h : ORep w g base d (.dp e k l)) (hok : okSet l = true) (hd : d < 1000000) (hown : ∃ own : Nat → Nat, ∀ x b, Ids d (.dp e k l) x → blk (g.v x) = some b → own b = x) :
    ∃ lm2 : Nat → Nat, Ext w g.lm w lm2 ∧ (∀ b, (∀ x, Ids d (.dp e k l) x → blk (g.v x) ≠ some b) → lm2 b = g.lm b) ∧ ORep w ⟨lm2, g.v⟩ base d (.row e k false (setL l)) := by
  obtain ⟨h1, h2, ⟨xs, h3, h4, h5, h7⟩, h6, h8⟩ := h
  obtain ⟨own, hown⟩ := hown
  let T (b n : Nat) : Prop := ∃ p e' k' l', l.flatten[p]? = some (.ow e' k' l') ∧ 0 < k' ∧ blk (g.v (nid d p)) = some b ∧ n = l'.length * k'
  have hids : ∀ {p e' k' l'}, l.flatten[p]? = some (.ow e' k' l') → 0 < k' → Ids d (.dp e k l) (nid d p) := fun hp hk => .inr ⟨_, _, _, _, _, _, _, rfl, hp, hk, rfl⟩
  have uniq : ∀ {b n m}, T b n → T b m → n = m := by
    rintro b n m ⟨p, e1, k1, l1, p1, p2, p3, rfl⟩ ⟨q, e2, k2, l2, q1, q2, q3, rfl⟩
    have := (hown _ b (hids p1 p2) p3).symm.trans (hown _ b (hids q1 q2) q3)
    obtain ⟨_, rfl⟩ := nid_inj hd hd this
    rw [p1] at q1
    simp only [Option.some.injEq, PV.ow.injEq] at q1
    obtain ⟨_, rfl, rfl⟩ := q1
    rfl
  let lm2 : Nat → Nat := fun b => if h : ∃ n, T b n then Classical.choose h else g.lm b
  have hT : ∀ {b n}, T b n → lm2 b = n := fun {b n} ht => by
    have hex : ∃ n, T b n := ⟨n, ht⟩
    show (if h : ∃ n, T b n then Classical.choose h else g.lm b) = n
    rw [dif_pos hex]
    exact uniq (Classical.choose_spec hex) ht
  have hnT : ∀ {b}, (∀ n, ¬ T b n) → lm2 b = g.lm b := fun hn => dif_neg fun ⟨n, ht⟩ => hn n ht
  have hx : Ext w g.lm w lm2 := by
    intro b o u hc ho
    refine ⟨hc, ?_⟩
    by_cases hex : ∃ n, T b n
    · obtain ⟨n, p, e', k', l', p1, p2, p3, _⟩ := hex
      obtain ⟨_, _, _, _, q7⟩ := h7 p e' k' l' p1 p2
      rw [q7 b p3] at ho
      omega
    · rw [hnT fun n ht => hex ⟨n, ht⟩]; exact ho
  refine ⟨lm2, hx, fun b hb => hnT ?_, h1, setL_lens h2, ⟨xs, by simpa [setL] using h3, ?_, h5⟩, fun b hb => ?_⟩
  · rintro n ⟨p, e', k', l', p1, p2, p3, _⟩
    exact hb _ (hids p1 p2) p3
  · refine RepL.mk (by rw [setL_flatten, List.length_map]; exact h4.length) fun i x v hx' hv => ?_
    rw [setL_flatten, List.getElem?_map] at hx'
    cases hp : l.flatten[i]? with
    | none => rw [hp] at hx'; simp at hx'
    | some y =>
      rw [hp] at hx'
      simp only [Option.map_some, Option.some.injEq] at hx'
      subst hx'
      obtain ⟨v', hv', hr⟩ := h4.get i y hp
      rw [hv] at hv'
      obtain rfl := Option.some.inj hv'
      have hnh := okSet_flat hok hp
      cases y with
      | ow e' k' l' =>
        have hk' : 0 < k' := by
          cases k' with
          | zero => simp [PV.noHole] at hnh
          | succ n => omega
        obtain ⟨q1, q2⟩ := h7 i e' k' l' hp hk'
        rw [hv] at q1
        obtain rfl := Option.some.inj q1
        exact q2.plain hx fun b hb => Nat.le_of_eq (hT ⟨i, e', k', l', hp, hk', hb, rfl⟩).symm
      | _ => exact hr.ext hx
  · have : ∀ n, ¬ T b n := by
      rintro n ⟨p, e', k', l', p1, p2, p3, _⟩
      have e1 := (hown d b (.self _ _) hb).symm.trans (hown _ b (hids p1 p2) p3)
      have := nid_ge d p
      omega
    show lm2 b = _
    rw [hnT this, h6 b hb]
    simp

/-- The same row under another number. -/
theorem dp_shift {w : World} {lm : Nat → Nat} {v v' : Nat → Value} {base base' d d' e k : Nat} {l : List (List PV)} (h : ORep w ⟨lm, v⟩ base d (.dp e k l)) (hb : base' ≤ base) (h0 : v' d' = v d) (hp : ∀ p, v' (nid d' p) = v (nid d p)) : ORep w ⟨lm, v'⟩ base' d' (.dp e k l) := by
  have lower : ∀ {u e k n xs}, w.ownsRow base e k u n xs → w.ownsRow base' e k u n xs := by
    intro u e k n xs h
    refine ⟨h.1, ?_⟩
    rcases h.2 with h | ⟨b, cap, cur, h1, h2, h3⟩
    · exact .inl h
    · exact .inr ⟨b, cap, cur, h1, Nat.le_trans hb h2, h3⟩
  obtain ⟨h1, h2, ⟨xs, h3, h4, h5, h7⟩, h6, h8⟩ := h
  refine ⟨h1, h2, ⟨xs, ?_, h4, h5, fun p e' k' l' hq hk => ?_⟩, fun b hbk => ?_, fun p hq => by obtain ⟨b, q1, q2⟩ := h8 p hq; exact ⟨b, by dsimp only at q1 ⊢; rw [h0]; exact q1, q2⟩⟩
  · dsimp only at h3 ⊢; rw [h0]; exact lower h3
  · obtain ⟨q1, q2, q3, ⟨ys, q4, q5, q6⟩, q7⟩ := h7 p e' k' l' hq hk
    dsimp only at q1 q4 q7
    refine ⟨by dsimp only; rw [hp]; exact q1, q2, q3, ⟨ys, by dsimp only; rw [hp]; exact lower q4, q5, q6⟩, fun b hbk => ?_⟩
    dsimp only at hbk
    rw [hp] at hbk
    exact q7 b hbk
  · dsimp only at hbk h6 ⊢; rw [h0] at hbk; exact h6 b hbk
end Go.Proofs.Ytihgpnfkadldeaa.AM
