/- MADE BY sync2.py: AM11, AM12, AM13, AMD, one behind the other. No condition but what they say. -/
import Derived.Test.YtomnggbideepeaaQ2
section
/- The small machine's operations that make slices grow, copy, and go through strings. No condition. -/
namespace Go.Proofs.Ytomnggbideepeaa.AM
open Go Go.RowKit
set_option linter.unusedVariables false
set_option linter.unusedSimpArgs false

section
variable {P : Program} {base : Nat} {w0 : World} {lm0 : Nat → Nat} {N : Nat} {g : Gs} {a : Act} {w : World} {s : St} {o : Oper}

theorem run_app {t tx ty e : TypeId} {dx : TypeDesc} {i : TypeInfo} {z : Value} (ht : P.underlying t = some (.slice e)) (htx : P.underlying tx = some dx) (hdx : ∀ k, dx ≠ .int k) (hi : P.info? e = some i) (hz : i.zero = some z) (hzs : z.cells.size = i.size)
    {v x : Value} {n m : Nat} {xs news : List Value} (hown : w.ownsRow base e i.size v n xs) (hl : news.length = m * i.size) (h1 : ∀ u ∈ news, u.oneCell' = true) (hlen : ∀ w', (Builtin.lenOf x).run P w' = .ok m w')
    (hf : ∀ w', w'.heap = w.heap → (Builtin.firstCells i.size m x).run P w' = .ok news.toArray w') (h63 : n + m ≤ maxLen) (hby : (n + m) * i.bytes ≤ 140737488355328) (hbase : base ≤ w.heap.size) :
    ∃ v' w', (Builtin.append_ #[t, tx] ty #[v, x]).run P w = .ok v' w' ∧ w'.ownsRow base e i.size v' (n + m) (xs ++ news) ∧
      ((blk v' = blk v ∧ w'.os = w.os ∧ w'.tape = w.tape ∧ w'.output = w.output ∧ w'.heap.size = w.heap.size ∧ ∀ b, blk v ≠ some b → w'.heap[b]? = w.heap[b]?) ∨ (blk v' = some w.heap.size ∧ Below w.heap.size w w')) := by
  have hsmall : n + m ≤ 9223372036854775807 := by simp only [maxLen] at h63; omega
  have hxl := hown.1
  have hlen' : (xs ++ news).length = (n + m) * i.size := by rw [List.length_append, hxl, hl, Nat.add_mul]
  have hzero : (match dx with | .int _ => true | _ => false) = false := by cases dx <;> first | rfl | exact absurd rfl (hdx _)
  have grown : ∀ (old : Nat), old < n + m →
      (w.drew.alloc (.cells (xs.toArray ++ news.toArray ++ Builtin.zeroCells z.cells (grownCap w (n + m) old e - (n + m))) e)).ownsRow base e i.size
        (.slice (some ⟨w.heap.size, 0, none⟩) (n + m) (grownCap w (n + m) old e)) (n + m) (xs ++ news) := by
    intro old ho
    have hge := grownCap_ge w (n + m) old e
    have hcm := grownCap_le_maxLen w (n + m) old e h63
    refine ⟨hlen', .inr ⟨w.heap.size, _, _, rfl, hbase, heap_alloc_new w.drew _, hge, hcm, ?_, ?_⟩⟩
    · simp only [Array.size_append, List.size_toArray, size_zeroCells, hzs, hxl, hl, ← Nat.add_mul]
      congr 1
      omega
    · simp only [Array.toList_append, List.append_assoc]
      rw [← List.append_assoc, ← hlen']
      exact List.take_left
  rcases hown.2 with ⟨rfl, rfl⟩ | ⟨b, cap, cur, rfl, hbg, hg, hnc, hcm, hcs, htake⟩
  · have hx : xs = [] := List.eq_nil_of_length_eq_zero (by simpa using hxl)
    subst hx
    by_cases hm : m = 0
    · subst hm
      have hn : news = [] := List.eq_nil_of_length_eq_zero (by simpa using hl)
      subst hn
      refine ⟨.slice none 0 0, w, ?_, hown, .inl ⟨rfl, rfl, rfl, rfl, rfl, fun _ _ => rfl⟩⟩
      have := hf w rfl
      simp [Builtin.append_, run_underlying ht, run_underlying htx, sizeOf, typeInfo, hi, hlen, hzero, this]
    · have h63' : ¬ (9223372036854775807 < (m : Int)) := by omega
      have h48' : ¬ (281474976710656 < Builtin.nextslicecap m 0 * i.bytes) := by rw [nextslicecap_zero (by omega)]; have hb := hby; simp only [Nat.zero_add] at hb; omega
      have hfd := hf w.drew rfl
      have hgr := grown 0 (by omega)
      simp only [Nat.zero_add, List.nil_append, Array.empty_append] at hgr ⊢
      refine ⟨_, _, ?_, hgr, .inr ⟨rfl, drewN_alloc_below w _⟩⟩
      simp [Builtin.append_, run_underlying ht, run_underlying htx, sizeOf, typeInfo, zeroValue, hi, hz, hlen, hzero, hm, h63', h48', Question.forced, run_firstCells_none, hfd, Go.newRow, grownCap]
  · by_cases hroom : n + m ≤ cap
    · have hfit : n * i.size + news.length ≤ cur.size := by rw [hl, hcs, ← Nat.add_mul]; exact Nat.mul_le_mul_right _ hroom
      have hst := run_storeCells_at P b (n * i.size) e news 0 cur w hg (by simpa using hfit) h1
      simp only [Nat.add_zero] at hst
      have hfw := hf w rfl
      refine ⟨.slice (some ⟨b, 0, none⟩) (n + m) cap, w.setRow b (cur.toList.take (n * i.size) ++ news ++ cur.toList.drop (n * i.size + news.length)).toArray, ?_, ⟨hlen', .inr ⟨b, cap, _, rfl, hbg, setRow_heap w b cur _ e _ hg, hroom, hcm, ?_, ?_⟩⟩, .inl ⟨rfl, rfl, rfl, rfl, by simp, fun b' hb' => setRow_other w b b' _ (fun e => hb' (by rw [e]; rfl))⟩⟩
      · simp [Builtin.append_, run_underlying ht, run_underlying htx, sizeOf, typeInfo, hi, hlen, hzero, hroom, hfw, Addr.add_lit, hst]
      · simp only [List.size_toArray, List.length_append, List.length_take, List.length_drop, Array.length_toList]
        omega
      · rw [htake, ← hlen']
        exact List.take_left
    · have holds : ∀ j u, xs[j]? = some u → w.cell? ((⟨b, 0, none⟩ : Addr).add j) = some u := hown.cells (g := b) rfl
      have hn : ¬ (n + m ≤ cap) := hroom
      have h63' : ¬ (9223372036854775807 < ((n : Int) + (m : Int))) := by omega
      have h48' : ¬ (281474976710656 < Builtin.nextslicecap (n + m) cap * i.bytes) := by have := growslice_fits (show cap < n + m by omega) hby; omega
      have hfd := hf w.drew rfl
      have hfo := run_firstCells_some (P := P) w.drew i.size n ⟨b, 0, none⟩ n cap xs hxl (by simpa using holds)
      refine ⟨_, _, ?_, grown cap (by omega), .inr ⟨rfl, drewN_alloc_below w _⟩⟩
      simp [Builtin.append_, run_underlying ht, run_underlying htx, sizeOf, typeInfo, zeroValue, hi, hz, hlen, hzero, hn, h63', h48', Question.forced, hfd, hfo, Go.newRow, grownCap]
      congr 2
      apply Array.ext'
      simp [List.append_assoc]

/-- A row grows: the elder object is gone, a new one has all. -/
theorem Sim.grow (S : Sim base w0 lm0 N g a w s) {d id e k : Nat} {l l' : List (List PV)} (hd : get s.h d = some (.row e k false l)) (hid : get s.h id = none) (hid2 : id < 1000000) {w' : World} {v' : Value} {xs' : List Value} (hk : ∀ c ∈ l', c.length = k) (hown : w'.ownsRow base e k v' l'.length xs') (hr : RepL w g.lm l'.flatten xs') (h1 : ∀ u ∈ xs', u.oneCell' = true)
    (hc : (blk v' = blk (g.v d) ∧ w'.os = w.os ∧ w'.tape = w.tape ∧ w'.output = w.output ∧ w'.heap.size = w.heap.size ∧ ∀ b, blk (g.v d) ≠ some b → w'.heap[b]? = w.heap[b]?) ∨ (blk v' = some w.heap.size ∧ Below w.heap.size w w')) :
    ∃ g' : Gs, g'.v id = v' ∧ Sim base w0 lm0 N g' a w' ⟨s.t, AM.put (AM.put s.h d .dead) id (.row e k false l')⟩ := by
  have hlm0 : ∀ b, blk (g.v d) = some b → g.lm b = 0 := fun b hb => by simpa using (S.ob d _ hd).2.2.2 b hb
  have hne : id ≠ d := fun h => by rw [h, hd] at hid; simp at hid
  let lm' : Nat → Nat := fun b => if b = w.heap.size then 0 else g.lm b
  have hbl : ∀ b, b < w.heap.size → lm' b = g.lm b := fun b h => if_neg (by omega)
  have hheap : ∀ b, b < w.heap.size → blk (g.v d) ≠ some b → w'.heap[b]? = w.heap[b]? := by
    intro b hb hb'
    rcases hc with ⟨_, _, _, _, _, h⟩ | ⟨_, h⟩
    · exact h b hb'
    · exact h.block b hb
  have hext : Ext w g.lm w' lm' := by
    intro b of u hcell ho
    have hb := cell_lt hcell
    have hb' : blk (g.v d) ≠ some b := fun h => by have := hlm0 b h; omega
    exact ⟨(World.cell?_of_block (a := ⟨b, of, none⟩) (hheap b hb hb')).trans hcell, by rw [hbl b hb]; exact ho⟩
  have hbelow : Below base w w' := by
    rcases hc with ⟨h0, h1, h2, h3, h4, h5⟩ | ⟨_, h⟩
    · refine ⟨h1, h2, h3, by omega, fun b hb => h5 b fun hq => ?_⟩
      have := ((S.ob d _ hd).block rfl hq).1
      omega
    · exact h.mono S.bw
  have hv'lm : ∀ b, blk v' = some b → lm' b = 0 := by
    intro b hb
    rcases hc with ⟨h0, _⟩ | ⟨h0, _⟩
    · rw [h0] at hb
      rw [hbl b ((S.ob d _ hd).block rfl hb).2, hlm0 b hb]
    · rw [h0] at hb
      obtain rfl := Option.some.inj hb
      exact if_pos rfl
  have hni : ∀ d1 o1 x, get s.h d1 = some o1 → Ids d1 o1 x → x ≠ id := fun d1 o1 x h1 hi e => by
    have := hi.lt (by rw [e]; exact hid2)
    rw [← this, e, hid] at h1
    simp at h1
  have keep : ∀ {d1 o1}, get (AM.put (AM.put s.h d .dead) id (.row e k false l')) d1 = some o1 → id ≠ d1 → o1.live = true → get s.h d1 = some o1 ∧ d ≠ d1 := by
    intro d1 o1 h hi hl
    rw [get_put_ne _ hi] at h
    by_cases h3 : d = d1
    · rw [← h3, get_put_same] at h
      obtain rfl := Option.some.inj h
      simp [Ob.live] at hl
    · rw [get_put_ne _ h3] at h
      exact ⟨h, h3⟩
  refine ⟨⟨lm', upd g.v id v'⟩, upd_same _ _ _, S.turn ⟨hext, fun d1 o1 hd1 => ?_⟩ hbelow (fun b hb => hbl b (Nat.lt_of_lt_of_le hb S.bw)) (fun d1 o1 hd1 => ?_) (fun d1 o1 hd1 => ?_) ?_⟩
  · have h2 : d1 ≠ id := fun h => by rw [h, hid] at hd1; simp at hd1
    rw [get_put_ne _ (Ne.symm h2)]
    by_cases h3 : d = d1
    · exact .inl (by rw [← h3, get_put_same])
    · exact .inr ⟨upd_ne _ h2 _, o1, by rw [get_put_ne _ h3]; exact hd1, Shp.refl _⟩
  · by_cases h2 : id = d1
    · subst h2
      rw [get_put_same] at hd1
      obtain rfl := Option.some.inj hd1
      refine ⟨(S.ob d _ hd).1, hk, ⟨xs', by simp only [upd_same]; exact hown, hr.ext hext, h1⟩, fun b hb => ?_⟩
      simp only [upd_same] at hb
      simpa using hv'lm b hb
    · rw [get_put_ne _ h2] at hd1
      by_cases h3 : d = d1
      · subst h3
        rw [get_put_same] at hd1
        obtain rfl := Option.some.inj hd1
        trivial
      · rw [get_put_ne _ h3] at hd1
        refine (S.ob d1 o1 hd1).keep (fun x hi => upd_ne _ (hni d1 o1 x hd1 hi) _) hext fun hl x hi b hb => ?_
        have hb2 := ((S.ob d1 o1 hd1).blockI hl hi hb).2
        exact ⟨hheap b hb2 fun hq => S.far hd hd1 rfl hl (.self _ _) hi (S.ne hd hd1 h3 (.self _ _) hi) hq hb, hbl b hb2⟩
  · by_cases h2 : id = d1
    · subst h2; exact hid2
    · rw [get_put_ne _ h2] at hd1
      by_cases h3 : d = d1
      · subst h3; exact S.lt _ _ hd
      · rw [get_put_ne _ h3] at hd1; exact S.lt _ _ hd1
  · obtain ⟨own, hap⟩ := S.ap
    refine ⟨fun b => if blk v' = some b then id else own b, fun d1 o1 x b hd1 l1 hi hb => ?_⟩
    dsimp only
    by_cases h2 : id = d1
    · subst h2
      rw [get_put_same] at hd1
      obtain rfl := Option.some.inj hd1
      obtain rfl := hi.plain rfl
      simp only [upd_same] at hb
      exact if_pos hb
    · obtain ⟨q1, q2⟩ := keep hd1 h2 l1
      simp only [upd_ne _ (hni d1 o1 x q1 hi)] at hb
      rw [if_neg]
      · exact hap d1 o1 x b q1 l1 hi hb
      · intro hb'
        have hb2 := ((S.ob d1 o1 q1).blockI l1 hi hb).2
        rcases hc with ⟨h0, _⟩ | ⟨h0, _⟩
        · rw [h0] at hb'
          exact S.far hd q1 rfl l1 (.self _ _) hi (S.ne hd q1 q2 (.self _ _) hi) hb' hb
        · rw [h0] at hb'
          have := Option.some.inj hb'
          omega
end
end Go.Proofs.Ytomnggbideepeaa.AM

end
section
/- The small machine's operations that write, the last ones. No condition. -/
namespace Go.Proofs.Ytomnggbideepeaa.AM
open Go Go.RowKit
set_option linter.unusedVariables false
set_option linter.unusedSimpArgs false

section
variable {P : Program} {base : Nat} {w0 : World} {lm0 : Nat → Nat} {N : Nat} {g : Gs} {a : Act} {w : World} {s : St} {o : Oper}

/-- What append asks of an element's type: size, bytes, a zero value of that size. -/
def elOk (P : Program) (e k by_ : Nat) : Bool := match P.info? e with
  | some i => decide (i.size = k) && decide (i.bytes = by_) && (match i.zero with | some z => decide (z.cells.size = k) | none => false)
  | none => false
theorem elOk_sound {e k by_ : Nat} (h : elOk P e k by_ = true) : ∃ i z, P.info? e = some i ∧ i.zero = some z ∧ i.size = k ∧ i.bytes = by_ ∧ z.cells.size = k := by
  unfold elOk at h
  cases hi : P.info? e with
  | none => rw [hi] at h; simp at h
  | some i =>
    rw [hi] at h
    simp only [Bool.and_eq_true, decide_eq_true_eq] at h
    obtain ⟨⟨h1, h2⟩, h3⟩ := h
    cases hz : i.zero with
    | none => rw [hz] at h3; simp at h3
    | some z => rw [hz] at h3; exact ⟨i, z, rfl, hz, h1, h2, by simpa using h3⟩

theorem src_slice {ad : Option Addr} {len cap k : Nat} {news : List Value} (hn : len = 0 ∧ news = [] ∨ ∃ b o, ad = some ⟨b, o, none⟩ ∧ ∀ j u, news[j]? = some u → w.cell? ⟨b, o + j, none⟩ = some u) (hl : news.length = len * k) :
    (∀ w', (Builtin.lenOf (.slice ad len cap)).run P w' = .ok len w') ∧ ∀ w', w'.heap = w.heap → (Builtin.firstCells k len (.slice ad len cap)).run P w' = .ok news.toArray w' := by
  refine ⟨fun w' => rfl, fun w' hw => ?_⟩
  rcases hn with ⟨rfl, rfl⟩ | ⟨b, o, rfl, hc⟩
  · cases ad with
    | none => rfl
    | some ad => simp [Builtin.firstCells, loadCells, loadCellsFrom]
  · exact run_firstCells_some (P := P) w' k len ⟨b, o, none⟩ len cap news hl (fun j v hv => by rw [add_n]; rw [World.cell?_of_block (w := w) (by rw [hw])]; exact hc j v hv)

theorem eff_app (S : Sim base w0 lm0 N g a w s) {t : TypeId} {e k by_ : Nat} (h0 : 0 < k) {x y : Operand} {x' y' : X} {call : Call} {d : Nat} {r : Eff} (ho : o.op = .call { callee := .builtin .append, args := #[x, y], argTypes := #[t, t] }) (ht : P.underlying t = some (.slice e)) (hel : elOk P e k by_ = true)
    (hx : okX x x' = true) (hy : okX y y' = true) (he : eff call s d (.app e k by_ x' y') = some r) : EffOK P base w0 lm0 N g a w s o r := by
  obtain ⟨i, z, hi, hz, rfl, rfl, hzs⟩ := elOk_sound hel
  simp only [eff] at he
  cases hvx : x'.ev s with
  | none => rw [hvx] at he; simp at he
  | some vx =>
    cases hvy : y'.ev s with
    | none => rw [hvx, hvy] at he; simp at he
    | some vy =>
      rw [hvx, hvy] at he
      dsimp only at he
      cases hes : elems s.h vy with
      | none => rw [hes] at he; simp at he
      | some q =>
        obtain ⟨k2, ys⟩ := q
        rw [hes] at he
        dsimp only at he
        split at he
        case isFalse => simp at he
        rename_i hk2
        subst hk2
        have hrx := okX_sound S hx hvx
        obtain ⟨ady, capy, huy, hcy, hly⟩ := elems_sound S (okX_sound S hy hvy) hes
        obtain ⟨news, hn1, hn2, hn3, hyk⟩ : ∃ news, (ys.length = 0 ∧ news = [] ∨ ∃ b o, ady = some ⟨b, o, none⟩ ∧ ∀ j u, news[j]? = some u → w.cell? ⟨b, o + j, none⟩ = some u) ∧ RepL w g.lm ys.flatten news ∧ (∀ u ∈ news, u.oneCell' = true) ∧ ∀ c ∈ ys, c.length = i.size := by
          rcases hly with rfl | ⟨_, hk, b, of, vs, rfl, hrl, hm, h1⟩
          · exact ⟨[], .inl ⟨rfl, rfl⟩, .nil, by simp, by simp⟩
          · exact ⟨vs, .inr ⟨b, of, rfl, hm⟩, hrl, h1, hk⟩
        have hnl : news.length = ys.length * i.size := by rw [← hn2.length, flatten_len hyk]
        obtain ⟨hlen, hf⟩ := src_slice (P := P) (cap := capy) hn1 hnl
        cases vx with
        | ms d' off len =>
          dsimp only at he
          cases hd : get s.h d' with
          | none => rw [hd] at he; simp at he
          | some ob =>
            cases ob with
            | row e' k' fz l =>
              cases fz with
              | true => rw [hd] at he; simp at he
              | false =>
                rw [hd] at he
                dsimp only at he
                split at he
                case isFalse => simp at he
                rename_i hc
                obtain ⟨rfl, rfl, rfl, rfl, hby, h63⟩ := hc
                cases hid : newId s.h d with
                | none => rw [hid] at he; simp at he
                | some id =>
                  rw [hid] at he
                  simp only [Option.some.injEq] at he
                  subst he
                  simp only [SRep, hd] at hrx
                  have hux : a.eval x = g.v d' := by
                    rcases hrx.2 with h | h
                    · exact h.2.2
                    · exact absurd h.1 (by simp)
                  obtain ⟨_, hk', ⟨xs, h3, h4, h5⟩, _⟩ := S.ob d' _ hd
                  obtain ⟨v', w', hrun, hown, hcase⟩ := run_app (P := P) (ty := o.type) ht ht (by simp) hi hz hzs h3 hnl hn3 hlen hf (by simp only [maxLen]; omega) (by simpa [maxBytes] using hby) S.bw
                  obtain ⟨g', hg', S'⟩ := S.grow hd (newId_none hid) (newId_lt hid) (l' := l ++ ys) (xs' := xs ++ news) (by
                      intro c hc
                      rcases List.mem_append.1 hc with h | h
                      · exact hk' c h
                      · exact hyk c h) (by rw [List.length_append]; exact hown) (by rw [List.flatten_append]; exact h4.append hn2) (by
                      intro u hu
                      rcases List.mem_append.1 hu with h | h
                      · exact h5 u h
                      · exact hn3 u h) hcase
                  refine EffOK.mk' (u := v') rfl ?_ S' ?_
                  · simp only [execOp, ho, resolve, invoke, builtin, Sem.run_bind, Sem.run_pure, Result.andThen_ok, List.map_toArray, List.map_cons, List.map_nil, hux, huy, hrun]
                  · have := srep_new_ms (w' := w') (g' := g') (h' := AM.put (AM.put s.h d' .dead) id (.row e' i.size false (l ++ ys))) (get_put_same _ _ _) (n := l.length + ys.length) (by simp)
                    rw [hg'] at this
                    exact this
            | _ => rw [hd] at he; simp at he
        | xs k' l =>
          dsimp only at he
          split at he
          case isFalse => simp at he
          rename_i hc
          obtain ⟨rfl, hby, h63⟩ := hc
          obtain ⟨adx, hux, _, hk', hlx⟩ := hrx
          cases ys with
          | nil =>
            rw [if_pos List.length_nil] at he
            simp only [Option.some.injEq] at he
            subst he
            refine EffOK.pure S (u := a.eval x) ?_ (okX_sound S hx hvx)
            have h9 := hf w rfl
            rcases hn1 with ⟨_, rfl⟩ | ⟨b, of, rfl, _⟩
            · simp only [List.length_nil] at h9 huy
              cases adx <;> simp [execOp, ho, resolve, invoke, builtin, hux, huy, Builtin.append_, run_underlying ht, sizeOf, typeInfo, hi, Builtin.lenOf, h9, storeCells]
            · have hnn : news = [] := List.eq_nil_of_length_eq_zero (by simpa using hnl)
              subst hnn
              simp only [List.length_nil] at h9 huy
              cases adx <;> simp [execOp, ho, resolve, invoke, builtin, hux, huy, Builtin.append_, run_underlying ht, sizeOf, typeInfo, hi, Builtin.lenOf, h9, storeCells]
          | cons y0 ys =>
            rw [if_neg (by simp)] at he
            cases hid : newId s.h d with
            | none => rw [hid] at he; simp at he
            | some id =>
              rw [hid] at he
              simp only [Option.some.injEq] at he
              subst he
              have hpos : 0 < (y0 :: ys).length := by simp
              generalize hys : y0 :: ys = yy at *
              clear hys
              obtain ⟨olds, ho1, ho2, ho3⟩ : ∃ olds, (l.length = 0 ∧ olds = [] ∨ ∃ b o, adx = some ⟨b, o, none⟩ ∧ ∀ j u, olds[j]? = some u → w.cell? ⟨b, o + j, none⟩ = some u) ∧ RepL w g.lm l.flatten olds ∧ ∀ u ∈ olds, u.oneCell' = true := by
                rcases hlx with rfl | ⟨b, of, vs, rfl, hrl, hm⟩
                · exact ⟨[], .inl ⟨rfl, rfl⟩, .nil, by simp⟩
                · refine ⟨vs, .inr ⟨b, of, rfl, fun j u h => (hm j u h).1⟩, hrl, fun u hu => ?_⟩
                  obtain ⟨j, hj, e⟩ := List.getElem_of_mem hu
                  exact (hm j u (by rw [List.getElem?_eq_getElem hj, e])).2.2
              have hol : olds.length = l.length * i.size := by rw [← ho2.length, flatten_len hk']
              obtain ⟨_, hfo⟩ := src_slice (P := P) (cap := l.length) ho1 hol
              have n1 : ¬ (l.length + yy.length ≤ l.length) := by omega
              have n2 : ¬ (9223372036854775807 < ((l.length : Int) + (yy.length : Int))) := by omega
              have n3 : ¬ (281474976710656 < Builtin.nextslicecap (l.length + yy.length) l.length * i.bytes) := by
                have := growslice_fits (show l.length < l.length + yy.length by omega) (by simpa [maxBytes] using hby)
                omega
              have hge := grownCap_ge w (l.length + yy.length) l.length e
              have hcm := grownCap_le_maxLen w (l.length + yy.length) l.length e (by simp only [maxLen]; omega)
              have hrun : (execOp a.eval o).run P w = .ok (.value (.slice (some ⟨w.heap.size, 0, none⟩) (l.length + yy.length) (grownCap w (l.length + yy.length) l.length e))) (w.drew.alloc (.cells (olds.toArray ++ news.toArray ++ Builtin.zeroCells z.cells (grownCap w (l.length + yy.length) l.length e - (l.length + yy.length))) e)) := by
                have q1 := hf w.drew rfl
                have q2 := hfo w.drew rfl
                simp only [execOp, ho, resolve, invoke, builtin, Sem.run_bind, Sem.run_pure, Result.andThen_ok, List.map_toArray, List.map_cons, List.map_nil, hux, huy]
                simp [Builtin.append_, run_underlying ht, sizeOf, typeInfo, zeroValue, hi, hz, Builtin.lenOf, n1, n2, n3, Question.forced, q1, q2, Go.newRow, grownCap]
                congr 2
                apply Array.ext'
                simp [List.append_assoc]
              have hB := drewN_alloc_below w (.cells (olds.toArray ++ news.toArray ++ Builtin.zeroCells z.cells (grownCap w (l.length + yy.length) l.length e - (l.length + yy.length))) e)
              have hll : (l ++ yy).length = l.length + yy.length := by simp
              have hxsl : (olds ++ news).length = (l ++ yy).length * i.size := by rw [List.length_append, hol, hnl, hll, Nat.add_mul]
              have hlm : ∀ b, b < w.heap.size → upd g.lm w.heap.size 0 b = g.lm b := fun b h => upd_ne _ (by omega) _
              obtain ⟨S', T'⟩ := S.new (id := id) (newId_none hid) (newId_lt hid) hB (lm' := upd g.lm w.heap.size 0) hlm (hop := rfl) (v0 := .slice (some ⟨w.heap.size, 0, none⟩) (l.length + yy.length) (grownCap w (l.length + yy.length) l.length e)) (o := .row e i.size false (l ++ yy))
                (fun b hb => by simp [blk] at hb; omega)
                ⟨h0, by
                  intro c hc
                  rcases List.mem_append.1 hc with h | h
                  · exact hk' c h
                  · exact hyk c h, ⟨olds ++ news, by
                    simp only [upd_same]
                    refine ⟨hxsl, .inr ⟨w.heap.size, _, _, by rw [hll], S.bw, heap_alloc_new w.drew _, by rw [hll]; exact hge, hcm, ?_, ?_⟩⟩
                    · simp only [Array.size_append, List.size_toArray, size_zeroCells, hzs, hol, hnl, ← Nat.add_mul]
                      congr 1
                      omega
                    · simp only [Array.toList_append, List.append_assoc]
                      rw [← List.append_assoc, ← hxsl]
                      exact List.take_left, by rw [List.flatten_append]; exact (ho2.append hn2).ext (Ext.of_below hB hlm), by
                    intro u hu
                    rcases List.mem_append.1 hu with h | h
                    · exact ho3 u h
                    · exact hn3 u h⟩, fun b hb => by
                    simp only [upd_same] at hb
                    simp [blk] at hb
                    subst hb
                    simp [upd_same]⟩
              refine EffOK.mk' rfl hrun S' ?_
              have := srep_new_ms (w' := w.drew.alloc (.cells (olds.toArray ++ news.toArray ++ Builtin.zeroCells z.cells (grownCap w (l.length + yy.length) l.length e - (l.length + yy.length))) e)) (g' := ⟨upd g.lm w.heap.size 0, upd g.v id (.slice (some ⟨w.heap.size, 0, none⟩) (l.length + yy.length) (grownCap w (l.length + yy.length) l.length e))⟩) (h' := AM.put s.h id (.row e i.size false (l ++ yy))) (get_put_same _ _ _) (n := l.length + yy.length) (by simp)
              simp only [upd_same] at this
              exact this
        | _ => simp at he

theorem rep_bytes {lm : Nat → Nat} (b : List UInt8) : RepL w lm ((b.map fun b => [PV.sc (.int .u8 b.toNat)]).flatten) (b.map fun b => Value.int .u8 b.toNat) := by
  induction b with
  | nil => exact .nil
  | cons x b ih => exact .cons (.sc _) ih

theorem eff_apps (S : Sim base w0 lm0 N g a w s) {t tx : TypeId} {e by_ : Nat} {x y : Operand} {x' y' : X} {call : Call} {d : Nat} {r : Eff} (ho : o.op = .call { callee := .builtin .append, args := #[x, y], argTypes := #[t, tx] }) (ht : P.underlying t = some (.slice e)) (htx : P.underlying tx = some .string) (hel : elOk P e 1 by_ = true)
    (hx : okX x x' = true) (hy : okX y y' = true) (he : eff call s d (.apps e by_ x' y') = some r) : EffOK P base w0 lm0 N g a w s o r := by
  obtain ⟨i, z, hi, hz, hi1, rfl, hzs⟩ := elOk_sound hel
  simp only [eff] at he
  cases hvx : x'.ev s with
  | none => rw [hvx] at he; simp at he
  | some vx =>
    cases hvy : y'.ev s with
    | none => rw [hvx, hvy] at he; cases vx <;> simp at he
    | some vy =>
      rw [hvx, hvy] at he
      split at he
      case h_2 => simp at he
      rename_i d' off len st h1 h2
      obtain rfl := Option.some.inj h1
      obtain rfl := Option.some.inj h2
      have hrx := okX_sound S hx hvx
      have huy := rep_sc (ev_p S hy hvy)
      cases hd : get s.h d' with
      | none => rw [hd] at he; simp at he
      | some ob =>
        cases ob with
        | row e' k' fz l =>
          cases fz with
          | true => rw [hd] at he; simp at he
          | false =>
            rw [hd] at he
            dsimp only at he
            split at he
            case isFalse => simp at he
            rename_i hc
            obtain ⟨rfl, rfl, rfl, rfl, hby, h63⟩ := hc
            cases hid : newId s.h d with
            | none => rw [hid] at he; simp at he
            | some id =>
              rw [hid] at he
              simp only [Option.some.injEq] at he
              subst he
              simp only [SRep, hd] at hrx
              have hux : a.eval x = g.v d' := by
                rcases hrx.2 with h | h
                · exact h.2.2
                · exact absurd h.1 (by simp)
              obtain ⟨_, hk', ⟨xs, h3, h4, h5⟩, _⟩ := S.ob d' _ hd
              have hbl : (st.data.toList.map fun b => Value.int .u8 b.toNat).length = st.size := by simp
              obtain ⟨v', w', hrun, hown, hcase⟩ := run_app (P := P) (ty := o.type) (x := .string st) (m := st.size) (news := st.data.toList.map fun b => Value.int .u8 b.toNat) ht htx (by simp) hi hz (by rw [hzs, hi1]) (by rw [hi1]; exact h3) (by rw [hbl, hi1, Nat.mul_one]) (by simp [Value.oneCell']) (fun w' => rfl) (fun w' _ => by
                  rw [hi1]
                  have := Lib.run_firstCells_string (P := P) w' 1 st
                  rw [this]; rfl) (by simp only [maxLen]; omega) (by simpa [maxBytes] using hby) S.bw
              rw [hi1] at hown
              have hln : (l ++ st.data.toList.map fun b => [PV.sc (.int .u8 b.toNat)]).length = l.length + st.size := by simp
              obtain ⟨g', hg', S'⟩ := S.grow hd (newId_none hid) (newId_lt hid) (l' := l ++ st.data.toList.map fun b => [PV.sc (.int .u8 b.toNat)]) (xs' := xs ++ st.data.toList.map fun b => Value.int .u8 b.toNat) (by
                  intro c hc
                  rcases List.mem_append.1 hc with h | h
                  · exact hk' c h
                  · obtain ⟨b, _, rfl⟩ := List.mem_map.1 h; rfl) (by rw [hln]; exact hown) (by rw [List.flatten_append]; exact h4.append (rep_bytes _)) (by
                  intro u hu
                  rcases List.mem_append.1 hu with h | h
                  · exact h5 u h
                  · obtain ⟨b, _, rfl⟩ := List.mem_map.1 h; rfl) hcase
              refine EffOK.mk' (u := v') rfl ?_ S' ?_
              · simp only [execOp, ho, resolve, invoke, builtin, Sem.run_bind, Sem.run_pure, Result.andThen_ok, List.map_toArray, List.map_cons, List.map_nil, hux, huy, hrun]
              · have := srep_new_ms (w' := w') (g' := g') (h' := AM.put (AM.put s.h d' .dead) id (.row e' 1 false (l ++ st.data.toList.map fun b => [PV.sc (.int .u8 b.toNat)]))) (get_put_same _ _ _) (n := l.length + st.size) hln.symm
                rw [hg'] at this
                exact this
        | _ => rw [hd] at he; simp at he
end
end Go.Proofs.Ytomnggbideepeaa.AM

end
section
/- make, copy, range over a string. No condition. -/
namespace Go.Proofs.Ytomnggbideepeaa.AM
open Go Go.RowKit
set_option linter.unusedVariables false
set_option linter.unusedSimpArgs false

section
variable {P : Program} {base : Nat} {w0 : World} {lm0 : Nat → Nat} {N : Nat} {g : Gs} {a : Act} {w : World} {s : St} {o : Oper}

theorem madeCells_succ (z : Array Value) (n : Nat) (hz : 0 < z.size) : (madeCells z ((n + 1) * z.size)).toList = (madeCells z (n * z.size)).toList ++ z.toList := by
  have e1 : ∀ m, (madeCells z m).toList = (List.range m).map fun i => z[i % z.size]! := fun m => by simp [madeCells, Array.toList_range]
  rw [e1, e1, Nat.add_mul, Nat.one_mul, List.range_add, List.map_append, List.map_map]
  congr 1
  apply List.ext_getElem?
  intro j
  by_cases hj : j < z.size
  · have h1 : (n * z.size + j) % z.size = j := by rw [Nat.mul_comm, Nat.mul_add_mod]; exact Nat.mod_eq_of_lt hj
    simp [hj, h1]
  · simp [hj]
theorem made_rep {lm : Nat → Nat} {z : Array Value} {zp : List PV} (hz : 0 < z.size) (h : RepL w lm zp z.toList) (h1 : ∀ u ∈ z.toList, u.oneCell' = true) : ∀ n, RepL w lm (List.replicate n zp).flatten (madeCells z (n * z.size)).toList ∧ ∀ u ∈ (madeCells z (n * z.size)).toList, u.oneCell' = true
  | 0 => by simp [madeCells]; exact .nil
  | n + 1 => by
    obtain ⟨h2, h3⟩ := made_rep hz h h1 n
    rw [madeCells_succ z n hz, List.replicate_succ', List.flatten_append]
    refine ⟨h2.append (by simpa using h), fun u hu => ?_⟩
    rcases List.mem_append.1 hu with h4 | h4
    · exact h3 u h4
    · exact h1 u h4

theorem eff_mks (S : Sim base w0 lm0 N g a w s) {t : TypeId} {e k by_ : Nat} (h0 : 0 < k) {z : List PV} {zv : Value} {x y : Operand} {x' y' : X} {call : Call} {d : Nat} {r : Eff} (ho : o.op = .makeSlice t x y) (ht : P.underlying t = some (.slice e)) (hel : elOk P e k by_ = true) (hz : (P.info? e).bind (·.zero) = some zv) (hok : okZ zv.cells.toList z = true)
    (hx : okX x x' = true) (hy : okX y y' = true) (he : eff call s d (.mks e k by_ z x' y') = some r) : EffOK P base w0 lm0 N g a w s o r := by
  obtain ⟨i, z', hi, hz', rfl, rfl, hzs⟩ := elOk_sound hel
  have hzz : zv = z' := by rw [hi] at hz; simp [hz'] at hz; exact hz.symm
  subst hzz
  simp only [eff] at he
  cases hvx : x'.ev s with
  | none => rw [hvx] at he; simp at he
  | some vx =>
    cases hvy : y'.ev s with
    | none => rw [hvx, hvy] at he; simp at he
    | some vy =>
      rw [hvx, hvy] at he
      dsimp only at he
      cases hnx : natOf vx with
      | none => rw [hnx] at he; simp at he
      | some n =>
        cases hny : natOf vy with
        | none => rw [hnx, hny] at he; simp at he
        | some m =>
          rw [hnx, hny] at he
          dsimp only at he
          split at he
          case isFalse => simp at he
          rename_i hc
          obtain ⟨hnm, hby, h63⟩ := hc
          cases hid : newId s.h d with
          | none => rw [hid] at he; simp at he
          | some id =>
            rw [hid] at he
            simp only [Option.some.injEq] at he
            subst he
            obtain ⟨kx, hux⟩ := natOf_sound S hx hvx hnx
            obtain ⟨ky, huy⟩ := natOf_sound S hy hvy hny
            obtain ⟨q1, q2⟩ := okZ_sound (w := w) (lm := g.lm) hok
            have hrun := run_make (P := P) w t e i zv ht hi hz' kx ky n m (by omega) (by omega) (by
              have : ((i.bytes * m : Nat) : Int) ≤ 281474976710656 := by
                have : i.bytes * m = m * i.bytes := Nat.mul_comm _ _
                simp only [maxBytes] at hby
                omega
              rwa [Int.natCast_mul] at this) (by omega)
            simp only [Int.toNat_natCast] at hrun
            rw [← hzs] at hrun
            have hzl : z.length = i.size := by rw [q1.length, Array.length_toList, hzs]
            obtain ⟨q3, q4⟩ := made_rep (n := n) (by rw [hzs]; exact h0) q1 q2
            have hsz : (madeCells zv.cells (m * zv.cells.size)).size = m * i.size := by rw [size_madeCells, hzs]
            have htake : (madeCells zv.cells (m * zv.cells.size)).toList.take (n * i.size) = (madeCells zv.cells (n * zv.cells.size)).toList := by
              have e1 : ∀ m, (madeCells zv.cells m).toList = (List.range m).map fun i => zv.cells[i % zv.cells.size]! := fun m => by simp [madeCells, Array.toList_range]
              rw [e1, e1, ← List.map_take, List.take_range, hzs, Nat.min_eq_left (Nat.mul_le_mul_right _ hnm)]
            have hB := below_alloc' w (.cells (madeCells zv.cells (m * zv.cells.size)) e)
            have hlm : ∀ b, b < w.heap.size → upd g.lm w.heap.size 0 b = g.lm b := fun b h => upd_ne _ (by omega) _
            obtain ⟨S', T'⟩ := S.new (id := id) (newId_none hid) (newId_lt hid) hB (lm' := upd g.lm w.heap.size 0) hlm (hop := rfl) (v0 := .slice (some ⟨w.heap.size, 0, none⟩) n m) (o := .row e i.size false (List.replicate n z))
              (fun b hb => by simp [blk] at hb; omega)
              ⟨h0, by
                intro c hc
                rw [List.eq_of_mem_replicate hc]; exact hzl, ⟨(madeCells zv.cells (n * zv.cells.size)).toList, by
                simp only [upd_same]
                refine ⟨?_, .inr ⟨w.heap.size, m, _, by simp, S.bw, heap_alloc_new w _, by simpa using hnm, by simp only [maxLen]; omega, hsz, by simpa using htake⟩⟩
                simp [size_madeCells, hzs], q3.ext (Ext.of_below hB hlm), q4⟩, fun b hb => by
                simp only [upd_same] at hb
                simp [blk] at hb
                subst hb
                simp [upd_same]⟩
            refine EffOK.mk' (u := .slice (some ⟨w.heap.size, 0, none⟩) n m) rfl ?_ S' ?_
            · simp only [execOp, ho, hux, huy, Sem.run_bind, hrun, Result.andThen_ok, Sem.run_pure]
            · have := srep_new_ms (w' := w.alloc (.cells (madeCells zv.cells (m * zv.cells.size)) e)) (g' := ⟨upd g.lm w.heap.size 0, upd g.v id (.slice (some ⟨w.heap.size, 0, none⟩) n m)⟩) (h' := AM.put s.h id (.row e i.size false (List.replicate n z))) (get_put_same _ _ _) (n := n) (by simp)
              simp only [upd_same] at this
              exact this

theorem eff_cpy (S : Sim base w0 lm0 N g a w s) {t t2 el : TypeId} {k : Nat} (h0 : 0 < k) {x y : Operand} {x' y' : X} {call : Call} {d : Nat} {r : Eff} (ho : o.op = .call { callee := .builtin .copy, args := #[x, y], argTypes := #[t, t2] }) (ht : P.underlying t = some (.slice el)) (hk : P.cellsOf el = k)
    (hx : okX x x' = true) (hy : okX y y' = true) (he : eff call s d (.cpy k x' y') = some r) : EffOK P base w0 lm0 N g a w s o r := by
  simp only [eff] at he
  cases hvx : x'.ev s with
  | none => rw [hvx] at he; simp at he
  | some vx =>
    cases hvy : y'.ev s with
    | none => rw [hvx, hvy] at he; cases vx <;> simp at he
    | some vy =>
      rw [hvx, hvy] at he
      cases vx with
      | ms d' off len =>
        dsimp only at he
        cases hes : elems s.h vy with
        | none => rw [hes] at he; simp at he
        | some q =>
          obtain ⟨k2, ys⟩ := q
          rw [hes] at he
          dsimp only at he
          cases hd : get s.h d' with
          | none => rw [hd] at he; simp at he
          | some ob =>
            cases ob with
            | row e k' fz l =>
              cases fz with
              | true => rw [hd] at he; simp at he
              | false =>
                rw [hd] at he
                dsimp only at he
                split at he
                case isFalse => simp at he
                rename_i hc
                obtain ⟨rfl, rfl, hol⟩ := hc
                simp only [Option.some.injEq] at he
                subst he
                have hrx := okX_sound S hx hvx
                obtain ⟨adx, capx, hux, hcx⟩ := svLen_sound S hrx (n := len) (by simp [svLen, hd])
                obtain ⟨ady, capy, huy, hcy, hly⟩ := elems_sound S (okX_sound S hy hvy) hes
                obtain ⟨_, hk', ⟨xs0, h30, _⟩, _⟩ := S.ob d' _ hd
                have hz : Nat.min ys.length len = min ys.length len := rfl
                by_cases hn0 : min ys.length len = 0
                · -- nothing is copied
                  have hrun : (execOp a.eval o).run P w = .ok (.value (.int .i64 0)) w := by
                    have hf : (Builtin.firstCells k' 0 (.slice ady ys.length capy)).run P w = .ok #[] w := by cases ady <;> simp [Builtin.firstCells, loadCells, loadCellsFrom]
                    cases adx <;> simp [execOp, ho, resolve, invoke, builtin, hux, huy, Builtin.copy_, run_underlying ht, Builtin.lenOf, hz, hn0, run_sizeOf hk h0, hf, storeCells, goInt]
                  have hl : l.take off ++ ys.take len ++ l.drop (off + min ys.length len) = l := by
                    have : ys.take len = [] := by
                      apply List.eq_nil_of_length_eq_zero
                      rw [List.length_take]; omega
                    rw [this, hn0]; simp
                  refine EffOK.mk' (g' := ⟨g.lm, g.v⟩) (h' := AM.put s.h d' (.row e k' false (l.take off ++ ys.take len ++ l.drop (off + min ys.length len)))) rfl hrun ?_ (by rw [hn0]; exact Rep.sc _)
                  rw [hl]
                  have := S.cells1 (w' := w) (d := d') (lm' := g.lm) hd (o' := .row e k' false l) ⟨rfl, rfl⟩ rfl rfl rfl (Ext.refl _ _) (Below.refl _ _) (fun b _ _ => ⟨rfl, rfl⟩) (S.ob d' _ hd)
                  exact this
                · rcases hly with rfl | ⟨_, hyk, b2, of2, vs, rfl, hrl2, hm2, h12⟩
                  · simp at hn0
                  have hb : ∃ b, blk (g.v d') = some b ∧ adx = some ⟨b, off * k', none⟩ := by
                    simp only [SRep, hd] at hrx
                    obtain ⟨_, hr⟩ := hrx
                    rcases hr with ⟨rfl, rfl, hu'⟩ | ⟨_, ad', cap', hu', _, hz'⟩
                    · rcases h30.2 with ⟨hv0, h0'⟩ | ⟨b, cap'', cur, hv0, _⟩
                      · omega
                      · rw [hux, hv0] at hu'
                        simp only [Value.slice.injEq] at hu'
                        exact ⟨b, by rw [hv0]; rfl, by rw [hu'.1]; simp⟩
                    · rw [hux] at hu'
                      simp only [Value.slice.injEq] at hu'
                      rcases hz' with hz' | ⟨b, hb, e⟩
                      · omega
                      · exact ⟨b, hb, by rw [hu'.1]; exact e⟩
                  obtain ⟨b, hb, rfl⟩ := hb
                  obtain ⟨cap, cur, xs, hv, hbase, hlc, hcm, hg, hcs, hxs, hrl, h1⟩ := own_row S hd hb
                  generalize hmn : min ys.length len = n at *
                  have hvsl : vs.length = ys.length * k' := by rw [← hrl2.length, flatten_len hyk]
                  have hnk : n * k' ≤ ys.length * k' := Nat.mul_le_mul_right _ (by omega)
                  have hcl : (vs.take (n * k')).length = n * k' := by simp; omega
                  have hon : off * k' + n * k' ≤ l.length * k' := by rw [← Nat.add_mul]; exact Nat.mul_le_mul_right _ (by omega)
                  have hlcap : l.length * k' ≤ cap * k' := Nat.mul_le_mul_right _ hlc
                  have h13 : ∀ u ∈ vs.take (n * k'), u.oneCell' = true := fun u hu => h12 u (List.mem_of_mem_take hu)
                  have hst := run_storeCells_at P b (off * k') e (vs.take (n * k')) 0 cur w hg (by rw [hcl]; omega) h13
                  simp only [Nat.add_zero, hcl] at hst
                  have hf := run_firstCells_some (P := P) w k' n ⟨b2, of2, none⟩ ys.length capy (vs.take (n * k')) hcl (fun j v hv => by
                    rw [add_n]
                    rw [List.getElem?_take] at hv
                    split at hv
                    · exact hm2 j v hv
                    · simp at hv)
                  have hrun : (execOp a.eval o).run P w = .ok (.value (.int .i64 n)) (w.setRow b (cur.toList.take (off * k') ++ vs.take (n * k') ++ cur.toList.drop (off * k' + n * k')).toArray) := by
                    have hz2 : Nat.min ys.length len = n := hmn
                    simp [execOp, ho, resolve, invoke, builtin, hux, huy, Builtin.copy_, run_underlying ht, Builtin.lenOf, hz2, run_sizeOf hk h0, hf, hst, goInt]
                  have hytk : ys.take len = ys.take n := by
                    rcases Nat.le_total ys.length len with h | h
                    · rw [List.take_of_length_le h, List.take_of_length_le (by omega)]
                    · congr 1; omega
                  have hnl : ∀ c' ∈ l.take off ++ ys.take len ++ l.drop (off + n), c'.length = k' := by
                    intro c' hc'
                    simp only [List.mem_append] at hc'
                    rcases hc' with (h | h) | h
                    · exact hk' _ (List.mem_of_mem_take h)
                    · exact hyk _ (List.mem_of_mem_take h)
                    · exact hk' _ (List.mem_of_mem_drop h)
                  have hxl : xs.length = l.length * k' := by rw [← hrl.length, flatten_len hk']
                  have hfl : (l.take off ++ ys.take len ++ l.drop (off + n)).flatten = l.flatten.take (off * k') ++ ys.flatten.take (n * k') ++ l.flatten.drop (off * k' + n * k') := by
                    rw [List.flatten_append, List.flatten_append, hytk, ← flatten_take off hk', ← flatten_take n hyk, ← flatten_drop (off + n) hk', Nat.add_mul]
                  have hnew : ((cur.toList.take (off * k') ++ vs.take (n * k') ++ cur.toList.drop (off * k' + n * k')).toArray.toList.take (l.length * k')) = xs.take (off * k') ++ vs.take (n * k') ++ xs.drop (off * k' + n * k') := by
                    rw [← hxs]
                    simp only [List.take_append, List.length_append, List.length_take, Array.length_toList, List.take_take, List.drop_take, hcl]
                    congr 2
                    · congr 1; omega
                    · congr 1; omega
                    · congr 1; omega
                  obtain ⟨S2, T2⟩ := S.setRow hd (l' := l.take off ++ ys.take len ++ l.drop (off + n)) (by simp; omega) hnl hv hbase hlc hcm hg (new := (cur.toList.take (off * k') ++ vs.take (n * k') ++ cur.toList.drop (off * k' + n * k')).toArray) (by simp; omega)
                    (xs := xs.take (off * k') ++ vs.take (n * k') ++ xs.drop (off * k' + n * k')) (by rw [hfl]; exact ((hrl.take _).append (hrl2.take _)).append (hrl.drop _)) hnew (by
                      intro u hu
                      simp only [List.mem_append] at hu
                      rcases hu with (hu | hu) | hu
                      · exact h1 u (List.mem_of_mem_take hu)
                      · exact h13 u hu
                      · exact h1 u (List.mem_of_mem_drop hu))
                  exact EffOK.mk' rfl hrun S2 (Rep.sc _)
            | _ => rw [hd] at he; simp at he
      | _ => simp at he

theorem eff_rng (S : Sim base w0 lm0 N g a w s) {t : TypeId} {x : Operand} {x' : X} {call : Call} {d : Nat} {r : Eff} (ho : o.op = .range t x) (ht : P.underlying t = some .string) (hx : okX x x' = true) (he : eff call s d (.rng x') = some r) : EffOK P base w0 lm0 N g a w s o r := by
  simp only [eff] at he
  split at he
  · rename_i st hv
    cases hid : newId s.h d with
    | none => rw [hid] at he; simp at he
    | some id =>
      rw [hid] at he
      simp only [Option.some.injEq] at he
      subst he
      have hu := rep_sc (ev_p S hx hv)
      have hlm : ∀ b, b < w.heap.size → g.lm b = g.lm b := fun _ _ => rfl
      obtain ⟨S', T'⟩ := S.new (id := id) (newId_none hid) (newId_lt hid) (below_alloc' w (.stringIter st 0)) (lm' := g.lm) hlm (v0 := .pointer (some ⟨w.heap.size, 0, none⟩)) (o := .it st 0) rfl (fun b hb => by simp [blk] at hb; omega) ⟨w.heap.size, upd_same _ _ _, S.bw, heap_alloc_new w _⟩
      refine EffOK.mk' (u := .pointer (some ⟨w.heap.size, 0, none⟩)) rfl ?_ S' ?_
      · simp only [execOp, ho, hu, Sem.run_bind, run_range_string w t st ht, Result.andThen_ok, Sem.run_pure]
        rfl
      · simp only [SRep, putAll, get_put_same, upd_same]
  · simp at he

theorem eff_nxt (S : Sim base w0 lm0 N g a w s) {x : Operand} {x' : X} {call : Call} {d : Nat} {r : Eff} (ho : o.op = .next x true) (hx : okX x x' = true) (he : eff call s d (.nxt x') = some r) : EffOK P base w0 lm0 N g a w s o r := by
  simp only [eff] at he
  cases hv : x'.ev s with
  | none => rw [hv] at he; simp at he
  | some v =>
    rw [hv] at he
    cases v with
    | mp d' i j =>
      dsimp only at he
      cases hd : get s.h d' with
      | none => rw [hd] at he; simp at he
      | some ob =>
        cases ob <;> rw [hd] at he <;> first | (simp at he; done) | skip
        rename_i st pos
        dsimp only at he
        obtain ⟨b, hb1, hb2, hb3⟩ := S.ob d' _ hd
        have hu : a.eval x = .pointer (some ⟨b, 0, none⟩) := by
          have := okX_sound S hx hv
          simp only [SRep, hd] at this
          rw [this, hb1]
        split at he
        · rename_i hlt
          simp only [Option.some.injEq] at he
          subst he
          have hrun := Lib.run_next_any_at (P := P) w b st pos o.type hb3 hlt
          have hext : Ext w g.lm (w.iterAt b st (pos + (Utf8.decode st pos).2)) g.lm := by
            intro b' of u hc hl
            refine ⟨?_, hl⟩
            have hne : b' ≠ b := fun h => by rw [h] at hc; simp [World.cell?, hb3] at hc
            exact (World.cell?_of_block (a := ⟨b', of, none⟩) (Lib.iterAt_other w b b' st _ hne)).trans hc
          have S' := S.cells1 (d := d') (lm' := g.lm) hd (o' := .it st (pos + (Utf8.decode st pos).2)) trivial rfl rfl rfl hext (Lib.below_iterAt (Below.refl _ _) hb2 _ _)
            (fun b' hb' _ => ⟨Lib.iterAt_other _ _ _ _ _ (fun h => hb' (by rw [hb1, h]; rfl)), rfl⟩) ⟨b, hb1, hb2, Lib.iterAt_heap w b st pos _ hb3⟩
          refine EffOK.mk' (g' := ⟨g.lm, g.v⟩) rfl ?_ S' (Rep.tu (vs := [.bool true, .int .i64 pos, .int .i32 (Utf8.decode st pos).1]) (.cons (.sc _) (.cons (.sc _) (.cons (.sc _) .nil))))
          simp only [execOp, ho, hu, Sem.run_bind, hrun, Result.andThen_ok, Sem.run_pure]
        · rename_i hlt
          simp only [Option.some.injEq] at he
          subst he
          have hrun := Lib.run_next_end_at (P := P) w b st pos o.type hb3 hlt
          refine EffOK.pure S (u := .tuple #[.bool false]) ?_ (Rep.tu (vs := [.bool false]) (.cons (.sc _) .nil))
          simp only [execOp, ho, hu, Sem.run_bind, hrun, Result.andThen_ok, Sem.run_pure]
    | _ => simp at he
end
end Go.Proofs.Ytomnggbideepeaa.AM

end
section
/- The small machine's operations on rows with cells that have a slice alone. No condition. -/
namespace Go.Proofs.Ytomnggbideepeaa.AM
open Go Go.RowKit
set_option linter.unusedVariables false
set_option linter.unusedSimpArgs false

section
variable {P : Program} {base : Nat} {w0 : World} {lm0 : Nat → Nat} {N : Nat} {g : Gs} {a : Act} {w : World} {s : St} {o : Oper}

/-- Memory told in another way. -/
theorem Sim.same (S : Sim base w0 lm0 N g a w s) {h : List (Nat × Ob)} (hh : ∀ d, get h d = get s.h d) : Sim base w0 lm0 N g a w ⟨s.t, h⟩ :=
  ⟨S.bas, S.size, S.defers, S.below, S.lm, fun n v hn => let ⟨u, h1, h2⟩ := S.tm n v hn; ⟨u, h1, by rw [show get h = get s.h from funext hh]; exact h2⟩, fun d o hd => S.ob d o (by rw [← hh]; exact hd), fun d o hd => S.lt d o (by rw [← hh]; exact hd), let ⟨own, hap⟩ := S.ap; ⟨own, fun d o x b hd => hap d o x b (by rw [← hh]; exact hd)⟩⟩

/-- One object turns into another one of its shape. -/
theorem Sim.dput (S : Sim base w0 lm0 N g a w s) {d : Nat} {o o' : Ob} (hd : get s.h d = some o) (hlv : o.live = true) {w' : World} {lm' : Nat → Nat} {v' : Nat → Value} (hsh : Shp o o') (hvd : v' d = g.v d) (hvs : ∀ x, x % 1000000 ≠ d → v' x = g.v x) (hx : Ext w g.lm w' lm') (hb : Below base w w')
    (hbl : ∀ b, (∀ x, Ids d o x → blk (g.v x) ≠ some b) → b < w.heap.size → w'.heap[b]? = w.heap[b]? ∧ lm' b = g.lm b) (ho : ORep w' ⟨lm', v'⟩ base d o')
    (hap : ∃ own : Nat → Nat, ∀ d1 o1 x b, get (AM.put s.h d o') d1 = some o1 → o1.live = true → Ids d1 o1 x → blk (v' x) = some b → own b = x) :
    Sim base w0 lm0 N ⟨lm', v'⟩ a w' ⟨s.t, AM.put s.h d o'⟩ ∧ Tr w g (get s.h) w' ⟨lm', v'⟩ (get (AM.put s.h d o')) := by
  have hni : ∀ {d1 o1 x}, get s.h d1 = some o1 → d ≠ d1 → Ids d1 o1 x → x % 1000000 ≠ d := fun h1 hne hi e => hne (e.symm.trans (hi.mod (S.lt _ _ h1)))
  have T : Tr w g (get s.h) w' ⟨lm', v'⟩ (get (AM.put s.h d o')) := ⟨hx, fun d1 o1 h1 => .inr (by
    by_cases e : d = d1
    · subst e
      rw [hd] at h1
      obtain rfl := Option.some.inj h1
      exact ⟨hvd, o', get_put_same _ _ _, hsh⟩
    · exact ⟨hvs _ (hni h1 e (.self _ _)), o1, by rw [get_put_ne _ e]; exact h1, Shp.refl _⟩)⟩
  refine ⟨S.turn T hb (fun b h => ?_) (fun d1 o1 h1 => ?_) (fun d1 o1 h1 => ?_) hap, T⟩
  · refine (hbl b (fun x hx e => ?_) (Nat.lt_of_lt_of_le h S.bw)).2
    have := ((S.ob d o hd).blockI hlv hx e).1
    omega
  · by_cases e : d = d1
    · subst e
      rw [get_put_same] at h1
      obtain rfl := Option.some.inj h1
      exact ho
    · rw [get_put_ne _ e] at h1
      refine (S.ob d1 o1 h1).keep (fun x hi => hvs x (hni h1 e hi)) hx fun hl x hi b hbk => ?_
      exact hbl b (fun y hy => S.far h1 hd hl hlv hi hy (S.ne h1 hd (Ne.symm e) hi hy) hbk) ((S.ob d1 o1 h1).blockI hl hi hbk).2
  · by_cases e : d = d1
    · subst e; exact S.lt _ _ hd
    · rw [get_put_ne _ e] at h1; exact S.lt _ _ h1

/-- An object is gone. -/
theorem Sim.kill (S : Sim base w0 lm0 N g a w s) {d : Nat} {o : Ob} (hd : get s.h d = some o) : Sim base w0 lm0 N g a w ⟨s.t, AM.put s.h d .dead⟩ ∧ Tr w g (get s.h) w g (get (AM.put s.h d .dead)) := by
  have T : Tr w g (get s.h) w g (get (AM.put s.h d .dead)) := ⟨Ext.refl _ _, fun d1 o1 h1 => by
    by_cases e : d = d1
    · exact .inl (by rw [← e, get_put_same])
    · exact .inr ⟨rfl, o1, by rw [get_put_ne _ e]; exact h1, Shp.refl _⟩⟩
  refine ⟨S.turn T (Below.refl _ _) (fun _ _ => rfl) (fun d1 o1 h1 => ?_) (fun d1 o1 h1 => ?_) ?_, T⟩
  · by_cases e : d = d1
    · subst e
      rw [get_put_same] at h1
      obtain rfl := Option.some.inj h1
      trivial
    · rw [get_put_ne _ e] at h1; exact S.ob _ _ h1
  · by_cases e : d = d1
    · subst e; exact S.lt _ _ hd
    · rw [get_put_ne _ e] at h1; exact S.lt _ _ h1
  · obtain ⟨own, hap⟩ := S.ap
    refine ⟨own, fun d1 o1 x b h1 l1 hi hb => ?_⟩
    by_cases e : d = d1
    · subst e
      rw [get_put_same] at h1
      obtain rfl := Option.some.inj h1
      simp [Ob.live] at l1
    · rw [get_put_ne _ e] at h1
      exact hap d1 o1 x b h1 l1 hi hb

theorem plain_flat {l : List (List PV)} (h : plainL l = true) {p : Nat} {e k : Nat} {r : List (List PV)} : l.flatten[p]? ≠ some (.ow e k r) := fun hp => by
  obtain ⟨c, hc, hx⟩ := List.mem_flatten.1 (List.mem_of_getElem? hp)
  have := List.all_eq_true.1 (List.all_eq_true.1 h c hc) _ hx
  simp [PV.noOw] at this

/-- A row of plain cells, told deep. -/
theorem Sim.deepen (S : Sim base w0 lm0 N g a w s) {d e k : Nat} {l : List (List PV)} (hd : get s.h d = some (.row e k false l)) (hp : plainL l = true) : Sim base w0 lm0 N g a w ⟨s.t, AM.put s.h d (.dp e k l)⟩ := by
  obtain ⟨h1, h2, ⟨xs, h3, h4, h5⟩, h6⟩ := S.ob d _ hd
  refine S.cells hd ⟨rfl, rfl⟩ rfl (fun x hi => ?_) (Ext.refl _ _) (Below.refl _ _) (fun _ _ _ => ⟨rfl, rfl⟩) ⟨h1, h2, ⟨xs, h3, h4, h5, fun p e' k' l' hq _ => absurd hq (plain_flat hp)⟩, fun b hb => by simpa using h6 b hb, fun p hq => absurd hq (plain_flat hp)⟩
  rcases hi with rfl | ⟨_, _, _, p, e1, k1, l1, ho, hq, hk, rfl⟩
  · exact .self _ _
  · simp only [Ob.dp.injEq] at ho
    obtain ⟨rfl, rfl, rfl⟩ := ho
    exact absurd hq (plain_flat hp)

theorem eff_cpyd (S : Sim base w0 lm0 N g a w s) {t t2 el : TypeId} {k : Nat} (h0 : 0 < k) {x y : Operand} {x' y' : X} {call : Call} {d : Nat} {r : Eff} (ho : o.op = .call { callee := .builtin .copy, args := #[x, y], argTypes := #[t, t2] }) (ht : P.underlying t = some (.slice el)) (hk : P.cellsOf el = k)
    (hx : okX x x' = true) (hy : okX y y' = true) (he : eff call s d (.cpyd k x' y') = some r) : EffOK P base w0 lm0 N g a w s o r := by
  simp only [eff] at he
  split at he
  · rename_i d1 off len u hvx hvy
    split at he
    · rename_i k2 ys hel
      split at he
      · rename_i e k' l hd
        split at he
        · rename_i hc
          obtain ⟨c1, c2, c3, c4⟩ := hc
          simp only [Option.some.injEq] at he
          subst he
          have h1' : eff call s d (.cpy k x' y') = some ⟨.p (.sc (.int .i64 (min ys.length len : Nat))), [(d1, .row e k' false (l.take off ++ ys.take len ++ l.drop (off + min ys.length len)))]⟩ := by
            simp only [eff, hvx, hvy, hel, hd]
            rw [if_pos ⟨c1, c2, c3⟩]
          obtain ⟨v, w', g', hrun, S', R'⟩ := eff_cpy S h0 ho ht hk hx hy h1'
          have S2 := S'.deepen (d := d1) (by simp only [putAll]; exact get_put_same _ _ _) c4
          refine ⟨v, w', g', hrun, S2.same fun q => ?_, R'⟩
          simp only [putAll, get_put]
          split <;> rfl
        · simp at he
      · simp at he
    · simp at he
  · simp at he

/-! ### reading -/
theorem Sim.drow (S : Sim base w0 lm0 N g a w s) {d e k : Nat} {l : List (List PV)} (hd : get s.h d = some (.dp e k l)) {i j : Nat} {u : Value} (hr : SRep w g (get s.h) (.mp d i j) u) :
    0 < k ∧ (∀ c ∈ l, c.length = k) ∧ ∃ b xs, u = .pointer (some ⟨b, i * k + j, none⟩) ∧ blk (g.v d) = some b ∧ w.ownsRow base e k (g.v d) l.length xs ∧ RepL w g.lm l.flatten xs ∧ (∀ u ∈ xs, u.oneCell' = true) ∧
      ∀ p e' k' l', l.flatten[p]? = some (.ow e' k' l') → 0 < k' → xs[p]? = some (g.v (nid d p)) ∧ RowR w g base (nid d p) e' k' l' := by
  obtain ⟨h1, h2, ⟨xs, h3, h4, h5, h7⟩, h6⟩ := S.ob d _ hd
  simp only [SRep, hd] at hr
  obtain ⟨b, hb, rfl⟩ := hr
  exact ⟨h1, h2, b, xs, rfl, hb, h3, h4, h5, h7⟩

theorem eff_ld1d (S : Sim base w0 lm0 N g a w s) {t : TypeId} {x : Operand} {y : X} {e : Eff} {call : Call} {d : Nat} (ho : o.op = .load t x) (ha : aggT P t = some false) (hx : okX x y = true)
    (he : eff call s d (.ld1d y) = some e) : EffOK P base w0 lm0 N g a w s o e := by
  simp only [eff] at he
  split at he
  · rename_i d' i j hv
    split at he
    · rename_i e' k l hd
      split at he
      · rename_i c hc
        split at he
        · simp only [Option.some.injEq] at he
          subst he
          obtain ⟨h0, hk, b, xs, hu, hb, hown, hrl, h1, h7⟩ := S.drow hd (okX_sound S hx hv)
          obtain ⟨v0, hv0, hrep⟩ := hrl.get _ _ (cellAt_flat hk hc)
          refine EffOK.pure S (u := v0) ?_ hrep
          have := run_load1 ha (own_cells hown hb hv0)
          simp [execOp, ho, hu, this]
        · simp at he
      · simp at he
    · simp at he
  · simp at he

theorem eff_fad (S : Sim base w0 lm0 N g a w s) {t : TypeId} {fs : Array Field} {i : Nat} {f : Field} {x : Operand} {y : X} {off : Nat} {call : Call} {d : Nat} {e : Eff} (ho : o.op = .fieldAddr t x i) (ht : P.underlying t = some (.struct fs)) (hf : fs[i]? = some f) (hoff : f.offset = off) (h0 : 0 < P.cellsOf f.type) (hx : okX x y = true)
    (he : eff call s d (.fad y off) = some e) : EffOK P base w0 lm0 N g a w s o e := by
  have hrun : ∀ b of, a.eval x = .pointer (some ⟨b, of, none⟩) → (execOp a.eval o).run P w = .ok (.value (.pointer (some ⟨b, of + off, none⟩))) w := by
    intro b of hu
    simp [execOp, ho, hu, Instr.fieldAt, run_underlying ht, hf, Instr.sureAddr, run_fieldPlace h0, hoff]
  simp only [eff] at he
  split at he
  · rename_i d' i' j hv
    split at he
    · rename_i e' k l hd
      simp only [Option.some.injEq] at he
      subst he
      obtain ⟨_, _, b, xs, hu, hb, _⟩ := S.drow hd (okX_sound S hx hv)
      refine EffOK.pure S (hrun b _ hu) ?_
      simp only [SRep, hd]
      exact ⟨b, hb, by rw [Nat.add_assoc]⟩
    · simp at he
  · simp at he

theorem eff_iad (S : Sim base w0 lm0 N g a w s) {t el : TypeId} {x i : Operand} {y j : X} {k : Nat} {call : Call} {d : Nat} {e : Eff} (ho : o.op = .indexAddr t x i) (ht : P.underlying t = some (.slice el)) (hk : P.cellsOf el = k) (h0 : 0 < k) (hx : okX x y = true) (hi : okX i j = true)
    (he : eff call s d (.iad k y j) = some e) : EffOK P base w0 lm0 N g a w s o e := by
  simp only [eff] at he
  split at he
  · rename_i d' off len u hv hw
    split at he
    · rename_i n hn
      split at he
      · rename_i e' k' l hd
        split at he
        · rename_i hc
          obtain ⟨rfl, hlt⟩ := hc
          simp only [Option.some.injEq] at he
          subst he
          obtain ⟨ki, hi'⟩ := natOf_sound S hi hw hn
          have hr := okX_sound S hx hv
          simp only [SRep, hd] at hr
          obtain ⟨hle, hr⟩ := hr
          obtain ⟨h1, h2, ⟨xs, h3, h4, h5, h7⟩, h6⟩ := S.ob d' _ hd
          have hb : ∃ b cap, blk (g.v d') = some b ∧ a.eval x = .slice (some ⟨b, off * k', none⟩) len cap := by
            rcases hr with ⟨rfl, rfl, hu⟩ | ⟨_, ad, cap, hu, _, hz⟩
            · rcases h3.2 with ⟨hv0, h0'⟩ | ⟨b, cap, cur, hv0, _⟩
              · omega
              · exact ⟨b, cap, by rw [hv0]; rfl, by rw [hu, hv0]; simp⟩
            · rcases hz with hz | ⟨b, hb, rfl⟩
              · omega
              · exact ⟨b, cap, hb, hu⟩
          obtain ⟨b, cap, hb, hu⟩ := hb
          have hrun : (execOp a.eval o).run P w = .ok (.value (.pointer (some ⟨b, off * k' + n * k', none⟩))) w := by
            have h1 : (0 : Int) ≤ (n : Int) ∧ (n : Int) < (len : Int) := by omega
            simp [execOp, ho, hu, hi', Instr.indexAt, run_underlying ht, asIntOf, h1, run_sizeOf hk h0, add_n, hlt]
          refine EffOK.pure S hrun ?_
          simp only [SRep, hd]
          exact ⟨b, hb, by rw [Nat.add_mul, Nat.add_zero]⟩
        · simp at he
      · simp at he
    · simp at he
  · simp at he

theorem eff_lend (S : Sim base w0 lm0 N g a w s) {t el : TypeId} {x : Operand} {y : X} {call : Call} {d : Nat} {e : Eff} (ho : o.op = .call { callee := .builtin .len, args := #[x], argTypes := #[t] })
    (ht : P.underlying t = some (.slice el)) (hx : okX x y = true) (he : eff call s d (.lend y) = some e) : EffOK P base w0 lm0 N g a w s o e := by
  simp only [eff] at he
  split at he
  · rename_i d' off n hv
    split at he
    · rename_i e' k l hd
      simp only [Option.some.injEq] at he
      subst he
      have hr := okX_sound S hx hv
      simp only [SRep, hd] at hr
      obtain ⟨hle, hr⟩ := hr
      obtain ⟨h1, h2, ⟨xs, h3, h4, h5, h7⟩, h6⟩ := S.ob d' _ hd
      have hu : ∃ ad cap, a.eval x = .slice ad n cap := by
        rcases hr with ⟨_, rfl, hu⟩ | ⟨_, ad, cap, hu, _⟩
        · rcases h3.2 with ⟨hv0, h0'⟩ | ⟨b, cap, cur, hv0, _⟩
          · exact ⟨none, 0, by rw [hu, hv0, h0']⟩
          · exact ⟨_, cap, by rw [hu, hv0]⟩
        · exact ⟨ad, cap, hu⟩
      obtain ⟨ad, cap, hu⟩ := hu
      exact EffOK.pure S (u := .int .i64 n) (by simp [execOp, ho, hu, resolve, invoke, builtin, Builtin.len_, run_underlying ht, goInt]) (.sc _)
    · simp at he
  · simp at he

/-! ### what cells have alone is theirs no more -/
theorem eff_mvs (S : Sim base w0 lm0 N g a w s) {x : Operand} {y z : X} {call : Call} {d : Nat} {e : Eff} (ho : o.op = .move x ∨ o.op = .assign x) (hx : okX x y = true) (he : eff call s d (.mvs y z) = some e) : EffOK P base w0 lm0 N g a w s o e := by
  simp only [eff] at he
  split at he
  · rename_i v d' off len hv hz
    split at he
    · rename_i e' k l hd
      split at he
      · rename_i hok
        simp only [Option.some.injEq] at he
        subst he
        obtain ⟨own, hap⟩ := S.ap
        obtain ⟨lm2, X2, L2, O2⟩ := dp_settle (S.ob d' _ hd) hok (S.lt _ _ hd) ⟨own, fun x b hi hb => hap d' _ x b hd rfl hi hb⟩
        have S2 := S.cells (lm' := lm2) hd (o' := .row e' k false (setL l)) ⟨rfl, by simp [setL]⟩ rfl (fun x hi => by rw [hi.plain rfl]; exact .self _ _) X2 (Below.refl _ _) (fun b hb _ => ⟨rfl, L2 b hb⟩) O2
        obtain ⟨lm3, S3, T3, _⟩ := S2.freeze (d := d') (get_put_same _ _ _)
        have gt : ∀ q, get (AM.put s.h d' (.row e' k true (setL l))) q = get (AM.put (AM.put s.h d' (.row e' k false (setL l))) d' (.row e' k true (setL l))) q := fun q => by
          simp only [get_put]; split <;> rfl
        have S4 := S3.same gt
        have T4 : Tr w g (get s.h) w ⟨lm3, g.v⟩ (get (AM.put s.h d' (.row e' k true (setL l)))) := ⟨X2.trans T3.ext, fun d1 o1 h1 => .inr ⟨rfl, by
          by_cases e : d' = d1
          · subst e
            rw [hd] at h1
            obtain rfl := Option.some.inj h1
            exact ⟨_, get_put_same _ _ _, rfl, by simp [setL]⟩
          · exact ⟨o1, by rw [get_put_ne _ e]; exact h1, Shp.refl _⟩⟩⟩
        refine ⟨a.eval x, w, _, .inl ?_, S4, (okX_sound S hx hv).tr T4⟩
        rcases ho with ho | ho <;> simp [execOp, ho]
      · simp at he
    · simp at he
  · simp at he

/-! ### cells put -/
theorem putC_flat {l : List (List PV)} {k i j : Nat} {c0 : PV} (hk : ∀ c ∈ l, c.length = k) (hc : cellAt l i j = some c0) (x : PV) : (putC l i j x).flatten = l.flatten.set (i * k + j) x ∧ (putC l i j x).length = l.length ∧ (∀ c ∈ putC l i j x, c.length = k) ∧ i * k + j < l.flatten.length := by
  unfold cellAt at hc
  split at hc
  · rename_i c hl
    have hil : i < l.length := (List.getElem?_eq_some_iff.1 hl).1
    have hck : c.length = k := hk c (List.mem_of_getElem? hl)
    have hj : j < k := by rw [← hck]; exact (List.getElem?_eq_some_iff.1 hc).1
    have hfl := flatten_len hk
    have hlt : i * k + j < l.flatten.length := by
      rw [hfl]
      have := Nat.mul_le_mul_right k (show i + 1 ≤ l.length from hil)
      rw [Nat.add_mul, Nat.one_mul] at this
      omega
    have hp : putC l i j x = l.set i (c.set j x) := by unfold putC; rw [hl]
    rw [hp]
    refine ⟨?_, by simp, fun c' hc' => ?_, hlt⟩
    · rw [flatten_set hk hil]
      have hdi : (l.drop i).flatten = c ++ (l.drop (i + 1)).flatten := by
        rw [List.drop_eq_getElem_cons hil, List.flatten_cons]; congr 1
        simpa [List.getElem?_eq_getElem hil] using hl
      have e3 : l.flatten.drop (i * k + k) = (l.drop (i + 1)).flatten := by
        rw [← List.drop_drop, flatten_drop i hk, hdi]
        conv => lhs; rw [← hck]
        rw [List.drop_left]
      have e0 : l.flatten = l.flatten.take (i * k) ++ (c ++ (l.drop (i + 1)).flatten) := by
        rw [← hdi, ← flatten_drop i hk, List.take_append_drop]
      rw [e3]
      conv => rhs; rw [e0]
      have hlen : (l.flatten.take (i * k)).length = i * k := by rw [List.length_take]; omega
      rw [List.set_append_right _ _ (by omega), hlen, Nat.add_sub_cancel_left, List.set_append_left _ _ (by omega), List.append_assoc]
    · rcases List.mem_or_eq_of_mem_set hc' with h2 | h2
      · exact hk _ h2
      · rw [h2]; simpa using hck
  · simp at hc

theorem RepL.set {w : World} {lm : Nat → Nat} {l : List PV} {vs : List Value} (h : RepL w lm l vs) (n : Nat) {x : PV} {v : Value} (hx : Rep w lm x v) : RepL w lm (l.set n x) (vs.set n v) := by
  refine RepL.mk (by simp [h.length]) fun i y u hy hu => ?_
  rw [List.getElem?_set] at hy hu
  have hl := h.length
  split at hy
  · rename_i e
    rw [if_pos e] at hu
    split at hy
    · rename_i h1
      rw [if_pos (by omega)] at hu
      obtain rfl := Option.some.inj hy
      obtain rfl := Option.some.inj hu
      exact hx
    · simp at hy
  · rename_i e
    rw [if_neg e] at hu
    obtain ⟨v', hv', hr⟩ := h.get i y hy
    rw [hu] at hv'
    obtain rfl := Option.some.inj hv'
    exact hr
theorem RepL.setL {w : World} {lm : Nat → Nat} {l : List PV} {vs : List Value} (h : RepL w lm l vs) (n : Nat) {x : PV} (hx : ∀ v, vs[n]? = some v → Rep w lm x v) : RepL w lm (l.set n x) vs := by
  refine RepL.mk (by simp [h.length]) fun i y u hy hu => ?_
  rw [List.getElem?_set] at hy
  split at hy
  · rename_i e
    subst e
    split at hy
    · obtain rfl := Option.some.inj hy
      exact hx u hu
    · simp at hy
  · obtain ⟨v', hv', hr⟩ := h.get i y hy
    rw [hu] at hv'
    obtain rfl := Option.some.inj hv'
    exact hr

/-- A cell's own slice is taken out. -/
theorem eff_ld1o (S : Sim base w0 lm0 N g a w s) {t : TypeId} {x : Operand} {y : X} {e : Eff} {call : Call} {d : Nat} (ho : o.op = .load t x) (ha : aggT P t = some false) (hx : okX x y = true)
    (he : eff call s d (.ld1o y) = some e) : EffOK P base w0 lm0 N g a w s o e := by
  simp only [eff] at he
  split at he
  · rename_i d' i j hv
    split at he
    · rename_i e1 k l hd
      split at he
      · rename_i e' k' l' hc
        split at he
        · rename_i hk'
          cases hid : newId s.h d with
          | none => rw [hid] at he; simp at he
          | some id =>
            rw [hid] at he
            simp only [Option.some.injEq] at he
            subst he
            obtain ⟨h0, hk, b, xs, hu, hb, hown, hrl, h1, h7⟩ := S.drow hd (okX_sound S hx hv)
            have hpc := cellAt_flat hk hc
            obtain ⟨q1, q2⟩ := h7 _ e' k' l' hpc hk'
            obtain ⟨f1, f2, f3, f4⟩ := putC_flat hk hc (.ow 0 0 [])
            have hlmb := (S.ob d' _ hd).2.2.2.1
            have hselfb := (S.ob d' _ hd).2.2.2.2
            have hdlt := S.lt _ _ hd
            have hidn := newId_none hid
            have hidl := newId_lt hid
            have hids : ∀ x, Ids d' (.dp e1 k (putC l i j (.ow 0 0 []))) x → Ids d' (.dp e1 k l) x ∧ x ≠ nid d' (i * k + j) := by
              rintro x (rfl | ⟨_, _, _, p, e2, k2, l2, ho2, hp, hk2, rfl⟩)
              · exact ⟨.self _ _, fun e => by have := nid_ge x (i * k + j); omega⟩
              · simp only [Ob.dp.injEq] at ho2
                obtain ⟨rfl, rfl, rfl⟩ := ho2
                rw [f1, List.getElem?_set] at hp
                split at hp
                · simp at hp; omega
                · rename_i hne
                  exact ⟨.inr ⟨_, _, _, p, e2, k2, l2, rfl, hp, hk2, rfl⟩, fun e => hne (nid_inj hdlt hdlt e).2.symm⟩
            have hself : Ids d' (.dp e1 k l) (nid d' (i * k + j)) := .inr ⟨_, _, _, _, _, _, _, rfl, hpc, hk', rfl⟩
            obtain ⟨own, hap⟩ := S.ap
            obtain ⟨S1, T1⟩ := S.dput (w' := w) (lm' := g.lm) (v' := g.v) hd rfl (o' := .dp e1 k (putC l i j (.ow 0 0 []))) ⟨rfl, f2.symm⟩ rfl (fun _ _ => rfl) (Ext.refl _ _) (Below.refl _ _) (fun _ _ _ => ⟨rfl, rfl⟩)
              ⟨h0, f3, ⟨xs, by rw [f2]; exact hown, by rw [f1]; exact hrl.setL _ fun _ _ => .ow, h1, fun p e2 k2 l2 hp hk2 => by
                rw [f1, List.getElem?_set] at hp
                split at hp
                · simp at hp; omega
                · exact h7 p e2 k2 l2 hp hk2⟩, hlmb, fun p hp => by
                rw [f1, List.getElem?_set] at hp
                split at hp
                · simp at hp
                · rw [f2]; exact hselfb p hp⟩
              ⟨own, fun d1 o1 x b1 hg1 l1 hi1 hb1 => by
                by_cases e : d' = d1
                · subst e
                  rw [get_put_same] at hg1
                  obtain rfl := Option.some.inj hg1
                  exact hap d' _ x b1 hd rfl (hids x hi1).1 hb1
                · rw [get_put_ne _ e] at hg1
                  exact hap d1 o1 x b1 hg1 l1 hi1 hb1⟩
            have hid' : d' ≠ id := fun e => by rw [e, hidn] at hd; simp at hd
            have hidn1 : get (AM.put s.h d' (.dp e1 k (putC l i j (.ow 0 0 [])))) id = none := by rw [get_put_ne _ hid']; exact hidn
            let v' : Nat → Value := upd g.v id (g.v (nid d' (i * k + j)))
            have hni : ∀ d1 o1 x, get (AM.put s.h d' (.dp e1 k (putC l i j (.ow 0 0 [])))) d1 = some o1 → Ids d1 o1 x → x ≠ id := fun d1 o1 x h1 hi e => by
              have := hi.lt (by rw [e]; exact hidl)
              rw [← this, e, hidn1] at h1
              simp at h1
            have T2 : Tr w g (get (AM.put s.h d' (.dp e1 k (putC l i j (.ow 0 0 []))))) w ⟨g.lm, v'⟩ (get (AM.put (AM.put s.h d' (.dp e1 k (putC l i j (.ow 0 0 [])))) id (.row e' k' false l'))) := ⟨Ext.refl _ _, fun d1 o1 h1 => .inr ⟨upd_ne _ (hni d1 o1 d1 h1 (.self _ _)) _, o1, by rw [get_put_ne _ (fun e => by rw [← e, hidn1] at h1; simp at h1)]; exact h1, Shp.refl _⟩⟩
            have S2 : Sim base w0 lm0 N ⟨g.lm, v'⟩ a w ⟨s.t, AM.put (AM.put s.h d' (.dp e1 k (putC l i j (.ow 0 0 [])))) id (.row e' k' false l')⟩ := by
              refine S1.turn T2 (Below.refl _ _) (fun _ _ => rfl) (fun d1 o1 hg1 => ?_) (fun d1 o1 hg1 => ?_) ⟨fun b => if own b = nid d' (i * k + j) then id else own b, fun d1 o1 x b1 hg1 l1 hi1 hb1 => ?_⟩
              · by_cases e : id = d1
                · subst e
                  rw [get_put_same] at hg1
                  obtain rfl := Option.some.inj hg1
                  obtain ⟨r1, r2, ⟨ys, r3, r4, r5⟩, r6⟩ := q2
                  refine ⟨r1, r2, ⟨ys, by simp only [v', upd_same]; exact r3, r4, r5⟩, fun b1 hb1 => ?_⟩
                  simp only [v', upd_same] at hb1
                  simpa using r6 b1 hb1
                · rw [get_put_ne _ e] at hg1
                  exact (S1.ob d1 o1 hg1).keep (fun x hi => upd_ne _ (hni d1 o1 x hg1 hi) _) (Ext.refl _ _) fun _ _ _ _ _ => ⟨rfl, rfl⟩
              · by_cases e : id = d1
                · subst e; exact hidl
                · rw [get_put_ne _ e] at hg1; exact S1.lt _ _ hg1
              · dsimp only
                by_cases e : id = d1
                · subst e
                  rw [get_put_same] at hg1
                  obtain rfl := Option.some.inj hg1
                  obtain rfl := hi1.plain rfl
                  simp only [v', upd_same] at hb1
                  exact if_pos (hap d' _ _ b1 hd rfl hself hb1)
                · rw [get_put_ne _ e] at hg1
                  have hxi := hni d1 o1 x hg1 hi1
                  simp only [v', upd_ne _ hxi] at hb1
                  by_cases e2 : d' = d1
                  · subst e2
                    rw [get_put_same] at hg1
                    obtain rfl := Option.some.inj hg1
                    obtain ⟨i1, i2⟩ := hids x hi1
                    have := hap d' _ x b1 hd rfl i1 hb1
                    rw [this, if_neg i2]
                  · rw [get_put_ne _ e2] at hg1
                    have := hap d1 o1 x b1 hg1 l1 hi1 hb1
                    rw [this, if_neg]
                    exact fun e3 => S.ne hd hg1 e2 hself hi1 e3.symm
            refine ⟨g.v (nid d' (i * k + j)), w, _, .inl ?_, S2, ?_⟩
            · have := run_load1 (P := P) ha (own_cells hown hb q1)
              simp [execOp, ho, hu, this]
            · have := srep_new_ms (w' := w) (g' := ⟨g.lm, v'⟩) (h' := AM.put (AM.put s.h d' (.dp e1 k (putC l i j (.ow 0 0 [])))) id (.row e' k' false l')) (get_put_same _ _ _) (n := l'.length) rfl
              simp only [v', upd_same] at this
              exact this
        · simp at he
      · simp at he
    · simp at he
  · simp at he

theorem Ids.put {d e k p0 : Nat} {l : List (List PV)} {l' : List (List PV)} {x : PV} (hd : d < 1000000) (hf : l'.flatten = l.flatten.set p0 x) {y : Nat} (h : Ids d (.dp e k l') y) :
    (y = nid d p0 ∧ ∃ e' k' r, x = .ow e' k' r ∧ 0 < k') ∨ (Ids d (.dp e k l) y ∧ y ≠ nid d p0) := by
  rcases h with rfl | ⟨_, _, _, p, e2, k2, l2, ho2, hp, hk2, rfl⟩
  · exact .inr ⟨.self _ _, fun e => by have := nid_ge y p0; omega⟩
  · simp only [Ob.dp.injEq] at ho2
    obtain ⟨rfl, rfl, rfl⟩ := ho2
    rw [hf, List.getElem?_set] at hp
    by_cases hpe : p0 = p
    · subst hpe
      rw [if_pos rfl] at hp
      split at hp
      · exact .inl ⟨rfl, e2, k2, l2, Option.some.inj hp, hk2⟩
      · simp at hp
    · rw [if_neg hpe] at hp
      exact .inr ⟨.inr ⟨_, _, _, p, e2, k2, l2, rfl, hp, hk2, rfl⟩, fun e => hpe (nid_inj hd hd e).2.symm⟩

/-- A cell of a deep row is written. -/
theorem Sim.dstore (S : Sim base w0 lm0 N g a w s) {d e k : Nat} {l : List (List PV)} (hd : get s.h d = some (.dp e k l)) {b : Nat} (hb : blk (g.v d) = some b) {i j : Nat} {c0 : PV} (hc : cellAt l i j = some c0) {x : PV} {z : Value} (hz : z.oneCell' = true) (hrx : Rep w g.lm x z) (hx0 : x ≠ .ow 1 0 []) {v' : Nat → Value} (hvs : ∀ q, q ≠ nid d (i * k + j) → v' q = g.v q)
    (hnest : ∀ e' k' l', x = .ow e' k' l' → 0 < k' → v' (nid d (i * k + j)) = z ∧ RowR w ⟨g.lm, v'⟩ base (nid d (i * k + j)) e' k' l' ∧ ∀ b1, blk z = some b1 → ∀ d1 o1 x1, get s.h d1 = some o1 → o1.live = true → Ids d1 o1 x1 → blk (g.v x1) ≠ some b1) :
    ∃ cur : Array Value, w.heap[b]? = some (.cells cur e (0, 0)) ∧ i * k + j + 1 ≤ cur.size ∧
      ∀ new : Array Value, new = (cur.toList.take (i * k + j) ++ [z] ++ cur.toList.drop (i * k + j + 1)).toArray →
      Sim base w0 lm0 N ⟨g.lm, v'⟩ a (w.setRow b new) ⟨s.t, AM.put s.h d (.dp e k (putC l i j x))⟩ ∧ Tr w g (get s.h) (w.setRow b new) ⟨g.lm, v'⟩ (get (AM.put s.h d (.dp e k (putC l i j x)))) := by
  obtain ⟨h1, h2, ⟨xs, h3, h4, h5, h7⟩, h6, h8⟩ := S.ob d _ hd
  obtain ⟨f1, f2, f3, f4⟩ := putC_flat h2 hc x
  have hdlt := S.lt _ _ hd
  have hxl : xs.length = l.length * k := by rw [← h4.length, flatten_len h2]
  have hfl := flatten_len h2
  rcases h3.2 with ⟨hv, _⟩ | ⟨b', cap, cur, hv, q1, q2, q3, q4, q5, q6⟩
  · rw [hv] at hb; simp [blk] at hb
  rw [hv] at hb
  simp [blk] at hb
  subst hb
  have hcapk : l.length * k ≤ cap * k := Nat.mul_le_mul_right k q3
  refine ⟨cur, q2, by omega, ?_⟩
  rintro new rfl
  have hset : (cur.toList.take (i * k + j) ++ [z] ++ cur.toList.drop (i * k + j + 1)) = cur.toList.set (i * k + j) z := by
    rw [List.set_eq_take_append_cons_drop, if_pos (by simp; omega)]
    simp
  have hnew : (cur.toList.take (i * k + j) ++ [z] ++ cur.toList.drop (i * k + j + 1)).toArray.toList.take (l.length * k) = xs.set (i * k + j) z := by
    rw [List.toList_toArray, hset, List.take_set, q6]
  have hnsz : (cur.toList.take (i * k + j) ++ [z] ++ cur.toList.drop (i * k + j + 1)).toArray.size = cap * k := by
    rw [List.size_toArray, hset, List.length_set]; simpa using q5
  have hnl : (cur.toList.take (i * k + j) ++ [z] ++ cur.toList.drop (i * k + j + 1)).toArray.toList = cur.toList.set (i * k + j) z := by rw [List.toList_toArray, hset]
  generalize (cur.toList.take (i * k + j) ++ [z] ++ cur.toList.drop (i * k + j + 1)).toArray = new at hnew hnsz hnl
  have hblk : blk (g.v d) = some b' := by rw [hv]; rfl
  have hlm : g.lm b' = 0 := h6 b' hblk
  have hext : Ext w g.lm (w.setRow b' new) g.lm := by
    intro b2 o' u hc' ho'
    by_cases e' : b2 = b'
    · subst e'; omega
    · exact ⟨(World.cell?_of_block (a := ⟨b2, o', none⟩) (setRow_other w b' b2 new e')).trans hc', ho'⟩
  have hvd : v' d = g.v d := hvs d fun e => by have := nid_ge d (i * k + j); omega
  obtain ⟨own, hap⟩ := S.ap
  have nested : ∀ p e' k' l', l.flatten[p]? = some (.ow e' k' l') → 0 < k' → blk (g.v (nid d p)) ≠ some b' := fun p e' k' l' hp hk' hbb => by
    have e1 := hap d _ _ b' hd rfl (.inr ⟨_, _, _, p, e', k', l', rfl, hp, hk', rfl⟩) hbb
    have e2 := hap d _ d b' hd rfl (.self _ _) hblk
    have := nid_ge d p
    omega
  have keepR : ∀ {y e' k' l'}, RowR w ⟨g.lm, v'⟩ base y e' k' l' → blk (v' y) ≠ some b' → RowR (w.setRow b' new) ⟨g.lm, v'⟩ base y e' k' l' := by
    rintro y e' k' l' ⟨r1, r2, ⟨ys, r3, r4, r5⟩, r6⟩ hne
    exact ⟨r1, r2, ⟨ys, ownsRow_keep r3 fun b2 hb2 => setRow_other w b' b2 new fun e => hne (by rw [← e]; exact hb2), r4.ext hext, r5⟩, r6⟩
  refine S.dput hd rfl ⟨rfl, f2.symm⟩ hvd (fun q hq => hvs q fun e => hq (by rw [e]; unfold nid; omega)) hext (below_setRow (Below.refl _ _) q1 _) (fun b2 hb2 _ => ⟨setRow_other w b' b2 new fun e => hb2 d (.self _ _) (by rw [e]; exact hblk), rfl⟩) ⟨h1, f3, ⟨xs.set (i * k + j) z, ?_, ?_, ?_, ?_⟩, ?_, ?_⟩ ?_
  · refine ⟨by rw [List.length_set, f2]; exact h3.1, .inr ⟨b', cap, new, by dsimp only; rw [hvd, f2]; exact hv, q1, setRow_heap w b' cur _ e _ q2, by rw [f2]; exact q3, q4, hnsz, by rw [f2]; exact hnew⟩⟩
  · rw [f1]; exact (h4.ext hext).set _ (hrx.ext hext)
  · intro u hu
    rcases List.mem_or_eq_of_mem_set hu with h | h
    · exact h5 u h
    · rw [h]; exact hz
  · intro p e' k' l' hp hk'
    rw [f1, List.getElem?_set] at hp
    by_cases hpe : i * k + j = p
    · subst hpe
      rw [if_pos rfl, if_pos f4] at hp
      obtain ⟨r1, r2, r3⟩ := hnest e' k' l' (Option.some.inj hp) hk'
      refine ⟨?_, keepR r2 fun hbb => ?_⟩
      · rw [List.getElem?_set, if_pos rfl, if_pos (by omega)]
        dsimp only
        rw [r1]
      · rw [r1] at hbb
        exact r3 b' hbb d _ d hd rfl (.self _ _) hblk
    · rw [if_neg hpe] at hp
      obtain ⟨r1, r2⟩ := h7 p e' k' l' hp hk'
      have hne : nid d p ≠ nid d (i * k + j) := fun e => hpe (nid_inj hdlt hdlt e).2.symm
      have hvp : v' (nid d p) = g.v (nid d p) := hvs _ hne
      refine ⟨?_, keepR ?_ ?_⟩
      · rw [List.getElem?_set, if_neg hpe]
        dsimp only
        rw [hvp]; exact r1
      · obtain ⟨m1, m2, ⟨ys, m3, m4, m5⟩, m6⟩ := r2
        exact ⟨m1, m2, ⟨ys, by dsimp only; rw [hvp]; exact m3, m4, m5⟩, fun b2 hb2 => m6 b2 (by dsimp only at hb2; rw [hvp] at hb2; exact hb2)⟩
      · rw [hvp]; exact nested p e' k' l' hp hk'
  · intro b2 hb2
    dsimp only at hb2
    rw [hvd] at hb2
    exact h6 b2 hb2
  · intro p hp
    rw [f1, List.getElem?_set] at hp
    by_cases hpe : i * k + j = p
    · rw [if_pos hpe, if_pos f4] at hp
      exact absurd (Option.some.inj hp) hx0
    · rw [if_neg hpe] at hp
      obtain ⟨b2, z1, z2⟩ := h8 p hp
      have hb2 : b2 = b' := by
        have h9 : blk (g.v d) = some b2 := by rw [z1]; rfl
        rw [hblk] at h9
        exact (Option.some.inj h9).symm
      subst hb2
      refine ⟨b2, by dsimp only; rw [hvd, f2]; exact z1, ?_⟩
      have c1 : (w.setRow b2 new).cell? ⟨b2, p, none⟩ = w.cell? ⟨b2, p, none⟩ := by
        rw [cell_of_row _ b2 p new e (0, 0) (setRow_heap w b2 cur _ e _ q2), cell_of_row w b2 p cur e (0, 0) q2, ← Array.getElem?_toList, ← Array.getElem?_toList, hnl, List.getElem?_set, if_neg hpe]
      rw [c1]; exact z2
  · by_cases hxo : ∃ e' k' r, x = .ow e' k' r ∧ 0 < k'
    · obtain ⟨e', k', r, hxe, hk'⟩ := hxo
      obtain ⟨r1, r2, r3⟩ := hnest e' k' r hxe hk'
      refine ⟨fun b2 => if blk z = some b2 then nid d (i * k + j) else own b2, fun d1 o1 y b2 hg1 l1 hi1 hb1 => ?_⟩
      dsimp only
      have old : ∀ d1 o1, get s.h d1 = some o1 → o1.live = true → Ids d1 o1 y → y ≠ nid d (i * k + j) → (if blk z = some b2 then nid d (i * k + j) else own b2) = y := by
        intro d1 o1 hg1 l1 hi1 hne
        rw [hvs y hne] at hb1
        rw [if_neg fun hbb => r3 b2 hbb d1 o1 y hg1 l1 hi1 hb1]
        exact hap d1 o1 y b2 hg1 l1 hi1 hb1
      by_cases e1 : d = d1
      · subst e1
        rw [get_put_same] at hg1
        obtain rfl := Option.some.inj hg1
        rcases Ids.put hdlt f1 hi1 with ⟨rfl, _⟩ | ⟨i1, i2⟩
        · rw [r1] at hb1; exact if_pos hb1
        · exact old d _ hd rfl i1 i2
      · rw [get_put_ne _ e1] at hg1
        refine old d1 o1 hg1 l1 hi1 fun e2 => e1 ?_
        have := hi1.mod (S.lt _ _ hg1)
        rw [e2] at this
        rw [← this]; unfold nid; omega
    · refine ⟨own, fun d1 o1 y b2 hg1 l1 hi1 hb1 => ?_⟩
      by_cases e1 : d = d1
      · subst e1
        rw [get_put_same] at hg1
        obtain rfl := Option.some.inj hg1
        rcases Ids.put hdlt f1 hi1 with ⟨rfl, h⟩ | ⟨i1, i2⟩
        · exact absurd h hxo
        · rw [hvs y i2] at hb1
          exact hap d _ y b2 hd rfl i1 hb1
      · rw [get_put_ne _ e1] at hg1
        rw [hvs y fun e2 => e1 (by
          have := hi1.mod (S.lt _ _ hg1)
          rw [e2] at this
          rw [← this]; unfold nid; omega)] at hb1
        exact hap d1 o1 y b2 hg1 l1 hi1 hb1

theorem run_store1 {t : TypeId} {x y : Operand} (ho : o.op = .store t x y) (hk : P.cellsOf t = 1) {b p : Nat} (hu : a.eval x = .pointer (some ⟨b, p, none⟩)) {z : Value} (hc : (a.eval y).cells.toList = [z]) (hz : z.oneCell' = true) {cur : Array Value} {e : Nat} (hg : w.heap[b]? = some (.cells cur e (0, 0))) (hp : p + 1 ≤ cur.size) :
    (execOp a.eval o).run P w = .ok .skip (w.setRow b (cur.toList.take p ++ [z] ++ cur.toList.drop (p + 1)).toArray) := by
  have hsz : (a.eval y).cells.size = 1 := by rw [← Array.length_toList, hc]; rfl
  have hst := run_storeCells_at P b p e (a.eval y).cells.toList 0 cur w hg (by rw [hc]; simpa using hp) (by rw [hc]; intro u hu; simp at hu; rw [hu]; exact hz)
  simp only [Nat.add_zero] at hst
  rw [hc] at hst
  simp only [List.length_singleton] at hst
  simp only [execOp, ho, Instr.storeAt, hu, Instr.sureAddr, storeVar, Sem.run_bind, Sem.run_pure, Result.andThen_ok, run_sizeOf hk (by omega), hsz, ne_eq, not_true, if_false, hc, hst]

theorem cellAt_some {l : List (List PV)} {k i j : Nat} (hk : ∀ c ∈ l, c.length = k) (hi : i < l.length) (hj : j < k) : ∃ c, cellAt l i j = some c := by
  unfold cellAt
  rw [List.getElem?_eq_getElem hi]
  have := hk _ (List.getElem_mem hi)
  exact ⟨_, List.getElem?_eq_getElem (by omega)⟩

theorem eff_stod (S : Sim base w0 lm0 N g a w s) {t : TypeId} {x y : Operand} {x' y' : X} {call : Call} {d : Nat} {r : Eff} (ho : o.op = .store t x y) (hk : P.cellsOf t = 1) (hx : okX x x' = true) (hy : okX y y' = true) (he : eff call s d (.stod x' y') = some r) : EffOK P base w0 lm0 N g a w s o r := by
  simp only [eff] at he
  split at he
  · rename_i d1 i j y0 hvx hvy
    split at he
    · rename_i e k l c hd hcs
      split at he
      · rename_i hcond
        obtain ⟨hi, hj, hno⟩ := hcond
        simp only [Option.some.injEq] at he
        subst he
        obtain ⟨h0, hkk, b, xs, hu, hb, _⟩ := S.drow hd (okX_sound S hx hvx)
        obtain ⟨c0, hc0⟩ := cellAt_some hkk hi hj
        have hr : Rep w g.lm y0 (a.eval y) := okX_sound S hy hvy
        obtain ⟨hrl, h1⟩ := hr.cells hcs
        obtain ⟨z, hz⟩ : ∃ z, (a.eval y).cells.toList = [z] := by
          have := hrl.length
          simp only [List.length_singleton] at this
          exact List.length_eq_one_iff.1 this.symm
        rw [hz] at hrl h1
        have hz1 := h1 z (by simp)
        have hrz : Rep w g.lm c z := by cases hrl with | cons h _ => exact h
        obtain ⟨cur, hg, hp, fin⟩ := S.dstore hd hb hc0 (x := c) hz1 hrz (fun hxo => by rw [hxo] at hno; simp [PV.noOw] at hno) (v' := g.v) (fun _ _ => rfl) (fun e' k' l' hxo _ => by rw [hxo] at hno; simp [PV.noOw] at hno)
        obtain ⟨S2, T2⟩ := fin _ rfl
        exact ⟨undef, _, _, .inr ⟨run_store1 ho hk hu hz hz1 hg hp, rfl⟩, S2, Rep.sc _⟩
      · simp at he
    · simp at he
  · simp at he

theorem eff_sto1o (S : Sim base w0 lm0 N g a w s) {t : TypeId} {x y : Operand} {x' y' : X} {call : Call} {d : Nat} {r : Eff} (ho : o.op = .store t x y) (hk : P.cellsOf t = 1) (hx : okX x x' = true) (hy : okX y y' = true) (he : eff call s d (.sto1o x' y') = some r) : EffOK P base w0 lm0 N g a w s o r := by
  simp only [eff] at he
  split at he
  · rename_i d1 i j d2 off len hvx hvy
    split at he
    · rename_i e k l e' k' l' hd hd2
      split at he
      · rename_i hcond
        obtain ⟨rfl, rfl, hi, hj⟩ := hcond
        simp only [Option.some.injEq] at he
        subst he
        obtain ⟨h0, hkk, b, xs, hu, hb, _⟩ := S.drow hd (okX_sound S hx hvx)
        obtain ⟨c0, hc0⟩ := cellAt_some hkk hi hj
        have hr := okX_sound S hy hvy
        simp only [SRep, hd2] at hr
        have hz : a.eval y = g.v d2 := by
          obtain ⟨_, h | h⟩ := hr
          · exact h.2.2
          · obtain ⟨h, _⟩ := h; simp at h
        have hne : d1 ≠ d2 := fun e => by rw [e, hd2] at hd; simp at hd
        obtain ⟨o1, o2, ⟨ys, o3, o4, o5⟩, o6⟩ := S.ob d2 _ hd2
        obtain ⟨own, hap⟩ := S.ap
        have hzs : ∃ ad n cap, g.v d2 = .slice ad n cap := by
          rcases o3.2 with ⟨h, _⟩ | ⟨_, _, _, h, _⟩
          · exact ⟨_, _, _, h⟩
          · exact ⟨_, _, _, h⟩
        obtain ⟨ad, n, cap, hzs⟩ := hzs
        have hz1 : (g.v d2).oneCell' = true := by rw [hzs]; rfl
        have hzc : (a.eval y).cells.toList = [g.v d2] := by rw [hz, hzs]; rfl
        obtain ⟨S1, T1⟩ := S.kill hd2
        have hd' : get (AM.put s.h d2 .dead) d1 = some (.dp e k l) := by rw [get_put_ne _ (Ne.symm hne)]; exact hd
        have hlt1 := S.lt _ _ hd
        let v' : Nat → Value := upd g.v (nid d1 (i * k + j)) (g.v d2)
        obtain ⟨cur, hg, hp, fin⟩ := S1.dstore hd' hb hc0 (x := .ow e' k' l') (z := g.v d2) hz1 .ow (fun hxo => by simp only [PV.ow.injEq] at hxo; omega) (v' := v') (fun q hq => upd_ne _ hq _) (fun e2 k2 l2 hxo hk2 => by
          simp only [PV.ow.injEq] at hxo
          obtain ⟨rfl, rfl, rfl⟩ := hxo
          have hvn : v' (nid d1 (i * k + j)) = g.v d2 := upd_same _ _ _
          refine ⟨hvn, ⟨o1, o2, ⟨ys, by dsimp only; rw [hvn]; exact o3, o4, o5⟩, fun b1 hb1 => ?_⟩, fun b1 hb1 q1 oq1 x1 hq1 hl1 hi1 hbx => ?_⟩
          · dsimp only at hb1
            rw [hvn] at hb1
            simpa using o6 b1 hb1
          · by_cases e3 : d2 = q1
            · rw [← e3, get_put_same] at hq1
              obtain rfl := Option.some.inj hq1
              simp [Ob.live] at hl1
            · rw [get_put_ne _ e3] at hq1
              exact S.far hd2 hq1 rfl hl1 (.self _ _) hi1 (S.ne hd2 hq1 e3 (.self _ _) hi1) hb1 hbx)
        obtain ⟨S2, T2⟩ := fin _ rfl
        exact ⟨undef, _, _, .inr ⟨run_store1 ho hk hu hzc hz1 hg hp, rfl⟩, S2, Rep.sc _⟩
      · simp at he
    · simp at he
  · simp at he
end
end Go.Proofs.Ytomnggbideepeaa.AM

end
