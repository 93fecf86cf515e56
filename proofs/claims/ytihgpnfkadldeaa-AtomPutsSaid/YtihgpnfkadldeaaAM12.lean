/- The small machine's operations that write, the last ones. No condition. -/
import Derived.Test.YtihgpnfkadldeaaAM11
namespace Go.Proofs.Ytihgpnfkadldeaa.AM
open Go Go.RowKit
set_option linter.unusedVariables false
set_option linter.unusedSimpArgs false

section
variable {P : Program} {base : Nat} {w0 : World} {lm0 : Nat → Nat} {N : Nat} {g : Gs} {a : Act} {w : World} {s : St} {o : Oper}

/-- What append asks of an element's type: size, bytes, a zero value of that size. -/
def elOk (P : Program) (e k by_ : Nat) : Bool := match P.info? e with
  | some i => decide (i.size = k) && decide (i.bytes = by_) && (match i.zero with | some z => decide (z.cells.size = k) | none => false)
  | none => false
theorem elOk_sound {e k by_ : Nat} (h : elOk P e k by_ = true) : ∃ i z, P.info? e = some i ∧ i.zero = some z ∧ i.size = k ∧ i.bytes = by_ ∧ z.cells.size = k := by
  unfold elOk at h
  cases hi : P.info? e with
  | none => rw [hi] at h; simp at h
  | some i =>
    rw [hi] at h
    simp only [Bool.and_eq_true, decide_eq_true_eq] at h
    obtain ⟨⟨h1, h2⟩, h3⟩ := h
    cases hz : i.zero with
    | none => rw [hz] at h3; simp at h3
    | some z => rw [hz] at h3; exact ⟨i, z, rfl, hz, h1, h2, by simpa using h3⟩

theorem src_slice {ad : Option Addr} {len cap k : Nat} {news : List Value} (hn : len = 0 ∧ news = [] ∨ ∃ b o, ad = some ⟨b, o, none⟩ ∧ ∀ j u, news[j]? = some u → w.cell? ⟨b, o + j, none⟩ = some u) (hl : news.length = len * k) :
    (∀ w', (Builtin.lenOf (.slice ad len cap)).run P w' = .ok len w') ∧ ∀ w', w'.heap = w.heap → (Builtin.firstCells k len (.slice ad len cap)).run P w' = .ok news.toArray w' := by
  refine ⟨fun w' => rfl, fun w' hw => ?_⟩
  rcases hn with ⟨rfl, rfl⟩ | ⟨b, o, rfl, hc⟩
  · cases ad with
    | none => rfl
    | some ad => simp [Builtin.firstCells, loadCells, loadCellsFrom]
  · exact run_firstCells_some (P := P) w' k len ⟨b, o, none⟩ len cap news hl (fun j v hv => by rw [add_n]; rw [World.cell?_of_block (w := w) (by rw [hw])]; exact hc j v hv)

theorem eff_app (S : Sim base w0 lm0 N g a w s) {t : TypeId} {e k by_ : Nat} (h0 : 0 < k) {x y : Operand} {x' y' : X} {call : Call} {d : Nat} {r : Eff} (ho : o.op = .call { callee := .builtin .append, args := #[x, y], argTypes := #[t, t] }) (ht : P.underlying t = some (.slice e)) (hel : elOk P e k by_ = true)
    (hx : okX x x' = true) (hy : okX y y' = true) (he : eff call s d (.app e k by_ x' y') = some r) : EffOK P base w0 lm0 N g a w s o r := by
  obtain ⟨i, z, hi, hz, rfl, rfl, hzs⟩ := elOk_sound hel
  simp only [eff] at he
  cases hvx : x'.ev s with
  | none => rw [hvx] at he; simp at he
  | some vx =>
    cases hvy : y'.ev s with
    | none => rw [hvx, hvy] at he; simp at he
    | some vy =>
      rw [hvx, hvy] at he
      dsimp only at he
      cases hes : elems s.h vy with
      | none => rw [hes] at he; simp at he
      | some q =>
        obtain ⟨k2, ys⟩ := q
        rw [hes] at he
        dsimp only at he
        split at he
        case isFalse => simp at he
        rename_i hk2
        subst hk2
        have hrx := okX_sound S hx hvx
        obtain ⟨ady, capy, huy, hcy, hly⟩ := elems_sound S (okX_sound S hy hvy) hes
        obtain ⟨news, hn1, hn2, hn3, hyk⟩ : ∃ news, (ys.length = 0 ∧ news = [] ∨ ∃ b o, ady = some ⟨b, o, none⟩ ∧ ∀ j u, news[j]? = some u → w.cell? ⟨b, o + j, none⟩ = some u) ∧ RepL w g.lm ys.flatten news ∧ (∀ u ∈ news, u.oneCell' = true) ∧ ∀ c ∈ ys, c.length = i.size := by
          rcases hly with rfl | ⟨_, hk, b, of, vs, rfl, hrl, hm, h1⟩
          · exact ⟨[], .inl ⟨rfl, rfl⟩, .nil, by simp, by simp⟩
          · exact ⟨vs, .inr ⟨b, of, rfl, hm⟩, hrl, h1, hk⟩
        have hnl : news.length = ys.length * i.size := by rw [← hn2.length, flatten_len hyk]
        obtain ⟨hlen, hf⟩ := src_slice (P := P) (cap := capy) hn1 hnl
        cases vx with
        | ms d' off len =>
          dsimp only at he
          cases hd : get s.h d' with
          | none => rw [hd] at he; simp at he
          | some ob =>
            cases ob with
            | row e' k' fz l =>
              cases fz with
              | true => rw [hd] at he; simp at he
              | false =>
                rw [hd] at he
                dsimp only at he
                split at he
                case isFalse => simp at he
                rename_i hc
                obtain ⟨rfl, rfl, rfl, rfl, hby, h63⟩ := hc
                cases hid : newId s.h d with
                | none => rw [hid] at he; simp at he
                | some id =>
                  rw [hid] at he
                  simp only [Option.some.injEq] at he
                  subst he
                  simp only [SRep, hd] at hrx
                  have hux : a.eval x = g.v d' := by
                    rcases hrx.2 with h | h
                    · exact h.2.2
                    · exact absurd h.1 (by simp)
                  obtain ⟨_, hk', ⟨xs, h3, h4, h5⟩, _⟩ := S.ob d' _ hd
                  obtain ⟨v', w', hrun, hown, hcase⟩ := run_app (P := P) (ty := o.type) ht ht (by simp) hi hz hzs h3 hnl hn3 hlen hf (by simp only [maxLen]; omega) (by simpa [maxBytes] using hby) S.bw
                  obtain ⟨g', hg', S'⟩ := S.grow hd (newId_none hid) (newId_lt hid) (l' := l ++ ys) (xs' := xs ++ news) (by
                      intro c hc
                      rcases List.mem_append.1 hc with h | h
                      · exact hk' c h
                      · exact hyk c h) (by rw [List.length_append]; exact hown) (by rw [List.flatten_append]; exact h4.append hn2) (by
                      intro u hu
                      rcases List.mem_append.1 hu with h | h
                      · exact h5 u h
                      · exact hn3 u h) hcase
                  refine EffOK.mk' (u := v') rfl ?_ S' ?_
                  · simp only [execOp, ho, resolve, invoke, builtin, Sem.run_bind, Sem.run_pure, Result.andThen_ok, List.map_toArray, List.map_cons, List.map_nil, hux, huy, hrun]
                  · have := srep_new_ms (w' := w') (g' := g') (h' := AM.put (AM.put s.h d' .dead) id (.row e' i.size false (l ++ ys))) (get_put_same _ _ _) (n := l.length + ys.length) (by simp)
                    rw [hg'] at this
                    exact this
            | _ => rw [hd] at he; simp at he
        | xs k' l =>
          dsimp only at he
          split at he
          case isFalse => simp at he
          rename_i hc
          obtain ⟨rfl, hby, h63⟩ := hc
          obtain ⟨adx, hux, _, hk', hlx⟩ := hrx
          cases ys with
          | nil =>
            rw [if_pos List.length_nil] at he
            simp only [Option.some.injEq] at he
            subst he
            refine EffOK.pure S (u := a.eval x) ?_ (okX_sound S hx hvx)
            have h9 := hf w rfl
            rcases hn1 with ⟨_, rfl⟩ | ⟨b, of, rfl, _⟩
            · simp only [List.length_nil] at h9 huy
              cases adx <;> simp [execOp, ho, resolve, invoke, builtin, hux, huy, Builtin.append_, run_underlying ht, sizeOf, typeInfo, hi, Builtin.lenOf, h9, storeCells]
            · have hnn : news = [] := List.eq_nil_of_length_eq_zero (by simpa using hnl)
              subst hnn
              simp only [List.length_nil] at h9 huy
              cases adx <;> simp [execOp, ho, resolve, invoke, builtin, hux, huy, Builtin.append_, run_underlying ht, sizeOf, typeInfo, hi, Builtin.lenOf, h9, storeCells]
          | cons y0 ys =>
            rw [if_neg (by simp)] at he
            cases hid : newId s.h d with
            | none => rw [hid] at he; simp at he
            | some id =>
              rw [hid] at he
              simp only [Option.some.injEq] at he
              subst he
              have hpos : 0 < (y0 :: ys).length := by simp
              generalize hys : y0 :: ys = yy at *
              clear hys
              obtain ⟨olds, ho1, ho2, ho3⟩ : ∃ olds, (l.length = 0 ∧ olds = [] ∨ ∃ b o, adx = some ⟨b, o, none⟩ ∧ ∀ j u, olds[j]? = some u → w.cell? ⟨b, o + j, none⟩ = some u) ∧ RepL w g.lm l.flatten olds ∧ ∀ u ∈ olds, u.oneCell' = true := by
                rcases hlx with rfl | ⟨b, of, vs, rfl, hrl, hm⟩
                · exact ⟨[], .inl ⟨rfl, rfl⟩, .nil, by simp⟩
                · refine ⟨vs, .inr ⟨b, of, rfl, fun j u h => (hm j u h).1⟩, hrl, fun u hu => ?_⟩
                  obtain ⟨j, hj, e⟩ := List.getElem_of_mem hu
                  exact (hm j u (by rw [List.getElem?_eq_getElem hj, e])).2.2
              have hol : olds.length = l.length * i.size := by rw [← ho2.length, flatten_len hk']
              obtain ⟨_, hfo⟩ := src_slice (P := P) (cap := l.length) ho1 hol
              have n1 : ¬ (l.length + yy.length ≤ l.length) := by omega
              have n2 : ¬ (9223372036854775807 < ((l.length : Int) + (yy.length : Int))) := by omega
              have n3 : ¬ (281474976710656 < Builtin.nextslicecap (l.length + yy.length) l.length * i.bytes) := by
                have := growslice_fits (show l.length < l.length + yy.length by omega) (by simpa [maxBytes] using hby)
                omega
              have hge := grownCap_ge w (l.length + yy.length) l.length e
              have hcm := grownCap_le_maxLen w (l.length + yy.length) l.length e (by simp only [maxLen]; omega)
              have hrun : (execOp a.eval o).run P w = .ok (.value (.slice (some ⟨w.heap.size, 0, none⟩) (l.length + yy.length) (grownCap w (l.length + yy.length) l.length e))) (w.drew.alloc (.cells (olds.toArray ++ news.toArray ++ Builtin.zeroCells z.cells (grownCap w (l.length + yy.length) l.length e - (l.length + yy.length))) e)) := by
                have q1 := hf w.drew rfl
                have q2 := hfo w.drew rfl
                simp only [execOp, ho, resolve, invoke, builtin, Sem.run_bind, Sem.run_pure, Result.andThen_ok, List.map_toArray, List.map_cons, List.map_nil, hux, huy]
                simp [Builtin.append_, run_underlying ht, sizeOf, typeInfo, zeroValue, hi, hz, Builtin.lenOf, n1, n2, n3, Question.forced, q1, q2, Go.newRow, grownCap]
                congr 2
                apply Array.ext'
                simp [List.append_assoc]
              have hB := drewN_alloc_below w (.cells (olds.toArray ++ news.toArray ++ Builtin.zeroCells z.cells (grownCap w (l.length + yy.length) l.length e - (l.length + yy.length))) e)
              have hll : (l ++ yy).length = l.length + yy.length := by simp
              have hxsl : (olds ++ news).length = (l ++ yy).length * i.size := by rw [List.length_append, hol, hnl, hll, Nat.add_mul]
              have hlm : ∀ b, b < w.heap.size → upd g.lm w.heap.size 0 b = g.lm b := fun b h => upd_ne _ (by omega) _
              obtain ⟨S', T'⟩ := S.new (id := id) (newId_none hid) (newId_lt hid) hB (lm' := upd g.lm w.heap.size 0) hlm (hop := rfl) (v0 := .slice (some ⟨w.heap.size, 0, none⟩) (l.length + yy.length) (grownCap w (l.length + yy.length) l.length e)) (o := .row e i.size false (l ++ yy))
                (fun b hb => by simp [blk] at hb; omega)
                ⟨h0, by
                  intro c hc
                  rcases List.mem_append.1 hc with h | h
                  · exact hk' c h
                  · exact hyk c h, ⟨olds ++ news, by
                    simp only [upd_same]
                    refine ⟨hxsl, .inr ⟨w.heap.size, _, _, by rw [hll], S.bw, heap_alloc_new w.drew _, by rw [hll]; exact hge, hcm, ?_, ?_⟩⟩
                    · simp only [Array.size_append, List.size_toArray, size_zeroCells, hzs, hol, hnl, ← Nat.add_mul]
                      congr 1
                      omega
                    · simp only [Array.toList_append, List.append_assoc]
                      rw [← List.append_assoc, ← hxsl]
                      exact List.take_left, by rw [List.flatten_append]; exact (ho2.append hn2).ext (Ext.of_below hB hlm), by
                    intro u hu
                    rcases List.mem_append.1 hu with h | h
                    · exact ho3 u h
                    · exact hn3 u h⟩, fun b hb => by
                    simp only [upd_same] at hb
                    simp [blk] at hb
                    subst hb
                    simp [upd_same]⟩
              refine EffOK.mk' rfl hrun S' ?_
              have := srep_new_ms (w' := w.drew.alloc (.cells (olds.toArray ++ news.toArray ++ Builtin.zeroCells z.cells (grownCap w (l.length + yy.length) l.length e - (l.length + yy.length))) e)) (g' := ⟨upd g.lm w.heap.size 0, upd g.v id (.slice (some ⟨w.heap.size, 0, none⟩) (l.length + yy.length) (grownCap w (l.length + yy.length) l.length e))⟩) (h' := AM.put s.h id (.row e i.size false (l ++ yy))) (get_put_same _ _ _) (n := l.length + yy.length) (by simp)
              simp only [upd_same] at this
              exact this
        | _ => simp at he

theorem rep_bytes {lm : Nat → Nat} (b : List UInt8) : RepL w lm ((b.map fun b => [PV.sc (.int .u8 b.toNat)]).flatten) (b.map fun b => Value.int .u8 b.toNat) := by
  induction b with
  | nil => exact .nil
  | cons x b ih => exact .cons (.sc _) ih

theorem eff_apps (S : Sim base w0 lm0 N g a w s) {t tx : TypeId} {e by_ : Nat} {x y : Operand} {x' y' : X} {call : Call} {d : Nat} {r : Eff} (ho : o.op = .call { callee := .builtin .append, args := #[x, y], argTypes := #[t, tx] }) (ht : P.underlying t = some (.slice e)) (htx : P.underlying tx = some .string) (hel : elOk P e 1 by_ = true)
    (hx : okX x x' = true) (hy : okX y y' = true) (he : eff call s d (.apps e by_ x' y') = some r) : EffOK P base w0 lm0 N g a w s o r := by
  obtain ⟨i, z, hi, hz, hi1, rfl, hzs⟩ := elOk_sound hel
  simp only [eff] at he
  cases hvx : x'.ev s with
  | none => rw [hvx] at he; simp at he
  | some vx =>
    cases hvy : y'.ev s with
    | none => rw [hvx, hvy] at he; cases vx <;> simp at he
    | some vy =>
      rw [hvx, hvy] at he
      split at he
      case h_2 => simp at he
      rename_i d' off len st h1 h2
      obtain rfl := Option.some.inj h1
      obtain rfl := Option.some.inj h2
      have hrx := okX_sound S hx hvx
      have huy := rep_sc (ev_p S hy hvy)
      cases hd : get s.h d' with
      | none => rw [hd] at he; simp at he
      | some ob =>
        cases ob with
        | row e' k' fz l =>
          cases fz with
          | true => rw [hd] at he; simp at he
          | false =>
            rw [hd] at he
            dsimp only at he
            split at he
            case isFalse => simp at he
            rename_i hc
            obtain ⟨rfl, rfl, rfl, rfl, hby, h63⟩ := hc
            cases hid : newId s.h d with
            | none => rw [hid] at he; simp at he
            | some id =>
              rw [hid] at he
              simp only [Option.some.injEq] at he
              subst he
              simp only [SRep, hd] at hrx
              have hux : a.eval x = g.v d' := by
                rcases hrx.2 with h | h
                · exact h.2.2
                · exact absurd h.1 (by simp)
              obtain ⟨_, hk', ⟨xs, h3, h4, h5⟩, _⟩ := S.ob d' _ hd
              have hbl : (st.data.toList.map fun b => Value.int .u8 b.toNat).length = st.size := by simp
              obtain ⟨v', w', hrun, hown, hcase⟩ := run_app (P := P) (ty := o.type) (x := .string st) (m := st.size) (news := st.data.toList.map fun b => Value.int .u8 b.toNat) ht htx (by simp) hi hz (by rw [hzs, hi1]) (by rw [hi1]; exact h3) (by rw [hbl, hi1, Nat.mul_one]) (by simp [Value.oneCell']) (fun w' => rfl) (fun w' _ => by
                  rw [hi1]
                  have := Lib.run_firstCells_string (P := P) w' 1 st
                  rw [this]; rfl) (by simp only [maxLen]; omega) (by simpa [maxBytes] using hby) S.bw
              rw [hi1] at hown
              have hln : (l ++ st.data.toList.map fun b => [PV.sc (.int .u8 b.toNat)]).length = l.length + st.size := by simp
              obtain ⟨g', hg', S'⟩ := S.grow hd (newId_none hid) (newId_lt hid) (l' := l ++ st.data.toList.map fun b => [PV.sc (.int .u8 b.toNat)]) (xs' := xs ++ st.data.toList.map fun b => Value.int .u8 b.toNat) (by
                  intro c hc
                  rcases List.mem_append.1 hc with h | h
                  · exact hk' c h
                  · obtain ⟨b, _, rfl⟩ := List.mem_map.1 h; rfl) (by rw [hln]; exact hown) (by rw [List.flatten_append]; exact h4.append (rep_bytes _)) (by
                  intro u hu
                  rcases List.mem_append.1 hu with h | h
                  · exact h5 u h
                  · obtain ⟨b, _, rfl⟩ := List.mem_map.1 h; rfl) hcase
              refine EffOK.mk' (u := v') rfl ?_ S' ?_
              · simp only [execOp, ho, resolve, invoke, builtin, Sem.run_bind, Sem.run_pure, Result.andThen_ok, List.map_toArray, List.map_cons, List.map_nil, hux, huy, hrun]
              · have := srep_new_ms (w' := w') (g' := g') (h' := AM.put (AM.put s.h d' .dead) id (.row e' 1 false (l ++ st.data.toList.map fun b => [PV.sc (.int .u8 b.toNat)]))) (get_put_same _ _ _) (n := l.length + st.size) hln.symm
                rw [hg'] at this
                exact this
        | _ => rw [hd] at he; simp at he
end
end Go.Proofs.Ytihgpnfkadldeaa.AM
