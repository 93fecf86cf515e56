/- make, copy, range over a string. No condition. -/
import Derived.Test.YtihgpnfkadldeaaAM12
namespace Go.Proofs.Ytihgpnfkadldeaa.AM
open Go Go.RowKit
set_option linter.unusedVariables false
set_option linter.unusedSimpArgs false

section
variable {P : Program} {base : Nat} {w0 : World} {lm0 : Nat → Nat} {N : Nat} {g : Gs} {a : Act} {w : World} {s : St} {o : Oper}

theorem madeCells_succ (z : Array Value) (n : Nat) (hz : 0 < z.size) : (madeCells z ((n + 1) * z.size)).toList = (madeCells z (n * z.size)).toList ++ z.toList := by
  have e1 : ∀ m, (madeCells z m).toList = (List.range m).map fun i => z[i % z.size]! := fun m => by simp [madeCells, Array.toList_range]
  rw [e1, e1, Nat.add_mul, Nat.one_mul, List.range_add, List.map_append, List.map_map]
  congr 1
  apply List.ext_getElem?
  intro j
  by_cases hj : j < z.size
  · have h1 : (n * z.size + j) % z.size = j := by rw [Nat.mul_comm, Nat.mul_add_mod]; exact Nat.mod_eq_of_lt hj
    simp [hj, h1]
  · simp [hj]
theorem made_rep {lm : Nat → Nat} {z : Array Value} {zp : List PV} (hz : 0 < z.size) (h : RepL w lm zp z.toList) (h1 : ∀ u ∈ z.toList, u.oneCell' = true) : ∀ n, RepL w lm (List.replicate n zp).flatten (madeCells z (n * z.size)).toList ∧ ∀ u ∈ (madeCells z (n * z.size)).toList, u.oneCell' = true
  | 0 => by simp [madeCells]; exact .nil
  | n + 1 => by
    obtain ⟨h2, h3⟩ := made_rep hz h h1 n
    rw [madeCells_succ z n hz, List.replicate_succ', List.flatten_append]
    refine ⟨h2.append (by simpa using h), fun u hu => ?_⟩
    rcases List.mem_append.1 hu with h4 | h4
    · exact h3 u h4
    · exact h1 u h4

theorem eff_mks (S : Sim base w0 lm0 N g a w s) {t : TypeId} {e k by_ : Nat} (h0 : 0 < k) {z : List PV} {zv : Value} {x y : Operand} {x' y' : X} {call : Call} {d : Nat} {r : Eff} (ho : o.op = .makeSlice t x y) (ht : P.underlying t = some (.slice e)) (hel : elOk P e k by_ = true) (hz : (P.info? e).bind (·.zero) = some zv) (hok : okZ zv.cells.toList z = true)
    (hx : okX x x' = true) (hy : okX y y' = true) (he : eff call s d (.mks e k by_ z x' y') = some r) : EffOK P base w0 lm0 N g a w s o r := by
  obtain ⟨i, z', hi, hz', rfl, rfl, hzs⟩ := elOk_sound hel
  have hzz : zv = z' := by rw [hi] at hz; simp [hz'] at hz; exact hz.symm
  subst hzz
  simp only [eff] at he
  cases hvx : x'.ev s with
  | none => rw [hvx] at he; simp at he
  | some vx =>
    cases hvy : y'.ev s with
    | none => rw [hvx, hvy] at he; simp at he
    | some vy =>
      rw [hvx, hvy] at he
      dsimp only at he
      cases hnx : natOf vx with
      | none => rw [hnx] at he; simp at he
      | some n =>
        cases hny : natOf vy with
        | none => rw [hnx, hny] at he; simp at he
        | some m =>
          rw [hnx, hny] at he
          dsimp only at he
          split at he
          case isFalse => simp at he
          rename_i hc
          obtain ⟨hnm, hby, h63⟩ := hc
          cases hid : newId s.h d with
          | none => rw [hid] at he; simp at he
          | some id =>
            rw [hid] at he
            simp only [Option.some.injEq] at he
            subst he
            obtain ⟨kx, hux⟩ := natOf_sound S hx hvx hnx
            obtain ⟨ky, huy⟩ := natOf_sound S hy hvy hny
            obtain ⟨q1, q2⟩ := okZ_sound (w := w) (lm := g.lm) hok
            have hrun := run_make (P := P) w t e i zv ht hi hz' kx ky n m (by omega) (by omega) (by
              have : ((i.bytes * m : Nat) : Int) ≤ 281474976710656 := by
                have : i.bytes * m = m * i.bytes := Nat.mul_comm _ _
                simp only [maxBytes] at hby
                omega
              rwa [Int.natCast_mul] at this) (by omega)
            simp only [Int.toNat_natCast] at hrun
            rw [← hzs] at hrun
            have hzl : z.length = i.size := by rw [q1.length, Array.length_toList, hzs]
            obtain ⟨q3, q4⟩ := made_rep (n := n) (by rw [hzs]; exact h0) q1 q2
            have hsz : (madeCells zv.cells (m * zv.cells.size)).size = m * i.size := by rw [size_madeCells, hzs]
            have htake : (madeCells zv.cells (m * zv.cells.size)).toList.take (n * i.size) = (madeCells zv.cells (n * zv.cells.size)).toList := by
              have e1 : ∀ m, (madeCells zv.cells m).toList = (List.range m).map fun i => zv.cells[i % zv.cells.size]! := fun m => by simp [madeCells, Array.toList_range]
              rw [e1, e1, ← List.map_take, List.take_range, hzs, Nat.min_eq_left (Nat.mul_le_mul_right _ hnm)]
            have hB := below_alloc' w (.cells (madeCells zv.cells (m * zv.cells.size)) e)
            have hlm : ∀ b, b < w.heap.size → upd g.lm w.heap.size 0 b = g.lm b := fun b h => upd_ne _ (by omega) _
            obtain ⟨S', T'⟩ := S.new (id := id) (newId_none hid) (newId_lt hid) hB (lm' := upd g.lm w.heap.size 0) hlm (hop := rfl) (v0 := .slice (some ⟨w.heap.size, 0, none⟩) n m) (o := .row e i.size false (List.replicate n z))
              (fun b hb => by simp [blk] at hb; omega)
              ⟨h0, by
                intro c hc
                rw [List.eq_of_mem_replicate hc]; exact hzl, ⟨(madeCells zv.cells (n * zv.cells.size)).toList, by
                simp only [upd_same]
                refine ⟨?_, .inr ⟨w.heap.size, m, _, by simp, S.bw, heap_alloc_new w _, by simpa using hnm, by simp only [maxLen]; omega, hsz, by simpa using htake⟩⟩
                simp [size_madeCells, hzs], q3.ext (Ext.of_below hB hlm), q4⟩, fun b hb => by
                simp only [upd_same] at hb
                simp [blk] at hb
                subst hb
                simp [upd_same]⟩
            refine EffOK.mk' (u := .slice (some ⟨w.heap.size, 0, none⟩) n m) rfl ?_ S' ?_
            · simp only [execOp, ho, hux, huy, Sem.run_bind, hrun, Result.andThen_ok, Sem.run_pure]
            · have := srep_new_ms (w' := w.alloc (.cells (madeCells zv.cells (m * zv.cells.size)) e)) (g' := ⟨upd g.lm w.heap.size 0, upd g.v id (.slice (some ⟨w.heap.size, 0, none⟩) n m)⟩) (h' := AM.put s.h id (.row e i.size false (List.replicate n z))) (get_put_same _ _ _) (n := n) (by simp)
              simp only [upd_same] at this
              exact this

theorem eff_cpy (S : Sim base w0 lm0 N g a w s) {t t2 el : TypeId} {k : Nat} (h0 : 0 < k) {x y : Operand} {x' y' : X} {call : Call} {d : Nat} {r : Eff} (ho : o.op = .call { callee := .builtin .copy, args := #[x, y], argTypes := #[t, t2] }) (ht : P.underlying t = some (.slice el)) (hk : P.cellsOf el = k)
    (hx : okX x x' = true) (hy : okX y y' = true) (he : eff call s d (.cpy k x' y') = some r) : EffOK P base w0 lm0 N g a w s o r := by
  simp only [eff] at he
  cases hvx : x'.ev s with
  | none => rw [hvx] at he; simp at he
  | some vx =>
    cases hvy : y'.ev s with
    | none => rw [hvx, hvy] at he; cases vx <;> simp at he
    | some vy =>
      rw [hvx, hvy] at he
      cases vx with
      | ms d' off len =>
        dsimp only at he
        cases hes : elems s.h vy with
        | none => rw [hes] at he; simp at he
        | some q =>
          obtain ⟨k2, ys⟩ := q
          rw [hes] at he
          dsimp only at he
          cases hd : get s.h d' with
          | none => rw [hd] at he; simp at he
          | some ob =>
            cases ob with
            | row e k' fz l =>
              cases fz with
              | true => rw [hd] at he; simp at he
              | false =>
                rw [hd] at he
                dsimp only at he
                split at he
                case isFalse => simp at he
                rename_i hc
                obtain ⟨rfl, rfl, hol⟩ := hc
                simp only [Option.some.injEq] at he
                subst he
                have hrx := okX_sound S hx hvx
                obtain ⟨adx, capx, hux, hcx⟩ := svLen_sound S hrx (n := len) (by simp [svLen, hd])
                obtain ⟨ady, capy, huy, hcy, hly⟩ := elems_sound S (okX_sound S hy hvy) hes
                obtain ⟨_, hk', ⟨xs0, h30, _⟩, _⟩ := S.ob d' _ hd
                have hz : Nat.min ys.length len = min ys.length len := rfl
                by_cases hn0 : min ys.length len = 0
                · -- nothing is copied
                  have hrun : (execOp a.eval o).run P w = .ok (.value (.int .i64 0)) w := by
                    have hf : (Builtin.firstCells k' 0 (.slice ady ys.length capy)).run P w = .ok #[] w := by cases ady <;> simp [Builtin.firstCells, loadCells, loadCellsFrom]
                    cases adx <;> simp [execOp, ho, resolve, invoke, builtin, hux, huy, Builtin.copy_, run_underlying ht, Builtin.lenOf, hz, hn0, run_sizeOf hk h0, hf, storeCells, goInt]
                  have hl : l.take off ++ ys.take len ++ l.drop (off + min ys.length len) = l := by
                    have : ys.take len = [] := by
                      apply List.eq_nil_of_length_eq_zero
                      rw [List.length_take]; omega
                    rw [this, hn0]; simp
                  refine EffOK.mk' (g' := ⟨g.lm, g.v⟩) (h' := AM.put s.h d' (.row e k' false (l.take off ++ ys.take len ++ l.drop (off + min ys.length len)))) rfl hrun ?_ (by rw [hn0]; exact Rep.sc _)
                  rw [hl]
                  have := S.cells1 (w' := w) (d := d') (lm' := g.lm) hd (o' := .row e k' false l) ⟨rfl, rfl⟩ rfl rfl rfl (Ext.refl _ _) (Below.refl _ _) (fun b _ _ => ⟨rfl, rfl⟩) (S.ob d' _ hd)
                  exact this
                · rcases hly with rfl | ⟨_, hyk, b2, of2, vs, rfl, hrl2, hm2, h12⟩
                  · simp at hn0
                  have hb : ∃ b, blk (g.v d') = some b ∧ adx = some ⟨b, off * k', none⟩ := by
                    simp only [SRep, hd] at hrx
                    obtain ⟨_, hr⟩ := hrx
                    rcases hr with ⟨rfl, rfl, hu'⟩ | ⟨_, ad', cap', hu', _, hz'⟩
                    · rcases h30.2 with ⟨hv0, h0'⟩ | ⟨b, cap'', cur, hv0, _⟩
                      · omega
                      · rw [hux, hv0] at hu'
                        simp only [Value.slice.injEq] at hu'
                        exact ⟨b, by rw [hv0]; rfl, by rw [hu'.1]; simp⟩
                    · rw [hux] at hu'
                      simp only [Value.slice.injEq] at hu'
                      rcases hz' with hz' | ⟨b, hb, e⟩
                      · omega
                      · exact ⟨b, hb, by rw [hu'.1]; exact e⟩
                  obtain ⟨b, hb, rfl⟩ := hb
                  obtain ⟨cap, cur, xs, hv, hbase, hlc, hcm, hg, hcs, hxs, hrl, h1⟩ := own_row S hd hb
                  generalize hmn : min ys.length len = n at *
                  have hvsl : vs.length = ys.length * k' := by rw [← hrl2.length, flatten_len hyk]
                  have hnk : n * k' ≤ ys.length * k' := Nat.mul_le_mul_right _ (by omega)
                  have hcl : (vs.take (n * k')).length = n * k' := by simp; omega
                  have hon : off * k' + n * k' ≤ l.length * k' := by rw [← Nat.add_mul]; exact Nat.mul_le_mul_right _ (by omega)
                  have hlcap : l.length * k' ≤ cap * k' := Nat.mul_le_mul_right _ hlc
                  have h13 : ∀ u ∈ vs.take (n * k'), u.oneCell' = true := fun u hu => h12 u (List.mem_of_mem_take hu)
                  have hst := run_storeCells_at P b (off * k') e (vs.take (n * k')) 0 cur w hg (by rw [hcl]; omega) h13
                  simp only [Nat.add_zero, hcl] at hst
                  have hf := run_firstCells_some (P := P) w k' n ⟨b2, of2, none⟩ ys.length capy (vs.take (n * k')) hcl (fun j v hv => by
                    rw [add_n]
                    rw [List.getElem?_take] at hv
                    split at hv
                    · exact hm2 j v hv
                    · simp at hv)
                  have hrun : (execOp a.eval o).run P w = .ok (.value (.int .i64 n)) (w.setRow b (cur.toList.take (off * k') ++ vs.take (n * k') ++ cur.toList.drop (off * k' + n * k')).toArray) := by
                    have hz2 : Nat.min ys.length len = n := hmn
                    simp [execOp, ho, resolve, invoke, builtin, hux, huy, Builtin.copy_, run_underlying ht, Builtin.lenOf, hz2, run_sizeOf hk h0, hf, hst, goInt]
                  have hytk : ys.take len = ys.take n := by
                    rcases Nat.le_total ys.length len with h | h
                    · rw [List.take_of_length_le h, List.take_of_length_le (by omega)]
                    · congr 1; omega
                  have hnl : ∀ c' ∈ l.take off ++ ys.take len ++ l.drop (off + n), c'.length = k' := by
                    intro c' hc'
                    simp only [List.mem_append] at hc'
                    rcases hc' with (h | h) | h
                    · exact hk' _ (List.mem_of_mem_take h)
                    · exact hyk _ (List.mem_of_mem_take h)
                    · exact hk' _ (List.mem_of_mem_drop h)
                  have hxl : xs.length = l.length * k' := by rw [← hrl.length, flatten_len hk']
                  have hfl : (l.take off ++ ys.take len ++ l.drop (off + n)).flatten = l.flatten.take (off * k') ++ ys.flatten.take (n * k') ++ l.flatten.drop (off * k' + n * k') := by
                    rw [List.flatten_append, List.flatten_append, hytk, ← flatten_take off hk', ← flatten_take n hyk, ← flatten_drop (off + n) hk', Nat.add_mul]
                  have hnew : ((cur.toList.take (off * k') ++ vs.take (n * k') ++ cur.toList.drop (off * k' + n * k')).toArray.toList.take (l.length * k')) = xs.take (off * k') ++ vs.take (n * k') ++ xs.drop (off * k' + n * k') := by
                    rw [← hxs]
                    simp only [List.take_append, List.length_append, List.length_take, Array.length_toList, List.take_take, List.drop_take, hcl]
                    congr 2
                    · congr 1; omega
                    · congr 1; omega
                    · congr 1; omega
                  obtain ⟨S2, T2⟩ := S.setRow hd (l' := l.take off ++ ys.take len ++ l.drop (off + n)) (by simp; omega) hnl hv hbase hlc hcm hg (new := (cur.toList.take (off * k') ++ vs.take (n * k') ++ cur.toList.drop (off * k' + n * k')).toArray) (by simp; omega)
                    (xs := xs.take (off * k') ++ vs.take (n * k') ++ xs.drop (off * k' + n * k')) (by rw [hfl]; exact ((hrl.take _).append (hrl2.take _)).append (hrl.drop _)) hnew (by
                      intro u hu
                      simp only [List.mem_append] at hu
                      rcases hu with (hu | hu) | hu
                      · exact h1 u (List.mem_of_mem_take hu)
                      · exact h13 u hu
                      · exact h1 u (List.mem_of_mem_drop hu))
                  exact EffOK.mk' rfl hrun S2 (Rep.sc _)
            | _ => rw [hd] at he; simp at he
      | _ => simp at he

theorem eff_rng (S : Sim base w0 lm0 N g a w s) {t : TypeId} {x : Operand} {x' : X} {call : Call} {d : Nat} {r : Eff} (ho : o.op = .range t x) (ht : P.underlying t = some .string) (hx : okX x x' = true) (he : eff call s d (.rng x') = some r) : EffOK P base w0 lm0 N g a w s o r := by
  simp only [eff] at he
  split at he
  · rename_i st hv
    cases hid : newId s.h d with
    | none => rw [hid] at he; simp at he
    | some id =>
      rw [hid] at he
      simp only [Option.some.injEq] at he
      subst he
      have hu := rep_sc (ev_p S hx hv)
      have hlm : ∀ b, b < w.heap.size → g.lm b = g.lm b := fun _ _ => rfl
      obtain ⟨S', T'⟩ := S.new (id := id) (newId_none hid) (newId_lt hid) (below_alloc' w (.stringIter st 0)) (lm' := g.lm) hlm (v0 := .pointer (some ⟨w.heap.size, 0, none⟩)) (o := .it st 0) rfl (fun b hb => by simp [blk] at hb; omega) ⟨w.heap.size, upd_same _ _ _, S.bw, heap_alloc_new w _⟩
      refine EffOK.mk' (u := .pointer (some ⟨w.heap.size, 0, none⟩)) rfl ?_ S' ?_
      · simp only [execOp, ho, hu, Sem.run_bind, run_range_string w t st ht, Result.andThen_ok, Sem.run_pure]
        rfl
      · simp only [SRep, putAll, get_put_same, upd_same]
  · simp at he

theorem eff_nxt (S : Sim base w0 lm0 N g a w s) {x : Operand} {x' : X} {call : Call} {d : Nat} {r : Eff} (ho : o.op = .next x true) (hx : okX x x' = true) (he : eff call s d (.nxt x') = some r) : EffOK P base w0 lm0 N g a w s o r := by
  simp only [eff] at he
  cases hv : x'.ev s with
  | none => rw [hv] at he; simp at he
  | some v =>
    rw [hv] at he
    cases v with
    | mp d' i j =>
      dsimp only at he
      cases hd : get s.h d' with
      | none => rw [hd] at he; simp at he
      | some ob =>
        cases ob <;> rw [hd] at he <;> first | (simp at he; done) | skip
        rename_i st pos
        dsimp only at he
        obtain ⟨b, hb1, hb2, hb3⟩ := S.ob d' _ hd
        have hu : a.eval x = .pointer (some ⟨b, 0, none⟩) := by
          have := okX_sound S hx hv
          simp only [SRep, hd] at this
          rw [this, hb1]
        split at he
        · rename_i hlt
          simp only [Option.some.injEq] at he
          subst he
          have hrun := Lib.run_next_any_at (P := P) w b st pos o.type hb3 hlt
          have hext : Ext w g.lm (w.iterAt b st (pos + (Utf8.decode st pos).2)) g.lm := by
            intro b' of u hc hl
            refine ⟨?_, hl⟩
            have hne : b' ≠ b := fun h => by rw [h] at hc; simp [World.cell?, hb3] at hc
            exact (World.cell?_of_block (a := ⟨b', of, none⟩) (Lib.iterAt_other w b b' st _ hne)).trans hc
          have S' := S.cells1 (d := d') (lm' := g.lm) hd (o' := .it st (pos + (Utf8.decode st pos).2)) trivial rfl rfl rfl hext (Lib.below_iterAt (Below.refl _ _) hb2 _ _)
            (fun b' hb' _ => ⟨Lib.iterAt_other _ _ _ _ _ (fun h => hb' (by rw [hb1, h]; rfl)), rfl⟩) ⟨b, hb1, hb2, Lib.iterAt_heap w b st pos _ hb3⟩
          refine EffOK.mk' (g' := ⟨g.lm, g.v⟩) rfl ?_ S' (Rep.tu (vs := [.bool true, .int .i64 pos, .int .i32 (Utf8.decode st pos).1]) (.cons (.sc _) (.cons (.sc _) (.cons (.sc _) .nil))))
          simp only [execOp, ho, hu, Sem.run_bind, hrun, Result.andThen_ok, Sem.run_pure]
        · rename_i hlt
          simp only [Option.some.injEq] at he
          subst he
          have hrun := Lib.run_next_end_at (P := P) w b st pos o.type hb3 hlt
          refine EffOK.pure S (u := .tuple #[.bool false]) ?_ (Rep.tu (vs := [.bool false]) (.cons (.sc _) .nil))
          simp only [execOp, ho, hu, Sem.run_bind, hrun, Result.andThen_ok, Sem.run_pure]
    | _ => simp at he
end
end Go.Proofs.Ytihgpnfkadldeaa.AM
