/- Made by pack.py: AM13, AMD, AMB, AMC. No condition but what each says. -/
import Derived.Test.YtjpibniecllafaaGreatR2
import Derived.Lib.RuneBytes
set_option linter.unusedSimpArgs false
set_option linter.unusedVariables false
section
namespace Go.Proofs.YtjpibniecllafaaGreat.AM
open Go Go.RowKit
section
variable {P : Program} {base : Nat} {w0 : World} {lm0 : L0} {N : Nat} {g : Gs} {a : Act} {w : World} {s : St} {o : Oper}
theorem Tg7 (z : Array Value) (n : Nat) (hz : 0 < z.size) : (madeCells z ((n + 1) * z.size)).toList = (madeCells z (n * z.size)).toList ++ z.toList := by
 have e1 : ∀ m, (madeCells z m).toList = (List.range m).map fun i => z[i % z.size]! := fun m => by simp [madeCells, Array.toList_range]
 rw [e1, e1, Nat.add_mul, Nat.one_mul, List.range_add, List.map_append, List.map_map]
 congr 1
 apply List.ext_getElem?
 intro j
 by_cases hj : j < z.size
 · have h1 : (n * z.size + j) % z.size = j := by rw [Nat.mul_comm, Nat.mul_add_mod]; exact Nat.mod_eq_of_lt hj
   simp [hj, h1]
 · simp [hj]
theorem Tl1 {lm : Nat → Nat} {z : Array Value} {zp : List PV} (hz : 0 < z.size) (h : RepL w lm zp z.toList) (h1 : ∀ u ∈ z.toList, u.oneCell' = true) : ∀ n, RepL w lm (List.replicate n zp).flatten (madeCells z (n * z.size)).toList ∧ ∀ u ∈ (madeCells z (n * z.size)).toList, u.oneCell' = true
 | 0 => by simp [madeCells]; exact .nil
 | n + 1 => by
  obtain ⟨h2, h3⟩ := Tl1 hz h h1 n
  rw [Tg7 z n hz, List.replicate_succ', List.flatten_append]
  refine ⟨h2.append (by simpa using h), fun u hu => ?_⟩
  rcases List.mem_append.1 hu with h4 | h4
  · exact h3 u h4
  · exact h1 u h4
theorem Tvl (S : Sim base w0 lm0 N g a w s) {t : TypeId} {e k by_ : Nat} (h0 : 0 < k) {z : List PV} {zv : Value} {x y : Operand} {x' y' : X} {call : Call} {d : Nat} {r : Eff} (ho : o.op = .makeSlice t x y) (ht : P.underlying t = some (.slice e)) (hel : elOk P e k by_ = true) (hz : (P.info? e).bind (·.zero) = some zv) (hok : okZ zv.cells.toList z = true)
 (hx : okX x x' = true) (hy : okX y y' = true) (he : eff call s d (.mks e k by_ z x' y') = some r) : EffOK P base w0 lm0 N g a w s o r := by
 obtain ⟨i, z', hi, hz', rfl, rfl, hzs⟩ := Tbg hel
 have hzz : zv = z' := by rw [hi] at hz; simp [hz'] at hz; exact hz.symm
 subst hzz
 simp only [eff] at he
 cases hvx : x'.ev s with
 | none => rw [hvx] at he; simp at he
 | some vx =>
  cases hvy : y'.ev s with
  | none => rw [hvx, hvy] at he; simp at he
  | some vy =>
   rw [hvx, hvy] at he
   dsimp only at he
   cases hnx : natOf vx with
   | none => rw [hnx] at he; simp at he
   | some n =>
    cases hny : natOf vy with
    | none => rw [hnx, hny] at he; simp at he
    | some m =>
     rw [hnx, hny] at he
     dsimp only at he
     split at he
     case isFalse => simp at he
     rename_i hc
     obtain ⟨hnm, hby, h63⟩ := hc
     cases hid : newId s.h d with
     | none => rw [hid] at he; simp at he
     | some id =>
      rw [hid] at he
      simp only [oIE] at he
      subst he
      obtain ⟨kx, hux⟩ := Tba S hx hvx hnx
      obtain ⟨ky, huy⟩ := Tba S hy hvy hny
      obtain ⟨q1, q2⟩ := Tbz (w := w) (lm := g.lm) hok
      have hrun := run_make (P := P) w t e i zv ht hi hz' kx ky n m (by omega) (by omega) (by
       have : ((i.bytes * m : Nat) : Int) ≤ 281474976710656 := by
        have : i.bytes * m = m * i.bytes := Nat.mul_comm _ _
        simp only [maxBytes] at hby
        omega
       rwa [Int.natCast_mul] at this) (by omega)
      simp only [Int.toNat_natCast] at hrun
      rw [← hzs] at hrun
      have hzl : z.length = i.size := by rw [q1.length, Array.length_toList, hzs]
      obtain ⟨q3, q4⟩ := Tl1 (n := n) (by rw [hzs]; exact h0) q1 q2
      have hsz : (madeCells zv.cells (m * zv.cells.size)).size = m * i.size := by rw [size_madeCells, hzs]
      have htake : (madeCells zv.cells (m * zv.cells.size)).toList.take (n * i.size) = (madeCells zv.cells (n * zv.cells.size)).toList := by
       have e1 : ∀ m, (madeCells zv.cells m).toList = (List.range m).map fun i => zv.cells[i % zv.cells.size]! := fun m => by simp [madeCells, Array.toList_range]
       rw [e1, e1, ← List.map_take, List.take_range, hzs, Nat.min_eq_left (Nat.mul_le_mul_right _ hnm)]
      have hB := Tay w (.cells (madeCells zv.cells (m * zv.cells.size)) e)
      have hlm : ∀ b, b < w.heap.size → upd g.lm w.heap.size 0 b = g.lm b := fun b h => Ta7 _ (by omega) _
      obtain ⟨S', T'⟩ := S.new (id := id) (Tav hid) (Ta6 hid) hB (lm' := upd g.lm w.heap.size 0) hlm (hop := rfl) (v0 := .slice (some ⟨w.heap.size, 0, none⟩) n m) (o := .row e i.size false (List.replicate n z))
       (fun b hb => by simp [blk] at hb; omega)
       ⟨h0, by
        intro c hc
        rw [List.eq_of_mem_replicate hc]; exact hzl, ⟨(madeCells zv.cells (n * zv.cells.size)).toList, by
        simp only [Tah]
        refine ⟨?_, .inr ⟨w.heap.size, m, _, by simp, S.bw, heap_alloc_new w _, by simpa using hnm, by simp only [maxLen]; omega, hsz, by simpa using htake⟩⟩
        simp [size_madeCells, hzs], q3.ext (Ext.of_below hB hlm), q4⟩, fun b hb => by
        simp only [Tah] at hb
        simp [blk] at hb
        subst hb
        simp [Tah]⟩
      refine EffOK.mk' (u := .slice (some ⟨w.heap.size, 0, none⟩) n m) rfl ?_ S' ?_
      · simp only [execOp, ho, hux, huy, Sem.run_bind, hrun, Result.andThen_ok, Sem.run_pure]
      · have := Tbb (w' := w.alloc (.cells (madeCells zv.cells (m * zv.cells.size)) e)) (g' := ⟨upd g.lm w.heap.size 0, upd g.v id (.slice (some ⟨w.heap.size, 0, none⟩) n m)⟩) (h' := AM.put s.h id (.row e i.size false (List.replicate n z))) (Taa _ _ _) (n := n) (by simp)
        simp only [Tah] at this
        exact this
theorem Tpa (S : Sim base w0 lm0 N g a w s) {t t2 el : TypeId} {k : Nat} (h0 : 0 < k) {x y : Operand} {x' y' : X} {call : Call} {d : Nat} {r : Eff} (ho : o.op = .call { callee := .builtin .copy, args := #[x, y], argTypes := #[t, t2] }) (ht : P.underlying t = some (.slice el)) (hk : P.cellsOf el = k)
 (hx : okX x x' = true) (hy : okX y y' = true) (he : eff call s d (.cpy k x' y') = some r) : EffOK P base w0 lm0 N g a w s o r := by
 simp only [eff] at he
 cases hvx : x'.ev s with
 | none => rw [hvx] at he; simp at he
 | some vx =>
  cases hvy : y'.ev s with
  | none => rw [hvx, hvy] at he; cases vx <;> simp at he
  | some vy =>
   rw [hvx, hvy] at he
   cases vx with
   | ms d' off len =>
    dsimp only at he
    cases hes : elems s.h vy with
    | none => rw [hes] at he; simp at he
    | some q =>
     obtain ⟨k2, ys⟩ := q
     rw [hes] at he
     dsimp only at he
     cases hd : get s.h d' with
     | none => rw [hd] at he; simp at he
     | some ob =>
      cases ob with
      | row e k' fz l =>
       cases fz with
       | true => rw [hd] at he; simp at he
       | false =>
        rw [hd] at he
        dsimp only at he
        split at he
        case isFalse => simp at he
        rename_i hc
        obtain ⟨rfl, rfl, hol⟩ := hc
        simp only [oIE] at he
        subst he
        have hrx := Taf S hx hvx
        obtain ⟨adx, capx, hux, hcx⟩ := Tc4 S hrx (n := len) (by simp [svLen, hd])
        obtain ⟨ady, capy, huy, hcy, hly⟩ := Td0 S (Taf S hy hvy) hes
        obtain ⟨_, hk', ⟨xs0, h30, _⟩, _⟩ := S.ob d' _ hd
        have hz : Nat.min ys.length len = min ys.length len := rfl
        by_cases hn0 : min ys.length len = 0
        ·
         have hrun : (execOp a.eval o).run P w = .ok (.value (.int .i64 0)) w := by
          have hf : (Builtin.firstCells k' 0 (.slice ady ys.length capy)).run P w = .ok #[] w := by cases ady <;> simp [Builtin.firstCells, loadCells, loadCellsFrom]
          cases adx <;> simp [execOp, ho, resolve, invoke, builtin, hux, huy, Builtin.copy_, run_underlying ht, Builtin.lenOf, hz, hn0, Tan hk h0, hf, storeCells, goInt]
         have hl : l.take off ++ ys.take len ++ l.drop (off + min ys.length len) = l := by
          have : ys.take len = [] := by
           apply List.eq_nil_of_length_eq_zero
           rw [List.length_take]; omega
          rw [this, hn0]; simp
         refine EffOK.mk' (g' := ⟨g.lm, g.v⟩) (h' := AM.put s.h d' (.row e k' false (l.take off ++ ys.take len ++ l.drop (off + min ys.length len)))) rfl hrun ?_ (by rw [hn0]; exact Rep.sc _)
         rw [hl]
         have := S.cells1 (w' := w) (d := d') (lm' := g.lm) hd (o' := .row e k' false l) ⟨rfl, rfl⟩ rfl rfl rfl (Ext.refl _ _) (Below.refl _ _) (fun b _ _ => ⟨rfl, rfl⟩) (S.ob d' _ hd)
         exact this
        · rcases hly with rfl | ⟨_, hyk, b2, of2, vs, rfl, hrl2, hm2, h12⟩
          · simp at hn0
          have hb : ∃ b, blk (g.v d') = some b ∧ adx = some ⟨b, off * k', none⟩ := by
           simp only [SRep, hd] at hrx
           obtain ⟨_, hr⟩ := hrx
           rcases hr with ⟨rfl, rfl, hu'⟩ | ⟨_, ad', cap', hu', _, hz'⟩
           · rcases h30.2 with ⟨hv0, h0'⟩ | ⟨b, cap'', cur, hv0, _⟩
             · omega
             · rw [hux, hv0] at hu'
               simp only [Value.slice.injEq] at hu'
               exact ⟨b, by rw [hv0]; rfl, by rw [hu'.1]; simp⟩
           · rw [hux] at hu'
             simp only [Value.slice.injEq] at hu'
             rcases hz' with hz' | ⟨b, hb, e⟩
             · omega
             · exact ⟨b, hb, by rw [hu'.1]; exact e⟩
          obtain ⟨b, hb, rfl⟩ := hb
          obtain ⟨cap, cur, xs, hv, hbase, hlc, hcm, hg, hcs, hxs, hrl, h1⟩ := To9 S hd hb
          generalize hmn : min ys.length len = n at *
          have hvsl : vs.length = ys.length * k' := by rw [← hrl2.length, Tao hyk]
          have hnk : n * k' ≤ ys.length * k' := Nat.mul_le_mul_right _ (by omega)
          have hcl : (vs.take (n * k')).length = n * k' := by simp; omega
          have hon : off * k' + n * k' ≤ l.length * k' := by rw [← Nat.add_mul]; exact Nat.mul_le_mul_right _ (by omega)
          have hlcap : l.length * k' ≤ cap * k' := Nat.mul_le_mul_right _ hlc
          have h13 : ∀ u ∈ vs.take (n * k'), u.oneCell' = true := fun u hu => h12 u (List.mem_of_mem_take hu)
          have hst := run_storeCells_at P b (off * k') e (vs.take (n * k')) 0 cur w hg (by rw [hcl]; omega) h13
          simp only [Nat.add_zero, hcl] at hst
          have hf := run_firstCells_some (P := P) w k' n ⟨b2, of2, none⟩ ys.length capy (vs.take (n * k')) hcl (fun j v hv => by
           rw [add_n]
           rw [List.getElem?_take] at hv
           split at hv
           · exact hm2 j v hv
           · simp at hv)
          have hrun : (execOp a.eval o).run P w = .ok (.value (.int .i64 n)) (w.setRow b (cur.toList.take (off * k') ++ vs.take (n * k') ++ cur.toList.drop (off * k' + n * k')).toArray) := by
           have hz2 : Nat.min ys.length len = n := hmn
           simp [execOp, ho, resolve, invoke, builtin, hux, huy, Builtin.copy_, run_underlying ht, Builtin.lenOf, hz2, Tan hk h0, hf, hst, goInt]
          have hytk : ys.take len = ys.take n := by
           rcases Nat.le_total ys.length len with h | h
           · rw [List.take_of_length_le h, List.take_of_length_le (by omega)]
           · congr 1; omega
          have hnl : ∀ c' ∈ l.take off ++ ys.take len ++ l.drop (off + n), c'.length = k' := by
           intro c' hc'
           simp only [List.mem_append] at hc'
           rcases hc' with (h | h) | h
           · exact hk' _ (List.mem_of_mem_take h)
           · exact hyk _ (List.mem_of_mem_take h)
           · exact hk' _ (List.mem_of_mem_drop h)
          have hxl : xs.length = l.length * k' := by rw [← hrl.length, Tao hk']
          have hfl : (l.take off ++ ys.take len ++ l.drop (off + n)).flatten = l.flatten.take (off * k') ++ ys.flatten.take (n * k') ++ l.flatten.drop (off * k' + n * k') := by
           rw [List.flatten_append, List.flatten_append, hytk, ← Tbo off hk', ← Tbo n hyk, ← Tar (off + n) hk', Nat.add_mul]
          have hnew : ((cur.toList.take (off * k') ++ vs.take (n * k') ++ cur.toList.drop (off * k' + n * k')).toArray.toList.take (l.length * k')) = xs.take (off * k') ++ vs.take (n * k') ++ xs.drop (off * k' + n * k') := by
           rw [← hxs]
           simp only [List.take_append, List.length_append, List.length_take, Array.length_toList, List.take_take, List.drop_take, hcl]
           congr 2
           · congr 1; omega
           · congr 1; omega
           · congr 1; omega
          obtain ⟨S2, T2⟩ := S.setRow hd (l' := l.take off ++ ys.take len ++ l.drop (off + n)) (by simp; omega) hnl hv hbase hlc hcm hg (new := (cur.toList.take (off * k') ++ vs.take (n * k') ++ cur.toList.drop (off * k' + n * k')).toArray) (by simp; omega)
           (xs := xs.take (off * k') ++ vs.take (n * k') ++ xs.drop (off * k' + n * k')) (by rw [hfl]; exact ((hrl.take _).append (hrl2.take _)).append (hrl.drop _)) hnew (by
            intro u hu
            simp only [List.mem_append] at hu
            rcases hu with (hu | hu) | hu
            · exact h1 u (List.mem_of_mem_take hu)
            · exact h13 u hu
            · exact h1 u (List.mem_of_mem_drop hu))
          exact EffOK.mk' rfl hrun S2 (Rep.sc _)
      | _ => rw [hd] at he; simp at he
   | _ => simp at he
theorem Tvm (S : Sim base w0 lm0 N g a w s) {t : TypeId} {x : Operand} {x' : X} {call : Call} {d : Nat} {r : Eff} (ho : o.op = .range t x) (ht : P.underlying t = some .string) (hx : okX x x' = true) (he : eff call s d (.rng x') = some r) : EffOK P base w0 lm0 N g a w s o r := by
 simp only [eff] at he
 split at he
 · rename_i st hv
   cases hid : newId s.h d with
   | none => rw [hid] at he; simp at he
   | some id =>
    rw [hid] at he
    simp only [oIE] at he
    subst he
    have hu := Ta2 (ev_p S hx hv)
    have hlm : ∀ b, b < w.heap.size → g.lm b = g.lm b := fun _ _ => rfl
    obtain ⟨S', T'⟩ := S.new (id := id) (Tav hid) (Ta6 hid) (Tay w (.stringIter st 0)) (lm' := g.lm) hlm (v0 := .pointer (some ⟨w.heap.size, 0, none⟩)) (o := .it st 0) rfl (fun b hb => by simp [blk] at hb; omega) ⟨w.heap.size, Tah _ _ _, S.bw, heap_alloc_new w _⟩
    refine EffOK.mk' (u := .pointer (some ⟨w.heap.size, 0, none⟩)) rfl ?_ S' ?_
    · simp only [execOp, ho, hu, Sem.run_bind, run_range_string w t st ht, Result.andThen_ok, Sem.run_pure]
      rfl
    · simp only [SRep, putAll, Taa, Tah]
 · simp at he
theorem Tvn (S : Sim base w0 lm0 N g a w s) {x : Operand} {x' : X} {call : Call} {d : Nat} {r : Eff} (ho : o.op = .next x true) (hx : okX x x' = true) (he : eff call s d (.nxt x') = some r) : EffOK P base w0 lm0 N g a w s o r := by
 simp only [eff] at he
 cases hv : x'.ev s with
 | none => rw [hv] at he; simp at he
 | some v =>
  rw [hv] at he
  cases v with
  | mp d' i j =>
   dsimp only at he
   cases hd : get s.h d' with
   | none => rw [hd] at he; simp at he
   | some ob =>
    cases ob <;> rw [hd] at he <;> first | (simp at he; done) | skip
    rename_i st pos
    dsimp only at he
    obtain ⟨b, hb1, hb2, hb3⟩ := S.ob d' _ hd
    have hu : a.eval x = .pointer (some ⟨b, 0, none⟩) := by
     have := Taf S hx hv
     simp only [SRep, hd] at this
     rw [this, hb1]
    split at he
    · rename_i hlt
      simp only [oIE] at he
      subst he
      have hrun := Lib.run_next_any_at (P := P) w b st pos o.type hb3 hlt
      have hext : Ext w g.lm (w.iterAt b st (pos + (Utf8.decode st pos).2)) g.lm := by
       refine ⟨fun b' of u hc hl => ⟨?_, hl⟩, fun b' es clock hm h0 => ⟨(Lib.iterAt_other w b b' st _ (fun h => by rw [h, hb3] at hm; simp at hm)).trans hm, h0⟩⟩
       have hne : b' ≠ b := fun h => by rw [h] at hc; simp [World.cell?, hb3] at hc
       exact (World.cell?_of_block (a := ⟨b', of, none⟩) (Lib.iterAt_other w b b' st _ hne)).trans hc
      have S' := S.cells1 (d := d') (lm' := g.lm) hd (o' := .it st (pos + (Utf8.decode st pos).2)) trivial rfl rfl rfl hext (Lib.below_iterAt (Below.refl _ _) hb2 _ _)
       (fun b' hb' _ => ⟨Lib.iterAt_other _ _ _ _ _ (fun h => hb' (by rw [hb1, h]; rfl)), rfl⟩) ⟨b, hb1, hb2, Lib.iterAt_heap w b st pos _ hb3⟩
      refine EffOK.mk' (g' := ⟨g.lm, g.v⟩) rfl ?_ S' (Rep.tu (vs := [.bool true, .int .i64 pos, .int .i32 (Utf8.decode st pos).1]) (.cons (.sc _) (.cons (.sc _) (.cons (.sc _) .nil))))
      simp only [execOp, ho, hu, Sem.run_bind, hrun, Result.andThen_ok, Sem.run_pure]
    · rename_i hlt
      simp only [oIE] at he
      subst he
      have hrun := Lib.run_next_end_at (P := P) w b st pos o.type hb3 hlt
      refine EffOK.pure S (u := .tuple #[.bool false]) ?_ (Rep.tu (vs := [.bool false]) (.cons (.sc _) .nil))
      simp only [execOp, ho, hu, Sem.run_bind, hrun, Result.andThen_ok, Sem.run_pure]
  | _ => simp at he
end
end Go.Proofs.YtjpibniecllafaaGreat.AM
end
section
namespace Go.Proofs.YtjpibniecllafaaGreat.AM
open Go Go.RowKit
section
variable {P : Program} {base : Nat} {w0 : World} {lm0 : L0} {N : Nat} {g : Gs} {a : Act} {w : World} {s : St} {o : Oper}
theorem Sim.same (S : Sim base w0 lm0 N g a w s) {h : List (Nat × Ob)} (hh : ∀ d, get h d = get s.h d) : Sim base w0 lm0 N g a w ⟨s.t, h⟩ :=
 ⟨S.bas, S.size, S.defers, S.below, S.lm, fun n v hn => let ⟨u, h1, h2⟩ := S.tm n v hn; ⟨u, h1, by rw [show get h = get s.h from funext hh]; exact h2⟩, fun d o hd => S.ob d o (by rw [← hh]; exact hd), fun d o hd => S.lt d o (by rw [← hh]; exact hd), let ⟨own, hap⟩ := S.ap; ⟨own, fun d o x b hd => hap d o x b (by rw [← hh]; exact hd)⟩,
  fun d e k l xs hd hw => by rw [show get h = get s.h from funext hh] at *; exact S.gs d e k l xs hd hw,
  fun v u hq => by rw [show get h = get s.h from funext hh]; exact S.ov v u hq, S.pn,
  fun l hl => by rw [show get h = get s.h from funext hh]; exact S.px l hl, by rw [show get h = get s.h from funext hh]; exact S.fr⟩
theorem Sim.dput (S : Sim base w0 lm0 N g a w s) {d : Nat} {o o' : Ob} (hd : get s.h d = some o) (hlv : o.live = true) {w' : World} {lm' : Nat → Nat} {v' : Nat → Value} (hsh : Shp o o') (hvd : v' d = g.v d) (hvs : ∀ x, x % 1000000 ≠ d → v' x = g.v x) (hx : Ext w g.lm w' lm') (hb : Below base w w')
 (hbl : ∀ b, (∀ x, Ids d o x → blk (g.v x) ≠ some b) → b < w.heap.size → w'.heap[b]? = w.heap[b]? ∧ lm' b = g.lm b) (ho : ORep w' ⟨lm', v'⟩ base d o')
 (hap : ∃ own : Nat → Nat, ∀ d1 o1 x b, get (AM.put s.h d o') d1 = some o1 → o1.live = true → Ids d1 o1 x → blk (v' x) = some b → own b = x)
 (hkb : ∀ b, lm0.K b → Free g (get s.h) b → ∀ x, Ids d o' x → blk (v' x) ≠ some b)
 (hgr : ∀ e k l, o' = .gr e k l → ∀ xs, w'.ownsRow base e k (v' d) l.length xs → QRepL w' ⟨lm', v'⟩ (get (AM.put s.h d o')) l.flatten xs := by intro _ _ _ h; cases h) :
 Sim base w0 lm0 N ⟨lm', v'⟩ a w' ⟨s.t, AM.put s.h d o'⟩ ∧ Tr w g (get s.h) w' ⟨lm', v'⟩ (get (AM.put s.h d o')) := by
 have hni : ∀ {d1 o1 x}, get s.h d1 = some o1 → d ≠ d1 → Ids d1 o1 x → x % 1000000 ≠ d := fun h1 hne hi e => hne (e.symm.trans (hi.mod (S.lt _ _ h1)))
 have T : Tr w g (get s.h) w' ⟨lm', v'⟩ (get (AM.put s.h d o')) := ⟨hx, fun d1 o1 h1 => .inr (by
  by_cases e : d = d1
  · subst e
    rw [hd] at h1
    obtain rfl := oIj h1
    exact ⟨hvd, o', Taa _ _ _, hsh⟩
  · exact ⟨hvs _ (hni h1 e (.self _ _)), o1, by rw [Tac _ e]; exact h1, Shp.refl _⟩)⟩
 refine ⟨S.turn T hb (fun b h => ?_) (fun d1 o1 h1 => ?_) (fun d1 o1 h1 => ?_) hap (fun d1 e1 k1 l1 h1 => ?_) (fun b hK hbz hF => ⟨hbl b (fun x hx => hF d o x hd hlv hx) hbz, fun d1 o1 x h1 l1 hi => ?_⟩), T⟩
 · refine (hbl b (fun x hx e => ?_) (Nat.lt_of_lt_of_le h S.bw)).2
   have := ((S.ob d o hd).blockI hlv hx e).1
   omega
 · by_cases e : d = d1
   · subst e
     rw [Taa] at h1
     obtain rfl := oIj h1
     exact ho
   · rw [Tac _ e] at h1
     refine (S.ob d1 o1 h1).keep (fun x hi => hvs x (hni h1 e hi)) hx fun hl x hi b hbk => ?_
     exact hbl b (fun y hy => S.far h1 hd hl hlv hi hy (S.ne h1 hd (Ne.symm e) hi hy) hbk) ((S.ob d1 o1 h1).blockI hl hi hbk).2
 · by_cases e : d = d1
   · subst e; exact S.lt _ _ hd
   · rw [Tac _ e] at h1; exact S.lt _ _ h1
 · by_cases e : d = d1
   · subst e
     rw [Taa] at h1
     exact .inr fun xs hw => hgr _ _ _ (oIj h1) xs hw
   · rw [Tac _ e] at h1
     refine .inl ⟨h1, hvs _ (hni h1 e (.self _ _)), fun b hbk => ?_⟩
     exact (hbl b (fun y hy => S.far h1 hd rfl hlv (.self _ _) hy (S.ne h1 hd (Ne.symm e) (.self _ _) hy) hbk) ((S.ob d1 _ h1).block rfl hbk).2).1
 · by_cases e : d = d1
   · subst e
     rw [Taa] at h1
     obtain rfl := oIj h1
     exact hkb b hK hF x hi
   · rw [Tac _ e] at h1
     show blk (v' x) ≠ some b
     rw [hvs _ (hni h1 e hi)]
     exact hF d1 o1 x h1 l1 hi
theorem Sim.kill (S : Sim base w0 lm0 N g a w s) {d : Nat} {o : Ob} (hd : get s.h d = some o) (hlv : o.live = true := by rfl) : Sim base w0 lm0 N g a w ⟨s.t, AM.put s.h d .dead⟩ ∧ Tr w g (get s.h) w g (get (AM.put s.h d .dead)) := by
 have T : Tr w g (get s.h) w g (get (AM.put s.h d .dead)) := ⟨Ext.refl _ _, fun d1 o1 h1 => by
  by_cases e : d = d1
  · exact .inl ⟨by subst e; rw [hd] at h1; obtain rfl := oIj h1; exact hlv, by rw [← e, Taa]⟩
  · exact .inr ⟨rfl, o1, by rw [Tac _ e]; exact h1, Shp.refl _⟩⟩
 refine ⟨S.turn T (Below.refl _ _) (fun _ _ => rfl) (fun d1 o1 h1 => ?_) (fun d1 o1 h1 => ?_) ?_ (fun d1 e1 k1 l1 h1 => ?_) (fun b _ _ hF => ⟨⟨rfl, rfl⟩, fun d1 o1 x h1 l1 hi => ?_⟩), T⟩
 · by_cases e : d = d1
   · subst e
     rw [Taa] at h1
     obtain rfl := oIj h1
     trivial
   · rw [Tac _ e] at h1; exact S.ob _ _ h1
 · by_cases e : d = d1
   · subst e; exact S.lt _ _ hd
   · rw [Tac _ e] at h1; exact S.lt _ _ h1
 · obtain ⟨own, hap⟩ := S.ap
   refine ⟨own, fun d1 o1 x b h1 l1 hi hb => ?_⟩
   by_cases e : d = d1
   · subst e
     rw [Taa] at h1
     obtain rfl := oIj h1
     simp [Ob.live] at l1
   · rw [Tac _ e] at h1
     exact hap d1 o1 x b h1 l1 hi hb
 · by_cases e : d = d1
   · subst e
     rw [Taa] at h1
     simp at h1
   · rw [Tac _ e] at h1
     exact .inl ⟨h1, rfl, fun _ _ => rfl⟩
 · by_cases e : d = d1
   · subst e
     rw [Taa] at h1
     obtain rfl := oIj h1
     simp [Ob.live] at l1
   · rw [Tac _ e] at h1
     exact hF d1 o1 x h1 l1 hi
theorem Tes {l : List (List PV)} (h : plainL l = true) {p : Nat} {e k : Nat} {r : List (List PV)} : l.flatten[p]? ≠ some (.ow e k r) := fun hp => by
 obtain ⟨c, hc, hx⟩ := List.mem_flatten.1 (List.mem_of_getElem? hp)
 have := List.all_eq_true.1 (List.all_eq_true.1 h c hc) _ hx
 simp [PV.noOw] at this
theorem Sim.deepen (S : Sim base w0 lm0 N g a w s) {d e k : Nat} {l : List (List PV)} (hd : get s.h d = some (.row e k false l)) (hp : plainL l = true) : Sim base w0 lm0 N g a w ⟨s.t, AM.put s.h d (.dp e k l)⟩ := by
 obtain ⟨h1, h2, ⟨xs, h3, h4, h5⟩, h6⟩ := S.ob d _ hd
 refine S.cells hd ⟨rfl, rfl⟩ rfl (fun x hi => ?_) (Ext.refl _ _) (Below.refl _ _) (fun _ _ _ h => by cases h) (fun _ _ _ => ⟨rfl, rfl⟩) ⟨h1, h2, ⟨xs, h3, h4, h5, fun p e' k' l' hq _ => absurd hq (Tes hp)⟩, fun b hb => by simpa using h6 b hb, fun p hq => absurd hq (Tes hp)⟩
 rcases hi.dpE with rfl | ⟨p, e1, k1, l1, hq, hk, rfl⟩
 · exact .self _ _
 · exact absurd hq (Tes hp)
theorem Tr7 (S : Sim base w0 lm0 N g a w s) {t t2 el : TypeId} {k : Nat} (h0 : 0 < k) {x y : Operand} {x' y' : X} {call : Call} {d : Nat} {r : Eff} (ho : o.op = .call { callee := .builtin .copy, args := #[x, y], argTypes := #[t, t2] }) (ht : P.underlying t = some (.slice el)) (hk : P.cellsOf el = k)
 (hx : okX x x' = true) (hy : okX y y' = true) (he : eff call s d (.cpyd k x' y') = some r) : EffOK P base w0 lm0 N g a w s o r := by
 simp only [eff] at he
 split at he
 · rename_i d1 off len u hvx hvy
   split at he
   · rename_i k2 ys hel
     split at he
     · rename_i e k' l hd
       split at he
       · rename_i hc
         obtain ⟨c1, c2, c3, c4⟩ := hc
         simp only [oIE] at he
         subst he
         have h1' : eff call s d (.cpy k x' y') = some ⟨.p (.sc (.int .i64 (min ys.length len : Nat))), [(d1, .row e k' false (l.take off ++ ys.take len ++ l.drop (off + min ys.length len)))]⟩ := by
          simp only [eff, hvx, hvy, hel, hd]
          rw [if_pos ⟨c1, c2, c3⟩]
         obtain ⟨v, w', g', hrun, S', R'⟩ := Tpa S h0 ho ht hk hx hy h1'
         have S2 := S'.deepen (d := d1) (by simp only [putAll]; exact Taa _ _ _) c4
         refine ⟨v, w', g', hrun, S2.same fun q => ?_, R'⟩
         simp only [putAll, Ta9]
         split <;> rfl
       · simp at he
     · simp at he
   · simp at he
 · simp at he
theorem Sim.drow (S : Sim base w0 lm0 N g a w s) {d e k : Nat} {l : List (List PV)} (hd : get s.h d = some (.dp e k l)) {i j : Nat} {u : Value} (hr : SRep w g (get s.h) (.mp d i j) u) :
 0 < k ∧ (∀ c ∈ l, c.length = k) ∧ ∃ b xs, u = .pointer (some ⟨b, i * k + j, none⟩) ∧ blk (g.v d) = some b ∧ w.ownsRow base e k (g.v d) l.length xs ∧ RepL w g.lm l.flatten xs ∧ (∀ u ∈ xs, u.oneCell' = true) ∧
  ∀ p e' k' l', l.flatten[p]? = some (.ow e' k' l') → 0 < k' → xs[p]? = some (g.v (nid d p)) ∧ RowR w g base (nid d p) e' k' l' := by
 obtain ⟨h1, h2, ⟨xs, h3, h4, h5, h7⟩, h6⟩ := S.ob d _ hd
 simp only [SRep, hd] at hr
 obtain ⟨b, hb, rfl⟩ := hr
 exact ⟨h1, h2, b, xs, rfl, hb, h3, h4, h5, h7⟩
theorem Tr8 (S : Sim base w0 lm0 N g a w s) {t : TypeId} {x : Operand} {y : X} {e : Eff} {call : Call} {d : Nat} (ho : o.op = .load t x) (ha : aggT P t = some false) (hx : okX x y = true)
 (he : eff call s d (.ld1d y) = some e) : EffOK P base w0 lm0 N g a w s o e := by
 simp only [eff] at he
 split at he
 · rename_i d' i j hv
   split at he
   · rename_i e' k l hd
     split at he
     · rename_i c hc
       split at he
       · simp only [oIE] at he
         subst he
         obtain ⟨h0, hk, b, xs, hu, hb, hown, hrl, h1, h7⟩ := S.drow hd (Taf S hx hv)
         obtain ⟨v0, hv0, hrep⟩ := hrl.get _ _ (Tbt hk hc)
         refine EffOK.pure S (u := v0) ?_ hrep
         have := Tcw ha (Ta1 hown hb hv0)
         simp [execOp, ho, hu, this]
       · simp at he
     · simp at he
   · simp at he
 · simp at he
theorem Tvo (S : Sim base w0 lm0 N g a w s) {t : TypeId} {fs : Array Field} {i : Nat} {f : Field} {x : Operand} {y : X} {off : Nat} {call : Call} {d : Nat} {e : Eff} (ho : o.op = .fieldAddr t x i) (ht : P.underlying t = some (.struct fs)) (hf : fs[i]? = some f) (hoff : f.offset = off) (h0 : 0 < P.cellsOf f.type) (hx : okX x y = true)
 (he : eff call s d (.fad y off) = some e) : EffOK P base w0 lm0 N g a w s o e := by
 have hrun : ∀ b of, a.eval x = .pointer (some ⟨b, of, none⟩) → (execOp a.eval o).run P w = .ok (.value (.pointer (some ⟨b, of + off, none⟩))) w := by
  intro b of hu
  simp [execOp, ho, hu, Instr.fieldAt, run_underlying ht, hf, Instr.sureAddr, Tcq h0, hoff]
 simp only [eff] at he
 split at he
 · rename_i d' i' j hv
   split at he
   · rename_i e' k l hd
     simp only [oIE] at he
     subst he
     obtain ⟨_, _, b, xs, hu, hb, _⟩ := S.drow hd (Taf S hx hv)
     refine EffOK.pure S (hrun b _ hu) ?_
     simp only [SRep, hd]
     exact ⟨b, hb, by rw [Nat.add_assoc]⟩
   · simp at he
 · simp at he
theorem Tvp (S : Sim base w0 lm0 N g a w s) {t el : TypeId} {x i : Operand} {y j : X} {k : Nat} {call : Call} {d : Nat} {e : Eff} (ho : o.op = .indexAddr t x i) (ht : P.underlying t = some (.slice el)) (hk : P.cellsOf el = k) (h0 : 0 < k) (hx : okX x y = true) (hi : okX i j = true)
 (he : eff call s d (.iad k y j) = some e) : EffOK P base w0 lm0 N g a w s o e := by
 simp only [eff] at he
 split at he
 · rename_i d' off len u hv hw
   split at he
   · rename_i n hn
     split at he
     · rename_i e' k' l hd
       split at he
       · rename_i hc
         obtain ⟨rfl, hlt⟩ := hc
         simp only [oIE] at he
         subst he
         obtain ⟨ki, hi'⟩ := Tba S hi hw hn
         have hr := Taf S hx hv
         simp only [SRep, hd] at hr
         obtain ⟨hle, hr⟩ := hr
         obtain ⟨h1, h2, ⟨xs, h3, h4, h5, h7⟩, h6⟩ := S.ob d' _ hd
         have hb : ∃ b cap, blk (g.v d') = some b ∧ a.eval x = .slice (some ⟨b, off * k', none⟩) len cap := by
          rcases hr with ⟨rfl, rfl, hu⟩ | ⟨_, ad, cap, hu, _, hz⟩
          · rcases h3.2 with ⟨hv0, h0'⟩ | ⟨b, cap, cur, hv0, _⟩
            · omega
            · exact ⟨b, cap, by rw [hv0]; rfl, by rw [hu, hv0]; simp⟩
          · rcases hz with hz | ⟨b, hb, rfl⟩
            · omega
            · exact ⟨b, cap, hb, hu⟩
         obtain ⟨b, cap, hb, hu⟩ := hb
         have hrun : (execOp a.eval o).run P w = .ok (.value (.pointer (some ⟨b, off * k' + n * k', none⟩))) w := by
          have h1 : (0 : Int) ≤ (n : Int) ∧ (n : Int) < (len : Int) := by omega
          simp [execOp, ho, hu, hi', Instr.indexAt, run_underlying ht, asIntOf, h1, Tan hk h0, add_n, hlt]
         refine EffOK.pure S hrun ?_
         simp only [SRep, hd]
         exact ⟨b, hb, by rw [Nat.add_mul, Nat.add_zero]⟩
       · simp at he
     · simp at he
   · simp at he
 · simp at he
theorem Tr9 (S : Sim base w0 lm0 N g a w s) {t el : TypeId} {x : Operand} {y : X} {call : Call} {d : Nat} {e : Eff} (ho : o.op = .call { callee := .builtin .len, args := #[x], argTypes := #[t] })
 (ht : P.underlying t = some (.slice el)) (hx : okX x y = true) (he : eff call s d (.lend y) = some e) : EffOK P base w0 lm0 N g a w s o e := by
 simp only [eff] at he
 split at he
 · rename_i d' off n hv
   split at he
   · rename_i e' k l hd
     simp only [oIE] at he
     subst he
     have hr := Taf S hx hv
     simp only [SRep, hd] at hr
     obtain ⟨hle, hr⟩ := hr
     obtain ⟨h1, h2, ⟨xs, h3, h4, h5, h7⟩, h6⟩ := S.ob d' _ hd
     have hu : ∃ ad cap, a.eval x = .slice ad n cap := by
      rcases hr with ⟨_, rfl, hu⟩ | ⟨_, ad, cap, hu, _⟩
      · rcases h3.2 with ⟨hv0, h0'⟩ | ⟨b, cap, cur, hv0, _⟩
        · exact ⟨none, 0, by rw [hu, hv0, h0']⟩
        · exact ⟨_, cap, by rw [hu, hv0]⟩
      · exact ⟨ad, cap, hu⟩
     obtain ⟨ad, cap, hu⟩ := hu
     exact EffOK.pure S (u := .int .i64 n) (by simp [execOp, ho, hu, resolve, invoke, builtin, Builtin.len_, run_underlying ht, goInt]) (.sc _)
   · simp at he
 · simp at he
theorem Tpb (S : Sim base w0 lm0 N g a w s) {x : Operand} {y z : X} {call : Call} {d : Nat} {e : Eff} (ho : o.op = .move x ∨ o.op = .assign x) (hx : okX x y = true) (he : eff call s d (.mvs y z) = some e) : EffOK P base w0 lm0 N g a w s o e := by
 simp only [eff] at he
 split at he
 · rename_i v d' off len hv hz
   split at he
   · rename_i e' k l hd
     split at he
     · rename_i hok
       simp only [oIE] at he
       subst he
       obtain ⟨own, hap⟩ := S.ap
       obtain ⟨lm2, X2, L2, O2⟩ := Tjg (S.ob d' _ hd) hok (S.lt _ _ hd) ⟨own, fun x b hi hb => hap d' _ x b hd rfl hi hb⟩
       have S2 := S.cells (lm' := lm2) hd (o' := .row e' k false (setL l)) ⟨rfl, by simp [setL]⟩ rfl (fun x hi => by rw [hi.plain rfl]; exact .self _ _) X2 (Below.refl _ _) (fun _ _ _ h => by cases h) (fun b hb _ => ⟨rfl, L2 b hb⟩) O2
       obtain ⟨lm3, S3, T3, _⟩ := S2.freeze (d := d') (Taa _ _ _)
       have gt : ∀ q, get (AM.put s.h d' (.row e' k true (setL l))) q = get (AM.put (AM.put s.h d' (.row e' k false (setL l))) d' (.row e' k true (setL l))) q := fun q => by
        simp only [Ta9]; split <;> rfl
       have S4 := S3.same gt
       have T4 : Tr w g (get s.h) w ⟨lm3, g.v⟩ (get (AM.put s.h d' (.row e' k true (setL l)))) := ⟨X2.trans T3.ext, fun d1 o1 h1 => .inr ⟨rfl, by
        by_cases e : d' = d1
        · subst e
          rw [hd] at h1
          obtain rfl := oIj h1
          exact ⟨_, Taa _ _ _, rfl, by simp [setL]⟩
        · exact ⟨o1, by rw [Tac _ e]; exact h1, Shp.refl _⟩⟩⟩
       refine ⟨a.eval x, w, _, .inl ?_, S4, (Taf S hx hv).tr T4⟩
       rcases ho with ho | ho <;> simp [execOp, ho]
     · simp at he
   · simp at he
 · simp at he
theorem Tjo {l : List (List PV)} {k i j : Nat} {c0 : PV} (hk : ∀ c ∈ l, c.length = k) (hc : cellAt l i j = some c0) (x : PV) : (putC l i j x).flatten = l.flatten.set (i * k + j) x ∧ (putC l i j x).length = l.length ∧ (∀ c ∈ putC l i j x, c.length = k) ∧ i * k + j < l.flatten.length := by
 unfold cellAt at hc
 split at hc
 · rename_i c hl
   have hil : i < l.length := (List.getElem?_eq_some_iff.1 hl).1
   have hck : c.length = k := hk c (List.mem_of_getElem? hl)
   have hj : j < k := by rw [← hck]; exact (List.getElem?_eq_some_iff.1 hc).1
   have hfl := Tao hk
   have hlt : i * k + j < l.flatten.length := by
    rw [hfl]
    have := Nat.mul_le_mul_right k (show i + 1 ≤ l.length from hil)
    rw [Nat.add_mul, Nat.one_mul] at this
    omega
   have hp : putC l i j x = l.set i (c.set j x) := by unfold putC; rw [hl]
   rw [hp]
   refine ⟨?_, by simp, fun c' hc' => ?_, hlt⟩
   · rw [Tc6 hk hil]
     have hdi : (l.drop i).flatten = c ++ (l.drop (i + 1)).flatten := by
      rw [List.drop_eq_getElem_cons hil, List.flatten_cons]; congr 1
      simpa [List.getElem?_eq_getElem hil] using hl
     have e3 : l.flatten.drop (i * k + k) = (l.drop (i + 1)).flatten := by
      rw [← List.drop_drop, Tar i hk, hdi]
      conv => lhs; rw [← hck]
      rw [List.drop_left]
     have e0 : l.flatten = l.flatten.take (i * k) ++ (c ++ (l.drop (i + 1)).flatten) := by
      rw [← hdi, ← Tar i hk, List.take_append_drop]
     rw [e3]
     conv => rhs; rw [e0]
     have hlen : (l.flatten.take (i * k)).length = i * k := by rw [List.length_take]; omega
     rw [List.set_append_right _ _ (by omega), hlen, Nat.add_sub_cancel_left, List.set_append_left _ _ (by omega), List.append_assoc]
   · rcases List.mem_or_eq_of_mem_set hc' with h2 | h2
     · exact hk _ h2
     · rw [h2]; simpa using hck
 · simp at hc
theorem RepL.set {w : World} {lm : Nat → Nat} {l : List PV} {vs : List Value} (h : RepL w lm l vs) (n : Nat) {x : PV} {v : Value} (hx : Rep w lm x v) : RepL w lm (l.set n x) (vs.set n v) := by
 refine RepL.mk (by simp [h.length]) fun i y u hy hu => ?_
 rw [List.getElem?_set] at hy hu
 have hl := h.length
 split at hy
 · rename_i e
   rw [if_pos e] at hu
   split at hy
   · rename_i h1
     rw [if_pos (by omega)] at hu
     obtain rfl := oIj hy
     obtain rfl := oIj hu
     exact hx
   · simp at hy
 · rename_i e
   rw [if_neg e] at hu
   obtain ⟨v', hv', hr⟩ := h.get i y hy
   rw [hu] at hv'
   obtain rfl := oIj hv'
   exact hr
theorem RepL.setL {w : World} {lm : Nat → Nat} {l : List PV} {vs : List Value} (h : RepL w lm l vs) (n : Nat) {x : PV} (hx : ∀ v, vs[n]? = some v → Rep w lm x v) : RepL w lm (l.set n x) vs := by
 refine RepL.mk (by simp [h.length]) fun i y u hy hu => ?_
 rw [List.getElem?_set] at hy
 split at hy
 · rename_i e
   subst e
   split at hy
   · obtain rfl := oIj hy
     exact hx u hu
   · simp at hy
 · obtain ⟨v', hv', hr⟩ := h.get i y hy
   rw [hu] at hv'
   obtain rfl := oIj hv'
   exact hr
theorem Tsa (S : Sim base w0 lm0 N g a w s) {t : TypeId} {x : Operand} {y : X} {e : Eff} {call : Call} {d : Nat} (ho : o.op = .load t x) (ha : aggT P t = some false) (hx : okX x y = true)
 (he : eff call s d (.ld1o y) = some e) : EffOK P base w0 lm0 N g a w s o e := by
 simp only [eff] at he
 split at he
 · rename_i d' i j hv
   split at he
   · rename_i e1 k l hd
     split at he
     · rename_i e' k' l' hc
       split at he
       · rename_i hk'
         cases hid : newId s.h d with
         | none => rw [hid] at he; simp at he
         | some id =>
          rw [hid] at he
          simp only [oIE] at he
          subst he
          obtain ⟨h0, hk, b, xs, hu, hb, hown, hrl, h1, h7⟩ := S.drow hd (Taf S hx hv)
          have hpc := Tbt hk hc
          obtain ⟨q1, q2⟩ := h7 _ e' k' l' hpc hk'
          obtain ⟨f1, f2, f3, f4⟩ := Tjo hk hc (.ow 0 0 [])
          have hlmb := (S.ob d' _ hd).2.2.2.1
          have hselfb := (S.ob d' _ hd).2.2.2.2
          have hdlt := S.lt _ _ hd
          have hidn := Tav hid
          have hidl := Ta6 hid
          have hids : ∀ x, Ids d' (.dp e1 k (putC l i j (.ow 0 0 []))) x → Ids d' (.dp e1 k l) x ∧ x ≠ nid d' (i * k + j) := by
           intro x hx0
           rcases hx0.dpE with rfl | ⟨p, e2, k2, l2, hp, hk2, rfl⟩
           · exact ⟨.self _ _, fun e => by have := Tcu x (i * k + j); omega⟩
           · rw [f1, List.getElem?_set] at hp
             split at hp
             · simp at hp; omega
             · rename_i hne
               exact ⟨.dp hp hk2, fun e => hne (Tia hdlt hdlt e).2.symm⟩
          have hself : Ids d' (.dp e1 k l) (nid d' (i * k + j)) := .dp hpc hk'
          obtain ⟨own, hap⟩ := S.ap
          obtain ⟨S1, T1⟩ := S.dput (w' := w) (lm' := g.lm) (v' := g.v) hd rfl (o' := .dp e1 k (putC l i j (.ow 0 0 []))) ⟨rfl, f2.symm⟩ rfl (fun _ _ => rfl) (Ext.refl _ _) (Below.refl _ _) (fun _ _ _ => ⟨rfl, rfl⟩)
           ⟨h0, f3, ⟨xs, by rw [f2]; exact hown, by rw [f1]; exact hrl.setL _ fun _ _ => .ow, h1, fun p e2 k2 l2 hp hk2 => by
            rw [f1, List.getElem?_set] at hp
            split at hp
            · simp at hp; omega
            · exact h7 p e2 k2 l2 hp hk2⟩, hlmb, fun p hp => by
            rw [f1, List.getElem?_set] at hp
            split at hp
            · simp at hp
            · rw [f2]; exact hselfb p hp⟩
           ⟨own, fun d1 o1 x b1 hg1 l1 hi1 hb1 => by
            by_cases e : d' = d1
            · subst e
              rw [Taa] at hg1
              obtain rfl := oIj hg1
              exact hap d' _ x b1 hd rfl (hids x hi1).1 hb1
            · rw [Tac _ e] at hg1
              exact hap d1 o1 x b1 hg1 l1 hi1 hb1⟩ (fun b _ hF x hi => hF d' _ x hd rfl (hids x hi).1)
          have hid' : d' ≠ id := fun e => by rw [e, hidn] at hd; simp at hd
          have hidn1 : get (AM.put s.h d' (.dp e1 k (putC l i j (.ow 0 0 [])))) id = none := by rw [Tac _ hid']; exact hidn
          let v' : Nat → Value := upd g.v id (g.v (nid d' (i * k + j)))
          have hni : ∀ d1 o1 x, get (AM.put s.h d' (.dp e1 k (putC l i j (.ow 0 0 [])))) d1 = some o1 → Ids d1 o1 x → x ≠ id := fun d1 o1 x h1 hi e => by
           have := hi.lt (by rw [e]; exact hidl)
           rw [← this, e, hidn1] at h1
           simp at h1
          have T2 : Tr w g (get (AM.put s.h d' (.dp e1 k (putC l i j (.ow 0 0 []))))) w ⟨g.lm, v'⟩ (get (AM.put (AM.put s.h d' (.dp e1 k (putC l i j (.ow 0 0 [])))) id (.row e' k' false l'))) := ⟨Ext.refl _ _, fun d1 o1 h1 => .inr ⟨Ta7 _ (hni d1 o1 d1 h1 (.self _ _)) _, o1, by rw [Tac _ (fun e => by rw [← e, hidn1] at h1; simp at h1)]; exact h1, Shp.refl _⟩⟩
          have S2 : Sim base w0 lm0 N ⟨g.lm, v'⟩ a w ⟨s.t, AM.put (AM.put s.h d' (.dp e1 k (putC l i j (.ow 0 0 [])))) id (.row e' k' false l')⟩ := by
           refine S1.turn T2 (Below.refl _ _) (fun _ _ => rfl) (fun d1 o1 hg1 => ?_) (fun d1 o1 hg1 => ?_) ⟨fun b => if own b = nid d' (i * k + j) then id else own b, fun d1 o1 x b1 hg1 l1 hi1 hb1 => ?_⟩ (fun d9 e9 k9 l9 hg9 => ?_) (fun b hK hbz hF => ⟨⟨rfl, rfl⟩, fun d1 o1 x hg1 l1 hi1 hb1 => ?_⟩)
           · by_cases e : id = d1
             · subst e
               rw [Taa] at hg1
               obtain rfl := oIj hg1
               obtain ⟨r1, r2, ⟨ys, r3, r4, r5⟩, r6⟩ := q2
               refine ⟨r1, r2, ⟨ys, by simp only [v', Tah]; exact r3, r4, r5⟩, fun b1 hb1 => ?_⟩
               simp only [v', Tah] at hb1
               simpa using r6 b1 hb1
             · rw [Tac _ e] at hg1
               exact (S1.ob d1 o1 hg1).keep (fun x hi => Ta7 _ (hni d1 o1 x hg1 hi) _) (Ext.refl _ _) fun _ _ _ _ _ => ⟨rfl, rfl⟩
           · by_cases e : id = d1
             · subst e; exact hidl
             · rw [Tac _ e] at hg1; exact S1.lt _ _ hg1
           · dsimp only
             by_cases e : id = d1
             · subst e
               rw [Taa] at hg1
               obtain rfl := oIj hg1
               obtain rfl := hi1.plain rfl
               simp only [v', Tah] at hb1
               exact if_pos (hap d' _ _ b1 hd rfl hself hb1)
             · rw [Tac _ e] at hg1
               have hxi := hni d1 o1 x hg1 hi1
               simp only [v', Ta7 _ hxi] at hb1
               by_cases e2 : d' = d1
               · subst e2
                 rw [Taa] at hg1
                 obtain rfl := oIj hg1
                 obtain ⟨i1, i2⟩ := hids x hi1
                 have := hap d' _ x b1 hd rfl i1 hb1
                 rw [this, if_neg i2]
               · rw [Tac _ e2] at hg1
                 have := hap d1 o1 x b1 hg1 l1 hi1 hb1
                 rw [this, if_neg]
                 exact fun e3 => S.ne hd hg1 e2 hself hi1 e3.symm
           · by_cases e : id = d9
             · subst e
               rw [Taa] at hg9
               simp at hg9
             · rw [Tac _ e] at hg9
               exact .inl ⟨hg9, Ta7 _ (hni d9 _ d9 hg9 (.self _ _)) _, fun _ _ => rfl⟩
           · by_cases e : id = d1
             · subst e
               rw [Taa] at hg1
               obtain rfl := oIj hg1
               obtain rfl := hi1.plain rfl
               simp only [v', Tah] at hb1
               exact S.fr.kd b hK d' _ _ hd rfl hself hb1
             · rw [Tac _ e] at hg1
               have hxi := hni d1 o1 x hg1 hi1
               simp only [v', Ta7 _ hxi] at hb1
               exact hF d1 o1 x hg1 l1 hi1 hb1
          refine ⟨g.v (nid d' (i * k + j)), w, _, .inl ?_, S2, ?_⟩
          · have := Tcw (P := P) ha (Ta1 hown hb q1)
            simp [execOp, ho, hu, this]
          · have := Tbb (w' := w) (g' := ⟨g.lm, v'⟩) (h' := AM.put (AM.put s.h d' (.dp e1 k (putC l i j (.ow 0 0 [])))) id (.row e' k' false l')) (Taa _ _ _) (n := l'.length) rfl
            simp only [v', Tah] at this
            exact this
       · simp at he
     · simp at he
   · simp at he
 · simp at he
theorem Ids.put {d e k p0 : Nat} {l : List (List PV)} {l' : List (List PV)} {x : PV} (hd : d < 1000000) (hf : l'.flatten = l.flatten.set p0 x) {y : Nat} (h : Ids d (.dp e k l') y) :
 (y = nid d p0 ∧ ∃ e' k' r, x = .ow e' k' r ∧ 0 < k') ∨ (Ids d (.dp e k l) y ∧ y ≠ nid d p0) := by
 rcases h.dpE with rfl | ⟨p, e2, k2, l2, hp, hk2, rfl⟩
 · exact .inr ⟨.self _ _, fun e => by have := Tcu y p0; omega⟩
 · rw [hf, List.getElem?_set] at hp
   by_cases hpe : p0 = p
   · subst hpe
     rw [if_pos rfl] at hp
     split at hp
     · exact .inl ⟨rfl, e2, k2, l2, oIj hp, hk2⟩
     · simp at hp
   · rw [if_neg hpe] at hp
     exact .inr ⟨.dp hp hk2, fun e => hpe (Tia hd hd e).2.symm⟩
theorem Sim.dstore (S : Sim base w0 lm0 N g a w s) {d e k : Nat} {l : List (List PV)} (hd : get s.h d = some (.dp e k l)) {b : Nat} (hb : blk (g.v d) = some b) {i j : Nat} {c0 : PV} (hc : cellAt l i j = some c0) {x : PV} {z : Value} (hz : z.oneCell' = true) (hrx : Rep w g.lm x z) (hx0 : x ≠ .ow 1 0 []) {v' : Nat → Value} (hvs : ∀ q, q ≠ nid d (i * k + j) → v' q = g.v q)
 (hnest : ∀ e' k' l', x = .ow e' k' l' → 0 < k' → v' (nid d (i * k + j)) = z ∧ RowR w ⟨g.lm, v'⟩ base (nid d (i * k + j)) e' k' l' ∧ ∀ b1, blk z = some b1 → ∀ d1 o1 x1, get s.h d1 = some o1 → o1.live = true → Ids d1 o1 x1 → blk (g.v x1) ≠ some b1)
 (hkz : ∀ e' k' l', x = .ow e' k' l' → 0 < k' → ∀ b1, blk z = some b1 → ¬ lm0.K b1) :
 ∃ cur : Array Value, w.heap[b]? = some (.cells cur e (0, 0)) ∧ i * k + j + 1 ≤ cur.size ∧
  ∀ new : Array Value, new = (cur.toList.take (i * k + j) ++ [z] ++ cur.toList.drop (i * k + j + 1)).toArray →
  Sim base w0 lm0 N ⟨g.lm, v'⟩ a (w.setRow b new) ⟨s.t, AM.put s.h d (.dp e k (putC l i j x))⟩ ∧ Tr w g (get s.h) (w.setRow b new) ⟨g.lm, v'⟩ (get (AM.put s.h d (.dp e k (putC l i j x)))) := by
 obtain ⟨h1, h2, ⟨xs, h3, h4, h5, h7⟩, h6, h8⟩ := S.ob d _ hd
 obtain ⟨f1, f2, f3, f4⟩ := Tjo h2 hc x
 have hdlt := S.lt _ _ hd
 have hxl : xs.length = l.length * k := by rw [← h4.length, Tao h2]
 have hfl := Tao h2
 rcases h3.2 with ⟨hv, _⟩ | ⟨b', cap, cur, hv, q1, q2, q3, q4, q5, q6⟩
 · rw [hv] at hb; simp [blk] at hb
 rw [hv] at hb
 simp [blk] at hb
 subst hb
 have hcapk : l.length * k ≤ cap * k := Nat.mul_le_mul_right k q3
 refine ⟨cur, q2, by omega, ?_⟩
 rintro new rfl
 have hset : (cur.toList.take (i * k + j) ++ [z] ++ cur.toList.drop (i * k + j + 1)) = cur.toList.set (i * k + j) z := by
  rw [List.set_eq_take_append_cons_drop, if_pos (by simp; omega)]
  simp
 have hnew : (cur.toList.take (i * k + j) ++ [z] ++ cur.toList.drop (i * k + j + 1)).toArray.toList.take (l.length * k) = xs.set (i * k + j) z := by
  rw [List.toList_toArray, hset, List.take_set, q6]
 have hnsz : (cur.toList.take (i * k + j) ++ [z] ++ cur.toList.drop (i * k + j + 1)).toArray.size = cap * k := by
  rw [List.size_toArray, hset, List.length_set]; simpa using q5
 have hnl : (cur.toList.take (i * k + j) ++ [z] ++ cur.toList.drop (i * k + j + 1)).toArray.toList = cur.toList.set (i * k + j) z := by rw [List.toList_toArray, hset]
 generalize (cur.toList.take (i * k + j) ++ [z] ++ cur.toList.drop (i * k + j + 1)).toArray = new at hnew hnsz hnl
 have hblk : blk (g.v d) = some b' := by rw [hv]; rfl
 have hlm : g.lm b' = 0 := h6 b' hblk
 have hext : Ext w g.lm (w.setRow b' new) g.lm := by
  exact Ext.blocks fun b2 _ ho' => ⟨setRow_other w b' b2 new (fun e' => by subst e'; omega), rfl⟩
 have hvd : v' d = g.v d := hvs d fun e => by have := Tcu d (i * k + j); omega
 obtain ⟨own, hap⟩ := S.ap
 have nested : ∀ p e' k' l', l.flatten[p]? = some (.ow e' k' l') → 0 < k' → blk (g.v (nid d p)) ≠ some b' := fun p e' k' l' hp hk' hbb => by
  have e1 := hap d _ _ b' hd rfl (.dp hp hk') hbb
  have e2 := hap d _ d b' hd rfl (.self _ _) hblk
  have := Tcu d p
  omega
 have keepR : ∀ {y e' k' l'}, RowR w ⟨g.lm, v'⟩ base y e' k' l' → blk (v' y) ≠ some b' → RowR (w.setRow b' new) ⟨g.lm, v'⟩ base y e' k' l' := by
  rintro y e' k' l' ⟨r1, r2, ⟨ys, r3, r4, r5⟩, r6⟩ hne
  exact ⟨r1, r2, ⟨ys, Tas r3 fun b2 hb2 => setRow_other w b' b2 new fun e => hne (by rw [← e]; exact hb2), r4.ext hext, r5⟩, r6⟩
 refine S.dput hd rfl ⟨rfl, f2.symm⟩ hvd (fun q hq => hvs q fun e => hq (by rw [e]; unfold nid; omega)) hext (below_setRow (Below.refl _ _) q1 _) (fun b2 hb2 _ => ⟨setRow_other w b' b2 new fun e => hb2 d (.self _ _) (by rw [e]; exact hblk), rfl⟩) ⟨h1, f3, ⟨xs.set (i * k + j) z, ?_, ?_, ?_, ?_⟩, ?_, ?_⟩ ?_ (fun b hK hF y hi hb1 => by
  rcases Ids.put hdlt f1 hi with ⟨rfl, e', k', r, hxe, hk'⟩ | ⟨i1, i2⟩
  · obtain ⟨r1, _, _⟩ := hnest e' k' r hxe hk'
    rw [r1] at hb1
    exact hkz e' k' r hxe hk' b hb1 hK
  · rw [hvs y i2] at hb1
    exact hF d _ y hd rfl i1 hb1)
 · refine ⟨by rw [List.length_set, f2]; exact h3.1, .inr ⟨b', cap, new, by dsimp only; rw [hvd, f2]; exact hv, q1, setRow_heap w b' cur _ e _ q2, by rw [f2]; exact q3, q4, hnsz, by rw [f2]; exact hnew⟩⟩
 · rw [f1]; exact (h4.ext hext).set _ (hrx.ext hext)
 · intro u hu
   rcases List.mem_or_eq_of_mem_set hu with h | h
   · exact h5 u h
   · rw [h]; exact hz
 · intro p e' k' l' hp hk'
   rw [f1, List.getElem?_set] at hp
   by_cases hpe : i * k + j = p
   · subst hpe
     rw [if_pos rfl, if_pos f4] at hp
     obtain ⟨r1, r2, r3⟩ := hnest e' k' l' (oIj hp) hk'
     refine ⟨?_, keepR r2 fun hbb => ?_⟩
     · rw [List.getElem?_set, if_pos rfl, if_pos (by omega)]
       dsimp only
       rw [r1]
     · rw [r1] at hbb
       exact r3 b' hbb d _ d hd rfl (.self _ _) hblk
   · rw [if_neg hpe] at hp
     obtain ⟨r1, r2⟩ := h7 p e' k' l' hp hk'
     have hne : nid d p ≠ nid d (i * k + j) := fun e => hpe (Tia hdlt hdlt e).2.symm
     have hvp : v' (nid d p) = g.v (nid d p) := hvs _ hne
     refine ⟨?_, keepR ?_ ?_⟩
     · rw [List.getElem?_set, if_neg hpe]
       dsimp only
       rw [hvp]; exact r1
     · obtain ⟨m1, m2, ⟨ys, m3, m4, m5⟩, m6⟩ := r2
       exact ⟨m1, m2, ⟨ys, by dsimp only; rw [hvp]; exact m3, m4, m5⟩, fun b2 hb2 => m6 b2 (by dsimp only at hb2; rw [hvp] at hb2; exact hb2)⟩
     · rw [hvp]; exact nested p e' k' l' hp hk'
 · intro b2 hb2
   dsimp only at hb2
   rw [hvd] at hb2
   exact h6 b2 hb2
 · intro p hp
   rw [f1, List.getElem?_set] at hp
   by_cases hpe : i * k + j = p
   · rw [if_pos hpe, if_pos f4] at hp
     exact absurd (oIj hp) hx0
   · rw [if_neg hpe] at hp
     obtain ⟨b2, z1, z2⟩ := h8 p hp
     have hb2 : b2 = b' := by
      have h9 : blk (g.v d) = some b2 := by rw [z1]; rfl
      rw [hblk] at h9
      exact (oIj h9).symm
     subst hb2
     refine ⟨b2, by dsimp only; rw [hvd, f2]; exact z1, ?_⟩
     have c1 : (w.setRow b2 new).cell? ⟨b2, p, none⟩ = w.cell? ⟨b2, p, none⟩ := by
      rw [cell_of_row _ b2 p new e (0, 0) (setRow_heap w b2 cur _ e _ q2), cell_of_row w b2 p cur e (0, 0) q2, ← Array.getElem?_toList, ← Array.getElem?_toList, hnl, List.getElem?_set, if_neg hpe]
     rw [c1]; exact z2
 · by_cases hxo : ∃ e' k' r, x = .ow e' k' r ∧ 0 < k'
   · obtain ⟨e', k', r, hxe, hk'⟩ := hxo
     obtain ⟨r1, r2, r3⟩ := hnest e' k' r hxe hk'
     refine ⟨fun b2 => if blk z = some b2 then nid d (i * k + j) else own b2, fun d1 o1 y b2 hg1 l1 hi1 hb1 => ?_⟩
     dsimp only
     have old : ∀ d1 o1, get s.h d1 = some o1 → o1.live = true → Ids d1 o1 y → y ≠ nid d (i * k + j) → (if blk z = some b2 then nid d (i * k + j) else own b2) = y := by
      intro d1 o1 hg1 l1 hi1 hne
      rw [hvs y hne] at hb1
      rw [if_neg fun hbb => r3 b2 hbb d1 o1 y hg1 l1 hi1 hb1]
      exact hap d1 o1 y b2 hg1 l1 hi1 hb1
     by_cases e1 : d = d1
     · subst e1
       rw [Taa] at hg1
       obtain rfl := oIj hg1
       rcases Ids.put hdlt f1 hi1 with ⟨rfl, _⟩ | ⟨i1, i2⟩
       · rw [r1] at hb1; exact if_pos hb1
       · exact old d _ hd rfl i1 i2
     · rw [Tac _ e1] at hg1
       refine old d1 o1 hg1 l1 hi1 fun e2 => e1 ?_
       have := hi1.mod (S.lt _ _ hg1)
       rw [e2] at this
       rw [← this]; unfold nid; omega
   · refine ⟨own, fun d1 o1 y b2 hg1 l1 hi1 hb1 => ?_⟩
     by_cases e1 : d = d1
     · subst e1
       rw [Taa] at hg1
       obtain rfl := oIj hg1
       rcases Ids.put hdlt f1 hi1 with ⟨rfl, h⟩ | ⟨i1, i2⟩
       · exact absurd h hxo
       · rw [hvs y i2] at hb1
         exact hap d _ y b2 hd rfl i1 hb1
     · rw [Tac _ e1] at hg1
       rw [hvs y fun e2 => e1 (by
        have := hi1.mod (S.lt _ _ hg1)
        rw [e2] at this
        rw [← this]; unfold nid; omega)] at hb1
       exact hap d1 o1 y b2 hg1 l1 hi1 hb1
theorem Thh {t : TypeId} {x y : Operand} (ho : o.op = .store t x y) (hk : P.cellsOf t = 1) {b p : Nat} (hu : a.eval x = .pointer (some ⟨b, p, none⟩)) {z : Value} (hc : (a.eval y).cells.toList = [z]) (hz : z.oneCell' = true) {cur : Array Value} {e : Nat} (hg : w.heap[b]? = some (.cells cur e (0, 0))) (hp : p + 1 ≤ cur.size) :
 (execOp a.eval o).run P w = .ok .skip (w.setRow b (cur.toList.take p ++ [z] ++ cur.toList.drop (p + 1)).toArray) := by
 have hsz : (a.eval y).cells.size = 1 := by rw [← Array.length_toList, hc]; rfl
 have hst := run_storeCells_at P b p e (a.eval y).cells.toList 0 cur w hg (by rw [hc]; simpa using hp) (by rw [hc]; intro u hu; simp at hu; rw [hu]; exact hz)
 simp only [Nat.add_zero] at hst
 rw [hc] at hst
 simp only [List.length_singleton] at hst
 simp only [execOp, ho, Instr.storeAt, hu, Instr.sureAddr, storeVar, Sem.run_bind, Sem.run_pure, Result.andThen_ok, Tan hk (by omega), hsz, ne_eq, not_true, if_false, hc, hst]
theorem Tf5 {l : List (List PV)} {k i j : Nat} (hk : ∀ c ∈ l, c.length = k) (hi : i < l.length) (hj : j < k) : ∃ c, cellAt l i j = some c := by
 unfold cellAt
 rw [List.getElem?_eq_getElem hi]
 have := hk _ (List.getElem_mem hi)
 exact ⟨_, List.getElem?_eq_getElem (by omega)⟩
theorem Tsb (S : Sim base w0 lm0 N g a w s) {t : TypeId} {x y : Operand} {x' y' : X} {call : Call} {d : Nat} {r : Eff} (ho : o.op = .store t x y) (hk : P.cellsOf t = 1) (hx : okX x x' = true) (hy : okX y y' = true) (he : eff call s d (.stod x' y') = some r) : EffOK P base w0 lm0 N g a w s o r := by
 simp only [eff] at he
 split at he
 · rename_i d1 i j y0 hvx hvy
   split at he
   · rename_i e k l c hd hcs
     split at he
     · rename_i hcond
       obtain ⟨hi, hj, hno⟩ := hcond
       simp only [oIE] at he
       subst he
       obtain ⟨h0, hkk, b, xs, hu, hb, _⟩ := S.drow hd (Taf S hx hvx)
       obtain ⟨c0, hc0⟩ := Tf5 hkk hi hj
       have hr : Rep w g.lm y0 (a.eval y) := Taf S hy hvy
       obtain ⟨hrl, h1⟩ := hr.cells hcs
       obtain ⟨z, hz⟩ : ∃ z, (a.eval y).cells.toList = [z] := by
        have := hrl.length
        simp only [List.length_singleton] at this
        exact List.length_eq_one_iff.1 this.symm
       rw [hz] at hrl h1
       have hz1 := h1 z (by simp)
       have hrz : Rep w g.lm c z := by cases hrl with | cons h _ => exact h
       obtain ⟨cur, hg, hp, fin⟩ := S.dstore hd hb hc0 (x := c) hz1 hrz (fun hxo => by rw [hxo] at hno; simp [PV.noOw] at hno) (v' := g.v) (fun _ _ => rfl) (fun e' k' l' hxo _ => by rw [hxo] at hno; simp [PV.noOw] at hno) (fun e' k' l' hxo _ => by rw [hxo] at hno; simp [PV.noOw] at hno)
       obtain ⟨S2, T2⟩ := fin _ rfl
       exact ⟨undef, _, _, .inr ⟨Thh ho hk hu hz hz1 hg hp, rfl⟩, S2, Rep.sc _⟩
     · simp at he
   · simp at he
 · simp at he
theorem Tpc (S : Sim base w0 lm0 N g a w s) {t : TypeId} {x y : Operand} {x' y' : X} {call : Call} {d : Nat} {r : Eff} (ho : o.op = .store t x y) (hk : P.cellsOf t = 1) (hx : okX x x' = true) (hy : okX y y' = true) (he : eff call s d (.sto1o x' y') = some r) : EffOK P base w0 lm0 N g a w s o r := by
 simp only [eff] at he
 split at he
 · rename_i d1 i j d2 off len hvx hvy
   split at he
   · rename_i e k l e' k' l' hd hd2
     split at he
     · rename_i hcond
       obtain ⟨rfl, rfl, hi, hj⟩ := hcond
       simp only [oIE] at he
       subst he
       obtain ⟨h0, hkk, b, xs, hu, hb, _⟩ := S.drow hd (Taf S hx hvx)
       obtain ⟨c0, hc0⟩ := Tf5 hkk hi hj
       have hr := Taf S hy hvy
       simp only [SRep, hd2] at hr
       have hz : a.eval y = g.v d2 := by
        obtain ⟨_, h | h⟩ := hr
        · exact h.2.2
        · obtain ⟨h, _⟩ := h; simp at h
       have hne : d1 ≠ d2 := fun e => by rw [e, hd2] at hd; simp at hd
       obtain ⟨o1, o2, ⟨ys, o3, o4, o5⟩, o6⟩ := S.ob d2 _ hd2
       obtain ⟨own, hap⟩ := S.ap
       have hzs : ∃ ad n cap, g.v d2 = .slice ad n cap := by
        rcases o3.2 with ⟨h, _⟩ | ⟨_, _, _, h, _⟩
        · exact ⟨_, _, _, h⟩
        · exact ⟨_, _, _, h⟩
       obtain ⟨ad, n, cap, hzs⟩ := hzs
       have hz1 : (g.v d2).oneCell' = true := by rw [hzs]; rfl
       have hzc : (a.eval y).cells.toList = [g.v d2] := by rw [hz, hzs]; rfl
       obtain ⟨S1, T1⟩ := S.kill hd2
       have hd' : get (AM.put s.h d2 .dead) d1 = some (.dp e k l) := by rw [Tac _ (Ne.symm hne)]; exact hd
       have hlt1 := S.lt _ _ hd
       let v' : Nat → Value := upd g.v (nid d1 (i * k + j)) (g.v d2)
       obtain ⟨cur, hg, hp, fin⟩ := S1.dstore hd' hb hc0 (x := .ow e' k' l') (z := g.v d2) hz1 .ow (fun hxo => by simp only [PV.ow.injEq] at hxo; omega) (v' := v') (fun q hq => Ta7 _ hq _) (fun e2 k2 l2 hxo hk2 => by
        simp only [PV.ow.injEq] at hxo
        obtain ⟨rfl, rfl, rfl⟩ := hxo
        have hvn : v' (nid d1 (i * k + j)) = g.v d2 := Tah _ _ _
        refine ⟨hvn, ⟨o1, o2, ⟨ys, by dsimp only; rw [hvn]; exact o3, o4, o5⟩, fun b1 hb1 => ?_⟩, fun b1 hb1 q1 oq1 x1 hq1 hl1 hi1 hbx => ?_⟩
        · dsimp only at hb1
          rw [hvn] at hb1
          simpa using o6 b1 hb1
        · by_cases e3 : d2 = q1
          · rw [← e3, Taa] at hq1
            obtain rfl := oIj hq1
            simp [Ob.live] at hl1
          · rw [Tac _ e3] at hq1
            exact S.far hd2 hq1 rfl hl1 (.self _ _) hi1 (S.ne hd2 hq1 e3 (.self _ _) hi1) hb1 hbx) (fun _ _ _ _ _ b1 hb1 hK => S.fr.kd b1 hK d2 _ d2 hd2 rfl (.self _ _) hb1)
       obtain ⟨S2, T2⟩ := fin _ rfl
       exact ⟨undef, _, _, .inr ⟨Thh ho hk hu hzc hz1 hg hp, rfl⟩, S2, Rep.sc _⟩
     · simp at he
   · simp at he
 · simp at he
end
end Go.Proofs.YtjpibniecllafaaGreat.AM
end
section
namespace Go.Proofs.YtjpibniecllafaaGreat.AM
open Go Go.RowKit
def SbWrite (P : Program) (T e : TypeId) (f : FuncId) : Prop :=
 ∀ (B b : Nat) (p v : Value) (bs : List Value) (t : ByteArray) (w : World), B ≤ b → B ≤ w.heap.size → (p = .pointer none ∨ p = .pointer (some ⟨b, 0, none⟩)) → w.heap[b]? = some (.cells #[p, v] T (0, 0)) → w.ownsRow B e 1 v bs.length bs → blk v ≠ some b → bs.length + t.size ≤ maxBytes →
  Calls P f #[.pointer (some ⟨b, 0, none⟩), .string t] w fun x w' => x = .returned (.tuple #[.int .i64 t.size, .nilIface]) ∧ ∃ v', w'.heap[b]? = some (.cells #[.pointer (some ⟨b, 0, none⟩), v'] T (0, 0)) ∧ w'.ownsRow B e 1 v' (bs.length + t.size) (bs ++ t.data.toList.map fun c => Value.int .u8 c.toNat) ∧ (blk v' = blk v ∨ ∃ c, blk v' = some c ∧ w.heap.size ≤ c) ∧ Below B w w' ∧ ∀ k, k < w.heap.size → k ≠ b → blk v ≠ some k → w'.heap[k]? = w.heap[k]?
def SbRune (P : Program) (T e : TypeId) (f : FuncId) : Prop :=
 ∀ (B b : Nat) (p v : Value) (bs : List Value) (r : Int) (w : World), -2147483648 ≤ r → r ≤ 2147483647 → B ≤ b → B ≤ w.heap.size → (p = .pointer none ∨ p = .pointer (some ⟨b, 0, none⟩)) → w.heap[b]? = some (.cells #[p, v] T (0, 0)) → w.ownsRow B e 1 v bs.length bs → blk v ≠ some b → bs.length + 4 ≤ maxBytes →
  Calls P f #[.pointer (some ⟨b, 0, none⟩), .int .i32 r] w fun x w' => x = .returned (.tuple #[.int .i64 (Lib.runeCells r).length, .nilIface]) ∧ ∃ v', w'.heap[b]? = some (.cells #[.pointer (some ⟨b, 0, none⟩), v'] T (0, 0)) ∧ w'.ownsRow B e 1 v' (bs.length + (Lib.runeCells r).length) (bs ++ Lib.runeCells r) ∧ (blk v' = blk v ∨ ∃ c, blk v' = some c ∧ w.heap.size ≤ c) ∧ Below B w w' ∧ ∀ k, k < w.heap.size → k ≠ b → blk v ≠ some k → w'.heap[k]? = w.heap[k]?
def SbPut (P : Program) (T e : TypeId) (f : FuncId) (u : Value) (cs : List Value) : Prop :=
 ∀ (B b : Nat) (p v : Value) (bs : List Value) (w : World), B ≤ b → B ≤ w.heap.size → (p = .pointer none ∨ p = .pointer (some ⟨b, 0, none⟩)) → w.heap[b]? = some (.cells #[p, v] T (0, 0)) → w.ownsRow B e 1 v bs.length bs → blk v ≠ some b → bs.length + cs.length + 4 ≤ maxBytes →
  Calls P f #[.pointer (some ⟨b, 0, none⟩), u] w fun x w' => x = .returned (.tuple #[.int .i64 cs.length, .nilIface]) ∧ ∃ v', w'.heap[b]? = some (.cells #[.pointer (some ⟨b, 0, none⟩), v'] T (0, 0)) ∧ w'.ownsRow B e 1 v' (bs.length + cs.length) (bs ++ cs) ∧ (blk v' = blk v ∨ ∃ c, blk v' = some c ∧ w.heap.size ≤ c) ∧ Below B w w' ∧ ∀ k, k < w.heap.size → k ≠ b → blk v ≠ some k → w'.heap[k]? = w.heap[k]?
theorem SbWrite.put {P : Program} {T e : TypeId} {f : FuncId} (h : SbWrite P T e f) (t : ByteArray) : SbPut P T e f (.string t) (t.data.toList.map fun c => Value.int .u8 c.toNat) := by
 intro B b p v bs w h1 h2 h3 h4 h5 h6 h7
 have hl : (t.data.toList.map fun c => Value.int .u8 c.toNat).length = t.size := by simp
 rw [hl] at h7 ⊢
 exact h B b p v bs t w h1 h2 h3 h4 h5 h6 (by omega)
theorem SbRune.put {P : Program} {T e : TypeId} {f : FuncId} (h : SbRune P T e f) (r : Int) (r0 : -2147483648 ≤ r) (r1 : r ≤ 2147483647) : SbPut P T e f (.int .i32 r) ((Lib.encodeRune r).map fun c => Value.int .u8 c.toNat) := by
 intro B b p v bs w h1 h2 h3 h4 h5 h6 h7
 have hl : ((Lib.encodeRune r).map fun c => Value.int .u8 c.toNat) = Lib.runeCells r := Lib.byteCells_encodeRune r
 rw [hl] at h7 ⊢
 exact h B b p v bs r w r0 r1 h1 h2 h3 h4 h5 h6 (by omega)
def SbString (P : Program) (T e : TypeId) (f : FuncId) : Prop :=
 ∀ (B b : Nat) (p v : Value) (l : List UInt8) (w : World), B ≤ b → B ≤ w.heap.size → (p = .pointer none ∨ p = .pointer (some ⟨b, 0, none⟩)) → w.heap[b]? = some (.cells #[p, v] T (0, 0)) → w.ownsRow B e 1 v l.length (l.map fun c => Value.int .u8 c.toNat) → blk v ≠ some b →
  Calls P f #[.pointer (some ⟨b, 0, none⟩)] w fun x w' => x = .returned (.string ⟨l.toArray⟩) ∧ Below B w w' ∧ ∀ k, k < w.heap.size → blk v ≠ some k → w'.heap[k]? = w.heap[k]?
theorem Tcb {d T e x : Nat} {l : List (List PV)} : Ids d (.dp T 2 (sbRow e l)) x ↔ x = d ∨ x = nid d 1 := by
 constructor
 · intro h0
   rcases h0.dpE with h | ⟨p, e', k', l', hp, hk, rfl⟩
   · exact .inl h
   · right
     congr 1
     rcases p with _ | _ | p
     · simp [sbRow] at hp; omega
     · rfl
     · simp [sbRow] at hp
 · rintro (h | h)
   · exact .inl h
   · rw [h]; exact .dp (p := 1) (e' := e) (k' := 1) (l' := l) (by simp [sbRow]) (by omega)
theorem Tsc {w : World} {base e n : Nat} {v : Value} {xs : List Value} {k : Nat} (h : w.ownsRow base e k v n xs) : v.oneCell' = true := by
 rcases h.2 with ⟨rfl, _⟩ | ⟨_, _, _, rfl, _⟩ <;> rfl
theorem Thi {w : World} {g : Gs} {base d T e b : Nat} {p v : Value} {l : List (List PV)} (hv : g.v d = .slice (some ⟨b, 0, none⟩) 1 1) (hbb : base ≤ b) (hg : w.heap[b]? = some (.cells #[p, v] T (0, 0))) (hp : p = .pointer none ∨ p = .pointer (some ⟨b, 0, none⟩)) (hn : g.v (nid d 1) = v) (hR : RowR w g base (nid d 1) e 1 l) (hlm : g.lm b = 0) :
 ORep w g base d (.dp T 2 (sbRow e l)) := by
 have hR' := hR
 obtain ⟨r1, r2, ⟨ys, r3, r4, r5⟩, r6⟩ := hR
 rw [hn] at r3
 have hp1 : p.oneCell' = true := by rcases hp with rfl | rfl <;> rfl
 refine ⟨by omega, by simp [sbRow], ⟨[p, v], ?_, ?_, ?_, ?_⟩, ?_, ?_⟩
 · refine ⟨rfl, .inr ⟨b, 1, #[p, v], hv, hbb, hg, Nat.le_refl _, by decide, rfl, rfl⟩⟩
 · exact .cons .ow (.cons .ow .nil)
 · intro u hu
   simp at hu
   rcases hu with rfl | rfl
   · exact hp1
   · exact Tsc r3
 · intro q e' k' l' hq hk
   match q with
   | 0 => simp [sbRow] at hq; omega
   | 1 =>
    simp [sbRow] at hq
    obtain ⟨rfl, rfl, rfl⟩ := hq
    exact ⟨by simp [hn], hR'⟩
   | q + 2 => simp [sbRow] at hq
 · intro b' hb'
   rw [hv] at hb'
   simp [blk] at hb'
   rw [← hb']; exact hlm
 · intro q hq
   match q with
   | 0 =>
    refine ⟨b, hv, ?_⟩
    rw [cell_of_row w b 0 _ T (0, 0) hg]
    rcases hp with rfl | rfl
    · exact .inl rfl
    · exact .inr rfl
   | 1 => simp [sbRow] at hq
   | q + 2 => simp [sbRow] at hq
theorem Tpd {w : World} {g : Gs} {base d T e : Nat} {l : List (List PV)} (h : ORep w g base d (.dp T 2 (sbRow e l))) :
 ∃ b p v, g.v d = .slice (some ⟨b, 0, none⟩) 1 1 ∧ base ≤ b ∧ w.heap[b]? = some (.cells #[p, v] T (0, 0)) ∧ (p = .pointer none ∨ p = .pointer (some ⟨b, 0, none⟩)) ∧ g.v (nid d 1) = v ∧ RowR w g base (nid d 1) e 1 l ∧ g.lm b = 0 := by
 obtain ⟨h1, h2, ⟨xs, h3, h4, h5, h7⟩, h6, h8⟩ := h
 obtain ⟨b, hv, hp⟩ := h8 0 (by simp [sbRow])
 have hv : g.v d = .slice (some ⟨b, 0, none⟩) 1 1 := hv
 obtain ⟨q1, q2⟩ := h7 1 e 1 l (by simp [sbRow]) (by omega)
 rcases h3.2 with ⟨h, _⟩ | ⟨b', cap, cur, h, hb, hg, _, _, hs, ht⟩
 · rw [hv] at h; simp at h
 · rw [hv] at h
   simp only [Value.slice.injEq, oIE, Addr.mk.injEq, and_true] at h
   obtain ⟨rfl, _, rfl⟩ := h
   have hl : (sbRow e l).length = 1 := rfl
   rw [hl] at ht
   have hcl : cur.toList.length = 2 := by simpa using hs
   rw [List.take_of_length_le (by omega)] at ht
   have hc0 := cell_of_row w b 0 cur T (0, 0) hg
   match xs, ht, q1 with
   | [x0, x1], ht, q1 =>
    simp at q1
    subst q1
    have hcur : cur = #[x0, g.v (nid d 1)] := by apply Array.ext'; rw [ht]
    subst hcur
    refine ⟨b, x0, _, hv, hb, hg, ?_, rfl, q2, h6 b (by rw [hv]; rfl)⟩
    rw [hc0] at hp
    simpa using hp
   | [], ht, q1 => simp at q1
   | [x0], ht, q1 => simp at q1
   | _ :: _ :: _ :: _, ht, q1 => rw [ht] at hcl; simp at hcl
theorem Tl2 {r : List (List PV)} {e : TypeId} {l : List (List PV)} (h : unRow r = some (e, l)) : r = sbRow e l := by
 unfold unRow at h
 split at h
 · split at h
   · rename_i hc
     obtain ⟨rfl, rfl, rfl⟩ := hc
     simp only [oIE, Prod.mk.injEq] at h
     obtain ⟨rfl, rfl⟩ := h
     rfl
   · simp at h
 · simp at h
section
variable {P : Program} {base : Nat} {w0 : World} {lm0 : L0} {N : Nat} {g : Gs} {a : Act} {w : World} {s : St} {o : Oper}
theorem Tvq (S : Sim base w0 lm0 N g a w s) {T e : TypeId} {z : Value} {call : Call} {d : Nat} {r : Eff} (ho : o.op = .alloc T) (hz : (P.info? T).bind (·.zero) = some z) (hzc : z.cells = #[.pointer none, .slice none 0 0])
 (he : eff call s d (.sbn T e) = some r) : EffOK P base w0 lm0 N g a w s o r := by
 simp only [eff] at he
 cases hid : newId s.h d with
 | none => rw [hid] at he; simp at he
 | some id =>
  rw [hid] at he
  simp only [oIE] at he
  subst he
  have hidl := Ta6 hid
  have hnn : nid id 1 ≠ id := fun h => by have := Tcu id 1; omega
  let v' : Nat → Value := upd (upd g.v id (.slice (some ⟨w.heap.size, 0, none⟩) 1 1)) (nid id 1) (.slice none 0 0)
  have v1 : v' id = .slice (some ⟨w.heap.size, 0, none⟩) 1 1 := by simp only [v']; rw [Ta7 _ (Ne.symm hnn), Tah]
  have v2 : v' (nid id 1) = .slice none 0 0 := Tah _ _ _
  have hl : ∀ b, b < w.heap.size → upd g.lm w.heap.size 0 b = g.lm b := fun b h => Ta7 _ (by omega) _
  have ho2 : ORep (w.alloc (.cells z.cells T)) ⟨upd g.lm w.heap.size 0, v'⟩ base id (.dp T 2 (sbRow e [])) := by
   refine Thi (b := w.heap.size) (p := .pointer none) (v := .slice none 0 0) v1 S.bw ?_ (.inl rfl) v2 ⟨by omega, by simp, ⟨[], ⟨rfl, .inl ⟨v2, rfl⟩⟩, .nil, by simp⟩, fun b hb => by dsimp only at hb; rw [v2] at hb; simp [blk] at hb⟩ (Tah _ _ _)
   rw [hzc]; simp only [World.alloc]; exact Array.getElem?_push_size
  obtain ⟨S2, T2⟩ := S.newG (id := id) (Tav hid) hidl (w' := w.alloc (.cells z.cells T)) (lm' := upd g.lm w.heap.size 0) (v' := v') (o := .dp T 2 (sbRow e [])) (Tay w _) hl
   (fun x hx => by
    have h1 : x ≠ nid id 1 := fun h => hx (by rw [h]; unfold nid; omega)
    have h2 : x ≠ id := fun h => hx (by rw [h]; omega)
    simp only [v']; rw [Ta7 _ h1, Ta7 _ h2])
   (fun x b hi hb => by
    rcases Tcb.1 hi with rfl | rfl
    · rw [v1] at hb; simp [blk] at hb; omega
    · rw [v2] at hb; simp [blk] at hb)
   ⟨fun _ => id, fun x b hi hb => by
    rcases Tcb.1 hi with rfl | rfl
    · rfl
    · rw [v2] at hb; simp [blk] at hb⟩ ho2
  refine EffOK.mk' (u := .pointer (some ⟨w.heap.size, 0, none⟩)) rfl ?_ S2 ?_
  · simp [execOp, ho, Instr.alloc, Tc5 hz, newVar, Go.newRow]
  · show SRep _ _ (get (AM.put s.h id (.dp T 2 (sbRow e [])))) _ _
    simp only [SRep, Taa]
    exact ⟨w.heap.size, by rw [v1]; rfl, by simp⟩
theorem Sim.sbw (S : Sim base w0 lm0 N g a w s) {d T e : Nat} {l : List (List PV)} (hd : get s.h d = some (.dp T 2 (sbRow e l))) {b : Nat} {p v : Value} (hv : g.v d = .slice (some ⟨b, 0, none⟩) 1 1) (hbb : base ≤ b) (hg : w.heap[b]? = some (.cells #[p, v] T (0, 0)))
 (hn : g.v (nid d 1) = v) (hR : RowR w g base (nid d 1) e 1 l) (hlm : g.lm b = 0) {w' : World} {v' : Value} {bs : List UInt8} {xs : List Value} (hrep : RepL w g.lm l.flatten xs) (hone : ∀ u ∈ xs, u.oneCell' = true)
 (q1 : w'.heap[b]? = some (.cells #[.pointer (some ⟨b, 0, none⟩), v'] T (0, 0))) (q2 : w'.ownsRow base e 1 v' (l.length + bs.length) (xs ++ bs.map fun c => Value.int .u8 c.toNat)) (q3 : blk v' = blk v ∨ ∃ c, blk v' = some c ∧ w.heap.size ≤ c) (q4 : Below base w w') (q5 : ∀ k, k < w.heap.size → k ≠ b → blk v ≠ some k → w'.heap[k]? = w.heap[k]?) :
 ∃ g', Sim base w0 lm0 N g' a w' ⟨s.t, AM.put s.h d (.dp T 2 (sbRow e (l ++ bRows bs)))⟩ := by
 obtain ⟨r1, r2, _, r6⟩ := hR
 rw [hn] at r6
 have hdl := S.lt _ _ hd
 have hnn : d ≠ nid d 1 := fun h => by have := Tcu d 1; omega
 have hblt : b < w.heap.size := (Array.getElem?_eq_some_iff.1 hg).1
 have bd : blk (g.v d) = some b := by rw [hv]; rfl
 obtain ⟨own, hap⟩ := S.ap
 let lm' : Nat → Nat := fun b => if w.heap.size ≤ b then 0 else g.lm b
 have hlm' : ∀ b, b < w.heap.size → lm' b = g.lm b := fun b h => if_neg (by omega)
 let gv : Nat → Value := upd g.v (nid d 1) v'
 have g1 : gv d = .slice (some ⟨b, 0, none⟩) 1 1 := by simp only [gv]; rw [Ta7 _ hnn]; exact hv
 have g2 : gv (nid d 1) = v' := Tah _ _ _
 have hbl : ∀ k, k < w.heap.size → k ≠ b → blk v ≠ some k → w'.heap[k]? = w.heap[k]? ∧ lm' k = g.lm k := fun k h1 h2 h3 => ⟨q5 k h1 h2 h3, hlm' k h1⟩
 have hext : Ext w g.lm w' lm' := by
  exact Ext.blocks fun b2 hlt ho2 => hbl b2 hlt (fun e => by rw [e, hlm] at ho2; omega) (fun e => by rw [r6 b2 e] at ho2; omega)
 have hnew : ORep w' ⟨lm', gv⟩ base d (.dp T 2 (sbRow e (l ++ bRows bs))) := by
  have hlen : (l ++ bRows bs).length = l.length + bs.length := by simp [bRows]
  refine Thi g1 hbb q1 (.inr rfl) g2 ⟨by omega, ?_, ⟨_, by dsimp only; rw [g2, hlen]; exact q2, ?_, ?_⟩, ?_⟩ (by show lm' b = 0; rw [hlm' b hblt]; exact hlm)
  · intro c hc
    rcases List.mem_append.1 hc with h | h
    · exact r2 c h
    · obtain ⟨_, _, rfl⟩ := List.mem_map.1 h; rfl
  · rw [List.flatten_append]
    exact (hrep.ext hext).append (Tjn _)
  · intro u hu
    rcases List.mem_append.1 hu with h | h
    · exact hone u h
    · obtain ⟨_, _, rfl⟩ := List.mem_map.1 h; rfl
  · intro b2 hb2
    dsimp only at hb2 ⊢
    rw [g2] at hb2
    rcases q3 with h | ⟨c, h, hc⟩
    · rw [h] at hb2
      have := r6 b2 hb2
      show (if _ then _ else _) = 0
      split
      · rfl
      · exact this
    · rw [h] at hb2
      obtain rfl := oIj hb2
      exact if_pos hc
 have hnx : ∀ {d1 o1 x}, get s.h d1 = some o1 → d ≠ d1 → Ids d1 o1 x → x ≠ nid d 1 := fun h1 hne hi e => by
  have := hi.mod (S.lt _ _ h1)
  rw [e] at this
  exact hne (by rw [← this]; unfold nid; omega)
 obtain ⟨S2, _⟩ := S.dput hd rfl (w' := w') (lm' := lm') (v' := gv) (o' := .dp T 2 (sbRow e (l ++ bRows bs))) ⟨rfl, rfl⟩ (g1.trans hv.symm) (fun x hx => Ta7 _ (fun e => hx (by rw [e]; unfold nid; omega)) _) hext q4
  (fun b2 hb2 hlt => hbl b2 hlt (fun e => hb2 d (.self _ _) (by rw [e]; exact bd)) (fun e => hb2 (nid d 1) (Tcb.2 (.inr rfl)) (by rw [hn]; exact e))) hnew
  ⟨fun b2 => if w.heap.size ≤ b2 then nid d 1 else own b2, fun d1 o1 x b2 h1 l1 hi hb1 => by
   dsimp only
   by_cases e1 : d = d1
   · subst e1
     rw [Taa] at h1
     obtain rfl := oIj h1
     rcases Tcb.1 hi with rfl | rfl
     · rw [g1] at hb1
       simp [blk] at hb1
       subst hb1
       rw [if_neg (by omega)]
       exact hap _ _ _ _ hd rfl (.self _ _) bd
     · rw [g2] at hb1
       rcases q3 with h | ⟨c, h, hc⟩
       · rw [h] at hb1
         have hb1' : blk (g.v (nid d 1)) = some b2 := by rw [hn]; exact hb1
         have := ((S.ob _ _ hd).blockI rfl (Tcb.2 (.inr rfl)) hb1').2
         rw [if_neg (by omega)]
         exact hap _ _ _ _ hd rfl (Tcb.2 (.inr rfl)) hb1'
       · rw [h] at hb1
         obtain rfl := oIj hb1
         exact if_pos hc
   · rw [Tac _ e1] at h1
     have hx := hnx h1 e1 hi
     simp only [gv] at hb1
     rw [Ta7 _ hx] at hb1
     have := ((S.ob _ _ h1).blockI l1 hi hb1).2
     rw [if_neg (by omega)]
     exact hap _ _ _ _ h1 l1 hi hb1⟩ (fun b2 hK hF x hi hb1 => by
   rcases Tcb.1 hi with rfl | rfl
   · rw [g1] at hb1
     exact hF x _ x hd rfl (.self _ _) (by rw [hv]; exact hb1)
   · rw [g2] at hb1
     rcases q3 with h | ⟨c, h, hc⟩
     · rw [h] at hb1
       exact hF d _ (nid d 1) hd rfl (Tcb.2 (.inr rfl)) (by rw [hn]; exact hb1)
     · rw [h] at hb1
       obtain rfl := oIj hb1
       have h1 := hK.2
       have h2 := S.fr.sz
       omega)
 exact ⟨_, S2⟩
theorem Sim.sbs (S : Sim base w0 lm0 N g a w s) {d T e : Nat} {l : List (List PV)} (hd : get s.h d = some (.dp T 2 (sbRow e l))) {v : Value} (hn : g.v (nid d 1) = v) (hR : RowR w g base (nid d 1) e 1 l) {w' : World}
 (q4 : Below base w w') (q5 : ∀ k, k < w.heap.size → blk v ≠ some k → w'.heap[k]? = w.heap[k]?) : Sim base w0 lm0 N g a w' ⟨s.t, AM.put s.h d .dead⟩ := by
 obtain ⟨_, _, _, r6⟩ := hR
 rw [hn] at r6
 have hext : Ext w g.lm w' g.lm := by
  exact Ext.blocks fun b2 hlt ho2 => ⟨q5 b2 hlt (fun e => by rw [r6 b2 e] at ho2; omega), rfl⟩
 have T : Tr w g (get s.h) w' g (get (AM.put s.h d .dead)) := ⟨hext, fun d1 o1 h1 => by
  by_cases e : d = d1
  · exact .inl ⟨by subst e; rw [hd] at h1; obtain rfl := oIj h1; rfl, by rw [← e, Taa]⟩
  · exact .inr ⟨rfl, o1, by rw [Tac _ e]; exact h1, Shp.refl _⟩⟩
 refine S.turn T q4 (fun _ _ => rfl) (fun d1 o1 h1 => ?_) (fun d1 o1 h1 => ?_) ?_ (fun d1 e1 k1 l1 h1 => ?_) (fun b _ hbz hF => ⟨⟨q5 b hbz (fun e => hF d _ (nid d 1) hd rfl (Tcb.2 (.inr rfl)) (by rw [hn]; exact e)), rfl⟩, fun d1 o1 x h1 l1 hi => ?_⟩)
 · by_cases e : d = d1
   · subst e
     rw [Taa] at h1
     obtain rfl := oIj h1
     trivial
   · rw [Tac _ e] at h1
     refine (S.ob _ _ h1).keep (fun _ _ => rfl) hext fun hl x hi b hb => ⟨q5 b ((S.ob _ _ h1).blockI hl hi hb).2 fun e2 => ?_, rfl⟩
     exact S.far h1 hd hl rfl hi (Tcb.2 (.inr rfl)) (S.ne h1 hd (Ne.symm e) hi (Tcb.2 (.inr rfl))) hb (by rw [hn]; exact e2)
 · by_cases e : d = d1
   · subst e; exact S.lt _ _ hd
   · rw [Tac _ e] at h1; exact S.lt _ _ h1
 · obtain ⟨own, hap⟩ := S.ap
   refine ⟨own, fun d1 o1 x b h1 l1 hi hb => ?_⟩
   by_cases e : d = d1
   · subst e
     rw [Taa] at h1
     obtain rfl := oIj h1
     simp [Ob.live] at l1
   · rw [Tac _ e] at h1
     exact hap d1 o1 x b h1 l1 hi hb
 · by_cases e : d = d1
   · subst e
     rw [Taa] at h1
     simp at h1
   · rw [Tac _ e] at h1
     refine .inl ⟨h1, rfl, fun b hb => q5 b ((S.ob _ _ h1).block rfl hb).2 fun e2 => ?_⟩
     exact S.far h1 hd rfl rfl (.self _ _) (Tcb.2 (.inr rfl)) (S.ne h1 hd (Ne.symm e) (.self _ _) (Tcb.2 (.inr rfl))) hb (by rw [hn]; exact e2)
 · by_cases e : d = d1
   · subst e
     rw [Taa] at h1
     obtain rfl := oIj h1
     simp [Ob.live] at l1
   · rw [Tac _ e] at h1
     exact hF d1 o1 x h1 l1 hi
end
end Go.Proofs.YtjpibniecllafaaGreat.AM
end
section
namespace Go.Proofs.YtjpibniecllafaaGreat.AM
open Go Go.RowKit
theorem Tl3 {d e k x : Nat} {l : List (List PV)} : Ids d (.dp e k l) x ↔ x = d ∨ ∃ p e' k' l', l.flatten[p]? = some (.ow e' k' l') ∧ 0 < k' ∧ x = nid d p := by
 constructor
 · exact Ids.dpE
 · rintro (h | ⟨p, e', k', l', hp, hk, rfl⟩)
   · exact .inl h
   · exact .dp hp hk
section
variable {P : Program} {base : Nat} {w0 : World} {lm0 : L0} {N : Nat} {g : Gs} {a : Act} {w : World} {s : St} {o : Oper}
theorem Sim.over (S : Sim base w0 lm0 N g a w s) {d1 d2 e k : Nat} {l1 l2 : List (List PV)} (hd1 : get s.h d1 = some (.row e k false l1)) (hd2 : get s.h d2 = some (.dp e k l2)) (hll : l1.length = l2.length) (hok : okSet l2 = true)
 {w' : World} {xs : List Value} (h4 : RepL w g.lm l2.flatten xs) (h5 : ∀ u ∈ xs, u.oneCell' = true) (h7 : ∀ p e' k' l', l2.flatten[p]? = some (.ow e' k' l') → 0 < k' → xs[p]? = some (g.v (nid d2 p)) ∧ RowR w g base (nid d2 p) e' k' l')
 (hown : w'.ownsRow base e k (g.v d1) l1.length xs) (hb : Below base w w') (hbl : ∀ b, blk (g.v d1) ≠ some b → w'.heap[b]? = w.heap[b]?) :
 ∃ g', Sim base w0 lm0 N g' a w' ⟨s.t, AM.put (AM.put s.h d2 .dead) d1 (.dp e k l2)⟩ := by
 have hne : d1 ≠ d2 := fun h => by rw [h, hd2] at hd1; simp at hd1
 have l1t := S.lt _ _ hd1
 have l2t := S.lt _ _ hd2
 obtain ⟨r1, r2, _, r6⟩ := S.ob _ _ hd1
 obtain ⟨_, k2, _, _, _⟩ := S.ob _ _ hd2
 obtain ⟨own, hap⟩ := S.ap
 let v' : Nat → Value := fun x => if 1000000 ≤ x ∧ x % 1000000 = d1 then g.v (x - d1 + d2) else g.v x
 have v1 : v' d1 = g.v d1 := if_neg (by omega)
 have v2 : ∀ p, v' (nid d1 p) = g.v (nid d2 p) := fun p => by
  have h1 := Tcu d1 p
  have h2 : nid d1 p % 1000000 = d1 := by unfold nid; omega
  show (if _ then _ else _) = _
  rw [if_pos ⟨h1, h2⟩]
  congr 1
  unfold nid; omega
 have hlm1 : ∀ b, blk (g.v d1) = some b → g.lm b = 0 := fun b hb => by simpa using r6 b hb
 have hext : Ext w g.lm w' g.lm := by
  exact Ext.blocks fun b2 hlt ho2 => ⟨hbl b2 (fun e => by rw [hlm1 b2 e] at ho2; omega), rfl⟩
 have hnb : ∀ p e' k' l', l2.flatten[p]? = some (.ow e' k' l') → 0 < k' → ∀ b, blk (g.v (nid d2 p)) = some b → blk (g.v d1) ≠ some b := fun p e' k' l' hp hk b hb hb1 => by
  have z1 := hap d2 _ _ b hd2 rfl (Tl3.2 (.inr ⟨p, e', k', l', hp, hk, rfl⟩)) hb
  have z2 := hap d1 _ _ b hd1 rfl (.self _ _) hb1
  have := Tcu d2 p
  omega
 obtain ⟨S1, T1⟩ := S.kill hd2
 have hd1' : get (AM.put s.h d2 .dead) d1 = some (.row e k false l1) := by rw [Tac _ (Ne.symm hne)]; exact hd1
 obtain ⟨S2, _⟩ := S1.dput hd1' rfl (w' := w') (lm' := g.lm) (v' := v') (o' := .dp e k l2) ⟨rfl, hll⟩ v1 (fun x hx => if_neg fun h => hx h.2) hext hb
  (fun b hb _ => ⟨hbl b (hb d1 (.self _ _)), rfl⟩)
  ⟨r1, k2, ⟨xs, by dsimp only; rw [v1, ← hll]; exact hown, h4.ext hext, h5, fun p e' k' l' hp hk => by
   obtain ⟨q1, m1, m2, ⟨ys, m3, m4, m5⟩, m6⟩ := h7 p e' k' l' hp hk
   refine ⟨by dsimp only; rw [v2]; exact q1, m1, m2, ⟨ys, by dsimp only; rw [v2]; exact Tas m3 fun b hb => hbl b (hnb p e' k' l' hp hk b hb), m4.ext hext, m5⟩, fun b hb => ?_⟩
   dsimp only at hb
   rw [v2] at hb
   exact m6 b hb⟩,
   fun b hb => by dsimp only at hb; rw [v1] at hb; exact hlm1 b hb,
   fun p hp => by have := Thb hok hp; simp [PV.noHole] at this⟩
  ⟨fun b => if 1000000 ≤ own b ∧ own b % 1000000 = d2 then own b - d2 + d1 else own b, fun d3 o3 x b h3 hl3 hi hbx => by
   dsimp only
   by_cases e1 : d1 = d3
   · subst e1
     rw [Taa] at h3
     obtain rfl := oIj h3
     rcases Tl3.1 hi with rfl | ⟨p, e', k', l', hp, hk, rfl⟩
     · rw [v1] at hbx
       have := hap x _ x b hd1 rfl (.self _ _) hbx
       rw [this, if_neg (by omega)]
     · rw [v2] at hbx
       have := hap d2 _ _ b hd2 rfl (Tl3.2 (.inr ⟨p, e', k', l', hp, hk, rfl⟩)) hbx
       have h2 : nid d2 p % 1000000 = d2 := by unfold nid; omega
       rw [this, if_pos ⟨Tcu _ _, h2⟩]
       unfold nid; omega
   · rw [Tac _ e1] at h3
     by_cases e2 : d2 = d3
     · subst e2
       rw [Taa] at h3
       obtain rfl := oIj h3
       simp [Ob.live] at hl3
     · rw [Tac _ e2] at h3
       have hm := hi.mod (S.lt _ _ h3)
       have hx1 : v' x = g.v x := if_neg fun h => e1 (by rw [← h.2, hm])
       rw [hx1] at hbx
       have := hap d3 o3 x b h3 hl3 hi hbx
       rw [this, if_neg fun h => e2 (by rw [← h.2, hm])]⟩ (fun b hK hF x hi hbx => by
   rcases Tl3.1 hi with rfl | ⟨p, e', k', l', hp, hk, rfl⟩
   · rw [v1] at hbx
     exact hF x _ x hd1' rfl (.self _ _) hbx
   · rw [v2] at hbx
     exact S.fr.kd b hK d2 _ (nid d2 p) hd2 rfl (.dp hp hk) hbx)
 exact ⟨_, S2⟩
theorem Tsd (S : Sim base w0 lm0 N g a w s) {t t2 el : TypeId} {k : Nat} (h0 : 0 < k) {x y : Operand} {x' y' : X} {call : Call} {d : Nat} {r : Eff} (ho : o.op = .call { callee := .builtin .copy, args := #[x, y], argTypes := #[t, t2] }) (ht : P.underlying t = some (.slice el)) (hk : P.cellsOf el = k)
 (hx : okX x x' = true) (hy : okX y y' = true) (he : eff call s d (.cpyo k x' y') = some r) : EffOK P base w0 lm0 N g a w s o r := by
 simp only [eff] at he
 split at he
 case h_2 => simp at he
 rename_i d1 off1 len1 d2 off2 len2 hvx hvy
 split at he
 case h_2 => simp at he
 rename_i e k1 l1 e2 k2 l2 hd1 hd2
 split at he
 case isFalse => simp at he
 rename_i hc
 obtain ⟨hne, rfl, rfl, rfl, rfl, rfl, rfl, rfl, hll, hok⟩ := hc
 simp only [oIE] at he
 subst he
 have hrx := Taf S hx hvx
 have hry := Taf S hy hvy
 simp only [SRep, hd1] at hrx
 simp only [SRep, hd2] at hry
 have hux : a.eval x = g.v d1 := by
  rcases hrx.2 with h | h
  · exact h.2.2
  · exact absurd h.1 (by simp)
 have huy : a.eval y = g.v d2 := by
  rcases hry.2 with h | h
  · exact h.2.2
  · exact absurd h.1 (by simp)
 obtain ⟨_, hk1, ⟨xs1, h31, h41, h51⟩, _⟩ := S.ob _ _ hd1
 obtain ⟨_, hk2, ⟨xs2, h32, h42, h52, h72⟩, _⟩ := S.ob _ _ hd2
 have fin : ∀ {w' : World}, (execOp a.eval o).run P w = .ok (.value (.int .i64 l1.length)) w' → w'.ownsRow base e2 k2 (g.v d1) l1.length xs2 → Below base w w' → (∀ b, blk (g.v d1) ≠ some b → w'.heap[b]? = w.heap[b]?) → EffOK P base w0 lm0 N g a w s o ⟨.p (.sc (.int .i64 (l1.length : Nat))), [(d2, .dead), (d1, .dp e2 k2 l2)]⟩ := by
  intro w' hrun h1 h2 h3
  obtain ⟨g', S2⟩ := S.over hd1 hd2 hll hok h42 h52 h72 h1 h2 h3
  exact EffOK.mk' (h' := AM.put (AM.put s.h d2 .dead) d1 (.dp e2 k2 l2)) rfl hrun S2 (Rep.sc _)
 have hz2 : Nat.min l2.length l1.length = l1.length := by rw [← hll]; exact Nat.min_self _
 have slv : ∀ {v : Value} {n : Nat} {xs : List Value}, w.ownsRow base e2 k2 v n xs → ∃ ad cap, v = .slice ad n cap := by
  intro v n xs h
  rcases h.2 with ⟨h, hn⟩ | ⟨b, cap, cur, h, _⟩
  · exact ⟨none, 0, by rw [h, hn]⟩
  · exact ⟨_, cap, h⟩
 by_cases hn1 : l1.length = 0
 · have hl2 : l2.length = 0 := by omega
   have hx2 : xs2 = [] := List.eq_nil_of_length_eq_zero (by rw [h32.1, hl2]; simp)
   have hx1 : xs1 = [] := List.eq_nil_of_length_eq_zero (by rw [h31.1, hn1]; simp)
   subst hx2
   subst hx1
   refine fin (w' := w) ?_ h31 (Below.refl _ _) (fun _ _ => rfl)
   obtain ⟨a1, c1, hv1⟩ := slv h31
   obtain ⟨a2, c2, hv2⟩ := slv h32
   rw [hn1] at hv1
   rw [hl2] at hv2
   have hm : Nat.min 0 0 = 0 := rfl
   have hf : ∀ c, (Builtin.firstCells k2 0 (.slice a2 0 c)).run P w = .ok #[] w := fun c => by cases a2 <;> simp [Builtin.firstCells, loadCells, loadCellsFrom]
   cases a1 <;> simp [execOp, ho, resolve, invoke, builtin, hux, huy, hv1, hv2, Builtin.copy_, run_underlying ht, Builtin.lenOf, hm, Tan hk h0, hf, storeCells, goInt, hn1]
 rcases h31.2 with ⟨hv1, hz⟩ | ⟨b1, cap1, cur1, hv1, q1, q2, q3, q4, q5, q6⟩
 · exact absurd hz hn1
 rcases h32.2 with ⟨hv2, hz⟩ | ⟨b2, cap2, cur2, hv2, _⟩
 · omega
 have hcl : xs2.length = l1.length * k2 := by rw [h32.1, hll]
 have hlcap : l1.length * k2 ≤ cap1 * k2 := Nat.mul_le_mul_right _ q3
 have hst := run_storeCells_at P b1 0 e2 xs2 0 cur1 w q2 (by rw [hcl]; omega) h52
 simp only [Nat.add_zero, Nat.zero_add, hcl, List.take_zero, List.nil_append] at hst
 have hsz : (xs2 ++ cur1.toList.drop (l1.length * k2)).toArray.size = cap1 * k2 := by
  simp only [List.size_toArray, List.length_append, List.length_drop, Array.length_toList, hcl]; omega
 refine fin (w' := w.setRow b1 (xs2 ++ cur1.toList.drop (l1.length * k2)).toArray) ?_ ⟨hcl, .inr ⟨b1, cap1, (xs2 ++ cur1.toList.drop (l1.length * k2)).toArray, hv1, q1, setRow_heap w b1 cur1 _ e2 _ q2, q3, q4, hsz, ?_⟩⟩ (below_setRow (Below.refl _ _) q1 _) (fun b hb => setRow_other _ _ _ _ fun e => hb (by rw [hv1, e]; rfl))
 · have hf := run_firstCells_some (P := P) w k2 l1.length ⟨b2, 0, none⟩ l2.length cap2 xs2 hcl (fun j v hv => by
    rw [add_n, Nat.zero_add]
    exact Ta1 h32 (by rw [hv2]; rfl) hv)
   simp [execOp, ho, resolve, invoke, builtin, hux, huy, hv1, hv2, Builtin.copy_, run_underlying ht, Builtin.lenOf, hz2, Tan hk h0, hf, hst, goInt]
 · rw [List.toList_toArray, ← hcl, List.take_left]
end
end Go.Proofs.YtjpibniecllafaaGreat.AM
end
