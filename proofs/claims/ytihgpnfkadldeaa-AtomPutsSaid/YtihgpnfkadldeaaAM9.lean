/- The small machine's operations that make objects. No condition. -/
import Derived.Test.YtihgpnfkadldeaaAM8
import Derived.Laws.CopyOwn
namespace Go.Proofs.Ytihgpnfkadldeaa.AM
open Go Go.RowKit
set_option linter.unusedVariables false
set_option linter.unusedSimpArgs false

section
variable {P : Program} {base : Nat} {w0 : World} {lm0 : Nat → Nat} {N : Nat} {g : Gs} {a : Act} {w : World} {s : St} {o : Oper}

theorem EffOK.mk' {u : Value} {w' : World} {g' : Gs} {e : Eff} {h' : List (Nat × Ob)} (hh : putAll s.h e.hs = h') (hrun : (execOp a.eval o).run P w = .ok (.value u) w') (S' : Sim base w0 lm0 N g' a w' ⟨s.t, h'⟩) (hr : SRep w' g' (get h') e.v u) : EffOK P base w0 lm0 N g a w s o e :=
  ⟨u, w', g', .inl hrun, by rw [hh]; exact S', by rw [hh]; exact hr⟩
theorem below_alloc' (w : World) (o : Obj) : Below w.heap.size w (w.alloc o) := (Below.refl _ w).alloc (Nat.le_refl _) o
theorem drewN_alloc_below (w : World) (o : Obj) : Below w.heap.size w (w.drew.alloc o) := ((Below.refl _ w).drew).alloc (Nat.le_refl _) o

/-- A new row, all of whose room is used, in a new block. -/
theorem Sim.newRow (S : Sim base w0 lm0 N g a w s) {id : Nat} (hid : get s.h id = none) (hid2 : id < 1000000) {e k : Nat} (h0 : 0 < k) {l : List (List PV)} (hk : ∀ c ∈ l, c.length = k) {cs : Array Value} (hr : RepL w g.lm l.flatten cs.toList) (h1 : ∀ u ∈ cs.toList, u.oneCell' = true) (hm : l.length ≤ maxLen) :
    let w' := w.alloc (.cells cs e)
    let g' : Gs := ⟨upd g.lm w.heap.size 0, upd g.v id (.slice (some ⟨w.heap.size, 0, none⟩) l.length l.length)⟩
    Sim base w0 lm0 N g' a w' ⟨s.t, AM.put s.h id (.row e k false l)⟩ ∧ Tr w g (get s.h) w' g' (get (AM.put s.h id (.row e k false l))) := by
  intro w' g'
  have hlm : ∀ b, b < w.heap.size → upd g.lm w.heap.size 0 b = g.lm b := fun b h => upd_ne _ (by omega) _
  have hsz : cs.size = l.length * k := by
    have := hr.length
    rw [flatten_len hk] at this
    simpa using this.symm
  refine S.new hid hid2 (below_alloc' w _) hlm rfl (fun b hb => ?_) ⟨h0, hk, ⟨cs.toList, ?_, hr.ext (Ext.of_below (below_alloc' w _) hlm), h1⟩, fun b hb => ?_⟩
  · simp [blk] at hb; omega
  · simp only [upd_same]
    exact World.ownsRow_lit w cs l.length S.bw hm hsz
  · simp only [upd_same] at hb
    simp [blk] at hb
    subst hb
    exact upd_same _ _ _

theorem srep_new_mp {w' : World} {g' : Gs} {h' : List (Nat × Ob)} {id e k : Nat} {fz : Bool} {l : List (List PV)} {b n m : Nat} (hd : get h' id = some (.row e k fz l)) (hv : g'.v id = .slice (some ⟨b, 0, none⟩) n m) : SRep w' g' (get h') (.mp id 0 0) (.pointer (some ⟨b, 0, none⟩)) := by
  simp only [SRep, hd, hv]
  exact ⟨b, rfl, by simp⟩
theorem srep_new_ms {w' : World} {g' : Gs} {h' : List (Nat × Ob)} {id e k : Nat} {fz : Bool} {l : List (List PV)} (hd : get h' id = some (.row e k fz l)) {n : Nat} (hn : n = l.length) : SRep w' g' (get h') (.ms id 0 n) (g'.v id) := by
  subst hn
  simp only [SRep, hd]
  exact ⟨by omega, .inl (by simp)⟩

theorem newId_fz {h h' : List (Nat × Ob)} (hf : ∀ d, Fz (get h d) (get h' d)) {d id : Nat} (e : newId h d = some id) : get h' id = none := (Fz.none_iff (hf id)).1 (newId_none e)

theorem eff_nl (S : Sim base w0 lm0 N g a w s) {e k : Nat} (h0 : 0 < k) {call : Call} {d : Nat} {r : Eff} (ho : o.op = .move (.const (.slice none 0 0)) ∨ o.op = .assign (.const (.slice none 0 0))) (he : eff call s d (.nl e k) = some r) : EffOK P base w0 lm0 N g a w s o r := by
  simp only [eff] at he
  cases hid : newId s.h d with
  | none => rw [hid] at he; simp at he
  | some id =>
    rw [hid] at he
    simp only [Option.some.injEq] at he
    subst he
    obtain ⟨S', T'⟩ := S.new (lm' := g.lm) (v0 := .slice none 0 0) (o := .row e k false []) (newId_none hid) (newId_lt hid) (Below.refl _ w) (fun _ _ => rfl) rfl (fun b hb => by simp [blk] at hb)
      ⟨h0, by simp, ⟨[], by simp only [upd_same]; exact World.ownsRow_nil w base e k, .nil, by simp⟩, fun b hb => by simp only [upd_same] at hb; simp [blk] at hb⟩
    refine ⟨.slice none 0 0, w, _, .inl ?_, S', ?_⟩
    · rcases ho with ho | ho <;> simp [execOp, ho, Act.eval]
    · have := srep_new_ms (w' := w) (g' := ⟨g.lm, upd g.v id (.slice none 0 0)⟩) (h' := AM.put s.h id (.row e k false [])) (get_put_same _ _ _) (n := 0) rfl
      simp only [upd_same] at this
      exact this

theorem eff_box (S : Sim base w0 lm0 N g a w s) {e k : Nat} (h0 : 0 < k) {x : Operand} {y : X} {call : Call} {d : Nat} {r : Eff} (ho : o.op = .box e x) (hx : okX x y = true) (he : eff call s d (.box e k y) = some r) : EffOK P base w0 lm0 N g a w s o r := by
  simp only [eff] at he
  cases hv : y.ev s with
  | none => rw [hv] at he; simp at he
  | some v =>
    rw [hv] at he
    dsimp only at he
    cases hf : AM.frz s.h v with
    | none => rw [hf] at he; simp at he
    | some q =>
      obtain ⟨z, fr⟩ := q
      rw [hf] at he
      dsimp only at he
      cases hc : z.cells with
      | none => rw [hc] at he; simp at he
      | some c =>
        rw [hc] at he
        dsimp only at he
        split at he
        case isFalse => simp at he
        rename_i hck
        cases hid : newId s.h d with
        | none => rw [hid] at he; simp at he
        | some id =>
          rw [hid] at he
          simp only [Option.some.injEq] at he
          subst he
          obtain ⟨lm', S1, r1, T1, F1⟩ := frz_sim S (fun d => Fz.refl _) (okX_sound S hx hv) hf
          obtain ⟨hr, h1⟩ := r1.cells hc
          obtain ⟨S2, T2⟩ := S1.newRow (newId_fz F1 hid) (newId_lt hid) (e := e) h0 (l := [c]) (by simpa using hck) (cs := (a.eval x).cells) (by simpa using hr) h1 (by simp [maxLen])
          refine EffOK.mk' (u := .pointer (some ⟨w.heap.size, 0, none⟩)) (putAll_append _ _ _) ?_ S2 (srep_new_mp (get_put_same _ _ _) (upd_same _ _ _))
          simp [execOp, ho, Instr.box, newVar, Go.newRow]

/-! ### zero values -/
def okV : Value → PV → Bool
  | .slice none 0 0, .sl _ [] => true
  | .nilFunc, .sc .nilFunc => true
  | .nilIface, .sc .nilIface => true
  | .pointer none, .sc (.pointer none) => true
  | .map none, .sc (.map none) => true
  | .int k n, .sc (.int k' n') => decide (k = k') && decide (n = n')
  | .bool b, .sc (.bool b') => b == b'
  | .string s, .sc (.string s') => s.data.toList == s'.data.toList
  | _, _ => false
def okZ : List Value → List PV → Bool
  | [], [] => true
  | v :: vs, x :: xs => okV v x && okZ vs xs
  | _, _ => false
theorem okV_sound {w : World} {lm : Nat → Nat} {v : Value} {x : PV} (h : okV v x = true) : Rep w lm x v ∧ v.oneCell' = true := by
  unfold okV at h
  split at h
  · exact ⟨.sl0, rfl⟩
  · exact ⟨.sc _, rfl⟩
  · exact ⟨.sc _, rfl⟩
  · exact ⟨.sc _, rfl⟩
  · exact ⟨.sc _, rfl⟩
  · simp at h; obtain ⟨rfl, rfl⟩ := h; exact ⟨.sc _, rfl⟩
  · simp at h; subst h; exact ⟨.sc _, rfl⟩
  · rename_i s1 s2
    have : s1 = s2 := by
      obtain ⟨⟨x⟩⟩ := s1; obtain ⟨⟨y⟩⟩ := s2
      simp at h; subst h; rfl
    subst this; exact ⟨.sc _, rfl⟩
  · simp at h
theorem okZ_sound {w : World} {lm : Nat → Nat} : ∀ {vs : List Value} {xs : List PV}, okZ vs xs = true → RepL w lm xs vs ∧ ∀ u ∈ vs, u.oneCell' = true
  | [], [], _ => ⟨.nil, by simp⟩
  | v :: vs, x :: xs, h => by
    simp only [okZ, Bool.and_eq_true] at h
    obtain ⟨h1, h2⟩ := okV_sound (w := w) (lm := lm) h.1
    obtain ⟨h3, h4⟩ := okZ_sound (w := w) (lm := lm) h.2
    exact ⟨.cons h1 h3, by simpa using ⟨h2, h4⟩⟩
  | [], _ :: _, h => by simp [okZ] at h
  | _ :: _, [], h => by simp [okZ] at h

theorem run_zero {t : TypeId} {z : Value} (h : (P.info? t).bind (·.zero) = some z) (w : World) : (zeroValue t).run P w = .ok z w := by
  cases hi : P.info? t with
  | none => rw [hi] at h; simp at h
  | some i =>
    rw [hi] at h
    simp at h
    simp [zeroValue, typeInfo, hi, h]

theorem eff_alloc (S : Sim base w0 lm0 N g a w s) {e k : Nat} (h0 : 0 < k) {rows : List (List PV)} {z : Value} {call : Call} {d : Nat} {r : Eff} (ho : o.op = .alloc e) (hz : (P.info? e).bind (·.zero) = some z) (hok : okZ z.cells.toList rows.flatten = true) (hk : ∀ c ∈ rows, c.length = k) (hm : rows.length ≤ maxLen)
    (he : eff call s d (.alloc e k rows) = some r) : EffOK P base w0 lm0 N g a w s o r := by
  simp only [eff] at he
  cases hid : newId s.h d with
  | none => rw [hid] at he; simp at he
  | some id =>
    rw [hid] at he
    simp only [Option.some.injEq] at he
    subst he
    obtain ⟨h2, h3⟩ := okZ_sound (w := w) (lm := g.lm) hok
    obtain ⟨S2, T2⟩ := S.newRow (newId_none hid) (newId_lt hid) (e := e) h0 hk h2 h3 hm
    refine EffOK.mk' (u := .pointer (some ⟨w.heap.size, 0, none⟩)) rfl ?_ S2 (srep_new_mp (get_put_same _ _ _) (upd_same _ _ _))
    simp [execOp, ho, Instr.alloc, run_zero hz, newVar, Go.newRow]

/-! ### structs and slices written out -/
theorem fold_set : ∀ (l : List Value) (off i : Nat) (cs : Array Value), off + i + l.length ≤ cs.size → ((l.zipIdx i).foldl (fun cs (p : Value × Nat) => cs.setIfInBounds (off + p.2) p.1) cs).toList = cs.toList.take (off + i) ++ l ++ cs.toList.drop (off + i + l.length)
  | [], off, i, cs, h => by simp
  | v :: l, off, i, cs, h => by
    simp only [List.zipIdx_cons, List.foldl_cons, List.length_cons] at h ⊢
    rw [fold_set l off (i + 1) (cs.setIfInBounds (off + i) v) (by simp; omega)]
    have e := list_seg_step cs.toList (off + i) v l (by simp; omega)
    simpa [Array.toList_setIfInBounds, Nat.add_assoc] using e

inductive PartsR (P : Program) (w : World) (lm : Nat → Nat) (place : Nat → Option (Nat × Nat)) : List (Nat × Nat × PV) → List (Nat × Value) → Prop
  | nil : PartsR P w lm place [] []
  | cons {off n x i v ps vs} : place i = some (off, n) → Rep w lm x v → PartsR P w lm place ps vs → PartsR P w lm place ((off, n, x) :: ps) ((i, v) :: vs)

theorem fill_sound {lm : Nat → Nat} {place : Nat → Option (Nat × Nat)} : ∀ {ps : List (Nat × Nat × PV)} {vs : List (Nat × Value)} {z cs : List PV} {zc : Array Value}, PartsR P w lm place ps vs → fillP z ps = some cs → RepL w lm z zc.toList → (∀ u ∈ zc.toList, u.oneCell' = true) →
    ∃ cc, Instr.fill place zc vs = some cc ∧ RepL w lm cs cc.toList ∧ ∀ u ∈ cc.toList, u.oneCell' = true
  | [], _, z, cs, zc, .nil, h, hr, h1 => by
    simp only [fillP, Option.some.injEq] at h
    subst h
    exact ⟨zc, rfl, hr, h1⟩
  | (off, n, x) :: ps, _, z, cs, zc, .cons (i := i) (v := v) (vs := vs) hp hx hps, h, hr, h1 => by
    simp only [fillP] at h
    cases hc : x.cells with
    | none => rw [hc] at h; simp at h
    | some c =>
      rw [hc] at h
      dsimp only at h
      split at h
      case isFalse => simp at h
      rename_i hcn
      obtain ⟨hlen, hle⟩ := hcn
      obtain ⟨hcr, hc1⟩ := hx.cells hc
      have hvl : v.cells.size = n := by have := hcr.length; simp at this; omega
      have hzl : z.length = zc.size := by simpa using hr.length
      have hfs := fold_set v.cells.toList off 0 zc (by simp; omega)
      simp only [Nat.add_zero, Array.length_toList, hvl] at hfs
      have hr' : RepL w lm (z.take off ++ c ++ z.drop (off + n)) (zc.toList.take off ++ v.cells.toList ++ zc.toList.drop (off + n)) := ((hr.take off).append hcr).append (hr.drop (off + n))
      have e1 : (v.cells.zipIdx.foldl (fun cs (p : Value × Nat) => cs.setIfInBounds (off + p.2) p.1) zc).toList = zc.toList.take off ++ v.cells.toList ++ zc.toList.drop (off + n) := by
        rw [← hfs, ← Array.foldl_toList]
        simp
      have := fill_sound (ps := ps) (vs := vs) (cs := cs) (zc := v.cells.zipIdx.foldl (fun cs (p : Value × Nat) => cs.setIfInBounds (off + p.2) p.1) zc) hps h (by rw [e1]; exact hr') (by
        rw [e1]
        intro u hu
        simp only [List.mem_append] at hu
        rcases hu with (hu | hu) | hu
        · exact h1 u (List.mem_of_mem_take hu)
        · exact hc1 u hu
        · exact h1 u (List.mem_of_mem_drop hu))
      obtain ⟨cc, h3, h4, h5⟩ := this
      refine ⟨cc, ?_, h4, h5⟩
      rw [Instr.fill]
      simp only [hp]
      rw [if_neg (by simp [hvl]; omega)]
      exact h3

def okPs (place : Nat → Option (Nat × Nat)) : List (Nat × Operand) → List (Nat × Nat × X) → Bool
  | [], [] => true
  | (i, x) :: ps, (off, n, y) :: qs => (match place i with | some (o', n') => decide (o' = off) && decide (n' = n) | none => false) && okX x y && okPs place ps qs
  | _, _ => false

theorem okPs_sound (S : Sim base w0 lm0 N g a w s) {place : Nat → Option (Nat × Nat)} : ∀ {ps : List (Nat × Operand)} {qs : List (Nat × Nat × X)} {vs : List SV}, okPs place ps qs = true → evs s (qs.map fun q => q.2.2) = some vs →
    SRepL w g (get s.h) vs (ps.map fun p => a.eval p.2) ∧ ∀ {ys : List PV} {w' : World} {lm' : Nat → Nat}, RepL w' lm' ys (ps.map fun p => a.eval p.2) → PartsR P w' lm' place ((qs.zip ys).map fun q => (q.1.1, q.1.2.1, q.2)) (ps.map fun p => (p.1, a.eval p.2))
  | [], [], vs, h, hv => by
    simp only [List.map_nil, evs, Option.some.injEq] at hv
    subst hv
    exact ⟨.nil, fun h => by cases h; exact .nil⟩
  | (i, x) :: ps, (off, n, y) :: qs, vs, h, hv => by
    simp only [okPs, Bool.and_eq_true] at h
    obtain ⟨⟨hp, hx⟩, h⟩ := h
    simp only [List.map_cons, evs] at hv
    cases h1 : y.ev s with
    | none => rw [h1] at hv; simp at hv
    | some v =>
      rw [h1] at hv; dsimp only at hv
      cases h2 : evs s (qs.map fun q => q.2.2) with
      | none => rw [h2] at hv; simp at hv
      | some vs' =>
        rw [h2] at hv
        obtain rfl := Option.some.inj hv
        obtain ⟨r1, r2⟩ := okPs_sound S h h2
        refine ⟨.cons (okX_sound S hx h1) r1, fun {ys w' lm'} hr => ?_⟩
        cases hr with
        | cons q1 q2 =>
          refine .cons ?_ q1 (r2 q2)
          cases hpl : place i with
          | none => rw [hpl] at hp; simp at hp
          | some q =>
            obtain ⟨o', n'⟩ := q
            rw [hpl] at hp
            simp at hp
            rw [hp.1, hp.2]
  | [], _ :: _, _, h, _ => by simp [okPs] at h
  | _ :: _, [], _, h, _ => by simp [okPs] at h

def sizesOk (P : Program) (fs : List Field) : Bool := fs.all fun f => (P.info? f.type).isSome
theorem run_places (fs : Array Field) (h : sizesOk P fs.toList = true) (w : World) : (fs.mapM fun f => (do pure (f.offset, ← sizeOf f.type) : Sem (Nat × Nat))).run P w = .ok (fs.map fun f => (f.offset, P.cellsOf f.type)) w := by
  have key : ∀ (l : List Field), sizesOk P l = true → (l.mapM fun f => (do pure (f.offset, ← sizeOf f.type) : Sem (Nat × Nat))).run P w = .ok (l.map fun f => (f.offset, P.cellsOf f.type)) w := by
    intro l
    induction l with
    | nil => intro _; simp
    | cons f l ih =>
      intro hl
      simp only [sizesOk, List.all_cons, Bool.and_eq_true] at hl
      obtain ⟨i, hi⟩ := Option.isSome_iff_exists.1 hl.1
      have hs : (sizeOf f.type).run P w = .ok (P.cellsOf f.type) w := by simp [sizeOf, typeInfo, hi, Program.cellsOf]
      simp only [List.mapM_cons, Sem.run_bind, hs, Result.andThen_ok, Sem.run_pure, ih hl.2, List.map_cons]
  rw [Array.mapM_eq_mapM_toList, Sem.run_map, key fs.toList h]
  simp only [Result.andThen_ok]
  congr 1
  apply Array.ext'
  simp

theorem eff_bld_struct (S : Sim base w0 lm0 N g a w s) {t : TypeId} {fs : Array Field} {zv : Value} {z : List PV} {ps : Array (Nat × Operand)} {qs : List (Nat × Nat × X)} {call : Call} {d : Nat} {r : Eff} (ho : o.op = .build t ps) (ht : P.underlying t = some (.struct fs)) (hz : (P.info? t).bind (·.zero) = some zv) (hok : okZ zv.cells.toList z = true)
    (hsz : sizesOk P fs.toList = true) (hps : okPs (fun i => (fs[i]?).map fun f => (f.offset, P.cellsOf f.type)) ps.toList qs = true) (he : eff call s d (.bld z qs) = some r) : EffOK P base w0 lm0 N g a w s o r := by
  simp only [eff] at he
  cases hv : evs s (qs.map fun q => q.2.2) with
  | none => rw [hv] at he; simp at he
  | some vs =>
    rw [hv] at he
    dsimp only at he
    cases hf : AM.frzs s.h vs with
    | none => rw [hf] at he; simp at he
    | some q =>
      obtain ⟨ys, fr⟩ := q
      rw [hf] at he
      dsimp only at he
      cases hc : fillP z ((qs.zip ys).map fun q => (q.1.1, q.1.2.1, q.2)) with
      | none => rw [hc] at he; simp at he
      | some cs =>
        rw [hc] at he
        simp only [Option.some.injEq] at he
        subst he
        obtain ⟨r1, r2⟩ := okPs_sound (P := P) S hps hv
        obtain ⟨lm', S1, rl, T1, F1⟩ := frzs_sim S (fun d => Fz.refl _) r1 hf
        obtain ⟨z1, z2⟩ := okZ_sound (w := w) (lm := lm') hok
        obtain ⟨cc, h3, h4, h5⟩ := fill_sound (r2 rl) hc z1 z2
        refine ⟨.agg cc, w, _, .inl ?_, S1, ?_⟩
        · have e1 : (fun i : Nat => ((fs.map fun f => (f.offset, P.cellsOf f.type))[i]? : Option (Nat × Nat))) = fun i => (fs[i]?).map fun f => (f.offset, P.cellsOf f.type) := by
            funext i; simp
          simp only [execOp, ho, Instr.build, Sem.run_bind, run_zero hz, Result.andThen_ok, run_underlying ht, run_places fs hsz, Sem.run_pure, Array.toList_map]
          rw [e1]
          have h3' : Instr.fill (fun i => (fs[i]?).map fun f => (f.offset, P.cellsOf f.type)) zv.cells (ps.toList.map fun x => (x.1, a.eval x.2)) = some cc := h3
          simp only [h3']
          rfl
        · have := Rep.st h4 h5
          rwa [show cc.toList.toArray = cc from by simp] at this
end
end Go.Proofs.Ytihgpnfkadldeaa.AM
