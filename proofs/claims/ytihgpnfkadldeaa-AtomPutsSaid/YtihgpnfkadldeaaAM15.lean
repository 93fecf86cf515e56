/- The small machine's calls and steps, against Go's. No condition. -/
import Derived.Test.YtihgpnfkadldeaaAM14
namespace Go.Proofs.Ytihgpnfkadldeaa.AM
open Go Go.RowKit
set_option linter.unusedVariables false
set_option linter.unusedSimpArgs false

def Callable (P : Program) (f : FuncId) : Prop := ∃ fn, P.funcs[f]? = some fn ∧ (fn.name == "runtime.NumGoroutine") = false ∧ fn.body.isNone = false

def RRep (base : Nat) (w : World) (lm : Nat → Nat) : Ret → Value → Prop
  | .val x, u => Rep w lm x u
  | .sb _ _ _, _ => False
  | .deep e k l, u => ∃ gv : Nat → Value, gv 0 = u ∧ ORep w ⟨lm, gv⟩ base 0 (.dp e k l) ∧ ∃ own : Nat → Nat, ∀ x b, Ids 0 (.dp e k l) x → blk (gv x) = some b → own b = x
  | .own e k l, u => 0 < k ∧ (∀ c ∈ l, c.length = k) ∧ (∃ xs, w.ownsRow base e k u l.length xs ∧ RepL w lm l.flatten xs ∧ ∀ x ∈ xs, x.oneCell' = true) ∧ ∀ b, blk u = some b → lm b = 0

/-- Called with values that read so, a function returns what reads so; nothing that was there has turned. -/
def CallOK' (P : Program) (f : FuncId) (args : List PV) (r : Ret) : Prop :=
  ∀ (w0 : World) (lm0 : Nat → Nat) (vs : List Value), RepL w0 lm0 args vs → Calls P f vs.toArray w0 fun e w' => ∃ u lm', e = .returned u ∧ Below w0.heap.size w0 w' ∧ (∀ b, b < w0.heap.size → lm' b = lm0 b) ∧ RRep w0.heap.size w' lm' r u

/-- What a builder's function does. -/
def SbOK (P : Program) (k : Nat) (T e : TypeId) (f : FuncId) : Prop := if k = 1 then SbWrite P T e f else if k = 3 then SbRune P T e f else SbString P T e f
def CallOK (P : Program) (f : FuncId) (args : List PV) (r : Ret) : Prop := match r with
  | .sb k T e => SbOK P k T e f
  | r => CallOK' P f args r
theorem CallOK.plain {P : Program} {f : FuncId} {args : List PV} {r : Ret} (h : CallOK P f args r) (hr : ∀ k T e, r ≠ .sb k T e) : CallOK' P f args r := by
  cases r with
  | sb k T e => exact absurd rfl (hr k T e)
  | val x => exact h
  | own e k l => exact h
  | deep e k l => exact h
theorem CallOK.of {P : Program} {f : FuncId} {args : List PV} {r : Ret} (h : CallOK' P f args r) (hr : ∀ k T e, r ≠ .sb k T e) : CallOK P f args r := by
  cases r with
  | sb k T e => exact absurd rfl (hr k T e)
  | val x => exact h
  | own e k l => exact h
  | deep e k l => exact h

def Good (P : Program) (call : Call) : Prop := ∀ f args r, call f args = some r → CallOK P f args r ∧ Callable P f

def methOk (P : Program) (t : TypeId) (m : String) (f : FuncId) : Bool := match P.info? t, P.underlying t with
  | some i, some u => (match u with | .pointer _ => false | _ => true) && (match i.methods.find? (·.name == m) with
    | some mm => mm.path.isEmpty && (match mm.func with | some (f', false) => f' == f | _ => false)
    | none => false)
  | _, _ => false

def okCall (P : Program) (op : Op) (ao : AOp) : Bool := match op with
  | .call c => (match c.callee, ao with
    | .value (.func f), .cl f' ys => f == f' && okXs c.args.toList ys
    | .value (.func f), .cld f' ys => f == f' && okXs c.args.toList ys
    | .value (.func f), .sbw f' y1 y2 => f == f' && okXs c.args.toList [y1, y2]
    | .value (.func f), .sbs f' y1 => f == f' && okXs c.args.toList [y1]
    | .value x, .cv y ys => okX x y && okXs c.args.toList ys
    | .invoke x m, .inv t f m' y ys => m == m' && okX x y && okXs c.args.toList ys && methOk P t m f
    | _, _ => false)
  | _ => false

section
variable {P : Program} {base : Nat} {w0 : World} {lm0 : Nat → Nat} {N : Nat} {g : Gs} {a : Act} {w : World} {s : St} {o : Oper}

/-- What a call gives that the caller alone has. -/
theorem Sim.calledOwn (S : Sim base w0 lm0 N g a w s) {w' : World} {lm' : Nat → Nat} {u : Value} (hb : Below w.heap.size w w') (hl : ∀ b, b < w.heap.size → lm' b = g.lm b) {e k : Nat} {l : List (List PV)} (hr : RRep w.heap.size w' lm' (.own e k l) u) {id : Nat} (hid : get s.h id = none) (hid2 : id < 1000000) :
    ∃ g', Sim base w0 lm0 N g' a w' ⟨s.t, AM.put s.h id (.row e k false l)⟩ ∧ SRep w' g' (get (AM.put s.h id (.row e k false l))) (.ms id 0 l.length) u := by
  obtain ⟨q1, q2, ⟨xs, q3, q4, q5⟩, q6⟩ := hr
  obtain ⟨S', T'⟩ := S.new (id := id) hid hid2 hb hl (hop := rfl) (v0 := u) (o := .row e k false l) (fun b hb' => by
      rcases q3.2 with ⟨hv, _⟩ | ⟨b', cap, cur, hv, h1, _⟩
      · rw [hv] at hb'; simp [blk] at hb'
      · rw [hv] at hb'; simp [blk] at hb'; omega)
    ⟨q1, q2, ⟨xs, by
      simp only [upd_same]
      refine ⟨q3.1, ?_⟩
      rcases q3.2 with h | ⟨b', cap, cur, hv, h1, h2⟩
      · exact .inl h
      · exact .inr ⟨b', cap, cur, hv, Nat.le_trans S.bw h1, h2⟩, q4, q5⟩, fun b hb' => by simp only [upd_same] at hb'; simpa using q6 b hb'⟩
  refine ⟨⟨lm', upd g.v id u⟩, S', ?_⟩
  have := srep_new_ms (w' := w') (g' := ⟨lm', upd g.v id u⟩) (h' := AM.put s.h id (.row e k false l)) (get_put_same _ _ _) (n := l.length) rfl
  simp only [upd_same] at this
  exact this

/-- What a call leaves in the caller's state. -/
theorem Sim.called (S : Sim base w0 lm0 N g a w s) {w' : World} {lm' : Nat → Nat} {u : Value} {r : Ret} (hb : Below w.heap.size w w') (hl : ∀ b, b < w.heap.size → lm' b = g.lm b) (hr : RRep w.heap.size w' lm' r u) {h0 fr : List (Nat × Ob)} {d : Nat} {e : Eff} (hf : ∀ d, Fz (get h0 d) (get s.h d)) (he : ret1 h0 fr d r = some e) (hs : s.h = putAll h0 fr) :
    ∃ g', Sim base w0 lm0 N g' a w' ⟨s.t, putAll h0 e.hs⟩ ∧ SRep w' g' (get (putAll h0 e.hs)) e.v u := by
  have hext := Ext.of_below hb hl
  cases r with
  | val x =>
    simp only [ret1, Option.some.injEq] at he
    subst he
    refine ⟨⟨lm', g.v⟩, ?_, hr⟩
    have := S.turn (w' := w') (g' := ⟨lm', g.v⟩) (h' := s.h) ⟨hext, fun d o h => .inr ⟨rfl, o, h, Shp.refl _⟩⟩ (hb.mono S.bw) (fun b h => hl b (Nat.lt_of_lt_of_le h S.bw)) (fun d1 o1 h1 => (S.ob d1 o1 h1).keep (fun _ _ => rfl) hext fun hlv x hi b hbk => by
      have := ((S.ob d1 o1 h1).blockI hlv hi hbk).2
      exact ⟨hb.block b this, hl b this⟩) S.lt S.ap
    rw [hs] at this
    exact this
  | own e' k l =>
    simp only [ret1] at he
    cases hid : newId h0 d with
    | none => rw [hid] at he; simp at he
    | some id =>
      rw [hid] at he
      simp only [Option.some.injEq] at he
      subst he
      obtain ⟨g', S', R'⟩ := S.calledOwn hb hl hr (newId_fz hf hid) (newId_lt hid)
      exact ⟨g', by rw [putAll_append, ← hs]; exact S', by rw [putAll_append, ← hs]; exact R'⟩
  | deep e' k l =>
    simp only [ret1] at he
    split at he
    · rename_i hok
      cases hid : newId h0 d with
      | none => rw [hid] at he; simp at he
      | some id =>
        rw [hid] at he
        simp only [Option.some.injEq] at he
        subst he
        obtain ⟨gv, rfl, q1, q2⟩ := hr
        obtain ⟨lm2, X2, L2, O2⟩ := dp_settle q1 hok (by omega) q2
        have hl2 : ∀ b, b < w.heap.size → lm2 b = g.lm b := fun b hb' => by
          refine (L2 b fun x hx hbx => ?_).trans (hl b hb')
          have := (q1.blockI rfl hx hbx).1
          omega
        obtain ⟨g', S', R'⟩ := S.calledOwn (lm' := lm2) hb hl2 (e := e') (k := k) (l := setL l) ⟨O2.1, O2.2.1, O2.2.2.1, fun b hb' => by simpa using O2.2.2.2 b hb'⟩ (newId_fz hf hid) (newId_lt hid)
        have hlen : (setL l).length = l.length := by simp [setL]
        rw [hlen] at R'
        exact ⟨g', by rw [putAll_append, ← hs]; exact S', by rw [putAll_append, ← hs]; exact R'⟩
    · simp at he
  | sb k T e1 => simp [ret1] at he

/-- What a call gives that is kept deep. -/
theorem Sim.calledD (S : Sim base w0 lm0 N g a w s) {w' : World} {lm' : Nat → Nat} {u : Value} {r : Ret} (hb : Below w.heap.size w w') (hl : ∀ b, b < w.heap.size → lm' b = g.lm b) (hr : RRep w.heap.size w' lm' r u) {h0 fr : List (Nat × Ob)} {d : Nat} {e : Eff} (hf : ∀ d, Fz (get h0 d) (get s.h d)) (he : ret1d h0 fr d r = some e) (hs : s.h = putAll h0 fr) :
    ∃ g', Sim base w0 lm0 N g' a w' ⟨s.t, putAll h0 e.hs⟩ ∧ SRep w' g' (get (putAll h0 e.hs)) e.v u := by
  cases r with
  | val x => simp [ret1d] at he
  | own e' k l => simp [ret1d] at he
  | sb k T e1 => simp [ret1d] at he
  | deep e' k l =>
    simp only [ret1d] at he
    cases hid : newId h0 d with
    | none => rw [hid] at he; simp at he
    | some id =>
      rw [hid] at he
      simp only [Option.some.injEq] at he
      subst he
      obtain ⟨gv, rfl, q1, own, q2⟩ := hr
      have hid2 := newId_lt hid
      let v' : Nat → Value := fun x => if x % 1000000 = id then gv (x - id) else g.v x
      have e0 : v' id = gv 0 := by
        show (if id % 1000000 = id then gv (id - id) else g.v id) = gv 0
        rw [if_pos (by omega), Nat.sub_self]
      have ep : ∀ p, v' (nid id p) = gv (nid 0 p) := fun p => by
        show (if nid id p % 1000000 = id then gv (nid id p - id) else g.v (nid id p)) = gv (nid 0 p)
        have h1 : nid id p % 1000000 = id := by unfold nid; omega
        rw [if_pos h1]
        congr 1
        unfold nid; omega
      have back : ∀ {x}, Ids id (.dp e' k l) x → Ids 0 (.dp e' k l) (x - id) ∧ v' x = gv (x - id) ∧ id ≤ x := by
        intro x hi
        rcases hi with rfl | ⟨_, _, _, p, e1, k1, l1, ho, hp, hk, rfl⟩
        · exact ⟨.inl (by omega), by rw [e0, Nat.sub_self], Nat.le_refl _⟩
        · have e2 : nid id p - id = nid 0 p := by unfold nid; omega
          exact ⟨.inr ⟨_, _, _, p, e1, k1, l1, ho, hp, hk, e2⟩, by rw [ep, e2], by unfold nid; omega⟩
      obtain ⟨S', T'⟩ := S.newG (id := id) (newId_fz hf hid) hid2 (w' := w') (lm' := lm') (v' := v') (o := .dp e' k l) hb hl (fun x hx => if_neg hx)
        (fun x b hi hbx => by
          obtain ⟨h1, h2, _⟩ := back hi
          rw [h2] at hbx
          exact (q1.blockI rfl h1 hbx).1)
        ⟨fun b => own b + id, fun x b hi hbx => by
          obtain ⟨h1, h2, h3⟩ := back hi
          rw [h2] at hbx
          have := q2 _ b h1 hbx
          show own b + id = x
          omega⟩
        (dp_shift q1 S.bw e0 ep)
      refine ⟨⟨lm', v'⟩, ?_, ?_⟩
      · rw [putAll_append, ← hs]; exact S'
      · rw [putAll_append, ← hs]
        show SRep w' ⟨lm', v'⟩ (get (AM.put s.h id (.dp e' k l))) (.ms id 0 l.length) (gv 0)
        simp only [SRep, get_put_same]
        exact ⟨by omega, .inl ⟨trivial, trivial, e0.symm⟩⟩

theorem run_callFunc {f : FuncId} (h : Callable P f) (args : Array Value) (w : World) : (callFunc f args).run P w = .ok (.enter f args) w := by
  obtain ⟨fn, h1, h2, h3⟩ := h
  have h2' : ¬ fn.name = "runtime.NumGoroutine" := by simpa using h2
  have h3' : ¬ fn.body = none := by intro h; rw [h] at h3; simp at h3
  simp [callFunc, h1, h2', h3']

theorem run_method {t : TypeId} {m : String} {f : FuncId} (h : methOk P t m f = true) (n : Nat) (v : Value) (w : World) : (method (n + 1) t v m).run P w = .ok (f, v) w := by
  unfold methOk at h
  split at h
  · rename_i i u hi hu
    simp only [Bool.and_eq_true] at h
    obtain ⟨h1, h2⟩ := h
    split at h2
    · rename_i mm hm
      simp only [Bool.and_eq_true] at h2
      obtain ⟨h3, h4⟩ := h2
      split at h4
      · rename_i f' hf
        simp at h4
        subst h4
        have hp : mm.path = #[] := by simpa using h3
        have hinf : (typeInfo t).run P w = .ok i w := by simp [typeInfo, hi]
        simp only [method, Sem.run_bind, hinf, Result.andThen_ok, hm, hp, hf]
        cases u <;> first | (simp at h1; done) | simp [follow, receiverAt, run_underlying hu, Place.get]
      · simp at h4
    · simp at h2
  · simp at h

theorem bytes_cells {lm : Nat → Nat} : ∀ {l : List (List PV)} {bl : List UInt8} {xs : List Value}, sbBytes l = some bl → RepL w lm l.flatten xs → xs = bl.map (fun c => Value.int .u8 c.toNat) ∧ l.length = bl.length
  | [], bl, xs, h, hr => by
    simp only [sbBytes, Option.some.injEq] at h
    subst h
    cases hr
    exact ⟨rfl, rfl⟩
  | y :: ys, bl, xs, h, hr => by
    unfold sbBytes at h
    split at h
    · simp_all
    · rename_i n l heq
      simp only [List.cons.injEq] at heq
      obtain ⟨rfl, rfl⟩ := heq
      split at h
      case isFalse => simp at h
      rename_i hn
      cases hb : sbBytes ys with
      | none => rw [hb] at h; simp at h
      | some b =>
        rw [hb] at h
        simp only [Option.map_some, Option.some.injEq] at h
        subst h
        rw [List.flatten_cons] at hr
        cases hr with
        | cons h1 h2 =>
          rename_i v vs
          obtain ⟨rfl, h4⟩ := bytes_cells hb h2
          have e : ((UInt8.ofNat n.toNat).toNat : Int) = n := by
            rw [UInt8.toNat_ofNat']
            omega
          refine ⟨?_, by simp [h4]⟩
          rw [rep_sc h1, List.map_cons, e]
    · simp at h

/-- A call: what Go enters. -/
theorem call_sound (S : Sim base w0 lm0 N g a w s) {ao : AOp} {call : Call} (hG : Good P call) {d : Nat} {e : Eff} (h : okCall P o.op ao = true) (he : eff call s d ao = some e) {K : Act → World → Prop} {Q : Exit → Act → World → Prop}
    (hK : ∀ g' w' u, Sim base w0 lm0 N g' a w' ⟨s.t, putAll s.h e.hs⟩ → SRep w' g' (get (putAll s.h e.hs)) e.v u → K (a.put o.dst u) w') : o.wp P a w K Q := by
  have fin : ∀ (f : FuncId) (zs : List PV) (us : List Value) (fr : List (Nat × Ob)) (r : Ret) (lm' : Nat → Nat), call f zs = some r → ret1 s.h fr d r = some e → Sim base w0 lm0 N ⟨lm', g.v⟩ a w ⟨s.t, putAll s.h fr⟩ → (∀ d, Fz (get s.h d) (get (putAll s.h fr) d)) → RepL w lm' zs us →
      (execOp a.eval o).run P w = .ok (.enter f us.toArray) w → o.wp P a w K Q := by
    intro f zs us fr r lm' hc hr1 S' hF hrl hrun
    unfold Oper.wp
    rw [hrun, Oper.upon_enter]
    refine ((hG f zs r hc).1.plain (fun k T e1 h => by subst h; simp [ret1] at hr1) w lm' us hrl).mono ?_
    rintro en w' ⟨u, lm2, rfl, hb, hl, hrr⟩
    obtain ⟨g', S2, R2⟩ := S'.called hb hl hrr hF hr1 rfl
    exact hK g' w' u S2 R2
  have finD : ∀ (f : FuncId) (zs : List PV) (us : List Value) (fr : List (Nat × Ob)) (r : Ret) (lm' : Nat → Nat), call f zs = some r → ret1d s.h fr d r = some e → Sim base w0 lm0 N ⟨lm', g.v⟩ a w ⟨s.t, putAll s.h fr⟩ → (∀ d, Fz (get s.h d) (get (putAll s.h fr) d)) → RepL w lm' zs us →
      (execOp a.eval o).run P w = .ok (.enter f us.toArray) w → o.wp P a w K Q := by
    intro f zs us fr r lm' hc hr1 S' hF hrl hrun
    unfold Oper.wp
    rw [hrun, Oper.upon_enter]
    refine ((hG f zs r hc).1.plain (fun k T e1 h => by subst h; simp [ret1d] at hr1) w lm' us hrl).mono ?_
    rintro en w' ⟨u, lm2, rfl, hb, hl, hrr⟩
    obtain ⟨g', S2, R2⟩ := S'.calledD hb hl hrr hF hr1 rfl
    exact hK g' w' u S2 R2
  unfold okCall at h
  split at h
  case h_2 => simp at h
  rename_i c ho
  split at h
  · rename_i f f' ys hcal
    simp only [Bool.and_eq_true, beq_iff_eq] at h
    obtain ⟨rfl, hys⟩ := h
    simp only [eff] at he
    cases hv : evs s ys with
    | none => rw [hv] at he; simp at he
    | some vs =>
      rw [hv] at he
      dsimp only at he
      cases hf : AM.frzs s.h vs with
      | none => rw [hf] at he; simp at he
      | some q =>
        obtain ⟨zs, fr⟩ := q
        rw [hf] at he
        dsimp only at he
        cases hc : call f zs with
        | none => rw [hc] at he; simp at he
        | some r =>
          rw [hc] at he
          obtain ⟨lm', S1, rl, T1, F1⟩ := frzs_sim S (fun d => Fz.refl _) (okXs_sound S hys hv) hf
          refine fin f zs _ fr r lm' hc he S1 F1 rl ?_
          simp [execOp, ho, resolve, hcal, Act.eval, Deferred.ofValue, invoke, run_callFunc (hG f zs r hc).2]
          congr 2
          apply Array.ext'
          simp
  · rename_i f f' ys hcal
    simp only [Bool.and_eq_true, beq_iff_eq] at h
    obtain ⟨rfl, hys⟩ := h
    simp only [eff] at he
    cases hv : evs s ys with
    | none => rw [hv] at he; simp at he
    | some vs =>
      rw [hv] at he
      dsimp only at he
      cases hf : AM.frzs s.h vs with
      | none => rw [hf] at he; simp at he
      | some q =>
        obtain ⟨zs, fr⟩ := q
        rw [hf] at he
        dsimp only at he
        cases hc : call f zs with
        | none => rw [hc] at he; simp at he
        | some r =>
          rw [hc] at he
          obtain ⟨lm', S1, rl, T1, F1⟩ := frzs_sim S (fun d => Fz.refl _) (okXs_sound S hys hv) hf
          refine finD f zs _ fr r lm' hc he S1 F1 rl ?_
          simp [execOp, ho, resolve, hcal, Act.eval, Deferred.ofValue, invoke, run_callFunc (hG f zs r hc).2]
          congr 2
          apply Array.ext'
          simp
  · rename_i f f' y1 y2 hcal
    simp only [Bool.and_eq_true, beq_iff_eq] at h
    obtain ⟨rfl, hys⟩ := h
    simp only [eff] at he
    cases hc : call f [] with
    | none => rw [hc] at he; simp at he
    | some r =>
      rw [hc] at he
      dsimp only at he
      obtain ⟨hcr, hcal2⟩ := hG f [] r hc
      unfold sbwE at he
      split at he
      case h_2 => simp at he
      rename_i kd T e1
      split at he
      case h_2 => simp at he
      rename_i d' i j yv hx hy
      split at he
      case h_2 => simp at he
      rename_i bs hadd
      split at he
      case h_2 => simp at he
      rename_i T' k rr hd
      split at he
      case h_2 => simp at he
      rename_i e2 l hr
      split at he
      case isFalse => simp at he
      rename_i hcond
      obtain ⟨rfl, rfl, rfl, rfl, rfl, hle⟩ := hcond
      obtain rfl := unRow_eq hr
      simp only [Option.some.injEq] at he
      subst he
      have hev : evs s [y1, y2] = some [.mp d' 0 0, .p yv] := by simp only [evs, hx, hy]
      have hsr := okXs_sound S hys hev
      obtain ⟨b, p, v, hv, hbb, hg, hp, hn, hR, hlm⟩ := orep_sb (S.ob d' _ hd)
      obtain ⟨u1, u2, hargs, hu1, hu2⟩ : ∃ u1 u2, c.args.toList.map a.eval = [u1, u2] ∧ SRep w g (get s.h) (.mp d' 0 0) u1 ∧ SRep w g (get s.h) (.p yv) u2 := by
        generalize c.args.toList.map a.eval = us at hsr
        cases hsr with
        | cons h1 h2 => cases h2 with
          | cons h2 h3 => cases h3; exact ⟨_, _, rfl, h1, h2⟩
      simp only [SRep, hd] at hu1
      obtain ⟨b', hb', rfl⟩ := hu1
      rw [hv] at hb'
      simp [blk] at hb'
      subst hb'
      obtain ⟨r1, r2, ⟨xs, r3, r4, r5⟩, r6⟩ := hR
      have r3' := r3
      rw [hn] at r3'
      have hxl : xs.length = l.length := by have := r3'.1; omega
      have hbv : blk v ≠ some b := fun e => by
        obtain ⟨own, hap⟩ := S.ap
        have z1 := hap d' _ d' b hd rfl (.self _ _) (by rw [hv]; rfl)
        have z2 := hap d' _ (nid d' 1) b hd rfl (ids_sb.2 (.inr rfl)) (by rw [hn]; exact e)
        have := nid_ge d' 1
        have := S.lt _ _ hd
        omega
      have hP : SbPut P T' e2 f u2 (bs.map fun c => Value.int .u8 c.toNat) := by
        unfold sbAdd at hadd
        split at hadd
        · split at hadd
          case isFalse => simp at hadd
          rename_i hk1
          subst hk1
          obtain rfl := Option.some.inj hadd
          have hv2 := rep_sc hu2
          subst hv2
          have : SbOK P 1 T' e2 f := hcr
          simp only [SbOK, if_true] at this
          exact this.put _
        · split at hadd
          case isFalse => simp at hadd
          rename_i hk1
          obtain ⟨rfl, r0, r1⟩ := hk1
          obtain rfl := Option.some.inj hadd
          have hv2 := rep_sc hu2
          subst hv2
          have : SbOK P 3 T' e2 f := hcr
          exact SbRune.put (by simpa [SbOK] using this) _ r0 r1
        · simp at hadd
      unfold Oper.wp
      have hrun : (execOp a.eval o).run P w = .ok (.enter f #[.pointer (some ⟨b, 0, none⟩), u2]) w := by
        have e3 : c.args.map a.eval = #[.pointer (some ⟨b, 0, none⟩), u2] := by
          apply Array.ext'
          rw [Array.toList_map, hargs]
        have hf0 : a.eval (.func f) = .func (.func f) #[] #[] := rfl
        simp [execOp, ho, resolve, hcal, hf0, Deferred.ofValue, invoke, run_callFunc hcal2, e3]
      rw [hrun, Oper.upon_enter]
      refine (hP base b p v xs w hbb S.bw hp hg (by rw [hxl]; exact r3') hbv (by rw [hxl, List.length_map]; exact hle)).mono ?_
      rintro en w' ⟨rfl, v', q1, q2, q3, q4, q5⟩
      obtain ⟨g', S2⟩ := S.sbw hd hv hbb hg hn ⟨r1, r2, ⟨xs, r3, r4, r5⟩, r6⟩ hlm r4 r5 q1 (by rw [← hxl]; simpa using q2) q3 q4 q5
      have hres : Rep w' g'.lm (.tu [.sc (.int .i64 bs.length), .sc .nilIface]) (.tuple #[.int .i64 (bs.map fun c => Value.int .u8 c.toNat).length, .nilIface]) := by
        rw [List.length_map]
        exact .tu (vs := [.int .i64 bs.length, .nilIface]) (.cons (.sc _) (.cons (.sc _) .nil))
      exact hK g' w' _ S2 hres
  · rename_i f f' y1 hcal
    simp only [Bool.and_eq_true, beq_iff_eq] at h
    obtain ⟨rfl, hys⟩ := h
    simp only [eff] at he
    cases hc : call f [] with
    | none => rw [hc] at he; simp at he
    | some r =>
      rw [hc] at he
      dsimp only at he
      obtain ⟨hcr, hcal2⟩ := hG f [] r hc
      unfold sbsE at he
      split at he
      case h_2 => simp at he
      rename_i kd T e1
      split at he
      case h_2 => simp at he
      rename_i d' i j hx
      split at he
      case h_2 => simp at he
      rename_i T' k rr hd
      split at he
      case h_2 => simp at he
      rename_i e2 l hr
      split at he
      case isFalse => simp at he
      rename_i hcond
      obtain ⟨rfl, rfl, rfl, rfl, rfl, rfl⟩ := hcond
      obtain rfl := unRow_eq hr
      cases hbl : sbBytes l with
      | none => rw [hbl] at he; simp at he
      | some bl =>
      rw [hbl] at he
      simp only [Option.some.injEq] at he
      subst he
      have hev : evs s [y1] = some [.mp d' 0 0] := by simp only [evs, hx]
      have hsr := okXs_sound S hys hev
      obtain ⟨b, p, v, hv, hbb, hg, hp, hn, hR, hlm⟩ := orep_sb (S.ob d' _ hd)
      obtain ⟨u1, hargs, hu1⟩ : ∃ u1, c.args.toList.map a.eval = [u1] ∧ SRep w g (get s.h) (.mp d' 0 0) u1 := by
        generalize c.args.toList.map a.eval = us at hsr
        cases hsr with
        | cons h1 h2 => cases h2; exact ⟨_, rfl, h1⟩
      simp only [SRep, hd] at hu1
      obtain ⟨b', hb', rfl⟩ := hu1
      rw [hv] at hb'
      simp [blk] at hb'
      subst hb'
      have hR0 := hR
      obtain ⟨r1, r2, ⟨xs, r3, r4, r5⟩, r6⟩ := hR
      have r3' := r3
      rw [hn] at r3'
      obtain ⟨hxs, hll⟩ := bytes_cells hbl r4
      have hbv : blk v ≠ some b := fun e => by
        obtain ⟨own, hap⟩ := S.ap
        have z1 := hap d' _ d' b hd rfl (.self _ _) (by rw [hv]; rfl)
        have z2 := hap d' _ (nid d' 1) b hd rfl (ids_sb.2 (.inr rfl)) (by rw [hn]; exact e)
        have := nid_ge d' 1
        have := S.lt _ _ hd
        omega
      have hW : SbString P T' e2 f := by
        have : SbOK P 2 T' e2 f := hcr
        simpa [SbOK] using this
      unfold Oper.wp
      have hrun : (execOp a.eval o).run P w = .ok (.enter f #[.pointer (some ⟨b, 0, none⟩)]) w := by
        have e3 : c.args.map a.eval = #[.pointer (some ⟨b, 0, none⟩)] := by
          apply Array.ext'
          rw [Array.toList_map, hargs]
        have hf0 : a.eval (.func f) = .func (.func f) #[] #[] := rfl
        simp [execOp, ho, resolve, hcal, hf0, Deferred.ofValue, invoke, run_callFunc hcal2, e3]
      rw [hrun, Oper.upon_enter]
      refine (hW base b p v bl w hbb S.bw hp hg (by rw [← hxs, ← hll]; exact r3') hbv).mono ?_
      rintro en w' ⟨rfl, q4, q5⟩
      have S2 := S.sbs hd hn hR0 q4 q5
      exact hK g w' _ S2 (.sc _)
  · rename_i x y ys hcal
    simp only [Bool.and_eq_true] at h
    obtain ⟨hx, hys⟩ := h
    simp only [eff] at he
    cases hv0 : y.ev s with
    | none => rw [hv0] at he; simp at he
    | some v0 =>
      cases hv : evs s ys with
      | none => rw [hv0, hv] at he; cases v0 <;> simp at he
      | some vs =>
        rw [hv0, hv] at he
        split at he
        · rename_i f cs _ h1 h2
          obtain rfl := Option.some.inj h1
          obtain rfl := Option.some.inj h2
          cases hf : AM.frzs s.h vs with
          | none => rw [hf] at he; simp at he
          | some q =>
            obtain ⟨zs, fr⟩ := q
            rw [hf] at he
            dsimp only at he
            cases hc : call f (zs ++ cs) with
            | none => rw [hc] at he; simp at he
            | some r =>
              rw [hc] at he
              obtain ⟨lm', S1, rl, T1, F1⟩ := frzs_sim S (fun d => Fz.refl _) (okXs_sound S hys hv) hf
              obtain ⟨us, hu, hl⟩ := rep_fn (ev_p S hx hv0)
              refine fin f (zs ++ cs) _ fr r lm' hc he S1 F1 (rl.append (hl.ext T1.ext)) ?_
              simp [execOp, ho, resolve, hcal, hu, Deferred.ofValue, invoke, run_callFunc (hG f (zs ++ cs) r hc).2]
        · simp at he
  · rename_i x m t f m' y ys hcal
    simp only [Bool.and_eq_true, beq_iff_eq] at h
    obtain ⟨⟨⟨rfl, hx⟩, hys⟩, hm⟩ := h
    simp only [eff] at he
    cases hv0 : y.ev s with
    | none => rw [hv0] at he; simp at he
    | some v0 =>
      cases hv : evs s ys with
      | none => rw [hv0, hv] at he; cases v0 <;> simp at he
      | some vs =>
        rw [hv0, hv] at he
        split at he
        · rename_i t' z _ h1 h2
          obtain rfl := Option.some.inj h1
          obtain rfl := Option.some.inj h2
          split at he
          case isFalse => simp at he
          rename_i ht
          subst ht
          cases hf : AM.frzs s.h vs with
          | none => rw [hf] at he; simp at he
          | some q =>
            obtain ⟨zs, fr⟩ := q
            rw [hf] at he
            dsimp only at he
            cases hc : call f (z :: zs) with
            | none => rw [hc] at he; simp at he
            | some r =>
              rw [hc] at he
              obtain ⟨lm', S1, rl, T1, F1⟩ := frzs_sim S (fun d => Fz.refl _) (okXs_sound S hys hv) hf
              obtain ⟨v, hu, hz⟩ := rep_ifc (ev_p S hx hv0)
              refine fin f (z :: zs) _ fr r lm' hc he S1 F1 (.cons (hz.ext T1.ext) rl) ?_
              have hd : P.types.size + Made.depth = (P.types.size + Made.depth - 1) + 1 := by simp [Made.depth]
              have hmm := run_method hm (P.types.size + Made.depth - 1) v w
              rw [← hd] at hmm
              have e0 : (#[Value.iface t' v] ++ Array.map a.eval c.args)[0]? = some (.iface t' v) := by rw [Array.getElem?_append_left (by simp)]; rfl
              simp only [execOp, ho, resolve, hcal, hu, invoke, Sem.run_bind, Sem.run_pure, Result.andThen_ok]
              rw [e0]
              simp only [callMethod, Sem.run_bind, run_program, Result.andThen_ok, hmm, run_callFunc (hG f (z :: zs) r hc).2]
              congr 2
              apply Array.ext'
              simp
              rw [List.take_of_length_le (by simp)]
        · simp at he
  · simp at h
end
end Go.Proofs.Ytihgpnfkadldeaa.AM
