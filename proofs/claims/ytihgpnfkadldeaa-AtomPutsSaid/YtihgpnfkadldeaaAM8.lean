/- The small machine's operations that read, the last ones. No condition. -/
import Derived.Test.YtihgpnfkadldeaaAM7
import Derived.Laws.BytesString
namespace Go.Proofs.Ytihgpnfkadldeaa.AM
open Go Go.RowKit
set_option linter.unusedVariables false
set_option linter.unusedSimpArgs false

section
variable {P : Program} {base : Nat} {w0 : World} {lm0 : Nat → Nat} {N : Nat} {g : Gs} {a : Act} {w : World} {s : St} {o : Oper}

theorem eff_ext (S : Sim base w0 lm0 N g a w s) {x : Operand} {y : X} {i : Nat} {call : Call} {d : Nat} {e : Eff} (ho : o.op = .extract x i) (hx : okX x y = true) (he : eff call s d (.ext y i) = some e) : EffOK P base w0 lm0 N g a w s o e := by
  simp only [eff] at he
  split at he
  · rename_i l hv
    obtain ⟨vs, hu, hl⟩ := rep_tu (ev_p S hx hv)
    cases hc : l[i]? with
    | none => rw [hc] at he; simp at he
    | some c =>
      rw [hc] at he
      simp only [Option.some.injEq] at he
      subst he
      obtain ⟨v, hv, hrep⟩ := hl.get _ _ hc
      exact EffOK.pure S (u := v) (by simp [execOp, ho, hu, Instr.extract, hv]) hrep
  · simp at he

theorem eff_nck (S : Sim base w0 lm0 N g a w s) {x : Operand} {y : X} {call : Call} {d : Nat} {e : Eff} (ho : o.op = .nilCheck x) (hx : okX x y = true) (he : eff call s d (.nck y) = some e) : EffOK P base w0 lm0 N g a w s o e := by
  simp only [eff] at he
  cases hv : y.ev s with
  | none => rw [hv] at he; simp at he
  | some v =>
    rw [hv] at he
    have hr := okX_sound S hx hv
    split at he
    · rename_i l h1
      obtain rfl := Option.some.inj h1
      simp only [Option.some.injEq] at he
      subst he
      obtain ⟨b, of, vs, hu, _⟩ := rep_pt hr
      exact EffOK.pure S (u := a.eval x) (by simp [execOp, ho, hu]) hr
    · rename_i d' i j h1
      obtain rfl := Option.some.inj h1
      cases hd : get s.h d' with
      | none => rw [hd] at he; simp at he
      | some ob =>
        cases ob <;> rw [hd] at he <;> first | (simp at he; done) | skip
        simp only [Option.some.injEq] at he
        subst he
        obtain ⟨_, _, b, xs, hu, _⟩ := S.row hd hr
        exact EffOK.pure S (u := a.eval x) (by simp [execOp, ho, hu]) hr
    · simp at he

theorem eff_mkf (S : Sim base w0 lm0 N g a w s) {f : FuncId} {xs : List Operand} {ys : List X} {call : Call} {d : Nat} {e : Eff} (ho : o.op = .makeFunc (.func f) #[] xs.toArray) (hx : okXs xs ys = true) (he : eff call s d (.mkf f ys) = some e) : EffOK P base w0 lm0 N g a w s o e := by
  simp only [eff] at he
  cases hv : evs s ys with
  | none => rw [hv] at he; simp at he
  | some vs =>
    rw [hv] at he
    dsimp only at he
    cases hf : frzs s.h vs with
    | none => rw [hf] at he; simp at he
    | some q =>
      obtain ⟨zs, fr⟩ := q
      rw [hf] at he
      simp only [Option.some.injEq] at he
      subst he
      refine EffOK.frzs S (okXs_sound S hx hv) hf (u := .func (.func f) #[] (xs.map a.eval).toArray) ?_ (fun lm' h => .fn h)
      simp [execOp, ho, Instr.makeFunc]

theorem eff_mki (S : Sim base w0 lm0 N g a w s) {t : TypeId} {dsc : TypeDesc} {x : Operand} {y : X} {call : Call} {d : Nat} {e : Eff} (ho : o.op = .makeInterface t x) (ht : P.underlying t = some dsc) (hni : ∀ ms, dsc ≠ .interface ms) (hx : okX x y = true) (he : eff call s d (.mki t y) = some e) : EffOK P base w0 lm0 N g a w s o e := by
  simp only [eff] at he
  cases hv : y.ev s with
  | none => rw [hv] at he; simp at he
  | some v =>
    rw [hv] at he
    dsimp only at he
    cases hf : frz s.h v with
    | none => rw [hf] at he; simp at he
    | some q =>
      obtain ⟨z, fr⟩ := q
      rw [hf] at he
      simp only [Option.some.injEq] at he
      subst he
      refine EffOK.frz S (okX_sound S hx hv) hf (u := .iface t (a.eval x)) ?_ (fun lm' h => .ifc h)
      cases dsc <;> first | exact absurd rfl (hni _) | simp [execOp, ho, Instr.makeInterface, run_underlying ht]

/-! ### min, max -/
theorem frzs_cons {h : List (Nat × Ob)} {v : SV} {vs : List SV} {q : List PV × List (Nat × Ob)} (hf : frzs h (v :: vs) = some q) : ∃ x f1 xs f2, frz h v = some (x, f1) ∧ frzs h vs = some (xs, f2) ∧ q = (x :: xs, f1 ++ f2) := by
  simp only [frzs] at hf
  cases h1 : frz h v with
  | none => rw [h1] at hf; simp at hf
  | some q1 =>
    obtain ⟨x, f1⟩ := q1
    rw [h1] at hf
    dsimp only at hf
    cases h2 : frzs h vs with
    | none => rw [h2] at hf; simp at hf
    | some q2 =>
      obtain ⟨xs, f2⟩ := q2
      rw [h2] at hf
      exact ⟨x, f1, xs, f2, rfl, rfl, (Option.some.inj hf).symm⟩

def mm2 (mx : Bool) : Value → Value → Sem Value := if mx then Builtin.max2 else Builtin.min2
theorem run_mm2 {mx : Bool} {x y z : PV} (h : mnmx mx x y = some z) {lm : Nat → Nat} {u v : Value} (hu : Rep w lm x u) (hv : Rep w lm y v) : ∃ r, (mm2 mx u v).run P w = .ok r w ∧ Rep w lm z r := by
  unfold mnmx at h
  split at h
  · simp at h; subst h
    rw [rep_sc hu, rep_sc hv]
    refine ⟨_, ?_, .sc _⟩
    cases mx <;> simp [mm2, Builtin.max2, Builtin.min2]
  · simp at h
theorem run_mms {mx : Bool} {lm : Nat → Nat} : ∀ {l : List PV} {us : List Value} {x z : PV} {u : Value}, mnmxs mx x l = some z → Rep w lm x u → RepL w lm l us → ∃ r, (us.foldlM (mm2 mx) u).run P w = .ok r w ∧ Rep w lm z r
  | [], _, x, z, u, h, hu, .nil => by simp only [mnmxs, Option.some.injEq] at h; subst h; exact ⟨u, by simp, hu⟩
  | y :: l, _, x, z, u, h, hu, .cons (v := v) (vs := vs) hv hl => by
    simp only [mnmxs] at h
    cases h1 : mnmx mx x y with
    | none => rw [h1] at h; simp at h
    | some q =>
      rw [h1] at h
      obtain ⟨r, hr, hrep⟩ := run_mm2 (P := P) h1 hu hv
      obtain ⟨r', hr', hrep'⟩ := run_mms h hrep hl
      exact ⟨r', by simp only [List.foldlM_cons, Sem.run_bind, hr, Result.andThen_ok, hr'], hrep'⟩

theorem eff_mm (S : Sim base w0 lm0 N g a w s) {mx : Bool} {xs : List Operand} {ts : Array TypeId} {ys : List X} {call : Call} {d : Nat} {e : Eff} (ho : o.op = .call { callee := .builtin (if mx then .max else .min), args := xs.toArray, argTypes := ts }) (hx : okXs xs ys = true) (he : eff call s d (.mm mx ys) = some e) : EffOK P base w0 lm0 N g a w s o e := by
  simp only [eff] at he
  cases hv : evs s ys with
  | none => rw [hv] at he; simp at he
  | some vs =>
    rw [hv] at he
    dsimp only at he
    have hr := okXs_sound S hx hv
    split at he
    · rename_i z zs hf
      cases hm : mnmxs mx z zs with
      | none => rw [hm] at he; simp [uns] at he
      | some q =>
        rw [hm] at he
        simp only [uns, Option.some.injEq] at he
        subst he
        obtain ⟨lm', S', r', T', _⟩ := frzs_sim S (fun d => Fz.refl _) hr hf
        cases hxs : xs.map a.eval with
        | nil => rw [hxs] at r'; cases r'
        | cons u us =>
          rw [hxs] at r'
          cases r' with
          | cons h1 h2 =>
            obtain ⟨r, hrun, hrep⟩ := run_mms (P := P) hm h1 h2
            refine ⟨r, w, ⟨lm', g.v⟩, .inl ?_, S', hrep⟩
            cases mx
            · simp only [mm2, Bool.false_eq_true, if_false] at hrun ho
              simp [execOp, ho, resolve, invoke, builtin, hxs, Builtin.min_, hrun]
            · simp only [mm2, if_true] at hrun ho
              simp [execOp, ho, resolve, invoke, builtin, hxs, Builtin.max_, hrun]
    · simp at he

/-! ### == of structs -/
def okFs (P : Program) : Nat → List Nat → List Field → Bool
  | _, [], [] => true
  | i, k :: ks, f :: fs => decide (f.offset = i) && !(f.name == "_") && (match k, P.underlying f.type with | 0, some (.int _) => true | 1, some .bool => true | 2, some .string => true | _, _ => false) && okFs P (i + 1) ks fs
  | _, _, _ => false

theorem eqCells_cons {k : Nat} {ks : List Nat} {l m : List PV} {r : Bool} (h : eqCells (k :: ks) l m = some r) :
    (k = 0 ∧ ∃ kk p l' q m' r', l = .sc (.int kk p) :: l' ∧ m = .sc (.int kk q) :: m' ∧ eqCells ks l' m' = some r' ∧ r = ((p == q) && r')) ∨
    (k = 1 ∧ ∃ p l' q m' r', l = .sc (.bool p) :: l' ∧ m = .sc (.bool q) :: m' ∧ eqCells ks l' m' = some r' ∧ r = ((p == q) && r')) ∨
    (k = 2 ∧ ∃ p l' q m' r', l = .sc (.string p) :: l' ∧ m = .sc (.string q) :: m' ∧ eqCells ks l' m' = some r' ∧ r = ((p == q) && r')) := by
  unfold eqCells at h
  split at h
  · simp_all
  · rename_i heq
    simp only [List.cons.injEq] at heq
    obtain ⟨rfl, rfl⟩ := heq
    split at h
    · rename_i hkk
      subst hkk
      split at h
      · rename_i hm
        simp at h
        exact .inl ⟨rfl, _, _, _, _, _, _, rfl, rfl, hm, h.symm⟩
      · simp at h
    · simp at h
  · rename_i heq
    simp only [List.cons.injEq] at heq
    obtain ⟨rfl, rfl⟩ := heq
    split at h
    · rename_i hm
      simp at h
      exact .inr (.inl ⟨rfl, _, _, _, _, _, rfl, rfl, hm, h.symm⟩)
    · simp at h
  · rename_i heq
    simp only [List.cons.injEq] at heq
    obtain ⟨rfl, rfl⟩ := heq
    split at h
    · rename_i hm
      simp at h
      exact .inr (.inr ⟨rfl, _, _, _, _, _, rfl, rfl, hm, h.symm⟩)
    · simp at h
  · simp at h

theorem run_eqf {d : Nat} {cs cs' : List Value} {lm : Nat → Nat} : ∀ (fs : List Field) (ks : List Nat) (i : Nat) (l m : List PV) (r : Bool), okFs P i ks fs = true → eqCells ks l m = some r → RepL w lm l (cs.drop i) → RepL w lm m (cs'.drop i) → (Op.eqFields (d + 1) cs.toArray cs'.toArray fs).run P w = .ok r w
  | [], [], i, l, m, r, hf, he, h1, h2 => by
    cases l <;> cases m <;> simp [eqCells] at he
    subst he; simp [Op.eqFields]
  | [], _ :: _, i, l, m, r, hf, he, h1, h2 => by simp [okFs] at hf
  | _ :: _, [], i, l, m, r, hf, he, h1, h2 => by simp [okFs] at hf
  | f :: fs, k :: ks, i, l, m, r, hf, he, h1, h2 => by
    simp only [okFs, Bool.and_eq_true, decide_eq_true_eq] at hf
    obtain ⟨⟨⟨hoff, hn⟩, hk⟩, hf⟩ := hf
    have hn' : f.name ≠ "_" := by simpa using hn
    have fin : ∀ x y l' m' b r', l = x :: l' → m = y :: m' → (∀ u v, Rep w lm x u → Rep w lm y v → (Op.equalIn (d + 1) f.type u v).run P w = .ok b w) → eqCells ks l' m' = some r' → r = (b && r') → (∃ q, P.underlying f.type = some q ∧ (∀ fs, q ≠ .struct fs) ∧ ∀ n e, q ≠ .array n e) → (Op.eqFields (d + 1) cs.toArray cs'.toArray (f :: fs)).run P w = .ok r w := by
      rintro x y l' m' b r' rfl rfl hb hm rfl ⟨q, hq, q1, q2⟩
      obtain ⟨u, hu, ru⟩ := h1.get 0 x rfl
      obtain ⟨v, hv, rv⟩ := h2.get 0 y rfl
      rw [List.getElem?_drop, Nat.add_zero] at hu hv
      have t1 : RepL w lm l' (cs.drop (i + 1)) := by simpa using h1.drop 1
      have t2 : RepL w lm m' (cs'.drop (i + 1)) := by simpa using h2.drop 1
      have ha : aggT P f.type = some false := by
        unfold aggT
        rw [hq]
        cases q <;> first | rfl | exact absurd rfl (q1 _) | exact absurd rfl (q2 _ _)
      have p1 := run_part1 (P := P) (w := w) ha hu
      have p2 := run_part1 (P := P) (w := w) ha hv
      have ih := run_eqf (d := d) (cs := cs) (cs' := cs') fs ks (i + 1) l' m' r' hf hm t1 t2
      rw [Op.eqFields, if_pos hn']
      simp only [hoff, Sem.run_bind, p1, p2, hb u v ru rv, Result.andThen_ok]
      cases b
      · simp
      · simpa using ih
    rcases eqCells_cons he with ⟨rfl, kk, p, l', q, m', r', rfl, rfl, hm, rfl⟩ | ⟨rfl, p, l', q, m', r', rfl, rfl, hm, rfl⟩ | ⟨rfl, p, l', q, m', r', rfl, rfl, hm, rfl⟩
    all_goals
      cases hq : P.underlying f.type with
      | none => rw [hq] at hk; simp at hk
      | some z =>
        rw [hq] at hk
        cases z <;> simp at hk
        refine fin _ _ _ _ _ r' rfl rfl (fun u v hu hv => ?_) hm rfl ⟨_, hq, by simp, by simp⟩
        rw [rep_sc hu, rep_sc hv]
        first
          | exact run_equalIn_int w d _ _ _ _ _ hq
          | exact run_equalIn_bool' w d _ _ _ hq
          | (rw [run_equalIn_string w d _ _ _ hq, beq_toListBytes])

theorem eff_eqst (S : Sim base w0 lm0 N g a w s) {ne : Bool} {ks : List Nat} {op : BinOp} (hop : op = if ne then .neq else .eql) {t ty : TypeId} {fs : Array Field} {x1 x2 : Operand} {y1 y2 : X} {call : Call} {d : Nat} {e : Eff} (ho : o.op = .binOp op t x1 x2 ty) (ht : P.underlying t = some (.struct fs)) (hfs : okFs P 0 ks fs.toList = true) (hst : P.stoodInHeld t = false) (hgt : P.eqGuardType P.depth t = false)
    (hx1 : okX x1 y1 = true) (hx2 : okX x2 y2 = true) (he : eff call s d (.eqst ne ks y1 y2) = some e) : EffOK P base w0 lm0 N g a w s o e := by
  simp only [eff] at he
  split at he
  · rename_i l m hv1 hv2
    cases hc : eqCells ks l m with
    | none => rw [hc] at he; simp at he
    | some r =>
      rw [hc] at he
      simp only [Option.some.injEq] at he
      subst he
      obtain ⟨us, hu, hl, _⟩ := rep_st (ev_p S hx1 hv1)
      obtain ⟨vs, hv, hm, _⟩ := rep_st (ev_p S hx2 hv2)
      have hq : (Op.equal t (.agg us.toArray) (.agg vs.toArray)).run P w = .ok r w := by
        have hfo : P.fieldsOf t = fs := by simp [Program.fieldsOf, ht]
        have h1 := run_equalIn_struct (P := P) w 9999 t us.toArray vs.toArray (by rw [hfo]; exact ht) hst
        rw [hfo, run_eqf (d := 9998) fs.toList ks 0 l m r hfs hc hl hm] at h1
        exact h1
      refine EffOK.pure S (u := .bool (if ne then !r else r)) ?_ (.sc _)
      cases ne <;> subst hop <;> simp [execOp, ho, hu, hv, eqGuard, binOp, hq, hgt]
  · simp at he

/-! ### bytes to a string -/
theorem bytes_of {lm : Nat → Nat} : ∀ {ys : List (List PV)} {bs : List UInt8} {vs : List Value}, eff.bytesL ys = some bs → RepL w lm ys.flatten vs → ∃ ns : List Int, vs = ns.map (Value.int .u8) ∧ bs = ns.map fun n => UInt8.ofNat n.toNat
  | [], bs, vs, h, hr => by
    simp only [eff.bytesL, Option.some.injEq] at h
    subst h
    cases hr
    exact ⟨[], rfl, rfl⟩
  | y :: ys, bs, vs, h, hr => by
    unfold eff.bytesL at h
    split at h
    · simp_all
    · rename_i n l heq
      simp only [List.cons.injEq] at heq
      obtain ⟨rfl, rfl⟩ := heq
      cases hb : eff.bytesL ys with
      | none => rw [hb] at h; simp at h
      | some b =>
        rw [hb] at h
        simp at h
        subst h
        rw [List.flatten_cons] at hr
        cases hr with
        | cons h1 h2 =>
          rename_i v vs
          obtain ⟨ns, rfl, rfl⟩ := bytes_of hb h2
          exact ⟨n :: ns, by rw [rep_sc h1]; rfl, rfl⟩
    · simp at h
theorem foldl_push : ∀ (ns : List Int) (l : List UInt8), ns.foldl (fun r n => r.push (UInt8.ofNat n.toNat)) (⟨l.toArray⟩ : ByteArray) = ⟨(l ++ ns.map fun n => UInt8.ofNat n.toNat).toArray⟩
  | [], l => by simp
  | n :: ns, l => by
    have : (⟨l.toArray⟩ : ByteArray).push (UInt8.ofNat n.toNat) = ⟨(l ++ [UInt8.ofNat n.toNat]).toArray⟩ := by
      simp [ByteArray.push]
    rw [List.foldl_cons, this, foldl_push ns]
    simp

/-- A slice's cells, and what they hold. -/
theorem elems_sound (S : Sim base w0 lm0 N g a w s) {v : SV} {u : Value} {k : Nat} {ys : List (List PV)} (hr : SRep w g (get s.h) v u) (he : elems s.h v = some (k, ys)) :
    ∃ ad cap, u = .slice ad ys.length cap ∧ ys.length ≤ cap ∧ (ys = [] ∨ (0 < k ∧ (∀ c ∈ ys, c.length = k) ∧ ∃ b o vs, ad = some ⟨b, o, none⟩ ∧ RepL w g.lm ys.flatten vs ∧ (∀ j u, vs[j]? = some u → w.cell? ⟨b, o + j, none⟩ = some u) ∧ ∀ u ∈ vs, u.oneCell' = true)) := by
  have ofMem : ∀ {b of vs}, Mem w g.lm b of vs → (∀ j u, vs[j]? = some u → w.cell? ⟨b, of + j, none⟩ = some u) ∧ ∀ u ∈ vs, u.oneCell' = true := by
    intro b of vs hm
    refine ⟨fun j u h => (hm j u h).1, fun u hu => ?_⟩
    obtain ⟨j, hj, e⟩ := List.getElem_of_mem hu
    exact (hm j u (by rw [List.getElem?_eq_getElem hj, e])).2.2
  cases v with
  | p z =>
    cases z with
    | sl k' l =>
      simp only [elems, Option.some.injEq, Prod.mk.injEq] at he
      obtain ⟨rfl, rfl⟩ := he
      obtain ⟨ad, cap, hu, hc, hl⟩ := rep_sl hr
      refine ⟨ad, cap, hu, hc, ?_⟩
      rcases hl with h | ⟨h0, hk, b, of, vs, e, hrl, hm⟩
      · exact .inl h
      · exact .inr ⟨h0, hk, b, of, vs, e, hrl, (ofMem hm).1, (ofMem hm).2⟩
    | _ => simp [elems] at he
  | xs k' l =>
    simp only [elems, Option.some.injEq, Prod.mk.injEq] at he
    obtain ⟨rfl, rfl⟩ := he
    obtain ⟨ad, hu, h0, hk, hl⟩ := hr
    refine ⟨ad, _, hu, Nat.le_refl _, ?_⟩
    rcases hl with h | ⟨b, of, vs, e, hrl, hm⟩
    · exact .inl h
    · exact .inr ⟨h0, hk, b, of, vs, e, hrl, (ofMem hm).1, (ofMem hm).2⟩
  | ms d off len =>
    simp only [elems] at he
    cases hd : get s.h d with
    | none => rw [hd] at he; simp at he
    | some ob =>
      cases ob <;> rw [hd] at he <;> first | (simp at he; done) | skip
      rename_i e' k' fz l
      dsimp only at he
      split at he
      case isFalse => simp at he
      rename_i hle
      simp only [Option.some.injEq, Prod.mk.injEq] at he
      obtain ⟨rfl, rfl⟩ := he
      have hll := take_drop_len l hle
      obtain ⟨ad, cap, hu, hc⟩ := svLen_sound S hr (n := len) (by simp [svLen, hd])
      refine ⟨ad, cap, by rw [hll]; exact hu, by rw [hll]; exact hc, ?_⟩
      obtain ⟨h0, hk, ⟨xs, h3, h4, h5⟩, h6⟩ := S.ob d _ hd
      by_cases hz : len = 0
      · left; subst hz; simp
      · right
        have hb : ∃ b, blk (g.v d) = some b ∧ ad = some ⟨b, off * k', none⟩ := by
          simp only [SRep, hd] at hr
          obtain ⟨_, hr⟩ := hr
          rcases hr with ⟨rfl, rfl, hu'⟩ | ⟨_, ad', cap', hu', _, hz'⟩
          · rcases h3.2 with ⟨hv0, h0'⟩ | ⟨b, cap'', cur, hv0, _⟩
            · omega
            · rw [hu, hv0] at hu'
              simp only [Value.slice.injEq] at hu'
              exact ⟨b, by rw [hv0]; rfl, by rw [hu'.1]; simp⟩
          · rw [hu] at hu'
            simp only [Value.slice.injEq] at hu'
            rcases hz' with hz' | ⟨b, hb, e⟩
            · exact absurd hz' hz
            · exact ⟨b, hb, by rw [hu'.1]; exact e⟩
        obtain ⟨b, hb, had⟩ := hb
        have hfl : ((l.drop off).take len).flatten = (l.flatten.drop (off * k')).take (len * k') := by
          rw [flatten_drop off hk, flatten_take len (fun c hc => hk c (List.mem_of_mem_drop hc))]
        have hrl := (h4.drop (off * k')).take (len * k')
        rw [← hfl] at hrl
        refine ⟨h0, fun c hc => hk c (List.mem_of_mem_drop (List.mem_of_mem_take hc)), b, _, _, had, hrl, fun j u hu => ?_, fun u hu => h5 u (List.mem_of_mem_drop (List.mem_of_mem_take hu))⟩
        rw [List.getElem?_take] at hu
        split at hu
        · rw [List.getElem?_drop] at hu; exact own_cells h3 hb hu
        · simp at hu
  | mp _ _ _ => simp [elems] at he

theorem eff_b2s (S : Sim base w0 lm0 N g a w s) {t1 t2 el : TypeId} {x : Operand} {y : X} {call : Call} {d : Nat} {e : Eff} (ho : o.op = .convert t1 t2 x) (h1 : P.underlying t1 = some (.slice el)) (h2 : P.underlying t2 = some .string) (h3 : P.underlying el = some (.int .u8)) (hx : okX x y = true)
    (he : eff call s d (.b2s y) = some e) : EffOK P base w0 lm0 N g a w s o e := by
  simp only [eff] at he
  cases hv : y.ev s with
  | none => rw [hv] at he; simp at he
  | some v =>
    rw [hv] at he
    dsimp only at he
    cases hel : elems s.h v with
    | none => rw [hel] at he; simp at he
    | some q =>
      obtain ⟨k, ys⟩ := q
      rw [hel] at he
      dsimp only at he
      simp only [eff.bytesOf] at he
      cases hb : eff.bytesL ys with
      | none => rw [hb] at he; simp at he
      | some bs =>
        rw [hb] at he
        simp at he
        subst he
        obtain ⟨ad, cap, hu, hc, hl⟩ := elems_sound S (okX_sound S hx hv) hel
        have hrun : ∀ (r : ByteArray), (Conv.bytesToString (a.eval x)).run P w = .ok (.string r) w → (execOp a.eval o).run P w = .ok (.value (.string r)) w := by
          intro r hr
          rw [hu] at hr
          simp [execOp, ho, hu, convert, run_underlying h1, run_underlying h2, run_underlying h3, hr]
        rcases hl with rfl | ⟨h0, hk, b, of, vs, rfl, hrl, hm, h5⟩
        · simp [eff.bytesL] at hb
          subst hb
          refine EffOK.pure S (u := .string ⟨#[]⟩) (hrun _ ?_) (.sc _)
          rw [hu]
          cases ad with
          | none => rfl
          | some ad => exact run_bytesToString w ad 0 cap [] rfl
        · obtain ⟨ns, rfl, rfl⟩ := bytes_of hb hrl
          have hlen : ns.length = ys.length := by
            have h6 := hrl.length
            rw [flatten_len hk] at h6
            simp at h6
            cases ys with
            | nil => simp at h6; simp [← h6]
            | cons z ys =>
              have hk1 : k = 1 := by
                unfold eff.bytesL at hb
                split at hb
                · simp_all
                · rename_i heq
                  simp only [List.cons.injEq] at heq
                  obtain ⟨rfl, rfl⟩ := heq
                  exact (hk _ (List.mem_cons_self ..)).symm
                · simp at hb
              subst hk1
              simpa using h6.symm
          refine EffOK.pure S (u := .string ⟨(ns.map fun (n : Int) => UInt8.ofNat n.toNat).toArray⟩) (hrun _ ?_) (.sc _)
          rw [hu]
          have h7 := run_loadCells_list (P := P) w ⟨b, of, none⟩ (ns.map (Value.int .u8)) (fun j v h => by rw [add_n]; exact hm j v h)
          rw [List.length_map, hlen] at h7
          rw [run_bytesToString (P := P) w ⟨b, of, none⟩ ys.length cap ns h7]
          have h8 := foldl_push ns []
          simp only [List.nil_append] at h8
          rw [← h8]
          rfl
end
end Go.Proofs.Ytihgpnfkadldeaa.AM
