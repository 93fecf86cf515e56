/- The small machine's operations that read, continued. No condition. -/
import Derived.Test.YtihgpnfkadldeaaAM5
import Derived.Laws.StructEq
namespace Go.Proofs.Ytihgpnfkadldeaa.AM
open Go Go.RowKit
set_option linter.unusedVariables false
set_option linter.unusedSimpArgs false

section
variable {P : Program} {base : Nat} {w0 : World} {lm0 : Nat → Nat} {N : Nat} {g : Gs} {a : Act} {w : World} {s : St} {o : Oper}

theorem eff_ldk (S : Sim base w0 lm0 N g a w s) {t : TypeId} {x : Operand} {y : X} {k : Nat} {e : Eff} {call : Call} {d : Nat} (ho : o.op = .load t x) (ha : aggT P t = some true) (hk : P.cellsOf t = k) (h0 : 0 < k) (hx : okX x y = true)
    (he : eff call s d (.ldk k y) = some e) : EffOK P base w0 lm0 N g a w s o e := by
  simp only [eff] at he
  cases hv : y.ev s with
  | none => rw [hv] at he; simp at he
  | some v =>
    rw [hv] at he
    have hr := okX_sound S hx hv
    cases v with
    | p z =>
      cases z with
      | pt l =>
        dsimp only at he
        split at he
        · rename_i hle
          simp only [Option.some.injEq] at he
          subst he
          obtain ⟨b, of, vs, hu, hl, hm⟩ := rep_pt hr
          have hlen := hl.length
          have hm' := hm.take k
          refine EffOK.pure S (u := .agg (vs.take k).toArray) ?_ (.st (hl.take k) fun u hu => ?_)
          · have := run_loadk (P := P) (w := w) ha hk h0 (b := b) (o := of) (vs := vs.take k) (by simp; omega) (fun j u hu => (hm' j u hu).1)
            simp [execOp, ho, hu, this]
          · obtain ⟨j, hj, e⟩ := List.getElem_of_mem hu
            exact (hm' j u (by rw [List.getElem?_eq_getElem hj, e])).2.2
        · simp at he
      | _ => simp at he
    | mp d' i j =>
      dsimp only at he
      cases hd : get s.h d' with
      | none => rw [hd] at he; simp at he
      | some ob =>
        cases ob <;> rw [hd] at he <;> first | (simp at he; done) | skip
        rename_i e' k' fz l
        dsimp only at he
        cases hc : l[i]? with
        | none => rw [hc] at he; simp at he
        | some c =>
          rw [hc] at he
          dsimp only at he
          split at he
          · rename_i hle
            simp only [Option.some.injEq] at he
            subst he
            obtain ⟨h0', hk', b, xs, hu, hb, hown, hrl, h1⟩ := S.row hd hr
            have hil : i < l.length := (List.getElem?_eq_some_iff.1 hc).1
            have hck : c.length = k' := hk' c (List.mem_of_getElem? hc)
            have e1 : (l.flatten.drop (i * k' + j)).take k = (c.drop j).take k := by
              rw [← List.drop_drop, flatten_drop i hk']
              have : l.drop i = c :: l.drop (i + 1) := by
                rw [List.drop_eq_getElem_cons hil]
                congr 1
                simpa [List.getElem?_eq_getElem hil] using hc
              rw [this, List.flatten_cons, List.drop_append_of_le_length (by omega), List.take_append_of_le_length (by simp; omega)]
            have hrl' := (hrl.drop (i * k' + j)).take k
            rw [e1] at hrl'
            have hlen := hrl'.length
            rw [List.length_take, List.length_drop, Nat.min_eq_left (by omega)] at hlen
            refine EffOK.pure S (u := .agg ((xs.drop (i * k' + j)).take k).toArray) ?_ (.st hrl' fun u hu => h1 u (List.mem_of_mem_drop (List.mem_of_mem_take hu)))
            have := run_loadk (P := P) (w := w) ha hk h0 (b := b) (o := i * k' + j) (vs := (xs.drop (i * k' + j)).take k) hlen.symm (fun q u hu => own_cells hown hb (by
              rw [List.getElem?_take] at hu
              split at hu
              · rw [List.getElem?_drop] at hu; exact hu
              · simp at hu))
            simp [execOp, ho, hu, this]
          · simp at he
    | _ => simp at he

theorem ev_p {y : X} {x : PV} (S : Sim base w0 lm0 N g a w s) {z : Operand} (h : okX z y = true) (hv : y.ev s = some (.p x)) : Rep w g.lm x (a.eval z) := okX_sound S h hv

/-! ### scalars -/
theorem eff_un (S : Sim base w0 lm0 N g a w s) {op op' : UnOp} {t : TypeId} {x : Operand} {y : X} {z r : PV} (ho : o.op = .unOp op t x) (hop : op = op') (hx : okX x y = true) (hv : y.ev s = some (.p z)) (hr : sop1 (.un op') z = some r) :
    EffOK P base w0 lm0 N g a w s o ⟨.p r, []⟩ := by
  subst hop
  have hrep := ev_p S hx hv
  simp only [sop1, unS] at hr
  split at hr
  · cases op <;> simp at hr
    subst hr
    exact EffOK.pure S (u := .bool _) (by simp [execOp, ho, rep_sc hrep, Op.unary]) (.sc _)
  · cases op <;> simp at hr
    subst hr
    exact EffOK.pure S (u := .int _ _) (by simp [execOp, ho, rep_sc hrep, Op.unary, Op.intArith]) (.sc _)
  · simp at hr

theorem eff_cv (S : Sim base w0 lm0 N g a w s) {t1 t2 : TypeId} {d1 : TypeDesc} {k : IntKind} {x : Operand} {y : X} {z r : PV} (ho : o.op = .convert t1 t2 x) (h1 : P.underlying t1 = some d1) (h2 : P.underlying t2 = some (.int k)) (hx : okX x y = true) (hv : y.ev s = some (.p z)) (hr : sop1 (.cv k) z = some r) :
    EffOK P base w0 lm0 N g a w s o ⟨.p r, []⟩ := by
  have hrep := ev_p S hx hv
  simp only [sop1] at hr
  split at hr
  · rename_i k' n
    simp at hr; subst hr
    refine EffOK.pure S (u := .int k (k.wrap n)) ?_ (.sc _)
    simp [execOp, ho, rep_sc hrep, convert, run_underlying h1, run_underlying h2, Conv.intToInt]
  · simp at hr
theorem eff_i2s (S : Sim base w0 lm0 N g a w s) {t1 t2 : TypeId} {d1 : TypeDesc} {x : Operand} {y : X} {z r : PV} (ho : o.op = .convert t1 t2 x) (h1 : P.underlying t1 = some d1) (h2 : P.underlying t2 = some .string) (hx : okX x y = true) (hv : y.ev s = some (.p z)) (hr : sop1 .i2s z = some r) :
    EffOK P base w0 lm0 N g a w s o ⟨.p r, []⟩ := by
  have hrep := ev_p S hx hv
  simp only [sop1] at hr
  split at hr
  · rename_i k' n
    simp at hr; subst hr
    refine EffOK.pure S (u := .string (Utf8.encode n)) ?_ (.sc _)
    simp [execOp, ho, rep_sc hrep, convert, run_underlying h1, run_underlying h2, Conv.intToString]
  · simp at hr
theorem eff_s2s (S : Sim base w0 lm0 N g a w s) {t1 t2 : TypeId} {d1 : TypeDesc} {x : Operand} {y : X} {z r : PV} (ho : o.op = .convert t1 t2 x) (h1 : P.underlying t1 = some d1) (h2 : P.underlying t2 = some .string) (hx : okX x y = true) (hv : y.ev s = some (.p z)) (hr : sop1 .s2s z = some r) :
    EffOK P base w0 lm0 N g a w s o ⟨.p r, []⟩ := by
  have hrep := ev_p S hx hv
  simp only [sop1] at hr
  split at hr
  · rename_i n
    simp at hr; subst hr
    refine EffOK.pure S (u := .string n) ?_ (.sc _)
    simp [execOp, ho, rep_sc hrep, convert, run_underlying h1, run_underlying h2]
  · simp at hr

theorem eff_bin (S : Sim base w0 lm0 N g a w s) {op : BinOp} {t ty : TypeId} {x1 x2 : Operand} {y1 y2 : X} {z1 z2 r : PV} (ho : o.op = .binOp op t x1 x2 ty) (hx1 : okX x1 y1 = true) (hx2 : okX x2 y2 = true) (hv1 : y1.ev s = some (.p z1)) (hv2 : y2.ev s = some (.p z2)) (hr : sop2 (.bin op) z1 z2 = some r) :
    EffOK P base w0 lm0 N g a w s o ⟨.p r, []⟩ := by
  have r1 := ev_p S hx1 hv1
  have r2 := ev_p S hx2 hv2
  simp only [sop2, binS] at hr
  split at hr
  · rename_i k m k' n
    have e1 := rep_sc r1
    have e2 := rep_sc r2
    have fin : ∀ u : Value, r = .sc u → (binOp op t (.int k m) (.int k' n)).run P w = .ok u w → EffOK P base w0 lm0 N g a w s o ⟨.p r, []⟩ := by
      rintro u rfl hrun
      refine EffOK.pure S (u := u) ?_ (.sc _)
      have hg : (eqGuard op t x1 x2 (.int k m) (.int k' n)).run P w = .ok () w := by
        unfold eqGuard
        cases op <;> simp
      simp [execOp, ho, e1, e2, hg, hrun]
    cases op <;> dsimp only at hr
    case shl => split at hr <;> simp at hr; subst hr; rename_i h; exact fin _ rfl (by simp [binOp, Op.shift, h])
    case shr => split at hr <;> simp at hr; subst hr; rename_i h; exact fin _ rfl (by simp [binOp, Op.shift, h])
    all_goals
      split at hr
      · rename_i h
        subst h
        first
          | (simp at hr; subst hr; exact fin _ rfl (by simp [binOp, Op.intArith, Op.intCmp, Op.intBits]))
          | (split at hr
             · simp at hr
             · rename_i h0; simp at hr; subst hr; exact fin _ rfl (by simp [binOp, Op.intDiv, h0]))
      · simp at hr
  · rename_i p q
    have e1 := rep_sc r1
    have e2 := rep_sc r2
    have fin : ∀ u : Value, r = .sc u → (binOp op t (.string p) (.string q)).run P w = .ok u w → EffOK P base w0 lm0 N g a w s o ⟨.p r, []⟩ := by
      rintro u rfl hrun
      refine EffOK.pure S (u := u) ?_ (.sc _)
      have hg : (eqGuard op t x1 x2 (.string p) (.string q)).run P w = .ok () w := by
        unfold eqGuard
        cases op <;> simp
      simp [execOp, ho, e1, e2, hg, hrun]
    cases op <;> dsimp only at hr <;> first | (simp at hr; done) | skip
    · split at hr
      · rename_i h
        simp at hr; subst hr
        have h' : ¬ (((p.size + q.size : Nat) : Int) > IntKind.i64.max) := by
          have : IntKind.i64.max = 9223372036854775807 := rfl
          rw [this]; omega
        refine fin _ rfl ?_
        simp only [binOp, Op.stringOp]
        rw [if_neg h']
        simp
      · simp at hr
    · simp at hr; subst hr; exact fin _ rfl (by simp [binOp, Op.stringOp])
    · simp at hr; subst hr; exact fin _ rfl (by simp [binOp, Op.stringOp])
  · simp at hr

theorem eff_idx (S : Sim base w0 lm0 N g a w s) {t : TypeId} {x1 x2 : Operand} {y1 y2 : X} {z1 z2 r : PV} (ho : o.op = .index t x1 x2) (ht : P.underlying t = some .string) (hx1 : okX x1 y1 = true) (hx2 : okX x2 y2 = true) (hv1 : y1.ev s = some (.p z1)) (hv2 : y2.ev s = some (.p z2)) (hr : sop2 .idx z1 z2 = some r) :
    EffOK P base w0 lm0 N g a w s o ⟨.p r, []⟩ := by
  have r1 := ev_p S hx1 hv1
  have r2 := ev_p S hx2 hv2
  simp only [sop2] at hr
  split at hr
  · rename_i st k i
    have e1 := rep_sc r1
    have e2 := rep_sc r2
    simp only [bt?] at hr
    by_cases h0 : 0 ≤ i
    · rw [if_pos h0] at hr
      cases hb : st[i.toNat]? with
      | none => rw [hb] at hr; simp at hr
      | some b =>
        rw [hb] at hr
        simp at hr; subst hr
        refine EffOK.pure S (u := .int .u8 b.toNat) ?_ (.sc _)
        simp [execOp, ho, e1, e2, Instr.index, asIntOf, run_underlying ht, h0, hb]
    · rw [if_neg h0] at hr; simp at hr
  · simp at hr

theorem run_eq_bool {t : TypeId} (ht : P.underlying t = some .bool) (p q : Bool) : (Op.equal t (.bool p) (.bool q)).run P w = .ok (p == q) w := by
  have : ∀ n, (Op.equalIn (n + 1) t (.bool p) (.bool q)).run P w = .ok (p == q) w := fun n => by simp [Op.equalIn, run_underlying ht]
  exact this 9999
theorem eff_beq (S : Sim base w0 lm0 N g a w s) {ne : Bool} {op : BinOp} (hop : op = if ne then .neq else .eql) {t ty : TypeId} {x1 x2 : Operand} {y1 y2 : X} {z1 z2 r : PV} (ho : o.op = .binOp op t x1 x2 ty) (ht : P.underlying t = some .bool) (hx1 : okX x1 y1 = true) (hx2 : okX x2 y2 = true) (hv1 : y1.ev s = some (.p z1)) (hv2 : y2.ev s = some (.p z2)) (hr : sop2 (.beq ne) z1 z2 = some r) :
    EffOK P base w0 lm0 N g a w s o ⟨.p r, []⟩ := by
  have r1 := ev_p S hx1 hv1
  have r2 := ev_p S hx2 hv2
  simp only [sop2] at hr
  split at hr
  · rename_i p q
    have e1 := rep_sc r1
    have e2 := rep_sc r2
    simp at hr; subst hr
    have hq : (Op.equal t (.bool p) (.bool q)).run P w = .ok (p == q) w := run_eq_bool ht p q
    refine EffOK.pure S (u := .bool (if ne then !(p == q) else p == q)) ?_ (.sc _)
    cases ne <;> subst hop <;> simp [execOp, ho, e1, e2, eqGuard, binOp, hq]
  · simp at hr

theorem run_eq_ptr {t e : TypeId} (ht : P.underlying t = some (.pointer e)) (ad : Option Addr) : (Op.equal t (.pointer ad) (.pointer none)).run P w = .ok ad.isNone w := by
  have : ∀ n, (Op.equalIn (n + 1) t (.pointer ad) (.pointer none)).run P w = .ok ad.isNone w := fun n => by cases ad <;> simp [Op.equalIn, run_underlying ht]
  exact this 9999
theorem eff_peq (S : Sim base w0 lm0 N g a w s) {ne : Bool} {op : BinOp} (hop : op = if ne then .neq else .eql) {t ty e : TypeId} {x1 x2 : Operand} {y1 y2 : X} {call : Call} {d : Nat} {r : Eff} (ho : o.op = .binOp op t x1 x2 ty) (ht : P.underlying t = some (.pointer e)) (hx1 : okX x1 y1 = true) (hx2 : okX x2 y2 = true) (hr : eff call s d (.s2 (.peq ne) y1 y2) = some r) :
    EffOK P base w0 lm0 N g a w s o r := by
  have key : ∀ (ad : Option Addr), a.eval x1 = .pointer ad → a.eval x2 = .pointer none → r = ⟨.p (.sc (.bool (if ne then !ad.isNone else ad.isNone))), []⟩ → EffOK P base w0 lm0 N g a w s o r := by
    rintro ad e1 e2 rfl
    have hq := run_eq_ptr (P := P) (w := w) ht ad
    refine EffOK.pure S (u := .bool (if ne then !ad.isNone else ad.isNone)) ?_ (.sc _)
    cases ne <;> subst hop <;> simp [execOp, ho, e1, e2, eqGuard, binOp, hq]
  simp only [eff] at hr
  cases hv1 : y1.ev s with
  | none => rw [hv1] at hr; simp at hr
  | some v1 =>
    cases hv2 : y2.ev s with
    | none => rw [hv1, hv2] at hr; cases v1 <;> simp at hr
    | some v2 =>
      have r1 := okX_sound S hx1 hv1
      have r2 := okX_sound S hx2 hv2
      rw [hv1, hv2] at hr
      split at hr
      · rename_i z1 z2 h1 h2
        obtain rfl := Option.some.inj h1
        obtain rfl := Option.some.inj h2
        simp only [sop2] at hr
        split at hr
        · obtain ⟨b, of, vs, hu, _⟩ := rep_pt r1
          simp [uns] at hr
          exact key _ hu (rep_sc r2) (by rw [← hr]; cases ne <;> rfl)
        · simp [uns] at hr
          exact key none (rep_sc r1) (rep_sc r2) (by rw [← hr]; cases ne <;> rfl)
        · simp [uns] at hr
      · rename_i d' i j h1 h2
        obtain rfl := Option.some.inj h1
        obtain rfl := Option.some.inj h2
        try dsimp only at hr
        cases hd : get s.h d' with
        | none => rw [hd] at hr; simp at hr
        | some ob =>
          cases ob <;> rw [hd] at hr <;> first | (simp at hr; done) | skip
          simp at hr
          obtain ⟨_, _, b, xs, hu, _⟩ := S.row hd r1
          exact key _ hu (rep_sc r2) (by rw [← hr]; cases ne <;> rfl)
      · simp at hr

/-! ### parts of structs -/
theorem run_part1 {t : TypeId} (h : aggT P t = some false) {cs : List Value} {off : Nat} {u : Value} (hu : cs[off]? = some u) : (part t cs.toArray off).run P w = .ok u w := by
  simp [part, run_isAgg h, hu]
theorem run_partk {t : TypeId} (h : aggT P t = some true) {k : Nat} (hk : P.cellsOf t = k) (h0 : 0 < k) {cs : List Value} {off : Nat} : (part t cs.toArray off).run P w = .ok (.agg ((cs.drop off).take k).toArray) w := by
  simp only [part, Sem.run_bind, run_isAgg h, Result.andThen_ok, if_true, run_sizeOf hk h0, Sem.run_pure]
  congr 2
  apply Array.ext'
  simp [List.extract_eq_take_drop]

theorem eff_fld1 (S : Sim base w0 lm0 N g a w s) {t : TypeId} {fs : Array Field} {i : Nat} {f : Field} {x : Operand} {y : X} {off : Nat} {call : Call} {d : Nat} {e : Eff} (ho : o.op = .field t x i) (ht : P.underlying t = some (.struct fs)) (hf : fs[i]? = some f) (hoff : f.offset = off) (ha : aggT P f.type = some false) (hx : okX x y = true)
    (he : eff call s d (.fld1 y off) = some e) : EffOK P base w0 lm0 N g a w s o e := by
  simp only [eff] at he
  cases hv : y.ev s with
  | none => rw [hv] at he; simp at he
  | some v =>
    rw [hv] at he
    have hr := okX_sound S hx hv
    split at he
    · rename_i l h1
      obtain rfl := Option.some.inj h1
      obtain ⟨vs, hu, hl, h1⟩ := rep_st hr
      cases hc : l[off]? with
      | none => rw [hc] at he; simp at he
      | some c =>
        rw [hc] at he
        simp only [Option.some.injEq] at he
        subst he
        obtain ⟨u, hu2, hrep⟩ := hl.get _ _ hc
        refine EffOK.pure S (u := u) ?_ hrep
        simp [execOp, ho, hu, Instr.field, run_underlying ht, hf, asAgg, hoff, run_part1 ha hu2]
    · simp at he
theorem eff_fldk (S : Sim base w0 lm0 N g a w s) {t : TypeId} {fs : Array Field} {i : Nat} {f : Field} {x : Operand} {y : X} {off k : Nat} {call : Call} {d : Nat} {e : Eff} (ho : o.op = .field t x i) (ht : P.underlying t = some (.struct fs)) (hf : fs[i]? = some f) (hoff : f.offset = off) (ha : aggT P f.type = some true) (hk : P.cellsOf f.type = k) (h0 : 0 < k) (hx : okX x y = true)
    (he : eff call s d (.fldk y off k) = some e) : EffOK P base w0 lm0 N g a w s o e := by
  simp only [eff] at he
  cases hv : y.ev s with
  | none => rw [hv] at he; simp at he
  | some v =>
    rw [hv] at he
    have hr := okX_sound S hx hv
    split at he
    · rename_i l h1
      obtain rfl := Option.some.inj h1
      obtain ⟨vs, hu, hl, h1⟩ := rep_st hr
      split at he
      · simp only [Option.some.injEq] at he
        subst he
        refine EffOK.pure S (u := .agg ((vs.drop off).take k).toArray) ?_ (.st ((hl.drop off).take k) fun u hu => h1 u (List.mem_of_mem_drop (List.mem_of_mem_take hu)))
        simp [execOp, ho, hu, Instr.field, run_underlying ht, hf, asAgg, hoff, run_partk ha hk h0]
      · simp at he
    · simp at he

/-! ### addresses -/
theorem run_fieldPlace {f : Field} (h : 0 < P.cellsOf f.type) (b of : Nat) : (fieldPlace ⟨b, of, none⟩ f).run P w = .ok ⟨b, of + f.offset, none⟩ w := by
  have := run_sizeOf (P := P) rfl h w
  simp only [fieldPlace, Sem.run_bind, this, Result.andThen_ok]
  rw [if_neg (by omega)]
  simp [add_n]
theorem eff_fa (S : Sim base w0 lm0 N g a w s) {t : TypeId} {fs : Array Field} {i : Nat} {f : Field} {x : Operand} {y : X} {off : Nat} {call : Call} {d : Nat} {e : Eff} (ho : o.op = .fieldAddr t x i) (ht : P.underlying t = some (.struct fs)) (hf : fs[i]? = some f) (hoff : f.offset = off) (h0 : 0 < P.cellsOf f.type) (hx : okX x y = true)
    (he : eff call s d (.fa y off) = some e) : EffOK P base w0 lm0 N g a w s o e := by
  have hrun : ∀ b of, a.eval x = .pointer (some ⟨b, of, none⟩) → (execOp a.eval o).run P w = .ok (.value (.pointer (some ⟨b, of + off, none⟩))) w := by
    intro b of hu
    simp [execOp, ho, hu, Instr.fieldAt, run_underlying ht, hf, Instr.sureAddr, run_fieldPlace h0, hoff]
  simp only [eff] at he
  cases hv : y.ev s with
  | none => rw [hv] at he; simp at he
  | some v =>
    rw [hv] at he
    have hr := okX_sound S hx hv
    split at he
    · rename_i l h1
      obtain rfl := Option.some.inj h1
      obtain ⟨b, of, vs, hu, hl, hm⟩ := rep_pt hr
      split at he
      · simp only [Option.some.injEq] at he
        subst he
        exact EffOK.pure S (hrun b of hu) (Rep.pt (hl.drop off) (hm.drop off))
      · simp at he
    · rename_i d' i' j h1
      obtain rfl := Option.some.inj h1
      try dsimp only at he
      cases hd : get s.h d' with
      | none => rw [hd] at he; simp at he
      | some ob =>
        cases ob <;> rw [hd] at he <;> first | (simp at he; done) | skip
        simp only [Option.some.injEq] at he
        subst he
        obtain ⟨_, _, b, xs, hu, hb, _⟩ := S.row hd hr
        refine EffOK.pure S (hrun b _ hu) ?_
        simp only [SRep, hd]
        exact ⟨b, hb, by rw [Nat.add_assoc]⟩
    · simp at he

theorem natOf_sound (S : Sim base w0 lm0 N g a w s) {z : Operand} {y : X} {v : SV} {n : Nat} (h : okX z y = true) (hv : y.ev s = some v) (hn : natOf v = some n) : ∃ k, a.eval z = .int k (n : Int) := by
  have hr := okX_sound S h hv
  unfold natOf at hn
  split at hn
  · split at hn
    · simp at hn; subst hn
      exact ⟨_, by rw [rep_sc hr]; congr 1; omega⟩
    · simp at hn
  · simp at hn

theorem eff_ia (S : Sim base w0 lm0 N g a w s) {t el : TypeId} {x i : Operand} {y j : X} {k : Nat} {call : Call} {d : Nat} {e : Eff} (ho : o.op = .indexAddr t x i) (ht : P.underlying t = some (.slice el)) (hk : P.cellsOf el = k) (h0 : 0 < k) (hx : okX x y = true) (hi : okX i j = true)
    (he : eff call s d (.ia k y j) = some e) : EffOK P base w0 lm0 N g a w s o e := by
  simp only [eff] at he
  cases hv : y.ev s with
  | none => rw [hv] at he; simp at he
  | some v =>
    cases hw : j.ev s with
    | none => rw [hv, hw] at he; simp at he
    | some u =>
      rw [hv, hw] at he
      dsimp only at he
      cases hn : natOf u with
      | none => rw [hn] at he; simp at he
      | some n =>
        rw [hn] at he
        dsimp only at he
        obtain ⟨ki, hi'⟩ := natOf_sound S hi hw hn
        have hr := okX_sound S hx hv
        have hrun : ∀ b of len cap, a.eval x = .slice (some ⟨b, of, none⟩) len cap → n < len → (execOp a.eval o).run P w = .ok (.value (.pointer (some ⟨b, of + n * k, none⟩))) w := by
          intro b of len cap hu hlt
          have h1 : (0 : Int) ≤ (n : Int) ∧ (n : Int) < (len : Int) := by omega
          simp [execOp, ho, hu, hi', Instr.indexAt, run_underlying ht, asIntOf, h1, run_sizeOf hk h0, add_n, hlt]
        have plain : ∀ (l : List (List PV)) (u : Value), u = a.eval x → (∃ ad cap, u = .slice ad l.length cap ∧ (l = [] ∨ (0 < k ∧ (∀ c ∈ l, c.length = k) ∧ ∃ b o vs, ad = some ⟨b, o, none⟩ ∧ RepL w g.lm l.flatten vs ∧ Mem w g.lm b o vs))) → (match l[n]? with | some c => some (⟨.p (.pt c), []⟩ : Eff) | none => none) = some e → EffOK P base w0 lm0 N g a w s o e := by
          rintro l _ rfl ⟨ad, cap, hu, hl⟩ he
          cases hc : l[n]? with
          | none => rw [hc] at he; simp at he
          | some c =>
            rw [hc] at he
            simp only [Option.some.injEq] at he
            subst he
            have hlt : n < l.length := (List.getElem?_eq_some_iff.1 hc).1
            rcases hl with rfl | ⟨_, hk', b, of, vs, rfl, hrl, hm⟩
            · simp at hlt
            · refine EffOK.pure S (hrun b of _ cap hu hlt) ?_
              have hck : c.length = k := hk' c (List.mem_of_getElem? hc)
              have e1 : (l.flatten.drop (n * k)).take k = c := by
                rw [flatten_drop n hk']
                have : l.drop n = c :: l.drop (n + 1) := by
                  rw [List.drop_eq_getElem_cons hlt]
                  congr 1
                  simpa [List.getElem?_eq_getElem hlt] using hc
                rw [this, List.flatten_cons, List.take_append_of_le_length (by omega), List.take_of_length_le (by omega)]
              have hrl' := (hrl.drop (n * k)).take k
              rw [e1] at hrl'
              exact Rep.pt hrl' ((hm.drop (n * k)).take k)
        cases v with
        | p z =>
          cases z with
          | sl k' l =>
            dsimp only at he
            split at he
            · rename_i hkk
              subst hkk
              obtain ⟨ad, cap, hu, _, hl⟩ := rep_sl hr
              exact plain l _ rfl ⟨ad, cap, hu, hl⟩ he
            · simp at he
          | _ => simp at he
        | xs k' l =>
          dsimp only at he
          split at he
          · rename_i hkk
            subst hkk
            obtain ⟨ad, hu, h2, h3, h4⟩ := hr
            exact plain l _ rfl ⟨ad, _, hu, h4.imp id fun ⟨b, o, vs, q⟩ => ⟨h2, h3, b, o, vs, q⟩⟩ he
          · simp at he
        | ms d' off len =>
          dsimp only at he
          cases hd : get s.h d' with
          | none => rw [hd] at he; simp at he
          | some ob =>
            cases ob <;> rw [hd] at he <;> first | (simp at he; done) | skip
            rename_i e' k' fz l
            dsimp only at he
            split at he
            · rename_i hc
              obtain ⟨rfl, hlt⟩ := hc
              simp only [Option.some.injEq] at he
              subst he
              simp only [SRep, hd] at hr
              obtain ⟨hle, hr⟩ := hr
              obtain ⟨h1, h2, ⟨xs, h3, h4, h5⟩, h6⟩ := S.ob d' _ hd
              have hb : ∃ b cap, blk (g.v d') = some b ∧ a.eval x = .slice (some ⟨b, off * k', none⟩) len cap := by
                rcases hr with ⟨rfl, rfl, hu⟩ | ⟨_, ad, cap, hu, _, hz⟩
                · rcases h3.2 with ⟨hv0, h0'⟩ | ⟨b, cap, cur, hv0, _⟩
                  · omega
                  · exact ⟨b, cap, by rw [hv0]; rfl, by rw [hu, hv0]; simp⟩
                · rcases hz with hz | ⟨b, hb, rfl⟩
                  · omega
                  · exact ⟨b, cap, hb, hu⟩
              obtain ⟨b, cap, hb, hu⟩ := hb
              refine EffOK.pure S (hrun b _ _ cap hu hlt) ?_
              simp only [SRep, hd]
              exact ⟨b, hb, by rw [Nat.add_mul, Nat.add_zero]⟩
            · simp at he
        | mp _ _ _ => simp at he

theorem eff_aa (S : Sim base w0 lm0 N g a w s) {t el : TypeId} {x i : Operand} {y j : X} {k m : Nat} {call : Call} {d : Nat} {e : Eff} (ho : o.op = .indexAddr t x i) (ht : P.underlying t = some (.array m el)) (hk : P.cellsOf el = k) (h0 : 0 < k) (hx : okX x y = true) (hi : okX i j = true)
    (he : eff call s d (.aa k m y j) = some e) : EffOK P base w0 lm0 N g a w s o e := by
  simp only [eff] at he
  cases hv : y.ev s with
  | none => rw [hv] at he; simp at he
  | some v =>
    cases hw : j.ev s with
    | none => rw [hv, hw] at he; cases v <;> simp at he
    | some u =>
      rw [hv, hw] at he
      have hr := okX_sound S hx hv
      cases v with
      | mp d' i' j' =>
        dsimp only at he
        cases hn : natOf u with
        | none => rw [hn] at he; simp at he
        | some n =>
          rw [hn] at he
          dsimp only at he
          cases hd : get s.h d' with
          | none => rw [hd] at he; simp at he
          | some ob =>
            cases ob <;> rw [hd] at he <;> first | (simp at he; done) | skip
            rename_i e' k' fz l
            dsimp only at he
            split at he
            · rename_i hc
              obtain ⟨rfl, hlt, rfl, rfl⟩ := hc
              simp only [Option.some.injEq] at he
              subst he
              obtain ⟨ki, hi'⟩ := natOf_sound S hi hw hn
              obtain ⟨_, _, b, xs, hu, hb, _⟩ := S.row hd hr
              have h1 : (0 : Int) ≤ (n : Int) ∧ (n : Int) < (m : Int) := by omega
              refine EffOK.pure S (u := .pointer (some ⟨b, n * k', none⟩)) ?_ ?_
              · simp [execOp, ho, hu, hi', Instr.indexAt, run_underlying ht, asIntOf, h1, Instr.sureAddr, run_sizeOf hk h0, add_n, hlt]
              · simp only [SRep, hd]
                exact ⟨b, hb, by simp⟩
            · simp at he
      | _ => simp at he

theorem eff_ixa (S : Sim base w0 lm0 N g a w s) {t el : TypeId} {m : Nat} {x i : Operand} {y j : X} {k : Nat} {call : Call} {d : Nat} {e : Eff} (ho : o.op = .index t x i) (ht : P.underlying t = some (.array m el)) (ha : aggT P el = some true) (hk : P.cellsOf el = k) (h0 : 0 < k) (hx : okX x y = true) (hi : okX i j = true)
    (he : eff call s d (.ixa k m y j) = some e) : EffOK P base w0 lm0 N g a w s o e := by
  simp only [eff] at he
  split at he
  · rename_i l v hv hw
    split at he
    · rename_i n hn
      split at he
      · rename_i hc
        simp only [Option.some.injEq] at he
        subst he
        obtain ⟨vs, hu, hl, h1⟩ := rep_st (okX_sound S hx hv)
        obtain ⟨ki, hi'⟩ := natOf_sound S hi hw hn
        refine EffOK.pure S (u := .agg ((vs.drop (n * k)).take k).toArray) ?_ (.st ((hl.drop (n * k)).take k) fun u hu => h1 u (List.mem_of_mem_drop (List.mem_of_mem_take hu)))
        have hlt : (0 : Int) ≤ (n : Int) ∧ (n : Int) < (m : Int) := by omega
        simp [execOp, ho, hu, hi', Instr.index, asIntOf, run_underlying ht, hc.1, run_sizeOf hk h0, run_partk ha hk h0]
      · simp at he
    · simp at he
  · simp at he
end
end Go.Proofs.Ytihgpnfkadldeaa.AM
