/- The small machine's operations that read, continued. No condition. -/
import Derived.Test.YtihgpnfkadldeaaAM6
namespace Go.Proofs.Ytihgpnfkadldeaa.AM
open Go Go.RowKit
set_option linter.unusedVariables false
set_option linter.unusedSimpArgs false

def okO : Option Operand → Option X → Bool
  | none, none => true
  | some x, some y => okX x y
  | _, _ => false

section
variable {P : Program} {base : Nat} {w0 : World} {lm0 : Nat → Nat} {N : Nat} {g : Gs} {a : Act} {w : World} {s : St} {o : Oper}

/-- A slice's value. -/
theorem svLen_sound (S : Sim base w0 lm0 N g a w s) {v : SV} {u : Value} {n : Nat} (hr : SRep w g (get s.h) v u) (hn : svLen s.h v = some n) : ∃ ad cap, u = .slice ad n cap ∧ n ≤ cap := by
  unfold svLen at hn
  split at hn
  · simp at hn; subst hn
    obtain ⟨ad, cap, hu, hc, _⟩ := rep_sl hr
    exact ⟨ad, cap, hu, hc⟩
  · simp at hn; subst hn
    obtain ⟨ad, hu, _⟩ := hr
    exact ⟨ad, _, hu, Nat.le_refl _⟩
  · rename_i d off len
    split at hn
    · rename_i e k fz l hd
      simp at hn; subst hn
      simp only [SRep, hd] at hr
      obtain ⟨hle, hr⟩ := hr
      rcases hr with ⟨rfl, rfl, hu⟩ | ⟨_, ad, cap, hu, hc, _⟩
      · obtain ⟨_, _, ⟨xs, h3, _⟩, _⟩ := S.ob d _ hd
        rcases h3.2 with ⟨hv, h0⟩ | ⟨b, cap, cur, hv, _, _, hc, _⟩
        · exact ⟨none, 0, by rw [hu, hv, h0], by omega⟩
        · exact ⟨_, cap, by rw [hu, hv], hc⟩
      · exact ⟨ad, cap, hu, hc⟩
    · simp at hn
  · simp at hn

theorem eff_len (S : Sim base w0 lm0 N g a w s) {t el : TypeId} {x : Operand} {y : X} {call : Call} {d : Nat} {e : Eff} (ho : o.op = .call { callee := .builtin .len, args := #[x], argTypes := #[t] })
    (ht : P.underlying t = some (.slice el)) (hx : okX x y = true) (he : eff call s d (.len y) = some e) : EffOK P base w0 lm0 N g a w s o e := by
  simp only [eff] at he
  cases hv : y.ev s with
  | none => rw [hv] at he; simp at he
  | some v =>
    rw [hv] at he
    dsimp only at he
    cases hn : svLen s.h v with
    | none => rw [hn] at he; simp at he
    | some n =>
      rw [hn] at he
      simp only [Option.some.injEq] at he
      subst he
      obtain ⟨ad, cap, hu, hc⟩ := svLen_sound S (okX_sound S hx hv) hn
      exact EffOK.pure S (u := .int .i64 n) (by simp [execOp, ho, hu, resolve, invoke, builtin, Builtin.len_, run_underlying ht, goInt]) (.sc _)
theorem eff_lens (S : Sim base w0 lm0 N g a w s) {t : TypeId} {x : Operand} {y : X} {call : Call} {d : Nat} {e : Eff} (ho : o.op = .call { callee := .builtin .len, args := #[x], argTypes := #[t] })
    (ht : P.underlying t = some .string) (hx : okX x y = true) (he : eff call s d (.lens y) = some e) : EffOK P base w0 lm0 N g a w s o e := by
  simp only [eff] at he
  split at he
  · rename_i st hv
    simp only [Option.some.injEq] at he
    subst he
    have hu := rep_sc (ev_p S hx hv)
    exact EffOK.pure S (u := .int .i64 st.size) (by simp [execOp, ho, hu, resolve, invoke, builtin, Builtin.len_, run_underlying ht, goInt]) (.sc _)
  · simp at he

/-! ### slicing -/
theorem run_sliceBound {v : Value} {k : IntKind} {n y : Nat} (hv : v = .int k (n : Int)) (h : n ≤ y) (code : BoundsCode) : (Instr.sliceBound v y code).run P w = .ok n w := by
  have h1 : (0 : Int) ≤ (n : Int) ∧ (n : Int) ≤ (y : Int) := by omega
  simp [Instr.sliceBound, asIntOf, hv, h]
theorem natOr_sound (S : Sim base w0 lm0 N g a w s) {z : Option Operand} {y : Option X} {d n : Nat} (h : okO z y = true) (hn : natOr s d y = some n) : (z = none ∧ n = d) ∨ ∃ x k, z = some x ∧ a.eval x = .int k (n : Int) := by
  cases z <;> cases y <;> simp only [okO] at h <;> first | (simp at h; done) | skip
  · simp [natOr] at hn; exact .inl ⟨rfl, hn.symm⟩
  · rename_i x y
    simp only [natOr] at hn
    cases hv : y.ev s with
    | none => rw [hv] at hn; simp at hn
    | some v =>
      rw [hv] at hn
      obtain ⟨k, hk⟩ := natOf_sound S h hv hn
      exact .inr ⟨x, k, rfl, hk⟩

/-- s[lo:hi] -/
theorem run_bounds2 {lo hi : Option Operand} {cap len x y : Nat} {b : Bool} (hl : (lo = none ∧ x = 0) ∨ ∃ z k, lo = some z ∧ a.eval z = .int k (x : Int)) (hh : (hi = none ∧ y = len) ∨ ∃ z k, hi = some z ∧ a.eval z = .int k (y : Int)) (h1 : x ≤ y) (h2 : y ≤ len) (h3 : len ≤ cap) :
    (Instr.sliceBounds b len cap (lo.map a.eval) (hi.map a.eval) none).run P w = .ok (x, y, cap) w := by
  rcases hl with ⟨rfl, rfl⟩ | ⟨z, k, rfl, hz⟩ <;> rcases hh with ⟨rfl, rfl⟩ | ⟨z', k', rfl, hz'⟩
  · simp [Instr.sliceBounds]
  · simp [Instr.sliceBounds, run_sliceBound hz' (show y ≤ cap by omega)]
  · simp [Instr.sliceBounds, run_sliceBound hz h1]
  · simp [Instr.sliceBounds, run_sliceBound hz' (show y ≤ cap by omega), run_sliceBound hz h1]
/-- s[lo:hi:mx] -/
theorem run_bounds3 {lo hi mx : Option Operand} {cap len x y : Nat} (hl : (lo = none ∧ x = 0) ∨ ∃ z k, lo = some z ∧ a.eval z = .int k (x : Int)) (hh : ∃ z k, hi = some z ∧ a.eval z = .int k (y : Int)) (hm : ∃ z k, mx = some z ∧ a.eval z = .int k (y : Int)) (h1 : x ≤ y) (h3 : y ≤ cap) :
    (Instr.sliceBounds true len cap (lo.map a.eval) (hi.map a.eval) (mx.map a.eval)).run P w = .ok (x, y, y) w := by
  obtain ⟨z, k, rfl, hz⟩ := hh
  obtain ⟨z', k', rfl, hz'⟩ := hm
  rcases hl with ⟨rfl, rfl⟩ | ⟨z'', k'', rfl, hz''⟩
  · simp [Instr.sliceBounds, run_sliceBound hz h3, run_sliceBound hz' h3, run_sliceBound hz (Nat.le_refl y), run_sliceBound hz' (Nat.le_refl y)]
  · simp [Instr.sliceBounds, run_sliceBound hz h3, run_sliceBound hz' h3, run_sliceBound hz (Nat.le_refl y), run_sliceBound hz' (Nat.le_refl y), run_sliceBound hz'' h1]

theorem eff_sls (S : Sim base w0 lm0 N g a w s) {t : TypeId} {x : Operand} {lo hi : Option Operand} {y : X} {lo' hi' : Option X} {call : Call} {d : Nat} {e : Eff} (ho : o.op = .slice t x lo hi none)
    (ht : P.underlying t = some .string) (hx : okX x y = true) (hlo : okO lo lo' = true) (hhi : okO hi hi' = true) (he : eff call s d (.sls y lo' hi') = some e) : EffOK P base w0 lm0 N g a w s o e := by
  simp only [eff] at he
  split at he
  · rename_i st hv
    cases hn : natOr s 0 lo' with
    | none => rw [hn] at he; simp at he
    | some p =>
      cases hm : natOr s st.size hi' with
      | none => rw [hn, hm] at he; simp at he
      | some q =>
        rw [hn, hm] at he
        dsimp only at he
        split at he
        · rename_i hc
          simp only [Option.some.injEq] at he
          subst he
          have hu := rep_sc (ev_p S hx hv)
          have hb := run_bounds2 (P := P) (w := w) (b := false) (cap := st.size) (natOr_sound S hlo hn) (natOr_sound S hhi hm) hc.1 hc.2 (Nat.le_refl _)
          exact EffOK.pure S (u := .string (st.extract p q)) (by simp [execOp, ho, hu, Instr.sliceAt, Instr.slice, run_underlying ht, hb]) (.sc _)
        · simp at he
  · simp at he

theorem run_slice {t el : TypeId} {k : Nat} (ht : P.underlying t = some (.slice el)) (hk : P.cellsOf el = k) (h0 : 0 < k) {ad : Option Addr} {len cap x y m : Nat} {lo hi mx : Option Value} (hb : (Instr.sliceBounds true len cap lo hi mx).run P w = .ok (x, y, m) w) :
    (Instr.sliceAt t (.slice ad len cap) lo hi mx).run P w = .ok (.slice (if m = x then ad else ad.map (·.add (x * k))) (y - x) (m - x)) w := by
  simp [Instr.sliceAt, Instr.slice, run_underlying ht, hb, run_sizeOf hk h0]

theorem rep_part {lm : Nat → Nat} {k : Nat} {l : List (List PV)} {ad : Option Addr} {p q m : Nat} (hl : l = [] ∨ (0 < k ∧ (∀ c ∈ l, c.length = k) ∧ ∃ b o vs, ad = some ⟨b, o, none⟩ ∧ RepL w lm l.flatten vs ∧ Mem w lm b o vs)) (h1 : p ≤ q) (h2 : q ≤ l.length) (h3 : q ≤ m) :
    Rep w lm (.sl k ((l.drop p).take (q - p))) (.slice (if m = p then ad else ad.map (·.add (p * k))) (q - p) (m - p)) := by
  by_cases h0 : q - p = 0
  · rw [h0, List.take_zero]; exact .sl0
  · rcases hl with rfl | ⟨hk0, hk, b, of, vs, rfl, hrl, hm⟩
    · simp at h2; omega
    · rw [if_neg (by omega)]
      simp only [Option.map_some, add_n]
      have hkk : ∀ c ∈ (l.drop p).take (q - p), c.length = k := fun c hc => hk c (List.mem_of_mem_drop (List.mem_of_mem_take hc))
      have hfl : ((l.drop p).take (q - p)).flatten = (l.flatten.drop (p * k)).take ((q - p) * k) := by
        rw [flatten_drop p hk, flatten_take (q - p) (fun c hc => hk c (List.mem_of_mem_drop hc))]
      have hll : ((l.drop p).take (q - p)).length = q - p := by simp; omega
      have hr := (hrl.drop (p * k)).take ((q - p) * k)
      rw [← hfl] at hr
      have := Rep.sl (w := w) (lm := lm) (cap := m - p) hk0 hkk hr ((hm.drop (p * k)).take ((q - p) * k)) (by rw [hll]; omega)
      rwa [hll] at this

theorem eff_slc (S : Sim base w0 lm0 N g a w s) {t el : TypeId} {k : Nat} {x : Operand} {lo hi mx : Option Operand} {y : X} {lo' hi' mx' : Option X} {call : Call} {d : Nat} {e : Eff} (ho : o.op = .slice t x lo hi mx)
    (ht : P.underlying t = some (.slice el)) (hk : P.cellsOf el = k) (h0 : 0 < k) (hx : okX x y = true) (hlo : okO lo lo' = true) (hhi : okO hi hi' = true) (hmx : okO mx mx' = true) (hmh : mx.isSome = true → hi.isSome = true)
    (he : eff call s d (.slc k y lo' hi' mx') = some e) : EffOK P base w0 lm0 N g a w s o e := by
  simp only [eff] at he
  cases hv : y.ev s with
  | none => rw [hv] at he; simp at he
  | some v =>
    rw [hv] at he
    dsimp only at he
    cases hn : svLen s.h v with
    | none => rw [hn] at he; simp at he
    | some n =>
      rw [hn] at he
      dsimp only at he
      cases hp : natOr s 0 lo' with
      | none => rw [hp] at he; simp at he
      | some p =>
        cases hq : natOr s n hi' with
        | none => rw [hp, hq] at he; simp at he
        | some q =>
          rw [hp, hq] at he
          dsimp only at he
          split at he
          case isFalse => simp at he
          rename_i hc
          obtain ⟨h1, h2⟩ := hc
          have hr := okX_sound S hx hv
          obtain ⟨ad, cap, hu, hcap⟩ := svLen_sound S hr hn
          have np := natOr_sound S hlo hp
          have nq := natOr_sound S hhi hq
          cases mx' with
          | none =>
            have hmx0 : mx = none := by cases mx <;> simp_all [okO]
            subst hmx0
            have hb := run_bounds2 (P := P) (w := w) (b := true) np nq h1 h2 hcap
            have hrun : (execOp a.eval o).run P w = .ok (.value (.slice (if cap = p then ad else ad.map (·.add (p * k))) (q - p) (cap - p))) w := by
              have := run_slice (P := P) (w := w) ht hk h0 (ad := ad) hb
              simp only [execOp, ho, hu, Option.map_none, Sem.run_bind, this, Result.andThen_ok, Sem.run_pure]
            cases v with
            | p z =>
              cases z with
              | sl k' l =>
                dsimp only at he
                split at he
                · rename_i hkk
                  subst hkk
                  simp only [Option.some.injEq] at he
                  subst he
                  obtain ⟨ad', cap', hu', _, hl⟩ := rep_sl hr
                  rw [hu] at hu'
                  simp only [Value.slice.injEq] at hu'
                  obtain ⟨rfl, rfl, rfl⟩ := hu'
                  exact EffOK.pure S hrun (rep_part hl h1 h2 (by omega))
                · simp at he
              | _ => simp at he
            | xs k' l =>
              dsimp only at he
              split at he
              · rename_i hkk
                subst hkk
                simp only [Option.some.injEq] at he
                subst he
                obtain ⟨ad', hu', h3, h4, h5⟩ := hr
                rw [hu] at hu'
                simp only [Value.slice.injEq] at hu'
                obtain ⟨rfl, rfl, rfl⟩ := hu'
                exact EffOK.pure S hrun (rep_part (h5.imp id fun ⟨b, o, vs, q⟩ => ⟨h3, h4, b, o, vs, q⟩) h1 h2 (by omega))
              · simp at he
            | ms d' off len =>
              dsimp only at he
              cases hd : get s.h d' with
              | none => rw [hd] at he; simp at he
              | some ob =>
                cases ob <;> rw [hd] at he <;> first | (simp at he; done) | skip
                rename_i e' k' fz l
                dsimp only at he
                split at he
                · rename_i hkk
                  subst hkk
                  simp only [Option.some.injEq] at he
                  subst he
                  have hnl : n = len := by simp [svLen, hd] at hn; exact hn.symm
                  subst hnl
                  refine EffOK.pure S hrun ?_
                  simp only [SRep, hd] at hr ⊢
                  obtain ⟨hle, hr⟩ := hr
                  refine ⟨by omega, ?_⟩
                  obtain ⟨_, _, ⟨xs, h3, _⟩, _⟩ := S.ob d' _ hd
                  by_cases hfull : off + p = 0 ∧ q - p = l.length
                  · obtain ⟨h5, h6⟩ := hfull
                    have hoff : off = 0 := by omega
                    have hp0 : p = 0 := by omega
                    have hnl : n = l.length := by omega
                    subst hoff; subst hp0
                    rcases hr with ⟨_, _, hu'⟩ | ⟨hno, _⟩
                    · refine .inl ⟨rfl, h6, ?_⟩
                      rw [← hu', hu]
                      have : q = n := by omega
                      subst this
                      cases ad <;> simp [add_n, Addr.add]
                    · exact absurd ⟨rfl, hnl⟩ hno
                  · refine .inr ⟨hfull, _, _, rfl, by omega, ?_⟩
                    by_cases hz : q - p = 0
                    · exact .inl hz
                    · right
                      rw [if_neg (by omega)]
                      rcases hr with ⟨rfl, rfl, hu'⟩ | ⟨_, ad', cap', hu', _, hz'⟩
                      · rcases h3.2 with ⟨hv0, h0'⟩ | ⟨b, cap'', cur, hv0, _⟩
                        · omega
                        · rw [hu, hv0] at hu'
                          simp only [Value.slice.injEq] at hu'
                          obtain ⟨rfl, _, _⟩ := hu'
                          exact ⟨b, by rw [hv0]; rfl, by simp [add_n]⟩
                      · rw [hu] at hu'
                        simp only [Value.slice.injEq] at hu'
                        obtain ⟨rfl, _, _⟩ := hu'
                        rcases hz' with hz' | ⟨b, hb', rfl⟩
                        · omega
                        · exact ⟨b, hb', by simp [add_n, Nat.add_mul]⟩
                · simp at he
            | mp _ _ _ => simp at he
          | some m =>
            dsimp only at he
            cases hm : natOr s 0 (some m) with
            | none => rw [hm] at he; simp at he
            | some c =>
              rw [hm] at he
              dsimp only at he
              split at he
              case isFalse => simp at he
              rename_i hcb
              subst hcb
              cases hf : frz s.h v with
              | none => rw [hf] at he; simp at he
              | some z =>
                obtain ⟨z, fr⟩ := z
                rw [hf] at he
                cases z <;> dsimp only at he <;> first | (simp at he; done) | skip
                rename_i k' l
                split at he
                case isFalse => simp at he
                rename_i hkk
                subst hkk
                simp only [Option.some.injEq] at he
                subst he
                have hmx1 : ∃ z kk, mx = some z ∧ a.eval z = .int kk (c : Int) := by
                  rcases natOr_sound S hmx hm with ⟨h, h'⟩ | h
                  · subst h; simp [okO] at hmx
                  · exact h
                have hhi1 : ∃ z kk, hi = some z ∧ a.eval z = .int kk (c : Int) := by
                  rcases nq with ⟨h, h'⟩ | h
                  · obtain ⟨z, _, hz, _⟩ := hmx1
                    subst h; subst hz; simp at hmh
                  · exact h
                have hb := run_bounds3 (P := P) (w := w) (len := n) (cap := cap) np hhi1 hmx1 h1 (by omega)
                have hrun : (execOp a.eval o).run P w = .ok (.value (.slice (if c = p then ad else ad.map (·.add (p * k'))) (c - p) (c - p))) w := by
                  have := run_slice (P := P) (w := w) ht hk h0 (ad := ad) hb
                  simp only [execOp, ho, hu, Sem.run_bind, this, Result.andThen_ok, Sem.run_pure]
                obtain ⟨lm', S', r', T', _⟩ := frz_sim S (fun d => Fz.refl _) hr hf
                refine ⟨_, w, ⟨lm', g.v⟩, .inl hrun, S', ?_⟩
                obtain ⟨ad', cap', hu', _, hl⟩ := rep_sl r'
                rw [hu] at hu'
                simp only [Value.slice.injEq] at hu'
                obtain ⟨rfl, rfl, rfl⟩ := hu'
                have hrep := rep_part (p := p) (q := c) (m := c) hl h1 h2 (Nat.le_refl _)
                have hll : ((l.drop p).take (c - p)).length = c - p := by simp; omega
                obtain ⟨ad2, cap2, hu2, _, hl2⟩ := rep_sl hrep
                rw [hll] at hu2
                simp only [Value.slice.injEq] at hu2
                obtain ⟨h7, _, _⟩ := hu2
                refine ⟨ad2, ?_, h0, ?_, ?_⟩
                · rw [hll, h7]
                · intro x hx
                  rcases hl2 with h | ⟨_, h, _⟩
                  · rw [h] at hx; simp at hx
                  · exact h x hx
                · exact hl2.imp id fun ⟨_, _, h⟩ => h
end
end Go.Proofs.Ytihgpnfkadldeaa.AM
