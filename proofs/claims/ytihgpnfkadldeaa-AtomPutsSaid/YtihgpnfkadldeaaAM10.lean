/- The small machine's operations that write. No condition. -/
import Derived.Test.YtihgpnfkadldeaaAM9
import Derived.Lib.AppendStr
import Derived.Lib.OthersKept
import Derived.Laws.RangeString
namespace Go.Proofs.Ytihgpnfkadldeaa.AM
open Go Go.RowKit
set_option linter.unusedVariables false
set_option linter.unusedSimpArgs false

section
variable {P : Program} {base : Nat} {w0 : World} {lm0 : Nat → Nat} {N : Nat} {g : Gs} {a : Act} {w : World} {s : St} {o : Oper}

theorem flatten_set {k : Nat} : ∀ {l : List (List PV)} {i : Nat} {c : List PV}, (∀ c ∈ l, c.length = k) → i < l.length → (l.set i c).flatten = l.flatten.take (i * k) ++ c ++ l.flatten.drop (i * k + k)
  | [], i, c, _, h => by simp at h
  | x :: l, 0, c, hk, h => by
    have hx := hk x (by simp)
    simp only [List.set_cons_zero, List.flatten_cons, Nat.zero_mul, List.take_zero, List.nil_append, Nat.zero_add]
    rw [show k = x.length from hx.symm, List.drop_left]
  | x :: l, i + 1, c, hk, h => by
    have hx := hk x (by simp)
    have ih := flatten_set (l := l) (i := i) (c := c) (fun c hc => hk c (by simp [hc])) (by simpa using h)
    have e : (i + 1) * k = x.length + i * k := by rw [Nat.add_mul, hx]; omega
    rw [List.set_cons_succ, List.flatten_cons, ih, List.flatten_cons, e, List.take_append, List.take_of_length_le (l := x) (by omega), Nat.add_sub_cancel_left, show x.length + i * k + k = x.length + (i * k + k) by omega, List.drop_append, List.drop_of_length_le (l := x) (by omega), Nat.add_sub_cancel_left]
    simp [List.append_assoc]

theorem fillR_flat {k : Nat} : ∀ {ps : List (Nat × PV)} {z rs : List (List PV)}, (∀ c ∈ z, c.length = k) → fillR k z ps = some rs → (∀ c ∈ rs, c.length = k) ∧ rs.length = z.length ∧ fillP z.flatten (ps.map fun p => (p.1 * k, k, p.2)) = some rs.flatten
  | [], z, rs, hk, h => by
    simp only [fillR, Option.some.injEq] at h
    subst h
    exact ⟨hk, rfl, rfl⟩
  | (i, x) :: ps, z, rs, hk, h => by
    simp only [fillR] at h
    cases hc : x.cells with
    | none => rw [hc] at h; simp at h
    | some c =>
      rw [hc] at h
      dsimp only at h
      split at h
      case isFalse => simp at h
      rename_i hci
      obtain ⟨hck, hi⟩ := hci
      have hk' : ∀ c' ∈ z.set i c, c'.length = k := by
        intro c' hc'
        rcases List.mem_or_eq_of_mem_set hc' with h1 | h1
        · exact hk _ h1
        · rw [h1]; exact hck
      obtain ⟨h1, h2, h3⟩ := fillR_flat hk' h
      refine ⟨h1, by simpa using h2, ?_⟩
      simp only [List.map_cons, fillP, hc]
      have hb : i * k + k ≤ z.flatten.length := by
        rw [flatten_len hk]
        have := Nat.mul_le_mul_right k (show i + 1 ≤ z.length from hi)
        rw [Nat.add_mul] at this
        omega
      rw [if_pos ⟨hck, hb⟩, ← flatten_set hk hi]
      exact h3

def okRs (k : Nat) : List (Nat × Operand) → List (Nat × X) → Bool
  | [], [] => true
  | (i, x) :: ps, (j, y) :: qs => decide (i = j) && okX x y && okRs k ps qs
  | _, _ => false
theorem okRs_okPs {k : Nat} : ∀ {ps : List (Nat × Operand)} {qs : List (Nat × X)}, okRs k ps qs = true → okPs (fun i => some (i * k, k)) ps (qs.map fun q => (q.1 * k, k, q.2)) = true
  | [], [], _ => rfl
  | (i, x) :: ps, (j, y) :: qs, h => by
    simp only [okRs, Bool.and_eq_true, decide_eq_true_eq] at h
    obtain ⟨⟨rfl, hx⟩, h⟩ := h
    simp [okPs, hx, okRs_okPs h]
  | [], _ :: _, h => by simp [okRs] at h
  | _ :: _, [], h => by simp [okRs] at h
theorem zip_rs {k : Nat} : ∀ (qs : List (Nat × X)) (ys : List PV), (((qs.map fun q => (q.1 * k, k, q.2)).zip ys).map fun q => (q.1.1, q.1.2.1, q.2)) = ((qs.zip ys).map fun q => (q.1.1, q.2)).map fun p => (p.1 * k, k, p.2)
  | [], ys => by simp
  | q :: qs, [] => by simp
  | q :: qs, y :: ys => by simp [zip_rs qs ys]

/-- The zero cells of n elements. -/
def zeroRow (z : Array Value) (n : Nat) : Array Value := (Array.range n).map (z[· % z.size]!)

theorem evp_evs {s : St} : ∀ {l : List X} {ys : List PV}, evp s l = some ys → evs s l = some (ys.map SV.p) ∧ ∀ h, AM.frzs h (ys.map SV.p) = some (ys, [])
  | [], ys, h => by
    simp only [evp, Option.some.injEq] at h
    subst h
    exact ⟨rfl, fun _ => rfl⟩
  | x :: l, ys, h => by
    simp only [evp] at h
    split at h
    · rename_i y hy
      cases h2 : evp s l with
      | none => rw [h2] at h; simp at h
      | some zs =>
        rw [h2] at h
        obtain rfl := Option.some.inj h
        obtain ⟨q1, q2⟩ := evp_evs h2
        refine ⟨by simp only [evs, hy, q1, List.map_cons], fun h => ?_⟩
        simp only [List.map_cons, AM.frzs, AM.frz, q2 h, List.nil_append]
    · simp at h
theorem repL_p {w : World} {g : Gs} {h : Nat → Option Ob} : ∀ {ys : List PV} {us : List Value}, SRepL w g h (ys.map SV.p) us → RepL w g.lm ys us
  | [], _, .nil => .nil
  | y :: ys, _, .cons a b => .cons a (repL_p b)
/-- Memory grows; nothing that was there turns. -/
theorem Sim.grow0 (S : Sim base w0 lm0 N g a w s) {w' : World} {lm' : Nat → Nat} (hb : Below w.heap.size w w') (hl : ∀ b, b < w.heap.size → lm' b = g.lm b) : Sim base w0 lm0 N ⟨lm', g.v⟩ a w' s := by
  have hext := Ext.of_below hb hl
  exact S.turn (w' := w') (g' := ⟨lm', g.v⟩) (h' := s.h) ⟨hext, fun d o h => .inr ⟨rfl, o, h, Shp.refl _⟩⟩ (hb.mono S.bw) (fun b h => hl b (Nat.lt_of_lt_of_le h S.bw)) (fun d1 o1 h1 => (S.ob d1 o1 h1).keep (fun _ _ => rfl) hext fun hlv x hi b hbk => by
      have := ((S.ob d1 o1 h1).blockI hlv hi hbk).2
      exact ⟨hb.block b this, hl b this⟩) S.lt S.ap
theorem eff_bsl (S : Sim base w0 lm0 N g a w s) {t el : TypeId} {k n : Nat} (h0 : 0 < k) {z : List (List PV)} {zc : Array Value} {ps : Array (Nat × Operand)} {qs : List (Nat × X)} {call : Call} {d : Nat} {r : Eff} (ho : o.op = .buildSlice t n ps) (ht : P.underlying t = some (.slice el)) (hk : P.cellsOf el = k)
    (hzn : z.length = n) (hzk : ∀ c ∈ z, c.length = k) (hzz : zc = (if n * k = 0 then #[] else ((P.info? el).bind (·.zero)).getD .nilFunc |>.cells)) (hzs : n * k = 0 ∨ ((P.info? el).bind (·.zero)).isSome = true) (hok : okZ (zeroRow zc (n * k)).toList z.flatten = true)
    (hlim : n * k ≤ 16777216) (hps : okRs k ps.toList qs = true) (he : eff call s d (.bsl el k z qs) = some r) : EffOK P base w0 lm0 N g a w s o r := by
  simp only [eff] at he
  cases hv : evs s (qs.map fun q => q.2) with
  | none => rw [hv] at he; simp at he
  | some vs =>
    rw [hv] at he
    dsimp only at he
    cases hf : AM.frzs s.h vs with
    | none => rw [hf] at he; simp at he
    | some q =>
      obtain ⟨ys, fr⟩ := q
      rw [hf] at he
      dsimp only at he
      cases hc : fillR k z ((qs.zip ys).map fun q => (q.1.1, q.2)) with
      | none => rw [hc] at he; simp at he
      | some rs =>
        rw [hc] at he
        dsimp only at he
        cases hid : newId s.h d with
        | none => rw [hid] at he; simp at he
        | some id =>
          rw [hid] at he
          simp only [Option.some.injEq] at he
          subst he
          have hps' := okRs_okPs hps
          have hv' : evs s ((qs.map fun q => (q.1 * k, k, q.2)).map fun q => q.2.2) = some vs := by simpa [List.map_map, Function.comp_def] using hv
          obtain ⟨r1, r2⟩ := okPs_sound (P := P) S hps' hv'
          obtain ⟨lm', S1, rl, T1, F1⟩ := frzs_sim S (fun d => Fz.refl _) r1 hf
          obtain ⟨z1, z2⟩ := okZ_sound (w := w) (lm := lm') hok
          obtain ⟨hrk, hrn, hfp⟩ := fillR_flat hzk hc
          have hparts := r2 rl
          rw [zip_rs] at hparts
          obtain ⟨cc, h3, h4, h5⟩ := fill_sound hparts hfp z1 z2
          have hml : rs.length ≤ maxLen := by
            have h6 : n ≤ n * k := Nat.le_mul_of_pos_right n h0
            simp [maxLen]; omega
          obtain ⟨S2, T2⟩ := S1.newRow (newId_fz F1 hid) (newId_lt hid) (e := el) h0 hrk h4 h5 hml
          refine EffOK.mk' (u := .slice (some ⟨w.heap.size, 0, none⟩) rs.length rs.length) (putAll_append _ _ _) ?_ S2 ?_
          · have hrl : rs.length = n := by omega
            have h3' : Instr.fill (fun i => some (i * k, k)) ((Array.range (n * k)).map (zc[· % zc.size]!)) (ps.toList.map fun x => (x.1, a.eval x.2)) = some cc := h3
            simp only [execOp, ho, Instr.buildSlice, Sem.run_bind, run_underlying ht, Result.andThen_ok, run_sizeOf hk h0]
            rw [if_neg (by omega)]
            by_cases hnk : n * k = 0
            · rw [if_pos hnk] at hzz ⊢
              subst hzz
              simp only [Sem.run_bind, Sem.run_pure, Result.andThen_ok, Array.toList_map]
              rw [h3']
              simp [Go.newRow, hrl]
            · rw [if_neg hnk] at hzz ⊢
              rcases hzs with h | h
              · exact absurd h hnk
              · obtain ⟨zv, hzv⟩ := Option.isSome_iff_exists.1 h
                rw [hzv] at hzz
                simp only [Option.getD_some] at hzz
                subst hzz
                simp only [Sem.run_bind, run_zero hzv, Sem.run_pure, Result.andThen_ok, Array.toList_map]
                rw [h3']
                simp [Go.newRow, hrl]
          · have := srep_new_ms (w' := w.alloc (.cells cc el)) (g' := ⟨upd lm' w.heap.size 0, upd g.v id (.slice (some ⟨w.heap.size, 0, none⟩) rs.length rs.length)⟩) (h' := AM.put (putAll s.h fr) id (.row el k false rs)) (get_put_same _ _ _) (n := rs.length) rfl
            simp only [upd_same] at this
            exact this

theorem eff_bslp (S : Sim base w0 lm0 N g a w s) {t el : TypeId} {k n : Nat} (h0 : 0 < k) {z : List (List PV)} {zc : Array Value} {ps : Array (Nat × Operand)} {qs : List (Nat × X)} {call : Call} {d : Nat} {r : Eff} (ho : o.op = .buildSlice t n ps) (ht : P.underlying t = some (.slice el)) (hk : P.cellsOf el = k)
    (hzn : z.length = n) (hzk : ∀ c ∈ z, c.length = k) (hzz : zc = (if n * k = 0 then #[] else ((P.info? el).bind (·.zero)).getD .nilFunc |>.cells)) (hzs : n * k = 0 ∨ ((P.info? el).bind (·.zero)).isSome = true) (hok : okZ (zeroRow zc (n * k)).toList z.flatten = true)
    (hlim : n * k ≤ 16777216) (hps : okRs k ps.toList qs = true) (he : eff call s d (.bslp el k z qs) = some r) : EffOK P base w0 lm0 N g a w s o r := by
  simp only [eff] at he
  cases hv0 : evp s (qs.map fun q => q.2) with
  | none => rw [hv0] at he; simp at he
  | some ys =>
    rw [hv0] at he
    dsimp only at he
    cases hc : fillR k z ((qs.zip ys).map fun q => (q.1.1, q.2)) with
    | none => rw [hc] at he; simp at he
    | some rs =>
      rw [hc] at he
      simp only [Option.some.injEq] at he
      subst he
      obtain ⟨hv, hf⟩ := evp_evs hv0
      have hps' := okRs_okPs hps
      have hv' : evs s ((qs.map fun q => (q.1 * k, k, q.2)).map fun q => q.2.2) = some (ys.map SV.p) := by simpa [List.map_map, Function.comp_def] using hv
      obtain ⟨r1, r2⟩ := okPs_sound (P := P) S hps' hv'
      have rl := repL_p r1
      obtain ⟨z1, z2⟩ := okZ_sound (w := w) (lm := g.lm) hok
      obtain ⟨hrk, hrn, hfp⟩ := fillR_flat hzk hc
      have hparts := r2 rl
      rw [zip_rs] at hparts
      obtain ⟨cc, h3, h4, h5⟩ := fill_sound hparts hfp z1 z2
      have hrl : rs.length = n := by omega
      have hcs : cc.size = n * k := by
        have := h4.length
        rw [flatten_len hrk, hrl] at this
        simpa using this.symm
      have hlm : ∀ b, b < w.heap.size → upd g.lm w.heap.size (n * k) b = g.lm b := fun b h => upd_ne _ (by omega) _
      have S2 := S.grow0 (below_alloc' w (.cells cc el)) hlm
      have hext := Ext.of_below (below_alloc' w (.cells cc el)) hlm
      refine ⟨.slice (some ⟨w.heap.size, 0, none⟩) rs.length rs.length, w.alloc (.cells cc el), ⟨upd g.lm w.heap.size (n * k), g.v⟩, .inl ?_, S2, ?_⟩
      · have h3' : Instr.fill (fun i => some (i * k, k)) ((Array.range (n * k)).map (zc[· % zc.size]!)) (ps.toList.map fun x => (x.1, a.eval x.2)) = some cc := h3
        simp only [execOp, ho, Instr.buildSlice, Sem.run_bind, run_underlying ht, Result.andThen_ok, run_sizeOf hk h0]
        rw [if_neg (by omega)]
        by_cases hnk : n * k = 0
        · rw [if_pos hnk] at hzz ⊢
          subst hzz
          simp only [Sem.run_bind, Sem.run_pure, Result.andThen_ok, Array.toList_map]
          rw [h3']
          simp [Go.newRow, hrl]
        · rw [if_neg hnk] at hzz ⊢
          rcases hzs with h | h
          · exact absurd h hnk
          · obtain ⟨zv, hzv⟩ := Option.isSome_iff_exists.1 h
            rw [hzv] at hzz
            simp only [Option.getD_some] at hzz
            subst hzz
            simp only [Sem.run_bind, run_zero hzv, Sem.run_pure, Result.andThen_ok, Array.toList_map]
            rw [h3']
            simp [Go.newRow, hrl]
      · show Rep _ _ (.sl k rs) _
        cases rs with
        | nil => exact .sl0
        | cons c rs =>
          refine .sl h0 hrk (h4.ext hext) (fun j u hu => ?_) (Nat.le_refl _)
          have hj : j < cc.toList.length := (List.getElem?_eq_some_iff.1 hu).1
          have hg : (w.alloc (.cells cc el)).heap[w.heap.size]? = some (.cells cc el (0, 0)) := by simp only [World.alloc]; exact Array.getElem?_push_size
          refine ⟨?_, ?_, h5 u (List.mem_of_getElem? hu)⟩
          · rw [Nat.zero_add, cell_of_row _ w.heap.size j cc el (0, 0) hg]
            simpa using hu
          · show 0 + j < upd g.lm w.heap.size (n * k) w.heap.size
            rw [upd_same]
            simp at hj; omega

/-! ### stores -/
theorem Sim.setRow (S : Sim base w0 lm0 N g a w s) {d e k : Nat} {l l' : List (List PV)} (hd : get s.h d = some (.row e k false l)) (hl : l'.length = l.length) (hk : ∀ c ∈ l', c.length = k) {b : Nat} {xs : List Value} {cur : Array Value} {cap : Nat} (hv : g.v d = .slice (some ⟨b, 0, none⟩) l.length cap) (hb : base ≤ b) (hc : l.length ≤ cap) (hm : cap ≤ maxLen)
    (hg : w.heap[b]? = some (.cells cur e (0, 0))) {new : Array Value} (hn : new.size = cap * k) (hrl : RepL w g.lm l'.flatten xs) (hx : new.toList.take (l.length * k) = xs) (h1 : ∀ u ∈ xs, u.oneCell' = true) :
    Sim base w0 lm0 N g a (w.setRow b new) ⟨s.t, AM.put s.h d (.row e k false l')⟩ ∧ Tr w g (get s.h) (w.setRow b new) g (get (AM.put s.h d (.row e k false l'))) := by
  have hblk : blk (g.v d) = some b := by rw [hv]; rfl
  have hlm : g.lm b = 0 := (S.ob d _ hd).2.2.2 b hblk
  have hext : Ext w g.lm (w.setRow b new) g.lm := by
    intro b' o' u hc' ho'
    by_cases e' : b' = b
    · subst e'; omega
    · exact ⟨(World.cell?_of_block (a := ⟨b', o', none⟩) (setRow_other w b b' new e')).trans hc', ho'⟩
  refine ⟨S.cells1 hd ⟨rfl, hl.symm⟩ rfl rfl rfl hext (below_setRow (Below.refl _ _) hb _) (fun b' hb' _ => ⟨setRow_other _ _ _ _ (fun e => hb' (by rw [hblk, e])), rfl⟩) ⟨(S.ob d _ hd).1, hk, ⟨xs, ?_, hrl.ext hext, h1⟩, fun b' hb' => ?_⟩, ⟨hext, fun d1 o1 hd1 => .inr ⟨rfl, ?_⟩⟩⟩
  · refine ⟨?_, .inr ⟨b, cap, new, by rw [hl]; exact hv, hb, setRow_heap _ _ _ _ _ _ hg, by omega, hm, hn, by rw [hl]; exact hx⟩⟩
    rw [← hrl.length, flatten_len hk]
  · rw [hblk] at hb'
    obtain rfl := Option.some.inj hb'
    simpa using hlm
  · by_cases e' : d = d1
    · subst e'
      rw [hd] at hd1
      obtain rfl := Option.some.inj hd1
      exact ⟨_, get_put_same _ _ _, rfl, hl.symm⟩
    · exact ⟨o1, by rw [get_put_ne _ e']; exact hd1, Shp.refl _⟩

theorem own_row (S : Sim base w0 lm0 N g a w s) {d e k : Nat} {fz : Bool} {l : List (List PV)} (hd : get s.h d = some (.row e k fz l)) {b : Nat} (hb : blk (g.v d) = some b) :
    ∃ cap cur xs, g.v d = .slice (some ⟨b, 0, none⟩) l.length cap ∧ base ≤ b ∧ l.length ≤ cap ∧ cap ≤ maxLen ∧ w.heap[b]? = some (.cells cur e (0, 0)) ∧ cur.size = cap * k ∧ cur.toList.take (l.length * k) = xs ∧ RepL w g.lm l.flatten xs ∧ ∀ u ∈ xs, u.oneCell' = true := by
  obtain ⟨h1, h2, ⟨xs, h3, h4, h5⟩, h6⟩ := S.ob d _ hd
  rcases h3.2 with ⟨hv, _⟩ | ⟨b', cap, cur, hv, q1, q2, q3, q4, q5, q6⟩
  · rw [hv] at hb; simp [blk] at hb
  · rw [hv] at hb; simp [blk] at hb; subst hb
    exact ⟨cap, cur, xs, hv, q1, q3, q4, q2, q5, q6, h4, h5⟩

theorem eff_sto (S : Sim base w0 lm0 N g a w s) {t : TypeId} {k : Nat} (h0 : 0 < k) {x y : Operand} {x' y' : X} {call : Call} {d : Nat} {r : Eff} (ho : o.op = .store t x y) (hk : P.cellsOf t = k) (hx : okX x x' = true) (hy : okX y y' = true) (he : eff call s d (.sto k x' y') = some r) : EffOK P base w0 lm0 N g a w s o r := by
  simp only [eff] at he
  cases hvx : x'.ev s with
  | none => rw [hvx] at he; simp at he
  | some vx =>
    cases hvy : y'.ev s with
    | none => rw [hvx, hvy] at he; cases vx <;> simp at he
    | some vy =>
      rw [hvx, hvy] at he
      cases vx with
      | mp d' i j =>
        dsimp only at he
        cases hf : AM.frz s.h vy with
        | none => rw [hf] at he; simp at he
        | some q =>
          obtain ⟨z0, fr⟩ := q
          rw [hf] at he
          dsimp only at he
          cases hyc : z0.cells with
          | none => rw [hyc] at he; simp at he
          | some yc =>
            rw [hyc] at he
            dsimp only at he
            split at he
            case isFalse => simp at he
            rename_i hyk
            cases hd : get s.h d' with
            | none => rw [hd] at he; simp at he
            | some ob =>
              cases ob with
              | row e k' fz l =>
                cases fz with
                | true => rw [hd] at he; simp at he
                | false =>
                  rw [hd] at he
                  dsimp only at he
                  cases hc : l[i]? with
                  | none => rw [hc] at he; simp at he
                  | some c =>
                    rw [hc] at he
                    dsimp only at he
                    split at he
                    case isFalse => simp at he
                    rename_i hcond
                    obtain ⟨hjk, hall⟩ := hcond
                    simp only [Option.some.injEq] at he
                    subst he
                    obtain ⟨lm', S1, r1, T1, F1⟩ := frz_sim S (fun d => Fz.refl _) (okX_sound S hy hvy) hf
                    have hd1 : get (putAll s.h fr) d' = some (.row e k' false l) := by
                      have : ∀ (fr h : List (Nat × Ob)), (fr.all fun q => q.1 != d') = true → get (putAll h fr) d' = get h d' := by
                        intro fr
                        induction fr with
                        | nil => intro h _; rfl
                        | cons q fr ih =>
                          intro h hh
                          simp only [List.all_cons, Bool.and_eq_true] at hh
                          obtain ⟨q1, q2⟩ := q
                          rw [putAll, ih _ hh.2, get_put_ne _ (by simpa using hh.1)]
                      rw [this fr s.h hall, hd]
                    have hr := (okX_sound S hx hvx).tr T1
                    obtain ⟨_, hk', b, xs0, hu, hb, _⟩ := S1.row hd1 hr
                    obtain ⟨cap, cur, xs, hv, hbase, hlc, hcm, hg, hcs, hxs, hrl, h1⟩ := own_row S1 hd1 hb
                    obtain ⟨hcr, hc1⟩ := r1.cells hyc
                    have hil : i < l.length := (List.getElem?_eq_some_iff.1 hc).1
                    have hck : c.length = k' := hk' c (List.mem_of_getElem? hc)
                    have hvn : (a.eval y).cells.size = k := by have := hcr.length; simp at this; omega
                    have hin : i * k' + k' ≤ l.length * k' := by
                      have := Nat.mul_le_mul_right k' (show i + 1 ≤ l.length from hil)
                      rwa [Nat.add_mul, Nat.one_mul] at this
                    have hcap : l.length * k' ≤ cap * k' := Nat.mul_le_mul_right k' hlc
                    have hxl : xs.length = l.length * k' := by rw [← hrl.length, flatten_len hk']
                    have hst := run_storeCells_at P b (i * k' + j) e (a.eval y).cells.toList 0 cur w hg (by simp; omega) hc1
                    simp only [Nat.add_zero, Array.length_toList, hvn] at hst
                    have hrun : (execOp a.eval o).run P w = .ok .skip (w.setRow b (cur.toList.take (i * k' + j) ++ (a.eval y).cells.toList ++ cur.toList.drop (i * k' + j + k)).toArray) := by
                      simp only [execOp, ho, Instr.storeAt, hu, Instr.sureAddr, storeVar, Sem.run_bind, Sem.run_pure, Result.andThen_ok, run_sizeOf hk h0, hvn, ne_eq, not_true, if_false, hst]
                    have hnk : ∀ c' ∈ l.set i (c.take j ++ yc ++ c.drop (j + k)), c'.length = k' := by
                      intro c' hc'
                      rcases List.mem_or_eq_of_mem_set hc' with h2 | h2
                      · exact hk' _ h2
                      · rw [h2]; simp; omega
                    have hfl : (l.set i (c.take j ++ yc ++ c.drop (j + k))).flatten = l.flatten.take (i * k' + j) ++ yc ++ l.flatten.drop (i * k' + j + k) := by
                      rw [flatten_set hk' hil]
                      have hdi : (l.drop i).flatten = c ++ (l.drop (i + 1)).flatten := by
                        rw [List.drop_eq_getElem_cons hil, List.flatten_cons]; congr 1
                        simpa [List.getElem?_eq_getElem hil] using hc
                      have e3 : l.flatten.drop (i * k' + k') = (l.drop (i + 1)).flatten := by
                        rw [← List.drop_drop, flatten_drop i hk', hdi]
                        conv => lhs; rw [← hck]
                        rw [List.drop_left]
                      have e1 : l.flatten.take (i * k' + j) = l.flatten.take (i * k') ++ c.take j := by
                        rw [List.take_add, flatten_drop i hk', hdi, List.take_append_of_le_length (by omega)]
                      have e2 : l.flatten.drop (i * k' + j + k) = c.drop (j + k) ++ l.flatten.drop (i * k' + k') := by
                        rw [show i * k' + j + k = i * k' + (j + k) by omega, ← List.drop_drop, flatten_drop i hk', hdi, List.drop_append_of_le_length (by omega), e3]
                      rw [e1, e2]
                      simp [List.append_assoc]
                    have hnew : ((cur.toList.take (i * k' + j) ++ (a.eval y).cells.toList ++ cur.toList.drop (i * k' + j + k)).toArray.toList.take (l.length * k')) = xs.take (i * k' + j) ++ (a.eval y).cells.toList ++ xs.drop (i * k' + j + k) := by
                      rw [← hxs]
                      simp only [List.take_append, List.length_append, List.length_take, Array.length_toList, List.take_take, List.drop_take, hvn]
                      rw [List.take_of_length_le (l := (a.eval y).cells.toList) (by simp; omega)]
                      congr 2
                      · congr 1; omega
                      · congr 1; omega
                    obtain ⟨S2, T2⟩ := S1.setRow hd1 (l' := l.set i (c.take j ++ yc ++ c.drop (j + k))) (by simp) hnk hv hbase hlc hcm hg (new := (cur.toList.take (i * k' + j) ++ (a.eval y).cells.toList ++ cur.toList.drop (i * k' + j + k)).toArray) (by simp; omega)
                      (xs := xs.take (i * k' + j) ++ (a.eval y).cells.toList ++ xs.drop (i * k' + j + k)) (by rw [hfl]; exact ((hrl.take _).append hcr).append (hrl.drop _)) hnew (by
                        intro u hu
                        simp only [List.mem_append] at hu
                        rcases hu with (hu | hu) | hu
                        · exact h1 u (List.mem_of_mem_take hu)
                        · exact hc1 u hu
                        · exact h1 u (List.mem_of_mem_drop hu))
                    exact ⟨undef, _, _, .inr ⟨hrun, rfl⟩, by rw [putAll_append]; exact S2, Rep.sc _⟩
              | _ => rw [hd] at he; simp at he
      | _ => simp at he
end
end Go.Proofs.Ytihgpnfkadldeaa.AM
