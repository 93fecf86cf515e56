/- The small machine's copy of a deep row into a row. No condition. -/
import Derived.Test.YtihgpnfkadldeaaAMB
namespace Go.Proofs.Ytihgpnfkadldeaa.AM
set_option linter.unusedSimpArgs false
set_option linter.unusedVariables false
open Go Go.RowKit

theorem ids_dp {d e k x : Nat} {l : List (List PV)} : Ids d (.dp e k l) x ↔ x = d ∨ ∃ p e' k' l', l.flatten[p]? = some (.ow e' k' l') ∧ 0 < k' ∧ x = nid d p := by
  constructor
  · rintro (h | ⟨_, _, _, p, e', k', l', ho, hp, hk, rfl⟩)
    · exact .inl h
    · simp only [Ob.dp.injEq] at ho
      obtain ⟨rfl, rfl, rfl⟩ := ho
      exact .inr ⟨p, e', k', l', hp, hk, rfl⟩
  · rintro (h | ⟨p, e', k', l', hp, hk, rfl⟩)
    · exact .inl h
    · exact .inr ⟨_, _, _, p, e', k', l', rfl, hp, hk, rfl⟩

section
variable {P : Program} {base : Nat} {w0 : World} {lm0 : Nat → Nat} {N : Nat} {g : Gs} {a : Act} {w : World} {s : St} {o : Oper}

/-- What a deep row alone has goes over to another object, whose cells are its cells. -/
theorem Sim.over (S : Sim base w0 lm0 N g a w s) {d1 d2 e k : Nat} {l1 l2 : List (List PV)} (hd1 : get s.h d1 = some (.row e k false l1)) (hd2 : get s.h d2 = some (.dp e k l2)) (hll : l1.length = l2.length) (hok : okSet l2 = true)
    {w' : World} {xs : List Value} (h4 : RepL w g.lm l2.flatten xs) (h5 : ∀ u ∈ xs, u.oneCell' = true) (h7 : ∀ p e' k' l', l2.flatten[p]? = some (.ow e' k' l') → 0 < k' → xs[p]? = some (g.v (nid d2 p)) ∧ RowR w g base (nid d2 p) e' k' l')
    (hown : w'.ownsRow base e k (g.v d1) l1.length xs) (hb : Below base w w') (hbl : ∀ b, blk (g.v d1) ≠ some b → w'.heap[b]? = w.heap[b]?) :
    ∃ g', Sim base w0 lm0 N g' a w' ⟨s.t, AM.put (AM.put s.h d2 .dead) d1 (.dp e k l2)⟩ := by
  have hne : d1 ≠ d2 := fun h => by rw [h, hd2] at hd1; simp at hd1
  have l1t := S.lt _ _ hd1
  have l2t := S.lt _ _ hd2
  obtain ⟨r1, r2, _, r6⟩ := S.ob _ _ hd1
  obtain ⟨_, k2, _, _, _⟩ := S.ob _ _ hd2
  obtain ⟨own, hap⟩ := S.ap
  let v' : Nat → Value := fun x => if 1000000 ≤ x ∧ x % 1000000 = d1 then g.v (x - d1 + d2) else g.v x
  have v1 : v' d1 = g.v d1 := if_neg (by omega)
  have v2 : ∀ p, v' (nid d1 p) = g.v (nid d2 p) := fun p => by
    have h1 := nid_ge d1 p
    have h2 : nid d1 p % 1000000 = d1 := by unfold nid; omega
    show (if _ then _ else _) = _
    rw [if_pos ⟨h1, h2⟩]
    congr 1
    unfold nid; omega
  have hlm1 : ∀ b, blk (g.v d1) = some b → g.lm b = 0 := fun b hb => by simpa using r6 b hb
  have hext : Ext w g.lm w' g.lm := by
    intro b2 o2 u hc ho2
    have e1 : blk (g.v d1) ≠ some b2 := fun e => by rw [hlm1 b2 e] at ho2; omega
    exact ⟨(World.cell?_of_block (a := ⟨b2, o2, none⟩) (hbl b2 e1)).trans hc, ho2⟩
  have hnb : ∀ p e' k' l', l2.flatten[p]? = some (.ow e' k' l') → 0 < k' → ∀ b, blk (g.v (nid d2 p)) = some b → blk (g.v d1) ≠ some b := fun p e' k' l' hp hk b hb hb1 => by
    have z1 := hap d2 _ _ b hd2 rfl (ids_dp.2 (.inr ⟨p, e', k', l', hp, hk, rfl⟩)) hb
    have z2 := hap d1 _ _ b hd1 rfl (.self _ _) hb1
    have := nid_ge d2 p
    omega
  obtain ⟨S1, T1⟩ := S.kill hd2
  have hd1' : get (AM.put s.h d2 .dead) d1 = some (.row e k false l1) := by rw [get_put_ne _ (Ne.symm hne)]; exact hd1
  obtain ⟨S2, _⟩ := S1.dput hd1' rfl (w' := w') (lm' := g.lm) (v' := v') (o' := .dp e k l2) ⟨rfl, hll⟩ v1 (fun x hx => if_neg fun h => hx h.2) hext hb
    (fun b hb _ => ⟨hbl b (hb d1 (.self _ _)), rfl⟩)
    ⟨r1, k2, ⟨xs, by dsimp only; rw [v1, ← hll]; exact hown, h4.ext hext, h5, fun p e' k' l' hp hk => by
        obtain ⟨q1, m1, m2, ⟨ys, m3, m4, m5⟩, m6⟩ := h7 p e' k' l' hp hk
        refine ⟨by dsimp only; rw [v2]; exact q1, m1, m2, ⟨ys, by dsimp only; rw [v2]; exact ownsRow_keep m3 fun b hb => hbl b (hnb p e' k' l' hp hk b hb), m4.ext hext, m5⟩, fun b hb => ?_⟩
        dsimp only at hb
        rw [v2] at hb
        exact m6 b hb⟩,
      fun b hb => by dsimp only at hb; rw [v1] at hb; exact hlm1 b hb,
      fun p hp => by have := okSet_flat hok hp; simp [PV.noHole] at this⟩
    ⟨fun b => if 1000000 ≤ own b ∧ own b % 1000000 = d2 then own b - d2 + d1 else own b, fun d3 o3 x b h3 hl3 hi hbx => by
      dsimp only
      by_cases e1 : d1 = d3
      · subst e1
        rw [get_put_same] at h3
        obtain rfl := Option.some.inj h3
        rcases ids_dp.1 hi with rfl | ⟨p, e', k', l', hp, hk, rfl⟩
        · rw [v1] at hbx
          have := hap x _ x b hd1 rfl (.self _ _) hbx
          rw [this, if_neg (by omega)]
        · rw [v2] at hbx
          have := hap d2 _ _ b hd2 rfl (ids_dp.2 (.inr ⟨p, e', k', l', hp, hk, rfl⟩)) hbx
          have h2 : nid d2 p % 1000000 = d2 := by unfold nid; omega
          rw [this, if_pos ⟨nid_ge _ _, h2⟩]
          unfold nid; omega
      · rw [get_put_ne _ e1] at h3
        by_cases e2 : d2 = d3
        · subst e2
          rw [get_put_same] at h3
          obtain rfl := Option.some.inj h3
          simp [Ob.live] at hl3
        · rw [get_put_ne _ e2] at h3
          have hm := hi.mod (S.lt _ _ h3)
          have hx1 : v' x = g.v x := if_neg fun h => e1 (by rw [← h.2, hm])
          rw [hx1] at hbx
          have := hap d3 o3 x b h3 hl3 hi hbx
          rw [this, if_neg fun h => e2 (by rw [← h.2, hm])]⟩
  exact ⟨_, S2⟩

theorem eff_cpyo (S : Sim base w0 lm0 N g a w s) {t t2 el : TypeId} {k : Nat} (h0 : 0 < k) {x y : Operand} {x' y' : X} {call : Call} {d : Nat} {r : Eff} (ho : o.op = .call { callee := .builtin .copy, args := #[x, y], argTypes := #[t, t2] }) (ht : P.underlying t = some (.slice el)) (hk : P.cellsOf el = k)
    (hx : okX x x' = true) (hy : okX y y' = true) (he : eff call s d (.cpyo k x' y') = some r) : EffOK P base w0 lm0 N g a w s o r := by
  simp only [eff] at he
  split at he
  case h_2 => simp at he
  rename_i d1 off1 len1 d2 off2 len2 hvx hvy
  split at he
  case h_2 => simp at he
  rename_i e k1 l1 e2 k2 l2 hd1 hd2
  split at he
  case isFalse => simp at he
  rename_i hc
  obtain ⟨hne, rfl, rfl, rfl, rfl, rfl, rfl, rfl, hll, hok⟩ := hc
  simp only [Option.some.injEq] at he
  subst he
  have hrx := okX_sound S hx hvx
  have hry := okX_sound S hy hvy
  simp only [SRep, hd1] at hrx
  simp only [SRep, hd2] at hry
  have hux : a.eval x = g.v d1 := by
    rcases hrx.2 with h | h
    · exact h.2.2
    · exact absurd h.1 (by simp)
  have huy : a.eval y = g.v d2 := by
    rcases hry.2 with h | h
    · exact h.2.2
    · exact absurd h.1 (by simp)
  obtain ⟨_, hk1, ⟨xs1, h31, h41, h51⟩, _⟩ := S.ob _ _ hd1
  obtain ⟨_, hk2, ⟨xs2, h32, h42, h52, h72⟩, _⟩ := S.ob _ _ hd2
  have fin : ∀ {w' : World}, (execOp a.eval o).run P w = .ok (.value (.int .i64 l1.length)) w' → w'.ownsRow base e2 k2 (g.v d1) l1.length xs2 → Below base w w' → (∀ b, blk (g.v d1) ≠ some b → w'.heap[b]? = w.heap[b]?) → EffOK P base w0 lm0 N g a w s o ⟨.p (.sc (.int .i64 (l1.length : Nat))), [(d2, .dead), (d1, .dp e2 k2 l2)]⟩ := by
    intro w' hrun h1 h2 h3
    obtain ⟨g', S2⟩ := S.over hd1 hd2 hll hok h42 h52 h72 h1 h2 h3
    exact EffOK.mk' (h' := AM.put (AM.put s.h d2 .dead) d1 (.dp e2 k2 l2)) rfl hrun S2 (Rep.sc _)
  have hz2 : Nat.min l2.length l1.length = l1.length := by rw [← hll]; exact Nat.min_self _
  have slv : ∀ {v : Value} {n : Nat} {xs : List Value}, w.ownsRow base e2 k2 v n xs → ∃ ad cap, v = .slice ad n cap := by
    intro v n xs h
    rcases h.2 with ⟨h, hn⟩ | ⟨b, cap, cur, h, _⟩
    · exact ⟨none, 0, by rw [h, hn]⟩
    · exact ⟨_, cap, h⟩
  by_cases hn1 : l1.length = 0
  · have hl2 : l2.length = 0 := by omega
    have hx2 : xs2 = [] := List.eq_nil_of_length_eq_zero (by rw [h32.1, hl2]; simp)
    have hx1 : xs1 = [] := List.eq_nil_of_length_eq_zero (by rw [h31.1, hn1]; simp)
    subst hx2
    subst hx1
    refine fin (w' := w) ?_ h31 (Below.refl _ _) (fun _ _ => rfl)
    obtain ⟨a1, c1, hv1⟩ := slv h31
    obtain ⟨a2, c2, hv2⟩ := slv h32
    rw [hn1] at hv1
    rw [hl2] at hv2
    have hm : Nat.min 0 0 = 0 := rfl
    have hf : ∀ c, (Builtin.firstCells k2 0 (.slice a2 0 c)).run P w = .ok #[] w := fun c => by cases a2 <;> simp [Builtin.firstCells, loadCells, loadCellsFrom]
    cases a1 <;> simp [execOp, ho, resolve, invoke, builtin, hux, huy, hv1, hv2, Builtin.copy_, run_underlying ht, Builtin.lenOf, hm, run_sizeOf hk h0, hf, storeCells, goInt, hn1]
  rcases h31.2 with ⟨hv1, hz⟩ | ⟨b1, cap1, cur1, hv1, q1, q2, q3, q4, q5, q6⟩
  · exact absurd hz hn1
  rcases h32.2 with ⟨hv2, hz⟩ | ⟨b2, cap2, cur2, hv2, _⟩
  · omega
  have hcl : xs2.length = l1.length * k2 := by rw [h32.1, hll]
  have hlcap : l1.length * k2 ≤ cap1 * k2 := Nat.mul_le_mul_right _ q3
  have hst := run_storeCells_at P b1 0 e2 xs2 0 cur1 w q2 (by rw [hcl]; omega) h52
  simp only [Nat.add_zero, Nat.zero_add, hcl, List.take_zero, List.nil_append] at hst
  have hsz : (xs2 ++ cur1.toList.drop (l1.length * k2)).toArray.size = cap1 * k2 := by
    simp only [List.size_toArray, List.length_append, List.length_drop, Array.length_toList, hcl]; omega
  refine fin (w' := w.setRow b1 (xs2 ++ cur1.toList.drop (l1.length * k2)).toArray) ?_ ⟨hcl, .inr ⟨b1, cap1, (xs2 ++ cur1.toList.drop (l1.length * k2)).toArray, hv1, q1, setRow_heap w b1 cur1 _ e2 _ q2, q3, q4, hsz, ?_⟩⟩ (below_setRow (Below.refl _ _) q1 _) (fun b hb => setRow_other _ _ _ _ fun e => hb (by rw [hv1, e]; rfl))
  · have hf := run_firstCells_some (P := P) w k2 l1.length ⟨b2, 0, none⟩ l2.length cap2 xs2 hcl (fun j v hv => by
      rw [add_n, Nat.zero_add]
      exact own_cells h32 (by rw [hv2]; rfl) hv)
    simp [execOp, ho, resolve, invoke, builtin, hux, huy, hv1, hv2, Builtin.copy_, run_underlying ht, Builtin.lenOf, hz2, run_sizeOf hk h0, hf, hst, goInt]
  · rw [List.toList_toArray, ← hcl, List.take_left]
end
end Go.Proofs.Ytihgpnfkadldeaa.AM
