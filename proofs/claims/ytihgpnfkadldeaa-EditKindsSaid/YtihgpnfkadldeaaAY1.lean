/- What the reference's Copy of atoms has made so far. No condition. -/
import Derived.Test.YtihgpnfkadldeaaAX
import Derived.Test.YtihgpnfkadldeaaAR9
import Derived.Test.YtihgpnfkadldeaaAMC
namespace Go.Proofs.Ytihgpnfkadldeaa.AM
open Go.RowKit
set_option linter.unusedVariables false
set_option linter.unusedSimpArgs false
structure As (p : Prop) : Prop where
  out : p
theorem rep_row {w : World} {lm : Nat → Nat} {k : Nat} {al : List (List PV)} {v : Value} (hv : Rep w lm (.sl k al) v) : ∃ ad cap xs, v = .slice ad al.length cap ∧ RepL w lm al.flatten xs ∧ (∀ u ∈ xs, u.oneCell' = true) ∧ (al.length = 0 ∨ ∃ b o, ad = some ⟨b, o, none⟩ ∧ ∀ j u, xs[j]? = some u → w.cell? ⟨b, o + j, none⟩ = some u) := by
  cases hv with
  | sl h0 hk hr hm hc =>
    rename_i xs b o cap
    exact ⟨_, _, xs, rfl, hr, fun u hu => by obtain ⟨j, hj⟩ := List.mem_iff_getElem?.1 hu; exact (hm j u hj).2.2, .inr ⟨_, _, rfl, fun j u hu => (hm j u hu).1⟩⟩
  | sl0 => exact ⟨_, _, [], rfl, .nil, by simp, .inl rfl⟩
/-- The reading of memory: what was there before, and nothing else. -/
def lmz (w0 : World) (lm0 : Nat → Nat) : Nat → Nat := fun b => if b < w0.heap.size then lm0 b else 0
/-- The copied atoms. -/
def CInv (w0 : World) (lm0 : Nat → Nat) (l : List At) (i : Nat) (vo : Value) (wr : World) : Prop :=
  Below w0.heap.size w0 wr ∧ ∃ gv : Nat → Value, gv 0 = vo ∧ ORep wr ⟨lmz w0 lm0, gv⟩ w0.heap.size 0 (.dp 31 5 (dats (l.take i))) ∧ ∃ own : Nat → Nat, ∀ x b, Ids 0 (.dp 31 5 (dats (l.take i))) x → blk (gv x) = some b → own b = x
theorem dats_flat_at (l : List At) (p : Nat) (e' k' : Nat) (l' : List (List PV)) (h : (dats l).flatten[p]? = some (.ow e' k' l')) : ∃ j, ∃ hj : j < l.length, p = j * 5 + 4 ∧ e' = 45 ∧ k' = 2 ∧ l' = cutsL l[j].cuts := by
  induction l generalizing p with
  | nil => simp [dats] at h
  | cons a l ih =>
    rw [show dats (a :: l) = a.dv :: dats l from rfl, List.flatten_cons] at h
    by_cases hp : p < 5
    · rw [List.getElem?_append_left (by simpa [At.dv] using hp)] at h
      match p, hp with
      | 0, _ => simp [At.dv] at h
      | 1, _ => simp [At.dv] at h
      | 2, _ => simp [At.dv] at h
      | 3, _ => simp [At.dv] at h
      | 4, _ =>
        simp only [At.dv, List.getElem?_cons_succ, List.getElem?_cons_zero, Option.some.injEq, PV.ow.injEq] at h
        exact ⟨0, by simp, rfl, h.1.symm, h.2.1.symm, h.2.2.symm⟩
    · rw [List.getElem?_append_right (by simp [At.dv]; omega)] at h
      obtain ⟨j, hj, h1, h2, h3, h4⟩ := ih _ h
      refine ⟨j + 1, by simp; omega, ?_, h2, h3, by simpa using h4⟩
      have : a.dv.length = 5 := rfl
      omega
theorem dats_flat_len (l : List At) : (dats l).flatten.length = l.length * 5 := by
  rw [flatten_len (k := 5) (fun c hc => by obtain ⟨a, _, rfl⟩ := List.mem_map.1 hc; rfl), dats_len]
theorem dats_flat_ow (l : List At) (j : Nat) (hj : j < l.length) : (dats l).flatten[j * 5 + 4]? = some (.ow 45 2 (cutsL l[j].cuts)) := by
  have h := flatten_drop (k := 5) (l := dats l) j (fun c hc => by obtain ⟨a, _, rfl⟩ := List.mem_map.1 hc; rfl)
  rw [← List.getElem?_drop, h, show (dats l).drop j = l[j].dv :: (dats l).drop (j + 1) from by rw [List.drop_eq_getElem_cons (by rw [dats_len]; exact hj)]; congr 1; simp [dats], List.flatten_cons]
  rfl
theorem dats_snoc (l : List At) (i : Nat) (h : i < l.length) : (dats (l.take (i + 1))).flatten = (dats (l.take i)).flatten ++ l[i].dv := by
  rw [List.take_succ_eq_append_getElem h]
  unfold dats
  rw [List.map_append, List.flatten_append]
  simp
theorem lmz_old {w0 : World} {lm0 : Nat → Nat} {b : Nat} (h : w0.heap.size ≤ b) : lmz w0 lm0 b = 0 := if_neg (by omega)
/-- One atom more. -/
theorem step_inv {w0 wr w2 w4 : World} {lm0 : Nat → Nat} {l : List At} {i : Nat} (hlt : i < l.length) {u3 v4 vc : Value} {xsI zs : List Value} {gv : Nat → Value} {own : Nat → Nat}
    (hB : Below w0.heap.size w0 wr) (hB4 : Below w0.heap.size w0 w4) (hg0 : gv 0 = u3)
    (hrI : RepL wr (lmz w0 lm0) (dats (l.take i)).flatten xsI)
    (h7 : ∀ p e' k' l', (dats (l.take i)).flatten[p]? = some (.ow e' k' l') → 0 < k' → xsI[p]? = some (gv (nid 0 p)) ∧ RowR wr ⟨lmz w0 lm0, gv⟩ w0.heap.size (nid 0 p) e' k' l')
    (hown : ∀ x b, Ids 0 (.dp 31 5 (dats (l.take i))) x → blk (gv x) = some b → own b = x)
    (hvc : w2.ownsRow w0.heap.size 45 2 vc l[i].cuts.length zs) (hzs : RepL w0 lm0 (cutsL l[i].cuts).flatten zs) (hz1 : ∀ u ∈ zs, u.oneCell' = true)
    (hcb : ∀ b, blk vc = some b → wr.heap.size < b) (h4b : ∀ b, blk v4 = some b → blk u3 = some b ∨ wr.heap.size < b ∧ blk vc ≠ some b) (h3b : ∀ b, blk u3 = some b → b < wr.heap.size)
    (hk1 : ∀ b, b < wr.heap.size → blk u3 ≠ some b → w4.heap[b]? = wr.heap[b]?) (hk2 : ∀ b, blk vc = some b → w4.heap[b]? = w2.heap[b]?)
    (h4 : w4.ownsRow w0.heap.size 31 5 v4 (i + 1) (xsI ++ [.string l[i].txt, .int .i64 l[i].rv, .int .i64 l[i].gr, .int .i64 l[i].rk, vc])) (h41 : ∀ u ∈ (xsI ++ [.string l[i].txt, .int .i64 l[i].rv, .int .i64 l[i].gr, .int .i64 l[i].rk, vc]), u.oneCell' = true) : CInv w0 lm0 l (i + 1) v4 w4 := by
  have hxl : xsI.length = i * 5 := by rw [← hrI.length, dats_flat_len, List.length_take]; congr 1; omega
  have e1 : ∀ p, nid 0 p ≠ 0 := fun p h => by have := nid_ge 0 p; omega
  have e2 : ∀ p q, p ≠ q → nid 0 p ≠ nid 0 q := fun p q hpq h => hpq (nid_inj (by omega) (by omega) h).2
  have hext : Ext wr (lmz w0 lm0) w4 (lmz w0 lm0) := by
    intro b o u hc ho
    have hb : b < w0.heap.size := by
      rcases Nat.lt_or_ge b w0.heap.size with h | h
      · exact h
      · rw [lmz_old h] at ho; omega
    exact ⟨(World.cell?_of_block (a := ⟨b, o, none⟩) ((hB4.block b hb).trans (hB.block b hb).symm)).trans hc, ho⟩
  have hext0 : Ext w0 lm0 w4 (lmz w0 lm0) := Ext.of_below hB4 fun b hb => if_pos hb
  have hbB := hB.size
  refine ⟨hB4, fun x => if x = 0 then v4 else if x = nid 0 (i * 5 + 4) then vc else gv x, rfl, ⟨by omega, fun c hc => by obtain ⟨a, _, rfl⟩ := List.mem_map.1 hc; rfl, ⟨_, ?_, ?_, h41, ?_⟩, ?_, ?_⟩, ?_⟩
  · have : (dats (l.take (i + 1))).length = i + 1 := by rw [dats_len, List.length_take]; omega
    rw [this]; exact h4
  · rw [dats_snoc l i hlt]
    refine (hrI.ext hext).append ?_
    exact .cons (.sc _) (.cons (.sc _) (.cons (.sc _) (.cons (.sc _) (.cons .ow .nil))))
  · intro p e' k' l' hp hk
    obtain ⟨j, hj, rfl, he1, he2, he3⟩ := dats_flat_at _ _ _ _ _ hp
    have hj2 : j < i + 1 := by rw [List.length_take] at hj; omega
    by_cases hji : j = i
    · subst hji
      refine ⟨?_, ?_⟩
      · rw [List.getElem?_append_right (by omega)]
        dsimp only
        rw [if_neg (e1 _), if_pos rfl, hxl, Nat.add_sub_cancel_left]
        rfl
      · have hl : l' = cutsL l[j].cuts := by rw [he3]; congr 2; exact List.getElem_take
        subst he1
        subst he2
        subst hl
        have hv : (if nid 0 (j * 5 + 4) = 0 then v4 else if nid 0 (j * 5 + 4) = nid 0 (j * 5 + 4) then vc else gv (nid 0 (j * 5 + 4))) = vc := by rw [if_neg (e1 _), if_pos rfl]
        refine ⟨by omega, fun c hc => by obtain ⟨a, _, rfl⟩ := List.mem_map.1 hc; rfl, ⟨zs, ?_, hzs.ext hext0, hz1⟩, fun b hb => ?_⟩
        · dsimp only
          rw [hv, cutsL_len]
          exact ownsRow_keep hvc hk2
        · dsimp only at hb
          rw [hv] at hb
          have := hcb b hb
          exact lmz_old (by omega)
    · have hjl : j < i := by omega
      have hpo : (dats (l.take i)).flatten[j * 5 + 4]? = some (.ow e' k' l') := by
        rw [dats_snoc l i hlt, List.getElem?_append_left (by rw [dats_flat_len, List.length_take]; omega)] at hp
        exact hp
      obtain ⟨q1, q2, q3, ⟨ys, q4, q5, q6⟩, q7⟩ := h7 _ _ _ _ hpo hk
      have hv : (if nid 0 (j * 5 + 4) = 0 then v4 else if nid 0 (j * 5 + 4) = nid 0 (i * 5 + 4) then vc else gv (nid 0 (j * 5 + 4))) = gv (nid 0 (j * 5 + 4)) := by rw [if_neg (e1 _), if_neg (e2 _ _ (by omega))]
      refine ⟨?_, q2, q3, ⟨ys, ?_, q5.ext hext, q6⟩, fun b hb => ?_⟩
      · rw [List.getElem?_append_left (by omega), q1]
        dsimp only
        rw [hv]
      · dsimp only
        rw [hv]
        refine ownsRow_keep q4 fun b hb => hk1 b (owns_block q4 hb).2 fun h => ?_
        have z1 := hown _ b (ids_dp.2 (.inr ⟨_, _, _, _, hpo, hk, rfl⟩)) hb
        have z2 := hown 0 b (.self _ _) (by rw [hg0]; exact h)
        exact e1 _ (z1.symm.trans z2)
      · dsimp only at hb
        rw [hv] at hb
        exact q7 b hb
  · intro b hb
    dsimp only at hb
    rw [if_pos rfl] at hb
    exact lmz_old (owns_block h4 hb).1
  · intro p hp
    obtain ⟨_, _, _, _, h, _⟩ := dats_flat_at _ _ _ _ _ hp
    omega
  · refine ⟨fun b => if blk v4 = some b then 0 else if blk vc = some b then nid 0 (i * 5 + 4) else own b, fun x b hx hb => ?_⟩
    dsimp only at hb ⊢
    rcases ids_dp.1 hx with rfl | ⟨p, e', k', l', hp, hk, rfl⟩
    · rw [if_pos rfl] at hb
      rw [if_pos hb]
    · obtain ⟨j, hj, rfl, he1, he2, he3⟩ := dats_flat_at _ _ _ _ _ hp
      have hj2 : j < i + 1 := by rw [List.length_take] at hj; omega
      rw [if_neg (e1 _)] at hb
      by_cases hji : j = i
      · subst hji
        rw [if_pos rfl] at hb
        have h1 := hcb b hb
        rw [if_neg fun h => by
          rcases h4b b h with h | h
          · have := h3b b h; omega
          · exact h.2 hb, if_pos hb]
      · rw [if_neg (e2 _ _ (by omega))] at hb
        have hpo : (dats (l.take i)).flatten[j * 5 + 4]? = some (.ow e' k' l') := by
          rw [dats_snoc l i hlt, List.getElem?_append_left (by rw [dats_flat_len, List.length_take]; omega)] at hp
          exact hp
        obtain ⟨q1, q2, q3, ⟨ys, q4, q5, q6⟩, q7⟩ := h7 _ _ _ _ hpo hk
        have hlt2 := (owns_block q4 hb).2
        have z1 := hown _ b (ids_dp.2 (.inr ⟨_, _, _, _, hpo, hk, rfl⟩)) hb
        rw [if_neg fun h => by
          rcases h4b b h with h | h
          · have z2 := hown 0 b (.self _ _) (by rw [hg0]; exact h)
            exact e1 _ (z1.symm.trans z2)
          · omega, if_neg fun h => by have := hcb b h; omega]
        exact z1
end Go.Proofs.Ytihgpnfkadldeaa.AM
