/- Plain: what is seen of atoms with an edit upon all that can be seen is the edit's text. -/
import Derived.Test.YtihgpnfkadldeaaAR38
namespace Go.Proofs.Ytihgpnfkadldeaa.AM
set_option linter.unusedSimpArgs false
set_option linter.unusedVariables false
open Go Go.Proofs.Ytihgpnfkadldeaa.U
theorem tl_pos {l : List At} (h : okTx l) (hl : l ≠ []) : 1 ≤ (tl l).length := by
  cases l with
  | nil => exact absurd rfl hl
  | cons a l =>
    have := (h.size a (by simp)).1
    show 1 ≤ ((L a.txt) ++ tl l).length
    rw [List.length_append, L_len]; omega
theorem sg_add {α : Type} (z : List α) (a b c : Nat) (h1 : a ≤ b) (h2 : b ≤ c) : (z.drop a).take (c - a) = (z.drop a).take (b - a) ++ (z.drop b).take (c - b) := by
  have := List.take_add (l := z.drop a) (i := b - a) (j := c - b)
  rw [List.drop_drop, show a + (b - a) = b by omega, show b - a + (c - b) = c - a by omega] at this
  exact this
theorem sg_mem {α : Type} (z : List α) (a b : Nat) (x : α) (h : x ∈ (z.drop a).take (b - a)) : ∃ i, a ≤ i ∧ i < b ∧ z[i]? = some x := by
  obtain ⟨i, hi⟩ := List.mem_iff_getElem?.1 h
  rw [List.getElem?_take] at hi
  split at hi
  · rw [List.getElem?_drop] at hi
    exact ⟨a + i, by omega, by omega, hi⟩
  · simp at hi
theorem sg_eq {α : Type} (z l : List α) (a b : Nat) (h : ∀ i, a ≤ i → i < b → z[i]? = l[i]?) : (z.drop a).take (b - a) = (l.drop a).take (b - a) := by
  apply List.ext_getElem?
  intro i
  rw [List.getElem?_take, List.getElem?_take]
  split
  · rw [List.getElem?_drop, List.getElem?_drop]
    exact h (a + i) (by omega) (by omega)
  · rfl
section
variable (rev now gr rk : Int) (l : List At) (hv : ∀ a ∈ l, a.vis rev [] = true) (ho : okTx l) (hv2 : ∀ a ∈ l, a.vis now [] = true) (C0 : List Ch)
include hv
theorem Lts : L (txtS rev [] l) = tl l := by rw [← tl_all rev [] l hv]; exact L_mk _
/-- The place of the i-th atom. -/
theorem pl_at (i : Nat) (hi : i ≤ l.length) : (places rev [] l)[i]? = some (((tl (l.take i)).length : Nat) : Int) := by
  rw [places_at rev [] l i hi, tl_all rev [] _ fun a ha => hv a (List.mem_of_mem_take ha)]
include ho
theorem K_lt (e : Int) (he : edge (txtS rev [] l) e = true) (i : Nat) (hi : i < spotF rev [] rk l (places rev [] l) e) : ((tl (l.take i)).length : Int) < e := by
  obtain ⟨k1, k2, k3⟩ := spot_edge rev [] rk l hv ho e he
  obtain ⟨h0, h1, h2, h3⟩ := edge_split he
  rw [← L_len, Lts rev l hv] at h1
  generalize spotF rev [] rk l (places rev [] l) e = K at *
  have e1 : tl (l.take K) = tl (l.take i) ++ tl ((l.take K).drop i) := by
    rw [← tl_append]
    congr 1
    have := List.take_append_drop i (l.take K)
    rw [List.take_take, Nat.min_eq_left (by omega)] at this
    exact this.symm
  have e2 : 1 ≤ (tl ((l.take K).drop i)).length := tl_pos (fun a ha => ho a (List.mem_of_mem_take (List.mem_of_mem_drop ha))) (by
    intro e; have := congrArg List.length e; rw [List.length_drop, List.length_take] at this; simp at this; omega)
  have e3 := congrArg List.length e1
  rw [k2, List.length_take, List.length_append] at e3
  omega
theorem K_ge (e : Int) (he : edge (txtS rev [] l) e = true) (i : Nat) (hi : spotF rev [] rk l (places rev [] l) e ≤ i) : e ≤ ((tl (l.take i)).length : Int) := by
  obtain ⟨k1, k2, k3⟩ := spot_edge rev [] rk l hv ho e he
  obtain ⟨h0, h1, h2, h3⟩ := edge_split he
  rw [← L_len, Lts rev l hv] at h1
  generalize spotF rev [] rk l (places rev [] l) e = K at *
  have e1 : tl (l.take i) = tl (l.take K) ++ tl ((l.take i).drop K) := by
    rw [← tl_append]
    congr 1
    have := List.take_append_drop K (l.take i)
    rw [List.take_take, Nat.min_eq_left (by omega)] at this
    exact this.symm
  have e3 := congrArg List.length e1
  rw [k2, List.length_append, List.length_take] at e3
  omega
include hv2
theorem does (hcv : ∀ a ∈ l, (cutAt a now gr).vis now [] = false) (hnew : ∀ x ∈ C0, txtF now [] (newAts (L x.s) now gr rk) = L x.s) : ∀ (c : List Ch) (k j : Int), Chain (txtS rev [] l) c k → (∀ x ∈ c, edge (txtS rev [] l) x.f = true ∧ edge (txtS rev [] l) x.t = true) → edge (txtS rev [] l) k = true → edge (txtS rev [] l) j = true → j ≤ k → (∀ x ∈ C0, x.t ≤ k ∨ x ∈ c) → (∀ x ∈ c, x ∈ C0) → (∀ n : Int, j ≤ n → n < k → C0.any (hitB n) = true) →
    txtF now [] (mrg now gr rk (zU rev [] C0 now gr l (places rev [] l)) (c.map fun x => (spotF rev [] rk l (places rev [] l) x.f : Int)) c (spotF rev [] rk l (places rev [] l) j)) = doF (txtS rev [] l) c k := by
  have hz : ∀ i (hi : i < l.length), (zU rev [] C0 now gr l (places rev [] l))[i]? = some (if C0.any (hitB ((tl (l.take i)).length : Nat)) = true then cutAt l[i] now gr else l[i]) := by
    intro i hi
    rw [zU_at rev [] C0 now gr l (places rev [] l) i l[i] _ (List.getElem?_eq_getElem hi) (pl_at rev l hv i (by omega))]
    congr 1
    simp [hv l[i] (List.getElem_mem hi)]
  have hzl := zU_len rev [] C0 now gr l (places rev [] l)
  have hLs := Lts rev l hv
  have hKl : ∀ e, spotF rev [] rk l (places rev [] l) e ≤ l.length := fun e => spotF_le rev [] rk l _ e
  have hge := K_ge rev rk l hv ho
  have hlt := K_lt rev rk l hv ho
  have hsp := fun e => spot_edge rev [] rk l hv ho e
  have hmono := fun (f g : Int) (h : f ≤ g) => spotF_mono rev [] rk l (places rev [] l) f g h
  generalize zU rev [] C0 now gr l (places rev [] l) = z at *
  generalize hK : (fun e => spotF rev [] rk l (places rev [] l) e) = K at *
  have hK' : ∀ e, spotF rev [] rk l (places rev [] l) e = K e := fun e => congrFun hK e
  simp only [hK'] at *
  generalize txtS rev [] l = s at *
  -- what is cut
  have cutS : ∀ j k : Int, edge s j = true → edge s k = true → (∀ n : Int, j ≤ n → n < k → C0.any (hitB n) = true) → txtF now [] ((z.drop (K j)).take (K k - K j)) = [] := by
    intro j k hj hk h
    refine txtF_none now [] _ fun x hx => ?_
    obtain ⟨i, i1, i2, i3⟩ := sg_mem z _ _ x hx
    have hi : i < l.length := by have := hKl k; omega
    rw [hz i hi, if_pos (h _ (hge j hj i i1) (hlt k hk i i2))] at i3
    rw [← Option.some.inj i3]
    exact hcv _ (List.getElem_mem hi)
  -- what stays
  have keepS : ∀ (k : Int) (b : Nat), edge s k = true → K k ≤ b → b ≤ l.length → (∀ i, K k ≤ i → i < b → C0.any (hitB ((tl (l.take i)).length : Nat)) = false) → txtF now [] ((z.drop (K k)).take (b - K k)) = tl ((l.drop (K k)).take (b - K k)) := by
    intro k b hk h1 h2 h
    rw [sg_eq z l (K k) b fun i i1 i2 => by
      rw [hz i (by omega), if_neg (by rw [h i i1 i2]; simp), List.getElem?_eq_getElem (by omega)]]
    exact tl_all now [] _ fun a ha => hv2 a (List.mem_of_mem_drop (List.mem_of_mem_take ha))
  intro c
  induction c with
  | nil =>
    intro k j hch he hk hj hjk hC hc hcut
    have m1 := hmono j k hjk
    have hb := hKl k
    obtain ⟨k1, k2, k3⟩ := hsp k hk
    show txtF now [] (z.drop (K j)) = (L s).drop k.toNat
    have e1 : z.drop (K j) = (z.drop (K j)).take (l.length - K j) := (List.take_of_length_le (by rw [List.length_drop, hzl]; exact Nat.le_refl _)).symm
    rw [e1, sg_add z (K j) (K k) l.length m1 hb, txtF_append, cutS j k hj hk hcut, List.nil_append, keepS k l.length hk hb (Nat.le_refl _) fun i i1 i2 => by
      rw [List.any_eq_false]
      intro x hx
      have h1 := hge k hk i i1
      rcases hC x hx with h | h
      · unfold hitB; simp; omega
      · simp at h]
    rw [List.take_of_length_le (by rw [List.length_drop]; exact Nat.le_refl _), k3, hLs]
  | cons x c ih =>
    intro k j hch he hk hj hjk hC hc hcut
    obtain ⟨g0, g1, g2, g3, g4⟩ := hch
    obtain ⟨ef, et⟩ := he x (by simp)
    have m1 := hmono j k hjk
    have m2 := hmono k x.f g1
    have hb := hKl x.f
    obtain ⟨k1, k2, k3⟩ := hsp k hk
    obtain ⟨f1, f2, f3⟩ := hsp x.f ef
    rw [List.map_cons, mrg, doF, txtF_append, txtF_append, Int.toNat_natCast, sg_add z (K j) (K k) (K x.f) m1 m2, txtF_append, cutS j k hj hk hcut, List.nil_append, hnew x (hc x (by simp)), keepS k (K x.f) hk m2 hb fun i i1 i2 => by
      rw [List.any_eq_false]
      intro y hy
      have h1 := hge k hk i i1
      have h2 := hlt x.f ef i i2
      rcases hC y hy with h | h
      · unfold hitB; simp; omega
      · rcases List.mem_cons.1 h with rfl | h
        · unfold hitB; simp; omega
        · have := chain_ge s c x.t g4 y h
          unfold hitB; simp; omega]
    rw [ih x.t x.f g4 (fun y hy => he y (by simp [hy])) et ef g2 (fun y hy => by
      rcases hC y hy with h | h
      · left; omega
      · rcases List.mem_cons.1 h with rfl | h
        · left; omega
        · right; exact h) (fun y hy => hc y (by simp [hy])) (fun n n1 n2 => by
      rw [List.any_eq_true]
      exact ⟨x, hc x (by simp), by unfold hitB; simp; omega⟩)]
    congr 2
    have e1 : tl (l.take (K x.f)) = tl (l.take (K k)) ++ tl ((l.drop (K k)).take (K x.f - K k)) := by
      rw [← tl_append]
      congr 1
      have := List.take_add (l := l) (i := K k) (j := K x.f - K k)
      rw [show K k + (K x.f - K k) = K x.f by omega] at this
      exact this
    rw [f2, k2] at e1
    rw [hLs]
    have e2 : ((tl l).take x.f.toNat).drop k.toNat = tl ((l.drop (K k)).take (K x.f - K k)) := by
      rw [e1, List.drop_append]
      have hkl : ((tl l).take k.toNat).length = min k.toNat (tl l).length := List.length_take
      have e3 : ((tl l).take k.toNat).drop k.toNat = [] := List.drop_eq_nil_of_le (by rw [hkl]; omega)
      have hle : k.toNat ≤ (tl l).length := by
        obtain ⟨_, q, _, _⟩ := edge_split hk
        rw [← L_len, hLs] at q; omega
      rw [e3, hkl, Nat.min_eq_left hle, Nat.sub_self, List.nil_append, List.drop_zero]
    rw [← e2, List.drop_take]
    congr 1
    omega
end
end Go.Proofs.Ytihgpnfkadldeaa.AM
