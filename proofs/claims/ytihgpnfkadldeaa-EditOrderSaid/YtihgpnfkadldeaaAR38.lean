/- Plain: where texts go among atoms that are code points; what is seen of what Upon makes. -/
import Derived.Test.YtihgpnfkadldeaaAR37
namespace Go.Proofs.Ytihgpnfkadldeaa.AM
set_option linter.unusedSimpArgs false
set_option linter.unusedVariables false
open Go Go.Proofs.Ytihgpnfkadldeaa.U
/-- All texts. -/
def tl (l : List At) : List UInt8 := (l.map fun a => a.txt).flatMap L
theorem tl_append (a b : List At) : tl (a ++ b) = tl a ++ tl b := by simp [tl]
theorem tl_all (rev : Int) (u : List Int) (l : List At) (h : ∀ a ∈ l, a.vis rev u = true) : txtF rev u l = tl l := txtF_all rev u l h
theorem L_chS (v : Int) : L (chS v) = enc v := L_mk _
/-- Texts that are code points. -/
def okTx (l : List At) : Prop := ∀ a ∈ l, ∃ v, sc v ∧ a.txt = chS v
theorem okTx.vs : ∀ {l : List At}, okTx l → ∃ vs : List Int, (∀ v ∈ vs, sc v) ∧ (l.map fun a => a.txt) = vs.map chS
  | [], _ => ⟨[], by simp, rfl⟩
  | a :: l, h => by
    obtain ⟨v, h1, h2⟩ := h a (by simp)
    obtain ⟨vs, h3, h4⟩ := okTx.vs (l := l) fun b hb => h b (by simp [hb])
    exact ⟨v :: vs, by simpa [h1] using h3, by rw [List.map_cons, List.map_cons, h2, h4]⟩
theorem encs_chS (vs : List Int) : (vs.map chS).flatMap L = encs vs := by
  induction vs with
  | nil => rfl
  | cons v vs ih => rw [List.map_cons, List.flatMap_cons, ih, L_chS]; rfl
theorem newAts_ok (s : List UInt8) (rv gr rk : Int) : okTx (newAts s rv gr rk) := by
  intro a h
  obtain ⟨v, hv, rfl⟩ := List.mem_map.1 h
  exact ⟨v, points_sc _ v hv, rfl⟩
theorem tl_new (s : List UInt8) (rv gr rk : Int) : tl (newAts s rv gr rk) = clean s := by
  unfold tl; rw [newAts_txts, ptsS_flat]
theorem okTx.size {l : List At} (h : okTx l) : ∀ a ∈ l, 1 ≤ a.txt.size ∧ a.txt.size ≤ 4 := by
  intro a ha
  obtain ⟨v, _, h2⟩ := h a ha
  rw [h2]
  have : (chS v).size = (enc v).length := size_mk _
  rw [this]; exact enc_len v
/-- A valid part of the text is made by the first atoms. -/
theorem split_at (l : List At) (h : okTx l) (e : Nat) (ha : valid ((tl l).take e) = true) : ∃ k, k ≤ l.length ∧ tl (l.take k) = (tl l).take e ∧ tl (l.drop k) = (tl l).drop e := by
  obtain ⟨vs, h1, h2⟩ := h.vs
  have hlen : l.length = vs.length := by have := congrArg List.length h2; simpa using this
  have ht : tl l = encs vs := by unfold tl; rw [h2, encs_chS]
  rw [ht] at ha ⊢
  have hp : points ((encs vs).take e ++ (encs vs).drop e) = points ((encs vs).take e) ++ points ((encs vs).drop e) := points_append ha _
  rw [List.take_append_drop, points_encs' vs h1] at hp
  have htk : ∀ k, tl (l.take k) = encs (vs.take k) := fun k => by unfold tl; rw [List.map_take, h2, ← List.map_take, encs_chS]
  obtain ⟨ps, qs, hv, he⟩ : ∃ ps qs, vs = ps ++ qs ∧ encs ps = (encs vs).take e := ⟨_, _, hp, clean_of_valid _ ha⟩
  have hk : vs.take ps.length = ps := by rw [hv, List.take_left]
  refine ⟨ps.length, ?_, ?_, ?_⟩
  · rw [hlen, hv, List.length_append]; omega
  · rw [htk, hk, he]
  · have h5 := tl_append (l.take ps.length) (l.drop ps.length)
    rw [List.take_append_drop, ht, htk, hk, he] at h5
    have h6 := (List.take_append_drop e (encs vs)).symm
    rw [h5] at h6
    have h7 : (encs vs).take e ++ tl (l.drop ps.length) = (encs vs).take e ++ (encs vs).drop e := by
      rw [List.take_append_drop]; exact h5.symm
    exact List.append_cancel_left h7
theorem txtF_pos (rev : Int) (u : List Int) (l : List At) (h : ∀ a ∈ l, a.vis rev u = true ∧ 1 ≤ a.txt.size) (hl : l ≠ []) : 1 ≤ (txtF rev u l).length := by
  cases l with
  | nil => exact absurd rfl hl
  | cons a l =>
    obtain ⟨h1, h2⟩ := h a (by simp)
    rw [txtF, if_pos h1, List.length_append, L_len]; omega
/-- Behind the atoms that are seen ahead of a place. -/
theorem atI_split (rev : Int) (u : List Int) (l1 l2 : List At) (h : ∀ a ∈ l1, a.vis rev u = true ∧ 1 ≤ a.txt.size) : ∀ i, i ≤ (l1 ++ l2).length → atI rev u ((txtF rev u l1).length : Nat) (l1 ++ l2) (places rev u (l1 ++ l2)) i = min i l1.length := by
  intro i
  induction i with
  | zero => intro _; rw [atI]; omega
  | succ i ih =>
    intro hi
    have ih := ih (by omega)
    have hp := places_at rev u (l1 ++ l2) i (by omega)
    have hi' : i < (l1 ++ l2).length := by omega
    have hok : okAt rev u ((txtF rev u l1).length : Nat) (l1 ++ l2) (places rev u (l1 ++ l2)) i = (decide ((((txtF rev u ((l1 ++ l2).take i)).length : Nat) : Int) < ((txtF rev u l1).length : Nat)) && ((l1 ++ l2)[i]).vis rev u) := by
      unfold okAt
      rw [hp, List.getElem?_eq_getElem hi']
    rw [atI, ih]
    rcases Nat.lt_or_ge i l1.length with c | c
    · have e1 : (l1 ++ l2).take i = l1.take i := List.take_append_of_le_length (by omega)
      have e2 : (l1 ++ l2)[i] = l1[i] := List.getElem_append_left c
      have e3 : txtF rev u l1 = txtF rev u (l1.take i) ++ txtF rev u (l1.drop i) := by rw [← txtF_append, List.take_append_drop]
      have e4 := txtF_pos rev u (l1.drop i) (fun a ha => h a (List.mem_of_mem_drop ha)) (by
        intro e; have := congrArg List.length e; rw [List.length_drop] at this; simp at this; omega)
      have e5 : (txtF rev u (l1.take i)).length < (txtF rev u l1).length := by rw [e3, List.length_append]; omega
      rw [e1, e2, (h _ (List.getElem_mem c)).1, decide_eq_true (by omega), Bool.true_and] at hok
      rw [if_pos hok]
      omega
    · have e1 : (l1 ++ l2).take i = l1 ++ l2.take (i - l1.length) := by rw [List.take_append, List.take_of_length_le c]
      have e5 : ¬ (((txtF rev u (l1 ++ l2.take (i - l1.length))).length : Nat) : Int) < ((txtF rev u l1).length : Nat) := by rw [txtF_append, List.length_append]; omega
      rw [e1, decide_eq_false e5, Bool.false_and] at hok
      rw [if_neg (by rw [hok]; simp)]
      omega
theorem spotF_split (rev : Int) (u : List Int) (rank : Int) (l1 l2 : List At) (h : ∀ a ∈ l1, a.vis rev u = true ∧ 1 ≤ a.txt.size) (fr : Int) (hf : fr = ((txtF rev u l1).length : Nat)) :
    spotF rev u rank (l1 ++ l2) (places rev u (l1 ++ l2)) fr = l1.length + skN rev rank l2 := by
  subst hf
  unfold spotF
  rw [atI_split rev u l1 l2 h _ (Nat.le_refl _)]
  have : min (l1 ++ l2).length l1.length = l1.length := by rw [List.length_append]; omega
  rw [this, List.drop_left]
theorem skN_zero (rev rank : Int) (l : List At) (h : ∀ a ∈ l, a.rv ≤ rev) : skN rev rank l = 0 := by
  cases l with
  | nil => rfl
  | cons a l => rw [skN, if_neg]; have := h a (by simp); omega
theorem vis_rv {a : At} {rev : Int} {u : List Int} (h : a.vis rev u = true) : a.rv ≤ rev := by
  unfold At.vis at h
  simp only [Bool.and_eq_true, decide_eq_true_eq] at h
  exact h.1.1
/-- At an edge: as many atoms as make the text ahead of it. -/
theorem spot_edge (rev : Int) (u : List Int) (rank : Int) (l : List At) (hv : ∀ a ∈ l, a.vis rev u = true) (ho : okTx l) (e : Int) (he : edge (txtS rev u l) e = true) :
    spotF rev u rank l (places rev u l) e ≤ l.length ∧ tl (l.take (spotF rev u rank l (places rev u l) e)) = (tl l).take e.toNat ∧ tl (l.drop (spotF rev u rank l (places rev u l) e)) = (tl l).drop e.toNat := by
  obtain ⟨h0, h1, h2, h3⟩ := edge_split he
  have hL : L (txtS rev u l) = tl l := by rw [← tl_all rev u l hv]; exact L_mk _
  rw [hL] at h2
  rw [← L_len, hL] at h1
  obtain ⟨k, hk, e1, e2⟩ := split_at l ho e.toNat h2
  have hs : spotF rev u rank (l.take k ++ l.drop k) (places rev u (l.take k ++ l.drop k)) e = (l.take k).length + skN rev rank (l.drop k) :=
    spotF_split rev u rank (l.take k) (l.drop k) (fun a ha => ⟨hv a (List.mem_of_mem_take ha), (ho.size a (List.mem_of_mem_take ha)).1⟩) e (by
      rw [tl_all rev u (l.take k) fun a ha => hv a (List.mem_of_mem_take ha), e1, List.length_take]; omega)
  rw [List.take_append_drop, skN_zero rev rank _ fun a ha => vis_rv (hv a (List.mem_of_mem_drop ha)), List.length_take, Nat.add_zero, Nat.min_eq_left hk] at hs
  rw [hs]
  exact ⟨hk, e1, e2⟩
/-- The atoms with the cuts, one by one. -/
def zU (rev : Int) (u : List Int) (c : List Ch) (now gr : Int) : List At → List Int → List At
  | a :: l, n :: ns => (if a.vis rev u = true ∧ c.any (hitB n) = true then cutAt a now gr else a) :: zU rev u c now gr l ns
  | l, _ => l
theorem cutI_mid (now gr : Int) (p : List At) (a : At) (l : List At) : cutI now gr (p ++ a :: l) (p.length : Nat) = p ++ cutAt a now gr :: l := by
  unfold cutI
  rw [Int.toNat_natCast, List.getElem?_append_right (Nat.le_refl _), Nat.sub_self, List.getElem?_cons_zero]
  simp [List.set_append_right]
theorem cutIs_zU (rev : Int) (u : List Int) (c : List Ch) (now gr : Int) : ∀ (l : List At) (ns : List Int) (p : List At), cutIs now gr (cutsI rev u c l ns (p.length : Nat)) (p ++ l) = p ++ zU rev u c now gr l ns
  | [], ns, p => by cases ns <;> rfl
  | a :: l, [], p => rfl
  | a :: l, n :: ns, p => by
    rw [cutsI, zU]
    by_cases h : a.vis rev u = true ∧ c.any (hitB n) = true
    · rw [if_pos h, if_pos h]
      show cutIs now gr (cutsI rev u c l ns ((p.length : Nat) + 1)) (cutI now gr (p ++ a :: l) (p.length : Nat)) = _
      rw [cutI_mid]
      have ih := cutIs_zU rev u c now gr l ns (p ++ [cutAt a now gr])
      rw [List.length_append] at ih
      simpa using ih
    · rw [if_neg h, if_neg h]
      have ih := cutIs_zU rev u c now gr l ns (p ++ [a])
      rw [List.length_append] at ih
      simpa using ih
theorem uponF_zU (l : List At) (rev : Int) (u : List Int) (c : List Ch) (now gr rk : Int) (h : chk (txtS rev u l) c = 0) : uponF l rev u c now gr rk = mrg now gr rk (zU rev u c now gr l (places rev u l)) (spotsF l rev u c rk) c 0 := by
  rw [uponF_eq]
  unfold cutsF
  rw [if_pos h]
  have := cutIs_zU rev u c now gr l (places rev u l) []
  rw [List.nil_append, List.nil_append] at this
  rw [← this]; rfl
theorem zU_len (rev : Int) (u : List Int) (c : List Ch) (now gr : Int) : ∀ (l : List At) (ns : List Int), (zU rev u c now gr l ns).length = l.length
  | [], ns => by cases ns <;> rfl
  | a :: l, [] => rfl
  | a :: l, n :: ns => by rw [zU, List.length_cons, List.length_cons, zU_len rev u c now gr l ns]
theorem zU_at (rev : Int) (u : List Int) (c : List Ch) (now gr : Int) : ∀ (l : List At) (ns : List Int) (i : Nat) (a : At) (n : Int), l[i]? = some a → ns[i]? = some n → (zU rev u c now gr l ns)[i]? = some (if a.vis rev u = true ∧ c.any (hitB n) = true then cutAt a now gr else a)
  | [], ns, i, a, n, h, _ => by simp at h
  | b :: l, [], i, a, n, _, h => by simp at h
  | b :: l, m :: ns, 0, a, n, h1, h2 => by
    simp only [List.getElem?_cons_zero, Option.some.injEq] at h1 h2
    subst h1; subst h2; rw [zU]; rfl
  | b :: l, m :: ns, i + 1, a, n, h1, h2 => by
    rw [List.getElem?_cons_succ] at h1 h2
    rw [zU, List.getElem?_cons_succ]
    exact zU_at rev u c now gr l ns i a n h1 h2
theorem zU_none (rev : Int) (u : List Int) (c : List Ch) (now gr : Int) (hc : ∀ x ∈ c, x.t ≤ x.f) : ∀ (l : List At) (ns : List Int), zU rev u c now gr l ns = l
  | [], ns => by cases ns <;> rfl
  | a :: l, [] => rfl
  | a :: l, n :: ns => by
    have : c.any (hitB n) = false := by
      rw [List.any_eq_false]
      intro x hx
      have := hc x hx
      unfold hitB
      simp; omega
    rw [zU, if_neg (by rw [this]; simp), zU_none rev u c now gr hc l ns]
theorem zU_mem (rev : Int) (u : List Int) (c : List Ch) (now gr : Int) : ∀ (l : List At) (ns : List Int), ∀ b ∈ zU rev u c now gr l ns, ∃ a ∈ l, b = a ∨ b = cutAt a now gr
  | [], ns, b, h => by cases ns <;> simp [zU] at h
  | a :: l, [], b, h => ⟨b, h, Or.inl rfl⟩
  | a :: l, n :: ns, b, h => by
    rw [zU] at h
    rcases List.mem_cons.1 h with rfl | h
    · refine ⟨a, by simp, ?_⟩
      split
      · exact Or.inr rfl
      · exact Or.inl rfl
    · obtain ⟨x, h1, h2⟩ := zU_mem rev u c now gr l ns b h
      exact ⟨x, by simp [h1], h2⟩
/-- New atoms that aren't seen change nothing. -/
theorem mrg_hide (now gr rk rev : Int) (u : List Int) (z : List At) : ∀ (sp : List Int) (c : List Ch) (k : Nat), (∀ x ∈ c, ∀ a ∈ newAts (L x.s) now gr rk, a.vis rev u = false) → Up z.length sp k → txtF rev u (mrg now gr rk z sp c k) = txtF rev u (z.drop k)
  | [], c, k, _, _ => by
    have : mrg now gr rk z [] c k = z.drop k := by cases c <;> rfl
    rw [this]
  | s :: sp, [], k, _, _ => rfl
  | s :: sp, x :: c, k, hc, hu => by
    obtain ⟨h0, h1, h2, h3⟩ := hu
    rw [mrg, txtF_append, txtF_append, mrg_hide now gr rk rev u z sp c s.toNat (fun y hy => hc y (by simp [hy])) h3, txtF_none rev u _ (hc x (by simp)), List.append_nil, ← txtF_append]
    congr 1
    have := List.take_append_drop (s.toNat - k) (z.drop k)
    rw [List.drop_drop, show k + (s.toNat - k) = s.toNat by omega] at this
    exact this
theorem txtF_eq_tl (rev : Int) (u : List Int) (z l : List At) (h : ∀ a ∈ z, a.vis rev u = true) (e : (z.map fun a => a.txt) = l.map fun a => a.txt) : txtF rev u z = tl l := by
  rw [tl_all rev u z h]; unfold tl; rw [e]
theorem zU_txts (rev : Int) (u : List Int) (c : List Ch) (now gr : Int) : ∀ (l : List At) (ns : List Int), ((zU rev u c now gr l ns).map fun a => a.txt) = l.map fun a => a.txt
  | [], ns => by cases ns <;> rfl
  | a :: l, [] => rfl
  | a :: l, n :: ns => by
    rw [zU, List.map_cons, List.map_cons, zU_txts rev u c now gr l ns]
    congr 1
    split <;> rfl
end Go.Proofs.Ytihgpnfkadldeaa.AM
