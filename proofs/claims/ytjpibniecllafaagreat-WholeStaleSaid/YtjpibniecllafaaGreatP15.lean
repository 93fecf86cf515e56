/- Made by pack.py: AR37, AR38, RE6, RE7, RE8, RE9, RE10, AR39, AR40, RF1, AT0. No condition but what each says. -/
import Derived.Test.YtjpibniecllafaaGreatP14
import Derived.Test.YtjpibniecllafaaGreatP12
import Derived.Test.YtjpibniecllafaaGreatP11
set_option linter.unusedSimpArgs false
set_option linter.unusedVariables false
section
namespace Go.Proofs.YtjpibniecllafaaGreat.AM
open Go Go.Proofs.YtjpibniecllafaaGreat.U
theorem Tm3 (now gr rk : Int) (z : List At) : ∀ (sp : List Int) (c : List Ch) (k : Nat), ∀ a ∈ mrg now gr rk z sp c k, a ∈ z ∨ ∃ x ∈ c, a ∈ newAts (L x.s) now gr rk
 | [], c, k, a, h => by
  have : mrg now gr rk z [] c k = z.drop k := by cases c <;> rfl
  rw [this] at h; exact Or.inl (List.mem_of_mem_drop h)
 | s :: sp, [], k, a, h => Or.inl (List.mem_of_mem_drop h)
 | s :: sp, x :: c, k, a, h => by
  rw [mrg] at h
  simp only [List.mem_append] at h
  rcases h with (h | h) | h
  · exact Or.inl (List.mem_of_mem_drop (List.mem_of_mem_take h))
  · exact Or.inr ⟨x, by simp, h⟩
  · rcases Tm3 now gr rk z sp c _ a h with h | ⟨y, hy, h⟩
    · exact Or.inl h
    · exact Or.inr ⟨y, by simp [hy], h⟩
theorem Tbo {s : List UInt8} {rv gr rk : Int} {a : At} (h : a ∈ newAts s rv gr rk) : a.cuts = [] ∧ a.rv = rv ∧ a.gr = gr ∧ a.rk = rk ∧ 1 ≤ a.txt.size ∧ a.txt.size ≤ 4 := by
 obtain ⟨v, hv, rfl⟩ := List.mem_map.1 h
 have : (chS v).size = (enc v).length := Tca _
 have h2 := Tc5 v
 refine ⟨rfl, rfl, rfl, rfl, ?_, ?_⟩
 · show 1 ≤ (chS v).size; omega
 · show (chS v).size ≤ 4; omega
theorem Tm4 (m : Nat) : ∀ z : List At, (∀ a ∈ z, a.txt.size ≤ m) → sumT z ≤ m * z.length := by
 intro z
 induction z with
 | nil => intro _; simp [sumT]
 | cons a z ih =>
  intro h
  rw [Td5, List.length_cons, Nat.mul_succ]
  have h1 := h a (by simp)
  have h2 := ih fun b hb => h b (by simp [hb])
  omega
theorem Ts2 (l : List At) (hl : l.length < 1000000) (ht : ∀ a ∈ l, a.txt.size ≤ 1000) (hc : ∀ a ∈ l, a.cuts.length < 1000000) : Fit2 l :=
 ⟨⟨by omega, by have := Tm4 1000 l ht; omega, fun a ha => by have := hc a ha; omega⟩, by have := Tm4 1000 l ht; omega⟩
def tl (l : List At) : List UInt8 := (l.map fun a => a.txt).flatMap L
theorem Ts3 (a b : List At) : tl (a ++ b) = tl a ++ tl b := by simp [tl]
theorem Twy (rev : Int) (u : List Int) (l : List At) (h : ∀ a ∈ l, a.vis rev u = true) : txtF rev u l = tl l := Tog rev u l h
theorem L_chS (v : Int) : L (chS v) = enc v := L_mk _
def okTx (l : List At) : Prop := ∀ a ∈ l, ∃ v, sc v ∧ a.txt = chS v
theorem okTx.vs : ∀ {l : List At}, okTx l → ∃ vs : List Int, (∀ v ∈ vs, sc v) ∧ (l.map fun a => a.txt) = vs.map chS
 | [], _ => ⟨[], by simp, rfl⟩
 | a :: l, h => by
  obtain ⟨v, h1, h2⟩ := h a (by simp)
  obtain ⟨vs, h3, h4⟩ := okTx.vs (l := l) fun b hb => h b (by simp [hb])
  exact ⟨v :: vs, by simpa [h1] using h3, by rw [List.map_cons, List.map_cons, h2, h4]⟩
theorem Tki (vs : List Int) : (vs.map chS).flatMap L = encs vs := by
 induction vs with
 | nil => rfl
 | cons v vs ih => rw [List.map_cons, List.flatMap_cons, ih, L_chS]; rfl
theorem Tfh (s : List UInt8) (rv gr rk : Int) : okTx (newAts s rv gr rk) := by
 intro a h
 obtain ⟨v, hv, rfl⟩ := List.mem_map.1 h
 exact ⟨v, Td3 _ v hv, rfl⟩
theorem Ts4 (s : List UInt8) (rv gr rk : Int) : tl (newAts s rv gr rk) = clean s := by
 unfold tl; rw [Tmq, Tsf]
theorem okTx.size {l : List At} (h : okTx l) : ∀ a ∈ l, 1 ≤ a.txt.size ∧ a.txt.size ≤ 4 := by
 intro a ha
 obtain ⟨v, _, h2⟩ := h a ha
 rw [h2]
 have : (chS v).size = (enc v).length := Tca _
 rw [this]; exact Tc5 v
theorem Tv1 (l : List At) (h : okTx l) (e : Nat) (ha : valid ((tl l).take e) = true) : ∃ k, k ≤ l.length ∧ tl (l.take k) = (tl l).take e ∧ tl (l.drop k) = (tl l).drop e := by
 obtain ⟨vs, h1, h2⟩ := h.vs
 have hlen : l.length = vs.length := by have := congrArg List.length h2; simpa using this
 have ht : tl l = encs vs := by unfold tl; rw [h2, Tki]
 rw [ht] at ha ⊢
 have hp : points ((encs vs).take e ++ (encs vs).drop e) = points ((encs vs).take e) ++ points ((encs vs).drop e) := Tj0 ha _
 rw [List.take_append_drop, Tgd vs h1] at hp
 have htk : ∀ k, tl (l.take k) = encs (vs.take k) := fun k => by unfold tl; rw [List.map_take, h2, ← List.map_take, Tki]
 obtain ⟨ps, qs, hv, he⟩ : ∃ ps qs, vs = ps ++ qs ∧ encs ps = (encs vs).take e := ⟨_, _, hp, Ta5 _ ha⟩
 have hk : vs.take ps.length = ps := by rw [hv, List.take_left]
 refine ⟨ps.length, ?_, ?_, ?_⟩
 · rw [hlen, hv, List.length_append]; omega
 · rw [htk, hk, he]
 · have h5 := Ts3 (l.take ps.length) (l.drop ps.length)
   rw [List.take_append_drop, ht, htk, hk, he] at h5
   have h6 := (List.take_append_drop e (encs vs)).symm
   rw [h5] at h6
   have h7 : (encs vs).take e ++ tl (l.drop ps.length) = (encs vs).take e ++ (encs vs).drop e := by
    rw [List.take_append_drop]; exact h5.symm
   exact List.append_cancel_left h7
theorem Tv2 (rev : Int) (u : List Int) (l : List At) (h : ∀ a ∈ l, a.vis rev u = true ∧ 1 ≤ a.txt.size) (hl : l ≠ []) : 1 ≤ (txtF rev u l).length := by
 cases l with
 | nil => exact absurd rfl hl
 | cons a l =>
  obtain ⟨h1, h2⟩ := h a (by simp)
  rw [txtF, if_pos h1, List.length_append, L_len]; omega
theorem Ts5 (rev : Int) (u : List Int) (l1 l2 : List At) (h : ∀ a ∈ l1, a.vis rev u = true ∧ 1 ≤ a.txt.size) : ∀ i, i ≤ (l1 ++ l2).length → atI rev u ((txtF rev u l1).length : Nat) (l1 ++ l2) (places rev u (l1 ++ l2)) i = min i l1.length := by
 intro i
 induction i with
 | zero => intro _; rw [atI]; omega
 | succ i ih =>
  intro hi
  have ih := ih (by omega)
  have hp := Tff rev u (l1 ++ l2) i (by omega)
  have hi' : i < (l1 ++ l2).length := by omega
  have hok : okAt rev u ((txtF rev u l1).length : Nat) (l1 ++ l2) (places rev u (l1 ++ l2)) i = (decide ((((txtF rev u ((l1 ++ l2).take i)).length : Nat) : Int) < ((txtF rev u l1).length : Nat)) && ((l1 ++ l2)[i]).vis rev u) := by
   unfold okAt
   rw [hp, List.getElem?_eq_getElem hi']
  rw [atI, ih]
  rcases Nat.lt_or_ge i l1.length with c | c
  · have e1 : (l1 ++ l2).take i = l1.take i := List.take_append_of_le_length (by omega)
    have e2 : (l1 ++ l2)[i] = l1[i] := List.getElem_append_left c
    have e3 : txtF rev u l1 = txtF rev u (l1.take i) ++ txtF rev u (l1.drop i) := by rw [← Tay, List.take_append_drop]
    have e4 := Tv2 rev u (l1.drop i) (fun a ha => h a (List.mem_of_mem_drop ha)) (by
     intro e; have := congrArg List.length e; rw [List.length_drop] at this; simp at this; omega)
    have e5 : (txtF rev u (l1.take i)).length < (txtF rev u l1).length := by rw [e3, List.length_append]; omega
    rw [e1, e2, (h _ (List.getElem_mem c)).1, decide_eq_true (by omega), Bool.true_and] at hok
    rw [if_pos hok]
    omega
  · have e1 : (l1 ++ l2).take i = l1 ++ l2.take (i - l1.length) := by rw [List.take_append, List.take_of_length_le c]
    have e5 : ¬ (((txtF rev u (l1 ++ l2.take (i - l1.length))).length : Nat) : Int) < ((txtF rev u l1).length : Nat) := by rw [Tay, List.length_append]; omega
    rw [e1, decide_eq_false e5, Bool.false_and] at hok
    rw [if_neg (by rw [hok]; simp)]
    omega
theorem Tm5 (rev : Int) (u : List Int) (rank : Int) (l1 l2 : List At) (h : ∀ a ∈ l1, a.vis rev u = true ∧ 1 ≤ a.txt.size) (fr : Int) (hf : fr = ((txtF rev u l1).length : Nat)) :
 spotF rev u rank (l1 ++ l2) (places rev u (l1 ++ l2)) fr = l1.length + skN rev rank l2 := by
 subst hf
 unfold spotF
 rw [Ts5 rev u l1 l2 h _ (Nat.le_refl _)]
 have : min (l1 ++ l2).length l1.length = l1.length := by rw [List.length_append]; omega
 rw [this, List.drop_left]
theorem Tv3 (rev rank : Int) (l : List At) (h : ∀ a ∈ l, a.rv ≤ rev) : skN rev rank l = 0 := by
 cases l with
 | nil => rfl
 | cons a l => rw [skN, if_neg]; have := h a (by simp); omega
def zU (rev : Int) (u : List Int) (c : List Ch) (now gr : Int) : List At → List Int → List At
 | a :: l, n :: ns => (if a.vis rev u = true ∧ c.any (hitB n) = true then cutAt a now gr else a) :: zU rev u c now gr l ns
 | l, _ => l
theorem Tv4 (now gr : Int) (p : List At) (a : At) (l : List At) : cutI now gr (p ++ a :: l) (p.length : Nat) = p ++ cutAt a now gr :: l := by
 unfold cutI
 rw [Int.toNat_natCast, List.getElem?_append_right (Nat.le_refl _), Nat.sub_self, List.getElem?_cons_zero]
 simp [List.set_append_right]
theorem Tkj (rev : Int) (u : List Int) (c : List Ch) (now gr : Int) : ∀ (l : List At) (ns : List Int) (p : List At), cutIs now gr (cutsI rev u c l ns (p.length : Nat)) (p ++ l) = p ++ zU rev u c now gr l ns
 | [], ns, p => by cases ns <;> rfl
 | a :: l, [], p => rfl
 | a :: l, n :: ns, p => by
  rw [cutsI, zU]
  by_cases h : a.vis rev u = true ∧ c.any (hitB n) = true
  · rw [if_pos h, if_pos h]
    show cutIs now gr (cutsI rev u c l ns ((p.length : Nat) + 1)) (cutI now gr (p ++ a :: l) (p.length : Nat)) = _
    rw [Tv4]
    have ih := Tkj rev u c now gr l ns (p ++ [cutAt a now gr])
    rw [List.length_append] at ih
    simpa using ih
  · rw [if_neg h, if_neg h]
    have ih := Tkj rev u c now gr l ns (p ++ [a])
    rw [List.length_append] at ih
    simpa using ih
theorem Tel (l : List At) (rev : Int) (u : List Int) (c : List Ch) (now gr rk : Int) (h : chk (txtS rev u l) c = 0) : uponF l rev u c now gr rk = mrg now gr rk (zU rev u c now gr l (places rev u l)) (spotsF l rev u c rk) c 0 := by
 rw [Tv0]
 unfold cutsF
 rw [if_pos h]
 have := Tkj rev u c now gr l (places rev u l) []
 rw [List.nil_append, List.nil_append] at this
 rw [← this]; rfl
theorem Tlu (rev : Int) (u : List Int) (c : List Ch) (now gr : Int) : ∀ (l : List At) (ns : List Int), (zU rev u c now gr l ns).length = l.length
 | [], ns => by cases ns <;> rfl
 | a :: l, [] => rfl
 | a :: l, n :: ns => by rw [zU, List.length_cons, List.length_cons, Tlu rev u c now gr l ns]
theorem zU_at (rev : Int) (u : List Int) (c : List Ch) (now gr : Int) : ∀ (l : List At) (ns : List Int) (i : Nat) (a : At) (n : Int), l[i]? = some a → ns[i]? = some n → (zU rev u c now gr l ns)[i]? = some (if a.vis rev u = true ∧ c.any (hitB n) = true then cutAt a now gr else a)
 | [], ns, i, a, n, h, _ => by simp at h
 | b :: l, [], i, a, n, _, h => by simp at h
 | b :: l, m :: ns, 0, a, n, h1, h2 => by
  simp only [List.getElem?_cons_zero, oIE] at h1 h2
  subst h1; subst h2; rw [zU]; rfl
 | b :: l, m :: ns, i + 1, a, n, h1, h2 => by
  rw [List.getElem?_cons_succ] at h1 h2
  rw [zU, List.getElem?_cons_succ]
  exact zU_at rev u c now gr l ns i a n h1 h2
theorem Tm6 (rev : Int) (u : List Int) (c : List Ch) (now gr : Int) (hc : ∀ x ∈ c, x.t ≤ x.f) : ∀ (l : List At) (ns : List Int), zU rev u c now gr l ns = l
 | [], ns => by cases ns <;> rfl
 | a :: l, [] => rfl
 | a :: l, n :: ns => by
  have : c.any (hitB n) = false := by
   rw [List.any_eq_false]
   intro x hx
   have := hc x hx
   unfold hitB
   simp; omega
  rw [zU, if_neg (by rw [this]; simp), Tm6 rev u c now gr hc l ns]
theorem Twz (rev : Int) (u : List Int) (c : List Ch) (now gr : Int) : ∀ (l : List At) (ns : List Int), ∀ b ∈ zU rev u c now gr l ns, ∃ a ∈ l, b = a ∨ b = cutAt a now gr
 | [], ns, b, h => by cases ns <;> simp [zU] at h
 | a :: l, [], b, h => ⟨b, h, Or.inl rfl⟩
 | a :: l, n :: ns, b, h => by
  rw [zU] at h
  rcases List.mem_cons.1 h with rfl | h
  · refine ⟨a, by simp, ?_⟩
    split
    · exact Or.inr rfl
    · exact Or.inl rfl
  · obtain ⟨x, h1, h2⟩ := Twz rev u c now gr l ns b h
    exact ⟨x, by simp [h1], h2⟩
end Go.Proofs.YtjpibniecllafaaGreat.AM
end
section
namespace Go.Proofs.YtjpibniecllafaaGreat.AM
open Go Go.Proofs.YtjpibniecllafaaGreat.U
structure Eng where
 l : List At
 U : List (List Int)
 fl : Int
 G : List Int
 F : List Int
namespace Eng
def ut (E : Eng) (r : Int) : List Int := undU E.U E.fl r
def textAt (E : Eng) (r : Int) : ByteArray := txtS r (E.ut r) E.l
def txt (E : Eng) : ByteArray := headT E.l E.U E.fl
abbrev hp (E : Eng) : List (Nat × Ob) := engH (ats E.l) E.U E.fl E.G E.F
abbrev hp2 (E E' : Eng) : List (Nat × Ob) := engH2 (ats E'.l) E.U E.fl E.G E.F E'.U E'.fl E'.G E'.F
def upon (E : Eng) (b g rk : Int) (c : List Ch) : List At := uponF E.l b (E.ut b) c (E.fl + E.U.length) g rk
def edit (E : Eng) (b g rk : Int) (c : List Ch) : Int × Int × Eng :=
 if ¬ (E.fl ≤ b ∧ b ≤ E.fl + E.U.length - 1) then (0, 190, E)
 else if chk (E.textAt b) c ≠ 0 then (0, chk (E.textAt b) c, E)
 else if g ∈ E.F ∨ g < 0 ∨ 60 ≤ g then (0, 210, E)
 else if 200 ≤ E.fl + E.U.length - 1 then (0, 70, E)
 else if rk < 0 ∨ 1000000 < rk then (0, 10, E)
 else if 4000 < (E.upon b g rk c).length then (0, 70, E)
 else if 20000 < (headT (E.upon b g rk c) (E.U ++ [lastS E.U]) E.fl).size then (0, 13, E)
 else (E.fl + E.U.length, 0, ⟨E.upon b g rk c, E.U ++ [lastS E.U], E.fl, insS g E.G, E.F⟩)
def toggle (E : Eng) (g : Int) : Int × Int × Eng :=
 if g ∉ E.G then (0, 210, E)
 else if 200 ≤ E.fl + E.U.length - 1 then (0, 70, E)
 else if 20000 < (headT E.l (togU E.U g) E.fl).size then (0, 13, E)
 else (E.fl + E.U.length, 0, ⟨E.l, togU E.U g, E.fl, E.G, E.F⟩)
def new : Eng := ⟨[], [[]], 0, [], []⟩
end Eng
structure EOk (E : Eng) : Prop where
 len : E.l.length ≤ 4000
 tx : okTx E.l
 cuts : ∀ a ∈ E.l, (a.cuts.length : Int) ≤ E.fl + E.U.length - 1
 u1 : 1 ≤ E.U.length
 fl0 : 0 ≤ E.fl
 hd : E.fl + E.U.length - 1 ≤ 200
 us : ∀ s ∈ E.U, (s.length : Int) ≤ E.fl + E.U.length - 1
theorem EOk.new : EOk Eng.new := ⟨by simp [Eng.new], fun a h => by simp [Eng.new] at h, fun a h => by simp [Eng.new] at h, by simp [Eng.new], by simp [Eng.new], by simp [Eng.new], fun s h => by simp [Eng.new] at h; subst h; simp [Eng.new]⟩
theorem Tv5 (U : List (List Int)) (fl r : Int) : undU U fl r = [] ∨ undU U fl r ∈ U := by
 unfold undU
 split
 · rename_i h
   have : (r - fl).toNat < U.length := by omega
   right
   rw [List.getD_eq_getElem?_getD, List.getElem?_eq_getElem this]
   exact List.getElem_mem this
 · exact Or.inl rfl
theorem Tdh (U : List (List Int)) (h : 1 ≤ U.length) : lastS U ∈ U := by
 have : U ≠ [] := fun e => by rw [e] at h; simp at h
 unfold lastS
 rw [List.getLastD_eq_getLast?, List.getLast?_eq_some_getLast this]
 exact List.getLast_mem this
theorem Tkk (g : Int) : ∀ s : List Int, (insS g s).length ≤ s.length + 1
 | [] => by simp [insS]
 | x :: s => by
  have := Tkk g s
  unfold insS
  split
  · simp
  · split <;> simp <;> omega
namespace EOk
variable {E : Eng} (H : EOk E)
include H
theorem ul (r : Int) : (undU E.U E.fl r).length ≤ 9223372036854775807 := by
 have := H.hd
 rcases Tv5 E.U E.fl r with h | h
 · rw [h]; simp
 · have := H.us _ h; omega
theorem cl : ∀ a ∈ E.l, a.cuts.length ≤ 200 := fun a ha => by have := H.cuts a ha; have := H.hd; omega
theorem fit2 : Fit2 E.l := Ts2 E.l (by have := H.len; omega) (fun a ha => by have := H.tx.size a ha; omega) (fun a ha => by have := H.cl a ha; omega)
end EOk
theorem okTx.mrg {now gr rk : Int} {z : List At} (hz : okTx z) (sp : List Int) (c : List Ch) (k : Nat) : okTx (mrg now gr rk z sp c k) := by
 intro a ha
 rcases Tm3 now gr rk z sp c k a ha with h | ⟨x, _, h⟩
 · exact hz a h
 · exact Tfh _ now gr rk a h
theorem Tgs (l : List At) (rev : Int) (u : List Int) (c : List Ch) (now gr rk : Int) : ∀ a ∈ uponF l rev u c now gr rk, (∃ b ∈ l, a = b ∨ a = cutAt b now gr) ∨ ∃ x ∈ c, a ∈ newAts (L x.s) now gr rk := by
 intro a ha
 by_cases c0 : chk (txtS rev u l) c = 0
 · rw [Tel l rev u c now gr rk c0] at ha
   rcases Tm3 now gr rk _ _ c 0 a ha with h | h
   · exact Or.inl (Twz rev u c now gr l _ a h)
   · exact Or.inr h
 · unfold uponF at ha
   rw [if_neg c0] at ha
   exact Or.inl ⟨a, ha, Or.inl rfl⟩
theorem Ts6 {l : List At} (h : okTx l) (rev : Int) (u : List Int) (c : List Ch) (now gr rk : Int) : okTx (uponF l rev u c now gr rk) := by
 intro a ha
 rcases Tgs l rev u c now gr rk a ha with ⟨b, hb, rfl | rfl⟩ | ⟨x, _, h⟩
 · exact h _ hb
 · exact h b hb
 · exact Tfh _ now gr rk a h
theorem Tlv (l : List At) (rev : Int) (u : List Int) (c : List Ch) (now gr rk : Int) (m : Int) (h0 : 0 ≤ m) (h : ∀ a ∈ l, (a.cuts.length : Int) ≤ m) : ∀ a ∈ uponF l rev u c now gr rk, (a.cuts.length : Int) ≤ m + 1 := by
 intro a ha
 rcases Tgs l rev u c now gr rk a ha with ⟨b, hb, rfl | rfl⟩ | ⟨x, _, hx⟩
 · have := h _ hb; omega
 · have := h b hb
   have e : (cutAt b now gr).cuts.length = b.cuts.length + 1 := by simp [cutAt]
   omega
 · rw [(Tbo hx).1]; simp; omega
theorem EOk.edit {E : Eng} (H : EOk E) (b g rk : Int) (c : List Ch) : EOk (E.edit b g rk c).2.2 := by
 unfold Eng.edit
 repeat' split
 all_goals first | exact H | skip
 rename_i h1 h2 h3 h4 h5 h6 h7
 have hl := Tdh E.U H.u1
 have h0 := H.fl0
 have hu := H.u1
 refine ⟨by show (E.upon b g rk c).length ≤ 4000; omega, Ts6 H.tx _ _ _ _ _ _, ?_, by simp, H.fl0, ?_, ?_⟩
 · intro a ha
   have := Tlv E.l b (E.ut b) c (E.fl + E.U.length) g rk (E.fl + E.U.length - 1) (by omega) H.cuts a ha
   simp only [List.length_append, List.length_singleton]
   omega
 · simp only [List.length_append, List.length_singleton]
   omega
 · intro s hs
   simp only [List.length_append, List.length_singleton]
   rcases List.mem_append.1 hs with h | h
   · have := H.us s h; omega
   · rw [List.mem_singleton] at h
     subst h
     have := H.us _ hl; omega
theorem EOk.toggle {E : Eng} (H : EOk E) (g : Int) : EOk (E.toggle g).2.2 := by
 unfold Eng.toggle
 repeat' split
 all_goals first | exact H | skip
 rename_i h1 h2 h3
 have hl := Tdh E.U H.u1
 have h0 := H.fl0
 have hu := H.u1
 have e : (togU E.U g).length = E.U.length + 1 := by simp [togU]
 refine ⟨H.len, H.tx, ?_, ?_, H.fl0, ?_, ?_⟩
 · intro a ha
   have := H.cuts a ha
   show (a.cuts.length : Int) ≤ E.fl + ((togU E.U g).length : Int) - 1
   omega
 · show 1 ≤ (togU E.U g).length; omega
 · show E.fl + ((togU E.U g).length : Int) - 1 ≤ 200
   omega
 · intro s hs
   show (s.length : Int) ≤ E.fl + ((togU E.U g).length : Int) - 1
   have hs' : s ∈ togU E.U g := hs
   unfold togU at hs'
   rcases List.mem_append.1 hs' with h | h
   · have := H.us s h; omega
   · have h5 := H.us _ hl
     have h6 : (s.length : Int) ≤ (lastS E.U).length + 1 := by
      rw [List.mem_singleton] at h
      subst h
      split
      · have := List.length_filter_le (fun x => decide (x ≠ g)) (lastS E.U)
        unfold delS; omega
      · have := Tkk g (lastS E.U); omega
     omega
end Go.Proofs.YtjpibniecllafaaGreat.AM
end
section
namespace Go.Proofs.YtjpibniecllafaaGreat.AM
open Go Go.Proofs.YtjpibniecllafaaGreat.U
attribute [local simp] cellR thereV RV.sv innE inlE reach pos subH SV.mapr RV.mapr Ob.mapr SV.refs RV.id? RV.ref Ob.refs noRow shnE shrE okK closeB freshs at0 newS leftS finishS oneS manyS allP sameFz Ob.noPin startS entryS List.range_succ List.filterMap_cons List.filterMap_nil SV.rv fzvs fzv liveV liveR rcellss rcells fillQ fixN RV.isNil revO
variable {cp : List PV → Option Ret}
def ChW (c : List Ch) : Prop := c.length ≤ 9223372036854775807 ∧ ∀ x ∈ c, x.s.size < 1000000
abbrev cEdit (E : Eng) (b g rk : Int) (c : List Ch) : List PV := [.hp [.mp 0 0 0, .p (pi b), .p (pi g), .p (pi rk), .p (.sl 3 (chs c))] E.hp]
section
variable (E : Eng) (H : EOk E) (b g rk : Int) (c : List Ch)
include H
set_option maxHeartbeats 4000000 in
theorem Ts7 (hb : ¬ (E.fl ≤ b ∧ b ≤ E.fl + E.U.length - 1)) : Run (EX cp) 1000021 (cEdit E b g rk c) = some (.shr (.p (.tu [pi 0, pi 190])) E.hp) := by
 have _h := H
 have h1 := Ti1 (cp := cp) (ats E.l) E.U E.fl E.G E.F b hb
 simp only [engH] at h1
 rw [Tbi _ 21 A_engine_Engine_Edit _ _ (by decide) (by decide) rfl rfl rfl rfl rfl (by simp [Eng.hp, engH])]
 simp (disch := omega) [A_engine_Engine_Edit, Eng.hp, engH, h1]
set_option maxHeartbeats 4000000 in
theorem Tv6 (hw : ChW c) (hb : E.fl ≤ b ∧ b ≤ E.fl + E.U.length - 1) (hk : chk (E.textAt b) c ≠ 0) : Run (EX cp) 1000021 (cEdit E b g rk c) = some (.shr (.p (.tu [pi 0, pi (chk (E.textAt b) c)])) E.hp) := by
 have h1 := engText (cp := cp) E.l E.U E.fl E.G E.F b H.fit2.fit (H.ul b) hb
 have h2 := editCheck (cp := cp) (E.textAt b) c (H.fit2.txt b (E.ut b)) hw.1 (fun x hx => by have := hw.2 x hx; omega)
 have h1' : txtS b (undU E.U E.fl b) E.l = E.textAt b := rfl
 rw [h1'] at h1
 generalize E.textAt b = t at *
 generalize chk t c = n at *
 simp only [engH] at h1
 rw [Tbi _ 21 A_engine_Engine_Edit _ _ (by decide) (by decide) rfl rfl rfl rfl rfl (by simp [Eng.hp, engH])]
 simp (disch := omega) [A_engine_Engine_Edit, Eng.hp, engH, h1, h2, hk, Taa, Tac]
variable (hw : ChW c) (hb : E.fl ≤ b ∧ b ≤ E.fl + E.U.length - 1) (hk : chk (E.textAt b) c = 0) (hg : inR g)
include hw hb hk hg
set_option maxHeartbeats 4000000 in
theorem To1 (n : Int) (hn : n ≠ 0) (ha : revAdd E.U E.fl E.G E.F g = .shr (.p (.tu [pi 0, pi n])) [(0, revO E.U E.fl E.G E.F)]) : Run (EX cp) 1000021 (cEdit E b g rk c) = some (.shr (.p (.tu [pi 0, pi n])) E.hp) := by
 have h1 := engText (cp := cp) E.l E.U E.fl E.G E.F b H.fit2.fit (H.ul b) hb
 have h2 := editCheck (cp := cp) (E.textAt b) c (H.fit2.txt b (E.ut b)) hw.1 (fun x hx => by have := hw.2 x hx; omega)
 have h1' : txtS b (undU E.U E.fl b) E.l = E.textAt b := rfl
 rw [h1'] at h1
 rw [hk] at h2
 have h3 := engCopy (cp := cp) E.l E.U E.fl E.G E.F (by have := H.len; omega) (fun a ha => by have := H.cl a ha; omega)
 have h4 := Tbc (cp := cp) E.U E.fl E.G E.F g hg
 rw [ha] at h4
 simp only [engH, revO] at h1 h3 h4
 rw [Tbi _ 21 A_engine_Engine_Edit _ _ (by decide) (by decide) rfl rfl rfl rfl rfl (by simp [Eng.hp, engH])]
 simp (disch := omega) [A_engine_Engine_Edit, Eng.hp, engH, h1, h2, h3, h4, hn, Taa, Tac]
variable (ha : revAdd E.U E.fl E.G E.F g = .shr (.p (.tu [pi (E.fl + E.U.length), pi 0])) [(0, revO (E.U ++ [lastS E.U]) E.fl (insS g E.G) E.F)])
include ha
set_option maxHeartbeats 4000000 in
theorem Ts8 (hr : rk < 0 ∨ 1000000 < rk) : Run (EX cp) 1000021 (cEdit E b g rk c) = some (.shr (.p (.tu [pi 0, pi 10])) E.hp) := by
 have h1 := engText (cp := cp) E.l E.U E.fl E.G E.F b H.fit2.fit (H.ul b) hb
 have h2 := editCheck (cp := cp) (E.textAt b) c (H.fit2.txt b (E.ut b)) hw.1 (fun x hx => by have := hw.2 x hx; omega)
 have h1' : txtS b (undU E.U E.fl b) E.l = E.textAt b := rfl
 rw [h1'] at h1
 rw [hk] at h2
 have h3 := engCopy (cp := cp) E.l E.U E.fl E.G E.F (by have := H.len; omega) (fun a ha => by have := H.cl a ha; omega)
 have h4 := Tbc (cp := cp) E.U E.fl E.G E.F g hg
 rw [ha] at h4
 simp only [engH, revO] at h1 h3 h4
 rw [Tbi _ 21 A_engine_Engine_Edit _ _ (by decide) (by decide) rfl rfl rfl rfl rfl (by simp [Eng.hp, engH])]
 by_cases r1 : rk < 0
 · simp (disch := omega) [A_engine_Engine_Edit, Eng.hp, engH, h1, h2, h3, h4, Taa, Tac]
 · simp (disch := omega) [A_engine_Engine_Edit, Eng.hp, engH, h1, h2, h3, h4, Taa, Tac]
end
end Go.Proofs.YtjpibniecllafaaGreat.AM
end
section
namespace Go.Proofs.YtjpibniecllafaaGreat.AM
open Go Go.Proofs.YtjpibniecllafaaGreat.U
attribute [local simp] cellR thereV RV.sv innE inlE reach pos subH SV.mapr RV.mapr Ob.mapr SV.refs RV.id? RV.ref Ob.refs noRow shnE shrE okK closeB freshs at0 newS leftS finishS oneS manyS allP sameFz Ob.noPin startS entryS List.range_succ List.filterMap_cons List.filterMap_nil SV.rv fzvs fzv liveV liveR rcellss rcells fillQ fixN RV.isNil revO
variable {cp : List PV → Option Ret}
section
variable (E : Eng) (H : EOk E) (b g rk : Int) (c : List Ch)
include H
variable (hw : ChW c) (hb : E.fl ≤ b ∧ b ≤ E.fl + E.U.length - 1) (hk : chk (E.textAt b) c = 0) (hg : inR g)
include hw hb hk hg
variable (ha : revAdd E.U E.fl E.G E.F g = .shr (.p (.tu [pi (E.fl + E.U.length), pi 0])) [(0, revO (E.U ++ [lastS E.U]) E.fl (insS g E.G) E.F)]) (hr : 0 ≤ rk ∧ rk ≤ 1000000)
include ha hr
set_option maxHeartbeats 4000000 in
theorem Ts9 (hn : 4000 < (E.upon b g rk c).length) : Run (EX cp) 1000021 (cEdit E b g rk c) = some (.shr (.p (.tu [pi 0, pi 70])) E.hp) := by
 have h1 := engText (cp := cp) E.l E.U E.fl E.G E.F b H.fit2.fit (H.ul b) hb
 have h2 := editCheck (cp := cp) (E.textAt b) c (H.fit2.txt b (E.ut b)) hw.1 (fun x hx => by have := hw.2 x hx; omega)
 have h1' : txtS b (undU E.U E.fl b) E.l = E.textAt b := rfl
 rw [h1'] at h1
 rw [hk] at h2
 have h3 := engCopy (cp := cp) E.l E.U E.fl E.G E.F (by have := H.len; omega) (fun a ha => by have := H.cl a ha; omega)
 have h4 := Tbc (cp := cp) E.U E.fl E.G E.F g hg
 rw [ha] at h4
 have h5 := engUndoneAt (cp := cp) (ats E.l) E.U E.fl E.G E.F b
 have h6 := editUpon (cp := cp) E.l b (undU E.U E.fl b) c (E.fl + E.U.length) g rk H.fit2 (by have := H.len; omega) (fun a ha => by have := H.cl a ha; omega) (H.ul b) hw.1 hw.2
 have e6 : uponF E.l b (undU E.U E.fl b) c (E.fl + E.U.length) g rk = E.upon b g rk c := rfl
 rw [e6] at h6
 have r1 : decide (rk < 0) = false := decide_eq_false (by omega)
 have r2 : decide (1000000 < rk) = false := decide_eq_false (by omega)
 have hlen : (ats (E.upon b g rk c)).length = (E.upon b g rk c).length := Tdu _
 generalize E.upon b g rk c = l' at *
 have r3 : decide ((4000 : Int) < (l'.length : Int)) = true := decide_eq_true (by omega)
 simp only [engH, revO] at h1 h3 h4 h5
 rw [Tbi _ 21 A_engine_Engine_Edit _ _ (by decide) (by decide) rfl rfl rfl rfl rfl (by simp [Eng.hp, engH])]
 simp (disch := omega) [A_engine_Engine_Edit, Eng.hp, engH, h1, h2, h3, h4, h5, h6, hlen, Taa, Tac]
set_option maxHeartbeats 4000000 in
theorem Tta (hn : (E.upon b g rk c).length ≤ 4000) (hs : 20000 < (headT (E.upon b g rk c) (E.U ++ [lastS E.U]) E.fl).size) (hf : Fit (E.upon b g rk c)) (hu : (undU (E.U ++ [lastS E.U]) E.fl (E.fl + (E.U ++ [lastS E.U]).length - 1)).length ≤ 9223372036854775807) :
 Run (EX cp) 1000021 (cEdit E b g rk c) = some (.shr (.p (.tu [pi 0, pi 13])) E.hp) := by
 have h1 := engText (cp := cp) E.l E.U E.fl E.G E.F b H.fit2.fit (H.ul b) hb
 have h2 := editCheck (cp := cp) (E.textAt b) c (H.fit2.txt b (E.ut b)) hw.1 (fun x hx => by have := hw.2 x hx; omega)
 have h1' : txtS b (undU E.U E.fl b) E.l = E.textAt b := rfl
 rw [h1'] at h1
 rw [hk] at h2
 have h3 := engCopy (cp := cp) E.l E.U E.fl E.G E.F (by have := H.len; omega) (fun a ha => by have := H.cl a ha; omega)
 have h4 := Tbc (cp := cp) E.U E.fl E.G E.F g hg
 rw [ha] at h4
 have h5 := engUndoneAt (cp := cp) (ats E.l) E.U E.fl E.G E.F b
 have h6 := editUpon (cp := cp) E.l b (undU E.U E.fl b) c (E.fl + E.U.length) g rk H.fit2 (by have := H.len; omega) (fun a ha => by have := H.cl a ha; omega) (H.ul b) hw.1 hw.2
 have e6 : uponF E.l b (undU E.U E.fl b) c (E.fl + E.U.length) g rk = E.upon b g rk c := rfl
 rw [e6] at h6
 have h7 := engFits (cp := cp) (E.upon b g rk c) (E.U ++ [lastS E.U]) E.fl (insS g E.G) E.F hf (by simp) hu
 rw [decide_eq_false (by omega : ¬ ((headT (E.upon b g rk c) (E.U ++ [lastS E.U]) E.fl).size : Int) ≤ 20000)] at h7
 have r1 : decide (rk < 0) = false := decide_eq_false (by omega)
 have r2 : decide (1000000 < rk) = false := decide_eq_false (by omega)
 have hlen : (ats (E.upon b g rk c)).length = (E.upon b g rk c).length := Tdu _
 generalize E.upon b g rk c = l' at *
 have r3 : decide ((4000 : Int) < (l'.length : Int)) = false := decide_eq_false (by omega)
 simp only [engH, revO] at h1 h3 h4 h5 h7
 rw [Tbi _ 21 A_engine_Engine_Edit _ _ (by decide) (by decide) rfl rfl rfl rfl rfl (by simp [Eng.hp, engH])]
 simp (disch := omega) [A_engine_Engine_Edit, Eng.hp, engH, h1, h2, h3, h4, h5, h6, h7, hlen, Taa, Tac]
end
end Go.Proofs.YtjpibniecllafaaGreat.AM
end
section
namespace Go.Proofs.YtjpibniecllafaaGreat.AM
open Go Go.Proofs.YtjpibniecllafaaGreat.U
attribute [local simp] cellR thereV RV.sv innE inlE reach pos subH SV.mapr RV.mapr Ob.mapr SV.refs RV.id? RV.ref Ob.refs noRow shnE shrE okK closeB freshs at0 newS leftS finishS oneS manyS allP sameFz Ob.noPin startS entryS List.range_succ List.filterMap_cons List.filterMap_nil SV.rv fzvs fzv liveV liveR rcellss rcells fillQ fixN RV.isNil revO
variable {cp : List PV → Option Ret}
theorem Td7 (U : List (List Int)) (fl : Int) (s : List Int) (h0 : 0 ≤ fl) : undU (U ++ [s]) fl (fl + (U ++ [s]).length - 1) = s := by
 unfold undU
 rw [if_pos (by simp; omega)]
 have e : (fl + ((U ++ [s]).length : Int) - 1 - fl).toNat = U.length := by simp; omega
 rw [e]
 simp
section
variable (E : Eng) (H : EOk E) (b g rk : Int) (c : List Ch)
include H
theorem EOk.fitN (hn : (E.upon b g rk c).length ≤ 4000) : Fit2 (E.upon b g rk c) := by
 have h1 : okTx (E.upon b g rk c) := Ts6 H.tx _ _ _ _ _ _
 have h2 : ∀ a ∈ E.upon b g rk c, (a.cuts.length : Int) ≤ E.fl + E.U.length - 1 + 1 := Tlv E.l b (E.ut b) c (E.fl + E.U.length) g rk (E.fl + E.U.length - 1) (by have := H.fl0; have := H.u1; omega) H.cuts
 have h3 := H.hd
 exact Ts2 _ (by omega) (fun a ha => by have := h1.size a ha; omega) (fun a ha => by have := h2 a ha; omega)
theorem Tkl (hw : ChW c) (hg : inR g) : Run (EX cp) 1000021 (cEdit E b g rk c) = some (.shr (.p (.tu [pi (E.edit b g rk c).1, pi (E.edit b g rk c).2.1])) (if (E.edit b g rk c).2.1 = 0 then E.hp2 (E.edit b g rk c).2.2 else E.hp)) := by
 unfold Eng.edit
 by_cases c1 : E.fl ≤ b ∧ b ≤ E.fl + E.U.length - 1
 case neg =>
  rw [if_pos c1]
  exact Ts7 E H b g rk c c1
 rw [if_neg (fun h => h c1)]
 by_cases c2 : chk (E.textAt b) c = 0
 case neg =>
  rw [if_pos c2]
  rw [Tv6 E H b g rk c hw c1 c2]
  show _ = some (Ret.shr _ (if chk (E.textAt b) c = 0 then _ else E.hp))
  rw [if_neg c2]
 rw [if_neg (fun h => h c2)]
 have e0 : revAdd E.U E.fl E.G E.F g = if g ∈ E.F ∨ g < 0 ∨ 60 ≤ g then .shr (.p (.tu [pi 0, pi 210])) [(0, revO E.U E.fl E.G E.F)]
  else if 200 ≤ E.fl + E.U.length - 1 then .shr (.p (.tu [pi 0, pi 70])) [(0, revO E.U E.fl E.G E.F)]
  else .shr (.p (.tu [pi (E.fl + E.U.length), pi 0])) [(0, revO (E.U ++ [lastS E.U]) E.fl (insS g E.G) E.F)] := rfl
 by_cases c3 : g ∈ E.F ∨ g < 0 ∨ 60 ≤ g
 · rw [if_pos c3]
   rw [if_pos c3] at e0
   exact To1 E H b g rk c hw c1 c2 hg 210 (by omega) e0
 rw [if_neg c3]
 rw [if_neg c3] at e0
 by_cases c4 : 200 ≤ E.fl + (E.U.length : Int) - 1
 · rw [if_pos c4]
   rw [if_pos c4] at e0
   exact To1 E H b g rk c hw c1 c2 hg 70 (by omega) e0
 rw [if_neg c4]
 rw [if_neg c4] at e0
 by_cases c5 : rk < 0 ∨ 1000000 < rk
 · rw [if_pos c5]
   exact Ts8 E H b g rk c hw c1 c2 hg e0 c5
 rw [if_neg c5]
 by_cases c6 : 4000 < (E.upon b g rk c).length
 · rw [if_pos c6]
   exact Ts9 E H b g rk c hw c1 c2 hg e0 (by omega) c6
 rw [if_neg c6]
 have hf := EOk.fitN E H b g rk c (by omega)
 have hu : (undU (E.U ++ [lastS E.U]) E.fl (E.fl + (E.U ++ [lastS E.U]).length - 1)).length ≤ 9223372036854775807 := by
  rw [Td7 _ _ _ H.fl0]
  have := H.us _ (Tdh E.U H.u1); have := H.hd; omega
 by_cases c7 : 20000 < (headT (E.upon b g rk c) (E.U ++ [lastS E.U]) E.fl).size
 · rw [if_pos c7]
   exact Tta E H b g rk c hw c1 c2 hg e0 (by omega) (by omega) c7 hf.fit hu
 rw [if_neg c7]
 exact engEdit (cp := cp) E.l E.U E.fl E.G E.F b g rk c (E.upon b g rk c) (by have := H.len; omega) (fun a ha => by have := H.cl a ha; omega) H.fit2 c1 (H.ul b) hw.1 hw.2 c2 hg c3 c4 (by omega) rfl (by omega) hf.fit hu (by omega)
end
abbrev cToggle (E : Eng) (g : Int) : List PV := [.hp [.mp 0 0 0, .p (pi g)] E.hp]
section
variable (E : Eng) (H : EOk E) (g : Int)
include H
set_option maxHeartbeats 4000000 in
theorem Ti9 (hg : inR g) (n : Int) (hn : n ≠ 0) (ha : revToggle E.U E.fl E.G E.F g = .shr (.p (.tu [pi 0, pi n])) [(0, revO E.U E.fl E.G E.F)]) : Run (EX cp) 1000029 (cToggle E g) = some (.shr (.p (.tu [pi 0, pi n])) E.hp) := by
 have h1 := engCopy (cp := cp) E.l E.U E.fl E.G E.F (by have := H.len; omega) (fun a ha => by have := H.cl a ha; omega)
 have h2 := Tds (cp := cp) E.U E.fl E.G E.F g hg
 rw [ha] at h2
 simp only [engH, revO] at h1 h2
 rw [Tbi _ 29 A_engine_Engine_Toggle _ _ (by decide) (by decide) rfl rfl rfl rfl rfl (by simp [Eng.hp, engH])]
 simp (disch := omega) [A_engine_Engine_Toggle, Eng.hp, engH, h1, h2, hn, Taa, Tac]
set_option maxHeartbeats 4000000 in
theorem Tm7 (hg : inR g) (ha : revToggle E.U E.fl E.G E.F g = .shr (.p (.tu [pi (E.fl + E.U.length), pi 0])) [(0, revO (togU E.U g) E.fl E.G E.F)]) (hu : (undU (togU E.U g) E.fl (E.fl + (togU E.U g).length - 1)).length ≤ 9223372036854775807)
 (hs : 20000 < (headT E.l (togU E.U g) E.fl).size) : Run (EX cp) 1000029 (cToggle E g) = some (.shr (.p (.tu [pi 0, pi 13])) E.hp) := by
 have h1 := engCopy (cp := cp) E.l E.U E.fl E.G E.F (by have := H.len; omega) (fun a ha => by have := H.cl a ha; omega)
 have h2 := Tds (cp := cp) E.U E.fl E.G E.F g hg
 rw [ha] at h2
 have h3 := engFits (cp := cp) E.l (togU E.U g) E.fl E.G E.F H.fit2.fit (by simp [togU]) hu
 rw [decide_eq_false (by omega : ¬ ((headT E.l (togU E.U g) E.fl).size : Int) ≤ 20000)] at h3
 simp only [engH, revO] at h1 h2 h3
 rw [Tbi _ 29 A_engine_Engine_Toggle _ _ (by decide) (by decide) rfl rfl rfl rfl rfl (by simp [Eng.hp, engH])]
 simp (disch := omega) [A_engine_Engine_Toggle, Eng.hp, engH, h1, h2, h3, Taa, Tac]
theorem Tqg (hg : inR g) : Run (EX cp) 1000029 (cToggle E g) = some (.shr (.p (.tu [pi (E.toggle g).1, pi (E.toggle g).2.1])) (if (E.toggle g).2.1 = 0 then E.hp2 (E.toggle g).2.2 else E.hp)) := by
 have hT := H.toggle g
 unfold Eng.toggle at hT ⊢
 have e0 : revToggle E.U E.fl E.G E.F g = if g ∉ E.G then .shr (.p (.tu [pi 0, pi 210])) [(0, revO E.U E.fl E.G E.F)]
  else if 200 ≤ E.fl + E.U.length - 1 then .shr (.p (.tu [pi 0, pi 70])) [(0, revO E.U E.fl E.G E.F)]
  else .shr (.p (.tu [pi (E.fl + E.U.length), pi 0])) [(0, revO (togU E.U g) E.fl E.G E.F)] := rfl
 by_cases c3 : g ∈ E.G
 case neg =>
  rw [if_pos c3]
  rw [if_pos c3] at e0
  exact Ti9 E H g hg 210 (by omega) e0
 rw [if_neg (fun h => h c3)]
 rw [if_neg (fun h => h c3)] at e0 hT
 by_cases c4 : 200 ≤ E.fl + (E.U.length : Int) - 1
 · rw [if_pos c4]
   rw [if_pos c4] at e0
   exact Ti9 E H g hg 70 (by omega) e0
 rw [if_neg c4]
 rw [if_neg c4] at e0 hT
 have hu : (undU (togU E.U g) E.fl (E.fl + (togU E.U g).length - 1)).length ≤ 9223372036854775807 := by
  unfold togU
  rw [Td7 _ _ _ H.fl0]
  have h5 := H.us _ (Tdh E.U H.u1); have h6 := H.hd
  split
  · have := List.length_filter_le (fun x => decide (x ≠ g)) (lastS E.U)
    unfold delS; omega
  · have := Tkk g (lastS E.U); omega
 by_cases c7 : 20000 < (headT E.l (togU E.U g) E.fl).size
 · rw [if_pos c7]
   exact Tm7 E H g hg e0 hu c7
 rw [if_neg c7]
 exact engToggle (cp := cp) E.l E.U E.fl E.G E.F g (by have := H.len; omega) (fun a ha => by have := H.cl a ha; omega) hg c3 c4 H.fit2.fit hu (by omega)
end
end Go.Proofs.YtjpibniecllafaaGreat.AM
end
section
namespace Go.Proofs.YtjpibniecllafaaGreat.AM
open Go Go.Proofs.YtjpibniecllafaaGreat.U
attribute [local simp] cellR thereV RV.sv innE inlE reach pos subH SV.mapr RV.mapr Ob.mapr SV.refs RV.id? RV.ref Ob.refs noRow shnE shrE okK closeB freshs at0 newS leftS finishS oneS manyS allP sameFz Ob.noPin startS entryS List.range_succ List.filterMap_cons List.filterMap_nil SV.rv fzvs fzv liveV liveR rcellss rcells fillQ fixN RV.isNil revO
variable {cp : List PV → Option Ret}
noncomputable def loopcC (E : Env) (keep : List Nat) (a : ACode) : Option (Out × St) → Option (Out × St)
 | some (.nor, s) => Code E (.loopc keep a) s
 | r => r
noncomputable def LC (E : Env) (c : ACode) (s : St) : Option (Out × St) := match c with
 | .loopc keep a => loopcC E keep a (Code E a s)
 | _ => none
noncomputable def lcC (E : Env) (c : ACode) (keep : List Nat) : Option (Out × St) → Option (Out × St)
 | some (.nor, s) => LC E c (canon (norm keep s))
 | r => r
section
variable (E : Env) (c : ACode) (s : St) (keep : List Nat)
@[simp] theorem T1i : lcC E c keep (some (.nor, s)) = LC E c (canon (norm keep s)) := rfl
@[simp] theorem lcC_ex (i : Nat) : lcC E c keep (some (.ex i, s)) = some (.ex i, s) := rfl
@[simp] theorem T1j : lcC E c keep (some (.ret, s)) = some (.ret, s) := rfl
@[simp] theorem T1c : lcC E c keep none = none := rfl
theorem LC_of {a : ACode} (h : c = .loopc keep a) : Code E c s = LC E c (canon (norm keep s)) := by
 subst h
 rw [Tpd]; unfold LC loopcC; rfl
theorem Tbd {a : ACode} (h : c = .loopc keep a) : LC E c s = lcC E c keep (Code E a s) := by
 subst h
 show loopcC E keep a (Code E a s) = _
 cases hc : Code E a s with
 | none => rfl
 | some q =>
  obtain ⟨o, s'⟩ := q
  cases o with
  | nor => exact LC_of E _ s' keep rfl
  | ex i => rfl
  | ret => rfl
end
theorem engAtoms (l : List At) (U : List (List Int)) (fl : Int) (G F : List Int) (hl : l.length < 68719476736) (hc : ∀ a ∈ l, a.cuts.length < 68719476736) :
 Run (EX cp) 2000027 [.hp [.mp 0 0 0] (engH (ats l) U fl G F)] = some (.shn (.ms 2 0 l.length) [(2, .row 62 5 false (ats l))]) := by
 have h1 := atomCopy (cp := cp) l hl hc
 rw [Tc6 _ 27 A_engine_Engine_Atoms _ _ (by decide) rfl rfl rfl rfl rfl (by simp [engH]) (by decide +kernel)]
 simp (disch := omega) [A_engine_Engine_Atoms, engH, h1]
end Go.Proofs.YtjpibniecllafaaGreat.AM
end
section
namespace Go.Proofs.YtjpibniecllafaaGreat.AM
open Go Go.Proofs.YtjpibniecllafaaGreat.U
theorem Tw0 {α : Type} (z : List α) (a b c : Nat) (h1 : a ≤ b) (h2 : b ≤ c) : (z.drop a).take (c - a) = (z.drop a).take (b - a) ++ (z.drop b).take (c - b) := by
 have := List.take_add (l := z.drop a) (i := b - a) (j := c - b)
 rw [List.drop_drop, show a + (b - a) = b by omega, show b - a + (c - b) = c - a by omega] at this
 exact this
theorem T0s {α : Type} (z : List α) (a b : Nat) (x : α) (h : x ∈ (z.drop a).take (b - a)) : ∃ i, a ≤ i ∧ i < b ∧ z[i]? = some x := by
 obtain ⟨i, hi⟩ := List.mem_iff_getElem?.1 h
 rw [List.getElem?_take] at hi
 split at hi
 · rw [List.getElem?_drop] at hi
   exact ⟨a + i, by omega, by omega, hi⟩
 · simp at hi
theorem sg_eq {α : Type} (z l : List α) (a b : Nat) (h : ∀ i, a ≤ i → i < b → z[i]? = l[i]?) : (z.drop a).take (b - a) = (l.drop a).take (b - a) := by
 apply List.ext_getElem?
 intro i
 rw [List.getElem?_take, List.getElem?_take]
 split
 · rw [List.getElem?_drop, List.getElem?_drop]
   exact h (a + i) (by omega) (by omega)
 · rfl
section
variable (rev now gr rk : Int) (l : List At) (hv : ∀ a ∈ l, a.vis rev [] = true) (ho : okTx l) (hv2 : ∀ a ∈ l, a.vis now [] = true) (C0 : List Ch)
include hv
include ho
include hv2
end
end Go.Proofs.YtjpibniecllafaaGreat.AM
end
section
namespace Go.Proofs.YtjpibniecllafaaGreat.AM
open Go Go.Proofs.YtjpibniecllafaaGreat.U
theorem Ttc (t : ByteArray) (x : Ch) (hv : valid (L t) = true) (h0 : 0 ≤ x.f) (h1 : x.f ≤ x.t) (h2 : x.t ≤ t.size) (he : edge t x.f = true) (he2 : edge t x.t = true) (hx : valid (L x.s) = true) (hs : t.size ≤ 10000) (hs2 : x.s.size ≤ 10000) : chk t [x] = 0 := by
 refine Top ⟨hv, by simp, by simp; omega, by simpa using ⟨he, he2⟩, rfl, by simpa using hx, ?_⟩
 have hA : ∀ n : Int, lngA t n [x] = n + min (max (IntKind.wrap .i64 (x.t - x.f)) 0) t.size := fun n => rfl
 have hB : ∀ n : Int, ¬ n < x.s.size → lngB n [x] = some (n - x.s.size) := fun n hn => by
  show (if n < x.s.size then none else lngB (n - x.s.size) []) = _
  rw [if_neg hn]; rfl
 unfold lng
 rw [hA, hB _ (by omega)]
 exact decide_eq_false (by omega)
theorem To2 (l : List At) (rev : Int) (u : List Int) (p : Int) (x : ByteArray) (now gr rk : Int) (h : chk (txtS rev u l) [⟨p, p, x⟩] = 0) (k : Nat) (hk : spotF rev u rk l (places rev u l) p = k) :
 uponF l rev u [⟨p, p, x⟩] now gr rk = l.take k ++ newAts (L x) now gr rk ++ l.drop k := by
 rw [Tel l rev u _ now gr rk h, Tm6 _ _ _ _ _ (by simp)]
 unfold spotsF
 rw [if_pos h, List.map_cons, List.map_nil, hk, mrg, mrg, Int.toNat_natCast, List.drop_zero, Nat.sub_zero]
 all_goals simp
theorem Eng.edit_good (E : Eng) (b g rk : Int) (c : List Ch) (l' : List At) (hb : E.fl ≤ b ∧ b ≤ E.fl + E.U.length - 1) (hk : chk (E.textAt b) c = 0) (hg : g ∉ E.F ∧ 0 ≤ g ∧ g < 60) (hn : E.fl + (E.U.length : Int) ≤ 200) (hr : 0 ≤ rk ∧ rk ≤ 1000000)
 (hl : E.upon b g rk c = l') (h4 : l'.length ≤ 4000) (hs : (headT l' (E.U ++ [lastS E.U]) E.fl).size ≤ 20000) : E.edit b g rk c = (E.fl + E.U.length, 0, ⟨l', E.U ++ [lastS E.U], E.fl, insS g E.G, E.F⟩) := by
 unfold Eng.edit
 rw [if_neg (fun h => h hb), if_neg (fun h => h hk), if_neg (by rintro (h | h | h); exact hg.1 h; omega; omega), if_neg (by omega), if_neg (by omega), hl, if_neg (by omega), if_neg (by omega)]
theorem Eng.toggle_good (E : Eng) (g : Int) (hg : g ∈ E.G) (hn : E.fl + (E.U.length : Int) ≤ 200) (hs : (headT E.l (togU E.U g) E.fl).size ≤ 20000) : E.toggle g = (E.fl + E.U.length, 0, ⟨E.l, togU E.U g, E.fl, E.G, E.F⟩) := by
 unfold Eng.toggle
 rw [if_neg (fun h => h hg), if_neg (by omega), if_neg (by omega)]
theorem Tfi (n : Nat) (fl r : Int) : undU (List.replicate n []) fl r = [] := by
 unfold undU
 split
 · rw [List.getD_eq_getElem?_getD, List.getElem?_replicate]; split <;> rfl
 · rfl
theorem Tb5 (n : Nat) : lastS (List.replicate n []) = [] := by
 unfold lastS
 cases n with
 | zero => rfl
 | succ n => rw [List.replicate_succ', List.getLastD_concat]
theorem Tc0 (n : Nat) : List.replicate n ([] : List Int) ++ [[]] = List.replicate (n + 1) [] := by rw [List.replicate_succ']
theorem Tbw (l : List At) (n : Nat) : headT l (List.replicate n []) 0 = txtS ((n : Int) - 1) [] l := by
 unfold headT
 rw [Tfi, List.length_replicate, Int.zero_add]
theorem Tbz (rev : Int) (u : List Int) : ∀ l : List At, txtF rev u l = tl (l.filter fun a => a.vis rev u)
 | [] => rfl
 | a :: l => by
  rw [txtF, Tbz rev u l, List.filter_cons]
  cases h : a.vis rev u with
  | true => simp only [if_true]; rfl
  | false => simp
theorem Tv8 {l : List At} (h : okTx l) : valid (tl l) = true := by
 obtain ⟨vs, h1, h2⟩ := h.vs
 have ht : tl l = encs vs := by unfold tl; rw [h2, Tki]
 rw [ht]; exact Thq vs h1
theorem Ttd {l : List At} (h : okTx l) (rev : Int) (u : List Int) : valid (L (txtS rev u l)) = true := by
 rw [show L (txtS rev u l) = txtF rev u l from L_mk _, Tbz]
 exact Tv8 fun a ha => h a (List.mem_filter.1 ha).1
theorem Tzn (t : ByteArray) (hv : valid (L t) = true) (hs : t.size ≤ 20000) : chk t [] = 0 := by
 refine Top ⟨hv, by simp, by simp, by simp, rfl, by simp, ?_⟩
 unfold lng lngA lngB
 simp; omega
theorem Tv9 (l : List At) (rev : Int) (u : List Int) (now gr rk : Int) : uponF l rev u [] now gr rk = l := by
 by_cases c0 : chk (txtS rev u l) [] = 0
 · rw [Tel l rev u [] now gr rk c0, Tm6 rev u [] now gr (by simp)]
   have : spotsF l rev u [] rk = [] := by unfold spotsF; rw [if_pos c0]; rfl
   rw [this]; rfl
 · unfold uponF; rw [if_neg c0]
theorem Tja (s : ByteArray) (now gr rk : Int) (hv : valid (L s) = true) (hs : s.size ≤ 10000) : chk (txtS 0 [] []) [⟨0, 0, s⟩] = 0 ∧ uponF [] 0 [] [⟨0, 0, s⟩] now gr rk = newAts (L s) now gr rk := by
 have h0 : txtS 0 [] [] = ByteArray.empty := rfl
 have e0 : edge ByteArray.empty 0 = true := by
  have := Tj2 ByteArray.empty
  rw [show L ByteArray.empty = [] from rfl, Tbm] at this
  exact this
 have c0 : chk (txtS 0 [] []) [⟨0, 0, s⟩] = 0 := by
  rw [h0]
  exact Ttc _ _ (by rw [show L ByteArray.empty = [] from rfl]; exact Tbm) (Int.le_refl _) (Int.le_refl _) (by simp) e0 e0 hv (by simp) hs
 refine ⟨c0, ?_⟩
 have := To2 [] 0 [] 0 s now gr rk c0 0 rfl
 simpa using this
end Go.Proofs.YtjpibniecllafaaGreat.AM
end
section
namespace Go.Proofs.YtjpibniecllafaaGreat.AM
open Go
def isT : Option Ret → Bool
 | some (.val (.sc (.bool true))) => true
 | _ => false
theorem T0t {x : Option Ret} (h : isT x = true) : x = some (.val (pb true)) := by
 unfold isT at h
 split at h
 · rfl
 · simp at h
theorem Tte {E : Env} {f : FuncId} {a : List PV} (n : Nat) (h : isT (call E n f a) = true) : Run E f a = some (.val (pb true)) := (Tdi _ _ _ _).2 ⟨n, T0t h⟩
theorem knownTop0 : Run (EX fun _ => none) 12 [] = some (.val (pb true)) := Tte 3000 (by decide +kernel)
end Go.Proofs.YtjpibniecllafaaGreat.AM
end
