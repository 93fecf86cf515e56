/- Made by pack.py: RF3. No condition but what it says. -/
import Derived.Test.YtjpibniecllafaaGreatP15
set_option linter.unusedSimpArgs false
set_option linter.unusedVariables false
section
namespace Go.Proofs.YtjpibniecllafaaGreat.AM
open Go Go.Proofs.YtjpibniecllafaaGreat.U
structure S0 (E : Eng) : Prop where
 ok : EOk E
 fl : E.fl = 0
 u : ∃ n, E.U = List.replicate (n + 1) []
 rv : ∀ a ∈ E.l, a.rv ≤ E.fl + E.U.length - 1
 cr : ∀ a ∈ E.l, ∀ q ∈ a.cuts, q.1 ≤ E.fl + E.U.length - 1
theorem S0.new : S0 Eng.new := ⟨EOk.new, rfl, ⟨0, rfl⟩, fun a h => by simp [Eng.new] at h, fun a h => by simp [Eng.new] at h⟩
theorem S0.ut {E : Eng} (H : S0 E) (r : Int) : undU E.U E.fl r = [] := by
 obtain ⟨n, hn⟩ := H.u
 rw [hn, Tfi]
theorem Eng.edit_cases (E : Eng) (b g rk : Int) (c : List Ch) : (E.edit b g rk c).2.1 ≠ 0 ∧ (E.edit b g rk c).2.2 = E ∨
 E.edit b g rk c = (E.fl + E.U.length, 0, ⟨E.upon b g rk c, E.U ++ [lastS E.U], E.fl, insS g E.G, E.F⟩) ∧ chk (E.textAt b) c = 0 ∧ E.fl ≤ b ∧ b ≤ E.fl + E.U.length - 1 := by
 unfold Eng.edit
 split
 · exact Or.inl ⟨by simp, rfl⟩
 rename_i h1
 split
 · rename_i h; exact Or.inl ⟨h, rfl⟩
 rename_i h2
 split
 · exact Or.inl ⟨by simp, rfl⟩
 split
 · exact Or.inl ⟨by simp, rfl⟩
 split
 · exact Or.inl ⟨by simp, rfl⟩
 split
 · exact Or.inl ⟨by simp, rfl⟩
 split
 · exact Or.inl ⟨by simp, rfl⟩
 · exact Or.inr ⟨rfl, by simpa using h2, by omega, by omega⟩
theorem S0.edit {E : Eng} (H : S0 E) (b g rk : Int) (c : List Ch) : S0 (E.edit b g rk c).2.2 := by
 have hok := EOk.edit H.ok b g rk c
 rcases Eng.edit_cases E b g rk c with ⟨_, h⟩ | ⟨h, _⟩
 · rw [h]; exact H
 · rw [h] at hok ⊢
   obtain ⟨n, hn⟩ := H.u
   refine ⟨hok, H.fl, ⟨n + 1, by show E.U ++ [lastS E.U] = _; rw [hn, Tb5, Tc0]⟩, fun a ha => ?_, fun a ha q hq => ?_⟩
   · show a.rv ≤ E.fl + ((E.U ++ [lastS E.U]).length : Int) - 1
     rw [List.length_append, List.length_singleton]
     rcases Tgs _ _ _ _ _ _ _ a ha with ⟨d, hd, rfl | rfl⟩ | ⟨x, _, hx⟩
     · have := H.rv _ hd; omega
     · have := H.rv _ hd
       show d.rv ≤ _
       omega
     · rw [(Tbo hx).2.1]; omega
   · show q.1 ≤ E.fl + ((E.U ++ [lastS E.U]).length : Int) - 1
     rw [List.length_append, List.length_singleton]
     rcases Tgs _ _ _ _ _ _ _ a ha with ⟨d, hd, rfl | rfl⟩ | ⟨x, _, hx⟩
     · have := H.cr _ hd q hq; omega
     · have hq' : q ∈ d.cuts ++ [(E.fl + (E.U.length : Int), g)] := hq
       rcases List.mem_append.1 hq' with h' | h'
       · have := H.cr _ hd q h'; omega
       · rw [List.mem_singleton] at h'; subst h'; show E.fl + (E.U.length : Int) ≤ _; omega
     · rw [(Tbo hx).1] at hq; simp at hq
def sumF (f : At → Nat) (l : List At) : Nat := (l.map f).sum
theorem Tdv (f : At → Nat) (a b : List At) : sumF f (a ++ b) = sumF f a + sumF f b := by simp [sumF]
theorem Tb6 (f : At → Nat) (a : At) (l : List At) : sumF f (a :: l) = f a + sumF f l := by simp [sumF]
theorem Tna (f : At → Nat) (now gr rk : Int) (z : List At) : ∀ (sp : List Int) (c : List Ch) (k : Nat), sp.length = c.length → Up z.length sp k → sumF f (mrg now gr rk z sp c k) = sumF f (z.drop k) + (c.map fun x => sumF f (newAts (L x.s) now gr rk)).sum
 | [], [], k, _, _ => by simp [mrg]
 | [], x :: c, k, h, _ => by simp at h
 | s :: sp, [], k, h, _ => by simp at h
 | s :: sp, x :: c, k, h, hu => by
  obtain ⟨h0, h1, h2, h3⟩ := hu
  rw [mrg, Tdv, Tdv, Tna f now gr rk z sp c _ (by simpa using h) h3, List.map_cons, List.sum_cons]
  have e : z.drop k = (z.drop k).take (s.toNat - k) ++ z.drop s.toNat := by
   have := List.take_append_drop (s.toNat - k) (z.drop k)
   rw [List.drop_drop, show k + (s.toNat - k) = s.toNat by omega] at this
   exact this.symm
  have e2 := congrArg (sumF f) e
  rw [Tdv] at e2
  omega
theorem Tw3 (f k : At → Nat) (rev : Int) (u : List Int) (c : List Ch) (now gr : Int) : ∀ (l : List At) (ns : List Int), (∀ a ∈ l, f a = k a ∧ f (cutAt a now gr) = k a) → sumF f (zU rev u c now gr l ns) = sumF k l
 | [], ns, _ => by cases ns <;> rfl
 | a :: l, [], h => by
  show sumF f (a :: l) = sumF k (a :: l)
  unfold sumF
  congr 1
  exact List.map_congr_left fun x hx => (h x hx).1
 | a :: l, n :: ns, h => by
  rw [zU, Tb6, Tb6, Tw3 f k rev u c now gr l ns fun x hx => h x (by simp [hx])]
  obtain ⟨h1, h2⟩ := h a (by simp)
  split
  · rw [h2]
  · rw [h1]
def lastIs (n : Int) (a : At) : Bool := match a.cuts.getLast? with
 | some q => decide (q.1 = n)
 | none => false
def goneF (n : Int) (a : At) : Nat := if lastIs n a = true ∧ a.vis (n - 1) [] = true then a.txt.size else 0
def seenF (r : Int) (a : At) : Nat := if a.vis r [] = true then a.txt.size else 0
theorem Tko (r : Int) : ∀ l : List At, (txtF r [] l).length = sumF (seenF r) l
 | [] => rfl
 | a :: l => by
  rw [txtF, Tb6, seenF]
  split
  · rw [List.length_append, L_len, Tko r l]
  · rw [List.nil_append, Tko r l]; omega
theorem Tdw (a : At) (r : Int) : a.vis r [] = (decide (a.rv ≤ r) && !(a.cuts.any fun q => decide (q.1 ≤ r))) := by
 unfold At.vis holdsF; simp
theorem Tl1 (r : Int) (u : List Int) (l : List At) : (txtS r u l).size = (txtF r u l).length := Tca _
theorem Tnb (E : Eng) (H : S0 E) (b g rk : Int) (c : List Ch) (h : (E.edit b g rk c).2.1 = 0) :
 (E.edit b g rk c).1 = E.fl + E.U.length ∧ (E.edit b g rk c).2.2.txt.size + sumF (goneF (E.edit b g rk c).1) (E.edit b g rk c).2.2.l = E.txt.size + (c.map fun x => x.s.size).sum := by
 rcases Eng.edit_cases E b g rk c with ⟨h', _⟩ | ⟨he, hk, hb⟩
 · exact absurd h h'
 rw [he]
 refine ⟨rfl, ?_⟩
 obtain ⟨n, hn⟩ := H.u
 have hfl := H.fl
 have hrv := H.rv
 have hcr := H.cr
 have hlen : E.U.length = n + 1 := by rw [hn]; simp
 have t0 : E.txt.size = sumF (seenF n) E.l := by
  show (headT E.l E.U E.fl).size = _
  rw [hn, hfl, Tbw, Tl1, Tko]
  congr 2; omega
 have t1 : (headT (E.upon b g rk c) (E.U ++ [lastS E.U]) E.fl).size = sumF (seenF (n + 1)) (E.upon b g rk c) := by
  rw [hn, Tb5, Tc0, hfl, Tbw, Tl1, Tko]
  congr 2; omega
 show (headT (E.upon b g rk c) (E.U ++ [lastS E.U]) E.fl).size + sumF (goneF (E.fl + (E.U.length : Int))) (E.upon b g rk c) = _
 rw [t0, t1]
 have en : E.fl + (E.U.length : Int) = n + 1 := by omega
 rw [en]
 rw [hfl, hlen] at hrv hcr
 have hadd : ∀ l : List At, sumF (seenF (n + 1)) l + sumF (goneF (n + 1)) l = sumF (fun a => seenF (n + 1) a + goneF (n + 1) a) l := by
  intro l
  induction l with
  | nil => rfl
  | cons a l ih => rw [Tb6, Tb6, Tb6, ← ih]; omega
 rw [hadd]
 unfold Eng.upon
 rw [en, Tel _ _ _ _ _ _ _ hk, Tna _ _ _ _ _ _ _ _ (Tf6 _ _ _ _ _ hk) (by rw [Tlu]; exact Th1 _ _ _ _ _ hk), List.drop_zero, Tw3 _ (seenF n)]
 · congr 1
   have hg := (Tcf hk).txt
   clear hk he h t1
   induction c with
   | nil => rfl
   | cons x c ih =>
    rw [List.map_cons, List.map_cons, List.sum_cons, List.sum_cons, ih fun y hy => hg y (by simp [hy])]
    congr 1
    have e : ∀ a ∈ newAts (L x.s) (n + 1) g rk, seenF (n + 1) a + goneF (n + 1) a = a.txt.size := by
     intro a ha
     obtain ⟨q1, q2, q3, q4, _⟩ := Tbo ha
     have v : a.vis (n + 1) [] = true := by rw [Tdw, q1, q2]; simp
     unfold seenF goneF lastIs
     rw [if_pos v, q1]; simp
    have e2 : sumF (fun a => seenF (n + 1) a + goneF (n + 1) a) (newAts (L x.s) (n + 1) g rk) = (tl (newAts (L x.s) (n + 1) g rk)).length := by
     generalize newAts (L x.s) (n + 1) g rk = y at *
     induction y with
     | nil => rfl
     | cons a y ih2 =>
      rw [Tb6, ih2 fun w hw => e w (by simp [hw]), e a (by simp)]
      show _ = (L a.txt ++ tl y).length
      rw [List.length_append, L_len]
    rw [e2, Ts4, Ta5 _ (hg x (by simp)), L_len]
 · intro a ha
   have h1 := hrv a ha
   have h2 := hcr a ha
   have hv : a.vis (n + 1) [] = a.vis n [] := by
    rw [Tdw, Tdw, decide_eq_true (by omega), decide_eq_true (by omega)]
    congr 2
    have hany : ∀ cs : List (Int × Int), (∀ q ∈ cs, q.1 ≤ 0 + ((n + 1 : Nat) : Int) - 1) → (cs.any fun q => decide (q.1 ≤ (n : Int) + 1)) = cs.any fun q => decide (q.1 ≤ (n : Int)) := by
     intro cs
     induction cs with
     | nil => intro _; rfl
     | cons q cs ih =>
      intro h
      have := h q (by simp)
      rw [List.any_cons, List.any_cons, ih fun w hw => h w (by simp [hw]), decide_eq_true (by omega), decide_eq_true (by omega)]
    exact hany a.cuts h2
   constructor
   · unfold seenF goneF
     rw [hv, if_neg (c := lastIs _ _ = true ∧ _)]
     · rfl
     · rintro ⟨hl, _⟩
       unfold lastIs at hl
       split at hl
       · rename_i q hq
         have := h2 q (List.mem_of_getLast? hq)
         rw [decide_eq_true_eq] at hl
         omega
       · cases hl
   · have v1 : (cutAt a (n + 1) g).vis (n + 1) [] = false := by
      rw [Tdw]; simp [cutAt]
     have v2 : (cutAt a (n + 1) g).vis (n + 1 - 1) [] = a.vis n [] := by
      rw [Tdw, Tdw]
      have e1 : (n : Int) + 1 - 1 = n := by omega
      have e2 : decide ((n : Int) + 1 ≤ (n : Int)) = false := decide_eq_false (by omega)
      rw [e1]
      simp [cutAt, e2]
      rfl
     have v3 : lastIs (n + 1) (cutAt a (n + 1) g) = true := by
      unfold lastIs cutAt; simp
     unfold seenF goneF
     rw [v1, v2, v3]
     simp [cutAt]
end Go.Proofs.YtjpibniecllafaaGreat.AM
end
