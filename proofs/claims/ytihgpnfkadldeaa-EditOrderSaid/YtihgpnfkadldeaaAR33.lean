/- Plain: places of texts do not fall; the cuts of both sides are one; texts put in one by one, and all at once. -/
import Derived.Test.YtihgpnfkadldeaaAR32
namespace Go.Proofs.Ytihgpnfkadldeaa.AM
set_option linter.unusedSimpArgs false
set_option linter.unusedVariables false
open Go Go.Proofs.Ytihgpnfkadldeaa.U
theorem skN_mono (rev rank : Int) : ∀ (l : List At) (a b : Nat), a ≤ b → a + skN rev rank (l.drop a) ≤ b + skN rev rank (l.drop b)
  | l, a, b, h => by
    by_cases hb : a + skN rev rank (l.drop a) ≤ b
    · omega
    · have key : ∀ (d : Nat) (m : List At), d ≤ skN rev rank m → skN rev rank m = d + skN rev rank (m.drop d) := by
        intro d
        induction d with
        | zero => intro m _; simp
        | succ d ih =>
          intro m hm
          cases m with
          | nil => simp [skN] at hm
          | cons x m =>
            rw [skN] at hm ⊢
            by_cases hx : rev < x.rv ∧ x.rk ≤ rank
            · rw [if_pos hx] at hm ⊢
              rw [List.drop_succ_cons, ih m (by omega)]; omega
            · rw [if_neg hx] at hm; omega
      have := key (b - a) (l.drop a) (by omega)
      rw [List.drop_drop, show a + (b - a) = b by omega] at this
      omega
theorem atI_mono (rev : Int) (u : List Int) (l : List At) (ns : List Int) (f g : Int) (h : f ≤ g) : ∀ i, atI rev u f l ns i ≤ atI rev u g l ns i
  | 0 => Nat.le_refl _
  | i + 1 => by
    have ih := atI_mono rev u l ns f g h i
    have hle := atI_le rev u f l ns i
    have hok : okAt rev u f l ns i = true → okAt rev u g l ns i = true := by
      unfold okAt
      split
      · simp only [Bool.and_eq_true, decide_eq_true_eq]
        rintro ⟨h1, h2⟩; exact ⟨by omega, h2⟩
      · simp
    rw [atI, atI]
    by_cases c0 : okAt rev u f l ns i = true
    · rw [if_pos c0, if_pos (hok c0)]; exact Nat.le_refl _
    · rw [if_neg c0]
      split <;> omega
theorem spotF_mono (rev : Int) (u : List Int) (rank : Int) (l : List At) (ns : List Int) (f g : Int) (h : f ≤ g) : spotF rev u rank l ns f ≤ spotF rev u rank l ns g := by
  unfold spotF
  exact skN_mono rev rank l _ _ (atI_mono rev u l ns f g h _)
theorem up_spots (s : ByteArray) (rev : Int) (u : List Int) (rank : Int) (l : List At) (ns : List Int) : ∀ (c : List Ch) (k : Int) (j : Nat), Chain s c k → (∀ x ∈ c.head?, j ≤ spotF rev u rank l ns x.f) → j ≤ l.length → Up l.length (c.map fun x => (spotF rev u rank l ns x.f : Int)) j
  | [], k, j, _, _, hj => hj
  | a :: c, k, j, hch, hh, hj => by
    obtain ⟨h0, h1, h2, h3, h4⟩ := hch
    have hs := spotF_le rev u rank l ns a.f
    refine ⟨Int.natCast_nonneg _, ?_, by rw [Int.toNat_natCast]; exact hs, ?_⟩
    · rw [Int.toNat_natCast]; exact hh a (by simp)
    · rw [Int.toNat_natCast]
      refine up_spots s rev u rank l ns c a.t _ h4 (fun x hx => ?_) hs
      refine spotF_mono rev u rank l ns a.f x.f ?_
      have := chain_ge s c a.t h4 x (List.mem_of_mem_head? hx)
      omega
/-- The places of a law's changes do not fall. -/
theorem up_spotsF (l : List At) (rev : Int) (u : List Int) (c : List Ch) (rank : Int) (h : chk (txtS rev u l) c = 0) : Up l.length (spotsF l rev u c rank) 0 := by
  unfold spotsF
  rw [if_pos h]
  exact up_spots _ rev u rank l _ c 0 0 (chk_good h).chain (fun _ _ => Nat.zero_le _) (Nat.zero_le _)
theorem spotsF_len (l : List At) (rev : Int) (u : List Int) (c : List Ch) (rank : Int) (h : chk (txtS rev u l) c = 0) : (spotsF l rev u c rank).length = c.length := by
  unfold spotsF
  rw [if_pos h, List.length_map]
theorem mrg_at (now gr rk : Int) (z : List At) : ∀ (sp : List Int) (c : List Ch) (k j : Nat), sp.length = c.length → Up z.length sp j → k ≤ j → mrg now gr rk z sp c k = (z.drop k).take (j - k) ++ mrg now gr rk z sp c j := by
  intro sp c k j hl hu hk
  have e : ∀ b : Nat, j ≤ b → (z.drop k).take (b - k) = (z.drop k).take (j - k) ++ (z.drop j).take (b - j) := by
    intro b hb
    have := List.take_add (l := z.drop k) (i := j - k) (j := b - j)
    rw [List.drop_drop, show k + (j - k) = j by omega, show j - k + (b - j) = b - k by omega] at this
    exact this
  match sp, c, hl, hu with
  | [], [], _, hu =>
    simp only [mrg]
    have h2 := (List.take_append_drop (j - k) (z.drop k)).symm
    rw [List.drop_drop, show k + (j - k) = j by omega] at h2
    exact h2
  | s :: sp, x :: c, _, hu =>
    obtain ⟨h0, h1, h2, h3⟩ := hu
    rw [mrg, mrg, e s.toNat h1]
    simp only [List.append_assoc]
/-- One text put in ahead of the others. -/
theorem mrg_put (now gr rk : Int) (z : List At) (s : Int) (sp : List Int) (x : Ch) (c : List Ch) (hl : sp.length = c.length) (hu : Up z.length (s :: sp) 0) :
    putL (mrg now gr rk z sp c 0) s.toNat (L x.s) now gr rk = mrg now gr rk z (s :: sp) (x :: c) 0 ∧ s.toNat ≤ (mrg now gr rk z sp c 0).length := by
  obtain ⟨h0, h1, h2, h3⟩ := hu
  have e := mrg_at now gr rk z sp c 0 s.toNat hl h3 (Nat.zero_le _)
  rw [List.drop_zero, Nat.sub_zero] at e
  have ht : (z.take s.toNat).length = s.toNat := by rw [List.length_take]; omega
  refine ⟨?_, ?_⟩
  · unfold putL
    rw [mrg, e, List.take_left' ht, List.drop_left' ht, List.drop_zero, Nat.sub_zero]
  · rw [e, List.length_append, ht]; omega
theorem mrg_len (now gr rk : Int) (z : List At) (m : Nat) : ∀ (sp : List Int) (c : List Ch) (k : Nat), (∀ x ∈ c, x.s.size ≤ m) → Up z.length sp k → (mrg now gr rk z sp c k).length ≤ z.length - k + m * c.length
  | [], c, k, _, _ => by
    have : mrg now gr rk z [] c k = z.drop k := by cases c <;> rfl
    rw [this, List.length_drop]; omega
  | s :: sp, [], k, _, _ => by rw [show mrg now gr rk z (s :: sp) [] k = z.drop k from rfl, List.length_drop]; omega
  | s :: sp, x :: c, k, hc, hu => by
    obtain ⟨h0, h1, h2, h3⟩ := hu
    have ih := mrg_len now gr rk z m sp c s.toNat (fun y hy => hc y (by simp [hy])) h3
    have h4 := points_le (L x.s); rw [L_len] at h4
    have h5 := hc x (by simp)
    rw [mrg]
    simp only [List.length_append, List.length_take, List.length_drop, newAts_len, List.length_cons]
    have : m * (c.length + 1) = m * c.length + m := Nat.mul_succ _ _
    omega
/-- The reference's cuts, one by one. -/
def cutI (now gr : Int) (l : List At) (i : Int) : List At := match l[i.toNat]? with
  | some a => l.set i.toNat (cutAt a now gr)
  | none => l
theorem cutI_len (now gr : Int) (l : List At) (i : Int) : (cutI now gr l i).length = l.length := by unfold cutI; split <;> simp
def cutIs (now gr : Int) (is : List Int) (l : List At) : List At := is.foldl (cutI now gr) l
theorem cutIs_len (now gr : Int) : ∀ (is : List Int) (l : List At), (cutIs now gr is l).length = l.length
  | [], l => rfl
  | i :: is, l => by show (cutIs now gr is (cutI now gr l i)).length = _; rw [cutIs_len now gr is, cutI_len]
theorem setB_get (j : Nat) : ∀ (is : List Int) (bo : List Bool), (∀ i ∈ is, i.toNat ≠ j) → (setB is bo)[j]? = bo[j]?
  | [], bo, _ => rfl
  | i :: is, bo, h => by
    show (setB is (bo.set i.toNat true))[j]? = _
    rw [setB_get j is _ fun x hx => h x (by simp [hx]), List.getElem?_set_ne (h i (by simp))]
theorem cutZ_set (now gr : Int) : ∀ (bo : List Bool) (l : List At) (i : Nat), bo.length = l.length → (∀ b, bo[i]? = some b → b = false) → cutZ now gr (bo.set i true) l = cutI now gr (cutZ now gr bo l) i
  | [], [], i, _, _ => by simp [cutZ, cutI]
  | b :: bo, a :: l, 0, h, hb => by
    have := hb b rfl
    subst this
    show cutZ now gr (true :: bo) (a :: l) = _
    rw [cutZ, cutZ, if_pos rfl, if_neg (by simp)]
    rfl
  | b :: bo, a :: l, i + 1, h, hb => by
    have ih := cutZ_set now gr bo l i (by simpa using h) (fun x hx => hb x (by simpa using hx))
    rw [List.set_cons_succ, cutZ, cutZ, ih]
    unfold cutI
    have e : (((i + 1 : Nat) : Int)).toNat = i + 1 := by omega
    have e2 : ((i : Nat) : Int).toNat = i := by omega
    rw [e, e2, List.getElem?_cons_succ]
    cases (cutZ now gr bo l)[i]? <;> rfl
/-- The cuts of both sides are one. -/
theorem cut_both (now gr : Int) (l : List At) : ∀ (is : List Int) (bo : List Bool), bo.length = l.length → (∀ i ∈ is, 0 ≤ i) → is.Nodup → (∀ i ∈ is, ∀ b, bo[i.toNat]? = some b → b = false) → cutZ now gr (setB is bo) l = cutIs now gr is (cutZ now gr bo l)
  | [], bo, _, _, _, _ => rfl
  | i :: is, bo, h, h0, hn, hb => by
    obtain ⟨h1, h2⟩ := List.nodup_cons.1 hn
    have hi := h0 i (by simp)
    show cutZ now gr (setB is (bo.set i.toNat true)) l = cutIs now gr is (cutI now gr (cutZ now gr bo l) i)
    have hne : ∀ x ∈ is, i.toNat ≠ x.toNat := fun x hx e => h1 (by have := h0 x (by simp [hx]); rw [show i = x by omega]; exact hx)
    rw [cut_both now gr l is (bo.set i.toNat true) (by simpa using h) (fun x hx => h0 x (by simp [hx])) h2 (fun x hx b hbx => by
      rw [List.getElem?_set_ne (hne x hx)] at hbx
      exact hb x (by simp [hx]) b hbx)]
    rw [cutZ_set now gr bo l i.toNat h (hb i (by simp)), show ((i.toNat : Nat) : Int) = i by omega]
theorem cutZ_false (now gr : Int) : ∀ (n : Nat) (l : List At), cutZ now gr (List.replicate n false) l = l
  | 0, l => cutZ_nil now gr l
  | n + 1, [] => rfl
  | n + 1, a :: l => by rw [List.replicate_succ, cutZ, if_neg (by simp), cutZ_false now gr n l]
theorem cutsI_mem (rev : Int) (u : List Int) (c : List Ch) : ∀ (l : List At) (ns : List Int) (k : Int), ∀ i ∈ cutsI rev u c l ns k, k ≤ i ∧ i < k + l.length
  | [], _, _, i, h => by simp [cutsI] at h
  | a :: l, [], _, i, h => by simp [cutsI] at h
  | a :: l, n :: ns, k, i, h => by
    rw [cutsI] at h
    have ih := cutsI_mem rev u c l ns (k + 1) i
    rw [List.length_cons]
    split at h
    · rcases List.mem_cons.1 h with rfl | h
      · omega
      · have := ih h; omega
    · have := ih h; omega
theorem cutsI_nodup (rev : Int) (u : List Int) (c : List Ch) : ∀ (l : List At) (ns : List Int) (k : Int), (cutsI rev u c l ns k).Nodup
  | [], _, _ => by simp [cutsI]
  | a :: l, [], _ => by simp [cutsI]
  | a :: l, n :: ns, k => by
    rw [cutsI]
    have ih := cutsI_nodup rev u c l ns (k + 1)
    split
    · refine List.nodup_cons.2 ⟨fun h => ?_, ih⟩
      have := (cutsI_mem rev u c l ns (k + 1) k h).1
      omega
    · exact ih
theorem cutsF_mem (l : List At) (rev : Int) (u : List Int) (c : List Ch) : ∀ i ∈ cutsF l rev u c, 0 ≤ i ∧ i < l.length := by
  intro i hi
  unfold cutsF at hi
  split at hi
  · have := cutsI_mem rev u c l _ 0 i hi; omega
  · simp at hi
theorem cutsF_nodup (l : List At) (rev : Int) (u : List Int) (c : List Ch) : (cutsF l rev u c).Nodup := by
  unfold cutsF
  split
  · exact cutsI_nodup rev u c l _ 0
  · simp
/-- The atoms with the cuts. -/
def cutU (l : List At) (rev : Int) (u : List Int) (c : List Ch) (now gr : Int) : List At := cutZ now gr (setB (cutsF l rev u c) (List.replicate l.length false)) l
theorem cutU_len (l : List At) (rev : Int) (u : List Int) (c : List Ch) (now gr : Int) : (cutU l rev u c now gr).length = l.length := cutZ_len now gr _ l
theorem cutU_eq (l : List At) (rev : Int) (u : List Int) (c : List Ch) (now gr : Int) : cutU l rev u c now gr = cutIs now gr (cutsF l rev u c) l := by
  unfold cutU
  rw [cut_both now gr l (cutsF l rev u c) _ (by simp) (fun i hi => (cutsF_mem l rev u c i hi).1) (cutsF_nodup l rev u c) (fun i hi b hb => by
    have h := cutsF_mem l rev u c i hi
    rw [List.getElem?_replicate] at hb
    split at hb
    · exact (Option.some.inj hb).symm
    · simp at hb), cutZ_false]
/-- What Upon makes. -/
def uponF (l : List At) (rev : Int) (u : List Int) (c : List Ch) (now gr rk : Int) : List At :=
  if chk (txtS rev u l) c = 0 then mrg now gr rk (cutU l rev u c now gr) (spotsF l rev u c rk) c 0 else l
end Go.Proofs.Ytihgpnfkadldeaa.AM
