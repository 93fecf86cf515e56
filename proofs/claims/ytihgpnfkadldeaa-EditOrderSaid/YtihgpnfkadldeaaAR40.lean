/- Plain: one text put in; what is cut by a change over all. No condition. -/
import Derived.Test.YtihgpnfkadldeaaAR39
namespace Go.Proofs.Ytihgpnfkadldeaa.AM
set_option linter.unusedSimpArgs false
set_option linter.unusedVariables false
open Go Go.Proofs.Ytihgpnfkadldeaa.U
theorem chk_one (t : ByteArray) (x : Ch) (hv : valid (L t) = true) (h0 : 0 ≤ x.f) (h1 : x.f ≤ x.t) (h2 : x.t ≤ t.size) (he : edge t x.f = true) (he2 : edge t x.t = true) (hx : valid (L x.s) = true) (hs : t.size ≤ 10000) (hs2 : x.s.size ≤ 10000) : chk t [x] = 0 := by
  refine good_chk ⟨hv, by simp, by simp; omega, by simpa using ⟨he, he2⟩, rfl, by simpa using hx, ?_⟩
  have hA : ∀ n : Int, lngA t n [x] = n + min (max (IntKind.wrap .i64 (x.t - x.f)) 0) t.size := fun n => rfl
  have hB : ∀ n : Int, ¬ n < x.s.size → lngB n [x] = some (n - x.s.size) := fun n hn => by
    show (if n < x.s.size then none else lngB (n - x.s.size) []) = _
    rw [if_neg hn]; rfl
  unfold lng
  rw [hA, hB _ (by omega)]
  exact decide_eq_false (by omega)
/-- One text put in, nothing cut. -/
theorem upon_one (l : List At) (rev : Int) (u : List Int) (p : Int) (x : ByteArray) (now gr rk : Int) (h : chk (txtS rev u l) [⟨p, p, x⟩] = 0) (k : Nat) (hk : spotF rev u rk l (places rev u l) p = k) :
    uponF l rev u [⟨p, p, x⟩] now gr rk = l.take k ++ newAts (L x) now gr rk ++ l.drop k := by
  rw [uponF_zU l rev u _ now gr rk h, zU_none _ _ _ _ _ (by simp)]
  unfold spotsF
  rw [if_pos h, List.map_cons, List.map_nil, hk, mrg, mrg, Int.toNat_natCast, List.drop_zero, Nat.sub_zero]
  all_goals simp
theorem spots_one (l : List At) (rev : Int) (u : List Int) (p : Int) (x : ByteArray) (rk : Int) (h : chk (txtS rev u l) [⟨p, p, x⟩] = 0) (k : Nat) (hk : spotF rev u rk l (places rev u l) p = k) :
    spotsF l rev u [⟨p, p, x⟩] rk = [(k : Int)] := by
  unfold spotsF
  rw [if_pos h, List.map_cons, List.map_nil, hk]
theorem cutsI_vis (rev : Int) (u : List Int) (c : List Ch) : ∀ (l : List At) (ns : List Int) (k : Int), ∀ i ∈ cutsI rev u c l ns k, ∃ a, l[(i - k).toNat]? = some a ∧ a.vis rev u = true
  | [], _, _, i, h => by simp [cutsI] at h
  | a :: l, [], _, i, h => by simp [cutsI] at h
  | a :: l, n :: ns, k, i, h => by
    rw [cutsI] at h
    have rest : i ∈ cutsI rev u c l ns (k + 1) → ∃ b, (a :: l)[(i - k).toNat]? = some b ∧ b.vis rev u = true := fun h => by
      have h1 := (cutsI_mem rev u c l ns (k + 1) i h).1
      obtain ⟨b, h2, h3⟩ := cutsI_vis rev u c l ns (k + 1) i h
      refine ⟨b, ?_, h3⟩
      rw [show (i - k).toNat = (i - (k + 1)).toNat + 1 by omega, List.getElem?_cons_succ]
      exact h2
    split at h
    · rename_i hc
      rcases List.mem_cons.1 h with rfl | h
      · exact ⟨a, by rw [Int.sub_self]; rfl, hc.1⟩
      · exact rest h
    · exact rest h
theorem cutsI_count (rev : Int) (u : List Int) (c : List Ch) : ∀ (l : List At) (ns : List Int) (k : Int), l.length ≤ ns.length → (∀ (j : Nat) (a : At) (n : Int), l[j]? = some a → ns[j]? = some n → a.vis rev u = true → c.any (hitB n) = true) → (cutsI rev u c l ns k).length = l.countP fun a => a.vis rev u
  | [], _, _, _, _ => by simp [cutsI]
  | a :: l, [], _, h, _ => by simp at h
  | a :: l, n :: ns, k, h, hh => by
    have ih := cutsI_count rev u c l ns (k + 1) (by simpa using h) fun j b m h1 h2 h3 => hh (j + 1) b m (by simpa using h1) (by simpa using h2) h3
    have h0 := hh 0 a n rfl rfl
    rw [cutsI, List.countP_cons]
    by_cases hv : a.vis rev u = true
    · rw [if_pos ⟨hv, h0 hv⟩, if_pos hv, List.length_cons, ih]
    · rw [if_neg (fun q => hv q.1), if_neg hv, ih, Nat.add_zero]
end Go.Proofs.Ytihgpnfkadldeaa.AM
