/- The plain statement of UtfBack: numbers made into bytes are read as they were; edges are just where they begin. No conditions. -/
import Derived.Test.YtgepcdpnjinadaaK1
import Derived.OpenShut
import Derived.Test.YtgepcdpnjinadaaPXx16
namespace Go.Proofs.Ytgepcdpnjinadaa.Pure
open Go.RowKit Go.Proofs.Ytgepcdpnjinadaa.PX Go.Proofs.YtgepcdpnjinadaaW.PrintWords Go.Proofs.YtgepcdpnjinadaaW.PrintLast Go.Proofs.Ytgepcdpnjinadaa.U Go.Proofs.Ytgepcdpnjinadaa.V Go.Lib
set_option linter.unusedVariables false

/-- The number that the law makes of any. -/
def num (x : Int) : Int := if 55296 ≤ x % 1114112 ∧ x % 1114112 < 57344 then x % 1114112 - 55296 else x % 1114112
theorem num_sc (x : Int) : sc (num x) := by
  have a := Int.emod_nonneg x (show (1114112 : Int) ≠ 0 by omega)
  have b := Int.emod_lt_of_pos x (show (0 : Int) < 1114112 by omega)
  unfold num sc
  split <;> omega
theorem enc_length {v : Int} (h : sc v) : ((enc v).length : Int) = if v < 128 then 1 else if v < 2048 then 2 else if v < 65536 then 3 else 4 := by
  have h' := h
  unfold sc at h'
  by_cases c1 : v < 128
  · rw [if_pos c1, enc_one (by omega) c1]; rfl
  rw [if_neg c1]
  by_cases c2 : v < 2048
  · rw [if_pos c2, enc_two (by omega) c2]; rfl
  rw [if_neg c2]
  by_cases c3 : v < 65536
  · rw [if_pos c3, enc_three (by omega) c3 h]; rfl
  · rw [if_neg c3, enc_four (by omega) (by omega)]; rfl
theorem edge_next (s : ByteArray) (us vs : List Int) (v : Int) (hu : ∀ v ∈ us, sc v) (hv : ∀ v ∈ vs, sc v) (hs : sc v) (h : L s = U.encs us ++ (enc v ++ U.encs vs)) : edge s (((U.encs us).length : Int) + 1) = (((enc v).length : Int) == 1) := by
  obtain ⟨a, t, hsh, hc, ht⟩ := enc_shape v hs
  by_cases c : (enc v).length = 1
  · have he := edge_at s (us ++ [v]) vs (fun w hw => by rcases List.mem_append.1 hw with hw | hw; exact hu w hw; rw [List.mem_singleton.1 hw]; exact hs) hv (by rw [h, U.encs_append, U.encs_cons, U.encs_nil, List.append_nil, List.append_assoc])
    rw [U.encs_append, U.encs_cons, U.encs_nil, List.append_nil, List.length_append, c] at he
    rw [c, show ((U.encs us).length : Int) + 1 = (((U.encs us).length + 1 : Nat) : Int) from rfl, he]; rfl
  · have hz : s.size = (U.encs us).length + ((enc v).length + (U.encs vs).length) := by rw [L_size, h, List.length_append, List.length_append]
    have hl := (enc_len v).1
    rw [beq_eq_false_iff_ne.2 (show ((enc v).length : Int) ≠ 1 by omega)]
    match t, hsh, ht with
    | [], hsh, _ => rw [hsh] at c; simp at c
    | p :: t, hsh, ht =>
      have hb := bt_nth s (U.encs us ++ [a]) (t ++ U.encs vs) p (by rw [h, hsh]; simp) (((U.encs us).length : Int) + 1) (by simp)
      have hp := ht p (by simp)
      unfold edge
      rw [hb, decide_eq_true (show 128 ≤ bi p ∧ bi p < 192 from hp), decide_eq_false (show ¬ ((U.encs us).length : Int) + 1 = (s.size : Int) by omega)]
      simp
theorem encs_le' (l : List Int) : (U.encs l).length ≤ 4 * l.length := by
  induction l with
  | nil => simp
  | cons v l ih => rw [U.encs_cons, List.length_append, List.length_cons]; have := (enc_len v).2; omega
theorem encs_ge (l : List Int) : l.length ≤ (U.encs l).length := by
  induction l with
  | nil => simp
  | cons v l ih => rw [U.encs_cons, List.length_append, List.length_cons]; have := (enc_len v).1; omega
theorem back_l1 (s : ByteArray) (ns : List Int) (hns : ns.length ≤ 60) (hL : L s = U.encs ns) (hsc : ∀ v ∈ ns, sc v) : ∀ (vs us : List Int) (k : Nat), ns = us ++ vs → 2 * vs.length + 400 ≤ k →
    palinodelaw1_UtfBack.l1 k ns s ns ((U.encs us).length : Int) (us.length : Int) = some true := by
  have hz := encs_le' ns
  have hsz : s.size ≤ 240 := by rw [L_size, hL]; omega
  intro vs
  induction vs with
  | nil =>
    intro us k h hk
    obtain ⟨k, rfl⟩ : ∃ m, k = m + 1 := ⟨k - 1, by omega⟩
    rw [List.append_nil] at h
    subst h
    have he := edge_at s ns [] hsc (by simp) (by rw [hL]; simp)
    simp only [palinodelaw1_UtfBack.l1]
    rw [if_neg (by omega), if_pos (by rw [L_size, hL]), IsEdge_eq k s (by omega) (by omega), he]; rfl
  | cons v vs ih =>
    intro us k h hk
    obtain ⟨k, rfl⟩ : ∃ m, k = m + 2 := ⟨k - 2, by simp at hk; omega⟩
    have hk' : 2 * vs.length + 400 ≤ k := by simp at hk; omega
    have hu : ∀ w ∈ us, sc w := fun w hw => hsc w (by rw [h]; simp [hw])
    have hv : ∀ w ∈ vs, sc w := fun w hw => hsc w (by rw [h]; simp [hw])
    have hs : sc v := hsc v (by rw [h]; simp)
    have hLL : L s = U.encs us ++ (enc v ++ U.encs vs) := by rw [hL, h, U.encs_append, U.encs_cons]
    have e0 : rd ns (us.length : Int) = v := by rw [h]; simp [rd]
    have hlen : us.length < ns.length := by rw [h]; simp
    have hul := encs_le' us
    have e1 := size_at s (U.encs us) (U.encs vs) v hs hLL
    have e2 := back_at s us vs v hu hv hs hLL
    have e3 := edge_at s us (v :: vs) hu (by intro w hw; exact hsc w (by rw [h]; exact List.mem_append_right _ hw)) hLL
    have e4 := edge_next s us vs v hu hv hs hLL
    have e5 := enc_length hs
    have hn := enc_len v
    have key : palinodelaw1_UtfBack.j3 (k + 1) ns s ns ((U.encs us).length : Int) (us.length : Int) ((enc v).length : Int) = some true := by
      simp only [palinodelaw1_UtfBack.j3]
      rw [Size_eq k (by omega) s (by omega), Option.bind_some, e1, if_pos (by omega), if_pos (by omega), if_pos (by omega), if_pos trivial, if_pos rfl, IsEdge_eq k s (by omega) (by omega), e3, Option.bind_some, if_pos rfl, w64 (by omega) (by omega), IsEdge_eq k s (by omega) (by omega), e4, Option.bind_some, if_neg (by simp), w64 (by omega) (by omega), Back_eq k s (by omega) (by omega)]
      rw [show ((U.encs us).length : Int) + ((enc v).length : Int) = (((U.encs us).length + (enc v).length : Nat) : Int) from rfl, e2, Option.bind_some, if_pos rfl, w64 (by omega) (by omega)]
      have := ih (us ++ [v]) k (by rw [h]; simp) hk'
      rw [U.encs_append, U.encs_cons, U.encs_nil, List.append_nil, List.length_append, List.length_append] at this
      exact this
    rw [e5] at key
    simp only [palinodelaw1_UtfBack.l1]
    rw [if_pos (by omega), if_pos (by omega), e0]
    by_cases c1 : v < 128
    · rw [if_pos c1] at key ⊢; exact key
    rw [if_neg c1] at key ⊢
    by_cases c2 : v < 2048
    · rw [if_pos c2] at key ⊢; exact key
    rw [if_neg c2] at key ⊢
    by_cases c3 : v < 65536
    · rw [if_pos c3] at key ⊢; exact key
    · rw [if_neg c3] at key ⊢; exact key
theorem back_l0 (l : List Int) (hl : l.length ≤ 60) (hw : ∀ x ∈ l, 0 ≤ x ∧ x ≤ 4294967295) (d : Nat) : ∀ (k i : Nat), l.length ≤ i + d → i ≤ l.length → d + 1000 ≤ k → palinodelaw1_UtfBack.l0 k l ((l.take i).map num) i = some true := by
  have fin : ∀ (k i : Nat), ¬ i < l.length → i ≤ l.length → 1000 ≤ k → palinodelaw1_UtfBack.l0 k l ((l.take i).map num) i = some true := by
    intro k i h h2 hk
    obtain ⟨k, rfl⟩ : ∃ m, k = m + 2 := ⟨k - 2, by omega⟩
    rw [List.take_of_length_le (by omega)]
    have hns : (l.map num).length ≤ 60 := by rw [List.length_map]; exact hl
    have hsc : ∀ v ∈ l.map num, sc v := fun v hv => by obtain ⟨x, _, rfl⟩ := List.mem_map.1 hv; exact num_sc x
    have hz := encs_le' (l.map num)
    have hL : L (⟨(U.encs (l.map num)).toArray⟩ : ByteArray) = U.encs (l.map num) := L_mk _
    have hsz : (⟨(U.encs (l.map num)).toArray⟩ : ByteArray).size ≤ 240 := by rw [L_size, hL]; omega
    simp only [palinodelaw1_UtfBack.l0]
    rw [if_neg (by omega), Make_sc _ (by omega) hsc, Option.bind_some, Points_eq _ _ (by omega) (by omega), hL, points_encs' _ hsc, Option.bind_some, if_pos rfl, Valid_eq _ _ (by omega) (by omega), hL, valid_encs' _ hsc, Option.bind_some]
    simp only [palinodelaw1_UtfBack.j1]
    rw [if_neg (by simp)]
    exact back_l1 _ (l.map num) hns hL hsc (l.map num) [] k (by simp) (by omega)
  induction d with
  | zero => intro k i h h2 hk; exact fin k i (by omega) h2 (by omega)
  | succ d ih =>
    intro k i h h2 hk
    by_cases hlt : i < l.length
    · obtain ⟨k, rfl⟩ : ∃ m, k = m + 1 := ⟨k - 1, by omega⟩
      have e1 : rd l (i : Int) = l[i] := by simp [rd, hlt]
      have hx := hw l[i] (List.getElem_mem hlt)
      have hm : Int.tmod l[i] 1114112 = l[i] % 1114112 := Int.tmod_eq_emod_of_nonneg hx.1
      have a := Int.emod_nonneg l[i] (show (1114112 : Int) ≠ 0 by omega)
      have b := Int.emod_lt_of_pos l[i] (show (0 : Int) < 1114112 by omega)
      have e2 : (l.take (i + 1)).map num = (l.take i).map num ++ [num l[i]] := by rw [List.take_succ_eq_append_getElem hlt, List.map_append]; rfl
      have e3 : ((l.take i).map num).length ≤ 60 := by rw [List.length_map, List.length_take]; omega
      have hi := ih k (i + 1) (by omega) (by omega) (by omega)
      rw [e2] at hi
      simp only [palinodelaw1_UtfBack.l0]
      rw [if_pos (by omega), if_pos (by omega), e1, hm, w64 (x := l[i] % 1114112) (by omega) (by omega), w64 (x := (i : Int) + 1) (by omega) (by omega)]
      unfold num at hi
      by_cases c1 : l[i] % 1114112 ≥ 55296
      · rw [if_pos c1]
        by_cases c2 : l[i] % 1114112 < 57344
        · rw [if_pos c2, if_pos (by omega), w64 (by omega) (by omega)]
          rw [if_pos ⟨c1, c2⟩] at hi
          exact hi
        · rw [if_neg c2, if_pos (by omega)]
          rw [if_neg (by omega)] at hi
          exact hi
      · rw [if_neg c1, if_pos (by omega)]
        rw [if_neg (by omega)] at hi
        exact hi
    · exact fin k i hlt h2 (by omega)
theorem UtfBack : palinodelaw1_UtfBack.Pure := by
  intro l h0 h1 h2
  refine ⟨2000, ?_⟩
  unfold palinodelaw1_UtfBack.f
  rw [known1 _ (by omega), Option.bind_some, if_pos rfl]
  by_cases c : (l.length : Int) > 60
  · rw [if_pos c]
  · rw [if_neg c]
    exact back_l0 l (by omega) (fun x hx => bounds_u32 (h2 x hx)) 60 2000 0 (by omega) (by omega) (by omega)

end Go.Proofs.Ytgepcdpnjinadaa.Pure
