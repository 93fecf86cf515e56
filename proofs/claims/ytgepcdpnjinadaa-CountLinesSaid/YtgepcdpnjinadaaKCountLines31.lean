-- several texts in one (wip/merge.py)
import Derived.Test.YtgepcdpnjinadaaKCountLines30
import Derived.OpenShut
section
/- CountLines walked, and its plain law: a text's lines, put together by line ends, are counted by them. No conditions. (Its row: LawCountLines.lean, by hand.) -/
namespace Go.Proofs.Ytgepcdpnjinadaa.V
open Go.RowKit Go.Proofs.Ytgepcdpnjinadaa.PX Go.Proofs.YtgepcdpnjinadaaW.PrintWords Go.Proofs.YtgepcdpnjinadaaW.PrintLast Go.Proofs.YtgepcdpnjinadaaW.PrintMore Go.Proofs.Ytgepcdpnjinadaa.U Go.Lib
set_option linter.unusedVariables false
set_option linter.unusedSimpArgs false
mutual
def preT (ls : List ByteArray) : Nat → ByteArray
  | 0 => ⟨#[]⟩
  | i + 1 => txt ls (i + 1) ++ (⟨#[10]⟩ : ByteArray)
def txt (ls : List ByteArray) : Nat → ByteArray
  | 0 => ⟨#[]⟩
  | i + 1 => preT ls i ++ rdOf ByteArray.empty ls (i : Int)
end
def okL (x : ByteArray) : Prop := x.size ≤ 20 ∧ valid (L x) = true ∧ ∀ j : Nat, j < x.size → bt x (j : Int) ≠ 10
structure Inv (ls : List ByteArray) (g : Nat) (i : Nat) (t : ByteArray) (arr : Array Value) : Prop where
  le : i ≤ ls.length
  tx : t = txt ls i
  ok : ∀ j : Nat, j < i → okL (rdOf ByteArray.empty ls (j : Int))
  sz : arr.size = 13
  at_ : ∀ j : Nat, j < i → arr[j]? = some (.int .i64 ((preT ls j).size : Int))
theorem txt_size (ls : List ByteArray) : ∀ i, (∀ j : Nat, j < i → okL (rdOf ByteArray.empty ls (j : Int))) → (txt ls i).size ≤ 21 * i ∧ (preT ls i).size ≤ 21 * i + 1
  | 0, _ => by unfold txt preT; exact ⟨Nat.zero_le _, by decide⟩
  | i + 1, h => by
    have a := txt_size ls i (fun j hj => h j (by omega))
    have b := (h i (by omega)).1
    have e : (txt ls (i + 1)).size ≤ 21 * (i + 1) := by rw [txt, ByteArray.size_append]; omega
    have o : (⟨#[10]⟩ : ByteArray).size = 1 := rfl
    exact ⟨e, by rw [preT, ByteArray.size_append]; omega⟩
theorem Inv.step {ls : List ByteArray} {g i : Nat} {t x : ByteArray} {arr : Array Value} (I : Inv ls g i t arr) (hi : i < ls.length) (hn : ls.length ≤ 12) (hx : rdOf ByteArray.empty ls (i : Int) = x) (hok : okL x) :
    Inv ls g (i + 1) (preT ls i ++ x) (arr.setIfInBounds i (.int .i64 ((preT ls i).size : Int))) := by
  refine ⟨hi, ?_, fun j hj => ?_, ?_, fun j hj => ?_⟩
  · rw [txt, hx]
  · rcases Nat.lt_or_ge j i with h | h
    · exact I.ok j h
    · rw [show j = i by omega, hx]; exact hok
  · rw [Array.size_setIfInBounds, I.sz]
  · rcases Nat.lt_or_ge j i with h | h
    · rw [Array.getElem?_setIfInBounds_ne (by omega)]; exact I.at_ j h
    · rw [show j = i by omega, Array.getElem?_setIfInBounds_self_of_lt (by rw [I.sz]; omega)]
theorem preT_pos (ls : List ByteArray) {i : Nat} (h : 0 < i) : preT ls i = txt ls i ++ (⟨#[10]⟩ : ByteArray) := by
  obtain ⟨j, rfl⟩ : ∃ j, i = j + 1 := ⟨i - 1, by omega⟩
  rw [preT]
theorem preT_zero (ls : List ByteArray) {i : Nat} (h : ¬ 0 < i) : preT ls i = txt ls i := by
  obtain rfl : i = 0 := by omega
  rw [preT, txt]
theorem over3 (n : Int) (w : List Int) : ∀ (us : List Int) (c : C4), get4 (add4 c (cnt us)) 3 < n → stopAt 3 n (us ++ w) c = stopAt 3 n w (add4 c (cnt us)) := by
  intro us
  induction us with
  | nil => intro c h; rw [cnt, add4_zero]; rfl
  | cons v us ih =>
    intro c h
    have h' := h
    rw [cnt, get4_add, get4_add] at h
    have p := (get4_one v 3).1
    have q := (get4_cnt us 3).1
    rw [List.cons_append, stopAt, if_neg (by omega), ih (add4 c (one4 v)) (by rw [add4_assoc]; exact h'), cnt, add4_assoc]
theorem stop_now (n : Int) (r : List Int) (c : C4) (h : n ≤ get4 c 3) : stopAt 3 n r c = c := by
  cases r with
  | nil => rfl
  | cons v r => rw [stopAt, if_pos h]
theorem cnt3_none : ∀ us : List Int, (∀ v ∈ us, v ≠ 10) → get4 (cnt us) 3 = 0 := by
  intro us
  induction us with
  | nil => intro _; rfl
  | cons v us ih =>
    intro h
    rw [cnt, get4_add, ih (fun w hw => h w (by simp [hw]))]
    have : v ≠ 10 := h v (by simp)
    unfold get4 one4 cl
    simp [this]
theorem one3_10 : get4 (one4 10) 3 = 1 := rfl
theorem enc10 : enc 10 = [10] := by decide +kernel
theorem ok_none {x : ByteArray} (h : okL x) : ∀ v ∈ points (L x), v ≠ 10 := by
  rintro v hv rfl
  obtain ⟨us, vs, e⟩ := List.append_of_mem hv
  have hL := L_parts h.2.1 e
  rw [U.encs_cons, enc10] at hL
  have hz : (U.encs us).length < x.size := by rw [L_size, hL]; simp
  obtain ⟨a, ea, eb⟩ := nth_of x (U.encs us) _ hL (U.encs us).length (Nat.le_refl _) hz
  rw [Nat.sub_self] at ea
  obtain rfl : a = 10 := by simpa using ea.symm
  exact h.2.2 _ hz (by rw [eb]; decide +kernel)
mutual
def preP (ls : List ByteArray) : Nat → List Int
  | 0 => []
  | i + 1 => ptx ls (i + 1) ++ [10]
def ptx (ls : List ByteArray) : Nat → List Int
  | 0 => []
  | i + 1 => preP ls i ++ points (L (rdOf ByteArray.empty ls (i : Int)))
end
theorem pt_facts (ls : List ByteArray) : ∀ i, (∀ j : Nat, j < i → okL (rdOf ByteArray.empty ls (j : Int))) →
    (L (txt ls i) = U.encs (ptx ls i) ∧ (∀ v ∈ ptx ls i, sc v)) ∧ (L (preT ls i) = U.encs (preP ls i) ∧ (∀ v ∈ preP ls i, sc v) ∧ get4 (cnt (preP ls i)) 3 = i) ∧ (∀ m, i = m + 1 → get4 (cnt (ptx ls i)) 3 = m)
  | 0, _ => ⟨⟨by rw [txt, ptx]; rfl, (by rw [ptx]; intro v hv; cases hv)⟩, ⟨by rw [preT, preP]; rfl, (by rw [preP]; intro v hv; cases hv), (by rw [preP]; rfl)⟩, fun m h => by omega⟩
  | i + 1, h => by
    obtain ⟨_, ⟨b1, b2, b3⟩, _⟩ := pt_facts ls i (fun j hj => h j (by omega))
    have ok := h i (by omega)
    have e1 : L (txt ls (i + 1)) = U.encs (ptx ls (i + 1)) := by
      have e := clean_of_valid _ ok.2.1
      unfold clean at e
      rw [txt, ptx, L_append, b1, U.encs_append, e]
    have e2 : ∀ v ∈ ptx ls (i + 1), sc v := by
      rw [ptx]
      intro v hv
      rcases List.mem_append.1 hv with h | h
      · exact b2 v h
      · exact points_sc _ v h
    have e3 : get4 (cnt (ptx ls (i + 1))) 3 = i := by rw [ptx, cnt_append, get4_add, b3, cnt3_none _ (ok_none ok)]; omega
    refine ⟨⟨e1, e2⟩, ⟨?_, ?_, ?_⟩, fun m hm => ?_⟩
    · rw [preT, preP, L_append, e1, U.encs_append, U.encs_cons, U.encs_nil, enc10]; rfl
    · rw [preP]
      intro v hv
      rcases List.mem_append.1 hv with h | h
      · exact e2 v h
      · rw [List.mem_singleton.1 h]; decide
    · rw [preP, cnt_snoc, get4_add, e3, one3_10]; omega
    · rw [e3]; omega
theorem ptx_split (ls : List ByteArray) (q : Nat) : ∀ n, q < n → ∃ r, ptx ls n = preP ls q ++ r
  | 0, h => by omega
  | n + 1, h => by
    rw [ptx]
    by_cases e : q = n
    · subst e; exact ⟨_, rfl⟩
    · obtain ⟨m, rfl⟩ : ∃ m, n = m + 1 := ⟨n - 1, by omega⟩
      obtain ⟨r, hr⟩ := ptx_split ls q (m + 1) (by omega)
      rw [preP, hr]
      exact ⟨r ++ ([10] ++ points (L (rdOf ByteArray.empty ls ((m + 1 : Nat) : Int)))), by simp⟩
theorem lines_to {ls : List ByteArray} {g : Nat} {t : ByteArray} {arr : Array Value} (I : Inv ls g ls.length t arr) (hn : ls.length ≤ 12) (q : Nat) (hq : q < ls.length) : toSpec t 3 q = (((preT ls q).size : Int), 0) := by
  obtain ⟨⟨e1, e2⟩, _, e3⟩ := pt_facts ls ls.length I.ok
  obtain ⟨_, ⟨f1, f2, f3⟩, f4⟩ := pt_facts ls q (fun j hj => I.ok j (by omega))
  obtain ⟨r, hr⟩ := ptx_split ls q ls.length hq
  have e4 := e3 (ls.length - 1) (by omega)
  rw [← I.tx] at e1
  unfold toSpec
  rw [e1, valid_encs' _ e2, points_encs' _ e2, if_pos ⟨by omega, rfl⟩, if_neg (by omega), hr]
  have hs : stopAt 3 (q : Int) (preP ls q ++ r) (0, 0, 0, 0) = cnt (preP ls q) := by
    cases q with
    | zero => rw [preP, cnt]; exact stop_now _ _ _ (by decide)
    | succ m =>
      have g1 := f4 m rfl
      rw [preP, List.append_assoc, over3 _ _ (ptx ls (m + 1)) (0, 0, 0, 0) (by rw [zero_add4]; omega), zero_add4, List.singleton_append, stopAt, if_neg (by omega), cnt_snoc]
      exact stop_now _ _ _ (by rw [get4_add, one3_10]; omega)
  rw [hs]
  unfold toEnd
  rw [if_pos f3, cnt_bytes, L_size, f1]
theorem lines_from {ls : List ByteArray} {g : Nat} {t : ByteArray} {arr : Array Value} (I : Inv ls g ls.length t arr) (hn : ls.length ≤ 12) (q : Nat) (hq : q < ls.length) : fromSpec t 3 ((preT ls q).size : Int) = ((q : Int), 0) := by
  obtain ⟨⟨e1, e2⟩, _, _⟩ := pt_facts ls ls.length I.ok
  obtain ⟨_, ⟨f1, f2, f3⟩, _⟩ := pt_facts ls q (fun j hj => I.ok j (by omega))
  obtain ⟨r, hr⟩ := ptx_split ls q ls.length hq
  rw [← I.tx] at e1
  have hv : valid (L t) = true := by rw [e1]; exact valid_encs' _ e2
  have hp : points (L t) = preP ls q ++ r := by rw [e1, points_encs' _ e2, hr]
  have hL : L t = U.encs (preP ls q) ++ U.encs r := by rw [e1, hr, U.encs_append]
  have hr2 : ∀ v ∈ r, sc v := fun v hv => e2 v (by rw [hr]; simp [hv])
  have he := edge_at t (preP ls q) r f2 hr2 hL
  have hz : (preT ls q).size = (U.encs (preP ls q)).length := by rw [L_size, f1]
  rw [hz, from_at hv (by rw [L_size, hL, List.length_append]; omega) he 3 (by omega) (by omega), cnt_ahead hv hp f2, f3]
theorem lines_end {ls : List ByteArray} {g : Nat} {t : ByteArray} {arr : Array Value} (I : Inv ls g ls.length t arr) (hn : ls.length ≤ 12) (h0 : 0 < ls.length) : toSpec t 3 (ls.length : Int) = (0, 10) ∧ (cntS t).2.2.2 = (ls.length : Int) - 1 := by
  obtain ⟨⟨e1, e2⟩, _, e3⟩ := pt_facts ls ls.length I.ok
  have e4 := e3 (ls.length - 1) (by omega)
  rw [← I.tx] at e1
  have e5 : (cnt (ptx ls ls.length)).2.2.2 = get4 (cnt (ptx ls ls.length)) 3 := rfl
  refine ⟨?_, ?_⟩
  · unfold toSpec
    rw [e1, valid_encs' _ e2, points_encs' _ e2, if_pos ⟨by omega, rfl⟩, if_pos (by omega)]
  · unfold cntS
    rw [e1, points_encs' _ e2, e5]; omega
theorem run_lines (a b c d : Int) (w : World) : (Instr.field 44 (.agg #[.int .i64 a, .int .i64 b, .int .i64 c, .int .i64 d]) 3).run Try.prog w = .ok (.int .i64 d) w := by
  simp [Instr.field, asAgg, go_sem]
set_option maxHeartbeats 8000000 in
set_option maxRecDepth 100000 in
theorem lines_walk (A : Option Addr) (c : Nat) (ls : List ByteArray) (w : World) (hC : Kd.C Kd.string w A ls.length ls) (hc : ls.length ≤ c) :
    Calls Try.prog 15 #[.slice A ls.length c] w fun e w' => e = .returned (.bool true) ∧ Below w.heap.size w w' := by
  by_cases c1 : ls.length < 1 ∨ 12 < ls.length
  · by_cases c2 : ls.length < 1
    · have c1b : decide ((ls.length : Int) < 1) = true := decide_eq_true (by omega)
      have c1c : decide (ls.length < 1) = true := decide_eq_true c2
      clear hC c1
      go_enter Try.func15, Try.ntmps15
      go_wp2_with (first | (go_at_call 33; (with_reducible refine (cKnown2 _).mono ?_); rintro e w1 ⟨rfl, b1⟩))
      go_ret
      exact ⟨rfl, b1⟩
    · have c1b : decide ((ls.length : Int) < 1) = false := decide_eq_false (by omega)
      have c1c : decide (ls.length < 1) = false := decide_eq_false c2
      have c1d : decide ((12 : Int) < (ls.length : Int)) = true := decide_eq_true (by omega)
      have c1e : decide (12 < ls.length) = true := decide_eq_true (by omega)
      clear hC c1
      go_enter Try.func15, Try.ntmps15
      go_wp2_with (first | (go_at_call 33; (with_reducible refine (cKnown2 _).mono ?_); rintro e w1 ⟨rfl, b1⟩))
      go_ret
      exact ⟨rfl, b1⟩
  have n0 : 0 < ls.length := by omega
  have n1 : ls.length ≤ 12 := by omega
  have c1b : decide ((ls.length : Int) < 1) = false := decide_eq_false (by omega)
  have c1c : decide (ls.length < 1) = false := decide_eq_false (by omega)
  have c1d : decide ((12 : Int) < (ls.length : Int)) = false := decide_eq_false (by omega)
  have c1e : decide (12 < ls.length) = false := decide_eq_false (by omega)
  have hA : ∃ ad, A = some ad := by obtain ⟨ad, h, _⟩ := Kd.at_string hC 0 (by omega) (by omega); exact ⟨ad, h⟩
  obtain ⟨ad, rfl⟩ := hA
  have hcell : ∀ (wr : World), Below w.heap.size w wr → ∀ i : Nat, i < ls.length → wr.cell? (ad.add i) = some (.string (rdOf ByteArray.empty ls (i : Int))) := by
    intro wr hb i hi
    obtain ⟨ad', h, h'⟩ := Kd.at_string hC (i : Int) (by omega) (by omega)
    cases h
    exact pw_cell_below hb h'
  replace hcell := Aside0.mk hcell
  clear hC c1
  go_enter Try.func15, Try.ntmps15
  go_wp2_with (first | (go_at_call 33; (with_reducible refine (cKnown2 _).mono ?_); rintro e w1 ⟨rfl, b1⟩))
  go_loopw [3, 5] (fun v3 v5 wr => ∃ (i : Nat) (t : ByteArray) (arr : Array Value), v3 = .string t ∧ v5 = .int .i64 (i : Int) ∧ Aside0 (Inv ls w1.heap.size i t arr) ∧ Aside0 (wr.heap[w1.heap.size]? = some (.cells arr 56 (0, 0))) ∧ Aside0 (Below w.heap.size w wr)) (fun _ v5 _ => ls.length - (RowKit.intOf v5).toNat)
  case atStart =>
    refine ⟨0, ⟨#[]⟩, _, rfl, rfl, ⟨⟨Nat.zero_le _, by rw [txt], fun j hj => absurd hj (by omega), rfl, fun j hj => absurd hj (by omega)⟩⟩, ⟨heap_alloc_new _ _⟩, ⟨below_alloc b1 _⟩⟩
  case round =>
    obtain ⟨i, t, arr, rfl, rfl, I, K, HB⟩ := hrel
    by_cases hi : i < ls.length
    · obtain ⟨x, hx⟩ : ∃ x, rdOf ByteArray.empty ls (i : Int) = x := ⟨_, rfl⟩
      have hxc := hcell.out wr HB.out i hi
      rw [hx] at hxc
      have d1 : decide ((i : Int) < (ls.length : Int)) = true := decide_eq_true (by omega)
      have d2 : decide (i < ls.length) = true := decide_eq_true hi
      have p1 : 0 ≤ (i : Int) := by omega
      have q1 : (i : Int) < (ls.length : Int) := by omega
      replace p1 := eq_true p1
      replace q1 := eq_true q1
      by_cases c20 : 20 < x.size
      · have d3 : decide ((20 : Int) < (x.size : Int)) = true := decide_eq_true (by omega)
        have d4 : decide (20 < x.size) = true := decide_eq_true c20
        go_wp2
        go_ret
        exact ⟨rfl, HB.out⟩
      · have d3 : decide ((20 : Int) < (x.size : Int)) = false := decide_eq_false (by omega)
        have d4 : decide (20 < x.size) = false := decide_eq_false c20
        have hv := crValid x (by omega)
        by_cases v : valid (L x) = true
        · rw [v] at hv
          go_wp2_with (first | (go_at_call 25; (with_reducible refine (hv _).mono ?_); rintro e w2 ⟨rfl, b2⟩))
          have HB2 := Aside0.mk (below_step HB.out b2)
          have K2 := Aside0.mk (blk_below K.out b2)
          have hxc2 := hcell.out w2 HB2.out i hi
          rw [hx] at hxc2
          clear HB K hxc
          go_loop [6] (fun v6 => ∃ k : Nat, v6 = .int .i64 (k : Int) ∧ k ≤ x.size ∧ ∀ j : Nat, j < k → bt x (j : Int) ≠ 10) (fun v6 => x.size - (RowKit.intOf v6).toNat)
          case atStart => exact ⟨0, rfl, Nat.zero_le _, fun j hj => absurd hj (by omega)⟩
          case round =>
            obtain ⟨k, rfl, kle, knone⟩ := hrel
            by_cases hk : k < x.size
            · have e1 : decide ((k : Int) < (x.size : Int)) = true := decide_eq_true (by omega)
              have e2 : decide (k < x.size) = true := decide_eq_true hk
              have hb : ∀ h : k < x.size, ((x[k]'h).toNat : Int) = bt x (k : Int) := bt_at x (k : Int)
              have p2 : 0 ≤ (k : Int) := by omega
              have q2 : (k : Int) < (x.size : Int) := by omega
              replace p2 := eq_true p2
              replace q2 := eq_true q2
              by_cases c10 : bt x (k : Int) = 10
              · have e3 : (bt x (k : Int) == 10) = true := beq_iff_eq.2 c10
                go_wp2
                go_ret
                exact ⟨rfl, HB2.out⟩
              · have e3 : (bt x (k : Int) == 10) = false := beq_eq_false_iff_ne.2 c10
                replace knone := Aside0.mk knone
                go_wp2
                refine ⟨⟨k + 1, by go_num, by omega, fun j hj => ?_⟩, by simp [RowKit.intOf]; omega⟩
                rcases Nat.lt_or_ge j k with h | h
                · exact knone.out j h
                · rw [show j = k by omega]; exact c10
            · have e1 : decide ((k : Int) < (x.size : Int)) = false := decide_eq_false (by omega)
              have e2 : decide (k < x.size) = false := decide_eq_false hk
              have hok : okL x := ⟨by omega, v, fun j hj => knone j (by omega)⟩
              replace hok := Aside0.mk hok
              clear knone v
              have ht := (txt_size ls i I.out.ok).1
              rw [← I.out.tx] at ht
              have hts : t.size ≤ 300 := by omega
              have hxs : x.size ≤ 20 := by omega
              obtain ⟨old, ho⟩ : ∃ old, arr[i]? = some old := ⟨arr[i]'(by rw [I.out.sz]; omega), by simp [I.out.sz]⟩
              have hac := (blk_cell K2.out i).trans ho
              have haf := blk_frozen K2.out i
              have g1 : w.heap.size ≤ w1.heap.size := b1.size
              have hxc3 := fun v => hcell.out (w2.setCell ⟨w1.heap.size, i, none⟩ v) (below_set HB2.out g1) i hi
              rw [hx] at hxc3
              have a1 : decide ((i : Int) < 13) = true := decide_eq_true (by omega)
              have a2 : decide (i < 13) = true := decide_eq_true (by omega)
              have a3 : ((i : Int) < 13) = True := eq_true (by omega)
              have a4 : (i < 13) = True := eq_true (by omega)
              clear ht ho
              by_cases i0 : 0 < i
              · have u1 : decide (0 < (i : Int)) = true := decide_eq_true (by omega)
                have u2 : decide (0 < i) = true := decide_eq_true i0
                have u3 : t.size + 1 ≤ 301 := by omega
                have u4 : (t ++ (⟨#[10]⟩ : ByteArray)).size + x.size ≤ 330 := by rw [ByteArray.size_append]; have o : (⟨#[10]⟩ : ByteArray).size = 1 := rfl; omega
                have hp := preT_pos ls i0
                rw [← I.out.tx] at hp
                have hz : ((preT ls i).size : Int) = (t.size : Int) + 1 := by rw [hp, ByteArray.size_append]; rfl
                replace hp := Aside0.mk hp
                replace hz := Aside0.mk hz
                go_wp2
                refine ⟨⟨i + 1, _, arr.setIfInBounds i (.int .i64 ((t.size : Int) + 1)), rfl, by go_num, ⟨?_⟩, ⟨blk_put K2.out i _ rfl⟩, ⟨below_set HB2.out g1⟩⟩, by simp [RowKit.intOf]; omega⟩
                have := I.out.step hi n1 hx hok.out
                rw [hz.out, hp.out] at this
                exact this
              · have u1 : decide (0 < (i : Int)) = false := decide_eq_false (by omega)
                have u2 : decide (0 < i) = false := decide_eq_false i0
                have u4 : t.size + x.size ≤ 330 := by omega
                have hp := preT_zero ls i0
                rw [← I.out.tx] at hp
                replace hp := Aside0.mk hp
                go_wp2
                refine ⟨⟨i + 1, _, arr.setIfInBounds i (.int .i64 (t.size : Int)), rfl, by go_num, ⟨?_⟩, ⟨blk_put K2.out i _ rfl⟩, ⟨below_set HB2.out g1⟩⟩, by simp [RowKit.intOf]; omega⟩
                have := I.out.step hi n1 hx hok.out
                rw [hp.out] at this
                exact this
        · rw [Bool.not_eq_true] at v
          rw [v] at hv
          go_wp2_with (first | (go_at_call 25; (with_reducible refine (hv _).mono ?_); rintro e w2 ⟨rfl, b2⟩))
          go_ret
          exact ⟨rfl, below_step HB.out b2⟩
    · have d1 : decide ((i : Int) < (ls.length : Int)) = false := decide_eq_false (by omega)
      have d2 : decide (i < ls.length) = false := decide_eq_false hi
      obtain rfl : i = ls.length := by have := I.out.le; omega
      have ht := (txt_size ls ls.length I.out.ok).1
      rw [← I.out.tx] at ht
      have hts : t.size ≤ 300 := by omega
      have g1 : w.heap.size ≤ w1.heap.size := b1.size
      clear ht
      have htoE := fun w => cTo t (by omega) 3 (ls.length : Int) w
      rw [(lines_end I.out n1 n0).1] at htoE
      have hof := fun w => cOf t (by omega) w
      have hl := (lines_end I.out n1 n0).2
      obtain ⟨⟨p1, p2, p3, p4⟩, hcs⟩ : ∃ z, cntS t = z := ⟨_, rfl⟩
      rw [hcs] at hof hl
      simp only [V4] at hof
      dsimp only at hl
      subst hl
      go_upto_region 22 with (fail)
      go_loopw [7] (fun v7 wq => ∃ q : Nat, v7 = .int .i64 (q : Int) ∧ Aside0 (q ≤ ls.length) ∧ Aside0 (wq.heap[w1.heap.size]? = some (.cells arr 56 (0, 0))) ∧ Aside0 (Below w.heap.size w wq)) (fun v7 _ => ls.length - (RowKit.intOf v7).toNat)
      case atStart => exact ⟨0, rfl, ⟨Nat.zero_le _⟩, K, HB⟩
      case round =>
        obtain ⟨q, rfl, hq, Kq, HBq⟩ := hrel
        by_cases hql : q < ls.length
        · have d3 : decide ((q : Int) < (ls.length : Int)) = true := decide_eq_true (by omega)
          have d4 : decide (q < ls.length) = true := decide_eq_true hql
          have hto := fun w => cTo t (by omega) 3 (q : Int) w
          rw [lines_to I.out n1 q hql] at hto
          have hfr := fun w => cFrom t (by omega) 3 ((preT ls q).size : Int) w
          rw [lines_from I.out n1 q hql] at hfr
          have hat := I.out.at_ q hql
          obtain ⟨P, hP⟩ : ∃ P : Nat, (preT ls q).size = P := ⟨_, rfl⟩
          rw [hP] at hto hfr hat
          have hac0 := (blk_cell Kq.out q).trans hat
          have a0 : 0 ≤ (q : Int) := by omega
          replace a0 := eq_true a0
          have a1 : decide ((q : Int) < 13) = true := decide_eq_true (by omega)
          have a2 : decide (q < 13) = true := decide_eq_true (by omega)
          have a3 : ((q : Int) < 13) = True := eq_true (by omega)
          have a4 : (q < 13) = True := eq_true (by omega)
          go_wp2_with (first | (go_at_call 34; (with_reducible refine (hto _).mono ?_); rintro e w3 ⟨rfl, b3⟩; have K3 := Aside0.mk (blk_below Kq.out b3); have hac3 := (blk_cell K3.out q).trans hat) | (go_at_call 36; (with_reducible refine (hfr _).mono ?_); rintro e w4 ⟨rfl, b4⟩; have K4 := Aside0.mk (blk_below K3.out b4); have hac4 := (blk_cell K4.out q).trans hat))
          exact ⟨⟨q + 1, by go_num, ⟨hql⟩, K4, ⟨below_step (below_step HBq.out b3) b4⟩⟩, by simp [RowKit.intOf]; omega⟩
        · have d3 : decide ((q : Int) < (ls.length : Int)) = false := decide_eq_false (by omega)
          have d4 : decide (q < ls.length) = false := decide_eq_false hql
          obtain rfl : q = ls.length := by have := hq.out; omega
          go_wp2_with (first | (go_at_call 34; (with_reducible refine (htoE _).mono ?_); rintro e w3 ⟨rfl, b3⟩) | (go_at_call 38; (with_reducible refine (hof _).mono ?_); rintro e w4 ⟨rfl, b4⟩))
          rw [run_lines]
          simp only [Result.andThen]
          rw [Oper.upon_value]
          go_wp2
          go_ret
          exact ⟨rfl, below_step (below_step HBq.out b3) b4⟩
end Go.Proofs.Ytgepcdpnjinadaa.V
namespace Go.Proofs.Ytgepcdpnjinadaa
open Go.RowKit V U
theorem Pure.CountLines : True := trivial
theorem PX.palinodelaw2_CountLines.walk (_ : True) (A : Option Addr) (c : Nat) (ls : List ByteArray) (w : World) (hC : Go.Proofs.YtgepcdpnjinadaaW.PrintWords.Kd.C Go.Proofs.YtgepcdpnjinadaaW.PrintWords.Kd.string w A ls.length ls) (hc : ls.length ≤ c) :
    Calls Try.prog 15 #[.slice A ls.length c] w fun e w' => e = .returned (.bool true) ∧ Below w.heap.size w w' :=
  lines_walk A c ls w hC hc
end Go.Proofs.Ytgepcdpnjinadaa
end
