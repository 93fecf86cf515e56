/- A region: in the order of its text, and in any other that its edges let be. No condition. -/
import Derived.Test.YtihgpnfkadldeaaAM21
namespace Go.Proofs.Ytihgpnfkadldeaa.AM
open Go Go.RowKit
set_option linter.unusedVariables false
set_option linter.unusedSimpArgs false

section
variable {s s' : St} {call : Call}

theorem WF.step (hw : WF s) {o : AOper} (h : step call o s = some s') : WF s' := by
  rw [step_pre] at h
  cases hp : pre call o s with
  | none => rw [hp] at h; simp at h
  | some e =>
    rw [hp] at h
    simp only [Option.map_some, Option.some.injEq] at h
    subst h
    intro n v d hn hd
    have old : get s.t n = some v → get (app o s e).h d ≠ none := fun hn => putAll_keeps e.hs (hw n v d hn hd)
    cases hod : o.d with
    | none => exact old (by simpa [app, hod, puts] using hn)
    | some k =>
      simp only [app, hod, puts, get_put] at hn
      split at hn
      · simp only [Option.some.injEq] at hn
        subst hn
        rcases pre_eff hp with he | rfl
        · exact eff_id hw he hd
        · simp [SV.id?, undefS] at hd
      · exact old hn

theorem putAll_eqv {h h' : List (Nat × Ob)} (e : ∀ d, get h d = get h' d) (l : List (Nat × Ob)) (d : Nat) : get (putAll h l) d = get (putAll h' l) d := by
  rw [get_putAll, get_putAll, e]
theorem puts_eqv {t t' : List (Nat × SV)} (e : ∀ n, get t n = get t' n) (d : Option Nat) (v : SV) (n : Nat) : get (puts t d v) n = get (puts t' d v) n := by
  cases d with
  | none => exact e n
  | some d => simp only [puts, get_put, e]

theorem Eqv.step (E : Eqv s s') {o : AOper} {s1 : St} (h : step call o s = some s1) : ∃ s1', AM.step call o s' = some s1' ∧ Eqv s1 s1' := by
  rw [step_pre] at h
  have hp : pre call o s = pre call o s' := pre_same (fun n _ => E.1 n) (eff_congr call _ _ (fun x _ => E.ev x) E.2)
  cases he : pre call o s with
  | none => rw [he] at h; simp at h
  | some e =>
    rw [he] at h
    simp only [Option.map_some, Option.some.injEq] at h
    subst h
    exact ⟨app o s' e, by rw [step_pre, ← hp, he]; rfl, fun n => puts_eqv E.1 _ _ n, fun d => putAll_eqv E.2 _ d⟩
theorem Eqv.steps : ∀ {os : List AOper} {s s' s1 : St}, Eqv s s' → steps call os s = some s1 → ∃ s1', AM.steps call os s' = some s1' ∧ Eqv s1 s1'
  | [], s, s', s1, E, h => by
    simp only [AM.steps, Option.some.injEq] at h
    subst h
    exact ⟨s', rfl, E⟩
  | o :: os, s, s', s1, E, h => by
    simp only [AM.steps] at h
    cases h1 : AM.step call o s with
    | none => rw [h1] at h; simp at h
    | some s2 =>
      rw [h1] at h
      obtain ⟨s2', k1, k2⟩ := E.step h1
      obtain ⟨s3, k3, k4⟩ := k2.steps h
      exact ⟨s3, by simp only [AM.steps, k1]; exact k3, k4⟩

/-- A step that is apart from those ahead of it, taken first. -/
theorem front {i : AOper} {B : List AOper} : ∀ {A : List AOper} {s sn : St}, WF s → (∀ a ∈ A, indep a i = true) → steps call (A ++ i :: B) s = some sn → ∃ s1 sn', step call i s = some s1 ∧ steps call (A ++ B) s1 = some sn' ∧ Eqv sn sn'
  | [], s, sn, hw, hA, h => by
    simp only [List.nil_append, steps] at h
    cases h1 : step call i s with
    | none => rw [h1] at h; simp at h
    | some s1 => rw [h1] at h; exact ⟨s1, sn, rfl, h, Eqv.refl _⟩
  | a :: A, s, sn, hw, hA, h => by
    simp only [List.cons_append, steps] at h
    cases ha : step call a s with
    | none => rw [ha] at h; simp at h
    | some sa =>
      rw [ha] at h
      obtain ⟨sai, sn1, k1, k2, k3⟩ := front (hw.step ha) (fun x hx => hA x (by simp [hx])) h
      obtain ⟨si, sia, m1, m2, m3⟩ := swap hw (hA a (by simp)) ha k1
      obtain ⟨sn2, n1, n2⟩ := m3.steps k2
      exact ⟨si, sn2, m1, by simp only [List.cons_append, steps, m2]; exact n1, k3.trans n2⟩

def pickL (as : List AOper) (l : List Nat) : List AOper := l.filterMap fun i => as[i]?
theorem pick_range : ∀ (as : List AOper), pickL as (List.range as.length) = as
  | [] => rfl
  | a :: as => by
    have ih := pick_range as
    unfold pickL at ih ⊢
    rw [List.length_cons, List.range_succ_eq_map, List.filterMap_cons]
    simp only [List.getElem?_cons_zero, List.filterMap_map]
    congr 1
def rem (n : Nat) (listed : Array Bool) : List Nat := (List.range n).filter fun i => !listed.getD i true

theorem rem_take {n i : Nat} {listed : Array Bool} (hi : i < n) (hl : listed.getD i true = false) :
    ∃ A B, rem n listed = A ++ i :: B ∧ rem n (listed.setIfInBounds i true) = A ++ B ∧ ∀ j ∈ A, j < i ∧ listed.getD j true = false := by
  obtain ⟨X, Y, hXY⟩ := List.append_of_mem (List.mem_range.2 hi)
  have hp : List.Pairwise (· < ·) (X ++ i :: Y) := hXY ▸ List.pairwise_lt_range
  obtain ⟨_, hp2, hp3⟩ := List.pairwise_append.1 hp
  have hX : ∀ j ∈ X, j < i := fun j hj => hp3 j hj i (by simp)
  have hY : ∀ j ∈ Y, i < j := fun j hj => (List.pairwise_cons.1 hp2).1 j hj
  have hisz : i < listed.size := by
    rcases Nat.lt_or_ge i listed.size with h | h
    · exact h
    · simp [Array.getElem?_eq_none h] at hl
  have keep : ∀ (l : List Nat), (∀ j ∈ l, j ≠ i) → l.filter (fun j => !(listed.setIfInBounds i true).getD j true) = l.filter (fun j => !listed.getD j true) := fun l hl => by
    refine List.filter_congr fun j hj => ?_
    rw [getD_set_ne true (Ne.symm (hl j hj))]
  refine ⟨X.filter fun j => !listed.getD j true, Y.filter fun j => !listed.getD j true, ?_, ?_, ?_⟩
  · unfold rem
    rw [hXY, List.filter_append, List.filter_cons_of_pos (by simp only [hl]; rfl)]
  · unfold rem
    rw [hXY, List.filter_append, List.filter_cons_of_neg (by simp [hisz]), keep X fun j hj => Nat.ne_of_lt (hX j hj), keep Y fun j hj => Nat.ne_of_gt (hY j hj)]
  · intro j hj
    rw [List.mem_filter] at hj
    exact ⟨hX j hj.1, by simpa using hj.2⟩
end

/-! ### the edges -/
section
variable {ops : List Oper}

theorem bef_bit (md : Region.Mode) (acc : List Nat) (j : Nat) : ∀ (es : List Edge) (m : Nat), (es.foldl (fun m e => if Region.binds md e then m ||| (1 <<< e.on) ||| acc.getD e.on 0 else m) m).testBit j = true →
    m.testBit j = true ∨ ∃ e ∈ es, Region.binds md e = true ∧ (e.on = j ∨ (acc.getD e.on 0).testBit j = true)
  | [], m, h => .inl h
  | e :: es, m, h => by
    rw [List.foldl_cons] at h
    rcases bef_bit md acc j es _ h with h | ⟨e', he', hb⟩
    · split at h
      · rename_i hb
        rw [Nat.testBit_or, Nat.testBit_or, Bool.or_eq_true, Bool.or_eq_true] at h
        rcases h with (h | h) | h
        · exact .inl h
        · refine .inr ⟨e, by simp, hb, .inl ?_⟩
          rw [Nat.shiftLeft_eq, Nat.one_mul, Nat.testBit_two_pow] at h
          simpa using h
        · exact .inr ⟨e, by simp, hb, .inr h⟩
      · exact .inl h
    · exact .inr ⟨e', by simp [he'], hb⟩

theorem befs_get (md : Region.Mode) : ∀ (os : List Oper) (n : Nat) (acc : List Nat), (∀ i, i < acc.length → (befs md os n acc)[i]? = acc[i]?) ∧
    ∀ (i : Nat) (o : Oper), os[i]? = some o → ∃ pre : List Nat, pre.length = acc.length + i ∧ (∀ j, j < pre.length → (befs md os n acc)[j]? = pre[j]?) ∧
      (befs md os n acc)[acc.length + i]? = some (o.after.toList.foldl (fun m e => if Region.binds md e then m ||| (1 <<< e.on) ||| pre.getD e.on 0 else m) 0)
  | [], n, acc => ⟨fun i _ => rfl, fun i o h => by simp at h⟩
  | o :: os, n, acc => by
    obtain ⟨h1, h2⟩ := befs_get md os (n + 1) (acc ++ [o.after.toList.foldl (fun m e => if Region.binds md e then m ||| (1 <<< e.on) ||| acc.getD e.on 0 else m) 0])
    refine ⟨fun i hi => ?_, fun i o' ho => ?_⟩
    · simp only [befs]
      rw [h1 i (by simp; omega), List.getElem?_append_left hi]
    · cases i with
      | zero =>
        simp only [List.getElem?_cons_zero, Option.some.injEq] at ho
        subst ho
        refine ⟨acc, rfl, fun j hj => ?_, ?_⟩
        · simp only [befs]
          rw [h1 j (by simp; omega), List.getElem?_append_left hj]
        · simp only [befs]
          rw [h1 _ (by simp)]
          simp
      | succ i =>
        simp only [List.getElem?_cons_succ] at ho
        obtain ⟨pre, k1, k2, k3⟩ := h2 i o' ho
        refine ⟨pre, ?_, ?_, ?_⟩
        · rw [k1]; simp; omega
        · simpa only [befs] using k2
        · simp only [befs]
          rw [← k3]
          congr 1
          simp; omega

theorem backs_get (md : Region.Mode) : ∀ (os : List Oper) (n : Nat), backs md os n = true → ∀ (i : Nat) (o : Oper), os[i]? = some o → ∀ e ∈ o.after, Region.binds md e = true → e.on < n + i
  | [], n, h, i, o, ho => by simp at ho
  | o :: os, n, h, i, o', ho => by
    simp only [backs, Bool.and_eq_true] at h
    cases i with
    | zero =>
      simp only [List.getElem?_cons_zero, Option.some.injEq] at ho
      subst ho
      intro e he hb
      have := List.all_eq_true.1 h.1 e (by simpa using he)
      simpa [hb] using this
    | succ i =>
      simp only [List.getElem?_cons_succ] at ho
      intro e he hb
      have := backs_get md os (n + 1) h.2 i o' ho e he hb
      omega

def Closed (ops : List Oper) (listed : Array Bool) : Prop := ∀ (j : Nat) (o : Oper), ops[j]? = some o → listed.getD j false = true → ∀ e ∈ o.after, Region.binds .any e = true → listed.getD e.on false = true

theorem bef_listed {listed : Array Bool} (hc : Closed ops listed) (hb : backs .any ops 0 = true) : ∀ (i : Nat) (o : Oper), ops[i]? = some o → (∀ e ∈ o.after, Region.binds .any e = true → listed.getD e.on false = true) →
    ∀ j, ((befs .any ops 0 [])[i]?.getD 0).testBit j = true → listed.getD j false = true := by
  intro i
  induction i using Nat.strongRecOn with
  | ind i ih =>
    intro o ho hall j hj
    obtain ⟨pre, k1, k2, k3⟩ := (befs_get .any ops 0 []).2 i o ho
    simp only [List.length_nil, Nat.zero_add] at k1 k3
    rw [k3] at hj
    rcases bef_bit .any pre j _ 0 hj with h | ⟨e, he, hbe, h⟩
    · simp at h
    · have hl := hall e (by simpa using he) hbe
      rcases h with rfl | h
      · exact hl
      · have hlt := backs_get .any ops 0 hb i o ho e (by simpa using he) hbe
        simp only [Nat.zero_add] at hlt
        have hon : ∃ o', ops[e.on]? = some o' := by
          have : i < ops.length := (List.getElem?_eq_some_iff.1 ho).1
          exact ⟨ops[e.on]'(by omega), List.getElem?_eq_getElem _⟩
        obtain ⟨o', ho'⟩ := hon
        refine ih e.on hlt o' ho' (hc e.on o' ho' hl) j ?_
        rw [k2 _ (by omega)]
        rw [List.getD_eq_getElem?_getD] at h
        exact h

theorem okPair_get {m : Nat} {i : AOper} : ∀ {as : List AOper} {n : Nat}, okPair m i as n = true → ∀ (j : Nat) (a : AOper), as[j]? = some a → m.testBit (n + j) = true ∨ indep a i = true
  | [], n, h, j, a, ha => by simp at ha
  | b :: as, n, h, j, a, ha => by
    simp only [okPair, Bool.and_eq_true, Bool.or_eq_true] at h
    cases j with
    | zero =>
      simp only [List.getElem?_cons_zero, Option.some.injEq] at ha
      subst ha
      exact h.1
    | succ j =>
      simp only [List.getElem?_cons_succ] at ha
      have := okPair_get h.2 j a ha
      rwa [show n + 1 + j = n + (j + 1) by omega] at this

theorem okPairs_get : ∀ {ms : List Nat} {seen as : List AOper}, okPairs ms seen as = true → ms.length = as.length → ∀ (i : Nat) (ai : AOper), as[i]? = some ai → ∀ (j : Nat) (aj : AOper), (seen ++ as)[j]? = some aj → j < seen.length + i → (ms[i]?.getD 0).testBit j = true ∨ indep aj ai = true
  | [], seen, as, h, hl, i, ai, hi => by
    cases as with
    | nil => simp at hi
    | cons a as => simp at hl
  | m :: ms, seen, [], h, hl, i, ai, hi => by simp at hi
  | m :: ms, seen, a :: as, h, hl, i, ai, hi => by
    simp only [okPairs, Bool.and_eq_true] at h
    intro j aj hj hlt
    cases i with
    | zero =>
      simp only [List.getElem?_cons_zero, Option.some.injEq] at hi
      subst hi
      rw [List.getElem?_append_left (by omega)] at hj
      have := okPair_get h.1 j aj hj
      simpa using this
    | succ i =>
      simp only [List.getElem?_cons_succ] at hi
      have := okPairs_get h.2 (by simpa using hl) i ai hi j aj (by simpa using hj) (by simp; omega)
      simpa using this
end

/-! ### the regions -/
section
variable {P : Program} {base : Nat} {w0 : World} {lm0 : Nat → Nat} {N : Nat} {g : Gs} {a : Act} {w : World} {s : St} {call : Call} {Q : Exit → Act → World → Prop} {ops : Array Oper}

theorem Sim.wf (S : Sim base w0 lm0 N g a w s) : WF s := by
  intro n v d hn hd
  obtain ⟨u, _, hr⟩ := S.tm n v hn
  cases v with
  | p x => simp [SV.id?] at hd
  | xs k l => simp [SV.id?] at hd
  | ms d' off len =>
    simp only [SV.id?, Option.some.injEq] at hd
    subst hd
    intro hnn
    simp only [SRep, hnn] at hr
  | mp d' i j =>
    simp only [SV.id?, Option.some.injEq] at hd
    subst hd
    intro hnn
    simp only [SRep, hnn] at hr

theorem Sim.eqv (S : Sim base w0 lm0 N g a w s) {s' : St} (E : Eqv s s') : Sim base w0 lm0 N g a w s' :=
  S.less (fun n v h => by rw [E.1]; exact h) (fun d o h => by rw [E.2]; exact h) (fun n v d _ _ => (E.2 d).symm)

theorem okOps_get : ∀ {os : List Oper} {as : List AOper}, okOps P N ops os as = true → os.length = as.length ∧ ∀ (i : Nat) (o : Oper), os[i]? = some o → ∃ ao, as[i]? = some ao ∧ okOper P N ops o ao = true
  | [], [], h => ⟨rfl, fun i o ho => by simp at ho⟩
  | [], a :: as, h => by simp [okOps] at h
  | o :: os, [], h => by simp [okOps] at h
  | o :: os, a :: as, h => by
    simp only [okOps, Bool.and_eq_true] at h
    obtain ⟨h1, h2⟩ := okOps_get h.2
    refine ⟨by simp [h1], fun i o' ho => ?_⟩
    cases i with
    | zero =>
      simp only [List.getElem?_cons_zero, Option.some.injEq] at ho
      subst ho
      exact ⟨a, rfl, h.1⟩
    | succ i =>
      simp only [List.getElem?_cons_succ] at ho ⊢
      exact h2 i o' ho

theorem ops_text (hG : Good P call) {as : List AOper} (hok : okOps P N ops ops.toList as = true) {sn : St} (hK : ∀ g' a' w', Sim base w0 lm0 N g' a' w' sn → Q .normal a' w') :
    ∀ (l : List Nat) {g : Gs} {a : Act} {w : World} {s : St}, (∀ i ∈ l, i < ops.size) → Sim base w0 lm0 N g a w s → steps call (pickL as l) s = some sn → wpOps P ops Q l a w
  | [], g, a, w, s, hl, S, h => by
    simp only [pickL, List.filterMap_nil, steps, Option.some.injEq] at h
    subst h
    exact hK g a w S
  | i :: l, g, a, w, s, hl, S, h => by
    have hi : i < ops.size := hl i (by simp)
    obtain ⟨ao, h1, h2⟩ := (okOps_get hok).2 i ops[i] (by simp [hi])
    simp only [pickL, List.filterMap_cons, h1, steps] at h
    rw [wpOps_cons]
    cases hs : step call ao s with
    | none => rw [hs] at h; simp at h
    | some s1 =>
      rw [hs] at h
      exact step_sound S hG (Array.getElem?_eq_getElem hi) h2 hs fun g' a' w' S' => ops_text hG hok hK l (fun j hj => hl j (by simp [hj])) S' h

theorem ready_some {listed : Array Bool} (hb : backs .any ops.toList 0 = true) : ∀ n, n < ops.size → listed.getD n true = false → ∃ i, i ∈ Region.ready .any ops listed := by
  intro n
  induction n using Nat.strongRecOn with
  | ind n ih =>
    intro hn hl
    by_cases h : ∀ e ∈ ops[n].after, Region.binds .any e = true → listed.getD e.on false = true
    · exact ⟨n, mem_ready.2 ⟨hl, ops[n], Array.getElem?_eq_getElem hn, h⟩⟩
    · have : ∃ e, e ∈ ops[n].after ∧ Region.binds .any e = true ∧ listed.getD e.on false ≠ true := by
        apply Classical.byContradiction
        intro hno
        exact h fun e he hbe => Classical.byContradiction fun hx => hno ⟨e, he, hbe, hx⟩
      obtain ⟨e, he, hbe, hx⟩ := this
      have hlt := backs_get .any ops.toList 0 hb n ops[n] (by simp [hn]) e he hbe
      simp only [Nat.zero_add] at hlt
      by_cases hsz : e.on < listed.size
      · refine ih e.on hlt (by omega) ?_
        simp [hsz] at hx ⊢
        exact hx
      · -- then the later one would not be there either
        exfalso
        simp [Array.getElem?_eq_none (show listed.size ≤ n by omega)] at hl

theorem ops_any (hG : Good P call) {as : List AOper} (hok : okOps P N ops ops.toList as = true) (hord : okOrder ops.toList as = true) {sn : St} (hK : ∀ g' a' w', Sim base w0 lm0 N g' a' w' sn → Q .normal a' w') :
    ∀ (fuel : Nat) {listed : Array Bool} {g : Gs} {a : Act} {w : World} {s : St}, Closed ops.toList listed → (rem ops.size listed).length ≤ fuel → Sim base w0 lm0 N g a w s → (∃ sn', steps call (pickL as (rem ops.size listed)) s = some sn' ∧ Eqv sn sn') → wpAny P .any ops Q fuel listed a w := by
  simp only [okOrder, Bool.and_eq_true] at hord
  obtain ⟨hb, hpairs⟩ := hord
  have nil : ∀ {listed : Array Bool} {g : Gs} {a : Act} {w : World} {s : St}, rem ops.size listed = [] → Sim base w0 lm0 N g a w s → (∃ sn', steps call (pickL as (rem ops.size listed)) s = some sn' ∧ Eqv sn sn') → Q .normal a w := by
    rintro listed g a w s hr S ⟨sn', h1, h2⟩
    rw [hr] at h1
    simp only [pickL, List.filterMap_nil, steps, Option.some.injEq] at h1
    subst h1
    exact hK g a w (S.eqv h2.symm)
  have emp : ∀ {listed : Array Bool}, Region.ready .any ops listed = [] → rem ops.size listed = [] := by
    intro listed hr
    cases hrem : rem ops.size listed with
    | nil => rfl
    | cons i l =>
      exfalso
      have hm : i ∈ rem ops.size listed := by rw [hrem]; simp
      unfold rem at hm
      rw [List.mem_filter, List.mem_range] at hm
      obtain ⟨j, hj⟩ := ready_some hb i hm.1 (by simpa using hm.2)
      rw [hr] at hj
      cases hj
  intro fuel
  induction fuel with
  | zero =>
    intro listed g a w s hc hl S hs
    have hr : rem ops.size listed = [] := List.length_eq_zero_iff.1 (by omega)
    refine ⟨?_, nil hr S hs⟩
    cases hrd : Region.ready .any ops listed with
    | nil => rfl
    | cons i l =>
      exfalso
      have hi : i ∈ Region.ready .any ops listed := by rw [hrd]; simp
      obtain ⟨h0, o, ho, _⟩ := mem_ready.1 hi
      have : i ∈ rem ops.size listed := by
        unfold rem
        rw [List.mem_filter, List.mem_range]
        exact ⟨(Array.getElem?_eq_some_iff.1 ho).1, by simp only [h0]; rfl⟩
      rw [hr] at this
      cases this
  | succ fuel ih =>
    intro listed g a w s hc hl S hs
    refine ⟨fun hr => nil (emp hr) S hs, fun i hi => ?_⟩
    obtain ⟨h0, o, ho, hall⟩ := mem_ready.1 hi
    have hin : i < ops.size := (Array.getElem?_eq_some_iff.1 ho).1
    obtain ⟨A, B, r1, r2, r3⟩ := rem_take hin h0
    obtain ⟨hlen, hget⟩ := okOps_get hok
    have hoi : ops.toList[i]? = some o := by simpa using ho
    obtain ⟨ao, ha1, ha2⟩ := hget i o hoi
    obtain ⟨sn', hs1, hs2⟩ := hs
    rw [r1] at hs1
    have e1 : pickL as (A ++ i :: B) = pickL as A ++ ao :: pickL as B := by simp [pickL, ha1]
    have e2 : pickL as (A ++ B) = pickL as A ++ pickL as B := by simp [pickL]
    rw [e1] at hs1
    have hind : ∀ x ∈ pickL as A, indep x ao = true := by
      intro x hx
      obtain ⟨j, hjA, hj⟩ := List.mem_filterMap.1 hx
      obtain ⟨q1, q2⟩ := r3 j hjA
      have hbl : (befs .any ops.toList 0 []).length = as.length := by
        have : ∀ (os : List Oper) (n : Nat) (acc : List Nat), (befs .any os n acc).length = acc.length + os.length := by
          intro os
          induction os with
          | nil => intro n acc; simp [befs]
          | cons o os ih => intro n acc; rw [befs, ih]; simp; omega
        rw [this, List.length_nil, Nat.zero_add, hlen]
      rcases okPairs_get hpairs hbl i ao ha1 j x (by simpa using hj) (by simpa using q1) with h | h
      · have := bef_listed hc hb i o hoi hall j h
        exfalso
        have hsz : j < listed.size := by
          rcases Nat.lt_or_ge j listed.size with h | h
          · exact h
          · simp [Array.getElem?_eq_none h] at this
        simp [hsz] at this q2
        rw [this] at q2
        cases q2
      · exact h
    obtain ⟨s1, sn2, k1, k2, k3⟩ := front S.wf hind hs1
    refine step_sound S hG ho ha2 k1 fun g' a' w' S' => ih ?_ ?_ S' ⟨sn2, ?_, hs2.trans k3⟩
    · intro j oj hoj hlj e he hbe
      by_cases hji : j = i
      · subst hji
        rw [hoi] at hoj
        obtain rfl := Option.some.inj hoj
        exact getD_set_true (hall e he hbe)
      · rw [getD_set_ne false (Ne.symm hji)] at hlj
        exact getD_set_true (hc j oj hoj hlj e he hbe)
    · rw [r2]
      rw [r1] at hl
      simp at hl ⊢
      omega
    · rw [r2, e2]; exact k2

theorem Sim.drawn (S : Sim base w0 lm0 N g a w s) (n : Nat) : Sim base w0 lm0 N g a { w with drawn := n } s :=
  S.turn (h' := s.h) ⟨fun _ _ _ h h' => ⟨h, h'⟩, fun d o h => .inr ⟨rfl, o, h, Shp.refl _⟩⟩ ⟨rfl, rfl, rfl, Nat.le_refl _, fun _ _ => rfl⟩ (fun _ _ => rfl)
    (fun d o h => (S.ob d o h).keep (fun _ _ => rfl) (fun _ _ _ h h' => ⟨h, h'⟩) fun _ _ _ b _ => ⟨rfl, rfl⟩) S.lt S.ap

theorem region_sound (hm : P.follows .mixedOrders = true) (hG : Good P call) {as : List AOper} {id : Nat} {draw : Bool} (hok : okRegion P N ops as draw = true) (S : Sim base w0 lm0 N g a w s) {sn : St} (hs : steps call as s = some sn)
    (hK : ∀ g' a' w', Sim base w0 lm0 N g' a' w' sn → Q .normal a' w') : (Go.Code.region id ops draw).wp P Q a w := by
  simp only [okRegion, Bool.and_eq_true, Bool.or_eq_true, Bool.not_eq_true'] at hok
  obtain ⟨h1, h2⟩ := hok
  have hlen := (okOps_get h1).1
  have hsz : ops.size = as.length := by simpa using hlen
  cases draw with
  | false =>
    refine wp_region (ops_text hG h1 hK _ (fun i hi => List.mem_range.1 hi) S ?_)
    rw [hsz, pick_range]; exact hs
  | true =>
    have h2 : okOrder ops.toList as = true := by simpa using h2
    have hrem : rem ops.size (Array.replicate ops.size false) = List.range ops.size := by
      unfold rem
      rw [List.filter_eq_self]
      intro i hi
      have := List.mem_range.1 hi
      simp [this]
    refine wp_region_any hm (ops_any hG h1 h2 hK _ (fun j o _ hj => ?_) ?_ (S.drawn _) ⟨sn, ?_, Eqv.refl _⟩)
    · exfalso
      by_cases hjn : j < ops.size <;> simp [hjn] at hj
    · rw [hrem]; simp
    · rw [hrem, hsz, pick_range]; exact hs
end
end Go.Proofs.Ytihgpnfkadldeaa.AM
