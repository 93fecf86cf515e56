/- MADE BY sync2.py: AM22, AM23, AM24, one behind the other. No condition but what they say. -/
import Derived.Test.YtomnggbideepeaaQ5
import Derived.Scope
import Derived.LoopN
import Derived.ChangeShapes
import Derived.ChangeArms
import Derived.OpenShut
import Derived.Carry
import Derived.ChangeOld
section
/- A region: in the order of its text, and in any other that its edges let be. No condition. -/
namespace Go.Proofs.Ytomnggbideepeaa.AM
open Go Go.RowKit
set_option linter.unusedVariables false
set_option linter.unusedSimpArgs false

section
variable {s s' : St} {call : Call}

theorem WF.step (hw : WF s) {o : AOper} (h : step call o s = some s') : WF s' := by
  rw [step_pre] at h
  cases hp : pre call o s with
  | none => rw [hp] at h; simp at h
  | some e =>
    rw [hp] at h
    simp only [Option.map_some, Option.some.injEq] at h
    subst h
    intro n v d hn hd
    have old : get s.t n = some v → get (app o s e).h d ≠ none := fun hn => putAll_keeps e.hs (hw n v d hn hd)
    cases hod : o.d with
    | none => exact old (by simpa [app, hod, puts] using hn)
    | some k =>
      simp only [app, hod, puts, get_put] at hn
      split at hn
      · simp only [Option.some.injEq] at hn
        subst hn
        rcases pre_eff hp with he | rfl
        · exact eff_id hw he hd
        · simp [SV.id?, undefS] at hd
      · exact old hn

theorem putAll_eqv {h h' : List (Nat × Ob)} (e : ∀ d, get h d = get h' d) (l : List (Nat × Ob)) (d : Nat) : get (putAll h l) d = get (putAll h' l) d := by
  rw [get_putAll, get_putAll, e]
theorem puts_eqv {t t' : List (Nat × SV)} (e : ∀ n, get t n = get t' n) (d : Option Nat) (v : SV) (n : Nat) : get (puts t d v) n = get (puts t' d v) n := by
  cases d with
  | none => exact e n
  | some d => simp only [puts, get_put, e]

theorem Eqv.step (E : Eqv s s') {o : AOper} {s1 : St} (h : step call o s = some s1) : ∃ s1', AM.step call o s' = some s1' ∧ Eqv s1 s1' := by
  rw [step_pre] at h
  have hp : pre call o s = pre call o s' := pre_same (fun n _ => E.1 n) (eff_congr call _ _ (fun x _ => E.ev x) E.2)
  cases he : pre call o s with
  | none => rw [he] at h; simp at h
  | some e =>
    rw [he] at h
    simp only [Option.map_some, Option.some.injEq] at h
    subst h
    exact ⟨app o s' e, by rw [step_pre, ← hp, he]; rfl, fun n => puts_eqv E.1 _ _ n, fun d => putAll_eqv E.2 _ d⟩
theorem Eqv.steps : ∀ {os : List AOper} {s s' s1 : St}, Eqv s s' → steps call os s = some s1 → ∃ s1', AM.steps call os s' = some s1' ∧ Eqv s1 s1'
  | [], s, s', s1, E, h => by
    simp only [AM.steps, Option.some.injEq] at h
    subst h
    exact ⟨s', rfl, E⟩
  | o :: os, s, s', s1, E, h => by
    simp only [AM.steps] at h
    cases h1 : AM.step call o s with
    | none => rw [h1] at h; simp at h
    | some s2 =>
      rw [h1] at h
      obtain ⟨s2', k1, k2⟩ := E.step h1
      obtain ⟨s3, k3, k4⟩ := k2.steps h
      exact ⟨s3, by simp only [AM.steps, k1]; exact k3, k4⟩

/-- A step that is apart from those ahead of it, taken first. -/
theorem front {i : AOper} {B : List AOper} : ∀ {A : List AOper} {s sn : St}, WF s → (∀ a ∈ A, indep a i = true) → steps call (A ++ i :: B) s = some sn → ∃ s1 sn', step call i s = some s1 ∧ steps call (A ++ B) s1 = some sn' ∧ Eqv sn sn'
  | [], s, sn, hw, hA, h => by
    simp only [List.nil_append, steps] at h
    cases h1 : step call i s with
    | none => rw [h1] at h; simp at h
    | some s1 => rw [h1] at h; exact ⟨s1, sn, rfl, h, Eqv.refl _⟩
  | a :: A, s, sn, hw, hA, h => by
    simp only [List.cons_append, steps] at h
    cases ha : step call a s with
    | none => rw [ha] at h; simp at h
    | some sa =>
      rw [ha] at h
      obtain ⟨sai, sn1, k1, k2, k3⟩ := front (hw.step ha) (fun x hx => hA x (by simp [hx])) h
      obtain ⟨si, sia, m1, m2, m3⟩ := swap hw (hA a (by simp)) ha k1
      obtain ⟨sn2, n1, n2⟩ := m3.steps k2
      exact ⟨si, sn2, m1, by simp only [List.cons_append, steps, m2]; exact n1, k3.trans n2⟩

def pickL (as : List AOper) (l : List Nat) : List AOper := l.filterMap fun i => as[i]?
theorem pick_range : ∀ (as : List AOper), pickL as (List.range as.length) = as
  | [] => rfl
  | a :: as => by
    have ih := pick_range as
    unfold pickL at ih ⊢
    rw [List.length_cons, List.range_succ_eq_map, List.filterMap_cons]
    simp only [List.getElem?_cons_zero, List.filterMap_map]
    congr 1
def rem (n : Nat) (listed : Array Bool) : List Nat := (List.range n).filter fun i => !listed.getD i true

theorem rem_take {n i : Nat} {listed : Array Bool} (hi : i < n) (hl : listed.getD i true = false) :
    ∃ A B, rem n listed = A ++ i :: B ∧ rem n (listed.setIfInBounds i true) = A ++ B ∧ ∀ j ∈ A, j < i ∧ listed.getD j true = false := by
  obtain ⟨X, Y, hXY⟩ := List.append_of_mem (List.mem_range.2 hi)
  have hp : List.Pairwise (· < ·) (X ++ i :: Y) := hXY ▸ List.pairwise_lt_range
  obtain ⟨_, hp2, hp3⟩ := List.pairwise_append.1 hp
  have hX : ∀ j ∈ X, j < i := fun j hj => hp3 j hj i (by simp)
  have hY : ∀ j ∈ Y, i < j := fun j hj => (List.pairwise_cons.1 hp2).1 j hj
  have hisz : i < listed.size := by
    rcases Nat.lt_or_ge i listed.size with h | h
    · exact h
    · simp [Array.getElem?_eq_none h] at hl
  have keep : ∀ (l : List Nat), (∀ j ∈ l, j ≠ i) → l.filter (fun j => !(listed.setIfInBounds i true).getD j true) = l.filter (fun j => !listed.getD j true) := fun l hl => by
    refine List.filter_congr fun j hj => ?_
    rw [getD_set_ne true (Ne.symm (hl j hj))]
  refine ⟨X.filter fun j => !listed.getD j true, Y.filter fun j => !listed.getD j true, ?_, ?_, ?_⟩
  · unfold rem
    rw [hXY, List.filter_append, List.filter_cons_of_pos (by simp only [hl]; rfl)]
  · unfold rem
    rw [hXY, List.filter_append, List.filter_cons_of_neg (by simp [hisz]), keep X fun j hj => Nat.ne_of_lt (hX j hj), keep Y fun j hj => Nat.ne_of_gt (hY j hj)]
  · intro j hj
    rw [List.mem_filter] at hj
    exact ⟨hX j hj.1, by simpa using hj.2⟩
end

/-! ### the edges -/
section
variable {ops : List Oper}

theorem bef_bit (md : Region.Mode) (acc : List Nat) (j : Nat) : ∀ (es : List Edge) (m : Nat), (es.foldl (fun m e => if Region.binds md e then m ||| (1 <<< e.on) ||| acc.getD e.on 0 else m) m).testBit j = true →
    m.testBit j = true ∨ ∃ e ∈ es, Region.binds md e = true ∧ (e.on = j ∨ (acc.getD e.on 0).testBit j = true)
  | [], m, h => .inl h
  | e :: es, m, h => by
    rw [List.foldl_cons] at h
    rcases bef_bit md acc j es _ h with h | ⟨e', he', hb⟩
    · split at h
      · rename_i hb
        rw [Nat.testBit_or, Nat.testBit_or, Bool.or_eq_true, Bool.or_eq_true] at h
        rcases h with (h | h) | h
        · exact .inl h
        · refine .inr ⟨e, by simp, hb, .inl ?_⟩
          rw [Nat.shiftLeft_eq, Nat.one_mul, Nat.testBit_two_pow] at h
          simpa using h
        · exact .inr ⟨e, by simp, hb, .inr h⟩
      · exact .inl h
    · exact .inr ⟨e', by simp [he'], hb⟩

theorem befs_get (md : Region.Mode) : ∀ (os : List Oper) (n : Nat) (acc : List Nat), (∀ i, i < acc.length → (befs md os n acc)[i]? = acc[i]?) ∧
    ∀ (i : Nat) (o : Oper), os[i]? = some o → ∃ pre : List Nat, pre.length = acc.length + i ∧ (∀ j, j < pre.length → (befs md os n acc)[j]? = pre[j]?) ∧
      (befs md os n acc)[acc.length + i]? = some (o.after.toList.foldl (fun m e => if Region.binds md e then m ||| (1 <<< e.on) ||| pre.getD e.on 0 else m) 0)
  | [], n, acc => ⟨fun i _ => rfl, fun i o h => by simp at h⟩
  | o :: os, n, acc => by
    obtain ⟨h1, h2⟩ := befs_get md os (n + 1) (acc ++ [o.after.toList.foldl (fun m e => if Region.binds md e then m ||| (1 <<< e.on) ||| acc.getD e.on 0 else m) 0])
    refine ⟨fun i hi => ?_, fun i o' ho => ?_⟩
    · simp only [befs]
      rw [h1 i (by simp; omega), List.getElem?_append_left hi]
    · cases i with
      | zero =>
        simp only [List.getElem?_cons_zero, Option.some.injEq] at ho
        subst ho
        refine ⟨acc, rfl, fun j hj => ?_, ?_⟩
        · simp only [befs]
          rw [h1 j (by simp; omega), List.getElem?_append_left hj]
        · simp only [befs]
          rw [h1 _ (by simp)]
          simp
      | succ i =>
        simp only [List.getElem?_cons_succ] at ho
        obtain ⟨pre, k1, k2, k3⟩ := h2 i o' ho
        refine ⟨pre, ?_, ?_, ?_⟩
        · rw [k1]; simp; omega
        · simpa only [befs] using k2
        · simp only [befs]
          rw [← k3]
          congr 1
          simp; omega

theorem backs_get (md : Region.Mode) : ∀ (os : List Oper) (n : Nat), backs md os n = true → ∀ (i : Nat) (o : Oper), os[i]? = some o → ∀ e ∈ o.after, Region.binds md e = true → e.on < n + i
  | [], n, h, i, o, ho => by simp at ho
  | o :: os, n, h, i, o', ho => by
    simp only [backs, Bool.and_eq_true] at h
    cases i with
    | zero =>
      simp only [List.getElem?_cons_zero, Option.some.injEq] at ho
      subst ho
      intro e he hb
      have := List.all_eq_true.1 h.1 e (by simpa using he)
      simpa [hb] using this
    | succ i =>
      simp only [List.getElem?_cons_succ] at ho
      intro e he hb
      have := backs_get md os (n + 1) h.2 i o' ho e he hb
      omega

def Closed (ops : List Oper) (listed : Array Bool) : Prop := ∀ (j : Nat) (o : Oper), ops[j]? = some o → listed.getD j false = true → ∀ e ∈ o.after, Region.binds .any e = true → listed.getD e.on false = true

theorem bef_listed {listed : Array Bool} (hc : Closed ops listed) (hb : backs .any ops 0 = true) : ∀ (i : Nat) (o : Oper), ops[i]? = some o → (∀ e ∈ o.after, Region.binds .any e = true → listed.getD e.on false = true) →
    ∀ j, ((befs .any ops 0 [])[i]?.getD 0).testBit j = true → listed.getD j false = true := by
  intro i
  induction i using Nat.strongRecOn with
  | ind i ih =>
    intro o ho hall j hj
    obtain ⟨pre, k1, k2, k3⟩ := (befs_get .any ops 0 []).2 i o ho
    simp only [List.length_nil, Nat.zero_add] at k1 k3
    rw [k3] at hj
    rcases bef_bit .any pre j _ 0 hj with h | ⟨e, he, hbe, h⟩
    · simp at h
    · have hl := hall e (by simpa using he) hbe
      rcases h with rfl | h
      · exact hl
      · have hlt := backs_get .any ops 0 hb i o ho e (by simpa using he) hbe
        simp only [Nat.zero_add] at hlt
        have hon : ∃ o', ops[e.on]? = some o' := by
          have : i < ops.length := (List.getElem?_eq_some_iff.1 ho).1
          exact ⟨ops[e.on]'(by omega), List.getElem?_eq_getElem _⟩
        obtain ⟨o', ho'⟩ := hon
        refine ih e.on hlt o' ho' (hc e.on o' ho' hl) j ?_
        rw [k2 _ (by omega)]
        rw [List.getD_eq_getElem?_getD] at h
        exact h

theorem okPair_get {m : Nat} {i : AOper} : ∀ {as : List AOper} {n : Nat}, okPair m i as n = true → ∀ (j : Nat) (a : AOper), as[j]? = some a → m.testBit (n + j) = true ∨ indep a i = true
  | [], n, h, j, a, ha => by simp at ha
  | b :: as, n, h, j, a, ha => by
    simp only [okPair, Bool.and_eq_true, Bool.or_eq_true] at h
    cases j with
    | zero =>
      simp only [List.getElem?_cons_zero, Option.some.injEq] at ha
      subst ha
      exact h.1
    | succ j =>
      simp only [List.getElem?_cons_succ] at ha
      have := okPair_get h.2 j a ha
      rwa [show n + 1 + j = n + (j + 1) by omega] at this

theorem okPairs_get : ∀ {ms : List Nat} {seen as : List AOper}, okPairs ms seen as = true → ms.length = as.length → ∀ (i : Nat) (ai : AOper), as[i]? = some ai → ∀ (j : Nat) (aj : AOper), (seen ++ as)[j]? = some aj → j < seen.length + i → (ms[i]?.getD 0).testBit j = true ∨ indep aj ai = true
  | [], seen, as, h, hl, i, ai, hi => by
    cases as with
    | nil => simp at hi
    | cons a as => simp at hl
  | m :: ms, seen, [], h, hl, i, ai, hi => by simp at hi
  | m :: ms, seen, a :: as, h, hl, i, ai, hi => by
    simp only [okPairs, Bool.and_eq_true] at h
    intro j aj hj hlt
    cases i with
    | zero =>
      simp only [List.getElem?_cons_zero, Option.some.injEq] at hi
      subst hi
      rw [List.getElem?_append_left (by omega)] at hj
      have := okPair_get h.1 j aj hj
      simpa using this
    | succ i =>
      simp only [List.getElem?_cons_succ] at hi
      have := okPairs_get h.2 (by simpa using hl) i ai hi j aj (by simpa using hj) (by simp; omega)
      simpa using this
end

/-! ### the regions -/
section
variable {P : Program} {base : Nat} {w0 : World} {lm0 : Nat → Nat} {N : Nat} {g : Gs} {a : Act} {w : World} {s : St} {call : Call} {Q : Exit → Act → World → Prop} {ops : Array Oper}

theorem Sim.wf (S : Sim base w0 lm0 N g a w s) : WF s := by
  intro n v d hn hd
  obtain ⟨u, _, hr⟩ := S.tm n v hn
  cases v with
  | p x => simp [SV.id?] at hd
  | xs k l => simp [SV.id?] at hd
  | ms d' off len =>
    simp only [SV.id?, Option.some.injEq] at hd
    subst hd
    intro hnn
    simp only [SRep, hnn] at hr
  | mp d' i j =>
    simp only [SV.id?, Option.some.injEq] at hd
    subst hd
    intro hnn
    simp only [SRep, hnn] at hr

theorem Sim.eqv (S : Sim base w0 lm0 N g a w s) {s' : St} (E : Eqv s s') : Sim base w0 lm0 N g a w s' :=
  S.less (fun n v h => by rw [E.1]; exact h) (fun d o h => by rw [E.2]; exact h) (fun n v d _ _ => (E.2 d).symm)

theorem okOps_get : ∀ {os : List Oper} {as : List AOper}, okOps P N ops os as = true → os.length = as.length ∧ ∀ (i : Nat) (o : Oper), os[i]? = some o → ∃ ao, as[i]? = some ao ∧ okOper P N ops o ao = true
  | [], [], h => ⟨rfl, fun i o ho => by simp at ho⟩
  | [], a :: as, h => by simp [okOps] at h
  | o :: os, [], h => by simp [okOps] at h
  | o :: os, a :: as, h => by
    simp only [okOps, Bool.and_eq_true] at h
    obtain ⟨h1, h2⟩ := okOps_get h.2
    refine ⟨by simp [h1], fun i o' ho => ?_⟩
    cases i with
    | zero =>
      simp only [List.getElem?_cons_zero, Option.some.injEq] at ho
      subst ho
      exact ⟨a, rfl, h.1⟩
    | succ i =>
      simp only [List.getElem?_cons_succ] at ho ⊢
      exact h2 i o' ho

theorem ops_text (hk : Kb base w0) (hG : Good P call) {as : List AOper} (hok : okOps P N ops ops.toList as = true) {sn : St} (hK : ∀ g' a' w', Sim base w0 lm0 N g' a' w' sn → Q .normal a' w') :
    ∀ (l : List Nat) {g : Gs} {a : Act} {w : World} {s : St}, (∀ i ∈ l, i < ops.size) → Sim base w0 lm0 N g a w s → steps call (pickL as l) s = some sn → wpOps P ops Q l a w
  | [], g, a, w, s, hl, S, h => by
    simp only [pickL, List.filterMap_nil, steps, Option.some.injEq] at h
    subst h
    exact hK g a w S
  | i :: l, g, a, w, s, hl, S, h => by
    have hi : i < ops.size := hl i (by simp)
    obtain ⟨ao, h1, h2⟩ := (okOps_get hok).2 i ops[i] (by simp [hi])
    simp only [pickL, List.filterMap_cons, h1, steps] at h
    rw [wpOps_cons]
    cases hs : step call ao s with
    | none => rw [hs] at h; simp at h
    | some s1 =>
      rw [hs] at h
      exact step_sound hk S hG (Array.getElem?_eq_getElem hi) h2 hs fun g' a' w' S' => ops_text hk hG hok hK l (fun j hj => hl j (by simp [hj])) S' h

theorem ready_some {listed : Array Bool} (hb : backs .any ops.toList 0 = true) : ∀ n, n < ops.size → listed.getD n true = false → ∃ i, i ∈ Region.ready .any ops listed := by
  intro n
  induction n using Nat.strongRecOn with
  | ind n ih =>
    intro hn hl
    by_cases h : ∀ e ∈ ops[n].after, Region.binds .any e = true → listed.getD e.on false = true
    · exact ⟨n, mem_ready.2 ⟨hl, ops[n], Array.getElem?_eq_getElem hn, h⟩⟩
    · have : ∃ e, e ∈ ops[n].after ∧ Region.binds .any e = true ∧ listed.getD e.on false ≠ true := by
        apply Classical.byContradiction
        intro hno
        exact h fun e he hbe => Classical.byContradiction fun hx => hno ⟨e, he, hbe, hx⟩
      obtain ⟨e, he, hbe, hx⟩ := this
      have hlt := backs_get .any ops.toList 0 hb n ops[n] (by simp [hn]) e he hbe
      simp only [Nat.zero_add] at hlt
      by_cases hsz : e.on < listed.size
      · refine ih e.on hlt (by omega) ?_
        simp [hsz] at hx ⊢
        exact hx
      · -- then the later one would not be there either
        exfalso
        simp [Array.getElem?_eq_none (show listed.size ≤ n by omega)] at hl

theorem ops_any (hk : Kb base w0) (hG : Good P call) {as : List AOper} (hok : okOps P N ops ops.toList as = true) (hord : okOrder ops.toList as = true) {sn : St} (hK : ∀ g' a' w', Sim base w0 lm0 N g' a' w' sn → Q .normal a' w') :
    ∀ (fuel : Nat) {listed : Array Bool} {g : Gs} {a : Act} {w : World} {s : St}, Closed ops.toList listed → (rem ops.size listed).length ≤ fuel → Sim base w0 lm0 N g a w s → (∃ sn', steps call (pickL as (rem ops.size listed)) s = some sn' ∧ Eqv sn sn') → wpAny P .any ops Q fuel listed a w := by
  simp only [okOrder, Bool.and_eq_true] at hord
  obtain ⟨hb, hpairs⟩ := hord
  have nil : ∀ {listed : Array Bool} {g : Gs} {a : Act} {w : World} {s : St}, rem ops.size listed = [] → Sim base w0 lm0 N g a w s → (∃ sn', steps call (pickL as (rem ops.size listed)) s = some sn' ∧ Eqv sn sn') → Q .normal a w := by
    rintro listed g a w s hr S ⟨sn', h1, h2⟩
    rw [hr] at h1
    simp only [pickL, List.filterMap_nil, steps, Option.some.injEq] at h1
    subst h1
    exact hK g a w (S.eqv h2.symm)
  have emp : ∀ {listed : Array Bool}, Region.ready .any ops listed = [] → rem ops.size listed = [] := by
    intro listed hr
    cases hrem : rem ops.size listed with
    | nil => rfl
    | cons i l =>
      exfalso
      have hm : i ∈ rem ops.size listed := by rw [hrem]; simp
      unfold rem at hm
      rw [List.mem_filter, List.mem_range] at hm
      obtain ⟨j, hj⟩ := ready_some hb i hm.1 (by simpa using hm.2)
      rw [hr] at hj
      cases hj
  intro fuel
  induction fuel with
  | zero =>
    intro listed g a w s hc hl S hs
    have hr : rem ops.size listed = [] := List.length_eq_zero_iff.1 (by omega)
    refine ⟨?_, nil hr S hs⟩
    cases hrd : Region.ready .any ops listed with
    | nil => rfl
    | cons i l =>
      exfalso
      have hi : i ∈ Region.ready .any ops listed := by rw [hrd]; simp
      obtain ⟨h0, o, ho, _⟩ := mem_ready.1 hi
      have : i ∈ rem ops.size listed := by
        unfold rem
        rw [List.mem_filter, List.mem_range]
        exact ⟨(Array.getElem?_eq_some_iff.1 ho).1, by simp only [h0]; rfl⟩
      rw [hr] at this
      cases this
  | succ fuel ih =>
    intro listed g a w s hc hl S hs
    refine ⟨fun hr => nil (emp hr) S hs, fun i hi => ?_⟩
    obtain ⟨h0, o, ho, hall⟩ := mem_ready.1 hi
    have hin : i < ops.size := (Array.getElem?_eq_some_iff.1 ho).1
    obtain ⟨A, B, r1, r2, r3⟩ := rem_take hin h0
    obtain ⟨hlen, hget⟩ := okOps_get hok
    have hoi : ops.toList[i]? = some o := by simpa using ho
    obtain ⟨ao, ha1, ha2⟩ := hget i o hoi
    obtain ⟨sn', hs1, hs2⟩ := hs
    rw [r1] at hs1
    have e1 : pickL as (A ++ i :: B) = pickL as A ++ ao :: pickL as B := by simp [pickL, ha1]
    have e2 : pickL as (A ++ B) = pickL as A ++ pickL as B := by simp [pickL]
    rw [e1] at hs1
    have hind : ∀ x ∈ pickL as A, indep x ao = true := by
      intro x hx
      obtain ⟨j, hjA, hj⟩ := List.mem_filterMap.1 hx
      obtain ⟨q1, q2⟩ := r3 j hjA
      have hbl : (befs .any ops.toList 0 []).length = as.length := by
        have : ∀ (os : List Oper) (n : Nat) (acc : List Nat), (befs .any os n acc).length = acc.length + os.length := by
          intro os
          induction os with
          | nil => intro n acc; simp [befs]
          | cons o os ih => intro n acc; rw [befs, ih]; simp; omega
        rw [this, List.length_nil, Nat.zero_add, hlen]
      rcases okPairs_get hpairs hbl i ao ha1 j x (by simpa using hj) (by simpa using q1) with h | h
      · have := bef_listed hc hb i o hoi hall j h
        exfalso
        have hsz : j < listed.size := by
          rcases Nat.lt_or_ge j listed.size with h | h
          · exact h
          · simp [Array.getElem?_eq_none h] at this
        simp [hsz] at this q2
        rw [this] at q2
        cases q2
      · exact h
    obtain ⟨s1, sn2, k1, k2, k3⟩ := front S.wf hind hs1
    refine step_sound hk S hG ho ha2 k1 fun g' a' w' S' => ih ?_ ?_ S' ⟨sn2, ?_, hs2.trans k3⟩
    · intro j oj hoj hlj e he hbe
      by_cases hji : j = i
      · subst hji
        rw [hoi] at hoj
        obtain rfl := Option.some.inj hoj
        exact getD_set_true (hall e he hbe)
      · rw [getD_set_ne false (Ne.symm hji)] at hlj
        exact getD_set_true (hc j oj hoj hlj e he hbe)
    · rw [r2]
      rw [r1] at hl
      simp at hl ⊢
      omega
    · rw [r2, e2]; exact k2

theorem Sim.drawn (S : Sim base w0 lm0 N g a w s) (n : Nat) : Sim base w0 lm0 N g a { w with drawn := n } s :=
  S.turn (h' := s.h) ⟨fun _ _ _ h h' => ⟨h, h'⟩, fun d o h => .inr ⟨rfl, o, h, Shp.refl _⟩⟩ ⟨rfl, rfl, rfl, Nat.le_refl _, fun _ _ => rfl⟩ (fun _ _ => rfl)
    (fun d o h => (S.ob d o h).keep (fun _ _ => rfl) (fun _ _ _ h h' => ⟨h, h'⟩) fun _ _ _ b _ => ⟨rfl, rfl⟩) S.lt S.ap

theorem region_sound (hk : Kb base w0) (hm : P.follows .mixedOrders = true) (hG : Good P call) {as : List AOper} {id : Nat} {draw : Bool} (hok : okRegion P N ops as draw = true) (S : Sim base w0 lm0 N g a w s) {sn : St} (hs : steps call as s = some sn)
    (hK : ∀ g' a' w', Sim base w0 lm0 N g' a' w' sn → Q .normal a' w') : (Go.Code.region id ops draw).wp P Q a w := by
  simp only [okRegion, Bool.and_eq_true, Bool.or_eq_true, Bool.not_eq_true'] at hok
  obtain ⟨h1, h2⟩ := hok
  have hlen := (okOps_get h1).1
  have hsz : ops.size = as.length := by simpa using hlen
  cases draw with
  | false =>
    refine wp_region (ops_text hk hG h1 hK _ (fun i hi => List.mem_range.1 hi) S ?_)
    rw [hsz, pick_range]; exact hs
  | true =>
    have h2 : okOrder ops.toList as = true := by simpa using h2
    have hrem : rem ops.size (Array.replicate ops.size false) = List.range ops.size := by
      unfold rem
      rw [List.filter_eq_self]
      intro i hi
      have := List.mem_range.1 hi
      simp [this]
    refine wp_region_any hm (ops_any hk hG h1 h2 hK _ (fun j o _ hj => ?_) ?_ (S.drawn _) ⟨sn, ?_, Eqv.refl _⟩)
    · exfalso
      by_cases hjn : j < ops.size <;> simp [hjn] at hj
    · rw [hrem]; simp
    · rw [hrem, hsz, pick_range]; exact hs
end
end Go.Proofs.Ytomnggbideepeaa.AM

end
section
/- Results, code, calls: what the small machine computes, Go computes. No condition. -/
namespace Go.Proofs.Ytomnggbideepeaa.AM
open Go Go.RowKit
set_option linter.unusedVariables false
set_option linter.unusedSimpArgs false

section
variable {P : Program} {base : Nat} {w0 : World} {lm0 : Nat → Nat} {N : Nat} {g : Gs} {a : Act} {w : World} {s : St} {Q : Exit → Act → World → Prop}

def resOne (tmps : Array Value) : ResultVar → Sem Value
  | .tmp t => pure (tmps.getD t undef)
  | .cell a t => do loadVar t (← asAddr (tmps.getD a undef))
theorem results_eq (fn : Func) (tmps : Array Value) : results fn tmps = (do
    let vs ← fn.results.mapM (resOne tmps)
    pure (if h : vs.size = 1 then vs[0] else .tuple vs)) := by
  unfold results
  rfl

theorem run_mapM {α : Type} {f : α → Sem Value} : ∀ {l : List α} {us : List Value}, l.length = us.length → (∀ (i : Nat) (x : α) (u : Value), l[i]? = some x → us[i]? = some u → (f x).run P w = .ok u w) → (l.mapM f).run P w = .ok us w
  | [], [], _, _ => by simp
  | [], u :: us, h, _ => by simp at h
  | x :: l, [], h, _ => by simp at h
  | x :: l, u :: us, h, hr => by
    have h1 := hr 0 x u rfl rfl
    have h2 := run_mapM (l := l) (us := us) (by simpa using h) fun i y v hy hv => hr (i + 1) y v (by simpa using hy) (by simpa using hv)
    simp [List.mapM_cons, h1, h2]

theorem run_cell1 {t : TypeId} (h : aggT P t = some false) {ad : Addr} {u : Value} (hc : w.cell? ad = some u) : (loadVar t ad).run P w = .ok u w := by
  simp [loadVar, run_isAgg h, hc]
theorem run_cellk {t : TypeId} (h : aggT P t = some true) {k : Nat} (hk : P.cellsOf t = k) (h0 : 0 < k) {b o : Nat} {vs : List Value} (hl : vs.length = k) (hc : ∀ (j : Nat) (u : Value), vs[j]? = some u → w.cell? ⟨b, o + j, none⟩ = some u) :
    (loadVar t ⟨b, o, none⟩).run P w = .ok (.agg vs.toArray) w := by
  have := run_loadCells_list (P := P) w ⟨b, o, none⟩ vs (fun j v h => by rw [add_n]; exact hc j v h)
  rw [hl] at this
  simp [loadVar, run_isAgg h, run_sizeOf hk h0, this]

/-- One result. -/
theorem one_sound (S : Sim base w0 lm0 N g a w s) {h0 : List (Nat × Ob)} (hf : ∀ d, Fz (get h0 d) (get s.h d)) {r : ResultVar} {ar : ARes} (hok : okRes P r ar = true) {x : PV} (h : finish.one ⟨s.t, h0⟩ ar = some x) :
    ∃ lm' h' u, (resOne a.tmps r).run P w = .ok u w ∧ Sim base w0 lm0 N ⟨lm', g.v⟩ a w ⟨s.t, h'⟩ ∧ Rep w lm' x u ∧ Tr w g (get s.h) w ⟨lm', g.v⟩ (get h') ∧ ∀ d, Fz (get h0 d) (get h' d) := by
  have tr0 : Tr w g (get s.h) w ⟨g.lm, g.v⟩ (get s.h) := ⟨Ext.refl _ _, fun d o h => .inr ⟨rfl, o, h, Shp.refl _⟩⟩
  cases ar with
  | t n =>
    cases r with
    | cell n' t => simp [okRes] at hok
    | tmp n' =>
      simp only [okRes, beq_iff_eq] at hok
      subst hok
      simp only [finish.one] at h
      cases hv : get s.t n' with
      | none => rw [hv] at h; simp at h
      | some v =>
        rw [hv] at h
        dsimp only at h
        cases hfz : frz h0 v with
        | none => rw [hfz] at h; simp at h
        | some q =>
          obtain ⟨y, fr⟩ := q
          rw [hfz] at h
          simp only [Option.some.injEq] at h
          subst h
          obtain ⟨u, hu, hr⟩ := S.tm _ _ hv
          obtain ⟨lm', S', r', T', F'⟩ := frz_sim S hf hr hfz
          exact ⟨lm', putAll s.h fr, u, by simp [resOne, hu], S', r', T', F'⟩
  | c1 n =>
    cases r with
    | tmp n' => simp [okRes] at hok
    | cell n' t =>
      simp only [okRes, Bool.and_eq_true, beq_iff_eq, decide_eq_true_eq] at hok
      obtain ⟨rfl, ha⟩ := hok
      simp only [finish.one] at h
      cases hv : get s.t n' with
      | none => rw [hv] at h; simp at h
      | some v =>
        rw [hv] at h
        cases v <;> first | (simp at h; done) | skip
        rename_i d i j
        dsimp only at h
        cases hd : get h0 d with
        | none => rw [hd] at h; simp at h
        | some ob =>
          cases ob <;> rw [hd] at h <;> first | (simp at h; done) | skip
          rename_i e k fz l
          dsimp only at h
          obtain ⟨fz', hd'⟩ := (hd ▸ hf d : Fz (some (.row e k fz l)) (get s.h d)).row
          obtain ⟨u, hu, hr⟩ := S.tm _ _ hv
          obtain ⟨q0, hk, b, xs, rfl, hb, hown, hrl, h1⟩ := S.row hd' hr
          obtain ⟨v0, hv0, hrep⟩ := hrl.get _ _ (cellAt_flat hk h)
          refine ⟨g.lm, s.h, v0, ?_, S, hrep, tr0, hf⟩
          have := run_cell1 (P := P) ha (own_cells hown hb hv0)
          simp [resOne, hu, asAddr, this]
  | td n => simp [finish.one] at h
  | ck n k0 =>
    cases r with
    | tmp n' => simp [okRes] at hok
    | cell n' t =>
      simp only [okRes, Bool.and_eq_true, beq_iff_eq, decide_eq_true_eq] at hok
      obtain ⟨⟨⟨rfl, ha⟩, hks⟩, h0k⟩ := hok
      simp only [finish.one] at h
      cases hv : get s.t n' with
      | none => rw [hv] at h; simp at h
      | some v =>
        rw [hv] at h
        cases v <;> first | (simp at h; done) | skip
        rename_i d i j
        dsimp only at h
        cases hd : get h0 d with
        | none => rw [hd] at h; simp at h
        | some ob =>
          cases ob <;> rw [hd] at h <;> first | (simp at h; done) | skip
          rename_i e k fz l
          dsimp only at h
          cases hc : l[i]? with
          | none => rw [hc] at h; simp at h
          | some c =>
            rw [hc] at h
            dsimp only at h
            split at h
            · rename_i hle
              simp only [Option.some.injEq] at h
              subst h
              obtain ⟨fz', hd'⟩ := (hd ▸ hf d : Fz (some (.row e k fz l)) (get s.h d)).row
              obtain ⟨u, hu, hr⟩ := S.tm _ _ hv
              obtain ⟨q0, hk, b, xs, rfl, hb, hown, hrl, h1⟩ := S.row hd' hr
              have hil : i < l.length := (List.getElem?_eq_some_iff.1 hc).1
              have hck : c.length = k := hk c (List.mem_of_getElem? hc)
              have e1 : (l.flatten.drop (i * k + j)).take k0 = (c.drop j).take k0 := by
                rw [← List.drop_drop, flatten_drop i hk]
                have : l.drop i = c :: l.drop (i + 1) := by
                  rw [List.drop_eq_getElem_cons hil]
                  congr 1
                  simpa [List.getElem?_eq_getElem hil] using hc
                rw [this, List.flatten_cons, List.drop_append_of_le_length (by omega), List.take_append_of_le_length (by simp; omega)]
              have hrl' := (hrl.drop (i * k + j)).take k0
              rw [e1] at hrl'
              have hlen := hrl'.length
              rw [List.length_take, List.length_drop, Nat.min_eq_left (by omega)] at hlen
              refine ⟨g.lm, s.h, .agg ((xs.drop (i * k + j)).take k0).toArray, ?_, S, (.st hrl' fun u hu => h1 u (List.mem_of_mem_drop (List.mem_of_mem_take hu))), tr0, hf⟩
              have := run_cellk (P := P) (w := w) ha hks h0k (b := b) (o := i * k + j) (vs := (xs.drop (i * k + j)).take k0) hlen.symm (fun q u hu => own_cells hown hb (by
                rw [List.getElem?_take] at hu
                split at hu
                · rw [List.getElem?_drop] at hu; exact hu
                · simp at hu))
              simp [resOne, hu, asAddr, this]
            · simp at h

theorem many_sound : ∀ {rs : List ARes} {res : List ResultVar} {g : Gs} {s : St} {h0 : List (Nat × Ob)} {xs : List PV} (S : Sim base w0 lm0 N g a w s) (hf : ∀ d, Fz (get h0 d) (get s.h d)), okRess P res rs = true → finish.many ⟨s.t, h0⟩ rs = some xs →
    ∃ lm' h' us, res.length = us.length ∧ (∀ (i : Nat) (r : ResultVar) (u : Value), res[i]? = some r → us[i]? = some u → (resOne a.tmps r).run P w = .ok u w) ∧ Sim base w0 lm0 N ⟨lm', g.v⟩ a w ⟨s.t, h'⟩ ∧ RepL w lm' xs us ∧ Ext w g.lm w lm'
  | [], [], g, s, h0, xs, S, hf, hok, h => by
    simp only [finish.many, Option.some.injEq] at h
    subst h
    exact ⟨g.lm, s.h, [], rfl, fun i r u hr => by simp at hr, S, .nil, Ext.refl _ _⟩
  | [], r :: res, g, s, h0, xs, S, hf, hok, h => by simp [okRess] at hok
  | ar :: rs, [], g, s, h0, xs, S, hf, hok, h => by simp [okRess] at hok
  | ar :: rs, r :: res, g, s, h0, xs, S, hf, hok, h => by
    simp only [okRess, Bool.and_eq_true] at hok
    simp only [finish.many] at h
    cases h1 : finish.one ⟨s.t, h0⟩ ar with
    | none => rw [h1] at h; simp at h
    | some x =>
      rw [h1] at h
      dsimp only at h
      cases h2 : finish.many ⟨s.t, h0⟩ rs with
      | none => rw [h2] at h; simp at h
      | some ys =>
        rw [h2] at h
        simp only [Option.some.injEq] at h
        subst h
        obtain ⟨lm1, h1', u, k1, S1, R1, T1, F1⟩ := one_sound S hf hok.1 h1
        obtain ⟨lm2, h2', us, m1, m2, S2, R2, X2⟩ := many_sound S1 F1 hok.2 h2
        refine ⟨lm2, h2', u :: us, by simp [m1], fun i r' v hr hv => ?_, S2, .cons (R1.ext X2) R2, T1.ext.trans X2⟩
        cases i with
        | zero =>
          simp only [List.getElem?_cons_zero, Option.some.injEq] at hr hv
          subst hr; subst hv; exact k1
        | succ i =>
          simp only [List.getElem?_cons_succ] at hr hv
          exact m2 i r' v hr hv

theorem results_one {fn : Func} {r : ResultVar} (h : fn.results.toList = [r]) {u : Value} (hu : (resOne a.tmps r).run P w = .ok u w) : (results fn a.tmps).run P w = .ok u w := by
  have hm : (fn.results.toList.mapM (resOne a.tmps)).run P w = .ok [u] w := by rw [h]; simp [hu]
  rw [results_eq, Sem.run_bind, Array.mapM_eq_mapM_toList, Sem.run_map, hm]
  simp
theorem results_many {fn : Func} {us : List Value} (hl : fn.results.toList.length = us.length) (h1 : us.length ≠ 1) (hu : ∀ (i : Nat) (r : ResultVar) (u : Value), fn.results.toList[i]? = some r → us[i]? = some u → (resOne a.tmps r).run P w = .ok u w) : (results fn a.tmps).run P w = .ok (.tuple us.toArray) w := by
  rw [results_eq, Sem.run_bind, Array.mapM_eq_mapM_toList, Sem.run_map, run_mapM hl hu]
  simp [h1]

theorem finish_sound (S : Sim base w0 lm0 N g a w s) {fn : Func} {afn : AFunc} (hok : okRess P fn.results.toList afn.rs = true) {r : Ret} (h : finish afn s = some r) :
    ∃ v lm', (results fn a.tmps).run P w = .ok v w ∧ (∀ b, b < base → lm' b = lm0 b) ∧ RRep base w lm' r v := by
  have lmk : ∀ {lm' h'}, Sim base w0 lm0 N ⟨lm', g.v⟩ a w ⟨s.t, h'⟩ → ∀ b, b < base → lm' b = lm0 b := fun S' => S'.lm
  have byOne : ∀ {ar : ARes} {x : PV}, afn.rs = [ar] → finish.one s ar = some x → r = .val x → ∃ v lm', (results fn a.tmps).run P w = .ok v w ∧ (∀ b, b < base → lm' b = lm0 b) ∧ RRep base w lm' r v := by
    rintro ar x har hx rfl
    rw [har] at hok
    cases hr : fn.results.toList with
    | nil => rw [hr] at hok; simp [okRess] at hok
    | cons r0 l =>
      rw [hr] at hok
      cases l with
      | cons _ _ => simp [okRess] at hok
      | nil =>
        simp only [okRess, Bool.and_true] at hok
        obtain ⟨lm', h', u, k1, S', R', _, _⟩ := one_sound S (fun d => Fz.refl _) hok hx
        exact ⟨u, lm', results_one hr k1, lmk S', R'⟩
  have byMany : ∀ {xs : List PV}, afn.rs.length ≠ 1 → finish.many s afn.rs = some xs → r = .val (.tu xs) → ∃ v lm', (results fn a.tmps).run P w = .ok v w ∧ (∀ b, b < base → lm' b = lm0 b) ∧ RRep base w lm' r v := by
    rintro xs hne hx rfl
    obtain ⟨lm', h', us, m1, m2, S', R', _⟩ := many_sound S (fun d => Fz.refl _) hok hx
    have hl : ∀ {res : List ResultVar} {rs : List ARes}, okRess P res rs = true → res.length = rs.length := by
      intro res
      induction res with
      | nil => intro rs h; cases rs with
        | nil => rfl
        | cons _ _ => simp [okRess] at h
      | cons r res ih => intro rs h; cases rs with
        | nil => simp [okRess] at h
        | cons _ _ => simp only [okRess, Bool.and_eq_true] at h; simp [ih h.2]
    exact ⟨_, lm', results_many m1 (by have := hl hok; omega) m2, lmk S', .tu R'⟩
  unfold finish at h
  split at h
  · rename_i n hn
    split at h
    · rename_i d off len hv
      split at h
      · rename_i e k fz l hd
        split at h
        · rename_i hq
          obtain ⟨rfl, rfl, rfl⟩ := hq
          simp only [Option.some.injEq] at h
          subst h
          rw [hn] at hok
          cases hr : fn.results.toList with
          | nil => rw [hr] at hok; simp [okRess] at hok
          | cons r0 l0 =>
            rw [hr] at hok
            cases l0 with
            | cons _ _ => simp [okRess] at hok
            | nil =>
              simp only [okRess, Bool.and_true] at hok
              cases r0 with
              | cell n' t => simp [okRes] at hok
              | tmp n' =>
                simp only [okRes, beq_iff_eq] at hok
                subst hok
                obtain ⟨u, hu, hrep⟩ := S.tm _ _ hv
                refine ⟨u, g.lm, results_one hr (by simp [resOne, hu]), S.lm, ?_⟩
                simp only [SRep, hd] at hrep
                obtain ⟨_, h | h⟩ := hrep
                · obtain ⟨_, _, rfl⟩ := h
                  obtain ⟨q1, q2, q3, q4⟩ := S.ob d _ hd
                  exact ⟨q1, q2, q3, fun b hb => by simpa using q4 b hb⟩
                · obtain ⟨h, _⟩ := h; simp at h
        · split at h
          · rename_i hle
            simp only [Option.some.injEq] at h
            subst h
            refine byOne hn (x := .sl k ((l.drop off).take len)) ?_ rfl
            simp only [finish.one, hv, frz, hd, if_pos hle]
          · simp at h
      · simp at h
    · rename_i v hnm hv
      cases hfz : frz s.h v with
      | none => rw [hfz] at h; simp at h
      | some q =>
        rw [hfz] at h
        simp only [Option.some.injEq] at h
        subst h
        refine byOne hn (x := q.1) ?_ rfl
        simp only [finish.one, hv, hfz]
    · simp at h
  · rename_i n hn
    split at h
    · rename_i d off len hv
      split at h
      · rename_i e k l hd
        split at h
        · rename_i hq
          obtain ⟨rfl, rfl⟩ := hq
          simp only [Option.some.injEq] at h
          subst h
          rw [hn] at hok
          cases hr : fn.results.toList with
          | nil => rw [hr] at hok; simp [okRess] at hok
          | cons r0 l0 =>
            rw [hr] at hok
            cases l0 with
            | cons _ _ => simp [okRess] at hok
            | nil =>
              simp only [okRess, Bool.and_true] at hok
              cases r0 with
              | cell n' t => simp [okRes] at hok
              | tmp n' =>
                simp only [okRes, beq_iff_eq] at hok
                subst hok
                obtain ⟨u, hu, hrep⟩ := S.tm _ _ hv
                refine ⟨u, g.lm, results_one hr (by simp [resOne, hu]), S.lm, fun x => g.v (x + d), ?_, ?_, ?_⟩
                · simp only [SRep, hd] at hrep
                  obtain ⟨_, h | h⟩ := hrep
                  · obtain ⟨_, _, rfl⟩ := h; simp
                  · obtain ⟨h, _⟩ := h; simp at h
                · exact dp_shift (S.ob d _ hd) (Nat.le_refl _) (by simp) fun p => by
                    have e0 : nid 0 p + d = nid d p := by unfold nid; omega
                    rw [e0]
                · obtain ⟨own, hap⟩ := S.ap
                  have hlt := S.lt _ _ hd
                  refine ⟨fun b => own b - d, fun x b hi hb => ?_⟩
                  have hi' : Ids d (.dp e k l) (x + d) := by
                    rcases hi with rfl | ⟨_, _, _, p, e1, k1, l1, ho, hp, hk, rfl⟩
                    · exact .inl (by omega)
                    · exact .inr ⟨_, _, _, p, e1, k1, l1, ho, hp, hk, by unfold nid; omega⟩
                  have := hap d _ (x + d) b hd rfl hi' hb
                  show own b - d = x
                  omega
        · simp at h
      · simp at h
    · simp at h
  · rename_i ar hne hne' har
    cases h1 : finish.one s ar with
    | none => rw [h1] at h; simp at h
    | some x =>
      rw [h1] at h
      simp only [Option.some.injEq] at h
      exact byOne har h1 h.symm
  · rename_i hne1 hne0 hne2
    cases h1 : finish.many s afn.rs with
    | none => rw [h1] at h; simp at h
    | some xs =>
      rw [h1] at h
      simp only [Option.some.injEq] at h
      refine byMany (fun hl => ?_) h1 h.symm
      obtain ⟨ar, har⟩ := List.length_eq_one_iff.1 hl
      exact hne2 ar har

/-! ### code and calls -/
def exitOf : Out → Exit
  | .nor => .normal
  | .ex i => .exit i
  | .ret => .ret

structure EnvOk (P : Program) (E : Env) : Prop where
  mixed : P.follows .mixedOrders = true
  ap : ∀ f fn, E.ap f = some fn → okFunc P f fn = true
  ext : ∀ f args r, E.isExt f = true → E.ext f args = some r → CallOK P f args r ∧ Callable P f

def CS (P : Program) (E : Env) (k : Nat) : Prop := ∀ (N : Nat) (c : Go.Code) (ac : ACode) (s : St) (o : Out) (s' : St) (base : Nat) (w0 : World) (lm0 : Nat → Nat) (g : Gs) (a : Act) (w : World) (Q : Exit → Act → World → Prop),
  okCode P N c ac = true → code E k ac s = some (o, s') → Kb base w0 → Sim base w0 lm0 N g a w s → (∀ g' a' w', Sim base w0 lm0 N g' a' w' s' → Q (exitOf o) a' w') → c.wp P Q a w
def RS (P : Program) (E : Env) (k : Nat) : Prop := ∀ (N : Nat) (c : Go.Code) (keep : List Nat) (ac : ACode) (s : St) (o : Out) (s' : St) (base : Nat) (w0 : World) (lm0 : Nat → Nat) (g : Gs) (a : Act) (w : World) (Q : Exit → Act → World → Prop),
  okCode P N c ac = true → code E k (.loop keep ac) s = some (o, s') → Kb base w0 → Sim base w0 lm0 N g a w s → (∀ g' a' w', Sim base w0 lm0 N g' a' w' s' → Q (exitOf o) a' w') → Code.rounds P c Q k a w

theorem entry_get : ∀ {args : List PV} {m n : Nat} {v : SV}, get (entry m args) n = some v → ∃ x, v = .p x ∧ m ≤ n ∧ args[n - m]? = some x
  | [], m, n, v, h => by simp [entry, get] at h
  | x :: xs, m, n, v, h => by
    simp only [entry, get] at h
    split at h
    · rename_i e
      subst e
      simp only [Option.some.injEq] at h
      exact ⟨x, h.symm, Nat.le_refl _, by simp⟩
    · obtain ⟨y, h1, h2, h3⟩ := entry_get h
      refine ⟨y, h1, by omega, ?_⟩
      rw [show n - m = (n - (m + 1)) + 1 by omega]
      simpa using h3

theorem finish_plain {fn : AFunc} {s : St} {r : Ret} (h : finish fn s = some r) (k T e : Nat) : r ≠ .sb k T e := by
  rintro rfl
  unfold finish at h
  repeat' split at h
  all_goals simp at h

theorem call_step {E : Env} (hE : EnvOk P E) {k : Nat} (hc : CS P E k) : Good P (call E (k + 1)) := by
  intro f args r h
  rw [c_call] at h
  split at h
  · rename_i he
    exact hE.ext f args r he h
  · cases hap : E.ap f with
    | none => rw [hap] at h; simp at h
    | some fn =>
      rw [hap] at h
      dsimp only at h
      have hok := hE.ap f fn hap
      unfold okFunc at hok
      cases hf : P.funcs[f]? with
      | none => rw [hf] at hok; simp at hok
      | some gf =>
        rw [hf] at hok
        cases hb : gf.body with
        | none => dsimp only at hok; rw [hb] at hok; simp at hok
        | some c =>
          dsimp only at hok
          rw [hb] at hok
          simp only [Bool.and_eq_true, decide_eq_true_eq, Bool.not_eq_true', beq_iff_eq] at hok
          obtain ⟨⟨⟨⟨h1, h2⟩, h3⟩, h4⟩, h5⟩ := hok
          refine ⟨?_, gf, hf, h4, by simp [hb]⟩
          split at h
          · rename_i hlen
            refine CallOK.of ?_ (fun k1 T1 e1 => by
              split at h
              · simp at h
              · exact finish_plain h k1 T1 e1
              · simp at h)
            intro w0 lm0 vs hkw hvs
            have hvl := hvs.length
            have fin : ∀ {o : Out} {s' : St}, code E k fn.body ⟨entry 0 args, []⟩ = some (o, s') → (o = .nor ∨ o = .ret) → finish fn s' = some r → Calls P f vs.toArray w0 fun e w' => ∃ u lm', e = .returned u ∧ Below w0.heap.size w0 w' ∧ (∀ b, b < w0.heap.size → lm' b = lm0 b) ∧ RRep w0.heap.size w' lm' r u := by
              intro o s' ho hor hfin
              refine calls_of_wp hf hb ?_
              refine hc gf.ntmps c fn.body ⟨entry 0 args, []⟩ o s' w0.heap.size w0 lm0 ⟨lm0, fun _ => undef⟩ _ w0 _ h1 ho hkw.b ⟨rfl, ?_, rfl, Below.refl _ _, fun _ _ => rfl, fun n v hn => ?_, fun d o hd => by simp [get] at hd, fun d o hd => by simp [get] at hd, ⟨fun _ => 0, fun d o x b hd => by simp [get] at hd⟩⟩ ?_
              · simp; omega
              · obtain ⟨x, rfl, _, hx⟩ := entry_get hn
                simp only [Nat.sub_zero] at hx
                obtain ⟨u, hu, hrep⟩ := hvs.get _ _ hx
                refine ⟨u, ?_, hrep⟩
                have hlt : n < vs.length := (List.getElem?_eq_some_iff.1 hu).1
                rw [Array.getElem?_append_left (by simpa using hlt)]
                simpa using hu
              · intro g' a' w' S'
                obtain ⟨v, lm', q1, q2, q3⟩ := finish_sound S' h3 hfin
                have : bodyPost P gf (fun e w' => ∃ u lm', e = .returned u ∧ Below w0.heap.size w0 w' ∧ (∀ b, b < w0.heap.size → lm' b = lm0 b) ∧ RRep w0.heap.size w' lm' r u) .normal a' w' := ⟨S'.defers, v, q1, v, lm', rfl, S'.below, q2, q3⟩
                rcases hor with rfl | rfl <;> exact this
            split at h
            · simp at h
            · rename_i o s' hne ho
              refine fin ho ?_ h
              cases o with
              | nor => exact .inl rfl
              | ret => exact .inr rfl
              | ex i => exact (hne i rfl).elim
            · simp at h
          · simp at h

theorem code_step {E : Env} (hE : EnvOk P E) {k : Nat} (hG : Good P (call E k)) (hc : CS P E k) (hr : RS P E k) : CS P E (k + 1) := by
  intro N c
  induction c with
  | scope x ih =>
    intro ac s o s' base w0 lm0 g a w Q hok h hk S hK
    refine wp_scope_straight (ih ac s o s' base w0 lm0 g a w _ (by simpa only [okCode] using hok) h hk S fun g' a' w' S' => ?_)
    have := hK g' a' w' S'
    cases o <;> exact this
  | skip =>
    intro ac s o s' base w0 lm0 g a w Q hok h hk S hK
    cases ac <;> simp only [okCode] at hok <;> first | (simp at hok; done) | skip
    rw [c_skip] at h
    simp only [Option.some.injEq, Prod.mk.injEq] at h
    obtain ⟨rfl, rfl⟩ := h
    exact wp_skip (hK g a w S)
  | label l =>
    intro ac s o s' base w0 lm0 g a w Q hok h hk S hK
    cases ac <;> simp only [okCode] at hok <;> first | (simp at hok; done) | skip
    rw [c_skip] at h
    simp only [Option.some.injEq, Prod.mk.injEq] at h
    obtain ⟨rfl, rfl⟩ := h
    exact wp_label (hK g a w S)
  | region id ops draw =>
    intro ac s o s' base w0 lm0 g a w Q hok h hk S hK
    cases ac <;> simp only [okCode] at hok <;> first | (simp at hok; done) | skip
    · rename_i as keep
      rw [c_reg] at h
      cases hs : steps (call E k) as s with
      | none => rw [hs] at h; simp at h
      | some s1 =>
        rw [hs] at h
        simp only [Option.some.injEq, Prod.mk.injEq] at h
        obtain ⟨rfl, rfl⟩ := h
        exact region_sound hk hE.mixed hG hok S hs fun g' a' w' S' => let ⟨g'', S''⟩ := S'.norm keep; hK g'' a' w' S''
    · rename_i as keep fz
      rw [c_regf] at h
      cases hs : steps (call E k) as (fz.foldl fz1 s) with
      | none => rw [hs] at h; simp at h
      | some s1 =>
        rw [hs] at h
        simp only [Option.some.injEq, Prod.mk.injEq] at h
        obtain ⟨rfl, rfl⟩ := h
        obtain ⟨g0, S0⟩ := S.fzs fz
        exact region_sound hk hE.mixed hG hok S0 hs fun g' a' w' S' => let ⟨g'', S''⟩ := S'.norm keep; hK g'' a' w' S''
  | seq x y ihx ihy =>
    intro ac s o s' base w0 lm0 g a w Q hok h hk S hK
    cases ac <;> simp only [okCode, Bool.and_eq_true] at hok <;> first | (simp at hok; done) | skip
    rename_i x' y'
    rw [c_seq] at h
    cases h1 : code E k x' s with
    | none => rw [h1] at h; simp at h
    | some q =>
      obtain ⟨o1, s1⟩ := q
      rw [h1] at h
      refine wp_seq (hc N x x' s o1 s1 base w0 lm0 g a w _ hok.1 h1 hk S fun g' a' w' S' => ?_)
      cases o1 with
      | nor => exact hc N y y' s1 o s' base w0 lm0 g' a' w' Q hok.2 h hk S' hK
      | ex i =>
        simp only [Option.some.injEq, Prod.mk.injEq] at h
        obtain ⟨rfl, rfl⟩ := h
        exact hK g' a' w' S'
      | ret =>
        simp only [Option.some.injEq, Prod.mk.injEq] at h
        obtain ⟨rfl, rfl⟩ := h
        exact hK g' a' w' S'
  | cond x y z ihy ihz =>
    intro ac s o s' base w0 lm0 g a w Q hok h hk S hK
    cases ac <;> simp only [okCode, Bool.and_eq_true] at hok <;> first | (simp at hok; done) | skip
    rename_i x' y' z'
    obtain ⟨⟨h1, h2⟩, h3⟩ := hok
    rw [c_ite] at h
    split at h
    · rename_i b hv
      have hb := rep_bool (okX_sound S h1 hv)
      refine wp_cond hb ?_
      cases b with
      | true => exact hc N y y' s o s' base w0 lm0 g a w Q h2 h hk S hK
      | false => exact hc N z z' s o s' base w0 lm0 g a w Q h3 h hk S hK
    · simp at h
  | block i x ih =>
    intro ac s o s' base w0 lm0 g a w Q hok h hk S hK
    cases ac <;> simp only [okCode, Bool.and_eq_true, beq_iff_eq] at hok <;> first | (simp at hok; done) | skip
    rename_i j x'
    obtain ⟨rfl, h2⟩ := hok
    rw [c_blk] at h
    cases h1 : code E k x' s with
    | none => rw [h1] at h; simp at h
    | some q =>
      obtain ⟨o1, s1⟩ := q
      rw [h1] at h
      refine wp_block (hc N x x' s o1 s1 base w0 lm0 g a w _ h2 h1 hk S fun g' a' w' S' => ?_)
      cases o1 with
      | nor =>
        simp only [Option.some.injEq, Prod.mk.injEq] at h
        obtain ⟨rfl, rfl⟩ := h
        exact hK g' a' w' S'
      | ex m =>
        dsimp only at h
        by_cases hm : m = i
        · rw [if_pos hm] at h
          simp only [Option.some.injEq, Prod.mk.injEq] at h
          obtain ⟨rfl, rfl⟩ := h
          simp only [exitOf, Exit.inBlock, if_pos hm]
          exact hK g' a' w' S'
        · rw [if_neg hm] at h
          simp only [Option.some.injEq, Prod.mk.injEq] at h
          obtain ⟨rfl, rfl⟩ := h
          simp only [exitOf, Exit.inBlock, if_neg hm]
          exact hK g' a' w' S'
      | ret =>
        simp only [Option.some.injEq, Prod.mk.injEq] at h
        obtain ⟨rfl, rfl⟩ := h
        exact hK g' a' w' S'
  | loop x ih =>
    intro ac s o s' base w0 lm0 g a w Q hok h hk S hK
    cases ac <;> simp only [okCode] at hok <;> first | (simp at hok; done) | skip
    rename_i keep x'
    rw [c_loop] at h
    obtain ⟨g1, S1⟩ := S.norm keep
    cases h1 : code E k x' (AM.norm keep s) with
    | none => rw [h1] at h; simp at h
    | some q =>
      obtain ⟨o1, s1⟩ := q
      rw [h1] at h
      refine wp_loop_rounds (k + 1) ?_
      rw [rounds_succ]
      refine hc N x x' _ o1 s1 base w0 lm0 g1 a w _ hok h1 hk S1 fun g' a' w' S' => ?_
      cases o1 with
      | nor => exact hr N x keep x' s1 o s' base w0 lm0 g' a' w' Q hok h hk S' hK
      | ex m =>
        simp only [Option.some.injEq, Prod.mk.injEq] at h
        obtain ⟨rfl, rfl⟩ := h
        exact hK g' a' w' S'
      | ret =>
        simp only [Option.some.injEq, Prod.mk.injEq] at h
        obtain ⟨rfl, rfl⟩ := h
        exact hK g' a' w' S'
  | exit i =>
    intro ac s o s' base w0 lm0 g a w Q hok h hk S hK
    cases ac <;> simp only [okCode, beq_iff_eq] at hok <;> first | (simp at hok; done) | skip
    subst hok
    rw [c_ex] at h
    simp only [Option.some.injEq, Prod.mk.injEq] at h
    obtain ⟨rfl, rfl⟩ := h
    exact wp_exit (hK g a w S)
  | ret =>
    intro ac s o s' base w0 lm0 g a w Q hok h hk S hK
    cases ac <;> simp only [okCode] at hok <;> first | (simp at hok; done) | skip
    rw [c_ret] at h
    simp only [Option.some.injEq, Prod.mk.injEq] at h
    obtain ⟨rfl, rfl⟩ := h
    exact wp_ret (hK g a w S)
  | rangeFunc => intro ac s o s' base w0 lm0 g a w Q hok; simp [okCode] at hok
  | goto => intro ac s o s' base w0 lm0 g a w Q hok; simp [okCode] at hok
  | refuse => intro ac s o s' base w0 lm0 g a w Q hok; simp [okCode] at hok

theorem rounds_step {E : Env} {k : Nat} (hc : CS P E k) (hr : RS P E k) : RS P E (k + 1) := by
  intro N x keep x' s o s' base w0 lm0 g a w Q hok h hk S hK
  rw [c_loop] at h
  obtain ⟨g1, S1⟩ := S.norm keep
  cases h1 : code E k x' (AM.norm keep s) with
  | none => rw [h1] at h; simp at h
  | some q =>
    obtain ⟨o1, s1⟩ := q
    rw [h1] at h
    rw [rounds_succ]
    refine hc N x x' _ o1 s1 base w0 lm0 g1 a w _ hok h1 hk S1 fun g' a' w' S' => ?_
    cases o1 with
    | nor => exact hr N x keep x' s1 o s' base w0 lm0 g' a' w' Q hok h hk S' hK
    | ex m =>
      simp only [Option.some.injEq, Prod.mk.injEq] at h
      obtain ⟨rfl, rfl⟩ := h
      exact hK g' a' w' S'
    | ret =>
      simp only [Option.some.injEq, Prod.mk.injEq] at h
      obtain ⟨rfl, rfl⟩ := h
      exact hK g' a' w' S'

theorem all_sound {E : Env} (hE : EnvOk P E) : ∀ k, Good P (call E k) ∧ CS P E k ∧ RS P E k
  | 0 => ⟨fun f args r h => by simp [call] at h, fun N c ac s o s' base w0 lm0 g a w Q hok h => by simp [code] at h, fun N c keep ac s o s' base w0 lm0 g a w Q hok h => by simp [code] at h⟩
  | k + 1 =>
    let ⟨h1, h2, h3⟩ := all_sound hE k
    ⟨call_step hE h2, code_step hE h1 h2 h3, rounds_step h2 h3⟩

/-- WHAT THE SMALL MACHINE COMPUTES, GO COMPUTES. -/
theorem run_sound {E : Env} (hE : EnvOk P E) {f : FuncId} {args : List PV} {r : Ret} (h : Run E f args = some r) : CallOK P f args r ∧ Callable P f := by
  obtain ⟨k, hk⟩ := (Run_iff ..).1 h
  exact (all_sound hE k).1 f args r hk
end
end Go.Proofs.Ytomnggbideepeaa.AM

end
section
/- A law's arguments, as they lie in Go's memory, read for the small machine; the row out of what it computes. No condition. -/
namespace Go.Proofs.Ytomnggbideepeaa.AM
open Go Go.RowKit Go.ChangeShapes Go.WideShapes
set_option linter.unusedVariables false
set_option linter.unusedSimpArgs false

/-- What a cell may be. -/
inductive Sh where
  | i (k : IntKind)
  | bl
  | tx
  | sl (e : List Sh)
/-- What an argument may be. -/
inductive PSh where
  | one (s : Sh)
  | st (l : List Sh)

mutual
def okSh (P : Program) : Nat → TypeId → List Sh → Bool
  | 0, _, _ => false
  | d + 1, t, shs => match P.underlying t with
    | some (.int k) => (match shs with | [.i k'] => decide (k = k') | _ => false)
    | some .bool => (match shs with | [.bl] => true | _ => false)
    | some .string => (match shs with | [.tx] => true | _ => false)
    | some (.slice e) => (match shs with | [.sl es] => okSh P d e es && P.cellsOf e == es.length && decide (0 < es.length) | _ => false)
    | some (.struct fs) => okFds P d fs.toList 0 shs && P.cellsOf t == shs.length
    | _ => false
def okFds (P : Program) : Nat → List Field → Nat → List Sh → Bool
  | 0, _, _, _ => false
  | _ + 1, [], _, shs => shs.isEmpty
  | d + 1, f :: fs, off, shs => f.offset == off && decide (P.cellsOf f.type ≤ shs.length) && okSh P d f.type (shs.take (P.cellsOf f.type)) && okFds P d fs (off + P.cellsOf f.type) (shs.drop (P.cellsOf f.type))
end

mutual
/-- A plain value of that shape. -/
inductive WT : Sh → PV → Prop
  | i {k n} : (Lit.int k n).wf = true → WT (.i k) (.sc (.int k n))
  | b {x} : WT .bl (.sc (.bool x))
  | s {x : ByteArray} : x.size ≤ maxLen → WT .tx (.sc (.string x))
  | sl {es l} : l.length ≤ maxLen → WTR es l → WT (.sl es) (.sl es.length l)
inductive WTL : List Sh → List PV → Prop
  | nil : WTL [] []
  | cons {s x ss xs} : WT s x → WTL ss xs → WTL (s :: ss) (x :: xs)
inductive WTR : List Sh → List (List PV) → Prop
  | nil {es} : WTR es []
  | cons {es c l} : WTL es c → WTR es l → WTR es (c :: l)
end

theorem WTL.length : ∀ {ss xs}, WTL ss xs → ss.length = xs.length
  | _, _, .nil => rfl
  | _, _, .cons _ h => by simp [h.length]
theorem WTL.append : ∀ {a x}, WTL a x → ∀ {b y}, WTL b y → WTL (a ++ b) (x ++ y)
  | _, _, .nil, _, _, h => h
  | _, _, .cons h k, _, _, h' => .cons h (k.append h')
theorem WTR.snoc {es : List Sh} : ∀ {l : List (List PV)} {c}, WTR es l → WTL es c → WTR es (l ++ [c])
  | [], _, .nil, h => .cons h .nil
  | _ :: _, _, .cons h k, h' => .cons h (k.snoc h')
theorem WTR.len {es : List Sh} : ∀ {l : List (List PV)}, WTR es l → ∀ c ∈ l, c.length = es.length
  | [], _, c, hc => by simp at hc
  | a :: l, .cons h k, c, hc => by
    rcases List.mem_cons.1 hc with rfl | hc
    · exact h.length.symm
    · exact k.len c hc

/-- What may not be written: all there is. -/
def lmOf (w : World) (b : Nat) : Nat := match w.heap[b]? with | some (.cells c _ _) => c.size | _ => 0
theorem lmOf_lt {w : World} {b o : Nat} {u : Value} (h : w.cell? ⟨b, o, none⟩ = some u) : o < lmOf w b := by
  unfold World.cell? at h
  unfold lmOf
  dsimp only at h
  split at h
  · rename_i c e f hb
    rw [hb]
    simp at h
    exact (Array.getElem?_eq_some_iff.1 h).1
  · simp at h

theorem cells?_get {w : World} {base : Nat} {a : Addr} {n : Nat} {cs : List Value} (h : w.cells? base a n = some cs) : cs.length = n ∧ ∀ (i : Nat) (u : Value), cs[i]? = some u → w.cell? (a.add i) = some u := by
  unfold World.cells? at h
  split at h
  · refine ⟨by simpa using mapM_some_length h, fun i u hu => ?_⟩
    have hi : i < n := by
      have := (List.getElem?_eq_some_iff.1 hu).1
      have hl := mapM_some_length h
      simp at hl
      omega
    have := mapM_some_get h i i (by simp [hi])
    rw [this, hu]
  · simp at h

theorem add_cell {w : World} {a : Addr} {i : Nat} {u : Value} (h : w.cell? (a.add i) = some u) (h0 : i = 0 → a.spot = none) : w.cell? ⟨a.block, a.off + i, none⟩ = some u := by
  unfold Addr.add at h
  split at h
  · rename_i hi
    subst hi
    have := h0 rfl
    obtain ⟨b, o, sp⟩ := a
    simp only at this
    subst this
    simpa using h
  · exact h
theorem spot_of {w : World} {a : Addr} {u : Value} (h : w.cell? (a.add 0) = some u) : a.spot = none := by
  simp only [Addr.add, if_pos] at h
  unfold World.cell? at h
  split at h
  · cases hs : a.spot with
    | none => rfl
    | some x => simp [hs] at h
  · simp at h

section
variable {H : Type} {enc : TypeId × Value → H} {P : Program} {w : World} {base : Nat} {spare : Nat → Bool} {held : Bool}

theorem trod_rep : ∀ (d : Nat), (∀ (t : TypeId) (shs : List Sh) (fuel : Nat) (cs : List Value) (x : DataW H × List MemPlace), okSh P d t shs = true → DataW.trod enc P w base spare held fuel t cs = some x → ∃ pvs, RepL w (lmOf w) pvs cs ∧ WTL shs pvs ∧ ∀ u ∈ cs, u.oneCell' = true) ∧
    (∀ (fs : List Field) (off : Nat) (shs : List Sh) (n : Nat) (cs : List Value), okFds P d fs off shs = true → cs.length = off + shs.length → (∀ f ∈ fs, ∃ x, DataW.trod enc P w base spare held n f.type ((cs.drop f.offset).take (P.cellsOf f.type)) = some x) → ∃ pvs, RepL w (lmOf w) pvs (cs.drop off) ∧ WTL shs pvs ∧ ∀ u ∈ cs.drop off, u.oneCell' = true)
  | 0 => ⟨fun t shs fuel cs x h => by simp [okSh] at h, fun fs off shs n cs h => by simp [okFds] at h⟩
  | d + 1 => by
    obtain ⟨ih1, ih2⟩ := trod_rep d
    constructor
    · intro t shs fuel cs x hok h
      unfold okSh at hok
      split at hok
      · rename_i k ht
        split at hok
        · rename_i k'
          obtain rfl : k = k' := by simpa using hok
          obtain ⟨n, rfl, _, hw⟩ := DataW.trod_int ht h
          exact ⟨[.sc (.int k n)], .cons (.sc _) .nil, .cons (.i hw) .nil, fun u hu => by simp at hu; subst hu; rfl⟩
        · simp at hok
      · rename_i ht
        split at hok
        · obtain ⟨b, rfl, _⟩ := DataW.trod_bool ht h
          exact ⟨[.sc (.bool b)], .cons (.sc _) .nil, .cons .b .nil, fun u hu => by simp at hu; subst hu; rfl⟩
        · simp at hok
      · rename_i ht
        split at hok
        · obtain ⟨s, rfl, _, hm⟩ := DataW.trod_string ht h
          exact ⟨[.sc (.string s)], .cons (.sc _) .nil, .cons (.s hm) .nil, fun u hu => by simp at hu; subst hu; rfl⟩
        · simp at hok
      · rename_i e ht
        split at hok
        · rename_i es
          simp only [Bool.and_eq_true, beq_iff_eq, decide_eq_true_eq] at hok
          obtain ⟨⟨hok, hk⟩, h0⟩ := hok
          rcases DataW.trod_slice ht h with ⟨rfl, _⟩ | ⟨a, len, cap, elems, rest, n, _, rfl, _, hb, hl, hm, hlen, hel, _⟩
          · exact ⟨[.sl es.length []], .cons .sl0 .nil, .cons (.sl (by simp) .nil) .nil, fun u hu => by simp at hu; subst hu; rfl⟩
          · have rows : ∀ m, m ≤ len → ∃ (l : List (List PV)) (vs : List Value), l.length = m ∧ WTR es l ∧ RepL w (lmOf w) l.flatten vs ∧ vs.length = m * es.length ∧ ∀ (j : Nat) (u : Value), vs[j]? = some u → w.cell? (a.add j) = some u ∧ u.oneCell' = true := by
              intro m
              induction m with
              | zero => intro _; exact ⟨[], [], rfl, .nil, .nil, by simp, fun j u hu => by simp at hu⟩
              | succ m ihm =>
                intro hm'
                obtain ⟨l, vs, e1, e2, e3, e4, e5⟩ := ihm (by omega)
                have := hel m (by omega)
                rw [List.getElem?_eq_getElem (by omega)] at this
                obtain ⟨cs', hc1, hc2⟩ := Option.bind_eq_some_iff.1 this
                obtain ⟨pvs, r1, r2, r3⟩ := ih1 e es n cs' _ hok hc2
                obtain ⟨hcl, hcg⟩ := cells?_get hc1
                refine ⟨l ++ [pvs], vs ++ cs', by simp [e1], e2.snoc r2, by simpa using e3.append r1, by rw [List.length_append, hcl, e4, hk, Nat.add_mul]; omega, fun j u hu => ?_⟩
                rw [List.getElem?_append] at hu
                split at hu
                · exact e5 j u hu
                · rename_i hj
                  have h1 := hcg _ u hu
                  refine ⟨?_, r3 u (List.mem_of_getElem? hu)⟩
                  have hadd : (a.add (m * P.cellsOf e)).add (j - vs.length) = a.add j := by
                    rw [e4] at hj ⊢
                    rw [hk]
                    have e : j = m * es.length + (j - m * es.length) := by omega
                    generalize hq : m * es.length = q at e ⊢
                    generalize j - q = r at e ⊢
                    subst e
                    unfold Addr.add
                    by_cases h1 : q = 0
                    · subst h1; simp
                    · by_cases h2 : r = 0
                      · subst h2; simp [h1]
                      · simp [h1, h2]; omega
                  rw [hadd] at h1
                  exact h1
            obtain ⟨l, vs, e1, e2, e3, e4, e5⟩ := rows len (Nat.le_refl _)
            have hmax : l.length ≤ maxLen := by omega
            refine ⟨[.sl es.length l], .cons ?_ .nil, .cons (.sl hmax e2) .nil, fun u hu => by simp at hu; subst hu; rfl⟩
            subst e1
            cases l with
            | nil => exact .sl0
            | cons c l =>
              have hv0 : ∃ u, vs[0]? = some u := by
                have : 0 < vs.length := by rw [e4]; simp only [List.length_cons, Nat.add_mul]; omega
                exact ⟨vs[0], List.getElem?_eq_getElem this⟩
              obtain ⟨u0, hu0⟩ := hv0
              have hsp := spot_of (e5 0 u0 hu0).1
              obtain ⟨b, o, sp⟩ := a
              simp only at hsp
              subst hsp
              exact .sl h0 (e2.len) e3 (fun j u hu => by
                obtain ⟨q1, q2⟩ := e5 j u hu
                have := add_cell q1 fun _ => rfl
                exact ⟨this, lmOf_lt this, q2⟩) hl
        · simp at hok
      · rename_i fs ht
        simp only [Bool.and_eq_true, beq_iff_eq] at hok
        obtain ⟨xs, n, _, _, hlen, hxl, hf⟩ := DataW.trod_struct ht h
        obtain ⟨pvs, r1, r2, r3⟩ := ih2 fs.toList 0 shs n cs hok.1 (by omega) (fun f hfm => by
          obtain ⟨i, hi⟩ := List.getElem?_of_mem hfm
          have hi' : fs[i]? = some f := by simpa using hi
          have := hf i f hi'
          have hil : i < xs.length := by
            have := (Array.getElem?_eq_some_iff.1 hi').1
            omega
          rw [List.getElem?_eq_getElem hil] at this
          exact ⟨_, this⟩)
        exact ⟨pvs, by simpa using r1, r2, by simpa using r3⟩
      · simp at hok
    · intro fs off shs n cs hok hcl hf
      cases fs with
      | nil =>
        simp only [okFds, List.isEmpty_iff] at hok
        subst hok
        refine ⟨[], ?_, .nil, ?_⟩
        · rw [List.drop_eq_nil_of_le (by simp at hcl; omega)]; exact .nil
        · rw [List.drop_eq_nil_of_le (by simp at hcl; omega)]; simp
      | cons f fs =>
        simp only [okFds, Bool.and_eq_true, beq_iff_eq, decide_eq_true_eq] at hok
        obtain ⟨⟨⟨h1, h2⟩, h3⟩, h4⟩ := hok
        subst h1
        obtain ⟨x, hx⟩ := hf f (by simp)
        obtain ⟨p1, a1, a2, a3⟩ := ih1 _ _ _ _ _ h3 hx
        obtain ⟨p2, b1, b2, b3⟩ := ih2 fs _ _ n cs h4 (by rw [List.length_drop]; omega) fun f' hf' => hf f' (by simp [hf'])
        have e : cs.drop f.offset = (cs.drop f.offset).take (P.cellsOf f.type) ++ cs.drop (f.offset + P.cellsOf f.type) := by
          rw [← List.drop_drop, List.take_append_drop]
        refine ⟨p1 ++ p2, ?_, ?_, ?_⟩
        · rw [e]; exact a1.append b1
        · rw [← List.take_append_drop (P.cellsOf f.type) shs]; exact a2.append b2
        · rw [e]
          intro u hu
          rcases List.mem_append.1 hu with hu | hu
          · exact a3 u hu
          · exact b3 u hu
end

/-! ### a law's arguments -/
inductive WTA : PSh → PV → Prop
  | one {s x} : WT s x → WTA (.one s) x
  | st {l xs} : WTL l xs → WTA (.st l) (.st xs)
inductive WTAs : List PSh → List PV → Prop
  | nil : WTAs [] []
  | cons {s x ss xs} : WTA s x → WTAs ss xs → WTAs (s :: ss) (x :: xs)

def okPSh (P : Program) (t : TypeId) (p : PSh) : Bool := decide (P.readableRec t = true) && decide (t < P.types.size) && match p with
  | .one s => okSh P 20 t [s] && (match P.underlying t with | some (.int _) | some .bool | some .string | some (.slice _) => true | _ => false)
  | .st l => okSh P 20 t l && (match P.underlying t with | some (.struct _) => true | _ => false)
def okPShs (P : Program) : List TypeId → List PSh → Bool
  | [], [] => true
  | t :: ts, p :: ps => okPSh P t p && okPShs P ts ps
  | _, _ => false

section
variable {H : Type} {enc : TypeId × Value → H} {P : Program} {W : World}

theorem arg_rep {t : TypeId} {p : PSh} {v : Value} {d : DataW H} {ps : List MemPlace} (hok : okPSh P t p = true) (hv : Value.okWide P W .any 0 t v) (h : DataW.Trod enc P W 0 (fun _ => true) true t v d ps) : ∃ x, Rep W (lmOf W) x v ∧ WTA p x := by
  obtain ⟨fuel, hf⟩ := h
  simp only [okPSh, Bool.and_eq_true] at hok
  obtain ⟨_, hok⟩ := hok
  cases p with
  | one s =>
    simp only [Bool.and_eq_true] at hok
    obtain ⟨h1, h2⟩ := hok
    obtain ⟨pvs, r1, r2, _⟩ := (trod_rep 20).1 t _ _ _ _ h1 hf
    have hc : v.cells.toList = [v] := by
      split at h2
      · rename_i k ht; obtain ⟨n, rfl⟩ := okWide_int ht hv; rfl
      · rename_i ht; obtain ⟨n, rfl⟩ := okWide_bool ht hv; rfl
      · rename_i ht; obtain ⟨n, rfl⟩ := okWide_string ht hv; rfl
      · rename_i e ht; obtain ⟨a, n, c, rfl⟩ := okWide_slice ht hv; rfl
      · simp at h2
    rw [hc] at r1
    cases r1 with
    | cons hx hl =>
      cases hl
      cases r2 with
      | cons hs hn => exact ⟨_, hx, .one hs⟩
  | st l =>
    simp only [Bool.and_eq_true] at hok
    obtain ⟨h1, h2⟩ := hok
    obtain ⟨pvs, r1, r2, r3⟩ := (trod_rep 20).1 t _ _ _ _ h1 hf
    split at h2
    · rename_i fs ht
      obtain ⟨cs, rfl, _⟩ := okWide_struct ht hv
      have : Rep W (lmOf W) (.st pvs) (.agg cs.toList.toArray) := .st (by simpa [Value.cells] using r1) (by simpa [Value.cells] using r3)
      exact ⟨.st pvs, by simpa using this, .st r2⟩
    · simp at h2

theorem args_rep : ∀ {ts : List TypeId} {ps : List PSh} {vs : List Value} {ds : List (DataW H)} {q : List MemPlace}, okPShs P ts ps = true → (∀ (j : Nat) (t : TypeId) (v : Value), ts[j]? = some t → vs[j]? = some v → Value.okWide P W .any 0 t v) →
    DataW.TrodAll enc P W 0 (fun _ => true) true ts vs ds q → ∃ xs, RepL W (lmOf W) xs vs ∧ WTAs ps xs
  | [], [], vs, ds, q, hok, hv, h => by
    obtain ⟨rfl, _, _⟩ := trodAll_nil h
    exact ⟨[], .nil, .nil⟩
  | [], p :: ps, vs, ds, q, hok, hv, h => by simp [okPShs] at hok
  | t :: ts, [], vs, ds, q, hok, hv, h => by simp [okPShs] at hok
  | t :: ts, p :: ps, vs, ds, q, hok, hv, h => by
    simp only [okPShs, Bool.and_eq_true] at hok
    obtain ⟨v, vs', d, ds', p1, q1, rfl, rfl, rfl, h1, h2⟩ := trodAll_cons h
    obtain ⟨x, a1, a2⟩ := arg_rep hok.1 (hv 0 t v rfl rfl) h1
    obtain ⟨xs, b1, b2⟩ := args_rep hok.2 (fun j t' v' ht hv' => hv (j + 1) t' v' (by simpa using ht) (by simpa using hv')) h2
    exact ⟨x :: xs, .cons a1 b1, .cons a2 b2⟩

/-- The arguments, read again behind the call. -/
theorem args_back {W' : World} (hl : laidOutB P = true) (hb : Below W.heap.size W W') : ∀ {ts : List TypeId} {ps : List PSh} {vs : List Value} {ds : List (DataW H)} {q : List MemPlace}, okPShs P ts ps = true →
    DataW.TrodAll enc P W 0 (fun _ => true) true ts vs ds q → DataW.TrodAll enc P W' 0 (fun b => decide (b < W.heap.size)) true ts vs ds q
  | [], [], vs, ds, q, hok, h => by
    obtain ⟨rfl, rfl, rfl⟩ := trodAll_nil h
    exact trodAll_mk0
  | [], p :: ps, vs, ds, q, hok, h => by simp [okPShs] at hok
  | t :: ts, [], vs, ds, q, hok, h => by simp [okPShs] at hok
  | t :: ts, p :: ps, vs, ds, q, hok, h => by
    simp only [okPShs, Bool.and_eq_true] at hok
    have hlt := h.lt
    obtain ⟨v, vs', d, ds', p1, q1, rfl, rfl, rfl, h1, h2⟩ := trodAll_cons h
    have hp := hok.1
    simp only [okPSh, Bool.and_eq_true, decide_eq_true_eq] at hp
    exact trodAll_cons_mk (Below.trod hl hp.1.1 hp.1.2 h1 hb fun x hx => hlt x (by simp [hx])) (args_back hl hb hok.2 h2)

/-- The call of a law that comes to true. -/
theorem law_call {E : Env} (hE : EnvOk P E) {f : FuncId} {args : Array Value} {xs : List PV} (hk : Kw W) (hr : RepL W (lmOf W) xs args.toList) (h : Run E f xs = some (.val (.sc (.bool true)))) :
    Calls P f args W fun e W' => e = .returned (.bool true) ∧ Below W.heap.size W W' := by
  have h1 := (run_sound hE h).1 W (lmOf W) args.toList hk hr
  rw [Array.toArray_toList] at h1
  refine Calls.mono h1 fun e W' he => ?_
  obtain ⟨u, lm', rfl, hb, _, hrr⟩ := he
  refine ⟨?_, hb⟩
  have : u = .bool true := rep_bool hrr
  rw [this]
end
end Go.Proofs.Ytomnggbideepeaa.AM

end
