/- A law's arguments, as they lie in Go's memory, read for the small machine; the row out of what it computes. No condition. -/
import Derived.Test.YtihgpnfkadldeaaAM23
import Derived.ChangeShapes
import Derived.ChangeArms
import Derived.OpenShut
import Derived.Carry
import Derived.ChangeOld
namespace Go.Proofs.Ytihgpnfkadldeaa.AM
open Go Go.RowKit Go.ChangeShapes Go.WideShapes
set_option linter.unusedVariables false
set_option linter.unusedSimpArgs false

/-- What a cell may be. -/
inductive Sh where
  | i (k : IntKind)
  | bl
  | tx
  | sl (e : List Sh)
/-- What an argument may be. -/
inductive PSh where
  | one (s : Sh)
  | st (l : List Sh)

mutual
def okSh (P : Program) : Nat → TypeId → List Sh → Bool
  | 0, _, _ => false
  | d + 1, t, shs => match P.underlying t with
    | some (.int k) => (match shs with | [.i k'] => decide (k = k') | _ => false)
    | some .bool => (match shs with | [.bl] => true | _ => false)
    | some .string => (match shs with | [.tx] => true | _ => false)
    | some (.slice e) => (match shs with | [.sl es] => okSh P d e es && P.cellsOf e == es.length && decide (0 < es.length) | _ => false)
    | some (.struct fs) => okFds P d fs.toList 0 shs && P.cellsOf t == shs.length
    | _ => false
def okFds (P : Program) : Nat → List Field → Nat → List Sh → Bool
  | 0, _, _, _ => false
  | _ + 1, [], _, shs => shs.isEmpty
  | d + 1, f :: fs, off, shs => f.offset == off && decide (P.cellsOf f.type ≤ shs.length) && okSh P d f.type (shs.take (P.cellsOf f.type)) && okFds P d fs (off + P.cellsOf f.type) (shs.drop (P.cellsOf f.type))
end

mutual
/-- A plain value of that shape. -/
inductive WT : Sh → PV → Prop
  | i {k n} : (Lit.int k n).wf = true → WT (.i k) (.sc (.int k n))
  | b {x} : WT .bl (.sc (.bool x))
  | s {x : ByteArray} : x.size ≤ maxLen → WT .tx (.sc (.string x))
  | sl {es l} : l.length ≤ maxLen → WTR es l → WT (.sl es) (.sl es.length l)
inductive WTL : List Sh → List PV → Prop
  | nil : WTL [] []
  | cons {s x ss xs} : WT s x → WTL ss xs → WTL (s :: ss) (x :: xs)
inductive WTR : List Sh → List (List PV) → Prop
  | nil {es} : WTR es []
  | cons {es c l} : WTL es c → WTR es l → WTR es (c :: l)
end

theorem WTL.length : ∀ {ss xs}, WTL ss xs → ss.length = xs.length
  | _, _, .nil => rfl
  | _, _, .cons _ h => by simp [h.length]
theorem WTL.append : ∀ {a x}, WTL a x → ∀ {b y}, WTL b y → WTL (a ++ b) (x ++ y)
  | _, _, .nil, _, _, h => h
  | _, _, .cons h k, _, _, h' => .cons h (k.append h')
theorem WTR.snoc {es : List Sh} : ∀ {l : List (List PV)} {c}, WTR es l → WTL es c → WTR es (l ++ [c])
  | [], _, .nil, h => .cons h .nil
  | _ :: _, _, .cons h k, h' => .cons h (k.snoc h')
theorem WTR.len {es : List Sh} : ∀ {l : List (List PV)}, WTR es l → ∀ c ∈ l, c.length = es.length
  | [], _, c, hc => by simp at hc
  | a :: l, .cons h k, c, hc => by
    rcases List.mem_cons.1 hc with rfl | hc
    · exact h.length.symm
    · exact k.len c hc

/-- What may not be written: all there is. -/
def lmOf (w : World) (b : Nat) : Nat := match w.heap[b]? with | some (.cells c _ _) => c.size | _ => 0
theorem lmOf_lt {w : World} {b o : Nat} {u : Value} (h : w.cell? ⟨b, o, none⟩ = some u) : o < lmOf w b := by
  unfold World.cell? at h
  unfold lmOf
  dsimp only at h
  split at h
  · rename_i c e f hb
    rw [hb]
    simp at h
    exact (Array.getElem?_eq_some_iff.1 h).1
  · simp at h

theorem cells?_get {w : World} {base : Nat} {a : Addr} {n : Nat} {cs : List Value} (h : w.cells? base a n = some cs) : cs.length = n ∧ ∀ (i : Nat) (u : Value), cs[i]? = some u → w.cell? (a.add i) = some u := by
  unfold World.cells? at h
  split at h
  · refine ⟨by simpa using mapM_some_length h, fun i u hu => ?_⟩
    have hi : i < n := by
      have := (List.getElem?_eq_some_iff.1 hu).1
      have hl := mapM_some_length h
      simp at hl
      omega
    have := mapM_some_get h i i (by simp [hi])
    rw [this, hu]
  · simp at h

theorem add_cell {w : World} {a : Addr} {i : Nat} {u : Value} (h : w.cell? (a.add i) = some u) (h0 : i = 0 → a.spot = none) : w.cell? ⟨a.block, a.off + i, none⟩ = some u := by
  unfold Addr.add at h
  split at h
  · rename_i hi
    subst hi
    have := h0 rfl
    obtain ⟨b, o, sp⟩ := a
    simp only at this
    subst this
    simpa using h
  · exact h
theorem spot_of {w : World} {a : Addr} {u : Value} (h : w.cell? (a.add 0) = some u) : a.spot = none := by
  simp only [Addr.add, if_pos] at h
  unfold World.cell? at h
  split at h
  · cases hs : a.spot with
    | none => rfl
    | some x => simp [hs] at h
  · simp at h

section
variable {H : Type} {enc : TypeId × Value → H} {P : Program} {w : World} {base : Nat} {spare : Nat → Bool} {held : Bool}

theorem trod_rep : ∀ (d : Nat), (∀ (t : TypeId) (shs : List Sh) (fuel : Nat) (cs : List Value) (x : DataW H × List MemPlace), okSh P d t shs = true → DataW.trod enc P w base spare held fuel t cs = some x → ∃ pvs, RepL w (lmOf w) pvs cs ∧ WTL shs pvs ∧ ∀ u ∈ cs, u.oneCell' = true) ∧
    (∀ (fs : List Field) (off : Nat) (shs : List Sh) (n : Nat) (cs : List Value), okFds P d fs off shs = true → cs.length = off + shs.length → (∀ f ∈ fs, ∃ x, DataW.trod enc P w base spare held n f.type ((cs.drop f.offset).take (P.cellsOf f.type)) = some x) → ∃ pvs, RepL w (lmOf w) pvs (cs.drop off) ∧ WTL shs pvs ∧ ∀ u ∈ cs.drop off, u.oneCell' = true)
  | 0 => ⟨fun t shs fuel cs x h => by simp [okSh] at h, fun fs off shs n cs h => by simp [okFds] at h⟩
  | d + 1 => by
    obtain ⟨ih1, ih2⟩ := trod_rep d
    constructor
    · intro t shs fuel cs x hok h
      unfold okSh at hok
      split at hok
      · rename_i k ht
        split at hok
        · rename_i k'
          obtain rfl : k = k' := by simpa using hok
          obtain ⟨n, rfl, _, hw⟩ := DataW.trod_int ht h
          exact ⟨[.sc (.int k n)], .cons (.sc _) .nil, .cons (.i hw) .nil, fun u hu => by simp at hu; subst hu; rfl⟩
        · simp at hok
      · rename_i ht
        split at hok
        · obtain ⟨b, rfl, _⟩ := DataW.trod_bool ht h
          exact ⟨[.sc (.bool b)], .cons (.sc _) .nil, .cons .b .nil, fun u hu => by simp at hu; subst hu; rfl⟩
        · simp at hok
      · rename_i ht
        split at hok
        · obtain ⟨s, rfl, _, hm⟩ := DataW.trod_string ht h
          exact ⟨[.sc (.string s)], .cons (.sc _) .nil, .cons (.s hm) .nil, fun u hu => by simp at hu; subst hu; rfl⟩
        · simp at hok
      · rename_i e ht
        split at hok
        · rename_i es
          simp only [Bool.and_eq_true, beq_iff_eq, decide_eq_true_eq] at hok
          obtain ⟨⟨hok, hk⟩, h0⟩ := hok
          rcases DataW.trod_slice ht h with ⟨rfl, _⟩ | ⟨a, len, cap, elems, rest, n, _, rfl, _, hb, hl, hm, hlen, hel, _⟩
          · exact ⟨[.sl es.length []], .cons .sl0 .nil, .cons (.sl (by simp) .nil) .nil, fun u hu => by simp at hu; subst hu; rfl⟩
          · have rows : ∀ m, m ≤ len → ∃ (l : List (List PV)) (vs : List Value), l.length = m ∧ WTR es l ∧ RepL w (lmOf w) l.flatten vs ∧ vs.length = m * es.length ∧ ∀ (j : Nat) (u : Value), vs[j]? = some u → w.cell? (a.add j) = some u ∧ u.oneCell' = true := by
              intro m
              induction m with
              | zero => intro _; exact ⟨[], [], rfl, .nil, .nil, by simp, fun j u hu => by simp at hu⟩
              | succ m ihm =>
                intro hm'
                obtain ⟨l, vs, e1, e2, e3, e4, e5⟩ := ihm (by omega)
                have := hel m (by omega)
                rw [List.getElem?_eq_getElem (by omega)] at this
                obtain ⟨cs', hc1, hc2⟩ := Option.bind_eq_some_iff.1 this
                obtain ⟨pvs, r1, r2, r3⟩ := ih1 e es n cs' _ hok hc2
                obtain ⟨hcl, hcg⟩ := cells?_get hc1
                refine ⟨l ++ [pvs], vs ++ cs', by simp [e1], e2.snoc r2, by simpa using e3.append r1, by rw [List.length_append, hcl, e4, hk, Nat.add_mul]; omega, fun j u hu => ?_⟩
                rw [List.getElem?_append] at hu
                split at hu
                · exact e5 j u hu
                · rename_i hj
                  have h1 := hcg _ u hu
                  refine ⟨?_, r3 u (List.mem_of_getElem? hu)⟩
                  have hadd : (a.add (m * P.cellsOf e)).add (j - vs.length) = a.add j := by
                    rw [e4] at hj ⊢
                    rw [hk]
                    have e : j = m * es.length + (j - m * es.length) := by omega
                    generalize hq : m * es.length = q at e ⊢
                    generalize j - q = r at e ⊢
                    subst e
                    unfold Addr.add
                    by_cases h1 : q = 0
                    · subst h1; simp
                    · by_cases h2 : r = 0
                      · subst h2; simp [h1]
                      · simp [h1, h2]; omega
                  rw [hadd] at h1
                  exact h1
            obtain ⟨l, vs, e1, e2, e3, e4, e5⟩ := rows len (Nat.le_refl _)
            have hmax : l.length ≤ maxLen := by omega
            refine ⟨[.sl es.length l], .cons ?_ .nil, .cons (.sl hmax e2) .nil, fun u hu => by simp at hu; subst hu; rfl⟩
            subst e1
            cases l with
            | nil => exact .sl0
            | cons c l =>
              have hv0 : ∃ u, vs[0]? = some u := by
                have : 0 < vs.length := by rw [e4]; simp only [List.length_cons, Nat.add_mul]; omega
                exact ⟨vs[0], List.getElem?_eq_getElem this⟩
              obtain ⟨u0, hu0⟩ := hv0
              have hsp := spot_of (e5 0 u0 hu0).1
              obtain ⟨b, o, sp⟩ := a
              simp only at hsp
              subst hsp
              exact .sl h0 (e2.len) e3 (fun j u hu => by
                obtain ⟨q1, q2⟩ := e5 j u hu
                have := add_cell q1 fun _ => rfl
                exact ⟨this, lmOf_lt this, q2⟩) hl
        · simp at hok
      · rename_i fs ht
        simp only [Bool.and_eq_true, beq_iff_eq] at hok
        obtain ⟨xs, n, _, _, hlen, hxl, hf⟩ := DataW.trod_struct ht h
        obtain ⟨pvs, r1, r2, r3⟩ := ih2 fs.toList 0 shs n cs hok.1 (by omega) (fun f hfm => by
          obtain ⟨i, hi⟩ := List.getElem?_of_mem hfm
          have hi' : fs[i]? = some f := by simpa using hi
          have := hf i f hi'
          have hil : i < xs.length := by
            have := (Array.getElem?_eq_some_iff.1 hi').1
            omega
          rw [List.getElem?_eq_getElem hil] at this
          exact ⟨_, this⟩)
        exact ⟨pvs, by simpa using r1, r2, by simpa using r3⟩
      · simp at hok
    · intro fs off shs n cs hok hcl hf
      cases fs with
      | nil =>
        simp only [okFds, List.isEmpty_iff] at hok
        subst hok
        refine ⟨[], ?_, .nil, ?_⟩
        · rw [List.drop_eq_nil_of_le (by simp at hcl; omega)]; exact .nil
        · rw [List.drop_eq_nil_of_le (by simp at hcl; omega)]; simp
      | cons f fs =>
        simp only [okFds, Bool.and_eq_true, beq_iff_eq, decide_eq_true_eq] at hok
        obtain ⟨⟨⟨h1, h2⟩, h3⟩, h4⟩ := hok
        subst h1
        obtain ⟨x, hx⟩ := hf f (by simp)
        obtain ⟨p1, a1, a2, a3⟩ := ih1 _ _ _ _ _ h3 hx
        obtain ⟨p2, b1, b2, b3⟩ := ih2 fs _ _ n cs h4 (by rw [List.length_drop]; omega) fun f' hf' => hf f' (by simp [hf'])
        have e : cs.drop f.offset = (cs.drop f.offset).take (P.cellsOf f.type) ++ cs.drop (f.offset + P.cellsOf f.type) := by
          rw [← List.drop_drop, List.take_append_drop]
        refine ⟨p1 ++ p2, ?_, ?_, ?_⟩
        · rw [e]; exact a1.append b1
        · rw [← List.take_append_drop (P.cellsOf f.type) shs]; exact a2.append b2
        · rw [e]
          intro u hu
          rcases List.mem_append.1 hu with hu | hu
          · exact a3 u hu
          · exact b3 u hu
end

/-! ### a law's arguments -/
inductive WTA : PSh → PV → Prop
  | one {s x} : WT s x → WTA (.one s) x
  | st {l xs} : WTL l xs → WTA (.st l) (.st xs)
inductive WTAs : List PSh → List PV → Prop
  | nil : WTAs [] []
  | cons {s x ss xs} : WTA s x → WTAs ss xs → WTAs (s :: ss) (x :: xs)

def okPSh (P : Program) (t : TypeId) (p : PSh) : Bool := decide (P.readableRec t = true) && decide (t < P.types.size) && match p with
  | .one s => okSh P 20 t [s] && (match P.underlying t with | some (.int _) | some .bool | some .string | some (.slice _) => true | _ => false)
  | .st l => okSh P 20 t l && (match P.underlying t with | some (.struct _) => true | _ => false)
def okPShs (P : Program) : List TypeId → List PSh → Bool
  | [], [] => true
  | t :: ts, p :: ps => okPSh P t p && okPShs P ts ps
  | _, _ => false

section
variable {H : Type} {enc : TypeId × Value → H} {P : Program} {W : World}

theorem arg_rep {t : TypeId} {p : PSh} {v : Value} {d : DataW H} {ps : List MemPlace} (hok : okPSh P t p = true) (hv : Value.okWide P W .any 0 t v) (h : DataW.Trod enc P W 0 (fun _ => true) true t v d ps) : ∃ x, Rep W (lmOf W) x v ∧ WTA p x := by
  obtain ⟨fuel, hf⟩ := h
  simp only [okPSh, Bool.and_eq_true] at hok
  obtain ⟨_, hok⟩ := hok
  cases p with
  | one s =>
    simp only [Bool.and_eq_true] at hok
    obtain ⟨h1, h2⟩ := hok
    obtain ⟨pvs, r1, r2, _⟩ := (trod_rep 20).1 t _ _ _ _ h1 hf
    have hc : v.cells.toList = [v] := by
      split at h2
      · rename_i k ht; obtain ⟨n, rfl⟩ := okWide_int ht hv; rfl
      · rename_i ht; obtain ⟨n, rfl⟩ := okWide_bool ht hv; rfl
      · rename_i ht; obtain ⟨n, rfl⟩ := okWide_string ht hv; rfl
      · rename_i e ht; obtain ⟨a, n, c, rfl⟩ := okWide_slice ht hv; rfl
      · simp at h2
    rw [hc] at r1
    cases r1 with
    | cons hx hl =>
      cases hl
      cases r2 with
      | cons hs hn => exact ⟨_, hx, .one hs⟩
  | st l =>
    simp only [Bool.and_eq_true] at hok
    obtain ⟨h1, h2⟩ := hok
    obtain ⟨pvs, r1, r2, r3⟩ := (trod_rep 20).1 t _ _ _ _ h1 hf
    split at h2
    · rename_i fs ht
      obtain ⟨cs, rfl, _⟩ := okWide_struct ht hv
      have : Rep W (lmOf W) (.st pvs) (.agg cs.toList.toArray) := .st (by simpa [Value.cells] using r1) (by simpa [Value.cells] using r3)
      exact ⟨.st pvs, by simpa using this, .st r2⟩
    · simp at h2

theorem args_rep : ∀ {ts : List TypeId} {ps : List PSh} {vs : List Value} {ds : List (DataW H)} {q : List MemPlace}, okPShs P ts ps = true → (∀ (j : Nat) (t : TypeId) (v : Value), ts[j]? = some t → vs[j]? = some v → Value.okWide P W .any 0 t v) →
    DataW.TrodAll enc P W 0 (fun _ => true) true ts vs ds q → ∃ xs, RepL W (lmOf W) xs vs ∧ WTAs ps xs
  | [], [], vs, ds, q, hok, hv, h => by
    obtain ⟨rfl, _, _⟩ := trodAll_nil h
    exact ⟨[], .nil, .nil⟩
  | [], p :: ps, vs, ds, q, hok, hv, h => by simp [okPShs] at hok
  | t :: ts, [], vs, ds, q, hok, hv, h => by simp [okPShs] at hok
  | t :: ts, p :: ps, vs, ds, q, hok, hv, h => by
    simp only [okPShs, Bool.and_eq_true] at hok
    obtain ⟨v, vs', d, ds', p1, q1, rfl, rfl, rfl, h1, h2⟩ := trodAll_cons h
    obtain ⟨x, a1, a2⟩ := arg_rep hok.1 (hv 0 t v rfl rfl) h1
    obtain ⟨xs, b1, b2⟩ := args_rep hok.2 (fun j t' v' ht hv' => hv (j + 1) t' v' (by simpa using ht) (by simpa using hv')) h2
    exact ⟨x :: xs, .cons a1 b1, .cons a2 b2⟩

/-- The arguments, read again behind the call. -/
theorem args_back {W' : World} (hl : laidOutB P = true) (hb : Below W.heap.size W W') : ∀ {ts : List TypeId} {ps : List PSh} {vs : List Value} {ds : List (DataW H)} {q : List MemPlace}, okPShs P ts ps = true →
    DataW.TrodAll enc P W 0 (fun _ => true) true ts vs ds q → DataW.TrodAll enc P W' 0 (fun b => decide (b < W.heap.size)) true ts vs ds q
  | [], [], vs, ds, q, hok, h => by
    obtain ⟨rfl, rfl, rfl⟩ := trodAll_nil h
    exact trodAll_mk0
  | [], p :: ps, vs, ds, q, hok, h => by simp [okPShs] at hok
  | t :: ts, [], vs, ds, q, hok, h => by simp [okPShs] at hok
  | t :: ts, p :: ps, vs, ds, q, hok, h => by
    simp only [okPShs, Bool.and_eq_true] at hok
    have hlt := h.lt
    obtain ⟨v, vs', d, ds', p1, q1, rfl, rfl, rfl, h1, h2⟩ := trodAll_cons h
    have hp := hok.1
    simp only [okPSh, Bool.and_eq_true, decide_eq_true_eq] at hp
    exact trodAll_cons_mk (Below.trod hl hp.1.1 hp.1.2 h1 hb fun x hx => hlt x (by simp [hx])) (args_back hl hb hok.2 h2)

/-- The call of a law that comes to true. -/
theorem law_call {E : Env} (hE : EnvOk P E) {f : FuncId} {args : Array Value} {xs : List PV} (hr : RepL W (lmOf W) xs args.toList) (h : Run E f xs = some (.val (.sc (.bool true)))) :
    Calls P f args W fun e W' => e = .returned (.bool true) ∧ Below W.heap.size W W' := by
  have h1 := (run_sound hE h).1 W (lmOf W) args.toList hr
  rw [Array.toArray_toList] at h1
  refine Calls.mono h1 fun e W' he => ?_
  obtain ⟨u, lm', rfl, hb, _, hrr⟩ := he
  refine ⟨?_, hb⟩
  have : u = .bool true := rep_bool hrr
  rw [this]
end
end Go.Proofs.Ytihgpnfkadldeaa.AM
