/- Which text of the small machine stands for which of Go's operations, and that it serves. No condition. -/
import Derived.Test.YtihgpnfkadldeaaAMC
namespace Go.Proofs.Ytihgpnfkadldeaa.AM
open Go Go.RowKit
set_option linter.unusedVariables false
set_option linter.unusedSimpArgs false

def isSl (P : Program) (t el : TypeId) : Bool := match P.underlying t with | some (.slice e) => e == el | _ => false
def isStr (P : Program) (t : TypeId) : Bool := match P.underlying t with | some .string => true | _ => false
theorem isSl_sound {P : Program} {t el : TypeId} (h : isSl P t el = true) : P.underlying t = some (.slice el) := by
  unfold isSl at h
  split at h
  · rename_i e he
    rw [he]; simp at h; rw [h]
  · simp at h
theorem isStr_sound {P : Program} {t : TypeId} (h : isStr P t = true) : P.underlying t = some .string := by
  unfold isStr at h
  split at h
  · assumption
  · simp at h

def zeroOf (P : Program) (e : TypeId) : Option Value := (P.info? e).bind (·.zero)
def zeroCellsOf (P : Program) (el : TypeId) (n : Nat) : Array Value := if n = 0 then #[] else ((zeroOf P el).getD .nilFunc).cells

def okS1 (P : Program) (op : Op) (so : SOp) (y : X) : Bool := match so, op with
  | .un u, .unOp u' _ x => decide (u' = u) && okX x y
  | .cv k, .convert t1 t2 x => (P.underlying t1).isSome && (match P.underlying t2 with | some (.int k') => decide (k' = k) | _ => false) && okX x y
  | .i2s, .convert t1 t2 x => (P.underlying t1).isSome && isStr P t2 && okX x y
  | .s2s, .convert t1 t2 x => (P.underlying t1).isSome && isStr P t2 && okX x y
  | _, _ => false
def okS2 (P : Program) (op : Op) (so : SOp) (y1 y2 : X) : Bool := match so, op with
  | .bin b, .binOp b' _ x1 x2 _ => decide (b' = b) && okX x1 y1 && okX x2 y2
  | .idx, .index t x1 x2 => isStr P t && okX x1 y1 && okX x2 y2
  | .beq ne, .binOp b t x1 x2 _ => decide (b = if ne then .neq else .eql) && (match P.underlying t with | some .bool => true | _ => false) && okX x1 y1 && okX x2 y2
  | .peq ne, .binOp b t x1 x2 _ => decide (b = if ne then .neq else .eql) && (match P.underlying t with | some (.pointer _) => true | _ => false) && okX x1 y1 && okX x2 y2
  | _, _ => false

def okBlt (P : Program) (c : Go.Call) (ao : AOp) : Bool := match c.callee, c.args.toList, c.argTypes.toList, ao with
  | .builtin .len, [x], [t], .len y => (match P.underlying t with | some (.slice _) => true | _ => false) && okX x y
  | .builtin .len, [x], [t], .lens y => isStr P t && okX x y
  | .builtin .append, [x, y], [t, t2], .app e k by_ x' y' => t2 == t && decide (0 < k) && isSl P t e && elOk P e k by_ && okX x x' && okX y y'
  | .builtin .append, [x, y], [t, t2], .apps e by_ x' y' => isSl P t e && isStr P t2 && elOk P e 1 by_ && okX x x' && okX y y'
  | .builtin .copy, [x, y], [t, _], .cpy k x' y' => decide (0 < k) && (match P.underlying t with | some (.slice e) => P.cellsOf e == k | _ => false) && okX x x' && okX y y'
  | .builtin .len, [x], [t], .lend y => (match P.underlying t with | some (.slice _) => true | _ => false) && okX x y
  | .builtin .copy, [x, y], [t, _], .cpyd k x' y' => decide (0 < k) && (match P.underlying t with | some (.slice e) => P.cellsOf e == k | _ => false) && okX x x' && okX y y'
  | .builtin .copy, [x, y], [t, _], .cpyo k x' y' => decide (0 < k) && (match P.underlying t with | some (.slice e) => P.cellsOf e == k | _ => false) && okX x x' && okX y y'
  | .builtin .max, xs, _, .mm true ys => okXs xs ys
  | .builtin .min, xs, _, .mm false ys => okXs xs ys
  | _, _, _, _ => false

def okA (P : Program) (op : Op) (ao : AOp) : Bool := match ao with
  | .mv y => (match op with | .move x => okX x y | .assign x => okX x y | _ => false)
  | .nl _ k => decide (0 < k) && (match op with | .move (.const (.slice none 0 0)) => true | .assign (.const (.slice none 0 0)) => true | _ => false)
  | .pick c' a' b' => (match op with | .pick c a b => okX c c' && okX a a' && okX b b' | _ => false)
  | .box e k y => (match op with | .box t x => t == e && decide (0 < k) && okX x y | _ => false)
  | .alloc e k rows => (match op with | .alloc t => t == e && decide (0 < k) && (match zeroOf P e with | some z => okZ z.cells.toList rows.flatten | none => false) && (rows.all fun c => c.length == k) && decide (rows.length ≤ 1000000) | _ => false)
  | .bld z qs => (match op with
    | .build t ps => (match P.underlying t, zeroOf P t with
      | some (.struct fs), some zv => okZ zv.cells.toList z && sizesOk P fs.toList && okPs (fun i => (fs[i]?).map fun f => (f.offset, P.cellsOf f.type)) ps.toList qs
      | _, _ => false)
    | _ => false)
  | .bldp z qs => (match op with
    | .build t ps => (match P.underlying t, zeroOf P t with
      | some (.struct fs), some zv => okZ zv.cells.toList z && sizesOk P fs.toList && okPs (fun i => (fs[i]?).map fun f => (f.offset, P.cellsOf f.type)) ps.toList qs
      | _, _ => false)
    | _ => false)
  | .bsl el k z qs => (match op with
    | .buildSlice t n ps => isSl P t el && decide (0 < k) && P.cellsOf el == k && z.length == n && (z.all fun c => c.length == k) && decide (n * k ≤ 16777216) && (decide (n * k = 0) || (zeroOf P el).isSome) && okZ (zeroRow (zeroCellsOf P el (n * k)) (n * k)).toList z.flatten && okRs k ps.toList qs
    | _ => false)
  | .bslp el k z qs => (match op with
    | .buildSlice t n ps => isSl P t el && decide (0 < k) && P.cellsOf el == k && z.length == n && (z.all fun c => c.length == k) && decide (n * k ≤ 16777216) && (decide (n * k = 0) || (zeroOf P el).isSome) && okZ (zeroRow (zeroCellsOf P el (n * k)) (n * k)).toList z.flatten && okRs k ps.toList qs
    | _ => false)
  | .iad k y j => (match op with | .indexAddr t x i => (match P.underlying t with | some (.slice e) => P.cellsOf e == k | _ => false) && decide (0 < k) && okX x y && okX i j | _ => false)
  | .fad y off => (match op with
    | .fieldAddr t x i => (match P.underlying t with | some (.struct fs) => (match fs[i]? with | some f => f.offset == off && decide (0 < P.cellsOf f.type) | none => false) | _ => false) && okX x y
    | _ => false)
  | .ld1d y => (match op with | .load t x => decide (aggT P t = some false) && okX x y | _ => false)
  | .ld1o y => (match op with | .load t x => decide (aggT P t = some false) && okX x y | _ => false)
  | .sto1o x' y' => (match op with | .store t x y => P.cellsOf t == 1 && okX x x' && okX y y' | _ => false)
  | .stod x' y' => (match op with | .store t x y => P.cellsOf t == 1 && okX x x' && okX y y' | _ => false)
  | .sbn T _ => (match op with | .alloc t => t == T && (match zeroOf P T with | some z => (match z.cells.toList with | [.pointer none, .slice none 0 0] => true | _ => false) | none => false) | _ => false)
  | .mvs y _ => (match op with | .move x => okX x y | .assign x => okX x y | _ => false)
  | .iap k y j => (match op with | .indexAddr t x i => (match P.underlying t with | some (.slice e) => P.cellsOf e == k | _ => false) && decide (0 < k) && okX x y && okX i j | _ => false)
  | .ldp1 y => (match op with | .load t x => decide (aggT P t = some false) && okX x y | _ => false)
  | .ldpk k y => (match op with | .load t x => decide (aggT P t = some true) && P.cellsOf t == k && decide (0 < k) && okX x y | _ => false)
  | .mvp y => (match op with | .move x => okX x y | .assign x => okX x y | _ => false)
  | .ld1 y => (match op with | .load t x => decide (aggT P t = some false) && okX x y | _ => false)
  | .ldk k y => (match op with | .load t x => decide (aggT P t = some true) && P.cellsOf t == k && decide (0 < k) && okX x y | _ => false)
  | .sto k x' y' => (match op with | .store t x y => P.cellsOf t == k && decide (0 < k) && okX x x' && okX y y' | _ => false)
  | .s1 so y => okS1 P op so y
  | .s2 so y1 y2 => okS2 P op so y1 y2
  | .eqst ne ks y1 y2 => (match op with
    | .binOp b t x1 x2 _ => decide (b = if ne then .neq else .eql) && (match P.underlying t with | some (.struct fs) => okFs P 0 ks fs.toList | _ => false) && !P.stoodInHeld t && !P.eqGuardType P.depth t && okX x1 y1 && okX x2 y2
    | _ => false)
  | .nck y => (match op with | .nilCheck x => okX x y | _ => false)
  | .mki t y => (match op with | .makeInterface t' x => t' == t && (match P.underlying t with | some (.interface _) => false | some _ => true | none => false) && okX x y | _ => false)
  | .fld1 y off => (match op with
    | .field t x i => (match P.underlying t with | some (.struct fs) => (match fs[i]? with | some f => f.offset == off && decide (aggT P f.type = some false) | none => false) | _ => false) && okX x y
    | _ => false)
  | .fldk y off k => (match op with
    | .field t x i => (match P.underlying t with | some (.struct fs) => (match fs[i]? with | some f => f.offset == off && decide (aggT P f.type = some true) && P.cellsOf f.type == k && decide (0 < k) | none => false) | _ => false) && okX x y
    | _ => false)
  | .ixa k m y j => (match op with | .index t x i => (match P.underlying t with | some (.array m' e) => m' == m && decide (aggT P e = some true) && P.cellsOf e == k | _ => false) && decide (0 < k) && okX x y && okX i j | _ => false)
  | .fa y off => (match op with
    | .fieldAddr t x i => (match P.underlying t with | some (.struct fs) => (match fs[i]? with | some f => f.offset == off && decide (0 < P.cellsOf f.type) | none => false) | _ => false) && okX x y
    | _ => false)
  | .ia k y j => (match op with | .indexAddr t x i => (match P.underlying t with | some (.slice e) => P.cellsOf e == k | _ => false) && decide (0 < k) && okX x y && okX i j | _ => false)
  | .aa k m y j => (match op with | .indexAddr t x i => (match P.underlying t with | some (.array m' e) => m' == m && P.cellsOf e == k | _ => false) && decide (0 < k) && okX x y && okX i j | _ => false)
  | .mkf f ys => (match op with | .makeFunc (.func f') first xs => f' == f && first.toList.isEmpty && okXs xs.toList ys | _ => false)
  | .mks e k by_ z x' y' => (match op with | .makeSlice t x y => isSl P t e && decide (0 < k) && elOk P e k by_ && (match zeroOf P e with | some z' => okZ z'.cells.toList z | none => false) && okX x x' && okX y y' | _ => false)
  | .slc k y lo' hi' mx' => (match op with | .slice t x lo hi mx => (match P.underlying t with | some (.slice e) => P.cellsOf e == k | _ => false) && decide (0 < k) && okX x y && okO lo lo' && okO hi hi' && okO mx mx' && (!mx.isSome || hi.isSome) | _ => false)
  | .sls y lo' hi' => (match op with | .slice t x lo hi none => isStr P t && okX x y && okO lo lo' && okO hi hi' | _ => false)
  | .rng y => (match op with | .range t x => isStr P t && okX x y | _ => false)
  | .nxt y => (match op with | .next x true => okX x y | _ => false)
  | .ext y i => (match op with | .extract x j => j == i && okX x y | _ => false)
  | .b2s y => (match op with | .convert t1 t2 x => (match P.underlying t1 with | some (.slice e) => (match P.underlying e with | some (.int .u8) => true | _ => false) | _ => false) && isStr P t2 && okX x y | _ => false)
  | ao => (match op with | .call c => okBlt P c ao | _ => false)

section
variable {P : Program} {base : Nat} {w0 : World} {lm0 : Nat → Nat} {N : Nat} {g : Gs} {a : Act} {w : World} {s : St} {o : Oper}

theorem ofList {α : Type} {x : Array α} {l : List α} (h : x.toList = l) : x = l.toArray := by rw [← h]

theorem blt_sound (S : Sim base w0 lm0 N g a w s) {c : Go.Call} {ao : AOp} {call : Call} {d : Nat} {e : Eff} (ho : o.op = .call c) (h : okBlt P c ao = true) (he : eff call s d ao = some e) : EffOK P base w0 lm0 N g a w s o e := by
  obtain ⟨cal, args, ts⟩ := c
  unfold okBlt at h
  dsimp only at h
  split at h
  · rename_i x t y h2 h3
    rw [ofList h2, ofList h3] at ho
    simp only [Bool.and_eq_true] at h
    cases ht : P.underlying t with
    | none => rw [ht] at h; simp at h
    | some q =>
      rw [ht] at h
      cases q <;> simp at h
      exact eff_len S ho ht h he
  · rename_i x t y h2 h3
    rw [ofList h2, ofList h3] at ho
    simp only [Bool.and_eq_true] at h
    exact eff_lens S ho (isStr_sound h.1) h.2 he
  · rename_i x y t t2 e' k by_ x' y' h2 h3
    rw [ofList h2, ofList h3] at ho
    simp only [Bool.and_eq_true, decide_eq_true_eq, beq_iff_eq] at h
    obtain ⟨⟨⟨⟨⟨rfl, q1⟩, q2⟩, q3⟩, q4⟩, q5⟩ := h
    exact eff_app S q1 ho (isSl_sound q2) q3 q4 q5 he
  · rename_i x y t t2 e' by_ x' y' h2 h3
    rw [ofList h2, ofList h3] at ho
    simp only [Bool.and_eq_true] at h
    obtain ⟨⟨⟨⟨q1, q2⟩, q3⟩, q4⟩, q5⟩ := h
    exact eff_apps S ho (isSl_sound q1) (isStr_sound q2) q3 q4 q5 he
  · rename_i x y t t2 k x' y' h2 h3
    rw [ofList h2, ofList h3] at ho
    simp only [Bool.and_eq_true, decide_eq_true_eq] at h
    obtain ⟨⟨⟨q1, q2⟩, q3⟩, q4⟩ := h
    cases ht : P.underlying t with
    | none => rw [ht] at q2; simp at q2
    | some q =>
      rw [ht] at q2
      cases q <;> simp at q2
      exact eff_cpy S q1 ho ht q2 q3 q4 he
  · rename_i x t y h2 h3
    rw [ofList h2, ofList h3] at ho
    simp only [Bool.and_eq_true] at h
    cases ht : P.underlying t with
    | none => rw [ht] at h; simp at h
    | some q =>
      rw [ht] at h
      cases q <;> simp at h
      exact eff_lend S ho ht h he
  · rename_i x y t t2 k x' y' h2 h3
    rw [ofList h2, ofList h3] at ho
    simp only [Bool.and_eq_true, decide_eq_true_eq] at h
    obtain ⟨⟨⟨q1, q2⟩, q3⟩, q4⟩ := h
    cases ht : P.underlying t with
    | none => rw [ht] at q2; simp at q2
    | some q =>
      rw [ht] at q2
      cases q <;> simp at q2
      exact eff_cpyd S q1 ho ht q2 q3 q4 he
  · rename_i x y t t2 k x' y' h2 h3
    rw [ofList h2, ofList h3] at ho
    simp only [Bool.and_eq_true, decide_eq_true_eq] at h
    obtain ⟨⟨⟨q1, q2⟩, q3⟩, q4⟩ := h
    cases ht : P.underlying t with
    | none => rw [ht] at q2; simp at q2
    | some q =>
      rw [ht] at q2
      cases q <;> simp at q2
      exact eff_cpyo S q1 ho ht q2 q3 q4 he
  · exact eff_mm S (mx := true) (xs := args.toList) (by simpa using ho) h he
  · exact eff_mm S (mx := false) (xs := args.toList) (by simpa using ho) h he
  · simp at h

theorem s1_sound (S : Sim base w0 lm0 N g a w s) {so : SOp} {y : X} {call : Call} {d : Nat} {e : Eff} (h : okS1 P o.op so y = true) (he : eff call s d (.s1 so y) = some e) : EffOK P base w0 lm0 N g a w s o e := by
  simp only [eff] at he
  split at he
  · rename_i z hv
    cases hr : sop1 so z with
    | none => rw [hr] at he; simp [uns] at he
    | some r =>
      rw [hr] at he
      simp only [uns, Option.some.injEq] at he
      subst he
      unfold okS1 at h
      split at h
      · rename_i u u' t x ho
        simp only [Bool.and_eq_true, decide_eq_true_eq] at h
        exact eff_un S ho h.1 h.2 hv hr
      · rename_i k t1 t2 x ho
        simp only [Bool.and_eq_true] at h
        obtain ⟨⟨q1, q2⟩, q3⟩ := h
        obtain ⟨d1, hd1⟩ := Option.isSome_iff_exists.1 q1
        cases ht : P.underlying t2 with
        | none => rw [ht] at q2; simp at q2
        | some q =>
          rw [ht] at q2
          cases q <;> simp at q2
          subst q2
          exact eff_cv S ho hd1 ht q3 hv hr
      · rename_i t1 t2 x ho
        simp only [Bool.and_eq_true] at h
        obtain ⟨⟨q1, q2⟩, q3⟩ := h
        obtain ⟨d1, hd1⟩ := Option.isSome_iff_exists.1 q1
        exact eff_i2s S ho hd1 (isStr_sound q2) q3 hv hr
      · rename_i t1 t2 x ho
        simp only [Bool.and_eq_true] at h
        obtain ⟨⟨q1, q2⟩, q3⟩ := h
        obtain ⟨d1, hd1⟩ := Option.isSome_iff_exists.1 q1
        exact eff_s2s S ho hd1 (isStr_sound q2) q3 hv hr
      · simp at h
  · simp at he

theorem s2_sound (S : Sim base w0 lm0 N g a w s) {so : SOp} {y1 y2 : X} {call : Call} {d : Nat} {e : Eff} (h : okS2 P o.op so y1 y2 = true) (he : eff call s d (.s2 so y1 y2) = some e) : EffOK P base w0 lm0 N g a w s o e := by
  have plain : (∀ ne, so ≠ .peq ne) → ∃ z1 z2 r, y1.ev s = some (.p z1) ∧ y2.ev s = some (.p z2) ∧ sop2 so z1 z2 = some r ∧ e = ⟨.p r, []⟩ := by
    intro hne
    simp only [eff] at he
    split at he
    · rename_i z1 z2 hv1 hv2
      cases hr : sop2 so z1 z2 with
      | none => rw [hr] at he; simp [uns] at he
      | some r =>
        rw [hr] at he
        simp only [uns, Option.some.injEq] at he
        exact ⟨z1, z2, r, hv1, hv2, hr, he.symm⟩
    · exfalso
      cases so <;> first | (simp at he; done) | exact hne _ rfl
    · simp at he
  unfold okS2 at h
  split at h
  · rename_i b b' t x1 x2 ty ho
    simp only [Bool.and_eq_true, decide_eq_true_eq] at h
    obtain ⟨⟨rfl, q2⟩, q3⟩ := h
    obtain ⟨z1, z2, r, hv1, hv2, hr, rfl⟩ := plain (by simp)
    exact eff_bin S ho q2 q3 hv1 hv2 hr
  · rename_i t x1 x2 ho
    simp only [Bool.and_eq_true] at h
    obtain ⟨⟨q1, q2⟩, q3⟩ := h
    obtain ⟨z1, z2, r, hv1, hv2, hr, rfl⟩ := plain (by simp)
    exact eff_idx S ho (isStr_sound q1) q2 q3 hv1 hv2 hr
  · rename_i ne b t x1 x2 ty ho
    simp only [Bool.and_eq_true, decide_eq_true_eq] at h
    obtain ⟨⟨⟨q0, q1⟩, q2⟩, q3⟩ := h
    obtain ⟨z1, z2, r, hv1, hv2, hr, rfl⟩ := plain (by simp)
    cases ht : P.underlying t with
    | none => rw [ht] at q1; simp at q1
    | some q =>
      rw [ht] at q1
      cases q <;> simp at q1
      exact eff_beq S q0 ho ht q2 q3 hv1 hv2 hr
  · rename_i ne b t x1 x2 ty ho
    simp only [Bool.and_eq_true, decide_eq_true_eq] at h
    obtain ⟨⟨⟨q0, q1⟩, q2⟩, q3⟩ := h
    cases ht : P.underlying t with
    | none => rw [ht] at q1; simp at q1
    | some q =>
      rw [ht] at q1
      cases q <;> simp at q1
      exact eff_peq S q0 ho ht q2 q3 he
  · simp at h

theorem all_len {k : Nat} {l : List (List PV)} (h : (l.all fun c => c.length == k) = true) : ∀ c ∈ l, c.length = k := by
  intro c hc
  have := List.all_eq_true.1 h c hc
  simpa using this

theorem eff_sound (S : Sim base w0 lm0 N g a w s) {ao : AOp} {call : Call} {d : Nat} {e : Eff} (h : okA P o.op ao = true) (he : eff call s d ao = some e) : EffOK P base w0 lm0 N g a w s o e := by
  cases ao
  case mv y =>
    simp only [eff] at he
    cases hv : y.ev s with
    | none => rw [hv] at he; simp at he
    | some v =>
      rw [hv] at he
      simp only [Option.some.injEq] at he
      subst he
      simp only [okA] at h
      split at h
      · rename_i x ho; exact eff_mv S (.inl ho) h hv
      · rename_i x ho; exact eff_mv S (.inr ho) h hv
      · simp at h
  case nl e' k =>
    simp only [okA, Bool.and_eq_true, decide_eq_true_eq] at h
    obtain ⟨h0, h⟩ := h
    split at h
    · rename_i ho; exact eff_nl S h0 (.inl ho) he
    · rename_i ho; exact eff_nl S h0 (.inr ho) he
    · simp at h
  case pick c' a' b' =>
    simp only [okA] at h
    split at h
    · rename_i c x y ho
      simp only [Bool.and_eq_true] at h
      obtain ⟨⟨q1, q2⟩, q3⟩ := h
      simp only [eff] at he
      split at he
      · rename_i b v1 v2 h1 h2 h3
        simp only [Option.some.injEq] at he
        subst he
        exact eff_pick S ho q1 q2 q3 h1 h2 h3
      · simp at he
    · simp at h
  case box e' k y =>
    simp only [okA] at h
    split at h
    · rename_i t x ho
      simp only [Bool.and_eq_true, decide_eq_true_eq, beq_iff_eq] at h
      obtain ⟨⟨rfl, q2⟩, q3⟩ := h
      exact eff_box S q2 ho q3 he
    · simp at h
  case alloc e' k rows =>
    simp only [okA] at h
    split at h
    · rename_i t ho
      simp only [Bool.and_eq_true, decide_eq_true_eq, beq_iff_eq] at h
      obtain ⟨⟨⟨⟨rfl, q2⟩, q3⟩, q4⟩, q5⟩ := h
      cases hz : zeroOf P t with
      | none => rw [hz] at q3; simp at q3
      | some z =>
        rw [hz] at q3
        exact eff_alloc S q2 ho hz q3 (all_len q4) (by simp only [maxLen]; omega) he
    · simp at h
  case bld z qs =>
    simp only [okA] at h
    split at h
    · rename_i t ps ho
      split at h
      · rename_i fs zv ht hz
        simp only [Bool.and_eq_true] at h
        obtain ⟨⟨q1, q2⟩, q3⟩ := h
        exact eff_bld_struct S ho ht hz q1 q2 q3 he
      · simp at h
    · simp at h
  case bldp z qs =>
    have he' : eff call s d (.bld z qs) = some e := by
      simp only [eff] at he ⊢
      cases hv0 : evp s (qs.map fun q => q.2.2) with
      | none => rw [hv0] at he; simp at he
      | some ys =>
        rw [hv0] at he
        dsimp only at he
        obtain ⟨q1, q2⟩ := evp_evs hv0
        rw [q1]
        dsimp only
        rw [q2 s.h]
        exact he
    simp only [okA] at h
    split at h
    · rename_i t ps ho
      split at h
      · rename_i fs zv ht hz
        simp only [Bool.and_eq_true] at h
        obtain ⟨⟨q1, q2⟩, q3⟩ := h
        exact eff_bld_struct S ho ht hz q1 q2 q3 he'
      · simp at h
    · simp at h
  case bsl el k z qs =>
    simp only [okA] at h
    split at h
    · rename_i t n ps ho
      simp only [Bool.and_eq_true, decide_eq_true_eq, beq_iff_eq, Bool.or_eq_true] at h
      obtain ⟨⟨⟨⟨⟨⟨⟨⟨q1, q2⟩, q3⟩, q4⟩, q5⟩, q6⟩, q7⟩, q8⟩, q9⟩ := h
      exact eff_bsl S q2 ho (isSl_sound q1) q3 q4 (all_len q5) rfl q7 q8 q6 q9 he
    · simp at h
  case bslp el k z qs =>
    simp only [okA] at h
    split at h
    · rename_i t n ps ho
      simp only [Bool.and_eq_true, decide_eq_true_eq, beq_iff_eq, Bool.or_eq_true] at h
      obtain ⟨⟨⟨⟨⟨⟨⟨⟨q1, q2⟩, q3⟩, q4⟩, q5⟩, q6⟩, q7⟩, q8⟩, q9⟩ := h
      exact eff_bslp S q2 ho (isSl_sound q1) q3 q4 (all_len q5) rfl q7 q8 q6 q9 he
    · simp at h
  case iad k y j =>
    simp only [okA] at h
    split at h
    · rename_i t x i ho
      simp only [Bool.and_eq_true, decide_eq_true_eq] at h
      obtain ⟨⟨⟨q1, q2⟩, q3⟩, q4⟩ := h
      split at q1
      · rename_i e' ht
        exact eff_iad S ho ht (by simpa using q1) q2 q3 q4 he
      · simp at q1
    · simp at h
  case fad y off =>
    simp only [okA] at h
    split at h
    · rename_i t x i ho
      simp only [Bool.and_eq_true] at h
      obtain ⟨q1, q2⟩ := h
      split at q1
      · rename_i fs ht
        split at q1
        · rename_i f hf
          simp only [Bool.and_eq_true, decide_eq_true_eq, beq_iff_eq] at q1
          exact eff_fad S ho ht hf q1.1 q1.2 q2 he
        · simp at q1
      · simp at q1
    · simp at h
  case ld1d y =>
    simp only [okA] at h
    split at h
    · rename_i t x ho
      simp only [Bool.and_eq_true, decide_eq_true_eq] at h
      exact eff_ld1d S ho h.1 h.2 he
    · simp at h
  case ld1o y =>
    simp only [okA] at h
    split at h
    · rename_i t x ho
      simp only [Bool.and_eq_true, decide_eq_true_eq] at h
      exact eff_ld1o S ho h.1 h.2 he
    · simp at h
  case sto1o x' y' =>
    simp only [okA] at h
    split at h
    · rename_i t x y ho
      simp only [Bool.and_eq_true, beq_iff_eq] at h
      exact eff_sto1o S ho h.1.1 h.1.2 h.2 he
    · simp at h
  case stod x' y' =>
    simp only [okA] at h
    split at h
    · rename_i t x y ho
      simp only [Bool.and_eq_true, beq_iff_eq] at h
      exact eff_stod S ho h.1.1 h.1.2 h.2 he
    · simp at h
  case sbn T e1 =>
    simp only [okA] at h
    split at h
    · rename_i t ho
      simp only [Bool.and_eq_true, beq_iff_eq] at h
      obtain ⟨rfl, h2⟩ := h
      cases hz : zeroOf P t with
      | none => rw [hz] at h2; simp at h2
      | some z =>
        rw [hz] at h2
        dsimp only at h2
        split at h2
        · rename_i hzc
          exact eff_sbn S ho hz (by apply Array.ext'; rw [hzc]) he
        · simp at h2
    · simp at h
  case mvs y z =>
    simp only [okA] at h
    split at h
    · rename_i x ho; exact eff_mvs S (.inl ho) h he
    · rename_i x ho; exact eff_mvs S (.inr ho) h he
    · simp at h
  case iap k y j =>
    have he' : eff call s d (.ia k y j) = some e := by
      simp only [eff] at he ⊢
      split at he
      · rename_i h1 h2; rw [h1, h2]; exact he
      · simp at he
    simp only [okA] at h
    split at h
    · rename_i t x i ho
      simp only [Bool.and_eq_true, decide_eq_true_eq] at h
      obtain ⟨⟨⟨q1, q2⟩, q3⟩, q4⟩ := h
      split at q1
      · rename_i e' ht
        exact eff_ia S ho ht (by simpa using q1) q2 q3 q4 he'
      · simp at q1
    · simp at h
  case ldp1 y =>
    have he' : eff call s d (.ld1 y) = some e := by
      simp only [eff] at he ⊢
      split at he
      · rename_i h1; rw [h1]; exact he
      · simp at he
    simp only [okA] at h
    split at h
    · rename_i t x ho
      simp only [Bool.and_eq_true, decide_eq_true_eq] at h
      exact eff_ld1 S ho h.1 h.2 he'
    · simp at h
  case ldpk k y =>
    have he' : eff call s d (.ldk k y) = some e := by
      simp only [eff] at he ⊢
      split at he
      · rename_i h1; rw [h1]; exact he
      · simp at he
    simp only [okA] at h
    split at h
    · rename_i t x ho
      simp only [Bool.and_eq_true, decide_eq_true_eq, beq_iff_eq] at h
      obtain ⟨⟨⟨q1, q2⟩, q3⟩, q4⟩ := h
      exact eff_ldk S ho q1 q2 q3 q4 he'
    · simp at h
  case mvp y =>
    simp only [eff] at he
    cases hv : y.ev s with
    | none => rw [hv] at he; simp at he
    | some v =>
      rw [hv] at he
      dsimp only at he
      cases hf : frz s.h v with
      | none => rw [hf] at he; simp at he
      | some q =>
        obtain ⟨z, fr⟩ := q
        rw [hf] at he
        simp only [Option.some.injEq] at he
        subst he
        simp only [okA] at h
        split at h
        · rename_i x ho
          exact EffOK.frz S (okX_sound S h hv) hf (u := a.eval x) (by simp [execOp, ho]) (fun lm' h => h)
        · rename_i x ho
          exact EffOK.frz S (okX_sound S h hv) hf (u := a.eval x) (by simp [execOp, ho]) (fun lm' h => h)
        · simp at h
  case ld1 y =>
    simp only [okA] at h
    split at h
    · rename_i t x ho
      simp only [Bool.and_eq_true, decide_eq_true_eq] at h
      exact eff_ld1 S ho h.1 h.2 he
    · simp at h
  case ldk k y =>
    simp only [okA] at h
    split at h
    · rename_i t x ho
      simp only [Bool.and_eq_true, decide_eq_true_eq, beq_iff_eq] at h
      obtain ⟨⟨⟨q1, q2⟩, q3⟩, q4⟩ := h
      exact eff_ldk S ho q1 q2 q3 q4 he
    · simp at h
  case sto k x' y' =>
    simp only [okA] at h
    split at h
    · rename_i t x y ho
      simp only [Bool.and_eq_true, decide_eq_true_eq, beq_iff_eq] at h
      obtain ⟨⟨⟨q1, q2⟩, q3⟩, q4⟩ := h
      exact eff_sto S q2 ho q1 q3 q4 he
    · simp at h
  case s1 so y => exact s1_sound S h he
  case s2 so y1 y2 => exact s2_sound S h he
  case eqst ne ks y1 y2 =>
    simp only [okA] at h
    split at h
    · rename_i b t x1 x2 ty ho
      simp only [Bool.and_eq_true, decide_eq_true_eq, Bool.not_eq_true'] at h
      obtain ⟨⟨⟨⟨⟨q1, q2⟩, q3⟩, q4⟩, q5⟩, q6⟩ := h
      cases ht : P.underlying t with
      | none => rw [ht] at q2; simp at q2
      | some q =>
        rw [ht] at q2
        cases q <;> simp at q2
        exact eff_eqst S q1 ho ht q2 q3 q4 q5 q6 he
    · simp at h
  case nck y =>
    simp only [okA] at h
    split at h
    · rename_i x ho; exact eff_nck S ho h he
    · simp at h
  case mki t y =>
    simp only [okA] at h
    split at h
    · rename_i t' x ho
      simp only [Bool.and_eq_true, beq_iff_eq] at h
      obtain ⟨⟨rfl, q2⟩, q3⟩ := h
      cases ht : P.underlying t' with
      | none => rw [ht] at q2; simp at q2
      | some q =>
        rw [ht] at q2
        exact eff_mki S ho ht (fun ms hms => by rw [hms] at q2; simp at q2) q3 he
    · simp at h
  case fld1 y off =>
    simp only [okA] at h
    split at h
    · rename_i t x i ho
      simp only [Bool.and_eq_true] at h
      obtain ⟨q1, q2⟩ := h
      split at q1
      · rename_i fs ht
        split at q1
        · rename_i f hf
          simp only [Bool.and_eq_true, decide_eq_true_eq, beq_iff_eq] at q1
          exact eff_fld1 S ho ht hf q1.1 q1.2 q2 he
        · simp at q1
      · simp at q1
    · simp at h
  case ixa k m y j =>
    simp only [okA] at h
    split at h
    · rename_i t x i ho
      simp only [Bool.and_eq_true, decide_eq_true_eq] at h
      obtain ⟨⟨⟨q1, q2⟩, q3⟩, q4⟩ := h
      split at q1
      · rename_i m' e' ht
        simp only [Bool.and_eq_true, decide_eq_true_eq, beq_iff_eq] at q1
        obtain ⟨⟨rfl, p2⟩, p3⟩ := q1
        exact eff_ixa S ho ht p2 p3 q2 q3 q4 he
      · simp at q1
    · simp at h
  case fldk y off k =>
    simp only [okA] at h
    split at h
    · rename_i t x i ho
      simp only [Bool.and_eq_true] at h
      obtain ⟨q1, q2⟩ := h
      split at q1
      · rename_i fs ht
        split at q1
        · rename_i f hf
          simp only [Bool.and_eq_true, decide_eq_true_eq, beq_iff_eq] at q1
          obtain ⟨⟨⟨p1, p2⟩, p3⟩, p4⟩ := q1
          exact eff_fldk S ho ht hf p1 p2 p3 p4 q2 he
        · simp at q1
      · simp at q1
    · simp at h
  case fa y off =>
    simp only [okA] at h
    split at h
    · rename_i t x i ho
      simp only [Bool.and_eq_true] at h
      obtain ⟨q1, q2⟩ := h
      split at q1
      · rename_i fs ht
        split at q1
        · rename_i f hf
          simp only [Bool.and_eq_true, decide_eq_true_eq, beq_iff_eq] at q1
          exact eff_fa S ho ht hf q1.1 q1.2 q2 he
        · simp at q1
      · simp at q1
    · simp at h
  case ia k y j =>
    simp only [okA] at h
    split at h
    · rename_i t x i ho
      simp only [Bool.and_eq_true, decide_eq_true_eq] at h
      obtain ⟨⟨⟨q1, q2⟩, q3⟩, q4⟩ := h
      split at q1
      · rename_i e' ht
        exact eff_ia S ho ht (by simpa using q1) q2 q3 q4 he
      · simp at q1
    · simp at h
  case aa k m y j =>
    simp only [okA] at h
    split at h
    · rename_i t x i ho
      simp only [Bool.and_eq_true, decide_eq_true_eq] at h
      obtain ⟨⟨⟨q1, q2⟩, q3⟩, q4⟩ := h
      split at q1
      · rename_i m' e' ht
        simp only [Bool.and_eq_true, beq_iff_eq] at q1
        obtain ⟨rfl, q5⟩ := q1
        exact eff_aa S ho ht q5 q2 q3 q4 he
      · simp at q1
    · simp at h
  case mkf f ys =>
    simp only [okA] at h
    split at h
    · rename_i f' first xs ho
      simp only [Bool.and_eq_true, beq_iff_eq] at h
      obtain ⟨⟨rfl, q2⟩, q3⟩ := h
      have : first = #[] := by simpa using q2
      subst this
      exact eff_mkf S (xs := xs.toList) (by simpa using ho) q3 he
    · simp at h
  case mks e' k by_ z x' y' =>
    simp only [okA] at h
    split at h
    · rename_i t x y ho
      simp only [Bool.and_eq_true, decide_eq_true_eq] at h
      obtain ⟨⟨⟨⟨⟨q1, q2⟩, q3⟩, q4⟩, q5⟩, q6⟩ := h
      cases hz : zeroOf P e' with
      | none => rw [hz] at q4; simp at q4
      | some zv =>
        rw [hz] at q4
        exact eff_mks S q2 ho (isSl_sound q1) q3 hz q4 q5 q6 he
    · simp at h
  case slc k y lo' hi' mx' =>
    simp only [okA] at h
    split at h
    · rename_i t x lo hi mx ho
      simp only [Bool.and_eq_true, decide_eq_true_eq] at h
      obtain ⟨⟨⟨⟨⟨⟨q1, q2⟩, q3⟩, q4⟩, q5⟩, q6⟩, q7⟩ := h
      split at q1
      · rename_i e' ht
        exact eff_slc S ho ht (by simpa using q1) q2 q3 q4 q5 q6 (fun hm => by rw [hm] at q7; simpa using q7) he
      · simp at q1
    · simp at h
  case sls y lo' hi' =>
    simp only [okA] at h
    split at h
    · rename_i t x lo hi ho
      simp only [Bool.and_eq_true] at h
      obtain ⟨⟨⟨q1, q2⟩, q3⟩, q4⟩ := h
      exact eff_sls S ho (isStr_sound q1) q2 q3 q4 he
    · simp at h
  case rng y =>
    simp only [okA] at h
    split at h
    · rename_i t x ho
      simp only [Bool.and_eq_true] at h
      exact eff_rng S ho (isStr_sound h.1) h.2 he
    · simp at h
  case nxt y =>
    simp only [okA] at h
    split at h
    · rename_i x ho; exact eff_nxt S ho h he
    · simp at h
  case ext y i =>
    simp only [okA] at h
    split at h
    · rename_i x j ho
      simp only [Bool.and_eq_true, beq_iff_eq] at h
      obtain ⟨rfl, q2⟩ := h
      exact eff_ext S ho q2 he
    · simp at h
  case b2s y =>
    simp only [okA] at h
    split at h
    · rename_i t1 t2 x ho
      simp only [Bool.and_eq_true] at h
      obtain ⟨⟨q1, q2⟩, q3⟩ := h
      split at q1
      · rename_i e' ht
        split at q1
        · rename_i hu; exact eff_b2s S ho ht (isStr_sound q2) hu q3 he
        · simp at q1
      · simp at q1
    · simp at h
  all_goals
    simp only [okA] at h
    split at h
    · rename_i c ho; exact blt_sound S ho h he
    · simp at h
end
end Go.Proofs.Ytihgpnfkadldeaa.AM
