/- Functions walked by hand for the small machine: slices.Clone, utf.forms; and the table of what is told by hand. No condition. -/
import Derived.Test.YtihgpnfkadldeaaAMS2
import Derived.Test.YtihgpnfkadldeaaAMS3
import Derived.Lib.SliceRun
namespace Go.Proofs.Ytihgpnfkadldeaa.AM
open Go.RowKit
set_option linter.unusedVariables false
set_option linter.unusedSimpArgs false

theorem app_wpList {ops : Array Oper} {rest : List Oper} {o : Oper} {a : Act} {Q : Exit → Act → World → Prop} {w : World} {P : Program} {t e : TypeId} {k by_ : Nat} (ht : P.underlying t = some (.slice e)) (hel : elOk P e k by_ = true) (hgd : o.guard = none) (sl x : Operand) (ho : o.op = .call { callee := .builtin .append, args := #[sl, x], argTypes := #[t, t] })
    (B : Nat) (v : Value) (n : Nat) (xs : List Value) (hs : a.eval sl = v) (hown : w.ownsRow B e k v n xs) (ad : Option Addr) (m c : Nat) (news : List Value) (hx : a.eval x = .slice ad m c) (hl : news.length = m * k) (hnews : m = 0 ∨ ∃ a', ad = some a' ∧ ∀ j u, news[j]? = some u → w.cell? (a'.add j) = some u) (h1 : ∀ u ∈ news, u.oneCell' = true)
    (hby : (n + m) * by_ ≤ 140737488355328) (h63 : n + m ≤ 9223372036854775807) (hB : B ≤ w.heap.size)
    (h : ∀ v' w', w'.ownsRow B e k v' (n + m) (xs ++ news) → GrewAt w w' v v' → wpList P ops Q rest (a.put o.dst v') w') : wpList P ops Q (o :: rest) a w := by
  refine wpList_plain hgd fun K hK => ?_
  obtain ⟨i, z, hi, hz, hi1, hby1, hzs⟩ := elOk_sound hel
  obtain ⟨v', w', hr, h2, h3⟩ := run_app (P := P) (ty := o.type) (x := .slice ad m c) (m := m) (n := n) (news := news) ht ht (by simp) hi hz (by rw [hzs, hi1]) (by rw [hi1]; exact hown) (by rw [hi1]; exact hl) h1 (fun w' => rfl) (fun w' hw' => by
    rw [hi1]
    rcases hnews with rfl | ⟨a', rfl, hn⟩
    · have hn0 : news = [] := List.eq_nil_of_length_eq_zero (by rw [hl]; simp)
      subst hn0
      cases ad with
      | none => exact run_firstCells_none _ _ _ _ _
      | some a' => exact run_firstCells_some (w := w') (size := k) (n := 0) (b := a') (len := 0) (cap := c) (cs := []) (by simp) (fun j u hu => by simp at hu)
    · exact run_firstCells_some (w := w') (size := k) (n := m) (b := a') (len := m) (cap := c) (cs := news) hl (fun j u hu => (World.cell?_of_block (a := a'.add j) (by rw [hw'])).trans (hn j u hu))) (by simp only [maxLen]; omega) (by rw [hby1]; exact hby) hB
  rw [hi1] at h2
  unfold Oper.wp execOp
  simp only [ho, resolve, invoke, builtin, Sem.run_bind, Sem.run_pure, Result.andThen_ok, List.map_toArray, List.map_cons, List.map_nil, hs, hx, hr]
  exact hK _ _ (h v' w' h2 h3)

theorem grew_below {w w' : World} {v v' : Value} {B : Nat} (h : GrewAt w w' v v') (hB : B ≤ w.heap.size) (hv : ∀ b, blk v = some b → B ≤ b) : Below B w w' := by
  rcases h with ⟨h0, h1, h2, h3, h4, h5⟩ | ⟨_, h⟩
  · exact ⟨h1, h2, h3, by omega, fun k hk => h5 k fun e => by have := hv k e; omega⟩
  · exact h.mono hB

theorem clone_el : elOk Try.prog 45 2 16 = true := by decide +kernel
set_option maxHeartbeats 4000000 in
set_option maxRecDepth 100000 in
theorem clone_ok (l : List (List PV)) (hl : ∀ c ∈ l, c.length = 2) (hb : l.length * 16 ≤ 140737488355328) : CallOK' Try.prog 54 [.sl 2 l] (.own 45 2 l) := by
  intro w0 lm0 vs hvs
  cases hvs with
  | cons hv hn =>
  cases hn
  rename_i v
  have done : ∀ (w' : World) (v' : Value) (xs : List Value), Below w0.heap.size w0 w' → w'.ownsRow w0.heap.size 45 2 v' l.length xs → RepL w0 lm0 l.flatten xs → (∀ u ∈ xs, u.oneCell' = true) →
      ∃ u lm', Ending.returned v' = .returned u ∧ Below w0.heap.size w0 w' ∧ (∀ b, b < w0.heap.size → lm' b = lm0 b) ∧ RRep w0.heap.size w' lm' (.own 45 2 l) u := by
    intro w' v' xs h1 h2 h3 h4
    let lm' : Nat → Nat := fun b => if b < w0.heap.size then lm0 b else 0
    refine ⟨v', lm', rfl, h1, fun b hb => if_pos hb, by omega, hl, ⟨xs, h2, h3.ext (Ext.of_below h1 fun b hb => if_pos hb), h4⟩, fun b hb => if_neg ?_⟩
    have := (owns_block h2 hb).1
    omega
  obtain ⟨ad, n, cap, xs, rfl, hn, hxs, h1, hmem⟩ : ∃ ad n cap xs, v = .slice ad n cap ∧ n = l.length ∧ RepL w0 lm0 l.flatten xs ∧ (∀ u ∈ xs, u.oneCell' = true) ∧ (n = 0 ∨ ∃ a', ad = some a' ∧ ∀ j u, xs[j]? = some u → w0.cell? (a'.add j) = some u) := by
    cases hv with
    | sl h0 hk hr hm hc =>
      rename_i xs b o cap
      exact ⟨_, _, _, xs, rfl, rfl, hr, fun u hu => by obtain ⟨j, hj⟩ := List.mem_iff_getElem?.1 hu; exact (hm j u hj).2.2, .inr ⟨_, rfl, fun j u hu => by rw [add_n]; exact (hm j u hu).1⟩⟩
    | sl0 => exact ⟨_, _, _, [], rfl, rfl, .nil, by simp, .inl rfl⟩
  subst hn
  have hxl : xs.length = l.length * 2 := by rw [← hxs.length, flatten_len hl]
  cases ad with
  | none =>
    have hl0 : l = [] := by
      rcases hmem with h | ⟨_, h, _⟩
      · exact List.eq_nil_of_length_eq_zero h
      · simp at h
    subst hl0
    have hx0 : xs = [] := List.eq_nil_of_length_eq_zero (by simpa using hxl)
    subst hx0
    go_enter Try.func54, Try.ntmps54
    go_wp2
    rw [Lib.run_eql_slice_nil w0 _ _ _ _ _ _ _ Try.underlying29]
    simp only [Result.andThen]
    rw [Oper.upon_value]
    go_wp2
    go_ret
    exact done _ _ [] (Below.refl _ _) ⟨rfl, .inl ⟨rfl, rfl⟩⟩ .nil (by simp)
  | some a' =>
    go_enter Try.func54, Try.ntmps54
    go_wp2
    rw [Lib.run_eql_slice_nil w0 _ _ _ _ _ _ _ Try.underlying29]
    simp only [Result.andThen]
    rw [Oper.upon_value]
    go_wp2_with (at_builtin; refine app_wpList Try.underlying29 clone_el rfl _ _ rfl w0.heap.size _ 0 [] rfl ?own _ l.length cap xs rfl hxl ?mem h1 ?c1 ?c2 ?c3 ?_)
    case own => exact World.ownsRow_lit w0 #[] 0 (Nat.le_refl _) (by decide) rfl
    case mem =>
      rcases hmem with h | ⟨a1, h, hm⟩
      · exact .inl h
      · refine .inr ⟨a1, h, fun j u hu => ?_⟩
        have h2 := hm j u hu
        have h3 : (a1.add j).block < w0.heap.size := by
          rcases Nat.lt_or_ge (a1.add j).block w0.heap.size with h' | h'
          · exact h'
          · simp [World.cell?, Array.getElem?_eq_none h'] at h2
        exact (World.cell?_of_block (Lib.alloc_old w0 _ _ h3)).trans h2
    case c1 => omega
    case c2 => omega
    case c3 => simp
    intro v' w2 hown' hgrow
    have hsz : (w0.alloc (.cells #[] 45)).heap.size = w0.heap.size + 1 := by simp
    go_wp2
    go_ret
    refine done _ _ xs ?_ (by simpa using hown') hxs h1
    exact (below_alloc' w0 _).trans (grew_below hgrow (by rw [hsz]; omega) fun b hb => by simp [blk, Act.eval] at hb; omega)

set_option maxHeartbeats 4000000 in
set_option maxRecDepth 100000 in
theorem forms_ok : CallOK' Try.prog 91 [] (.val (.st [pI .u8 128, pI .u8 0, pI .i32 0, pI .u8 224, pI .u8 192, pI .i32 128, pI .u8 240, pI .u8 224, pI .i32 2048, pI .u8 248, pI .u8 240, pI .i32 65536])) := by
  intro w0 lm0 vs hvs
  cases hvs
  have main : Calls Try.prog 91 #[] w0 fun e w' => e = .returned (.agg #[.int .u8 128, .int .u8 0, .int .i32 0, .int .u8 224, .int .u8 192, .int .i32 128, .int .u8 240, .int .u8 224, .int .i32 2048, .int .u8 248, .int .u8 240, .int .i32 65536]) ∧ Below w0.heap.size w0 w' := by
    go_enter Try.func91, Try.ntmps91
    go_wp2
    exact bodyPost_ret (v := .agg #[.int .u8 128, .int .u8 0, .int .i32 0, .int .u8 224, .int .u8 192, .int .i32 128, .int .u8 240, .int .u8 224, .int .i32 2048, .int .u8 248, .int .u8 240, .int .i32 65536]) (by simp [results, Try.results91, go_sem]) rfl ⟨rfl, (Below.refl _ _).alloc (Nat.le_refl _) _⟩
  refine main.mono ?_
  rintro e w' ⟨rfl, hb⟩
  let lm' : Nat → Nat := fun b => if b < w0.heap.size then lm0 b else 0
  refine ⟨_, lm', rfl, hb, fun b hb => if_pos hb, ?_⟩
  refine Rep.st (vs := [.int .u8 128, .int .u8 0, .int .i32 0, .int .u8 224, .int .u8 192, .int .i32 128, .int .u8 240, .int .u8 224, .int .i32 2048, .int .u8 248, .int .u8 240, .int .i32 65536]) ?_ (by simp [Value.oneCell'])
  repeat' first | exact .nil | refine .cons (.sc _) ?_
end Go.Proofs.Ytihgpnfkadldeaa.AM
