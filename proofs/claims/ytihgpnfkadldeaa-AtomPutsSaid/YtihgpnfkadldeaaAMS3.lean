/- (*strings.Builder).WriteRune, utf8.AppendRune, walked over this program for the small machine. No condition. -/
import Derived.Test.YtihgpnfkadldeaaAMS
import Derived.Lib.RuneBytes
import Derived.Test.YtihgpnfkadldeaaProg
import Derived.WalkKit
import Derived.Shelf.RegionOpenPlain
import Derived.ProofKit
import Derived.Lib.Builder
import Derived.Lib.AppendStr
import Derived.Lib.UnsafeStr
import Derived.Lib.FrozenHead
namespace Go.Proofs.Ytihgpnfkadldeaa.AM
open Go.RowKit
set_option linter.unusedVariables false
set_option linter.unusedSimpArgs false


/-- What an append to a row that the call owns does to memory. -/
def Grew (w w' : World) (v v' : Value) : Prop := (blk v' = blk v ∧ w'.os = w.os ∧ w'.tape = w.tape ∧ w'.output = w.output ∧ w.heap.size ≤ w'.heap.size ∧ ∀ b, b < w.heap.size → blk v ≠ some b → w'.heap[b]? = w.heap[b]?) ∨ ((∃ c, blk v' = some c ∧ w.heap.size ≤ c) ∧ Below w.heap.size w w')

def GrewAt (w w' : World) (v v' : Value) : Prop := ((blk v' = blk v ∧ w'.os = w.os ∧ w'.tape = w.tape ∧ w'.output = w.output ∧ w'.heap.size = w.heap.size ∧ ∀ b, blk v ≠ some b → w'.heap[b]? = w.heap[b]?) ∨ (blk v' = some w.heap.size ∧ Below w.heap.size w w'))
theorem sb_wpListS {ops : Array Oper} {rest : List Oper} {o : Oper} {a : Act} {Q : Exit → Act → World → Prop} {w : World} (hgd : o.guard = none) (sl x : Operand) (ho : o.op = .call { callee := .builtin .append, args := #[sl, x], argTypes := #[37, 37] })
    (B : Nat) (v : Value) (n : Nat) (xs : List Value) (hs : a.eval sl = v) (hown : w.ownsRow B 5 1 v n xs) (ad : Addr) (m c : Nat) (news : List Value) (hx : a.eval x = .slice (some ad) m c) (hl : news.length = m) (hnews : ∀ j u, news[j]? = some u → w.cell? (ad.add j) = some u) (h1 : ∀ u ∈ news, u.oneCell' = true)
    (hby : n + m ≤ 140737488355328) (hB : B ≤ w.heap.size)
    (h : ∀ v' w', w'.ownsRow B 5 1 v' (n + m) (xs ++ news) → GrewAt w w' v v' → wpList Try.prog ops Q rest (a.put o.dst v') w') : wpList Try.prog ops Q (o :: rest) a w := by
  refine wpList_plain hgd fun K hK => ?_
  obtain ⟨i, z, hi, hz, hi1, hby1, hzs⟩ := elOk_sound sb_el
  obtain ⟨v', w', hr, h2, h3⟩ := run_app (P := Try.prog) (ty := o.type) (x := .slice (some ad) m c) (m := m) (n := n) (news := news) Try.underlying37 Try.underlying37 (by simp) hi hz (by rw [hzs, hi1]) (by rw [hi1]; exact hown) (by rw [hi1, Nat.mul_one]; exact hl) h1 (fun w' => rfl) (fun w' hw' => by
    rw [hi1]
    exact run_firstCells_some (w := w') (size := 1) (n := m) (b := ad) (len := m) (cap := c) (cs := news) (by rw [Nat.mul_one]; exact hl) (fun j u hu => (World.cell?_of_block (a := ad.add j) (by rw [hw'])).trans (hnews j u hu))) (by simp only [maxLen]; omega) (by rw [hby1, Nat.mul_one]; exact hby) hB
  rw [hi1] at h2
  unfold Oper.wp execOp
  simp only [ho, resolve, invoke, builtin, Sem.run_bind, Sem.run_pure, Result.andThen_ok, List.map_toArray, List.map_cons, List.map_nil, hs, hx, hr]
  exact hK _ _ (h v' w' h2 h3)

theorem grew_alloc {w w' : World} {v v' : Value} {o : Obj} (hv : ∀ b, blk v = some b → b < w.heap.size) (h : GrewAt (w.alloc o) w' v v') : Grew w w' v v' := by
  have hb := (Below.refl w.heap.size w).alloc (Nat.le_refl _) o
  rcases h with ⟨h0, h1, h2, h3, h4, h5⟩ | ⟨h0, h1⟩
  · refine .inl ⟨h0, h1.trans hb.os, h2.trans hb.tape, h3.trans hb.output, by rw [h4]; exact hb.size, fun b hb1 hb2 => (h5 b hb2).trans (Lib.alloc_old _ _ _ hb1)⟩
  · exact .inr ⟨⟨_, h0, hb.size⟩, hb.trans (h1.mono hb.size)⟩
set_option maxHeartbeats 4000000 in
set_option maxRecDepth 100000 in
theorem sr_two (B : Nat) (v : Value) (n : Nat) (xs : List Value) (r : Int) (h0 : 128 ≤ r) (h1 : r ≤ 2047) (w : World) (hown : w.ownsRow B 5 1 v n xs) (hlen : n + 4 ≤ 140737488355328) (hBw : B ≤ w.heap.size) :
    Calls Try.prog 93 #[v, .int .i32 r] w fun e w' => ∃ v', e = .returned v' ∧ w'.ownsRow B 5 1 v' (n + 2) (xs ++ [.int .u8 (192 + r / 64), .int .u8 (128 + r % 64)]) ∧ Grew w w' v v' := by
  have hvb : ∀ b, blk v = some b → b < w.heap.size := fun b hb => (owns_block hown hb).2
  go_enter Try.func93, Try.ntmps93
  go_wp2_with (at_builtin; refine sb_wpListS rfl _ _ rfl B _ _ _ rfl (hown.alloc _) ⟨w.heap.size, 0, none⟩ 2 2 [.int .u8 (192 + r / 64), .int .u8 (128 + r % 64)] rfl rfl ?c1 ?c2 ?c4 ?c5 ?_)
  all_goals first
    | (intro v' w2 hown' hgrow; go_wp2; go_ret; exact ⟨v', rfl, hown', grew_alloc hvb hgrow⟩)
    | omega
    | exact ⟨rfl, rfl, rfl⟩
    | (simp; omega)
    | (intro u hu; simp at hu; rcases hu with rfl | rfl <;> rfl)
    | (intro j u hj
       match j, hj with
       | 0, hj => simp at hj; subst hj; simp [Addr.add]
       | 1, hj => simp at hj; subst hj; simp [Addr.add]
       | (j + 2), hj => simp at hj)
set_option maxHeartbeats 4000000 in
set_option maxRecDepth 100000 in
theorem sr_three_lo (B : Nat) (v : Value) (n : Nat) (xs : List Value) (r : Int) (h0 : 2048 ≤ r) (h1 : r < 55296) (w : World) (hown : w.ownsRow B 5 1 v n xs) (hlen : n + 4 ≤ 140737488355328) (hBw : B ≤ w.heap.size) :
    Calls Try.prog 93 #[v, .int .i32 r] w fun e w' => ∃ v', e = .returned v' ∧ w'.ownsRow B 5 1 v' (n + 3) (xs ++ [.int .u8 (224 + r / 4096), .int .u8 (128 + r / 64 % 64), .int .u8 (128 + r % 64)]) ∧ Grew w w' v v' := by
  have hvb : ∀ b, blk v = some b → b < w.heap.size := fun b hb => (owns_block hown hb).2
  go_enter Try.func93, Try.ntmps93
  go_wp2_with (at_builtin; refine sb_wpListS rfl _ _ rfl B _ _ _ rfl (hown.alloc _) ⟨w.heap.size, 0, none⟩ 3 3 [.int .u8 (224 + r / 4096), .int .u8 (128 + r / 64 % 64), .int .u8 (128 + r % 64)] rfl rfl ?c1 ?c2 ?c4 ?c5 ?_)
  all_goals first
    | (intro v' w2 hown' hgrow; go_wp2; go_ret; exact ⟨v', rfl, hown', grew_alloc hvb hgrow⟩)
    | omega
    | exact ⟨rfl, rfl, rfl⟩
    | (simp; omega)
    | (intro u hu; simp at hu; rcases hu with rfl | rfl | rfl <;> rfl)
    | (intro j u hj
       match j, hj with
       | 0, hj => simp at hj; subst hj; simp [Addr.add]
       | 1, hj => simp at hj; subst hj; simp [Addr.add]
       | 2, hj => simp at hj; subst hj; simp [Addr.add]
       | (j + 3), hj => simp at hj)
set_option maxHeartbeats 4000000 in
set_option maxRecDepth 100000 in
theorem sr_three_hi (B : Nat) (v : Value) (n : Nat) (xs : List Value) (r : Int) (h0 : 57343 < r) (h1 : r ≤ 65535) (w : World) (hown : w.ownsRow B 5 1 v n xs) (hlen : n + 4 ≤ 140737488355328) (hBw : B ≤ w.heap.size) :
    Calls Try.prog 93 #[v, .int .i32 r] w fun e w' => ∃ v', e = .returned v' ∧ w'.ownsRow B 5 1 v' (n + 3) (xs ++ [.int .u8 (224 + r / 4096), .int .u8 (128 + r / 64 % 64), .int .u8 (128 + r % 64)]) ∧ Grew w w' v v' := by
  have hvb : ∀ b, blk v = some b → b < w.heap.size := fun b hb => (owns_block hown hb).2
  go_enter Try.func93, Try.ntmps93
  go_wp2_with (at_builtin; refine sb_wpListS rfl _ _ rfl B _ _ _ rfl (hown.alloc _) ⟨w.heap.size, 0, none⟩ 3 3 [.int .u8 (224 + r / 4096), .int .u8 (128 + r / 64 % 64), .int .u8 (128 + r % 64)] rfl rfl ?c1 ?c2 ?c4 ?c5 ?_)
  all_goals first
    | (intro v' w2 hown' hgrow; go_wp2; go_ret; exact ⟨v', rfl, hown', grew_alloc hvb hgrow⟩)
    | omega
    | exact ⟨rfl, rfl, rfl⟩
    | (simp; omega)
    | (intro u hu; simp at hu; rcases hu with rfl | rfl | rfl <;> rfl)
    | (intro j u hj
       match j, hj with
       | 0, hj => simp at hj; subst hj; simp [Addr.add]
       | 1, hj => simp at hj; subst hj; simp [Addr.add]
       | 2, hj => simp at hj; subst hj; simp [Addr.add]
       | (j + 3), hj => simp at hj)
set_option maxHeartbeats 4000000 in
set_option maxRecDepth 100000 in
theorem sr_four (B : Nat) (v : Value) (n : Nat) (xs : List Value) (r : Int) (h0 : 65536 ≤ r) (h1 : r ≤ 1114111) (w : World) (hown : w.ownsRow B 5 1 v n xs) (hlen : n + 4 ≤ 140737488355328) (hBw : B ≤ w.heap.size) :
    Calls Try.prog 93 #[v, .int .i32 r] w fun e w' => ∃ v', e = .returned v' ∧ w'.ownsRow B 5 1 v' (n + 4) (xs ++ [.int .u8 (240 + r / 262144), .int .u8 (128 + r / 4096 % 64), .int .u8 (128 + r / 64 % 64), .int .u8 (128 + r % 64)]) ∧ Grew w w' v v' := by
  have hvb : ∀ b, blk v = some b → b < w.heap.size := fun b hb => (owns_block hown hb).2
  go_enter Try.func93, Try.ntmps93
  go_wp2_with (at_builtin; refine sb_wpListS rfl _ _ rfl B _ _ _ rfl (hown.alloc _) ⟨w.heap.size, 0, none⟩ 4 4 [.int .u8 (240 + r / 262144), .int .u8 (128 + r / 4096 % 64), .int .u8 (128 + r / 64 % 64), .int .u8 (128 + r % 64)] rfl rfl ?c1 ?c2 ?c4 ?c5 ?_)
  all_goals first
    | (intro v' w2 hown' hgrow; go_wp2; go_ret; exact ⟨v', rfl, hown', grew_alloc hvb hgrow⟩)
    | omega
    | exact ⟨rfl, rfl, rfl⟩
    | (simp; omega)
    | (intro u hu; simp at hu; rcases hu with rfl | rfl | rfl | rfl <;> rfl)
    | (intro j u hj
       match j, hj with
       | 0, hj => simp at hj; subst hj; simp [Addr.add]
       | 1, hj => simp at hj; subst hj; simp [Addr.add]
       | 2, hj => simp at hj; subst hj; simp [Addr.add]
       | 3, hj => simp at hj; subst hj; simp [Addr.add]
       | (j + 4), hj => simp at hj)
set_option maxHeartbeats 4000000 in
set_option maxRecDepth 100000 in
theorem sr_bad_neg (B : Nat) (v : Value) (n : Nat) (xs : List Value) (r : Int) (h0 : -2147483648 ≤ r) (h1 : r < 0) (w : World) (hown : w.ownsRow B 5 1 v n xs) (hlen : n + 4 ≤ 140737488355328) (hBw : B ≤ w.heap.size) :
    Calls Try.prog 93 #[v, .int .i32 r] w fun e w' => ∃ v', e = .returned v' ∧ w'.ownsRow B 5 1 v' (n + 3) (xs ++ [.int .u8 (239), .int .u8 (191), .int .u8 (189)]) ∧ Grew w w' v v' := by
  have hvb : ∀ b, blk v = some b → b < w.heap.size := fun b hb => (owns_block hown hb).2
  go_enter Try.func93, Try.ntmps93
  go_wp2_with (at_builtin; refine sb_wpListS rfl _ _ rfl B _ _ _ rfl (hown.alloc _) ⟨w.heap.size, 0, none⟩ 3 3 [.int .u8 (239), .int .u8 (191), .int .u8 (189)] rfl rfl ?c1 ?c2 ?c4 ?c5 ?_)
  all_goals first
    | (intro v' w2 hown' hgrow; go_wp2; go_ret; exact ⟨v', rfl, hown', grew_alloc hvb hgrow⟩)
    | omega
    | exact ⟨rfl, rfl, rfl⟩
    | (simp; omega)
    | (intro u hu; simp at hu; rcases hu with rfl | rfl | rfl <;> rfl)
    | (intro j u hj
       match j, hj with
       | 0, hj => simp at hj; subst hj; simp [Addr.add]
       | 1, hj => simp at hj; subst hj; simp [Addr.add]
       | 2, hj => simp at hj; subst hj; simp [Addr.add]
       | (j + 3), hj => simp at hj)
set_option maxHeartbeats 4000000 in
set_option maxRecDepth 100000 in
theorem sr_bad_sur (B : Nat) (v : Value) (n : Nat) (xs : List Value) (r : Int) (h0 : 55296 ≤ r) (h1 : r ≤ 57343) (w : World) (hown : w.ownsRow B 5 1 v n xs) (hlen : n + 4 ≤ 140737488355328) (hBw : B ≤ w.heap.size) :
    Calls Try.prog 93 #[v, .int .i32 r] w fun e w' => ∃ v', e = .returned v' ∧ w'.ownsRow B 5 1 v' (n + 3) (xs ++ [.int .u8 (239), .int .u8 (191), .int .u8 (189)]) ∧ Grew w w' v v' := by
  have hvb : ∀ b, blk v = some b → b < w.heap.size := fun b hb => (owns_block hown hb).2
  go_enter Try.func93, Try.ntmps93
  go_wp2_with (at_builtin; refine sb_wpListS rfl _ _ rfl B _ _ _ rfl (hown.alloc _) ⟨w.heap.size, 0, none⟩ 3 3 [.int .u8 (239), .int .u8 (191), .int .u8 (189)] rfl rfl ?c1 ?c2 ?c4 ?c5 ?_)
  all_goals first
    | (intro v' w2 hown' hgrow; go_wp2; go_ret; exact ⟨v', rfl, hown', grew_alloc hvb hgrow⟩)
    | omega
    | exact ⟨rfl, rfl, rfl⟩
    | (simp; omega)
    | (intro u hu; simp at hu; rcases hu with rfl | rfl | rfl <;> rfl)
    | (intro j u hj
       match j, hj with
       | 0, hj => simp at hj; subst hj; simp [Addr.add]
       | 1, hj => simp at hj; subst hj; simp [Addr.add]
       | 2, hj => simp at hj; subst hj; simp [Addr.add]
       | (j + 3), hj => simp at hj)
set_option maxHeartbeats 4000000 in
set_option maxRecDepth 100000 in
theorem sr_bad_big (B : Nat) (v : Value) (n : Nat) (xs : List Value) (r : Int) (h0 : 1114111 < r) (h1 : r ≤ 2147483647) (w : World) (hown : w.ownsRow B 5 1 v n xs) (hlen : n + 4 ≤ 140737488355328) (hBw : B ≤ w.heap.size) :
    Calls Try.prog 93 #[v, .int .i32 r] w fun e w' => ∃ v', e = .returned v' ∧ w'.ownsRow B 5 1 v' (n + 3) (xs ++ [.int .u8 (239), .int .u8 (191), .int .u8 (189)]) ∧ Grew w w' v v' := by
  have hvb : ∀ b, blk v = some b → b < w.heap.size := fun b hb => (owns_block hown hb).2
  go_enter Try.func93, Try.ntmps93
  go_wp2_with (at_builtin; refine sb_wpListS rfl _ _ rfl B _ _ _ rfl (hown.alloc _) ⟨w.heap.size, 0, none⟩ 3 3 [.int .u8 (239), .int .u8 (191), .int .u8 (189)] rfl rfl ?c1 ?c2 ?c4 ?c5 ?_)
  all_goals first
    | (intro v' w2 hown' hgrow; go_wp2; go_ret; exact ⟨v', rfl, hown', grew_alloc hvb hgrow⟩)
    | omega
    | exact ⟨rfl, rfl, rfl⟩
    | (simp; omega)
    | (intro u hu; simp at hu; rcases hu with rfl | rfl | rfl <;> rfl)
    | (intro j u hj
       match j, hj with
       | 0, hj => simp at hj; subst hj; simp [Addr.add]
       | 1, hj => simp at hj; subst hj; simp [Addr.add]
       | 2, hj => simp at hj; subst hj; simp [Addr.add]
       | (j + 3), hj => simp at hj)
set_option maxHeartbeats 4000000 in
set_option maxRecDepth 100000 in
theorem sr_ascii (B : Nat) (v : Value) (n : Nat) (xs : List Value) (r : Int) (h0 : 0 ≤ r) (h1 : r ≤ 127) (w : World) (hown : w.ownsRow B 5 1 v n xs) (hlen : n + 4 ≤ 140737488355328) (hBw : B ≤ w.heap.size) :
    Calls Try.prog 90 #[v, .int .i32 r] w fun e w' => ∃ v', e = .returned v' ∧ w'.ownsRow B 5 1 v' (n + 1) (xs ++ [.int .u8 (r)]) ∧ Grew w w' v v' := by
  have hvb : ∀ b, blk v = some b → b < w.heap.size := fun b hb => (owns_block hown hb).2
  go_enter Try.func90, Try.ntmps90
  go_wp2_with (at_builtin; refine sb_wpListS rfl _ _ rfl B _ _ _ rfl (hown.alloc _) ⟨w.heap.size, 0, none⟩ 1 1 [.int .u8 (r)] rfl rfl ?c1 ?c2 ?c4 ?c5 ?_)
  all_goals first
    | (intro v' w2 hown' hgrow; go_wp2; go_ret; exact ⟨v', rfl, hown', grew_alloc hvb hgrow⟩)
    | omega
    | exact ⟨rfl, rfl, rfl⟩
    | (simp; omega)
    | (intro u hu; simp at hu; subst hu; rfl)
    | (intro j u hj
       match j, hj with
       | 0, hj => simp at hj; subst hj; simp [Addr.add]
       | (j + 1), hj => simp at hj)

theorem sr_none (B : Nat) (v : Value) (n : Nat) (xs : List Value) (r : Int) (hr0 : -2147483648 ≤ r) (hr1 : r ≤ 2147483647) (hna : r < 0 ∨ 128 ≤ r) (w : World) (hown : w.ownsRow B 5 1 v n xs) (hlen : n + 4 ≤ 140737488355328) (hBw : B ≤ w.heap.size) :
    Calls Try.prog 93 #[v, .int .i32 r] w fun e w' => ∃ v', e = .returned v' ∧ w'.ownsRow B 5 1 v' (n + (Lib.runeCells r).length) (xs ++ Lib.runeCells r) ∧ Grew w w' v v' := by
  by_cases c0 : r < 0
  · rw [show Lib.runeCells r = [.int .u8 239, .int .u8 191, .int .u8 189] by simp [Lib.runeCells, Lib.encodeRuneZ_bad (Or.inl c0)]]
    exact sr_bad_neg B v n xs r hr0 c0 w hown hlen hBw
  by_cases c1 : r ≤ 2047
  · rw [show Lib.runeCells r = [.int .u8 (192 + r / 64), .int .u8 (128 + r % 64)] by simp [Lib.runeCells, Lib.encodeRuneZ_two (by omega) c1]]
    exact sr_two B v n xs r (by omega) c1 w hown hlen hBw
  by_cases c2 : r < 55296
  · rw [show Lib.runeCells r = [.int .u8 (224 + r / 4096), .int .u8 (128 + r / 64 % 64), .int .u8 (128 + r % 64)] by simp [Lib.runeCells, Lib.encodeRuneZ_three (Or.inl ⟨by omega, c2⟩)]]
    exact sr_three_lo B v n xs r (by omega) c2 w hown hlen hBw
  by_cases c3 : r ≤ 57343
  · rw [show Lib.runeCells r = [.int .u8 239, .int .u8 191, .int .u8 189] by simp [Lib.runeCells, Lib.encodeRuneZ_bad (Or.inr (Or.inl ⟨by omega, c3⟩))]]
    exact sr_bad_sur B v n xs r (by omega) c3 w hown hlen hBw
  by_cases c4 : r ≤ 65535
  · rw [show Lib.runeCells r = [.int .u8 (224 + r / 4096), .int .u8 (128 + r / 64 % 64), .int .u8 (128 + r % 64)] by simp [Lib.runeCells, Lib.encodeRuneZ_three (Or.inr ⟨by omega, c4⟩)]]
    exact sr_three_hi B v n xs r (by omega) c4 w hown hlen hBw
  by_cases c5 : r ≤ 1114111
  · rw [show Lib.runeCells r = [.int .u8 (240 + r / 262144), .int .u8 (128 + r / 4096 % 64), .int .u8 (128 + r / 64 % 64), .int .u8 (128 + r % 64)] by simp [Lib.runeCells, Lib.encodeRuneZ_four (by omega) c5]]
    exact sr_four B v n xs r (by omega) c5 w hown hlen hBw
  · rw [show Lib.runeCells r = [.int .u8 239, .int .u8 191, .int .u8 189] by simp [Lib.runeCells, Lib.encodeRuneZ_bad (r := r) (Or.inr (Or.inr (by omega)))]]
    exact sr_bad_big B v n xs r (by omega) hr1 w hown hlen hBw

set_option maxHeartbeats 4000000 in
set_option maxRecDepth 100000 in
theorem sr_all (B : Nat) (v : Value) (n : Nat) (xs : List Value) (r : Int) (hr0 : -2147483648 ≤ r) (hr1 : r ≤ 2147483647) (w : World) (hown : w.ownsRow B 5 1 v n xs) (hlen : n + 4 ≤ 140737488355328) (hBw : B ≤ w.heap.size) :
    Calls Try.prog 90 #[v, .int .i32 r] w fun e w' => ∃ v', e = .returned v' ∧ w'.ownsRow B 5 1 v' (n + (Lib.runeCells r).length) (xs ++ Lib.runeCells r) ∧ Grew w w' v v' := by
  by_cases c : 0 ≤ r ∧ r ≤ 127
  · rw [show Lib.runeCells r = [.int .u8 r] by simp [Lib.runeCells, Lib.encodeRuneZ_one c.1 c.2]]
    exact sr_ascii B v n xs r c.1 c.2 w hown hlen hBw
  · have hna : r < 0 ∨ 128 ≤ r := by omega
    clear c
    rcases hna with hna | hna
    all_goals
      go_enter Try.func90, Try.ntmps90
      go_wp2_with (go_at_call 93; refine (sr_none B v n xs r hr0 hr1 (by omega) _ hown hlen hBw).mono ?_)
      rintro e w1 ⟨v', rfl, h1, h2⟩
      go_wp2
      go_ret
      exact ⟨_, rfl, h1, h2⟩

set_option maxHeartbeats 4000000 in
set_option maxRecDepth 100000 in
theorem sbRune : SbRune Try.prog 78 5 87 := by
  intro B b p v bs r w hr0 hr1 hB hBw hp hg hown hne hle
  have hlt : b < w.heap.size := (Array.getElem?_eq_some_iff.1 hg).1
  have hk4 := Lib.runeCells_le r
  go_enter Try.func87, Try.ntmps87
  go_wp2_with (go_at_call 84; refine (sb_check B b p v _ hB hp hg).mono ?_)
  rintro e w1 ⟨rfl, hg1, hb1, hs1, hk1⟩
  have hown1 : w1.ownsRow B 5 1 v bs.length bs := ownsRow_keep hown fun b' hb' => hk1 b' fun e => hne (by rw [← e]; exact hb')
  obtain ⟨ao, cap, rfl⟩ : ∃ ao cap, v = .slice ao bs.length cap := by
    rcases hown.2 with ⟨hv, h0⟩ | ⟨g, cap, cur, hv, _⟩
    · exact ⟨none, 0, by rw [hv]; simp [h0]⟩
    · exact ⟨_, _, hv⟩
  have c0 : w1.cell? ⟨b, 0, none⟩ = some (.pointer (some ⟨b, 0, none⟩)) := by rw [Lib.cell_of_heap hg1]; rfl
  have c1 : w1.cell? ⟨b, 1, none⟩ = some (.slice ao bs.length cap) := by rw [Lib.cell_of_heap hg1]; rfl
  go_wp2_with (go_at_call 90; refine (sr_all B _ bs.length bs r hr0 hr1 _ hown1 (by simpa [maxBytes] using hle) (by omega)).mono ?_)
  rintro e w2 ⟨v', rfl, hown', hgrow⟩
  have hkeep : ∀ k, k < w1.heap.size → blk (.slice ao bs.length cap) ≠ some k → w2.heap[k]? = w1.heap[k]? := fun k h1 h2 => by
    rcases hgrow with ⟨_, _, _, _, _, h⟩ | ⟨_, h⟩
    · exact h k (by omega) h2
    · exact h.block k (by omega)
  have hb2 : w2.heap[b]? = some (.cells #[.pointer (some ⟨b, 0, none⟩), .slice ao bs.length cap] 78 (0, 0)) := by
    rw [hkeep b (by omega) hne]; exact hg1
  have hbel : Below B w1 w2 := by
    rcases hgrow with ⟨h0, h1, h2, h3, h4, h5⟩ | ⟨_, h⟩
    · refine ⟨h1, h2, h3, by omega, fun k hk => h5 k (by omega) fun e => ?_⟩
      have := (owns_block hown1 e).1
      omega
    · exact h.mono (by omega)
  have d0 : w2.cell? ⟨b, 0, none⟩ = some (.pointer (some ⟨b, 0, none⟩)) := by rw [Lib.cell_of_heap hb2]; rfl
  have d1 : w2.cell? ⟨b, 1, none⟩ = some (.slice ao bs.length cap) := by rw [Lib.cell_of_heap hb2]; rfl
  have f1 : w2.frozen? ⟨b, 1, none⟩ = false := Lib.frozen_of_heap hb2 1
  obtain ⟨ao', cap', rfl⟩ : ∃ ao' cap', v' = .slice ao' (bs.length + (Lib.runeCells r).length) cap' := by
    rcases hown'.2 with ⟨_, h0⟩ | ⟨g, cap', cur, hv, _⟩
    · omega
    · exact ⟨_, cap', hv⟩
  go_wp2
  go_ret2
  have hnb : blk (.slice ao' (bs.length + (Lib.runeCells r).length) cap') ≠ some b := fun e => by
    rcases hgrow with ⟨h, _⟩ | ⟨⟨c, h, hc⟩, _⟩
    · rw [h] at e; exact hne e
    · rw [h] at e; simp at e; omega
  refine ⟨?_, .slice ao' (bs.length + (Lib.runeCells r).length) cap', ?_, ?_, ?_, ?_, ?_⟩
  · have e : ((bs.length : Int) + ((Lib.runeCells r).length : Int) - (bs.length : Int)) = ((Lib.runeCells r).length : Int) := by omega
    simp [e]
  · simp [World.setCell, Array.getElem?_modify, hb2]
  · exact ownsRow_keep hown' fun k hk => Below.heap_setCell _ _ _ _ fun e => hnb (by rw [hk]; rw [e])
  · rcases hgrow with ⟨h, _⟩ | ⟨⟨c, h, hc⟩, _⟩
    · exact .inl h
    · exact .inr ⟨_, h, by omega⟩
  · exact (hb1.trans hbel).setCell (p := ⟨b, 1, none⟩) hB _
  · intro k h1 h2 h3
    rw [Below.heap_setCell _ _ _ _ h2, hkeep k (by omega) h3, hk1 k h2]
end Go.Proofs.Ytihgpnfkadldeaa.AM
