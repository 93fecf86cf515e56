/- MADE BY sync2.py: AMS2, AMS, AMS3, AX, AXN, AXH, U, U2, AR0, one behind the other. No condition but what they say. -/
import Derived.Test.YtomnggbideepeaaQ4
import Derived.Test.YtomnggbideepeaaProg
import Derived.WalkKit
import Derived.Shelf.RegionOpenPlain
import Derived.ProofKit
import Derived.Lib.Builder
import Derived.Lib.AppendStr
import Derived.Lib.UnsafeStr
import Derived.Lib.FrozenHead
import Derived.Lib.RuneBytes
import Derived.Lib.SliceRun
import Derived.Test.YtomnggbideepeaaAF1
import Derived.Laws.BitsLemmas
import Derived.Lib.Strings
section
/- (*strings.Builder).String, walked over this program for the small machine. No condition. -/
namespace Go.Proofs.Ytomnggbideepeaa.AM
open Go.RowKit
set_option linter.unusedVariables false
set_option linter.unusedSimpArgs false


theorem frz_other (w : World) (g n k : Nat) (h : k ≠ g) : (w.freeze ⟨g, 0, none⟩ n).heap[k]? = w.heap[k]? := by
  unfold World.freeze
  split
  · rfl
  · simp [Array.getElem?_modify, Ne.symm h]
theorem sb_bytes1 : Try.prog.cellsOf 5 = 1 := by kernel_rfl
set_option maxHeartbeats 4000000 in
set_option maxRecDepth 100000 in
theorem sbString : SbString Try.prog 100 5 64 := by
  intro B b p v l w hB hBw hp hg hown hne
  have mixed : Try.prog.follows .mixedOrders = true := by kernel_rfl
  have hlt : b < w.heap.size := (Array.getElem?_eq_some_iff.1 hg).1
  rcases hown.2 with ⟨rfl, hz⟩ | ⟨g, cap, cur, rfl, hbg, hgg, hnc, hcm, hcs, htake⟩
  · have hl : l = [] := List.eq_nil_of_length_eq_zero hz
    subst hl
    have hUS : ∀ q W, (Builtin.unsafeString_ #[132, 3] 9 #[.pointer q, .int .i64 0]).run Try.prog W = .ok (.string .empty) W := fun q W => Lib.run_unsafeString_none W _ _ _ q
    have c1 : w.drew.cell? ⟨b, 1, none⟩ = some (.slice none 0 0) := by
      have : w.drew.heap[b]? = some (.cells #[p, .slice none 0 0] 100 (0, 0)) := hg
      rw [Lib.cell_of_heap this]; rfl
    have hSD : (Builtin.unsafeSliceData_ #[59] 132 #[.slice none 0 0]).run Try.prog w.drew = .ok (.pointer none) w.drew := rfl
    go_enter Try.func64, Try.ntmps64
    go_wp2
    go_region_o
    all_goals (go_wp2; go_ret; exact ⟨rfl, Below.drew (Below.refl B w), fun k _ _ => rfl⟩)
  · by_cases h0 : l = []
    · subst h0
      have hUS : ∀ q W, (Builtin.unsafeString_ #[132, 3] 9 #[.pointer q, .int .i64 0]).run Try.prog W = .ok (.string .empty) W := fun q W => Lib.run_unsafeString_none W _ _ _ q
      have c1 : w.drew.cell? ⟨b, 1, none⟩ = some (.slice (some ⟨g, 0, none⟩) 0 cap) := by
        have : w.drew.heap[b]? = some (.cells #[p, .slice (some ⟨g, 0, none⟩) 0 cap] 100 (0, 0)) := hg
        rw [Lib.cell_of_heap this]; rfl
      by_cases hc0 : cap = 0
      · subst hc0
        have hSD : (Builtin.unsafeSliceData_ #[59] 132 #[.slice (some ⟨g, 0, none⟩) 0 0]).run Try.prog w.drew = .ok (.pointer (some ⟨w.drew.heap.size, 0, none⟩)) (w.drew.alloc (.view ⟨g, 0, none⟩ 5)) :=
          Lib.run_unsafeSliceData_zero w.drew _ _ 5 Try.underlying132 ⟨g, 0, none⟩ 0 (5, cur.size) (by have hg' : w.drew.heap[g]? = some (.cells cur 5 (0, 0)) := hgg; simp [World.shape?, hg'])
        have c2 : (w.drew.alloc (.view ⟨g, 0, none⟩ 5)).cell? ⟨b, 1, none⟩ = some (.slice (some ⟨g, 0, none⟩) 0 0) := by
          have : (w.drew.alloc (.view ⟨g, 0, none⟩ 5)).heap[b]? = _ := (Lib.alloc_old w.drew _ b hlt).trans hg
          rw [Lib.cell_of_heap this]; rfl
        have c3 : (w.alloc (.view ⟨g, 0, none⟩ 5)).drew.cell? ⟨b, 1, none⟩ = some (.slice (some ⟨g, 0, none⟩) 0 0) := c2
        have c0 : w.cell? ⟨b, 1, none⟩ = some (.slice (some ⟨g, 0, none⟩) 0 0) := c1
        go_enter Try.func64, Try.ntmps64
        go_wp2
        go_region_o
        all_goals (go_wp2; go_ret; exact ⟨rfl, (Below.drew (Below.refl B w)).alloc hBw _, fun k hk _ => Lib.alloc_old _ _ k hk⟩)
      · have hSD : (Builtin.unsafeSliceData_ #[59] 132 #[.slice (some ⟨g, 0, none⟩) 0 cap]).run Try.prog w.drew = .ok (.pointer (some ⟨g, 0, none⟩)) w.drew :=
          Lib.run_unsafeSliceData_row _ _ _ _ _ _ hc0
        clear hc0
        go_enter Try.func64, Try.ntmps64
        go_wp2
        go_region_o
        all_goals (go_wp2; go_ret; exact ⟨rfl, Below.drew (Below.refl B w), fun k _ _ => rfl⟩)
    · have hl0 : l.length ≠ 0 := by simpa using h0
      have c1 : w.drew.cell? ⟨b, 1, none⟩ = some (.slice (some ⟨g, 0, none⟩) l.length cap) := by
        have : w.drew.heap[b]? = some (.cells #[p, .slice (some ⟨g, 0, none⟩) l.length cap] 100 (0, 0)) := hg
        rw [Lib.cell_of_heap this]; rfl
      have hSD : (Builtin.unsafeSliceData_ #[59] 132 #[.slice (some ⟨g, 0, none⟩) l.length cap]).run Try.prog w.drew = .ok (.pointer (some ⟨g, 0, none⟩)) w.drew :=
        Lib.run_unsafeSliceData_row _ _ _ _ _ _ (by omega)
      have hUS : (Builtin.unsafeString_ #[132, 3] 9 #[.pointer (some ⟨g, 0, none⟩), .int .i64 l.length]).run Try.prog w.drew = .ok (.string ⟨l.toArray⟩) (w.drew.freeze ⟨g, 0, none⟩ l.length) := by
        refine Lib.run_unsafeString_row w.drew 132 3 9 5 Try.underlying132 sb_bytes1 g cur.size (by have hg' : w.drew.heap[g]? = some (.cells cur 5 (0, 0)) := hgg; simp [World.shape?, hg']) l h0 (by omega) (by unfold maxLen at hcm; omega) ?_
        intro j x hx
        have h1 := cell_of_row w g j cur 5 (0, 0) hgg
        have h2 : cur[j]? = some (Value.int .u8 x.toNat) := by
          have h3 : (cur.toList.take (l.length * 1))[j]? = some (Value.int .u8 x.toNat) := by rw [htake]; simp [hx]
          rw [List.getElem?_take] at h3
          split at h3
          · simpa using h3
          · simp at h3
        rw [add_n, Nat.zero_add]
        exact h1.trans h2
      go_enter Try.func64, Try.ntmps64
      go_wp2
      go_region_o
      all_goals (go_wp2; go_ret; exact ⟨rfl, Lib.below_freeze (Below.drew (Below.refl B w)) (p := ⟨g, 0, none⟩) hbg _, fun k _ hk => frz_other _ g _ k fun e => hk (by rw [e]; rfl)⟩)
end Go.Proofs.Ytomnggbideepeaa.AM

end
section
/- (*strings.Builder).WriteString and String, walked over this program for the small machine. No condition. -/
namespace Go.Proofs.Ytomnggbideepeaa.AM
open Go.RowKit
set_option linter.unusedVariables false
set_option linter.unusedSimpArgs false

theorem sb_size : (Try.prog.info? 100).map (·.size) = some 2 := by kernel_rfl
theorem sb_lies : liesAt Try.prog Try.prog.depth 100 (2 / Try.prog.cellsOf 100) 0 100 1 = true := by kernel_rfl
theorem sb_el : elOk Try.prog 5 1 1 = true := by decide +kernel
set_option maxHeartbeats 1000000 in
set_option maxRecDepth 100000 in
theorem sb_check_used (b : Nat) (w : World) (h0 : w.cell? ⟨b, 0, none⟩ = some (.pointer (some ⟨b, 0, none⟩))) :
    Calls Try.prog 89 #[.pointer (some ⟨b, 0, none⟩)] w fun e w' => e = .returned (.tuple #[]) ∧ w' = w := by
  obtain ⟨j, hj, _⟩ := Option.map_eq_some_iff.1 sb_size
  go_enter Try.func89, Try.ntmps89
  go_wp2
  rw [Lib.run_neq_ptr_same w _ Try.underlying98 hj]
  go_wp2
  go_end0
  exact ⟨rfl, rfl⟩
set_option maxHeartbeats 1000000 in
set_option maxRecDepth 100000 in
theorem sb_check_fresh (b : Nat) (w : World) (h0 : w.cell? ⟨b, 0, none⟩ = some (.pointer none)) (hsh : w.shape? b = some (100, 2)) (hfz : w.frozen? ⟨b, 0, none⟩ = false) :
    Calls Try.prog 89 #[.pointer (some ⟨b, 0, none⟩)] w fun e w' => e = .returned (.tuple #[]) ∧ w' = w.setCell ⟨b, 0, none⟩ (.pointer (some ⟨b, 0, none⟩)) := by
  obtain ⟨j, hj, hjs⟩ := Option.map_eq_some_iff.1 sb_size
  go_enter Try.func89, Try.ntmps89
  go_wp2
  rw [Lib.run_to_unsafe w ⟨b, 0, none⟩ Try.underlying98 Try.underlying147 hj (by rw [hjs]; decide) hsh (Nat.zero_lt_succ 1)]
  simp only [Result.andThen]
  rw [Oper.upon_value]
  go_wp2
  rw [run_callFunc_extern Try.func107 (by kernel_rfl) (by kernel_rfl) (by kernel_rfl) (e := Extern.AbiNoEscape.same) (by kernel_rfl)]
  rw [Lib.run_noEscape]
  simp only [Result.andThen]
  rw [Oper.upon_value]
  go_wp2
  rw [Lib.run_from_unsafe w ⟨b, 0, none⟩ Try.underlying147 Try.underlying98 hj hsh sb_lies]
  simp only [Result.andThen]
  rw [Oper.upon_value]
  go_wp2
  go_end0
  exact ⟨rfl, rfl⟩

theorem owns_one' {w : World} {base e n k : Nat} {v : Value} {xs : List Value} (h : w.ownsRow base e k v n xs) : v.oneCell' = true := by
  rcases h.2 with ⟨rfl, _⟩ | ⟨_, _, _, rfl, _⟩ <;> rfl
/-- copyCheck: the builder's first cell is its own address from then on; nothing else turns. -/
theorem sb_check (B b : Nat) (p v : Value) (w : World) (hB : B ≤ b) (hp : p = .pointer none ∨ p = .pointer (some ⟨b, 0, none⟩)) (hg : w.heap[b]? = some (.cells #[p, v] 100 (0, 0))) :
    Calls Try.prog 89 #[.pointer (some ⟨b, 0, none⟩)] w fun e w' => e = .returned (.tuple #[]) ∧ w'.heap[b]? = some (.cells #[.pointer (some ⟨b, 0, none⟩), v] 100 (0, 0)) ∧ Below B w w' ∧ w'.heap.size = w.heap.size ∧ ∀ k, k ≠ b → w'.heap[k]? = w.heap[k]? := by
  have hlt : b < w.heap.size := (Array.getElem?_eq_some_iff.1 hg).1
  rcases hp with rfl | rfl
  · refine (sb_check_fresh b w (by rw [Lib.cell_of_heap hg]; rfl) (by simp [World.shape?, hg]) (Lib.frozen_of_heap hg 0)).mono ?_
    rintro e w' ⟨rfl, rfl⟩
    have hset : (w.setCell ⟨b, 0, none⟩ (.pointer (some ⟨b, 0, none⟩))).heap[b]? = some (.cells #[.pointer (some ⟨b, 0, none⟩), v] 100 (0, 0)) := by
      simp [World.setCell, Array.getElem?_modify, hg]
    exact ⟨rfl, hset, (Below.refl B w).setCell (p := ⟨b, 0, none⟩) hB _, by simp [World.setCell], fun k hk => Below.heap_setCell _ _ _ _ hk⟩
  · refine (sb_check_used b w (by rw [Lib.cell_of_heap hg]; rfl)).mono ?_
    rintro e w' ⟨rfl, rfl⟩
    exact ⟨rfl, hg, Below.refl B _, rfl, fun _ _ => rfl⟩

/-- append(buf, t...) where the call owns buf. -/
theorem sb_append {B : Nat} {v : Value} {n : Nat} {xs : List Value} (w : World) (t : ByteArray) (ty : TypeId) (hown : w.ownsRow B 5 1 v n xs) (hby : n + t.size ≤ 140737488355328) (hB : B ≤ w.heap.size) :
    ∃ v' w', (Builtin.append_ #[59, 9] ty #[v, .string t]).run Try.prog w = .ok v' w' ∧ w'.ownsRow B 5 1 v' (n + t.size) (xs ++ t.data.toList.map fun c => Value.int .u8 c.toNat) ∧
      ((blk v' = blk v ∧ w'.os = w.os ∧ w'.tape = w.tape ∧ w'.output = w.output ∧ w'.heap.size = w.heap.size ∧ ∀ b, blk v ≠ some b → w'.heap[b]? = w.heap[b]?) ∨ (blk v' = some w.heap.size ∧ Below w.heap.size w w')) := by
  obtain ⟨i, z, hi, hz, hi1, hby1, hzs⟩ := elOk_sound sb_el
  have hbl : (t.data.toList.map fun c => Value.int .u8 c.toNat).length = t.size := by simp
  have := run_app (P := Try.prog) (ty := ty) (x := .string t) (m := t.size) (n := n) (news := t.data.toList.map fun c => Value.int .u8 c.toNat) Try.underlying59 Try.underlying9 (by simp) hi hz (by rw [hzs, hi1]) (by rw [hi1]; exact hown) (by rw [hbl, hi1, Nat.mul_one]) (by simp [Value.oneCell']) (fun w' => rfl) (fun w' _ => by
    rw [hi1]
    have := Lib.run_firstCells_string (P := Try.prog) w' 1 t
    rw [this]; rfl) (by simp only [maxLen]; omega) (by rw [hby1, Nat.mul_one]; exact hby) hB
  rw [hi1] at this
  exact this

theorem sb_wpList {ops : Array Oper} {rest : List Oper} {o : Oper} {a : Act} {Q : Exit → Act → World → Prop} {w : World} (hgd : o.guard = none) (sl x : Operand) (ho : o.op = .call { callee := .builtin .append, args := #[sl, x], argTypes := #[59, 9] })
    (B : Nat) (v : Value) (n : Nat) (xs : List Value) (hs : a.eval sl = v) (hown : w.ownsRow B 5 1 v n xs) (t : ByteArray) (hx : a.eval x = .string t) (hby : n + t.size ≤ 140737488355328) (hB : B ≤ w.heap.size)
    (h : ∀ v' w', w'.ownsRow B 5 1 v' (n + t.size) (xs ++ t.data.toList.map fun c => Value.int .u8 c.toNat) → ((blk v' = blk v ∧ w'.os = w.os ∧ w'.tape = w.tape ∧ w'.output = w.output ∧ w'.heap.size = w.heap.size ∧ ∀ b, blk v ≠ some b → w'.heap[b]? = w.heap[b]?) ∨ (blk v' = some w.heap.size ∧ Below w.heap.size w w')) → wpList Try.prog ops Q rest (a.put o.dst v') w') : wpList Try.prog ops Q (o :: rest) a w := by
  refine wpList_plain hgd fun K hK => ?_
  obtain ⟨v', w', hr, h2, h3⟩ := sb_append w t o.type hown hby hB
  unfold Oper.wp execOp
  simp only [ho, resolve, invoke, builtin, Sem.run_bind, Sem.run_pure, Result.andThen_ok, List.map_toArray, List.map_cons, List.map_nil, hs, hx, hr]
  exact hK _ _ (h v' w' h2 h3)

set_option maxHeartbeats 4000000 in
set_option maxRecDepth 100000 in
theorem sbWrite : SbWrite Try.prog 100 5 63 := by
  intro B b p v bs t w hB hBw hp hg hown hne hle
  have hlt : b < w.heap.size := (Array.getElem?_eq_some_iff.1 hg).1
  go_enter Try.func63, Try.ntmps63
  go_wp2_with (go_at_call 89; refine (sb_check B b p v _ hB hp hg).mono ?_)
  rintro e w1 ⟨rfl, hg1, hb1, hs1, hk1⟩
  have c0 : w1.cell? ⟨b, 0, none⟩ = some (.pointer (some ⟨b, 0, none⟩)) := by rw [Lib.cell_of_heap hg1]; rfl
  have c1 : w1.cell? ⟨b, 1, none⟩ = some v := by rw [Lib.cell_of_heap hg1]; rfl
  have hown1 : w1.ownsRow B 5 1 v bs.length bs := ownsRow_keep hown fun b' hb' => hk1 b' fun e => hne (by rw [← e]; exact hb')
  go_wp2_with (at_builtin; refine sb_wpList rfl _ _ rfl B _ _ _ rfl hown1 t rfl ?c4 ?c5 ?_)
  case c4 => simpa [maxBytes] using hle
  case c5 => omega
  intro v' w2 hown' hcase
  have hkeep : ∀ k, k < w1.heap.size → blk v ≠ some k → w2.heap[k]? = w1.heap[k]? := fun k h1 h2 => by
    rcases hcase with ⟨_, _, _, _, _, h⟩ | ⟨_, h⟩
    · exact h k h2
    · exact h.block k (by omega)
  have hsz : w1.heap.size ≤ w2.heap.size := by
    rcases hcase with ⟨_, _, _, _, h, _⟩ | ⟨_, h⟩
    · omega
    · exact h.size
  have hb2 : w2.heap[b]? = some (.cells #[.pointer (some ⟨b, 0, none⟩), v] 100 (0, 0)) := by
    rw [hkeep b (by omega) hne]; exact hg1
  have hbel : Below B w1 w2 := by
    rcases hcase with ⟨h0, h1, h2, h3, h4, h5⟩ | ⟨_, h⟩
    · refine ⟨h1, h2, h3, by omega, fun k hk => h5 k fun e => ?_⟩
      have := (owns_block hown1 e).1
      omega
    · exact h.mono (by omega)
  have d0 : w2.cell? ⟨b, 0, none⟩ = some (.pointer (some ⟨b, 0, none⟩)) := by rw [Lib.cell_of_heap hb2]; rfl
  have d1 : w2.cell? ⟨b, 1, none⟩ = some v := by rw [Lib.cell_of_heap hb2]; rfl
  have f1 : w2.frozen? ⟨b, 1, none⟩ = false := Lib.frozen_of_heap hb2 1
  have hv1 : v'.oneCell' = true := owns_one' hown'
  obtain ⟨ao, n', cap, rfl⟩ : ∃ ao n' cap, v' = .slice ao n' cap := by
    rcases hown'.2 with ⟨h, _⟩ | ⟨_, _, _, h, _⟩
    · exact ⟨_, _, _, h⟩
    · exact ⟨_, _, _, h⟩
  go_wp2
  go_ret2
  have hnb : blk (.slice ao n' cap) ≠ some b := fun e => by
    rcases hcase with ⟨h, _⟩ | ⟨h, _⟩
    · rw [h] at e; exact hne e
    · rw [h] at e; simp at e; omega
  refine ⟨rfl, .slice ao n' cap, ?_, ?_, ?_, ?_, ?_⟩
  · simp [World.setCell, Array.getElem?_modify, hb2]
  · exact ownsRow_keep hown' fun k hk => Below.heap_setCell _ _ _ _ fun e => hnb (by rw [hk]; rw [e])
  · rcases hcase with ⟨h, _⟩ | ⟨h, _⟩
    · exact .inl h
    · exact .inr ⟨_, h, by omega⟩
  · exact (hb1.trans hbel).setCell (p := ⟨b, 1, none⟩) hB _
  · intro k h1 h2 h3
    rw [Below.heap_setCell _ _ _ _ h2, hkeep k (by omega) h3, hk1 k h2]

end Go.Proofs.Ytomnggbideepeaa.AM

end
section
/- (*strings.Builder).WriteRune, utf8.AppendRune, walked over this program for the small machine. No condition. -/
namespace Go.Proofs.Ytomnggbideepeaa.AM
open Go.RowKit
set_option linter.unusedVariables false
set_option linter.unusedSimpArgs false


/-- What an append to a row that the call owns does to memory. -/
def Grew (w w' : World) (v v' : Value) : Prop := (blk v' = blk v ∧ w'.os = w.os ∧ w'.tape = w.tape ∧ w'.output = w.output ∧ w.heap.size ≤ w'.heap.size ∧ ∀ b, b < w.heap.size → blk v ≠ some b → w'.heap[b]? = w.heap[b]?) ∨ ((∃ c, blk v' = some c ∧ w.heap.size ≤ c) ∧ Below w.heap.size w w')

def GrewAt (w w' : World) (v v' : Value) : Prop := ((blk v' = blk v ∧ w'.os = w.os ∧ w'.tape = w.tape ∧ w'.output = w.output ∧ w'.heap.size = w.heap.size ∧ ∀ b, blk v ≠ some b → w'.heap[b]? = w.heap[b]?) ∨ (blk v' = some w.heap.size ∧ Below w.heap.size w w'))
theorem sb_wpListS {ops : Array Oper} {rest : List Oper} {o : Oper} {a : Act} {Q : Exit → Act → World → Prop} {w : World} (hgd : o.guard = none) (sl x : Operand) (ho : o.op = .call { callee := .builtin .append, args := #[sl, x], argTypes := #[59, 59] })
    (B : Nat) (v : Value) (n : Nat) (xs : List Value) (hs : a.eval sl = v) (hown : w.ownsRow B 5 1 v n xs) (ad : Addr) (m c : Nat) (news : List Value) (hx : a.eval x = .slice (some ad) m c) (hl : news.length = m) (hnews : ∀ j u, news[j]? = some u → w.cell? (ad.add j) = some u) (h1 : ∀ u ∈ news, u.oneCell' = true)
    (hby : n + m ≤ 140737488355328) (hB : B ≤ w.heap.size)
    (h : ∀ v' w', w'.ownsRow B 5 1 v' (n + m) (xs ++ news) → GrewAt w w' v v' → wpList Try.prog ops Q rest (a.put o.dst v') w') : wpList Try.prog ops Q (o :: rest) a w := by
  refine wpList_plain hgd fun K hK => ?_
  obtain ⟨i, z, hi, hz, hi1, hby1, hzs⟩ := elOk_sound sb_el
  obtain ⟨v', w', hr, h2, h3⟩ := run_app (P := Try.prog) (ty := o.type) (x := .slice (some ad) m c) (m := m) (n := n) (news := news) Try.underlying59 Try.underlying59 (by simp) hi hz (by rw [hzs, hi1]) (by rw [hi1]; exact hown) (by rw [hi1, Nat.mul_one]; exact hl) h1 (fun w' => rfl) (fun w' hw' => by
    rw [hi1]
    exact run_firstCells_some (w := w') (size := 1) (n := m) (b := ad) (len := m) (cap := c) (cs := news) (by rw [Nat.mul_one]; exact hl) (fun j u hu => (World.cell?_of_block (a := ad.add j) (by rw [hw'])).trans (hnews j u hu))) (by simp only [maxLen]; omega) (by rw [hby1, Nat.mul_one]; exact hby) hB
  rw [hi1] at h2
  unfold Oper.wp execOp
  simp only [ho, resolve, invoke, builtin, Sem.run_bind, Sem.run_pure, Result.andThen_ok, List.map_toArray, List.map_cons, List.map_nil, hs, hx, hr]
  exact hK _ _ (h v' w' h2 h3)

theorem grew_alloc {w w' : World} {v v' : Value} {o : Obj} (hv : ∀ b, blk v = some b → b < w.heap.size) (h : GrewAt (w.alloc o) w' v v') : Grew w w' v v' := by
  have hb := (Below.refl w.heap.size w).alloc (Nat.le_refl _) o
  rcases h with ⟨h0, h1, h2, h3, h4, h5⟩ | ⟨h0, h1⟩
  · refine .inl ⟨h0, h1.trans hb.os, h2.trans hb.tape, h3.trans hb.output, by rw [h4]; exact hb.size, fun b hb1 hb2 => (h5 b hb2).trans (Lib.alloc_old _ _ _ hb1)⟩
  · exact .inr ⟨⟨_, h0, hb.size⟩, hb.trans (h1.mono hb.size)⟩
set_option maxHeartbeats 4000000 in
set_option maxRecDepth 100000 in
theorem sr_two (B : Nat) (v : Value) (n : Nat) (xs : List Value) (r : Int) (h0 : 128 ≤ r) (h1 : r ≤ 2047) (w : World) (hown : w.ownsRow B 5 1 v n xs) (hlen : n + 4 ≤ 140737488355328) (hBw : B ≤ w.heap.size) :
    Calls Try.prog 121 #[v, .int .i32 r] w fun e w' => ∃ v', e = .returned v' ∧ w'.ownsRow B 5 1 v' (n + 2) (xs ++ [.int .u8 (192 + r / 64), .int .u8 (128 + r % 64)]) ∧ Grew w w' v v' := by
  have hvb : ∀ b, blk v = some b → b < w.heap.size := fun b hb => (owns_block hown hb).2
  go_enter Try.func121, Try.ntmps121
  go_wp2_with (at_builtin; refine sb_wpListS rfl _ _ rfl B _ _ _ rfl (hown.alloc _) ⟨w.heap.size, 0, none⟩ 2 2 [.int .u8 (192 + r / 64), .int .u8 (128 + r % 64)] rfl rfl ?c1 ?c2 ?c4 ?c5 ?_)
  all_goals first
    | (intro v' w2 hown' hgrow; go_wp2; go_ret; exact ⟨v', rfl, hown', grew_alloc hvb hgrow⟩)
    | omega
    | exact ⟨rfl, rfl, rfl⟩
    | (simp; omega)
    | (intro u hu; simp at hu; rcases hu with rfl | rfl <;> rfl)
    | (intro j u hj
       match j, hj with
       | 0, hj => simp at hj; subst hj; simp [Addr.add]
       | 1, hj => simp at hj; subst hj; simp [Addr.add]
       | (j + 2), hj => simp at hj)
set_option maxHeartbeats 4000000 in
set_option maxRecDepth 100000 in
theorem sr_three_lo (B : Nat) (v : Value) (n : Nat) (xs : List Value) (r : Int) (h0 : 2048 ≤ r) (h1 : r < 55296) (w : World) (hown : w.ownsRow B 5 1 v n xs) (hlen : n + 4 ≤ 140737488355328) (hBw : B ≤ w.heap.size) :
    Calls Try.prog 121 #[v, .int .i32 r] w fun e w' => ∃ v', e = .returned v' ∧ w'.ownsRow B 5 1 v' (n + 3) (xs ++ [.int .u8 (224 + r / 4096), .int .u8 (128 + r / 64 % 64), .int .u8 (128 + r % 64)]) ∧ Grew w w' v v' := by
  have hvb : ∀ b, blk v = some b → b < w.heap.size := fun b hb => (owns_block hown hb).2
  go_enter Try.func121, Try.ntmps121
  go_wp2_with (at_builtin; refine sb_wpListS rfl _ _ rfl B _ _ _ rfl (hown.alloc _) ⟨w.heap.size, 0, none⟩ 3 3 [.int .u8 (224 + r / 4096), .int .u8 (128 + r / 64 % 64), .int .u8 (128 + r % 64)] rfl rfl ?c1 ?c2 ?c4 ?c5 ?_)
  all_goals first
    | (intro v' w2 hown' hgrow; go_wp2; go_ret; exact ⟨v', rfl, hown', grew_alloc hvb hgrow⟩)
    | omega
    | exact ⟨rfl, rfl, rfl⟩
    | (simp; omega)
    | (intro u hu; simp at hu; rcases hu with rfl | rfl | rfl <;> rfl)
    | (intro j u hj
       match j, hj with
       | 0, hj => simp at hj; subst hj; simp [Addr.add]
       | 1, hj => simp at hj; subst hj; simp [Addr.add]
       | 2, hj => simp at hj; subst hj; simp [Addr.add]
       | (j + 3), hj => simp at hj)
set_option maxHeartbeats 4000000 in
set_option maxRecDepth 100000 in
theorem sr_three_hi (B : Nat) (v : Value) (n : Nat) (xs : List Value) (r : Int) (h0 : 57343 < r) (h1 : r ≤ 65535) (w : World) (hown : w.ownsRow B 5 1 v n xs) (hlen : n + 4 ≤ 140737488355328) (hBw : B ≤ w.heap.size) :
    Calls Try.prog 121 #[v, .int .i32 r] w fun e w' => ∃ v', e = .returned v' ∧ w'.ownsRow B 5 1 v' (n + 3) (xs ++ [.int .u8 (224 + r / 4096), .int .u8 (128 + r / 64 % 64), .int .u8 (128 + r % 64)]) ∧ Grew w w' v v' := by
  have hvb : ∀ b, blk v = some b → b < w.heap.size := fun b hb => (owns_block hown hb).2
  go_enter Try.func121, Try.ntmps121
  go_wp2_with (at_builtin; refine sb_wpListS rfl _ _ rfl B _ _ _ rfl (hown.alloc _) ⟨w.heap.size, 0, none⟩ 3 3 [.int .u8 (224 + r / 4096), .int .u8 (128 + r / 64 % 64), .int .u8 (128 + r % 64)] rfl rfl ?c1 ?c2 ?c4 ?c5 ?_)
  all_goals first
    | (intro v' w2 hown' hgrow; go_wp2; go_ret; exact ⟨v', rfl, hown', grew_alloc hvb hgrow⟩)
    | omega
    | exact ⟨rfl, rfl, rfl⟩
    | (simp; omega)
    | (intro u hu; simp at hu; rcases hu with rfl | rfl | rfl <;> rfl)
    | (intro j u hj
       match j, hj with
       | 0, hj => simp at hj; subst hj; simp [Addr.add]
       | 1, hj => simp at hj; subst hj; simp [Addr.add]
       | 2, hj => simp at hj; subst hj; simp [Addr.add]
       | (j + 3), hj => simp at hj)
set_option maxHeartbeats 4000000 in
set_option maxRecDepth 100000 in
theorem sr_four (B : Nat) (v : Value) (n : Nat) (xs : List Value) (r : Int) (h0 : 65536 ≤ r) (h1 : r ≤ 1114111) (w : World) (hown : w.ownsRow B 5 1 v n xs) (hlen : n + 4 ≤ 140737488355328) (hBw : B ≤ w.heap.size) :
    Calls Try.prog 121 #[v, .int .i32 r] w fun e w' => ∃ v', e = .returned v' ∧ w'.ownsRow B 5 1 v' (n + 4) (xs ++ [.int .u8 (240 + r / 262144), .int .u8 (128 + r / 4096 % 64), .int .u8 (128 + r / 64 % 64), .int .u8 (128 + r % 64)]) ∧ Grew w w' v v' := by
  have hvb : ∀ b, blk v = some b → b < w.heap.size := fun b hb => (owns_block hown hb).2
  go_enter Try.func121, Try.ntmps121
  go_wp2_with (at_builtin; refine sb_wpListS rfl _ _ rfl B _ _ _ rfl (hown.alloc _) ⟨w.heap.size, 0, none⟩ 4 4 [.int .u8 (240 + r / 262144), .int .u8 (128 + r / 4096 % 64), .int .u8 (128 + r / 64 % 64), .int .u8 (128 + r % 64)] rfl rfl ?c1 ?c2 ?c4 ?c5 ?_)
  all_goals first
    | (intro v' w2 hown' hgrow; go_wp2; go_ret; exact ⟨v', rfl, hown', grew_alloc hvb hgrow⟩)
    | omega
    | exact ⟨rfl, rfl, rfl⟩
    | (simp; omega)
    | (intro u hu; simp at hu; rcases hu with rfl | rfl | rfl | rfl <;> rfl)
    | (intro j u hj
       match j, hj with
       | 0, hj => simp at hj; subst hj; simp [Addr.add]
       | 1, hj => simp at hj; subst hj; simp [Addr.add]
       | 2, hj => simp at hj; subst hj; simp [Addr.add]
       | 3, hj => simp at hj; subst hj; simp [Addr.add]
       | (j + 4), hj => simp at hj)
set_option maxHeartbeats 4000000 in
set_option maxRecDepth 100000 in
theorem sr_bad_neg (B : Nat) (v : Value) (n : Nat) (xs : List Value) (r : Int) (h0 : -2147483648 ≤ r) (h1 : r < 0) (w : World) (hown : w.ownsRow B 5 1 v n xs) (hlen : n + 4 ≤ 140737488355328) (hBw : B ≤ w.heap.size) :
    Calls Try.prog 121 #[v, .int .i32 r] w fun e w' => ∃ v', e = .returned v' ∧ w'.ownsRow B 5 1 v' (n + 3) (xs ++ [.int .u8 (239), .int .u8 (191), .int .u8 (189)]) ∧ Grew w w' v v' := by
  have hvb : ∀ b, blk v = some b → b < w.heap.size := fun b hb => (owns_block hown hb).2
  go_enter Try.func121, Try.ntmps121
  go_wp2_with (at_builtin; refine sb_wpListS rfl _ _ rfl B _ _ _ rfl (hown.alloc _) ⟨w.heap.size, 0, none⟩ 3 3 [.int .u8 (239), .int .u8 (191), .int .u8 (189)] rfl rfl ?c1 ?c2 ?c4 ?c5 ?_)
  all_goals first
    | (intro v' w2 hown' hgrow; go_wp2; go_ret; exact ⟨v', rfl, hown', grew_alloc hvb hgrow⟩)
    | omega
    | exact ⟨rfl, rfl, rfl⟩
    | (simp; omega)
    | (intro u hu; simp at hu; rcases hu with rfl | rfl | rfl <;> rfl)
    | (intro j u hj
       match j, hj with
       | 0, hj => simp at hj; subst hj; simp [Addr.add]
       | 1, hj => simp at hj; subst hj; simp [Addr.add]
       | 2, hj => simp at hj; subst hj; simp [Addr.add]
       | (j + 3), hj => simp at hj)
set_option maxHeartbeats 4000000 in
set_option maxRecDepth 100000 in
theorem sr_bad_sur (B : Nat) (v : Value) (n : Nat) (xs : List Value) (r : Int) (h0 : 55296 ≤ r) (h1 : r ≤ 57343) (w : World) (hown : w.ownsRow B 5 1 v n xs) (hlen : n + 4 ≤ 140737488355328) (hBw : B ≤ w.heap.size) :
    Calls Try.prog 121 #[v, .int .i32 r] w fun e w' => ∃ v', e = .returned v' ∧ w'.ownsRow B 5 1 v' (n + 3) (xs ++ [.int .u8 (239), .int .u8 (191), .int .u8 (189)]) ∧ Grew w w' v v' := by
  have hvb : ∀ b, blk v = some b → b < w.heap.size := fun b hb => (owns_block hown hb).2
  go_enter Try.func121, Try.ntmps121
  go_wp2_with (at_builtin; refine sb_wpListS rfl _ _ rfl B _ _ _ rfl (hown.alloc _) ⟨w.heap.size, 0, none⟩ 3 3 [.int .u8 (239), .int .u8 (191), .int .u8 (189)] rfl rfl ?c1 ?c2 ?c4 ?c5 ?_)
  all_goals first
    | (intro v' w2 hown' hgrow; go_wp2; go_ret; exact ⟨v', rfl, hown', grew_alloc hvb hgrow⟩)
    | omega
    | exact ⟨rfl, rfl, rfl⟩
    | (simp; omega)
    | (intro u hu; simp at hu; rcases hu with rfl | rfl | rfl <;> rfl)
    | (intro j u hj
       match j, hj with
       | 0, hj => simp at hj; subst hj; simp [Addr.add]
       | 1, hj => simp at hj; subst hj; simp [Addr.add]
       | 2, hj => simp at hj; subst hj; simp [Addr.add]
       | (j + 3), hj => simp at hj)
set_option maxHeartbeats 4000000 in
set_option maxRecDepth 100000 in
theorem sr_bad_big (B : Nat) (v : Value) (n : Nat) (xs : List Value) (r : Int) (h0 : 1114111 < r) (h1 : r ≤ 2147483647) (w : World) (hown : w.ownsRow B 5 1 v n xs) (hlen : n + 4 ≤ 140737488355328) (hBw : B ≤ w.heap.size) :
    Calls Try.prog 121 #[v, .int .i32 r] w fun e w' => ∃ v', e = .returned v' ∧ w'.ownsRow B 5 1 v' (n + 3) (xs ++ [.int .u8 (239), .int .u8 (191), .int .u8 (189)]) ∧ Grew w w' v v' := by
  have hvb : ∀ b, blk v = some b → b < w.heap.size := fun b hb => (owns_block hown hb).2
  go_enter Try.func121, Try.ntmps121
  go_wp2_with (at_builtin; refine sb_wpListS rfl _ _ rfl B _ _ _ rfl (hown.alloc _) ⟨w.heap.size, 0, none⟩ 3 3 [.int .u8 (239), .int .u8 (191), .int .u8 (189)] rfl rfl ?c1 ?c2 ?c4 ?c5 ?_)
  all_goals first
    | (intro v' w2 hown' hgrow; go_wp2; go_ret; exact ⟨v', rfl, hown', grew_alloc hvb hgrow⟩)
    | omega
    | exact ⟨rfl, rfl, rfl⟩
    | (simp; omega)
    | (intro u hu; simp at hu; rcases hu with rfl | rfl | rfl <;> rfl)
    | (intro j u hj
       match j, hj with
       | 0, hj => simp at hj; subst hj; simp [Addr.add]
       | 1, hj => simp at hj; subst hj; simp [Addr.add]
       | 2, hj => simp at hj; subst hj; simp [Addr.add]
       | (j + 3), hj => simp at hj)
set_option maxHeartbeats 4000000 in
set_option maxRecDepth 100000 in
theorem sr_ascii (B : Nat) (v : Value) (n : Nat) (xs : List Value) (r : Int) (h0 : 0 ≤ r) (h1 : r ≤ 127) (w : World) (hown : w.ownsRow B 5 1 v n xs) (hlen : n + 4 ≤ 140737488355328) (hBw : B ≤ w.heap.size) :
    Calls Try.prog 113 #[v, .int .i32 r] w fun e w' => ∃ v', e = .returned v' ∧ w'.ownsRow B 5 1 v' (n + 1) (xs ++ [.int .u8 (r)]) ∧ Grew w w' v v' := by
  have hvb : ∀ b, blk v = some b → b < w.heap.size := fun b hb => (owns_block hown hb).2
  go_enter Try.func113, Try.ntmps113
  go_wp2_with (at_builtin; refine sb_wpListS rfl _ _ rfl B _ _ _ rfl (hown.alloc _) ⟨w.heap.size, 0, none⟩ 1 1 [.int .u8 (r)] rfl rfl ?c1 ?c2 ?c4 ?c5 ?_)
  all_goals first
    | (intro v' w2 hown' hgrow; go_wp2; go_ret; exact ⟨v', rfl, hown', grew_alloc hvb hgrow⟩)
    | omega
    | exact ⟨rfl, rfl, rfl⟩
    | (simp; omega)
    | (intro u hu; simp at hu; subst hu; rfl)
    | (intro j u hj
       match j, hj with
       | 0, hj => simp at hj; subst hj; simp [Addr.add]
       | (j + 1), hj => simp at hj)

theorem sr_none (B : Nat) (v : Value) (n : Nat) (xs : List Value) (r : Int) (hr0 : -2147483648 ≤ r) (hr1 : r ≤ 2147483647) (hna : r < 0 ∨ 128 ≤ r) (w : World) (hown : w.ownsRow B 5 1 v n xs) (hlen : n + 4 ≤ 140737488355328) (hBw : B ≤ w.heap.size) :
    Calls Try.prog 121 #[v, .int .i32 r] w fun e w' => ∃ v', e = .returned v' ∧ w'.ownsRow B 5 1 v' (n + (Lib.runeCells r).length) (xs ++ Lib.runeCells r) ∧ Grew w w' v v' := by
  by_cases c0 : r < 0
  · rw [show Lib.runeCells r = [.int .u8 239, .int .u8 191, .int .u8 189] by simp [Lib.runeCells, Lib.encodeRuneZ_bad (Or.inl c0)]]
    exact sr_bad_neg B v n xs r hr0 c0 w hown hlen hBw
  by_cases c1 : r ≤ 2047
  · rw [show Lib.runeCells r = [.int .u8 (192 + r / 64), .int .u8 (128 + r % 64)] by simp [Lib.runeCells, Lib.encodeRuneZ_two (by omega) c1]]
    exact sr_two B v n xs r (by omega) c1 w hown hlen hBw
  by_cases c2 : r < 55296
  · rw [show Lib.runeCells r = [.int .u8 (224 + r / 4096), .int .u8 (128 + r / 64 % 64), .int .u8 (128 + r % 64)] by simp [Lib.runeCells, Lib.encodeRuneZ_three (Or.inl ⟨by omega, c2⟩)]]
    exact sr_three_lo B v n xs r (by omega) c2 w hown hlen hBw
  by_cases c3 : r ≤ 57343
  · rw [show Lib.runeCells r = [.int .u8 239, .int .u8 191, .int .u8 189] by simp [Lib.runeCells, Lib.encodeRuneZ_bad (Or.inr (Or.inl ⟨by omega, c3⟩))]]
    exact sr_bad_sur B v n xs r (by omega) c3 w hown hlen hBw
  by_cases c4 : r ≤ 65535
  · rw [show Lib.runeCells r = [.int .u8 (224 + r / 4096), .int .u8 (128 + r / 64 % 64), .int .u8 (128 + r % 64)] by simp [Lib.runeCells, Lib.encodeRuneZ_three (Or.inr ⟨by omega, c4⟩)]]
    exact sr_three_hi B v n xs r (by omega) c4 w hown hlen hBw
  by_cases c5 : r ≤ 1114111
  · rw [show Lib.runeCells r = [.int .u8 (240 + r / 262144), .int .u8 (128 + r / 4096 % 64), .int .u8 (128 + r / 64 % 64), .int .u8 (128 + r % 64)] by simp [Lib.runeCells, Lib.encodeRuneZ_four (by omega) c5]]
    exact sr_four B v n xs r (by omega) c5 w hown hlen hBw
  · rw [show Lib.runeCells r = [.int .u8 239, .int .u8 191, .int .u8 189] by simp [Lib.runeCells, Lib.encodeRuneZ_bad (r := r) (Or.inr (Or.inr (by omega)))]]
    exact sr_bad_big B v n xs r (by omega) hr1 w hown hlen hBw

set_option maxHeartbeats 4000000 in
set_option maxRecDepth 100000 in
theorem sr_all (B : Nat) (v : Value) (n : Nat) (xs : List Value) (r : Int) (hr0 : -2147483648 ≤ r) (hr1 : r ≤ 2147483647) (w : World) (hown : w.ownsRow B 5 1 v n xs) (hlen : n + 4 ≤ 140737488355328) (hBw : B ≤ w.heap.size) :
    Calls Try.prog 113 #[v, .int .i32 r] w fun e w' => ∃ v', e = .returned v' ∧ w'.ownsRow B 5 1 v' (n + (Lib.runeCells r).length) (xs ++ Lib.runeCells r) ∧ Grew w w' v v' := by
  by_cases c : 0 ≤ r ∧ r ≤ 127
  · rw [show Lib.runeCells r = [.int .u8 r] by simp [Lib.runeCells, Lib.encodeRuneZ_one c.1 c.2]]
    exact sr_ascii B v n xs r c.1 c.2 w hown hlen hBw
  · have hna : r < 0 ∨ 128 ≤ r := by omega
    clear c
    rcases hna with hna | hna
    all_goals
      go_enter Try.func113, Try.ntmps113
      go_wp2_with (go_at_call 121; refine (sr_none B v n xs r hr0 hr1 (by omega) _ hown hlen hBw).mono ?_)
      rintro e w1 ⟨v', rfl, h1, h2⟩
      go_wp2
      go_ret
      exact ⟨_, rfl, h1, h2⟩

set_option maxHeartbeats 4000000 in
set_option maxRecDepth 100000 in
theorem sbRune : SbRune Try.prog 100 5 98 := by
  intro B b p v bs r w hr0 hr1 hB hBw hp hg hown hne hle
  have hlt : b < w.heap.size := (Array.getElem?_eq_some_iff.1 hg).1
  have hk4 := Lib.runeCells_le r
  go_enter Try.func98, Try.ntmps98
  go_wp2_with (go_at_call 89; refine (sb_check B b p v _ hB hp hg).mono ?_)
  rintro e w1 ⟨rfl, hg1, hb1, hs1, hk1⟩
  have hown1 : w1.ownsRow B 5 1 v bs.length bs := ownsRow_keep hown fun b' hb' => hk1 b' fun e => hne (by rw [← e]; exact hb')
  obtain ⟨ao, cap, rfl⟩ : ∃ ao cap, v = .slice ao bs.length cap := by
    rcases hown.2 with ⟨hv, h0⟩ | ⟨g, cap, cur, hv, _⟩
    · exact ⟨none, 0, by rw [hv]; simp [h0]⟩
    · exact ⟨_, _, hv⟩
  have c0 : w1.cell? ⟨b, 0, none⟩ = some (.pointer (some ⟨b, 0, none⟩)) := by rw [Lib.cell_of_heap hg1]; rfl
  have c1 : w1.cell? ⟨b, 1, none⟩ = some (.slice ao bs.length cap) := by rw [Lib.cell_of_heap hg1]; rfl
  go_wp2_with (go_at_call 113; refine (sr_all B _ bs.length bs r hr0 hr1 _ hown1 (by simpa [maxBytes] using hle) (by omega)).mono ?_)
  rintro e w2 ⟨v', rfl, hown', hgrow⟩
  have hkeep : ∀ k, k < w1.heap.size → blk (.slice ao bs.length cap) ≠ some k → w2.heap[k]? = w1.heap[k]? := fun k h1 h2 => by
    rcases hgrow with ⟨_, _, _, _, _, h⟩ | ⟨_, h⟩
    · exact h k (by omega) h2
    · exact h.block k (by omega)
  have hb2 : w2.heap[b]? = some (.cells #[.pointer (some ⟨b, 0, none⟩), .slice ao bs.length cap] 100 (0, 0)) := by
    rw [hkeep b (by omega) hne]; exact hg1
  have hbel : Below B w1 w2 := by
    rcases hgrow with ⟨h0, h1, h2, h3, h4, h5⟩ | ⟨_, h⟩
    · refine ⟨h1, h2, h3, by omega, fun k hk => h5 k (by omega) fun e => ?_⟩
      have := (owns_block hown1 e).1
      omega
    · exact h.mono (by omega)
  have d0 : w2.cell? ⟨b, 0, none⟩ = some (.pointer (some ⟨b, 0, none⟩)) := by rw [Lib.cell_of_heap hb2]; rfl
  have d1 : w2.cell? ⟨b, 1, none⟩ = some (.slice ao bs.length cap) := by rw [Lib.cell_of_heap hb2]; rfl
  have f1 : w2.frozen? ⟨b, 1, none⟩ = false := Lib.frozen_of_heap hb2 1
  obtain ⟨ao', cap', rfl⟩ : ∃ ao' cap', v' = .slice ao' (bs.length + (Lib.runeCells r).length) cap' := by
    rcases hown'.2 with ⟨_, h0⟩ | ⟨g, cap', cur, hv, _⟩
    · omega
    · exact ⟨_, cap', hv⟩
  go_wp2
  go_ret2
  have hnb : blk (.slice ao' (bs.length + (Lib.runeCells r).length) cap') ≠ some b := fun e => by
    rcases hgrow with ⟨h, _⟩ | ⟨⟨c, h, hc⟩, _⟩
    · rw [h] at e; exact hne e
    · rw [h] at e; simp at e; omega
  refine ⟨?_, .slice ao' (bs.length + (Lib.runeCells r).length) cap', ?_, ?_, ?_, ?_, ?_⟩
  · have e : ((bs.length : Int) + ((Lib.runeCells r).length : Int) - (bs.length : Int)) = ((Lib.runeCells r).length : Int) := by omega
    simp [e]
  · simp [World.setCell, Array.getElem?_modify, hb2]
  · exact ownsRow_keep hown' fun k hk => Below.heap_setCell _ _ _ _ fun e => hnb (by rw [hk]; rw [e])
  · rcases hgrow with ⟨h, _⟩ | ⟨⟨c, h, hc⟩, _⟩
    · exact .inl h
    · exact .inr ⟨_, h, by omega⟩
  · exact (hb1.trans hbel).setCell (p := ⟨b, 1, none⟩) hB _
  · intro k h1 h2 h3
    rw [Below.heap_setCell _ _ _ _ h2, hkeep k (by omega) h3, hk1 k h2]
end Go.Proofs.Ytomnggbideepeaa.AM

end
section
/- Functions walked by hand for the small machine: utf.forms, and what grows by append. No condition. -/
namespace Go.Proofs.Ytomnggbideepeaa.AM
open Go.RowKit
set_option linter.unusedVariables false
set_option linter.unusedSimpArgs false

theorem app_wpList {ops : Array Oper} {rest : List Oper} {o : Oper} {a : Act} {Q : Exit → Act → World → Prop} {w : World} {P : Program} {t e : TypeId} {k by_ : Nat} (ht : P.underlying t = some (.slice e)) (hel : elOk P e k by_ = true) (hgd : o.guard = none) (sl x : Operand) (ho : o.op = .call { callee := .builtin .append, args := #[sl, x], argTypes := #[t, t] })
    (B : Nat) (v : Value) (n : Nat) (xs : List Value) (hs : a.eval sl = v) (hown : w.ownsRow B e k v n xs) (ad : Option Addr) (m c : Nat) (news : List Value) (hx : a.eval x = .slice ad m c) (hl : news.length = m * k) (hnews : m = 0 ∨ ∃ a', ad = some a' ∧ ∀ j u, news[j]? = some u → w.cell? (a'.add j) = some u) (h1 : ∀ u ∈ news, u.oneCell' = true)
    (hby : (n + m) * by_ ≤ 140737488355328) (h63 : n + m ≤ 9223372036854775807) (hB : B ≤ w.heap.size)
    (h : ∀ v' w', w'.ownsRow B e k v' (n + m) (xs ++ news) → GrewAt w w' v v' → wpList P ops Q rest (a.put o.dst v') w') : wpList P ops Q (o :: rest) a w := by
  refine wpList_plain hgd fun K hK => ?_
  obtain ⟨i, z, hi, hz, hi1, hby1, hzs⟩ := elOk_sound hel
  obtain ⟨v', w', hr, h2, h3⟩ := run_app (P := P) (ty := o.type) (x := .slice ad m c) (m := m) (n := n) (news := news) ht ht (by simp) hi hz (by rw [hzs, hi1]) (by rw [hi1]; exact hown) (by rw [hi1]; exact hl) h1 (fun w' => rfl) (fun w' hw' => by
    rw [hi1]
    rcases hnews with rfl | ⟨a', rfl, hn⟩
    · have hn0 : news = [] := List.eq_nil_of_length_eq_zero (by rw [hl]; simp)
      subst hn0
      cases ad with
      | none => exact run_firstCells_none _ _ _ _ _
      | some a' => exact run_firstCells_some (w := w') (size := k) (n := 0) (b := a') (len := 0) (cap := c) (cs := []) (by simp) (fun j u hu => by simp at hu)
    · exact run_firstCells_some (w := w') (size := k) (n := m) (b := a') (len := m) (cap := c) (cs := news) hl (fun j u hu => (World.cell?_of_block (a := a'.add j) (by rw [hw'])).trans (hn j u hu))) (by simp only [maxLen]; omega) (by rw [hby1]; exact hby) hB
  rw [hi1] at h2
  unfold Oper.wp execOp
  simp only [ho, resolve, invoke, builtin, Sem.run_bind, Sem.run_pure, Result.andThen_ok, List.map_toArray, List.map_cons, List.map_nil, hs, hx, hr]
  exact hK _ _ (h v' w' h2 h3)

theorem grew_below {w w' : World} {v v' : Value} {B : Nat} (h : GrewAt w w' v v') (hB : B ≤ w.heap.size) (hv : ∀ b, blk v = some b → B ≤ b) : Below B w w' := by
  rcases h with ⟨h0, h1, h2, h3, h4, h5⟩ | ⟨_, h⟩
  · exact ⟨h1, h2, h3, by omega, fun k hk => h5 k fun e => by have := hv k e; omega⟩
  · exact h.mono hB

set_option maxHeartbeats 4000000 in
set_option maxRecDepth 100000 in
theorem forms_ok : CallOK' Try.prog 114 [] (.val (.st [pI .u8 128, pI .u8 0, pI .i32 0, pI .u8 224, pI .u8 192, pI .i32 128, pI .u8 240, pI .u8 224, pI .i32 2048, pI .u8 248, pI .u8 240, pI .i32 65536])) := by
  intro w0 lm0 vs _ hvs
  cases hvs
  have main : Calls Try.prog 114 #[] w0 fun e w' => e = .returned (.agg #[.int .u8 128, .int .u8 0, .int .i32 0, .int .u8 224, .int .u8 192, .int .i32 128, .int .u8 240, .int .u8 224, .int .i32 2048, .int .u8 248, .int .u8 240, .int .i32 65536]) ∧ Below w0.heap.size w0 w' := by
    go_enter Try.func114, Try.ntmps114
    go_wp2
    exact bodyPost_ret (v := .agg #[.int .u8 128, .int .u8 0, .int .i32 0, .int .u8 224, .int .u8 192, .int .i32 128, .int .u8 240, .int .u8 224, .int .i32 2048, .int .u8 248, .int .u8 240, .int .i32 65536]) (by simp [results, Try.results114, go_sem]) rfl ⟨rfl, (Below.refl _ _).alloc (Nat.le_refl _) _⟩
  refine main.mono ?_
  rintro e w' ⟨rfl, hb⟩
  let lm' : Nat → Nat := fun b => if b < w0.heap.size then lm0 b else 0
  refine ⟨_, lm', rfl, hb, fun b hb => if_pos hb, ?_⟩
  refine Rep.st (vs := [.int .u8 128, .int .u8 0, .int .i32 0, .int .u8 224, .int .u8 192, .int .i32 128, .int .u8 240, .int .u8 224, .int .i32 2048, .int .u8 248, .int .u8 240, .int .i32 65536]) ?_ (by simp [Value.oneCell'])
  repeat' first | exact .nil | refine .cons (.sc _) ?_
end Go.Proofs.Ytomnggbideepeaa.AM

end
section
/- The tree's all, walked by hand: what it tells. No condition. -/
namespace Go.Proofs.Ytomnggbideepeaa.AM
open Go.RowKit
set_option linter.unusedVariables false
set_option linter.unusedSimpArgs false
structure As (p : Prop) : Prop where
  out : p
theorem rep_row {w : World} {lm : Nat → Nat} {k : Nat} {al : List (List PV)} {v : Value} (hv : Rep w lm (.sl k al) v) : ∃ ad cap xs, v = .slice ad al.length cap ∧ RepL w lm al.flatten xs ∧ (∀ u ∈ xs, u.oneCell' = true) ∧ (al.length = 0 ∨ ∃ b o, ad = some ⟨b, o, none⟩ ∧ ∀ j u, xs[j]? = some u → w.cell? ⟨b, o + j, none⟩ = some u) := by
  cases hv with
  | sl h0 hk hr hm hc =>
    rename_i xs b o cap
    exact ⟨_, _, xs, rfl, hr, fun u hu => by obtain ⟨j, hj⟩ := List.mem_iff_getElem?.1 hu; exact (hm j u hj).2.2, .inr ⟨_, _, rfl, fun j u hu => (hm j u hu).1⟩⟩
  | sl0 => exact ⟨_, _, [], rfl, .nil, by simp, .inl rfl⟩
/-- Texts, read back. -/
def strsOf : List (List PV) → Option (List ByteArray)
  | [] => some []
  | [.sc (.string s)] :: l => match strsOf l with | some r => some (s :: r) | none => none
  | _ => none
/-- All kids' items. -/
def kidsF (g : PV → Option (List ByteArray)) : List (List PV) → Option (List ByteArray)
  | [] => some []
  | [x] :: l => match g x, kidsF g l with | some a, some b => some (a ++ b) | _, _ => none
  | _ => none
/-- A node's items, to some depth. -/
def nodeF : Nat → PV → Option (List ByteArray)
  | 0, _ => none
  | k + 1, .pt (.sl 1 ks :: .sl 1 it :: _) => if ks.length ≤ 1073741824 then (match strsOf it, kidsF (nodeF k) ks with | some a, some b => some (a ++ b) | _, _ => none) else none
  | _ + 1, _ => none
theorem strsOf_eq : ∀ {l : List (List PV)} {r : List ByteArray}, strsOf l = some r → l = r.map fun s => [.sc (.string s)]
  | [], r, h => by obtain rfl := Option.some.inj h; rfl
  | c :: l, r, h => by
    unfold strsOf at h
    split at h
    · simp at *
    · rename_i s l' heq
      split at h
      · rename_i r' h1
        obtain rfl := Option.some.inj h
        injection heq with e1 e2
        subst e1; subst e2
        rw [strsOf_eq h1]; rfl
      · simp at h
    · simp at h
theorem kidsF_eq {g : PV → Option (List ByteArray)} : ∀ {l : List (List PV)} {r : List ByteArray}, kidsF g l = some r → ∃ q : List (PV × List ByteArray), l = (q.map fun p => [p.1]) ∧ (∀ p ∈ q, g p.1 = some p.2) ∧ r = (q.map fun p => p.2).flatten
  | [], r, h => by obtain rfl := Option.some.inj h; exact ⟨[], rfl, by simp, rfl⟩
  | c :: l, r, h => by
    unfold kidsF at h
    split at h
    · simp at *
    · rename_i x l' heq
      split at h
      · rename_i a b h1 h2
        obtain rfl := Option.some.inj h
        injection heq with e1 e2
        subst e1; subst e2
        obtain ⟨q, q1, q2, q3⟩ := kidsF_eq h2
        refine ⟨(x, a) :: q, by rw [q1]; rfl, fun p hp => ?_, by rw [q3]; rfl⟩
        rcases List.mem_cons.1 hp with rfl | hp
        · exact h1
        · exact q2 p hp
      · simp at h
    · simp at h
theorem repL_strs {w : World} {lm : Nat → Nat} : ∀ {l : List ByteArray} {xs : List Value}, RepL w lm (l.map fun s => [PV.sc (.string s)]).flatten xs → xs = l.map Value.string
  | [], xs, h => by cases h; rfl
  | s :: l, xs, h => by
    rw [List.map_cons, List.flatten_cons] at h
    cases h with
    | cons a b =>
      cases a
      rw [repL_strs (l := l) b]; rfl
theorem fst_flat (q : List (PV × List ByteArray)) : (List.map (fun p : PV × List ByteArray => [p.fst]) q).flatten = q.map fun p => p.1 := by
  induction q with
  | nil => rfl
  | cons p q ih => rw [List.map_cons, List.flatten_cons, ih]; rfl
theorem item_el : elOk Try.prog 97 1 16 = true := by decide +kernel
set_option maxHeartbeats 4000000 in
set_option maxRecDepth 100000 in
theorem node_all : ∀ (k : Nat) (x : PV) (l : List ByteArray), nodeF k x = some l → ∀ (w0 : World) (lm0 : Nat → Nat) (w : World) (xv vo : Value) (n : Nat) (xs : List Value), Rep w0 lm0 x xv → Below w0.heap.size w0 w → w.ownsRow w0.heap.size 97 1 vo n xs → (n + l.length) * 16 ≤ 140737488355328 →
    Calls Try.prog 88 #[xv, vo] w fun e w' => ∃ v', e = .returned v' ∧ Below w0.heap.size w0 w' ∧ w'.ownsRow w0.heap.size 97 1 v' (n + l.length) (xs ++ l.map Value.string) := by
  intro k
  induction k with
  | zero => intro x l h; simp [nodeF] at h
  | succ k ih =>
    intro x l hx w0 lm0 w xv vo n xs hr hB hown hn
    unfold nodeF at hx
    split at hx
    case h_1 => simp at *
    case h_3 => simp at hx
    rename_i k2 ks it rest hkk
    obtain rfl : k = k2 := Nat.succ.inj hkk
    split at hx
    case isFalse => simp at hx
    rename_i hkn
    split at hx
    case h_2 => simp at hx
    rename_i li lk h1 h2
    obtain rfl := Option.some.inj hx
    have e1 := strsOf_eq h1
    obtain ⟨q, q1, q2, q3⟩ := kidsF_eq h2
    clear h1 h2 hkk hx
    cases hr with
    | pt hl hm =>
    rename_i vs b o
    cases hl with
    | cons r0 hl => cases hl with
    | cons r1 hl =>
    rename_i v0 v1 vs1
    have c0 := (hm 0 v0 rfl).1
    have c1 := (hm 1 v1 rfl).1
    obtain ⟨ad0, cap0, ys0, rfl, hy0, ho0, hm0⟩ := rep_row r0
    obtain ⟨ad1, cap1, ys1, rfl, hy1, ho1, hm1⟩ := rep_row r1
    have old : ∀ (w' : World), Below w0.heap.size w0 w' → ∀ (p : Addr) (u : Value), w0.cell? p = some u → w'.cell? p = some u := fun w' hw p u hu => by
      have h3 : p.block < w0.heap.size := by
        rcases Nat.lt_or_ge p.block w0.heap.size with h' | h'
        · exact h'
        · simp [World.cell?, Array.getElem?_eq_none h'] at hu
      exact (World.cell?_of_block (hw.block p.block h3)).trans hu
    subst e1
    subst q1
    obtain rfl := repL_strs hy1
    simp only [List.length_map, Nat.add_zero] at c0 c1 hm0 hm1 hkn
    clear hl r0 r1 hm
    have x0 := old w hB _ _ c0
    have x1 := old w hB _ _ c1
    have hnn : n + li.length + lk.length = n + (li ++ lk).length := by rw [List.length_append]; omega
    go_enter Try.func88, Try.ntmps88
    go_wp2_with (at_builtin; refine app_wpList Try.underlying101 item_el rfl _ _ rfl w0.heap.size _ n xs rfl hown ad1 li.length cap1 (li.map Value.string) rfl ?hl ?mem ho1 ?c1 ?c2 ?c3 ?_)
    case hl => simp
    case mem =>
      rcases hm1 with h | ⟨b1, o1, h, hm1⟩
      · exact .inl h
      · refine .inr ⟨_, h, fun j u hu => ?_⟩
        rw [add_n]
        exact old w hB _ _ (hm1 j u hu)
    case c1 => omega
    case c2 => omega
    case c3 => exact hB.size
    intro v2 w2 hown2 hgrow2
    have hB2 : Below w0.heap.size w0 w2 := hB.trans (grew_below hgrow2 hB.size fun b hb => (owns_block hown hb).1)
    clear hgrow2 x0 x1
    have x0 := old w2 hB2 _ _ c0
    clear hown hB
    go_wp2
    go_loopw [1, 18] (fun vo vi wr => ∃ i : Nat, vi = .int .i64 i ∧ As (i ≤ q.length) ∧ As (Below w0.heap.size w0 wr ∧ wr.ownsRow w0.heap.size 97 1 vo (n + li.length + ((q.take i).map fun p => p.2).flatten.length) (xs ++ li.map Value.string ++ ((q.take i).map fun p => p.2).flatten.map Value.string))) (fun _ vi _ => q.length - (intOf vi).toNat)
    case atStart =>
      refine ⟨0, rfl, ⟨by omega⟩, ⟨hB2, ?_⟩⟩
      simpa using hown2
    case round =>
      obtain ⟨i, rfl, hi, hI⟩ := hrel
      by_cases hlt : i < q.length
      · obtain ⟨b0, o0, rfl, hcl⟩ : ∃ b0 o0, ad0 = some ⟨b0, o0, none⟩ ∧ ∀ (j : Nat) (u : Value), ys0[j]? = some u → w0.cell? ⟨b0, o0 + j, none⟩ = some u := by
          rcases hm0 with h | h
          · omega
          · exact h
        have hfl : (List.map (fun p : PV × List ByteArray => [p.fst]) q).flatten[i]? = some q[i].1 := by
          rw [fst_flat, List.getElem?_map, List.getElem?_eq_getElem hlt]; rfl
        obtain ⟨kv, hkv, hkr⟩ := hy0.get i _ hfl
        have g0 := old wr hI.out.1 _ _ (hcl i kv hkv)
        have hk := q2 q[i] (List.getElem_mem hlt)
        have htk : ((q.take (i + 1)).map fun p => p.2).flatten = ((q.take i).map fun p => p.2).flatten ++ q[i].2 := by
          rw [List.take_succ_eq_append_getElem hlt, List.map_append, List.flatten_append]; simp
        have hle : ((q.take i).map fun p => p.2).flatten.length + q[i].2.length ≤ lk.length := by
          have e : lk = ((q.take (i + 1)).map fun p => p.2).flatten ++ ((q.drop (i + 1)).map fun p => p.2).flatten := by
            rw [q3, ← List.flatten_append, ← List.map_append, List.take_append_drop]
          rw [e, htk]; simp only [List.length_append]; omega
        have hcallee := ih q[i].1 q[i].2 hk w0 lm0 wr kv u1 _ _ hkr hI.out.1 hI.out.2 (by omega)
        go_wp2_with (go_at_call 88; refine hcallee.mono ?_; rintro e w3 ⟨v3, rfl, hB3, hown3⟩)
        go_roundw
        case rel =>
          refine ⟨i + 1, by go_num, ⟨by omega⟩, ⟨hB3, ?_⟩⟩
          rw [htk, List.length_append, List.map_append, ← List.append_assoc, ← Nat.add_assoc]
          exact hown3
        case measure => simp [intOf]; omega
      · have hil2 : i = q.length := by have := hi.out; omega
        subst hil2
        have hI2 := hI.out
        rw [List.take_length, ← q3] at hI2
        clear hI
        replace hI2 := As.mk hI2
        go_wp2
        go_ret
        refine ⟨_, rfl, hI2.out.1, ?_⟩
        rw [← hnn, List.map_append, ← List.append_assoc]
        exact hI2.out.2
end Go.Proofs.Ytomnggbideepeaa.AM

end
section
/- What is told by hand, of the seat r3. No condition. -/
namespace Go.Proofs.Ytomnggbideepeaa.AM
set_option linter.unusedSimpArgs false
set_option linter.unusedVariables false
open Go
/-- A count of a kind, out of four. -/
def getF : List PV → Option Ret
  | [.st [.sc (.int .i64 a), .sc (.int .i64 b), .sc (.int .i64 c), .sc (.int .i64 d)], .sc (.int .i64 k)] => some (.val (pi (if k = 0 then a else if k = 1 then b else if k = 2 then c else if k = 3 then d else 0)))
  | _ => none
/-- What is told by hand: strings.Builder, utf.forms, count.Get; and, where it is needed, the tree's All, strings.Index, lines.Pieces (told by cp, the function ahead of its arguments). -/
def extF (cp : List PV → Option Ret) (f : FuncId) (args : List PV) : Option Ret :=
  if f = 63 then (match args with | [] => some (.sb 1 100 5) | _ => none)
  else if f = 98 then (match args with | [] => some (.sb 3 100 5) | _ => none)
  else if f = 64 then (match args with | [] => some (.sb 2 100 5) | _ => none)
  else if f = 114 then (match args with
    | [] => some (.val (.st [pI .u8 128, pI .u8 0, pI .i32 0, pI .u8 224, pI .u8 192, pI .i32 128, pI .u8 240, pI .u8 224, pI .i32 2048, pI .u8 248, pI .u8 240, pI .i32 65536]))
    | _ => none)
  else if f = 68 then getF args
  else if f = 62 then cp (.fn f [] :: args)
  else if f = 78 then cp (.fn f [] :: args)
  else if f = 54 then cp (.fn f [] :: args)
  else none
def isExtF (f : FuncId) : Bool := f == 63 || f == 98 || f == 64 || f == 114 || f == 68 || f == 62 || f == 78 || f == 54
def EX (cp : List PV → Option Ret) : Env := ⟨prg, extF cp, isExtF⟩
variable {cp : List PV → Option Ret}
@[simp] theorem run_ws : Run (EX cp) 63 [] = some (.sb 1 100 5) := by rw [Run_ext _ _ _ rfl]; rfl
@[simp] theorem run_wr : Run (EX cp) 98 [] = some (.sb 3 100 5) := by rw [Run_ext _ _ _ rfl]; rfl
@[simp] theorem run_str : Run (EX cp) 64 [] = some (.sb 2 100 5) := by rw [Run_ext _ _ _ rfl]; rfl
@[simp] theorem run_forms : Run (EX cp) 114 [] = some (.val (.st [pI .u8 128, pI .u8 0, pI .i32 0, pI .u8 224, pI .u8 192, pI .i32 128, pI .u8 240, pI .u8 224, pI .i32 2048, pI .u8 248, pI .u8 240, pI .i32 65536])) := by rw [Run_ext _ _ _ rfl]; rfl
theorem run_get (a b c d k : Int) : Run (EX cp) 68 [.st [pi a, pi b, pi c, pi d], pi k] = some (.val (pi (if k = 0 then a else if k = 1 then b else if k = 2 then c else if k = 3 then d else 0))) := by rw [Run_ext _ _ _ rfl]; rfl
theorem run_all (x : List PV) : Run (EX cp) 62 x = cp (.fn 62 [] :: x) := by rw [Run_ext _ _ _ rfl]; rfl
theorem run_index (x : List PV) : Run (EX cp) 78 x = cp (.fn 78 [] :: x) := by rw [Run_ext _ _ _ rfl]; rfl
theorem run_pieces (x : List PV) : Run (EX cp) 54 x = cp (.fn 54 [] :: x) := by rw [Run_ext _ _ _ rfl]; rfl
end Go.Proofs.Ytomnggbideepeaa.AM

end
section
/- Plain law of code points: bytes as lists, what a code point is there, its number, its bytes; no program in sight. No conditions. -/
namespace Go.Proofs.Ytomnggbideepeaa.U
set_option linter.unusedVariables false
open Go.Lib

def bi (b : UInt8) : Int := (b.toNat : Int)
theorem bi_range (b : UInt8) : 0 ≤ bi b ∧ bi b < 256 := by
  have := b.toNat_lt
  unfold bi
  omega
theorem bi_inj {a b : UInt8} (h : bi a = bi b) : a = b := by
  unfold bi at h
  exact UInt8.toNat_inj.1 (by omega)
theorem bi_of {x : Int} (h0 : 0 ≤ x) (h1 : x < 256) : bi x.toNat.toUInt8 = x := by
  unfold bi
  rw [Nat.toUInt8, UInt8.toNat_ofNat']
  omega
theorem of_bi (a : UInt8) : (bi a).toNat.toUInt8 = a := bi_inj (bi_of (bi_range a).1 (bi_range a).2)
/-- A byte that goes on. -/
def cont (b : UInt8) : Prop := 128 ≤ bi b ∧ bi b < 192
instance (b : UInt8) : Decidable (cont b) := by unfold cont; exact inferInstance
/-- The numbers of code points. -/
def sc (v : Int) : Prop := (0 ≤ v ∧ v < 55296) ∨ (57343 < v ∧ v ≤ 1114111)
instance (v : Int) : Decidable (sc v) := by unfold sc; exact inferInstance
def v2 (a p : UInt8) : Int := (bi a - 192) * 64 + (bi p - 128)
def v3 (a p q : UInt8) : Int := ((bi a - 224) * 64 + (bi p - 128)) * 64 + (bi q - 128)
def v4 (a p q r : UInt8) : Int := (((bi a - 240) * 64 + (bi p - 128)) * 64 + (bi q - 128)) * 64 + (bi r - 128)
/-- How many bytes the code point has that stands ahead in a list (0: there is none), and its number. -/
def dec : List UInt8 → Nat × Int
  | [] => (0, 0)
  | a :: t =>
    if bi a < 128 then (1, bi a)
    else if bi a < 192 then (0, 0)
    else if bi a < 224 then
      match t with
      | p :: _ => if cont p ∧ 128 ≤ v2 a p then (2, v2 a p) else (0, 0)
      | _ => (0, 0)
    else if bi a < 240 then
      match t with
      | p :: q :: _ => if cont p ∧ cont q ∧ 2048 ≤ v3 a p q ∧ ¬ (55296 ≤ v3 a p q ∧ v3 a p q ≤ 57343) then (3, v3 a p q) else (0, 0)
      | _ => (0, 0)
    else if bi a < 248 then
      match t with
      | p :: q :: r :: _ => if cont p ∧ cont q ∧ cont r ∧ 65536 ≤ v4 a p q r ∧ v4 a p q r ≤ 1114111 then (4, v4 a p q r) else (0, 0)
      | _ => (0, 0)
    else (0, 0)
/-- A number's bytes. -/
def enc (v : Int) : List UInt8 := encodeRune v
theorem enc_one {v : Int} (h0 : 0 ≤ v) (h1 : v < 128) : enc v = [v.toNat.toUInt8] := by
  unfold enc encodeRune
  rw [encodeRuneZ_one h0 (by omega)]
  simp only [List.map_cons, List.map_nil]
theorem enc_two {v : Int} (h0 : 128 ≤ v) (h1 : v < 2048) : enc v = [(192 + v / 64).toNat.toUInt8, (128 + v % 64).toNat.toUInt8] := by
  unfold enc encodeRune
  rw [encodeRuneZ_two h0 (by omega)]
  simp only [List.map_cons, List.map_nil]
theorem enc_three {v : Int} (h0 : 2048 ≤ v) (h1 : v < 65536) (h : sc v) : enc v = [(224 + v / 4096).toNat.toUInt8, (128 + v / 64 % 64).toNat.toUInt8, (128 + v % 64).toNat.toUInt8] := by
  unfold enc encodeRune
  unfold sc at h
  rw [encodeRuneZ_three (by omega)]
  simp only [List.map_cons, List.map_nil]
theorem enc_four {v : Int} (h0 : 65536 ≤ v) (h1 : v ≤ 1114111) : enc v = [(240 + v / 262144).toNat.toUInt8, (128 + v / 4096 % 64).toNat.toUInt8, (128 + v / 64 % 64).toNat.toUInt8, (128 + v % 64).toNat.toUInt8] := by
  unfold enc encodeRune
  rw [encodeRuneZ_four h0 h1]
  simp only [List.map_cons, List.map_nil]
theorem enc_bad {v : Int} (h : ¬ sc v) : enc v = [239, 191, 189] := by
  unfold enc encodeRune
  unfold sc at h
  rw [encodeRuneZ_bad (by omega)]
  decide
theorem eq1 {a : UInt8} {x : Int} (h : x = bi a) : x.toNat.toUInt8 = a := by rw [h]; exact of_bi a
set_option maxRecDepth 100000 in
/-- What is read is a code point's bytes. -/
theorem dec_enc (l : List UInt8) (n : Nat) (v : Int) (h : dec l = (n, v)) (hn : n ≠ 0) : sc v ∧ ∃ r, l = enc v ++ r ∧ (enc v).length = n := by
  match l, h with
  | [], h => exact absurd (Prod.mk.inj h).1.symm hn
  | a :: t, h =>
    have ha := bi_range a
    rw [dec.eq_def] at h
    simp only at h
    by_cases c1 : bi a < 128
    · rw [if_pos c1] at h
      obtain ⟨rfl, rfl⟩ := Prod.mk.inj h
      refine ⟨Or.inl ⟨ha.1, by omega⟩, t, ?_⟩
      rw [enc_one ha.1 c1, of_bi]
      exact ⟨rfl, rfl⟩
    rw [if_neg c1] at h
    by_cases c2 : bi a < 192
    · rw [if_pos c2] at h
      exact absurd (Prod.mk.inj h).1.symm hn
    rw [if_neg c2] at h
    by_cases c3 : bi a < 224
    · rw [if_pos c3] at h
      match t, h with
      | [], h => exact absurd (Prod.mk.inj h).1.symm hn
      | p :: t, h =>
        simp only at h
        have hp := bi_range p
        by_cases c : cont p ∧ 128 ≤ v2 a p
        · rw [if_pos c] at h
          obtain ⟨rfl, rfl⟩ := Prod.mk.inj h
          obtain ⟨d1, d2⟩ := c
          have e2 : v2 a p = (bi a - 192) * 64 + (bi p - 128) := rfl
          unfold cont at d1
          refine ⟨Or.inl ⟨by omega, by omega⟩, t, ?_⟩
          rw [enc_two d2 (by omega), eq1 (a := a) (by omega), eq1 (a := p) (by omega)]
          exact ⟨rfl, rfl⟩
        · rw [if_neg c] at h
          exact absurd (Prod.mk.inj h).1.symm hn
    rw [if_neg c3] at h
    by_cases c4 : bi a < 240
    · rw [if_pos c4] at h
      match t, h with
      | [], h => exact absurd (Prod.mk.inj h).1.symm hn
      | [p], h => exact absurd (Prod.mk.inj h).1.symm hn
      | p :: q :: t, h =>
        simp only at h
        have hp := bi_range p
        have hq := bi_range q
        by_cases c : cont p ∧ cont q ∧ 2048 ≤ v3 a p q ∧ ¬ (55296 ≤ v3 a p q ∧ v3 a p q ≤ 57343)
        · rw [if_pos c] at h
          obtain ⟨rfl, rfl⟩ := Prod.mk.inj h
          obtain ⟨d1, d2, d3, d4⟩ := c
          have e2 : v3 a p q = ((bi a - 224) * 64 + (bi p - 128)) * 64 + (bi q - 128) := rfl
          unfold cont at d1 d2
          have hs : sc (v3 a p q) := by unfold sc; omega
          refine ⟨hs, t, ?_⟩
          rw [enc_three d3 (by omega) hs, eq1 (a := a) (by omega), eq1 (a := p) (by omega), eq1 (a := q) (by omega)]
          exact ⟨rfl, rfl⟩
        · rw [if_neg c] at h
          exact absurd (Prod.mk.inj h).1.symm hn
    rw [if_neg c4] at h
    by_cases c5 : bi a < 248
    · rw [if_pos c5] at h
      match t, h with
      | [], h => exact absurd (Prod.mk.inj h).1.symm hn
      | [p], h => exact absurd (Prod.mk.inj h).1.symm hn
      | [p, q], h => exact absurd (Prod.mk.inj h).1.symm hn
      | p :: q :: r :: t, h =>
        simp only at h
        have hp := bi_range p
        have hq := bi_range q
        have hr := bi_range r
        by_cases c : cont p ∧ cont q ∧ cont r ∧ 65536 ≤ v4 a p q r ∧ v4 a p q r ≤ 1114111
        · rw [if_pos c] at h
          obtain ⟨rfl, rfl⟩ := Prod.mk.inj h
          obtain ⟨d1, d2, d3, d4, d5⟩ := c
          have e2 : v4 a p q r = (((bi a - 240) * 64 + (bi p - 128)) * 64 + (bi q - 128)) * 64 + (bi r - 128) := rfl
          unfold cont at d1 d2 d3
          have hs : sc (v4 a p q r) := by unfold sc; omega
          refine ⟨hs, t, ?_⟩
          rw [enc_four d4 d5, eq1 (a := a) (by omega), eq1 (a := p) (by omega), eq1 (a := q) (by omega), eq1 (a := r) (by omega)]
          exact ⟨rfl, rfl⟩
        · rw [if_neg c] at h
          exact absurd (Prod.mk.inj h).1.symm hn
    rw [if_neg c5] at h
    exact absurd (Prod.mk.inj h).1.symm hn
/-- A code point's bytes are read as it. -/
theorem enc_dec (v : Int) (h : sc v) (r : List UInt8) : dec (enc v ++ r) = ((enc v).length, v) := by
  have h' := h
  unfold sc at h'
  by_cases c1 : v < 128
  · rw [enc_one (by omega) c1]
    have e := bi_of (x := v) (by omega) (by omega)
    show dec (_ :: r) = (1, v)
    rw [dec.eq_def]
    simp only [e]
    rw [if_pos c1]
  by_cases c2 : v < 2048
  · rw [enc_two (by omega) c2]
    have e := bi_of (x := 192 + v / 64) (by omega) (by omega)
    have f := bi_of (x := 128 + v % 64) (by omega) (by omega)
    show dec (_ :: _ :: r) = (2, v)
    rw [dec.eq_def]
    simp only [e]
    rw [if_neg (by omega), if_neg (by omega), if_pos (by omega)]
    have g : v2 (192 + v / 64).toNat.toUInt8 (128 + v % 64).toNat.toUInt8 = v := by unfold v2; rw [e, f]; omega
    rw [g, if_pos ⟨by unfold cont; rw [f]; omega, by omega⟩]
  by_cases c3 : v < 65536
  · rw [enc_three (by omega) c3 h]
    have e := bi_of (x := 224 + v / 4096) (by omega) (by omega)
    have f := bi_of (x := 128 + v / 64 % 64) (by omega) (by omega)
    have k := bi_of (x := 128 + v % 64) (by omega) (by omega)
    show dec (_ :: _ :: _ :: r) = (3, v)
    rw [dec.eq_def]
    simp only [e]
    rw [if_neg (by omega), if_neg (by omega), if_neg (by omega), if_pos (by omega)]
    have g : v3 (224 + v / 4096).toNat.toUInt8 (128 + v / 64 % 64).toNat.toUInt8 (128 + v % 64).toNat.toUInt8 = v := by unfold v3; rw [e, f, k]; omega
    rw [g, if_pos ⟨by unfold cont; rw [f]; omega, by unfold cont; rw [k]; omega, by omega, by omega⟩]
  · rw [enc_four (by omega) (by omega)]
    have e := bi_of (x := 240 + v / 262144) (by omega) (by omega)
    have f := bi_of (x := 128 + v / 4096 % 64) (by omega) (by omega)
    have f2 := bi_of (x := 128 + v / 64 % 64) (by omega) (by omega)
    have k := bi_of (x := 128 + v % 64) (by omega) (by omega)
    show dec (_ :: _ :: _ :: _ :: r) = (4, v)
    rw [dec.eq_def]
    simp only [e]
    rw [if_neg (by omega), if_neg (by omega), if_neg (by omega), if_neg (by omega), if_pos (by omega)]
    have g : v4 (240 + v / 262144).toNat.toUInt8 (128 + v / 4096 % 64).toNat.toUInt8 (128 + v / 64 % 64).toNat.toUInt8 (128 + v % 64).toNat.toUInt8 = v := by unfold v4; rw [e, f, f2, k]; omega
    rw [g, if_pos ⟨by unfold cont; rw [f]; omega, by unfold cont; rw [f2]; omega, by unfold cont; rw [k]; omega, by omega, by omega⟩]

end Go.Proofs.Ytomnggbideepeaa.U

end
section
/- Plain law of code points, part two: a list of bytes as the numbers of its code points; valid, clean; the shape of a code point's bytes. No conditions. -/
namespace Go.Proofs.Ytomnggbideepeaa.U
set_option linter.unusedVariables false
open Go.Lib

theorem enc_len (v : Int) : 1 ≤ (enc v).length ∧ (enc v).length ≤ 4 := by
  have h := runeCells_le v
  rw [runeCells_length] at h
  exact h
theorem enc_cons (v : Int) : ∃ a t, enc v = a :: t := by
  have h := enc_len v
  match e : enc v with
  | [] => rw [e] at h; simp at h
  | a :: t => exact ⟨a, t, rfl⟩
def encs (vs : List Int) : List UInt8 := vs.flatMap enc
@[simp] theorem encs_nil : encs [] = [] := rfl
@[simp] theorem encs_cons (v : Int) (vs : List Int) : encs (v :: vs) = enc v ++ encs vs := rfl
theorem encs_append (a b : List Int) : encs (a ++ b) = encs a ++ encs b := by simp [encs]
theorem sc_bad : sc 65533 := by decide
/-- The numbers of a list's code points; 65533 for a byte that is none. -/
def points : List UInt8 → List Int
  | [] => []
  | a :: t => if _h : (dec (a :: t)).1 = 0 then 65533 :: points t else (dec (a :: t)).2 :: points ((a :: t).drop (dec (a :: t)).1)
  termination_by l => l.length
  decreasing_by
  · simp
  · simp only [List.length_drop, List.length_cons]; omega
def valid : List UInt8 → Bool
  | [] => true
  | a :: t => if _h : (dec (a :: t)).1 = 0 then false else valid ((a :: t).drop (dec (a :: t)).1)
  termination_by l => l.length
  decreasing_by
  simp only [List.length_drop, List.length_cons]; omega
theorem points_nil : points [] = [] := points.eq_def []
theorem valid_nil : valid [] = true := valid.eq_def []
theorem points_cons (a : UInt8) (t : List UInt8) : points (a :: t) = if _h : (dec (a :: t)).1 = 0 then 65533 :: points t else (dec (a :: t)).2 :: points ((a :: t).drop (dec (a :: t)).1) := points.eq_def (a :: t)
theorem valid_cons (a : UInt8) (t : List UInt8) : valid (a :: t) = if _h : (dec (a :: t)).1 = 0 then false else valid ((a :: t).drop (dec (a :: t)).1) := valid.eq_def (a :: t)
theorem points_none {a : UInt8} {t : List UInt8} (h : (dec (a :: t)).1 = 0) : points (a :: t) = 65533 :: points t := by rw [points_cons, dif_pos h]
theorem valid_none {a : UInt8} {t : List UInt8} (h : (dec (a :: t)).1 = 0) : valid (a :: t) = false := by rw [valid_cons, dif_pos h]
theorem points_enc1 {v : Int} (h : sc v) (r : List UInt8) : points (enc v ++ r) = v :: points r := by
  have hd := enc_dec v h r
  obtain ⟨a, t, e⟩ := enc_cons v
  have hl := (enc_len v).1
  have hr : (enc v ++ r).drop (enc v).length = r := List.drop_left
  rw [e] at hd hl hr ⊢
  rw [List.cons_append] at hd hr ⊢
  rw [points_cons, dif_neg (by rw [hd]; simp)]
  simp only [hd, hr]
theorem valid_enc1 {v : Int} (h : sc v) (r : List UInt8) : valid (enc v ++ r) = valid r := by
  have hd := enc_dec v h r
  obtain ⟨a, t, e⟩ := enc_cons v
  have hr : (enc v ++ r).drop (enc v).length = r := List.drop_left
  rw [e] at hd hr ⊢
  rw [List.cons_append] at hd hr ⊢
  rw [valid_cons, dif_neg (by rw [hd]; simp)]
  simp only [hd, hr]
/-- Either nothing, or a byte that is none, or a code point. -/
theorem parts (l : List UInt8) : l = [] ∨ (∃ a t, l = a :: t ∧ (dec l).1 = 0) ∨ ∃ v r, sc v ∧ l = enc v ++ r ∧ dec l = ((enc v).length, v) := by
  match l with
  | [] => exact .inl rfl
  | a :: t =>
    by_cases h : (dec (a :: t)).1 = 0
    · exact .inr (.inl ⟨a, t, rfl, h⟩)
    · obtain ⟨hs, r, hl, hn⟩ := dec_enc (a :: t) (dec (a :: t)).1 (dec (a :: t)).2 (Prod.eta (dec (a :: t))).symm h
      exact .inr (.inr ⟨(dec (a :: t)).2, r, hs, hl, by rw [hn]⟩)
/-- Induction along the code points. -/
theorem along {P : List UInt8 → Prop} (h0 : P []) (h1 : ∀ a t, (dec (a :: t)).1 = 0 → P t → P (a :: t)) (h2 : ∀ v r, sc v → P r → P (enc v ++ r)) (l : List UInt8) : P l := by
  suffices h : ∀ n (l : List UInt8), l.length ≤ n → P l from h _ l (Nat.le_refl _)
  intro n
  induction n with
  | zero => intro l hl; rw [List.length_eq_zero_iff.1 (by omega : l.length = 0)]; exact h0
  | succ n ih =>
    intro l hl
    rcases parts l with rfl | ⟨a, t, rfl, h⟩ | ⟨v, r, hs, rfl, hd⟩
    · exact h0
    · exact h1 a t h (ih t (by simp at hl; omega))
    · have := (enc_len v).1
      exact h2 v r hs (ih r (by rw [List.length_append] at hl; omega))
theorem points_sc (l : List UInt8) : ∀ v ∈ points l, sc v := by
  induction l using along with
  | h0 => rw [points_nil]; simp
  | h1 a t h ih => rw [points_none h]; intro v hv; rcases List.mem_cons.1 hv with rfl | hv; exact sc_bad; exact ih v hv
  | h2 v r hs ih => rw [points_enc1 hs]; intro u hu; rcases List.mem_cons.1 hu with rfl | hu; exact hs; exact ih u hu
theorem points_encs (vs : List Int) (h : ∀ v ∈ vs, sc v) (r : List UInt8) : points (encs vs ++ r) = vs ++ points r := by
  induction vs with
  | nil => rfl
  | cons v vs ih =>
    rw [encs_cons, List.append_assoc, points_enc1 (h v (by simp)), ih (fun u hu => h u (by simp [hu]))]
    rfl
theorem valid_encs (vs : List Int) (h : ∀ v ∈ vs, sc v) (r : List UInt8) : valid (encs vs ++ r) = valid r := by
  induction vs with
  | nil => rfl
  | cons v vs ih => rw [encs_cons, List.append_assoc, valid_enc1 (h v (by simp)), ih (fun u hu => h u (by simp [hu]))]
theorem valid_encs' (vs : List Int) (h : ∀ v ∈ vs, sc v) : valid (encs vs) = true := by
  have := valid_encs vs h []
  rw [List.append_nil, valid_nil] at this
  exact this
theorem points_encs' (vs : List Int) (h : ∀ v ∈ vs, sc v) : points (encs vs) = vs := by
  have := points_encs vs h []
  rw [List.append_nil, points_nil, List.append_nil] at this
  exact this
def clean (l : List UInt8) : List UInt8 := encs (points l)
theorem clean_valid (l : List UInt8) : valid (clean l) = true := valid_encs' _ (points_sc l)
theorem clean_of_valid (l : List UInt8) : valid l = true → clean l = l := by
  unfold clean
  induction l using along with
  | h0 => intro _; rw [points_nil]; rfl
  | h1 a t h ih => intro hv; rw [valid_none h] at hv; cases hv
  | h2 v r hs ih => intro hv; rw [valid_enc1 hs] at hv; rw [points_enc1 hs, encs_cons, ih hv]
theorem valid_iff (l : List UInt8) : valid l = true ↔ clean l = l := ⟨clean_of_valid l, fun h => by rw [← h]; exact clean_valid l⟩
theorem clean_len (l : List UInt8) : l.length ≤ (clean l).length := by
  unfold clean
  induction l using along with
  | h0 => simp
  | h1 a t h ih => rw [points_none h, encs_cons, List.length_append, List.length_cons]; have := (enc_len 65533).1; omega
  | h2 v r hs ih => rw [points_enc1 hs, encs_cons, List.length_append, List.length_append]; omega
theorem clean_le (l : List UInt8) : (clean l).length ≤ 4 * l.length := by
  unfold clean
  induction l using along with
  | h0 => rw [points_nil]; simp
  | h1 a t h ih => rw [points_none h, encs_cons, List.length_append, List.length_cons]; have := (enc_len 65533).2; omega
  | h2 v r hs ih => rw [points_enc1 hs, encs_cons, List.length_append, List.length_append]; omega
theorem points_le (l : List UInt8) : (points l).length ≤ l.length := by
  induction l using along with
  | h0 => rw [points_nil]; simp
  | h1 a t h ih => rw [points_none h, List.length_cons, List.length_cons]; omega
  | h2 v r hs ih => rw [points_enc1 hs, List.length_cons, List.length_append]; have := (enc_len v).1; omega
theorem clean_append {a : List UInt8} (h : valid a = true) (b : List UInt8) : clean (a ++ b) = a ++ clean b := by
  have e := (valid_iff a).1 h
  unfold clean at e ⊢
  conv => lhs; rw [← e]
  rw [points_encs _ (points_sc a), encs_append, e]
theorem points_append {a : List UInt8} (h : valid a = true) (b : List UInt8) : points (a ++ b) = points a ++ points b := by
  have e := (valid_iff a).1 h
  unfold clean at e
  conv => lhs; rw [← e]
  rw [points_encs _ (points_sc a)]
theorem valid_append {a : List UInt8} (h : valid a = true) (b : List UInt8) : valid (a ++ b) = valid b := by
  have e := (valid_iff a).1 h
  unfold clean at e
  conv => lhs; rw [← e]
  rw [valid_encs _ (points_sc a)]
theorem clean_none {a : UInt8} {t : List UInt8} (h : (dec (a :: t)).1 = 0) : clean (a :: t) = enc 65533 ++ clean t := by unfold clean; rw [points_none h, encs_cons]
theorem clean_enc1 {v : Int} (h : sc v) (r : List UInt8) : clean (enc v ++ r) = enc v ++ clean r := by unfold clean; rw [points_enc1 h, encs_cons]
/-- A code point's bytes: a first one, and those that go on. -/
theorem enc_shape (v : Int) (h : sc v) : ∃ a t, enc v = a :: t ∧ ¬ cont a ∧ ∀ x ∈ t, cont x := by
  have h' := h
  unfold sc at h'
  by_cases c1 : v < 128
  · refine ⟨_, [], enc_one (by omega) c1, ?_, by simp⟩
    unfold cont; rw [bi_of (by omega) (by omega)]; omega
  by_cases c2 : v < 2048
  · refine ⟨_, [_], enc_two (by omega) c2, ?_, ?_⟩
    · unfold cont; rw [bi_of (by omega) (by omega)]; omega
    · intro x hx; rw [List.mem_singleton.1 hx]; unfold cont; rw [bi_of (by omega) (by omega)]; omega
  by_cases c3 : v < 65536
  · refine ⟨_, [_, _], enc_three (by omega) c3 h, ?_, ?_⟩
    · unfold cont; rw [bi_of (by omega) (by omega)]; omega
    · intro x hx
      rcases List.mem_cons.1 hx with rfl | hx
      · unfold cont; rw [bi_of (by omega) (by omega)]; omega
      · rw [List.mem_singleton.1 hx]; unfold cont; rw [bi_of (by omega) (by omega)]; omega
  · refine ⟨_, [_, _, _], enc_four (by omega) (by omega), ?_, ?_⟩
    · unfold cont; rw [bi_of (by omega) (by omega)]; omega
    · intro x hx
      rcases List.mem_cons.1 hx with rfl | hx
      · unfold cont; rw [bi_of (by omega) (by omega)]; omega
      · rcases List.mem_cons.1 hx with rfl | hx
        · unfold cont; rw [bi_of (by omega) (by omega)]; omega
        · rw [List.mem_singleton.1 hx]; unfold cont; rw [bi_of (by omega) (by omega)]; omega
/-- A byte that goes on begins no code point. -/
theorem dec_cont {a : UInt8} (h : cont a) (t : List UInt8) : (dec (a :: t)).1 = 0 := by
  unfold cont at h
  rw [dec.eq_def]
  simp only
  rw [if_neg (by omega), if_pos (by omega)]
theorem dec_le (l : List UInt8) : (dec l).1 ≤ l.length ∧ (dec l).1 ≤ 4 := by
  rcases parts l with rfl | ⟨a, t, rfl, h⟩ | ⟨v, r, hs, rfl, hd⟩
  · exact ⟨Nat.le_refl _, Nat.zero_le _⟩
  · rw [h]; exact ⟨Nat.zero_le _, Nat.zero_le _⟩
  · rw [hd, List.length_append]; have := enc_len v; exact ⟨by simp, by simp; omega⟩
theorem dec_sc (l : List UInt8) (h : (dec l).1 ≠ 0) : sc (dec l).2 := (dec_enc l (dec l).1 (dec l).2 (Prod.eta (dec l)).symm h).1

end Go.Proofs.Ytomnggbideepeaa.U

end
section
/- Running the small machine: words and equations that all functions use; bytes. No condition. -/
namespace Go.Proofs.Ytomnggbideepeaa.AM
set_option linter.unusedSimpArgs false
set_option linter.unusedVariables false
open Go Go.Proofs.Ytomnggbideepeaa.U
variable {cp : List PV → Option Ret}
/-! ### the machine's equations, one constructor at a time -/
noncomputable def seqC (E : Env) (b : ACode) : Option (Out × St) → Option (Out × St)
  | some (.nor, s) => Code E b s
  | r => r
def regC (keep : List Nat) : Option St → Option (Out × St)
  | some s => some (.nor, norm keep s)
  | none => none
noncomputable def iteC (E : Env) (a b : ACode) (s : St) : Option SV → Option (Out × St)
  | some (.p (.sc (.bool true))) => Code E a s
  | some (.p (.sc (.bool false))) => Code E b s
  | _ => none
def blkC (id : Nat) : Option (Out × St) → Option (Out × St)
  | some (.ex i, s) => if i = id then some (.nor, s) else some (.ex i, s)
  | r => r
def stepsC (call : Call) (os : List AOper) : Option St → Option St
  | some s => steps call os s
  | none => none
def effC (d : Option Nat) (s : St) : Option Eff → Option St
  | some e => some ⟨puts s.t d e.v, putAll s.h e.hs⟩
  | none => none
def grdC (call : Call) (d : Option Nat) (o : AOp) (w : Bool) (s : St) : Option SV → Option St
  | some (.p (.sc (.bool b))) => if b = w then effC d s (eff call s (d.getD 0) o) else some ⟨puts s.t d undefS, s.h⟩
  | some (.p (.sc (.tuple _))) => some ⟨puts s.t d undefS, s.h⟩
  | _ => none
def runC (fn : AFunc) : Option (Out × St) → Option Ret
  | some (.ex _, _) => none
  | some (_, s) => finish fn s
  | none => none
noncomputable def loopC (E : Env) (keep : List Nat) (a : ACode) : Option (Out × St) → Option (Out × St)
  | some (.nor, s) => Code E (.loop keep a) s
  | r => r
section
variable (E : Env) (a b : ACode) (s : St) (call : Call)
theorem k_seq : Code E (.seq a b) s = seqC E b (Code E a s) := by
  rw [Code_seq]; unfold seqC; rfl
theorem k_reg (ops : List AOper) (keep : List Nat) : Code E (.reg ops keep) s = regC keep (steps (Run E) ops s) := by
  rw [Code_reg]; unfold regC; rfl
theorem k_regf (ops : List AOper) (keep fz : List Nat) : Code E (.regf ops keep fz) s = regC keep (steps (Run E) ops (fz.foldl fz1 s)) := by
  rw [Code_regf]; unfold regC; rfl
theorem k_ite (x : X) : Code E (.ite x a b) s = iteC E a b s (x.ev s) := by
  rw [Code_ite]
  cases h : x.ev s with
  | none => rfl
  | some v =>
    cases v with
    | p y => cases y with
      | sc z => cases z with
        | bool c => cases c <;> rfl
        | _ => rfl
      | _ => rfl
    | _ => rfl
theorem k_blk (id : Nat) : Code E (.blk id a) s = blkC id (Code E a s) := by
  rw [Code_blk]; unfold blkC; rfl
theorem k_loop (keep : List Nat) : Code E (.loop keep a) s = loopC E keep a (Code E a (norm keep s)) := by
  rw [Code_loop]; unfold loopC; rfl
theorem k_steps (o : AOper) (os : List AOper) : steps call (o :: os) s = stepsC call os (step call o s) := by
  simp only [steps, stepsC]
  cases step call o s <;> rfl
theorem k_nil : steps call [] s = some s := rfl
theorem k_step0 (d : Option Nat) (o : AOp) : step call ⟨d, o, none⟩ s = effC d s (eff call s (d.getD 0) o) := by
  simp only [step, effC]
  cases eff call s (d.getD 0) o <;> rfl
theorem k_step1 (d : Option Nat) (o : AOp) (g : Nat) (w : Bool) : step call ⟨d, o, some (g, w)⟩ s = grdC call d o w s (get s.t g) := by
  simp only [step, grdC, effC]
  cases get s.t g with
  | none => rfl
  | some v =>
    cases v with
    | p y => cases y with
      | sc z => cases z with
        | bool c =>
          by_cases hc : c = w
          · simp only [hc, if_true]; cases eff call s (d.getD 0) o <;> rfl
          · simp only [hc, if_false]
        | _ => rfl
      | _ => rfl
    | _ => rfl
@[simp] theorem seqC_nor : seqC E b (some (.nor, s)) = Code E b s := rfl
@[simp] theorem seqC_ex (i : Nat) : seqC E b (some (.ex i, s)) = some (.ex i, s) := rfl
@[simp] theorem seqC_ret : seqC E b (some (.ret, s)) = some (.ret, s) := rfl
@[simp] theorem seqC_none : seqC E b none = none := rfl
@[simp] theorem regC_some (keep : List Nat) : regC keep (some s) = some (.nor, norm keep s) := rfl
@[simp] theorem regC_none (keep : List Nat) : regC keep none = none := rfl
@[simp] theorem iteC_t : iteC E a b s (some (.p (.sc (.bool true)))) = Code E a s := rfl
@[simp] theorem iteC_f : iteC E a b s (some (.p (.sc (.bool false)))) = Code E b s := rfl
@[simp] theorem blkC_ex (id i : Nat) : blkC id (some (.ex i, s)) = if i = id then some (.nor, s) else some (.ex i, s) := rfl
@[simp] theorem blkC_nor (id : Nat) : blkC id (some (.nor, s)) = some (.nor, s) := rfl
@[simp] theorem blkC_ret (id : Nat) : blkC id (some (.ret, s)) = some (.ret, s) := rfl
@[simp] theorem stepsC_some (os : List AOper) : stepsC call os (some s) = steps call os s := rfl
@[simp] theorem effC_some (d : Option Nat) (e : Eff) : effC d s (some e) = some ⟨puts s.t d e.v, putAll s.h e.hs⟩ := rfl
@[simp] theorem grdC_t (d : Option Nat) (o : AOp) : grdC call d o true s (some (.p (.sc (.bool true)))) = effC d s (eff call s (d.getD 0) o) := rfl
@[simp] theorem grdC_f (d : Option Nat) (o : AOp) : grdC call d o false s (some (.p (.sc (.bool false)))) = effC d s (eff call s (d.getD 0) o) := rfl
@[simp] theorem grdC_tf (d : Option Nat) (o : AOp) : grdC call d o true s (some (.p (.sc (.bool false)))) = some ⟨puts s.t d undefS, s.h⟩ := rfl
@[simp] theorem grdC_ft (d : Option Nat) (o : AOp) : grdC call d o false s (some (.p (.sc (.bool true)))) = some ⟨puts s.t d undefS, s.h⟩ := rfl
@[simp] theorem grdC_u (d : Option Nat) (o : AOp) (w : Bool) (l : Array Value) : grdC call d o w s (some (.p (.sc (.tuple l)))) = some ⟨puts s.t d undefS, s.h⟩ := rfl
@[simp] theorem runC_ret (fn : AFunc) : runC fn (some (.ret, s)) = finish fn s := rfl
@[simp] theorem runC_nor (fn : AFunc) : runC fn (some (.nor, s)) = finish fn s := rfl
@[simp] theorem loopC_nor (keep : List Nat) : loopC E keep a (some (.nor, s)) = Code E (.loop keep a) s := rfl
@[simp] theorem loopC_ex (keep : List Nat) (i : Nat) : loopC E keep a (some (.ex i, s)) = some (.ex i, s) := rfl
@[simp] theorem loopC_ret (keep : List Nat) : loopC E keep a (some (.ret, s)) = some (.ret, s) := rfl
end
/-- The first n parts of a code, and the rest. -/
def headN : Nat → ACode → ACode
  | 0, _ => .skip
  | n + 1, .seq a b => .seq a (headN n b)
  | _ + 1, c => c
def tailN : Nat → ACode → ACode
  | 0, c => c
  | n + 1, .seq _ b => tailN n b
  | _ + 1, _ => .skip
theorem split_code (E : Env) (n : Nat) : ∀ (c : ACode) (s s' : St), Code E (headN n c) s = some (.nor, s') → Code E c s = Code E (tailN n c) s' := by
  induction n with
  | zero =>
    intro c s s' h
    rw [headN, Code_skip] at h
    simp only [Option.some.injEq, Prod.mk.injEq, true_and] at h
    rw [h, tailN]
  | succ n ih =>
    intro c s s' h
    cases c
    case seq a b =>
      rw [headN, k_seq] at h
      rw [k_seq, tailN]
      cases ha : Code E a s with
      | none => rw [ha] at h; simp [seqC] at h
      | some q =>
        obtain ⟨o, s1⟩ := q
        rw [ha] at h
        cases o with
        | nor => rw [seqC_nor] at h ⊢; exact ih b s1 s' h
        | ex i => rw [seqC_ex] at h; simp at h
        | ret => rw [seqC_ret] at h; simp at h
    all_goals exact h.trans (Code_skip E s').symm
theorem run_fn (f : FuncId) (fn : AFunc) (a : List PV) (he : isExtF f = false) (hf : prg f = some fn) (ha : a.length = fn.np) :
    Run (EX cp) f a = runC fn (Code (EX cp) fn.body ⟨entry 0 a, []⟩) := by
  rw [Run_eq (EX cp) f fn a he hf ha]
  unfold runC; rfl

/-! ### whole numbers -/
theorem wrap_in (n : Int) (h0 : -9223372036854775808 ≤ n) (h1 : n ≤ 9223372036854775807) : IntKind.wrap .i64 n = n := by
  simp only [IntKind.wrap, IntKind.bits, IntKind.signed]
  simp
  split <;> omega
theorem wrap32_in (n : Int) (h0 : -2147483648 ≤ n) (h1 : n ≤ 2147483647) : IntKind.wrap .i32 n = n := by
  simp only [IntKind.wrap, IntKind.bits, IntKind.signed]
  simp
  split <;> omega
theorem wrap8_in (n : Int) (h0 : 0 ≤ n) (h1 : n ≤ 255) : IntKind.wrap .u8 n = n := by
  simp only [IntKind.wrap, IntKind.bits, IntKind.signed]
  simp
  omega
theorem if_yes {p : Prop} [Decidable p] {α : Type} (h : p) (a b : α) : (if p then a else b) = a := if_pos h
theorem if_no {p : Prop} [Decidable p] {α : Type} (h : ¬ p) (a b : α) : (if p then a else b) = b := if_neg h
theorem dec_yes {p : Prop} [Decidable p] (h : p) : decide p = true := decide_eq_true h
theorem dec_no {p : Prop} [Decidable p] (h : ¬ p) : decide p = false := decide_eq_false h
section
variable (k k' : IntKind) (a b : Int)
@[simp] theorem b_add : binS .add (.sc (.int k a)) (.sc (.int k' b)) = if k = k' then some (.sc (.int k (k.wrap (a + b)))) else none := rfl
@[simp] theorem b_sub : binS .sub (.sc (.int k a)) (.sc (.int k' b)) = if k = k' then some (.sc (.int k (k.wrap (a - b)))) else none := rfl
@[simp] theorem b_mul : binS .mul (.sc (.int k a)) (.sc (.int k' b)) = if k = k' then some (.sc (.int k (k.wrap (a * b)))) else none := rfl
@[simp] theorem b_quo : binS .quo (.sc (.int k a)) (.sc (.int k' b)) = if k = k' then (if b = 0 then none else some (.sc (.int k (k.wrap (a.tdiv b))))) else none := rfl
@[simp] theorem b_rem : binS .rem (.sc (.int k a)) (.sc (.int k' b)) = if k = k' then (if b = 0 then none else some (.sc (.int k (a.tmod b)))) else none := rfl
@[simp] theorem b_and : binS .and (.sc (.int k a)) (.sc (.int k' b)) = if k = k' then some (.sc (.int k (bits .and k a b))) else none := rfl
@[simp] theorem b_or : binS .or (.sc (.int k a)) (.sc (.int k' b)) = if k = k' then some (.sc (.int k (bits .or k a b))) else none := rfl
@[simp] theorem b_andNot : binS .andNot (.sc (.int k a)) (.sc (.int k' b)) = if k = k' then some (.sc (.int k (bits .andNot k a b))) else none := rfl
@[simp] theorem b_shl : binS .shl (.sc (.int k a)) (.sc (.int k' b)) = if b < 0 then none else some (.sc (.int k (k.wrap (a * 2 ^ (min b.toNat k.bits))))) := rfl
@[simp] theorem b_shr : binS .shr (.sc (.int k a)) (.sc (.int k' b)) = if b < 0 then none else some (.sc (.int k (a.fdiv (2 ^ (min b.toNat k.bits))))) := rfl
@[simp] theorem b_eql : binS .eql (.sc (.int k a)) (.sc (.int k' b)) = if k = k' then some (.sc (.bool (decide (a = b)))) else none := by
  show (if k = k' then some (PV.sc (.bool (a == b))) else none) = _
  rw [show (a == b) = decide (a = b) from by by_cases h : a = b <;> simp [h]]
@[simp] theorem b_neq : binS .neq (.sc (.int k a)) (.sc (.int k' b)) = if k = k' then some (.sc (.bool (decide (a ≠ b)))) else none := by
  show (if k = k' then some (PV.sc (.bool (a != b))) else none) = _
  rw [show (a != b) = decide (a ≠ b) from by by_cases h : a = b <;> simp [h]]
@[simp] theorem b_lss : binS .lss (.sc (.int k a)) (.sc (.int k' b)) = if k = k' then some (.sc (.bool (decide (a < b)))) else none := rfl
@[simp] theorem b_leq : binS .leq (.sc (.int k a)) (.sc (.int k' b)) = if k = k' then some (.sc (.bool (decide (a ≤ b)))) else none := rfl
@[simp] theorem b_gtr : binS .gtr (.sc (.int k a)) (.sc (.int k' b)) = if k = k' then some (.sc (.bool (decide (b < a)))) else none := rfl
@[simp] theorem b_geq : binS .geq (.sc (.int k a)) (.sc (.int k' b)) = if k = k' then some (.sc (.bool (decide (b ≤ a)))) else none := rfl
end
@[simp] theorem b_cat (a b : ByteArray) : binS .add (.sc (.string a)) (.sc (.string b)) = if ((a.size + b.size : Nat) : Int) ≤ 9223372036854775807 then some (.sc (.string (a ++ b))) else none := rfl
theorem toList_L (s : ByteArray) : s.toList = s.data.toList := Lib.toList_data s
theorem ba_eq {s t : ByteArray} : (s.toList = t.toList) ↔ s = t := by
  rw [toList_L, toList_L]
  constructor
  · intro h; cases s; cases t; simp only [ByteArray.mk.injEq]; exact Array.toList_inj.1 h
  · intro h; rw [h]
@[simp] theorem b_seq (a b : ByteArray) : binS .eql (.sc (.string a)) (.sc (.string b)) = some (.sc (.bool (decide (a = b)))) := by
  show some (PV.sc (.bool (a.toList == b.toList))) = _
  by_cases h : a = b
  · simp [h]
  · have : ¬ a.toList = b.toList := fun e => h (ba_eq.1 e)
    simp [h, this]
@[simp] theorem b_sne (a b : ByteArray) : binS .neq (.sc (.string a)) (.sc (.string b)) = some (.sc (.bool (decide (a ≠ b)))) := by
  show some (PV.sc (.bool (!(a.toList == b.toList)))) = _
  by_cases h : a = b
  · simp [h]
  · have : ¬ a.toList = b.toList := fun e => h (ba_eq.1 e)
    simp [h, this]
attribute [simp] k_seq k_reg k_regf fz1 k_ite k_blk Code_ex Code_ret Code_skip k_steps k_nil k_step0 k_step1 eff X.ev get put puts putAll uns sop1 sop2 norm keepT gc ren1 SV.id? natOf evs frzs ret1 frz newId unS SV.ref SV.ren Ob.isDp PV.cells cellAt List.filter_cons entry finish finish.one finish.many svLen natOr elems sbwE sbsE unRow sbRow sbAdd mnmxs mnmx fillP fillR undefS List.getElem?_cons_zero List.getElem?_cons_succ

/-! ### bytes -/
/-- A string's bytes. -/
def L (s : ByteArray) : List UInt8 := s.data.toList
theorem L_len (s : ByteArray) : (L s).length = s.size := by unfold L; rw [Array.length_toList]; rfl
theorem L_mk (l : List UInt8) : L ⟨l.toArray⟩ = l := by simp [L]
theorem L_inj {s t : ByteArray} (h : L s = L t) : s = t := by
  unfold L at h
  cases s; cases t
  simp only [ByteArray.mk.injEq]
  exact Array.toList_inj.1 h
theorem mk_L (s : ByteArray) : (⟨(L s).toArray⟩ : ByteArray) = s := L_inj (L_mk _)
theorem L_append (s t : ByteArray) : L (s ++ t) = L s ++ L t := by simp [L]
theorem L_extract (s : ByteArray) (i j : Nat) : L (s.extract i j) = ((L s).drop i).take (j - i) := by
  simp [L, ByteArray.extract, ByteArray.copySlice, List.extract_eq_take_drop]
theorem bt_at (s : ByteArray) (i : Nat) (a : UInt8) (t : List UInt8) (h : (L s).drop i = a :: t) : bt? s (i : Int) = some (bi a) ∧ i < s.size ∧ (L s).drop (i + 1) = t := by
  have hi : i < (L s).length := by
    rcases Nat.lt_or_ge i (L s).length with h' | h'
    · exact h'
    · rw [List.drop_eq_nil_of_le h'] at h; simp at h
  rw [List.drop_eq_getElem_cons hi] at h
  obtain ⟨h1, h2⟩ := List.cons.inj h
  rw [L_len] at hi
  refine ⟨?_, hi, h2⟩
  unfold bt?
  rw [if_pos (by omega), Int.toNat_natCast, getElem?_pos s i hi]
  rw [← h1]; rfl
theorem bt_atI (s : ByteArray) (i : Int) (n : Nat) (hn : i = n) (a : UInt8) (t : List UInt8) (h : (L s).drop n = a :: t) : bt? s i = some (bi a) := by rw [hn]; exact (bt_at s n a t h).1
theorem drop_at (s : ByteArray) (i : Nat) (h : i < s.size) : ∃ a t, (L s).drop i = a :: t := by
  have hi : i < (L s).length := by rw [L_len]; exact h
  exact ⟨_, _, List.drop_eq_getElem_cons hi⟩
theorem drop_end (s : ByteArray) (i : Nat) (h : s.size ≤ i) : (L s).drop i = [] := by rw [List.drop_eq_nil_iff, L_len]; exact h
theorem drop_len (s : ByteArray) (i : Nat) (l : List UInt8) (h : (L s).drop i = l) (hi : i ≤ s.size) : s.size = i + l.length := by
  have := congrArg List.length h
  rw [List.length_drop, L_len] at this
  omega
@[simp] theorem bRows_append (a b : List UInt8) : bRows a ++ bRows b = bRows (a ++ b) := by simp [bRows]
@[simp] theorem bRows_nil : bRows [] = [] := rfl
@[simp] theorem bRows_len (a : List UInt8) : (bRows a).length = a.length := by simp [bRows]
@[simp] theorem sbBytes_rows : ∀ l : List UInt8, sbBytes (bRows l) = some l
  | [] => rfl
  | b :: l => by
    have hb := b.toNat_lt
    show (if (0 : Int) ≤ (b.toNat : Int) ∧ (b.toNat : Int) < 256 then (sbBytes (bRows l)).map (UInt8.ofNat (b.toNat : Int).toNat :: ·) else none) = some (b :: l)
    rw [if_pos ⟨by omega, by omega⟩, sbBytes_rows l]
    simp
end Go.Proofs.Ytomnggbideepeaa.AM

end
