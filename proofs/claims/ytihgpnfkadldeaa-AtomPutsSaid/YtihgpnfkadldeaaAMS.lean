/- (*strings.Builder).WriteString and String, walked over this program for the small machine. No condition. -/
import Derived.Test.YtihgpnfkadldeaaAM15
import Derived.Test.YtihgpnfkadldeaaProg
import Derived.WalkKit
import Derived.Shelf.RegionOpenPlain
import Derived.ProofKit
import Derived.Lib.Builder
import Derived.Lib.AppendStr
import Derived.Lib.UnsafeStr
import Derived.Lib.FrozenHead
namespace Go.Proofs.Ytihgpnfkadldeaa.AM
open Go.RowKit
set_option linter.unusedVariables false
set_option linter.unusedSimpArgs false

theorem sb_size : (Try.prog.info? 78).map (·.size) = some 2 := by kernel_rfl
theorem sb_lies : liesAt Try.prog Try.prog.depth 78 (2 / Try.prog.cellsOf 78) 0 78 1 = true := by kernel_rfl
theorem sb_el : elOk Try.prog 5 1 1 = true := by decide +kernel
set_option maxHeartbeats 1000000 in
set_option maxRecDepth 100000 in
theorem sb_check_used (b : Nat) (w : World) (h0 : w.cell? ⟨b, 0, none⟩ = some (.pointer (some ⟨b, 0, none⟩))) :
    Calls Try.prog 84 #[.pointer (some ⟨b, 0, none⟩)] w fun e w' => e = .returned (.tuple #[]) ∧ w' = w := by
  obtain ⟨j, hj, _⟩ := Option.map_eq_some_iff.1 sb_size
  go_enter Try.func84, Try.ntmps84
  go_wp2
  rw [Lib.run_neq_ptr_same w _ Try.underlying76 hj]
  go_wp2
  go_end0
  exact ⟨rfl, rfl⟩
set_option maxHeartbeats 1000000 in
set_option maxRecDepth 100000 in
theorem sb_check_fresh (b : Nat) (w : World) (h0 : w.cell? ⟨b, 0, none⟩ = some (.pointer none)) (hsh : w.shape? b = some (78, 2)) (hfz : w.frozen? ⟨b, 0, none⟩ = false) :
    Calls Try.prog 84 #[.pointer (some ⟨b, 0, none⟩)] w fun e w' => e = .returned (.tuple #[]) ∧ w' = w.setCell ⟨b, 0, none⟩ (.pointer (some ⟨b, 0, none⟩)) := by
  obtain ⟨j, hj, hjs⟩ := Option.map_eq_some_iff.1 sb_size
  go_enter Try.func84, Try.ntmps84
  go_wp2
  rw [Lib.run_to_unsafe w ⟨b, 0, none⟩ Try.underlying76 Try.underlying103 hj (by rw [hjs]; decide) hsh (Nat.zero_lt_succ 1)]
  simp only [Result.andThen]
  rw [Oper.upon_value]
  go_wp2
  rw [run_callFunc_extern Try.func89 (by kernel_rfl) (by kernel_rfl) (by kernel_rfl) (e := Extern.AbiNoEscape.same) (by kernel_rfl)]
  rw [Lib.run_noEscape]
  simp only [Result.andThen]
  rw [Oper.upon_value]
  go_wp2
  rw [Lib.run_from_unsafe w ⟨b, 0, none⟩ Try.underlying103 Try.underlying76 hj hsh sb_lies]
  simp only [Result.andThen]
  rw [Oper.upon_value]
  go_wp2
  go_end0
  exact ⟨rfl, rfl⟩

theorem owns_one' {w : World} {base e n k : Nat} {v : Value} {xs : List Value} (h : w.ownsRow base e k v n xs) : v.oneCell' = true := by
  rcases h.2 with ⟨rfl, _⟩ | ⟨_, _, _, rfl, _⟩ <;> rfl
/-- copyCheck: the builder's first cell is its own address from then on; nothing else turns. -/
theorem sb_check (B b : Nat) (p v : Value) (w : World) (hB : B ≤ b) (hp : p = .pointer none ∨ p = .pointer (some ⟨b, 0, none⟩)) (hg : w.heap[b]? = some (.cells #[p, v] 78 (0, 0))) :
    Calls Try.prog 84 #[.pointer (some ⟨b, 0, none⟩)] w fun e w' => e = .returned (.tuple #[]) ∧ w'.heap[b]? = some (.cells #[.pointer (some ⟨b, 0, none⟩), v] 78 (0, 0)) ∧ Below B w w' ∧ w'.heap.size = w.heap.size ∧ ∀ k, k ≠ b → w'.heap[k]? = w.heap[k]? := by
  have hlt : b < w.heap.size := (Array.getElem?_eq_some_iff.1 hg).1
  rcases hp with rfl | rfl
  · refine (sb_check_fresh b w (by rw [Lib.cell_of_heap hg]; rfl) (by simp [World.shape?, hg]) (Lib.frozen_of_heap hg 0)).mono ?_
    rintro e w' ⟨rfl, rfl⟩
    have hset : (w.setCell ⟨b, 0, none⟩ (.pointer (some ⟨b, 0, none⟩))).heap[b]? = some (.cells #[.pointer (some ⟨b, 0, none⟩), v] 78 (0, 0)) := by
      simp [World.setCell, Array.getElem?_modify, hg]
    exact ⟨rfl, hset, (Below.refl B w).setCell (p := ⟨b, 0, none⟩) hB _, by simp [World.setCell], fun k hk => Below.heap_setCell _ _ _ _ hk⟩
  · refine (sb_check_used b w (by rw [Lib.cell_of_heap hg]; rfl)).mono ?_
    rintro e w' ⟨rfl, rfl⟩
    exact ⟨rfl, hg, Below.refl B _, rfl, fun _ _ => rfl⟩

/-- append(buf, t...) where the call owns buf. -/
theorem sb_append {B : Nat} {v : Value} {n : Nat} {xs : List Value} (w : World) (t : ByteArray) (ty : TypeId) (hown : w.ownsRow B 5 1 v n xs) (hby : n + t.size ≤ 140737488355328) (hB : B ≤ w.heap.size) :
    ∃ v' w', (Builtin.append_ #[37, 9] ty #[v, .string t]).run Try.prog w = .ok v' w' ∧ w'.ownsRow B 5 1 v' (n + t.size) (xs ++ t.data.toList.map fun c => Value.int .u8 c.toNat) ∧
      ((blk v' = blk v ∧ w'.os = w.os ∧ w'.tape = w.tape ∧ w'.output = w.output ∧ w'.heap.size = w.heap.size ∧ ∀ b, blk v ≠ some b → w'.heap[b]? = w.heap[b]?) ∨ (blk v' = some w.heap.size ∧ Below w.heap.size w w')) := by
  obtain ⟨i, z, hi, hz, hi1, hby1, hzs⟩ := elOk_sound sb_el
  have hbl : (t.data.toList.map fun c => Value.int .u8 c.toNat).length = t.size := by simp
  have := run_app (P := Try.prog) (ty := ty) (x := .string t) (m := t.size) (n := n) (news := t.data.toList.map fun c => Value.int .u8 c.toNat) Try.underlying37 Try.underlying9 (by simp) hi hz (by rw [hzs, hi1]) (by rw [hi1]; exact hown) (by rw [hbl, hi1, Nat.mul_one]) (by simp [Value.oneCell']) (fun w' => rfl) (fun w' _ => by
    rw [hi1]
    have := Lib.run_firstCells_string (P := Try.prog) w' 1 t
    rw [this]; rfl) (by simp only [maxLen]; omega) (by rw [hby1, Nat.mul_one]; exact hby) hB
  rw [hi1] at this
  exact this

theorem sb_wpList {ops : Array Oper} {rest : List Oper} {o : Oper} {a : Act} {Q : Exit → Act → World → Prop} {w : World} (hgd : o.guard = none) (sl x : Operand) (ho : o.op = .call { callee := .builtin .append, args := #[sl, x], argTypes := #[37, 9] })
    (B : Nat) (v : Value) (n : Nat) (xs : List Value) (hs : a.eval sl = v) (hown : w.ownsRow B 5 1 v n xs) (t : ByteArray) (hx : a.eval x = .string t) (hby : n + t.size ≤ 140737488355328) (hB : B ≤ w.heap.size)
    (h : ∀ v' w', w'.ownsRow B 5 1 v' (n + t.size) (xs ++ t.data.toList.map fun c => Value.int .u8 c.toNat) → ((blk v' = blk v ∧ w'.os = w.os ∧ w'.tape = w.tape ∧ w'.output = w.output ∧ w'.heap.size = w.heap.size ∧ ∀ b, blk v ≠ some b → w'.heap[b]? = w.heap[b]?) ∨ (blk v' = some w.heap.size ∧ Below w.heap.size w w')) → wpList Try.prog ops Q rest (a.put o.dst v') w') : wpList Try.prog ops Q (o :: rest) a w := by
  refine wpList_plain hgd fun K hK => ?_
  obtain ⟨v', w', hr, h2, h3⟩ := sb_append w t o.type hown hby hB
  unfold Oper.wp execOp
  simp only [ho, resolve, invoke, builtin, Sem.run_bind, Sem.run_pure, Result.andThen_ok, List.map_toArray, List.map_cons, List.map_nil, hs, hx, hr]
  exact hK _ _ (h v' w' h2 h3)

set_option maxHeartbeats 4000000 in
set_option maxRecDepth 100000 in
theorem sbWrite : SbWrite Try.prog 78 5 62 := by
  intro B b p v bs t w hB hBw hp hg hown hne hle
  have hlt : b < w.heap.size := (Array.getElem?_eq_some_iff.1 hg).1
  go_enter Try.func62, Try.ntmps62
  go_wp2_with (go_at_call 84; refine (sb_check B b p v _ hB hp hg).mono ?_)
  rintro e w1 ⟨rfl, hg1, hb1, hs1, hk1⟩
  have c0 : w1.cell? ⟨b, 0, none⟩ = some (.pointer (some ⟨b, 0, none⟩)) := by rw [Lib.cell_of_heap hg1]; rfl
  have c1 : w1.cell? ⟨b, 1, none⟩ = some v := by rw [Lib.cell_of_heap hg1]; rfl
  have hown1 : w1.ownsRow B 5 1 v bs.length bs := ownsRow_keep hown fun b' hb' => hk1 b' fun e => hne (by rw [← e]; exact hb')
  go_wp2_with (at_builtin; refine sb_wpList rfl _ _ rfl B _ _ _ rfl hown1 t rfl ?c4 ?c5 ?_)
  case c4 => simpa [maxBytes] using hle
  case c5 => omega
  intro v' w2 hown' hcase
  have hkeep : ∀ k, k < w1.heap.size → blk v ≠ some k → w2.heap[k]? = w1.heap[k]? := fun k h1 h2 => by
    rcases hcase with ⟨_, _, _, _, _, h⟩ | ⟨_, h⟩
    · exact h k h2
    · exact h.block k (by omega)
  have hsz : w1.heap.size ≤ w2.heap.size := by
    rcases hcase with ⟨_, _, _, _, h, _⟩ | ⟨_, h⟩
    · omega
    · exact h.size
  have hb2 : w2.heap[b]? = some (.cells #[.pointer (some ⟨b, 0, none⟩), v] 78 (0, 0)) := by
    rw [hkeep b (by omega) hne]; exact hg1
  have hbel : Below B w1 w2 := by
    rcases hcase with ⟨h0, h1, h2, h3, h4, h5⟩ | ⟨_, h⟩
    · refine ⟨h1, h2, h3, by omega, fun k hk => h5 k fun e => ?_⟩
      have := (owns_block hown1 e).1
      omega
    · exact h.mono (by omega)
  have d0 : w2.cell? ⟨b, 0, none⟩ = some (.pointer (some ⟨b, 0, none⟩)) := by rw [Lib.cell_of_heap hb2]; rfl
  have d1 : w2.cell? ⟨b, 1, none⟩ = some v := by rw [Lib.cell_of_heap hb2]; rfl
  have f1 : w2.frozen? ⟨b, 1, none⟩ = false := Lib.frozen_of_heap hb2 1
  have hv1 : v'.oneCell' = true := owns_one' hown'
  obtain ⟨ao, n', cap, rfl⟩ : ∃ ao n' cap, v' = .slice ao n' cap := by
    rcases hown'.2 with ⟨h, _⟩ | ⟨_, _, _, h, _⟩
    · exact ⟨_, _, _, h⟩
    · exact ⟨_, _, _, h⟩
  go_wp2
  go_ret2
  have hnb : blk (.slice ao n' cap) ≠ some b := fun e => by
    rcases hcase with ⟨h, _⟩ | ⟨h, _⟩
    · rw [h] at e; exact hne e
    · rw [h] at e; simp at e; omega
  refine ⟨rfl, .slice ao n' cap, ?_, ?_, ?_, ?_, ?_⟩
  · simp [World.setCell, Array.getElem?_modify, hb2]
  · exact ownsRow_keep hown' fun k hk => Below.heap_setCell _ _ _ _ fun e => hnb (by rw [hk]; rw [e])
  · rcases hcase with ⟨h, _⟩ | ⟨h, _⟩
    · exact .inl h
    · exact .inr ⟨_, h, by omega⟩
  · exact (hb1.trans hbel).setCell (p := ⟨b, 1, none⟩) hB _
  · intro k h1 h2 h3
    rw [Below.heap_setCell _ _ _ _ h2, hkeep k (by omega) h3, hk1 k h2]

end Go.Proofs.Ytihgpnfkadldeaa.AM
