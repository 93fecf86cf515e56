-- several texts in one (wip/merge.py)
import Derived.Test.YtgepcdpnjinadaaKCountLines22
import Derived.Test.YtgepcdpnjinadaaKCountLines25
import Derived.Test.YtgepcdpnjinadaaKCountLines27
import Derived.Lib.OthersKept
import Derived.Lib.Builder
section
-- MACHINE SIDE, written by wip/drive.py (this session's driver over the kit's print) for this claim. Lean checks it.
namespace Go.Proofs.Ytgepcdpnjinadaa.PX
open Go.RowKit Go.Proofs.YtgepcdpnjinadaaW.PrintWords Go.Proofs.YtgepcdpnjinadaaW.PrintLast Go.Proofs.YtgepcdpnjinadaaW.PrintMore
attribute [local go_sem] max2_int min2_int max_two min_two max_three min_three max_four min_four   -- for this text's walks alone
set_option linter.unusedVariables false
set_option linter.unusedSimpArgs false

-- HAND
-- FUNCTION palinode/count.Of
-- KINDS (str) (st) norounds making
-- NEEDS Derived.Test.YtgepcdpnjinadaaCN
-- NEEDS Derived.Lib.OthersKept
-- NEEDS Derived.Lib.Builder
def count_Of.f (a0 : ByteArray) : Option (Int × Int × Int × Int) := if a0.size ≤ 1000000 then some (V.cnt (U.points (V.L a0))) else none
theorem two_blocks {w w1 : World} {o1 o2 : Obj} (b : Below ((w.alloc o1).alloc o2).heap.size ((w.alloc o1).alloc o2) w1) : w1.heap[w.heap.size]? = some o1 ∧ w1.heap[w.heap.size + 1]? = some o2 ∧ w.heap.size + 1 < w1.heap.size ∧ Below w.heap.size w w1 := by
  have e1 : (w.alloc o1).heap.size = w.heap.size + 1 := by simp
  have e2 : ((w.alloc o1).alloc o2).heap.size = w.heap.size + 1 + 1 := by simp
  have h1 : ((w.alloc o1).alloc o2).heap[w.heap.size]? = some o1 := by rw [Lib.alloc_old _ _ _ (by omega)]; exact heap_alloc_new w o1
  have h2 : ((w.alloc o1).alloc o2).heap[w.heap.size + 1]? = some o2 := by have := heap_alloc_new (w.alloc o1) o2; rw [e1] at this; exact this
  refine ⟨(b.block _ (by omega)).trans h1, (b.block _ (by omega)).trans h2, by have := b.size; omega, ?_⟩
  exact below_step (below_alloc (below_alloc (Below.refl _ _) _) _) b
theorem far_any {w : World} {g : Nat} {o : Obj} (h : w.heap[g]? = some o) {p : Addr} (hp : g ≠ p.block) (u : Value) : (w.setCell p u).heap[g]? = some o := (Below.heap_setCell w p u g hp).trans h
theorem iterPos_of {w : World} {k : Nat} {s : ByteArray} {pos : Nat} (h : w.heap[k]? = some (.stringIter s pos)) : w.iterPos k = pos := by simp [World.iterPos, h]
set_option maxHeartbeats 8000000 in
set_option maxRecDepth 100000 in
theorem count_Of.walk (a0 : ByteArray) (t : ByteArray) (p : List Int) (hp : ∀ v ∈ p, U.sc v) (hL : V.L t = U.encs p) (hlen : p.length ≤ 1000000) (hcl : ∀ w, Calls Try.prog 26 #[.string a0] w fun e w' => e = .returned (.string t) ∧ Below w.heap.size w w') (w : World) :
    Calls Try.prog 38 #[.string a0] w fun e w' => e = .returned (.agg #[.int .i64 (V.cnt p).1, .int .i64 (V.cnt p).2.1, .int .i64 (V.cnt p).2.2.1, .int .i64 (V.cnt p).2.2.2]) ∧ Below w.heap.size w w' := by
  replace hL := Aside0.mk hL
  replace hp := Aside0.mk hp
  replace hlen := Aside0.mk hlen
  go_enter Try.func38, Try.ntmps38
  go_wp2_with (go_at_call 26; (with_reducible refine (hcl _).mono ?_); rintro e w1 ⟨rfl, b1⟩)
  obtain ⟨hb0, hb1, hz, hB⟩ := two_blocks b1
  clear b1
  go_loopw [] (fun wr => ∃ (us vs : List Int) (c0 c1 c2 c3 : Int), Aside0 (p = us ++ vs) ∧ Aside0 (V.cnt us = (c0, c1, c2, c3)) ∧ Aside0 (wr.heap[w.heap.size]? = some (.cells #[.int .i64 0, .int .i64 0, .int .i64 0, .int .i64 0] 44 (0, 0))) ∧ Aside0 (wr.heap[w.heap.size + 1]? = some (.cells #[.int .i64 c0, .int .i64 c1, .int .i64 c2, .int .i64 c3] 44 (0, 0))) ∧ Aside0 (wr.heap[w1.heap.size]? = some (.stringIter t (U.encs us).length)) ∧ Aside0 (Below w.heap.size w wr)) (fun wr => t.size - wr.iterPos w1.heap.size)
  case atStart =>
    refine ⟨[], p, 0, 0, 0, 0, ⟨rfl⟩, ⟨rfl⟩, ⟨?_⟩, ⟨?_⟩, ⟨?_⟩, ⟨below_alloc hB _⟩⟩
    · exact blk_alloc hb0 _
    · exact blk_alloc hb1 _
    · exact World.iter_heap w1 t 0
  case round =>
    clear hb0 hb1
    obtain ⟨us, vs, c0, c1, c2, c3, hsp, hcn, k0, k1, kit, HB⟩ := hrel
    match vs, hsp with
    | [], hsp =>
      have hLt : V.L t = U.encs us := by rw [hL.out, hsp.out, List.append_nil]
      have hts : t.size = (U.encs us).length := by rw [← V.L_len, hLt]
      have hnx : ∀ ty, (Instr.next (.pointer (some ⟨w1.heap.size, 0, none⟩)) true ty).run Try.prog wr = _ := fun ty => Lib.run_next_end_at wr w1.heap.size t (U.encs us).length ty kit.out (by omega)
      have hpu : V.cnt p = (c0, c1, c2, c3) := by rw [hsp.out, List.append_nil]; exact hcn.out
      have x0 := (blk_cell k1.out 0).trans rfl
      have x1 := (blk_cell k1.out 1).trans rfl
      have x2 := (blk_cell k1.out 2).trans rfl
      have x3 := (blk_cell k1.out 3).trans rfl
      have y0 := (blk_cell k0.out 0).trans rfl
      have y1 := (blk_cell k0.out 1).trans rfl
      have y2 := (blk_cell k0.out 2).trans rfl
      have y3 := (blk_cell k0.out 3).trans rfl
      have f0 := blk_frozen k0.out 0
      have f1 := blk_frozen k0.out 1
      have f2 := blk_frozen k0.out 2
      have f3 := blk_frozen k0.out 3
      clear hLt hts
      replace hpu := Aside0.mk hpu
      go_wp2
      refine bodyPost_ret (results_cell_row rfl _ _ w.heap.size 44 #[.int .i64 c0, .int .i64 c1, .int .i64 c2, .int .i64 c3] (0, 0) _ rfl (blk_put (blk_put (blk_put (blk_put k0.out 0 _ rfl) 1 _ rfl) 2 _ rfl) 3 _ rfl) Try.underlying44 rfl (by kernel_rfl)) rfl ?_
      exact ⟨by rw [hpu.out], below_set (below_set (below_set (below_set HB.out (by omega)) (by omega)) (by omega)) (by omega)⟩
    | v :: vs, hsp =>
      have hLt : V.L t = U.encs us ++ (U.enc v ++ U.encs vs) := by rw [hL.out, hsp.out, U.encs_append, U.encs_cons]
      have hsv : U.sc v := hp.out v (by rw [hsp.out]; simp)
      obtain ⟨d1, d2⟩ := V.decode_enc t (U.encs us) v (U.encs vs) hsv hLt
      have hel := U.enc_len v
      have hts : t.size = (U.encs us).length + ((U.enc v).length + (U.encs vs).length) := by rw [← V.L_len, hLt, List.length_append, List.length_append]
      have hpos : (U.encs us).length < t.size := by omega
      have hnx : ∀ ty, (Instr.next (.pointer (some ⟨w1.heap.size, 0, none⟩)) true ty).run Try.prog wr = _ := fun ty => Lib.run_next_any_at wr w1.heap.size t (U.encs us).length ty kit.out hpos
      rw [d1, d2] at hnx
      obtain ⟨wi, hwi⟩ : ∃ wi, wr.iterAt w1.heap.size t ((U.encs us).length + (U.enc v).length) = wi := ⟨_, rfl⟩
      rw [hwi] at hnx
      have j0 := (Lib.iterAt_other wr w1.heap.size w.heap.size t ((U.encs us).length + (U.enc v).length) (by omega)).trans k0.out
      have j1 := (Lib.iterAt_other wr w1.heap.size (w.heap.size + 1) t ((U.encs us).length + (U.enc v).length) (by omega)).trans k1.out
      have jit := Lib.iterAt_heap wr w1.heap.size t (U.encs us).length ((U.encs us).length + (U.enc v).length) kit.out
      have jB := Lib.below_iterAt HB.out (k := w1.heap.size) (by omega) t ((U.encs us).length + (U.enc v).length)
      rw [hwi] at j0 j1 jit jB
      clear hwi
      have x0 := (blk_cell j1 0).trans rfl
      have x1 := (blk_cell j1 1).trans rfl
      have x2 := (blk_cell j1 2).trans rfl
      have x3 := (blk_cell j1 3).trans rfl
      replace j0 := Aside0.mk j0
      replace j1 := Aside0.mk j1
      replace jit := Aside0.mk jit
      replace jB := Aside0.mk jB
      have kp := Aside0.mk (iterPos_of kit.out)
      clear k0 k1 kit HB d1 d2
      replace hLt := Aside0.mk hLt
      replace hts := Aside0.mk hts
      replace hel := Aside0.mk hel
      have hof := fun w => count_of.calls v ((U.enc v).length : Int) 1 (V.cu v) (V.cl v) w rfl
      have hpl := fun w => count_Plus.calls c0 c1 c2 c3 ((U.enc v).length : Int) 1 (V.cu v) (V.cl v) _ _ _ _ w rfl
      go_wp2
      go_region_with (first | (go_at_call 49; (refine (hof _).mono ?_); rintro e w2 ⟨rfl, b2⟩; have z2 := Aside0.mk (blk_below (by first | exact j1.out | exact blk_drew j1.out | exact blk_drewN j1.out _) b2); have x0 := (blk_cell z2.out 0).trans rfl; have x1 := (blk_cell z2.out 1).trans rfl; have x2 := (blk_cell z2.out 2).trans rfl; have x3 := (blk_cell z2.out 3).trans rfl) | (go_at_call 40; (refine (hpl _).mono ?_); rintro e w3 ⟨rfl, b3⟩; have z3 := Aside0.mk (blk_below z2.out b3); have x0 := (blk_cell z3.out 0).trans rfl; have x1 := (blk_cell z3.out 1).trans rfl; have x2 := (blk_cell z3.out 2).trans rfl; have x3 := (blk_cell z3.out 3).trans rfl; have f0 := blk_frozen z3.out 0; have f1 := blk_frozen z3.out 1; have f2 := blk_frozen z3.out 2; have f3 := blk_frozen z3.out 3))
      all_goals
        go_roundw
        case rel =>
          refine ⟨_, _, _, _, _, _, _, _, ⟨us ++ [v], vs, _, _, _, _, ⟨by rw [hsp.out]; simp⟩, ⟨V.cnt_step hcn.out (by have := hlen.out; rw [hsp.out] at this; simp at this; omega) v⟩, ⟨?_⟩, ⟨?_⟩, ⟨?_⟩, ⟨?_⟩⟩, rfl⟩
          · exact far_any (far_any (far_any (far_any (blk_below (blk_below (blk_drew j0.out) b2) b3) (by simp) _) (by simp) _) (by simp) _) (by simp) _
          · exact blk_put (blk_put (blk_put (blk_put z3.out 0 _ rfl) 1 _ rfl) 2 _ rfl) 3 _ rfl
          · rw [U.encs_append, U.encs_cons, U.encs_nil, List.append_nil, List.length_append]
            exact far_any (far_any (far_any (far_any (blk_below (blk_below (blk_drew jit.out) b2) b3) (by simp; omega) _) (by simp; omega) _) (by simp; omega) _) (by simp; omega) _
          · exact below_set (below_set (below_set (below_set (below_step (below_step (below_drew1 jB.out) b2) b3) (by omega)) (by omega)) (by omega)) (by omega)
        case measure =>
          have h1 := iterPos_of (far_any (far_any (far_any (far_any (blk_below (blk_below (blk_drew jit.out) b2) b3) (p := ⟨w.heap.size + 1, 0, none⟩) (by simp; omega) (.int .i64 (wrap64 (c0 + ((U.enc v).length : Int))))) (p := ⟨w.heap.size + 1, 1, none⟩) (by simp; omega) (.int .i64 (wrap64 (c1 + 1)))) (p := ⟨w.heap.size + 1, 2, none⟩) (by simp; omega) (.int .i64 (wrap64 (c2 + V.cu v)))) (p := ⟨w.heap.size + 1, 3, none⟩) (by simp; omega) (.int .i64 (wrap64 (c3 + V.cl v))))
          have h2 := hts.out
          have h3 := hel.out
          rw [kp.out]
          have h1' : World.iterPos _ w1.heap.size = _ := h1
          rw [h1']
          omega
theorem count_Of.calls (a0 : ByteArray) (r1 r2 r3 r4 : Int) (w : World) (h : count_Of.f a0 = some (r1, r2, r3, r4)) :
  Calls Try.prog 38 #[.string a0] w fun e w' => e = .returned (.agg #[.int .i64 r1, .int .i64 r2, .int .i64 r3, .int .i64 r4]) ∧ Below w.heap.size w w' := by
 unfold count_Of.f at h
 by_cases hs : a0.size ≤ 1000000
 ·rw [if_pos hs] at h
  have hl := U.points_le (V.L a0)
  rw [V.L_len] at hl
  have := count_Of.walk a0 (V.cleanS a0) (U.points (V.L a0)) (U.points_sc _) (V.L_clean a0) (by omega) (fun w => utf_Clean.calls (a0.size + 8) a0 _ w (V.Clean_eq _ a0 hs (Nat.le_refl _))) w
  rw [Option.some.inj h] at this
  exact this
 ·rw [if_neg hs] at h
  cases h

end Go.Proofs.Ytgepcdpnjinadaa.PX
end

section
-- MACHINE SIDE, written by wip/drive.py (this session's driver over the kit's print) for this claim. Lean checks it.
namespace Go.Proofs.Ytgepcdpnjinadaa.PX
open Go.RowKit Go.Proofs.YtgepcdpnjinadaaW.PrintWords Go.Proofs.YtgepcdpnjinadaaW.PrintLast Go.Proofs.YtgepcdpnjinadaaW.PrintMore
attribute [local go_sem] max2_int min2_int max_two min_two max_three min_three max_four min_four   -- for this text's walks alone
set_option linter.unusedVariables false
set_option linter.unusedSimpArgs false

attribute [local go_sem high] eqA44
/-! ### count_From: function 36 -/
mutual
def count_From.j0 : Nat → ByteArray → Int → Int → Bool → Option (Int × Int)
  | 0, _, _, _, _ => none
  | k + 1, x0, x1, x2, x10 => if x10 = true then (some (0, 12)) else (if x2 < 0 then (count_From.j1 k x0 x1 x2 true) else (count_From.j1 k x0 x1 x2 (decide (x2 > (x0.size : Int)))))
def count_From.j1 : Nat → ByteArray → Int → Int → Bool → Option (Int × Int)
  | 0, _, _, _, _ => none
  | k + 1, x0, x1, x2, x19 => if x19 = true then (some (0, 10)) else ((utf_IsEdge.f k x0 x2).bind fun t226 => (if t226 = true then (if 0 ≤ x2 then (if x2 ≤ (x0.size : Int) then ((count_Of.f (x0.extract 0 (x2 : Int).toNat)).bind fun bt227 => ((count_Of.f x0).bind fun bt232 => (if (bt227.1 == bt232.1 && (bt227.2.1 == bt232.2.1 && (bt227.2.2.1 == bt232.2.2.1 && (bt227.2.2.2 == bt232.2.2.2)))) = true then ((count_Get.f bt232.1 bt232.2.1 bt232.2.2.1 bt232.2.2.2 x1).bind fun t237 => (some (t237, 0))) else ((count_Get.f bt227.1 bt227.2.1 bt227.2.2.1 bt227.2.2.2 x1).bind fun t238 => (some (t238, 0)))))) else (none)) else (none)) else (some (0, 11))))
end
def count_From.f (k : Nat) (a0 : ByteArray) (a1 : Int) (a2 : Int) : Option (Int × Int) := (count_Is.f a1).bind fun t224 => (if t224 = true then ((utf_Valid.f k a0).bind fun t225 => (count_From.j0 k a0 a1 a2 (!t225))) else (count_From.j0 k a0 a1 a2 true))
theorem count_From.mono_l : ∀ k, (∀ y0 y1 y2 y3, LeO (count_From.j0 k y0 y1 y2 y3) (count_From.j0 (k + 1) y0 y1 y2 y3)) ∧ (∀ y0 y1 y2 y3, LeO (count_From.j1 k y0 y1 y2 y3) (count_From.j1 (k + 1) y0 y1 y2 y3))
  | 0 => ⟨fun _ _ _ _ r h => by simp [count_From.j0] at h, fun _ _ _ _ r h => by simp [count_From.j1] at h⟩
  | k + 1 => by
    obtain ⟨ih0, ih1⟩ := count_From.mono_l k
    refine ⟨?_, ?_⟩
    · intro y0 y1 y2 y3
      unfold count_From.j0
      repeat' first
      | (with_reducible exact ih0 _ _ _ _)
      | (with_reducible exact ih1 _ _ _ _)
      | (with_reducible exact utf_IsEdge.mono _ _ _)
      | (with_reducible exact utf_Valid.mono _ _)
      | (with_reducible exact LeO.refl _)
      | (with_reducible exact LeO.none _)
      | (with_reducible refine LeO.ite ?_ ?_)
      | (with_reducible refine LeO.bind ?_ (fun _ => ?_))
      | exact ih0 _ _ _ _
      | exact ih1 _ _ _ _
      | exact utf_IsEdge.mono _ _ _
      | exact utf_Valid.mono _ _
      | exact LeO.none _
      | refine LeO.ite ?_ ?_
      | refine LeO.bind ?_ (fun _ => ?_)
    · intro y0 y1 y2 y3
      unfold count_From.j1
      repeat' first
      | (with_reducible exact ih0 _ _ _ _)
      | (with_reducible exact ih1 _ _ _ _)
      | (with_reducible exact utf_IsEdge.mono _ _ _)
      | (with_reducible exact utf_Valid.mono _ _)
      | (with_reducible exact LeO.refl _)
      | (with_reducible exact LeO.none _)
      | (with_reducible refine LeO.ite ?_ ?_)
      | (with_reducible refine LeO.bind ?_ (fun _ => ?_))
      | exact ih0 _ _ _ _
      | exact ih1 _ _ _ _
      | exact utf_IsEdge.mono _ _ _
      | exact utf_Valid.mono _ _
      | exact LeO.none _
      | refine LeO.ite ?_ ?_
      | refine LeO.bind ?_ (fun _ => ?_)
theorem count_From.mono : ∀ a0 a1 a2 k, LeO (count_From.f k a0 a1 a2) (count_From.f (k + 1) a0 a1 a2) := by
  intro a0 a1 a2 k
  obtain ⟨ih0, ih1⟩ := count_From.mono_l k
  unfold count_From.f
  repeat' first
      | (with_reducible exact ih0 _ _ _ _)
      | (with_reducible exact ih1 _ _ _ _)
      | (with_reducible exact utf_IsEdge.mono _ _ _)
      | (with_reducible exact utf_Valid.mono _ _)
      | (with_reducible exact LeO.refl _)
      | (with_reducible exact LeO.none _)
      | (with_reducible refine LeO.ite ?_ ?_)
      | (with_reducible refine LeO.bind ?_ (fun _ => ?_))
      | exact ih0 _ _ _ _
      | exact ih1 _ _ _ _
      | exact utf_IsEdge.mono _ _ _
      | exact utf_Valid.mono _ _
      | exact LeO.none _
      | refine LeO.ite ?_ ?_
      | refine LeO.bind ?_ (fun _ => ?_)
set_option maxHeartbeats 8000000 in
set_option maxRecDepth 100000 in
theorem count_From.calls (k : Nat) (a0 : ByteArray) (a1 : Int) (a2 : Int) (r1 : Int) (r2 : Int) (w : World) (h : count_From.f k a0 a1 a2 = some (r1, r2)) :
  Calls Try.prog 36 #[.string a0, .int .i64 a1, .int .i64 a2] w fun e w' => e = .returned (.tuple #[.int .i64 r1, .int .i64 r2]) ∧ Below w.heap.size w w' := by
 have hu44 := Try.underlying44
 have HB := Aside0.mk (Below.refl w.heap.size w)
 have H : ((count_Is.f a1).bind fun t224 => (if t224 = true then ((utf_Valid.f k a0).bind fun t225 => (count_From.j0 k a0 a1 a2 (!t225))) else (count_From.j0 k a0 a1 a2 true))) = some (r1, r2) := h
 clear h
 have HC4 := Aside0.mk H
 clear H
 go_enter Try.func36, Try.ntmps36
 go_upto_region 1 with (fail)
 go_cut [10] (fun v10 wc => ∃ (kq : Nat) (x10_3 : Bool), v10 = .bool x10_3 ∧ Aside0 (count_From.j0 kq a0 a1 a2 x10_3 = some (r1, r2)) ∧ Aside0 (kq ≤ k) ∧ Aside0 (Below w.heap.size w wc))
 case first =>
  have H := HC4.out
  clear HC4
  replace H := Option.bind_eq_some_iff.mp H
  obtain ⟨t224, A50, H⟩ := H
  replace H : (if t224 = true then ((utf_Valid.f k a0).bind fun t225 => (count_From.j0 k a0 a1 a2 (!t225))) else (count_From.j0 k a0 a1 a2 true)) = some (r1, r2) := H
  have A5 := Aside0.mk A50
  clear A50
  by_cases c6 : t224 = true
  ·subst c6
   have H1 : ((utf_Valid.f k a0).bind fun t225 => (count_From.j0 k a0 a1 a2 (!t225))) = some (r1, r2) := by rw [if_pos rfl] at H; exact H
   clear H
   have H := H1
   clear H1
   replace H := Option.bind_eq_some_iff.mp H
   obtain ⟨t225, A70, H⟩ := H
   replace H : (count_From.j0 k a0 a1 a2 (!t225)) = some (r1, r2) := H
   have A7 := Aside0.mk A70
   clear A70
   have H' := Aside0.mk H
   clear H
   go_wp2_with (first | ((with_reducible refine gate_callee (f := 48) rfl ?_); refine goesL_ (some 12) rfl rfl Try.func48 (by kernel_rfl) rfl #[.int .i64 a1] rfl (by (try simp only [List.map_toArray, List.map_cons, List.map_nil]); first | done | rfl | (simp only [List.length_drop, List.length_take]; rfl)) ?_; (with_reducible refine (count_Is.calls a1 true _ A5.out).mono ?_); rintro e w' ⟨rfl, ⟨nd, rfl⟩⟩; refine ⟨_, rfl, ?_⟩) | (go_at_call 24; (with_reducible refine (utf_Valid.calls k a0 t225 _ A7.out).mono ?_); rintro e w8 ⟨rfl, hb⟩; have n0_ := Aside0.mk (below_step (by repeat (first | (with_reducible first | exact HB.out | apply below_alloc | apply pw_below_drewN | apply below_drew1) | exact HB.out)) hb); clear HB; have HB := n0_; clear n0_; (try clear hb); (try clear hb2); (try clear hk); (try clear hi)))
   go_meet
   case rel => exact ⟨_, (!t225), (by first | rfl | (simp; done) | (simp [*]; done)), H', ⟨by first | omega | exact Nat.le_refl _⟩, ⟨by repeat (first | (with_reducible first | exact HB.out | apply below_alloc | apply pw_below_drewN | apply below_drew1) | exact HB.out)⟩⟩
  ·replace c6 := Bool.eq_false_iff.mpr c6
   subst c6
   have H1 : (count_From.j0 k a0 a1 a2 true) = some (r1, r2) := by rw [if_neg (show ¬ (false = true) by decide)] at H; exact H
   clear H
   have H := H1
   clear H1
   have H' := Aside0.mk H
   clear H
   go_wp2_with (first | ((with_reducible refine gate_callee (f := 48) rfl ?_); refine goesL_ (some 12) rfl rfl Try.func48 (by kernel_rfl) rfl #[.int .i64 a1] rfl (by (try simp only [List.map_toArray, List.map_cons, List.map_nil]); first | done | rfl | (simp only [List.length_drop, List.length_take]; rfl)) ?_; (with_reducible refine (count_Is.calls a1 false _ A5.out).mono ?_); rintro e w' ⟨rfl, ⟨nd, rfl⟩⟩; refine ⟨_, rfl, ?_⟩))
   go_meet
   case rel => exact ⟨_, (true), (by first | rfl | (simp; done) | (simp [*]; done)), H', ⟨by first | omega | exact Nat.le_refl _⟩, ⟨by repeat (first | (with_reducible first | exact HB.out | apply below_alloc | apply pw_below_drewN | apply below_drew1) | exact HB.out)⟩⟩
 case rest =>
  clear HC4
  try clear p2
  try clear c3
  try clear c4
  try clear c6
  obtain ⟨kq, x10_3, rfl, HA, HJ3, HB⟩ := hcut
  cases kq with
  | zero => exact absurd HA.out (by simp [count_From.j0])
  | succ kj3 =>
   have H := HA.out
   clear HA
   simp only [count_From.j0] at H
   by_cases c9 : x10_3 = true
   ·subst c9
    have H1 : (some (0, 12)) = some (r1, r2) := by rw [if_pos rfl] at H; exact H
    clear H
    have H := H1
    clear H1
    simp only [Option.some.injEq, Prod.mk.injEq] at H
    obtain ⟨rfl, rfl⟩ := H
    go_wp2
    go_ret2
    exact ⟨by first | rfl | (simp [errW_none, errW_some] <;> rfl) | (simp [*, errW_none, errW_some] <;> rfl), by repeat (first | (with_reducible first | exact HB.out | apply below_alloc | apply pw_below_drewN | apply below_drew1) | exact HB.out)⟩
   ·replace c9 := Bool.eq_false_iff.mpr c9
    subst c9
    have H1 : (if a2 < 0 then (count_From.j1 kj3 a0 a1 a2 true) else (count_From.j1 kj3 a0 a1 a2 (decide (a2 > (a0.size : Int))))) = some (r1, r2) := by rw [if_neg (show ¬ (false = true) by decide)] at H; exact H
    clear H
    have H := H1
    clear H1
    have HC10 := Aside0.mk H
    clear H
    go_upto_region 3 with (fail)
    go_cut [19] (fun v19 wc => ∃ (kq : Nat) (x19_9 : Bool), v19 = .bool x19_9 ∧ Aside0 (count_From.j1 kq a0 a1 a2 x19_9 = some (r1, r2)) ∧ Aside0 (kq ≤ kj3) ∧ Aside0 (Below w.heap.size w wc))
    case first =>
     have H := HC10.out
     clear HC10
     by_cases c11 : a2 < 0
     ·rw [if_pos c11] at H
      have c11b0 : decide (a2 < 0) = true := decide_eq_true c11
      clear c11
      (first | rw [c11b0] | (simp only [i64_w, i32_w]; rw [c11b0]) | skip)
      have H' := Aside0.mk H
      clear H
      go_wp2
      go_meet
      case rel => exact ⟨_, (true), (by first | rfl | (simp; done) | (simp [*]; done)), H', ⟨by have := HJ3.out; first | omega | exact Nat.le_refl _⟩, ⟨by repeat (first | (with_reducible first | exact HB.out | apply below_alloc | apply pw_below_drewN | apply below_drew1) | exact HB.out)⟩⟩
     ·rw [if_neg c11] at H
      have c11b0 : decide (a2 < 0) = false := decide_eq_false c11
      clear c11
      (first | rw [c11b0] | (simp only [i64_w, i32_w]; rw [c11b0]) | skip)
      have H' := Aside0.mk H
      clear H
      go_wp2
      go_meet
      case rel => exact ⟨_, (decide (a2 > (a0.size : Int))), (by first | rfl | (simp; done) | (simp [*]; done)), H', ⟨by have := HJ3.out; first | omega | exact Nat.le_refl _⟩, ⟨by repeat (first | (with_reducible first | exact HB.out | apply below_alloc | apply pw_below_drewN | apply below_drew1) | exact HB.out)⟩⟩
    case rest =>
     clear HC10
     try clear c1
     try clear p2
     try clear c3
     try clear c4
     try clear c6
     try clear c9
     try clear c11
     try clear c11b0
     try clear p2
     obtain ⟨kq, x19_9, rfl, HA, HJ9, HB⟩ := hcut
     cases kq with
     | zero => exact absurd HA.out (by simp [count_From.j1])
     | succ kj9 =>
      have H := HA.out
      clear HA
      simp only [count_From.j1] at H
      by_cases c12 : x19_9 = true
      ·subst c12
       have H1 : (some (0, 10)) = some (r1, r2) := by rw [if_pos rfl] at H; exact H
       clear H
       have H := H1
       clear H1
       simp only [Option.some.injEq, Prod.mk.injEq] at H
       obtain ⟨rfl, rfl⟩ := H
       go_wp2
       go_ret2
       exact ⟨by first | rfl | (simp [errW_none, errW_some] <;> rfl) | (simp [*, errW_none, errW_some] <;> rfl), by repeat (first | (with_reducible first | exact HB.out | apply below_alloc | apply pw_below_drewN | apply below_drew1) | exact HB.out)⟩
      ·replace c12 := Bool.eq_false_iff.mpr c12
       subst c12
       have H1 : ((utf_IsEdge.f kj9 a0 a2).bind fun t226 => (if t226 = true then (if 0 ≤ a2 then (if a2 ≤ (a0.size : Int) then ((count_Of.f (a0.extract 0 (a2 : Int).toNat)).bind fun bt227 => ((count_Of.f a0).bind fun bt232 => (if (bt227.1 == bt232.1 && (bt227.2.1 == bt232.2.1 && (bt227.2.2.1 == bt232.2.2.1 && (bt227.2.2.2 == bt232.2.2.2)))) = true then ((count_Get.f bt232.1 bt232.2.1 bt232.2.2.1 bt232.2.2.2 a1).bind fun t237 => (some (t237, 0))) else ((count_Get.f bt227.1 bt227.2.1 bt227.2.2.1 bt227.2.2.2 a1).bind fun t238 => (some (t238, 0)))))) else (none)) else (none)) else (some (0, 11)))) = some (r1, r2) := by rw [if_neg (show ¬ (false = true) by decide)] at H; exact H
       clear H
       have H := H1
       clear H1
       replace H := Option.bind_eq_some_iff.mp H
       obtain ⟨t226, A130, H⟩ := H
       replace H : (if t226 = true then (if 0 ≤ a2 then (if a2 ≤ (a0.size : Int) then ((count_Of.f (a0.extract 0 (a2 : Int).toNat)).bind fun bt227 => ((count_Of.f a0).bind fun bt232 => (if (bt227.1 == bt232.1 && (bt227.2.1 == bt232.2.1 && (bt227.2.2.1 == bt232.2.2.1 && (bt227.2.2.2 == bt232.2.2.2)))) = true then ((count_Get.f bt232.1 bt232.2.1 bt232.2.2.1 bt232.2.2.2 a1).bind fun t237 => (some (t237, 0))) else ((count_Get.f bt227.1 bt227.2.1 bt227.2.2.1 bt227.2.2.2 a1).bind fun t238 => (some (t238, 0)))))) else (none)) else (none)) else (some (0, 11))) = some (r1, r2) := H
       have A13 := Aside0.mk A130
       clear A130
       by_cases c14 : t226 = true
       ·subst c14
        have H1 : (if 0 ≤ a2 then (if a2 ≤ (a0.size : Int) then ((count_Of.f (a0.extract 0 (a2 : Int).toNat)).bind fun bt227 => ((count_Of.f a0).bind fun bt232 => (if (bt227.1 == bt232.1 && (bt227.2.1 == bt232.2.1 && (bt227.2.2.1 == bt232.2.2.1 && (bt227.2.2.2 == bt232.2.2.2)))) = true then ((count_Get.f bt232.1 bt232.2.1 bt232.2.2.1 bt232.2.2.2 a1).bind fun t237 => (some (t237, 0))) else ((count_Get.f bt227.1 bt227.2.1 bt227.2.2.1 bt227.2.2.2 a1).bind fun t238 => (some (t238, 0)))))) else (none)) else (none)) = some (r1, r2) := by rw [if_pos rfl] at H; exact H
        clear H
        have H := H1
        clear H1
        by_cases c15 : 0 ≤ a2
        ·rw [if_pos c15] at H
         have c15b0 := eq_true c15
         have c15b1 : decide (0 ≤ a2) = true := decide_eq_true c15
         clear c15
         by_cases c16 : a2 ≤ (a0.size : Int)
         ·rw [if_pos c16] at H
          have c16b0 := eq_true c16
          have c16b1 : decide (a2 ≤ (a0.size : Int)) = true := decide_eq_true c16
          clear c16
          replace H := Option.bind_eq_some_iff.mp H
          obtain ⟨⟨t227, t228, t229, t230⟩, A170, H⟩ := H
          replace H : ((count_Of.f a0).bind fun bt232 => (if (t227 == bt232.1 && (t228 == bt232.2.1 && (t229 == bt232.2.2.1 && (t230 == bt232.2.2.2)))) = true then ((count_Get.f bt232.1 bt232.2.1 bt232.2.2.1 bt232.2.2.2 a1).bind fun t237 => (some (t237, 0))) else ((count_Get.f t227 t228 t229 t230 a1).bind fun t238 => (some (t238, 0))))) = some (r1, r2) := H
          have A17 := Aside0.mk A170
          clear A170
          replace H := Option.bind_eq_some_iff.mp H
          obtain ⟨⟨t232, t233, t234, t235⟩, A180, H⟩ := H
          replace H : (if (t227 == t232 && (t228 == t233 && (t229 == t234 && (t230 == t235)))) = true then ((count_Get.f t232 t233 t234 t235 a1).bind fun t237 => (some (t237, 0))) else ((count_Get.f t227 t228 t229 t230 a1).bind fun t238 => (some (t238, 0)))) = some (r1, r2) := H
          have A18 := Aside0.mk A180
          clear A180
          by_cases c19 : (t227 == t232 && (t228 == t233 && (t229 == t234 && (t230 == t235)))) = true
          ·rw [if_pos c19] at H
           have c19b0 : (t227 == t232 && (t228 == t233 && (t229 == t234 && (t230 == t235)))) = true := c19
           (try (have c19b1 : decide (t227 = t232 && (t228 == t233 && (t229 == t234 && (t230 == t235)))) = true := by simpa using c19))
           (try (have c19b2 : (t227 == t232 && (t228 == t233 && (t229 == t234 && (t230 == t235)))) = true := by simpa using c19))
           clear c19
           replace H := Option.bind_eq_some_iff.mp H
           obtain ⟨t237, A200, H⟩ := H
           replace H : (some (t237, 0)) = some (r1, r2) := H
           have A20 := Aside0.mk A200
           clear A200
           simp only [Option.some.injEq, Prod.mk.injEq] at H
           obtain ⟨rfl, rfl⟩ := H
           go_wp2_with (first | ((with_reducible refine gate_callee (f := 28) rfl ?_); refine goesL_ (some 31) rfl rfl Try.func28 (by kernel_rfl) rfl #[.string a0, .int .i64 a2] rfl (by (try simp only [List.map_toArray, List.map_cons, List.map_nil]); first | done | rfl | (simp only [List.length_drop, List.length_take]; rfl)) ?_; (with_reducible refine (utf_IsEdge.calls kj9 a0 a2 true _ A13.out).mono ?_); rintro e w21 ⟨rfl, hb⟩; refine ⟨_, rfl, ?_⟩; have n0_ := Aside0.mk (below_step (by repeat (first | (with_reducible first | exact HB.out | apply below_alloc | apply pw_below_drewN | apply below_drew1) | exact HB.out)) hb); clear HB; have HB := n0_; clear n0_; (try clear hb); (try clear hb2); (try clear hk); (try clear hi)) | ((with_reducible refine gate_callee (f := 38) rfl ?_); refine goesL_ (some 36) rfl rfl Try.func38 (by kernel_rfl) rfl #[.string (a0.extract 0 (a2 : Int).toNat)] rfl (by (try simp only [List.map_toArray, List.map_cons, List.map_nil]); first | done | rfl | (simp only [List.length_drop, List.length_take]; rfl)) ?_; (with_reducible refine (count_Of.calls (a0.extract 0 (a2 : Int).toNat) t227 t228 t229 t230 _ A17.out).mono ?_); rintro e w22 ⟨rfl, hb⟩; refine ⟨_, rfl, ?_⟩; have n0_ := Aside0.mk (below_step (by repeat (first | (with_reducible first | exact HB.out | apply below_alloc | apply pw_below_drewN | apply below_drew1) | exact HB.out)) hb); clear HB; have HB := n0_; clear n0_; (try clear hb); (try clear hb2); (try clear hk); (try clear hi)) | ((with_reducible refine gate_dst (N := 8) rfl ?_); (try (refine gate_guard (by rfl) ?_; dsimp only)); refine box_event ?hg (N := 8) ?hd (cs := #[.int .i64 0, .int .i64 0, .int .i64 0, .int .i64 0]) (t := 44) ?hr ?_; (case hd => rfl); (case hg => rfl); (case hr => first | (go_simp; done) | (go_simp; rfl)); intro gb231 hg w23 hbox hb; have n0_ := Aside0.mk (below_step (by repeat (first | (with_reducible first | exact HB.out | apply below_alloc | apply pw_below_drewN | apply below_drew1) | exact HB.out)) hb); have n1_ := Aside0.mk (hbox); have n2_ := Aside0.mk ((by rw [hg]; exact (below_size (by repeat (first | (with_reducible first | exact HB.out | apply below_alloc | apply pw_below_drewN | apply below_drew1) | exact HB.out))) : w.heap.size ≤ gb231)); have n3_ := Aside0.mk ((by rw [hg]; exact (below_size (by repeat (first | (with_reducible first | exact HB.out | apply below_alloc | apply pw_below_drewN | apply below_drew1) | exact HB.out))) : w.heap.size ≤ gb231)); clear HB; have HB := n0_; have BK231 := n1_; have GW231 := n2_; have GE231 := n3_; clear n0_ n1_ n2_ n3_; clear hb hbox hg; have hcz24_0 : w23.cell? ⟨gb231, 0, none⟩ = some (.int .i64 0) := (blk_cell BK231.out 0).trans rfl; have hcz24_1 : w23.cell? ⟨gb231, 1, none⟩ = some (.int .i64 0) := (blk_cell BK231.out 1).trans rfl; have hcz24_2 : w23.cell? ⟨gb231, 2, none⟩ = some (.int .i64 0) := (blk_cell BK231.out 2).trans rfl; have hcz24_3 : w23.cell? ⟨gb231, 3, none⟩ = some (.int .i64 0) := (blk_cell BK231.out 3).trans rfl; have hfz24_0 := blk_frozen BK231.out 0; have hfz24_1 := blk_frozen BK231.out 1; have hfz24_2 := blk_frozen BK231.out 2; have hfz24_3 := blk_frozen BK231.out 3) | ((with_reducible refine gate_callee (f := 38) rfl ?_); refine goesL_ (some 38) rfl rfl Try.func38 (by kernel_rfl) rfl #[.string a0] rfl (by (try simp only [List.map_toArray, List.map_cons, List.map_nil]); first | done | rfl | (simp only [List.length_drop, List.length_take]; rfl)) ?_; (with_reducible refine (count_Of.calls a0 t232 t233 t234 t235 _ A18.out).mono ?_); rintro e w25 ⟨rfl, hb⟩; refine ⟨_, rfl, ?_⟩; have n0_ := Aside0.mk (blk_below (g := gb231) (o := .cells #[.int .i64 t227, .int .i64 t228, .int .i64 t229, .int .i64 t230] 44 (0, 0)) (by (with_reducible repeat (first | refine blk_drewN ?_ _ | refine blk_drew ?_ | refine blk_alloc ?_ _)); refine blk_put (cs := #[.int .i64 t227, .int .i64 t228, .int .i64 t229, .int .i64 0]) ?_ 3 _ rfl; (with_reducible repeat (first | refine blk_drewN ?_ _ | refine blk_drew ?_ | refine blk_alloc ?_ _)); refine blk_put (cs := #[.int .i64 t227, .int .i64 t228, .int .i64 0, .int .i64 0]) ?_ 2 _ rfl; (with_reducible repeat (first | refine blk_drewN ?_ _ | refine blk_drew ?_ | refine blk_alloc ?_ _)); refine blk_put (cs := #[.int .i64 t227, .int .i64 0, .int .i64 0, .int .i64 0]) ?_ 1 _ rfl; (with_reducible repeat (first | refine blk_drewN ?_ _ | refine blk_drew ?_ | refine blk_alloc ?_ _)); refine blk_put (cs := #[.int .i64 0, .int .i64 0, .int .i64 0, .int .i64 0]) ?_ 0 _ rfl; (with_reducible repeat (first | refine blk_drewN ?_ _ | refine blk_drew ?_ | refine blk_alloc ?_ _)); exact BK231.out) hb); have n1_ := Aside0.mk (below_step (by repeat (first | (with_reducible first | exact HB.out | apply below_alloc | apply pw_below_drewN | apply below_drew1 | refine below_set ?_ GE231.out) | exact HB.out)) hb); clear BK231; clear HB; have BK231 := n0_; have HB := n1_; clear n0_ n1_; (try clear hb); (try clear hb2); (try clear hk); (try clear hi)) | ((with_reducible refine gate_dst (N := 9) rfl ?_); (try (refine gate_guard (by rfl) ?_; dsimp only)); refine box_event ?hg (N := 9) ?hd (cs := #[.int .i64 0, .int .i64 0, .int .i64 0, .int .i64 0]) (t := 44) ?hr ?_; (case hd => rfl); (case hg => rfl); (case hr => first | (go_simp; done) | (go_simp; rfl)); intro gb236 hg w26 hbox hb; have n0_ := Aside0.mk (blk_below (g := gb231) (o := .cells #[.int .i64 t227, .int .i64 t228, .int .i64 t229, .int .i64 t230] 44 (0, 0)) (by (with_reducible repeat (first | refine blk_drewN ?_ _ | refine blk_drew ?_ | refine blk_alloc ?_ _)); exact BK231.out) hb); have n1_ := Aside0.mk (below_step (by repeat (first | (with_reducible first | exact HB.out | apply below_alloc | apply pw_below_drewN | apply below_drew1 | refine below_set ?_ GE231.out) | exact HB.out)) hb); have n2_ := Aside0.mk (hbox); have n3_ := Aside0.mk ((by rw [hg]; exact (below_size (by repeat (first | (with_reducible first | exact HB.out | apply below_alloc | apply pw_below_drewN | apply below_drew1 | refine below_set ?_ GE231.out) | exact HB.out))) : w.heap.size ≤ gb236)); have n4_ := Aside0.mk ((by rw [hg]; exact (below_size (by repeat (first | (with_reducible first | exact HB.out | apply below_alloc | apply pw_below_drewN | apply below_drew1 | refine below_set ?_ GE231.out) | exact HB.out))) : w.heap.size ≤ gb236)); have n5_ := Aside0.mk ((by rw [hg]; exact Nat.ne_of_lt (blk_lt (g := gb231) (o := .cells #[.int .i64 t227, .int .i64 t228, .int .i64 t229, .int .i64 t230] 44 (0, 0)) (by (with_reducible repeat (first | refine blk_drewN ?_ _ | refine blk_drew ?_ | refine blk_alloc ?_ _)); exact BK231.out)) : gb231 ≠ gb236)); have n6_ := Aside0.mk ((by rw [hg]; exact Nat.ne_of_gt (blk_lt (g := gb231) (o := .cells #[.int .i64 t227, .int .i64 t228, .int .i64 t229, .int .i64 t230] 44 (0, 0)) (by (with_reducible repeat (first | refine blk_drewN ?_ _ | refine blk_drew ?_ | refine blk_alloc ?_ _)); exact BK231.out)) : gb236 ≠ gb231)); clear BK231; clear HB; have BK231 := n0_; have HB := n1_; have BK236 := n2_; have GW236 := n3_; have GE236 := n4_; have NB231_236 := n5_; have NB236_231 := n6_; clear n0_ n1_ n2_ n3_ n4_ n5_ n6_; clear hb hbox hg; have hnb27 := NB236_231.out; have hnc27 := NB231_236.out; have hcz28_0 : w26.cell? ⟨gb236, 0, none⟩ = some (.int .i64 0) := (blk_cell BK236.out 0).trans rfl; have hcz28_1 : w26.cell? ⟨gb236, 1, none⟩ = some (.int .i64 0) := (blk_cell BK236.out 1).trans rfl; have hcz28_2 : w26.cell? ⟨gb236, 2, none⟩ = some (.int .i64 0) := (blk_cell BK236.out 2).trans rfl; have hcz28_3 : w26.cell? ⟨gb236, 3, none⟩ = some (.int .i64 0) := (blk_cell BK236.out 3).trans rfl; have hfz28_0 := blk_frozen BK236.out 0; have hfz28_1 := blk_frozen BK236.out 1; have hfz28_2 := blk_frozen BK236.out 2; have hfz28_3 := blk_frozen BK236.out 3; have hcz29_0 : w26.cell? ⟨gb231, 0, none⟩ = some (.int .i64 t227) := (blk_cell BK231.out 0).trans rfl; have hcz29_1 : w26.cell? ⟨gb231, 1, none⟩ = some (.int .i64 t228) := (blk_cell BK231.out 1).trans rfl; have hcz29_2 : w26.cell? ⟨gb231, 2, none⟩ = some (.int .i64 t229) := (blk_cell BK231.out 2).trans rfl; have hcz29_3 : w26.cell? ⟨gb231, 3, none⟩ = some (.int .i64 t230) := (blk_cell BK231.out 3).trans rfl; have hfz29_0 := blk_frozen BK231.out 0; have hfz29_1 := blk_frozen BK231.out 1; have hfz29_2 := blk_frozen BK231.out 2; have hfz29_3 := blk_frozen BK231.out 3) | ((with_reducible refine gate_callee (f := 42) rfl ?_); refine goesL_ (some 44) rfl rfl Try.func42 (by kernel_rfl) rfl #[.agg #[.int .i64 t232, .int .i64 t233, .int .i64 t234, .int .i64 t235], .int .i64 a1] rfl (by (try simp only [List.map_toArray, List.map_cons, List.map_nil]); first | done | rfl | (simp only [List.length_drop, List.length_take]; rfl)) ?_; (with_reducible refine (count_Get.calls t232 t233 t234 t235 a1 t237 _ A20.out).mono ?_); rintro e w30 ⟨rfl, hb⟩; refine ⟨_, rfl, ?_⟩; have n0_ := Aside0.mk (blk_below (g := gb231) (o := .cells #[.int .i64 t227, .int .i64 t228, .int .i64 t229, .int .i64 t230] 44 (0, 0)) (by (with_reducible repeat (first | refine blk_drewN ?_ _ | refine blk_drew ?_ | refine blk_alloc ?_ _)); refine blk_far ?_ NB231_236.out _; (with_reducible repeat (first | refine blk_drewN ?_ _ | refine blk_drew ?_ | refine blk_alloc ?_ _)); refine blk_far ?_ NB231_236.out _; (with_reducible repeat (first | refine blk_drewN ?_ _ | refine blk_drew ?_ | refine blk_alloc ?_ _)); refine blk_far ?_ NB231_236.out _; (with_reducible repeat (first | refine blk_drewN ?_ _ | refine blk_drew ?_ | refine blk_alloc ?_ _)); refine blk_far ?_ NB231_236.out _; (with_reducible repeat (first | refine blk_drewN ?_ _ | refine blk_drew ?_ | refine blk_alloc ?_ _)); exact BK231.out) hb); have n1_ := Aside0.mk (blk_below (g := gb236) (o := .cells #[.int .i64 t232, .int .i64 t233, .int .i64 t234, .int .i64 t235] 44 (0, 0)) (by (with_reducible repeat (first | refine blk_drewN ?_ _ | refine blk_drew ?_ | refine blk_alloc ?_ _)); refine blk_put (cs := #[.int .i64 t232, .int .i64 t233, .int .i64 t234, .int .i64 0]) ?_ 3 _ rfl; (with_reducible repeat (first | refine blk_drewN ?_ _ | refine blk_drew ?_ | refine blk_alloc ?_ _)); refine blk_put (cs := #[.int .i64 t232, .int .i64 t233, .int .i64 0, .int .i64 0]) ?_ 2 _ rfl; (with_reducible repeat (first | refine blk_drewN ?_ _ | refine blk_drew ?_ | refine blk_alloc ?_ _)); refine blk_put (cs := #[.int .i64 t232, .int .i64 0, .int .i64 0, .int .i64 0]) ?_ 1 _ rfl; (with_reducible repeat (first | refine blk_drewN ?_ _ | refine blk_drew ?_ | refine blk_alloc ?_ _)); refine blk_put (cs := #[.int .i64 0, .int .i64 0, .int .i64 0, .int .i64 0]) ?_ 0 _ rfl; (with_reducible repeat (first | refine blk_drewN ?_ _ | refine blk_drew ?_ | refine blk_alloc ?_ _)); exact BK236.out) hb); have n2_ := Aside0.mk (below_step (by repeat (first | (with_reducible first | exact HB.out | apply below_alloc | apply pw_below_drewN | apply below_drew1 | refine below_set ?_ GE231.out | refine below_set ?_ GE236.out) | exact HB.out)) hb); clear BK231; clear BK236; clear HB; have BK231 := n0_; have BK236 := n1_; have HB := n2_; clear n0_ n1_ n2_; (try clear hb); (try clear hb2); (try clear hk); (try clear hi)))
           go_ret2
           exact ⟨by first | rfl | (simp [errW_none, errW_some] <;> rfl) | (simp [*, errW_none, errW_some] <;> rfl), by repeat (first | (with_reducible first | exact HB.out | apply below_alloc | apply pw_below_drewN | apply below_drew1 | refine below_set ?_ GE231.out | refine below_set ?_ GE236.out) | exact HB.out)⟩
          ·rw [if_neg c19] at H
           have c19b0 : (t227 == t232 && (t228 == t233 && (t229 == t234 && (t230 == t235)))) = false := by simpa using c19
           (try (have c19b1 : decide (t227 = t232 && (t228 == t233 && (t229 == t234 && (t230 == t235)))) = false := by simpa using c19))
           (try (have c19b2 : (t227 == t232 && (t228 == t233 && (t229 == t234 && (t230 == t235)))) = false := by simpa using c19))
           (try (have c19b3 : ¬ (t227 = t232 && (t228 == t233 && (t229 == t234 && (t230 == t235)))) := by simpa using c19))
           clear c19
           replace H := Option.bind_eq_some_iff.mp H
           obtain ⟨t238, A310, H⟩ := H
           replace H : (some (t238, 0)) = some (r1, r2) := H
           have A31 := Aside0.mk A310
           clear A310
           simp only [Option.some.injEq, Prod.mk.injEq] at H
           obtain ⟨rfl, rfl⟩ := H
           go_wp2_with (first | ((with_reducible refine gate_callee (f := 28) rfl ?_); refine goesL_ (some 31) rfl rfl Try.func28 (by kernel_rfl) rfl #[.string a0, .int .i64 a2] rfl (by (try simp only [List.map_toArray, List.map_cons, List.map_nil]); first | done | rfl | (simp only [List.length_drop, List.length_take]; rfl)) ?_; (with_reducible refine (utf_IsEdge.calls kj9 a0 a2 true _ A13.out).mono ?_); rintro e w32 ⟨rfl, hb⟩; refine ⟨_, rfl, ?_⟩; have n0_ := Aside0.mk (below_step (by repeat (first | (with_reducible first | exact HB.out | apply below_alloc | apply pw_below_drewN | apply below_drew1) | exact HB.out)) hb); clear HB; have HB := n0_; clear n0_; (try clear hb); (try clear hb2); (try clear hk); (try clear hi)) | ((with_reducible refine gate_callee (f := 38) rfl ?_); refine goesL_ (some 36) rfl rfl Try.func38 (by kernel_rfl) rfl #[.string (a0.extract 0 (a2 : Int).toNat)] rfl (by (try simp only [List.map_toArray, List.map_cons, List.map_nil]); first | done | rfl | (simp only [List.length_drop, List.length_take]; rfl)) ?_; (with_reducible refine (count_Of.calls (a0.extract 0 (a2 : Int).toNat) t227 t228 t229 t230 _ A17.out).mono ?_); rintro e w33 ⟨rfl, hb⟩; refine ⟨_, rfl, ?_⟩; have n0_ := Aside0.mk (below_step (by repeat (first | (with_reducible first | exact HB.out | apply below_alloc | apply pw_below_drewN | apply below_drew1) | exact HB.out)) hb); clear HB; have HB := n0_; clear n0_; (try clear hb); (try clear hb2); (try clear hk); (try clear hi)) | ((with_reducible refine gate_dst (N := 8) rfl ?_); (try (refine gate_guard (by rfl) ?_; dsimp only)); refine box_event ?hg (N := 8) ?hd (cs := #[.int .i64 0, .int .i64 0, .int .i64 0, .int .i64 0]) (t := 44) ?hr ?_; (case hd => rfl); (case hg => rfl); (case hr => first | (go_simp; done) | (go_simp; rfl)); intro gb231 hg w34 hbox hb; have n0_ := Aside0.mk (below_step (by repeat (first | (with_reducible first | exact HB.out | apply below_alloc | apply pw_below_drewN | apply below_drew1) | exact HB.out)) hb); have n1_ := Aside0.mk (hbox); have n2_ := Aside0.mk ((by rw [hg]; exact (below_size (by repeat (first | (with_reducible first | exact HB.out | apply below_alloc | apply pw_below_drewN | apply below_drew1) | exact HB.out))) : w.heap.size ≤ gb231)); have n3_ := Aside0.mk ((by rw [hg]; exact (below_size (by repeat (first | (with_reducible first | exact HB.out | apply below_alloc | apply pw_below_drewN | apply below_drew1) | exact HB.out))) : w.heap.size ≤ gb231)); clear HB; have HB := n0_; have BK231 := n1_; have GW231 := n2_; have GE231 := n3_; clear n0_ n1_ n2_ n3_; clear hb hbox hg; have hcz35_0 : w34.cell? ⟨gb231, 0, none⟩ = some (.int .i64 0) := (blk_cell BK231.out 0).trans rfl; have hcz35_1 : w34.cell? ⟨gb231, 1, none⟩ = some (.int .i64 0) := (blk_cell BK231.out 1).trans rfl; have hcz35_2 : w34.cell? ⟨gb231, 2, none⟩ = some (.int .i64 0) := (blk_cell BK231.out 2).trans rfl; have hcz35_3 : w34.cell? ⟨gb231, 3, none⟩ = some (.int .i64 0) := (blk_cell BK231.out 3).trans rfl; have hfz35_0 := blk_frozen BK231.out 0; have hfz35_1 := blk_frozen BK231.out 1; have hfz35_2 := blk_frozen BK231.out 2; have hfz35_3 := blk_frozen BK231.out 3) | ((with_reducible refine gate_callee (f := 38) rfl ?_); refine goesL_ (some 38) rfl rfl Try.func38 (by kernel_rfl) rfl #[.string a0] rfl (by (try simp only [List.map_toArray, List.map_cons, List.map_nil]); first | done | rfl | (simp only [List.length_drop, List.length_take]; rfl)) ?_; (with_reducible refine (count_Of.calls a0 t232 t233 t234 t235 _ A18.out).mono ?_); rintro e w36 ⟨rfl, hb⟩; refine ⟨_, rfl, ?_⟩; have n0_ := Aside0.mk (blk_below (g := gb231) (o := .cells #[.int .i64 t227, .int .i64 t228, .int .i64 t229, .int .i64 t230] 44 (0, 0)) (by (with_reducible repeat (first | refine blk_drewN ?_ _ | refine blk_drew ?_ | refine blk_alloc ?_ _)); refine blk_put (cs := #[.int .i64 t227, .int .i64 t228, .int .i64 t229, .int .i64 0]) ?_ 3 _ rfl; (with_reducible repeat (first | refine blk_drewN ?_ _ | refine blk_drew ?_ | refine blk_alloc ?_ _)); refine blk_put (cs := #[.int .i64 t227, .int .i64 t228, .int .i64 0, .int .i64 0]) ?_ 2 _ rfl; (with_reducible repeat (first | refine blk_drewN ?_ _ | refine blk_drew ?_ | refine blk_alloc ?_ _)); refine blk_put (cs := #[.int .i64 t227, .int .i64 0, .int .i64 0, .int .i64 0]) ?_ 1 _ rfl; (with_reducible repeat (first | refine blk_drewN ?_ _ | refine blk_drew ?_ | refine blk_alloc ?_ _)); refine blk_put (cs := #[.int .i64 0, .int .i64 0, .int .i64 0, .int .i64 0]) ?_ 0 _ rfl; (with_reducible repeat (first | refine blk_drewN ?_ _ | refine blk_drew ?_ | refine blk_alloc ?_ _)); exact BK231.out) hb); have n1_ := Aside0.mk (below_step (by repeat (first | (with_reducible first | exact HB.out | apply below_alloc | apply pw_below_drewN | apply below_drew1 | refine below_set ?_ GE231.out) | exact HB.out)) hb); clear BK231; clear HB; have BK231 := n0_; have HB := n1_; clear n0_ n1_; (try clear hb); (try clear hb2); (try clear hk); (try clear hi)) | ((with_reducible refine gate_dst (N := 9) rfl ?_); (try (refine gate_guard (by rfl) ?_; dsimp only)); refine box_event ?hg (N := 9) ?hd (cs := #[.int .i64 0, .int .i64 0, .int .i64 0, .int .i64 0]) (t := 44) ?hr ?_; (case hd => rfl); (case hg => rfl); (case hr => first | (go_simp; done) | (go_simp; rfl)); intro gb236 hg w37 hbox hb; have n0_ := Aside0.mk (blk_below (g := gb231) (o := .cells #[.int .i64 t227, .int .i64 t228, .int .i64 t229, .int .i64 t230] 44 (0, 0)) (by (with_reducible repeat (first | refine blk_drewN ?_ _ | refine blk_drew ?_ | refine blk_alloc ?_ _)); exact BK231.out) hb); have n1_ := Aside0.mk (below_step (by repeat (first | (with_reducible first | exact HB.out | apply below_alloc | apply pw_below_drewN | apply below_drew1 | refine below_set ?_ GE231.out) | exact HB.out)) hb); have n2_ := Aside0.mk (hbox); have n3_ := Aside0.mk ((by rw [hg]; exact (below_size (by repeat (first | (with_reducible first | exact HB.out | apply below_alloc | apply pw_below_drewN | apply below_drew1 | refine below_set ?_ GE231.out) | exact HB.out))) : w.heap.size ≤ gb236)); have n4_ := Aside0.mk ((by rw [hg]; exact (below_size (by repeat (first | (with_reducible first | exact HB.out | apply below_alloc | apply pw_below_drewN | apply below_drew1 | refine below_set ?_ GE231.out) | exact HB.out))) : w.heap.size ≤ gb236)); have n5_ := Aside0.mk ((by rw [hg]; exact Nat.ne_of_lt (blk_lt (g := gb231) (o := .cells #[.int .i64 t227, .int .i64 t228, .int .i64 t229, .int .i64 t230] 44 (0, 0)) (by (with_reducible repeat (first | refine blk_drewN ?_ _ | refine blk_drew ?_ | refine blk_alloc ?_ _)); exact BK231.out)) : gb231 ≠ gb236)); have n6_ := Aside0.mk ((by rw [hg]; exact Nat.ne_of_gt (blk_lt (g := gb231) (o := .cells #[.int .i64 t227, .int .i64 t228, .int .i64 t229, .int .i64 t230] 44 (0, 0)) (by (with_reducible repeat (first | refine blk_drewN ?_ _ | refine blk_drew ?_ | refine blk_alloc ?_ _)); exact BK231.out)) : gb236 ≠ gb231)); clear BK231; clear HB; have BK231 := n0_; have HB := n1_; have BK236 := n2_; have GW236 := n3_; have GE236 := n4_; have NB231_236 := n5_; have NB236_231 := n6_; clear n0_ n1_ n2_ n3_ n4_ n5_ n6_; clear hb hbox hg; have hnb38 := NB236_231.out; have hnc38 := NB231_236.out; have hcz39_0 : w37.cell? ⟨gb236, 0, none⟩ = some (.int .i64 0) := (blk_cell BK236.out 0).trans rfl; have hcz39_1 : w37.cell? ⟨gb236, 1, none⟩ = some (.int .i64 0) := (blk_cell BK236.out 1).trans rfl; have hcz39_2 : w37.cell? ⟨gb236, 2, none⟩ = some (.int .i64 0) := (blk_cell BK236.out 2).trans rfl; have hcz39_3 : w37.cell? ⟨gb236, 3, none⟩ = some (.int .i64 0) := (blk_cell BK236.out 3).trans rfl; have hfz39_0 := blk_frozen BK236.out 0; have hfz39_1 := blk_frozen BK236.out 1; have hfz39_2 := blk_frozen BK236.out 2; have hfz39_3 := blk_frozen BK236.out 3; have hcz40_0 : w37.cell? ⟨gb231, 0, none⟩ = some (.int .i64 t227) := (blk_cell BK231.out 0).trans rfl; have hcz40_1 : w37.cell? ⟨gb231, 1, none⟩ = some (.int .i64 t228) := (blk_cell BK231.out 1).trans rfl; have hcz40_2 : w37.cell? ⟨gb231, 2, none⟩ = some (.int .i64 t229) := (blk_cell BK231.out 2).trans rfl; have hcz40_3 : w37.cell? ⟨gb231, 3, none⟩ = some (.int .i64 t230) := (blk_cell BK231.out 3).trans rfl; have hfz40_0 := blk_frozen BK231.out 0; have hfz40_1 := blk_frozen BK231.out 1; have hfz40_2 := blk_frozen BK231.out 2; have hfz40_3 := blk_frozen BK231.out 3) | ((with_reducible refine gate_callee (f := 42) rfl ?_); refine goesL_ (some 47) rfl rfl Try.func42 (by kernel_rfl) rfl #[.agg #[.int .i64 t227, .int .i64 t228, .int .i64 t229, .int .i64 t230], .int .i64 a1] rfl (by (try simp only [List.map_toArray, List.map_cons, List.map_nil]); first | done | rfl | (simp only [List.length_drop, List.length_take]; rfl)) ?_; (with_reducible refine (count_Get.calls t227 t228 t229 t230 a1 t238 _ A31.out).mono ?_); rintro e w41 ⟨rfl, hb⟩; refine ⟨_, rfl, ?_⟩; have n0_ := Aside0.mk (blk_below (g := gb231) (o := .cells #[.int .i64 t227, .int .i64 t228, .int .i64 t229, .int .i64 t230] 44 (0, 0)) (by (with_reducible repeat (first | refine blk_drewN ?_ _ | refine blk_drew ?_ | refine blk_alloc ?_ _)); refine blk_far ?_ NB231_236.out _; (with_reducible repeat (first | refine blk_drewN ?_ _ | refine blk_drew ?_ | refine blk_alloc ?_ _)); refine blk_far ?_ NB231_236.out _; (with_reducible repeat (first | refine blk_drewN ?_ _ | refine blk_drew ?_ | refine blk_alloc ?_ _)); refine blk_far ?_ NB231_236.out _; (with_reducible repeat (first | refine blk_drewN ?_ _ | refine blk_drew ?_ | refine blk_alloc ?_ _)); refine blk_far ?_ NB231_236.out _; (with_reducible repeat (first | refine blk_drewN ?_ _ | refine blk_drew ?_ | refine blk_alloc ?_ _)); exact BK231.out) hb); have n1_ := Aside0.mk (blk_below (g := gb236) (o := .cells #[.int .i64 t232, .int .i64 t233, .int .i64 t234, .int .i64 t235] 44 (0, 0)) (by (with_reducible repeat (first | refine blk_drewN ?_ _ | refine blk_drew ?_ | refine blk_alloc ?_ _)); refine blk_put (cs := #[.int .i64 t232, .int .i64 t233, .int .i64 t234, .int .i64 0]) ?_ 3 _ rfl; (with_reducible repeat (first | refine blk_drewN ?_ _ | refine blk_drew ?_ | refine blk_alloc ?_ _)); refine blk_put (cs := #[.int .i64 t232, .int .i64 t233, .int .i64 0, .int .i64 0]) ?_ 2 _ rfl; (with_reducible repeat (first | refine blk_drewN ?_ _ | refine blk_drew ?_ | refine blk_alloc ?_ _)); refine blk_put (cs := #[.int .i64 t232, .int .i64 0, .int .i64 0, .int .i64 0]) ?_ 1 _ rfl; (with_reducible repeat (first | refine blk_drewN ?_ _ | refine blk_drew ?_ | refine blk_alloc ?_ _)); refine blk_put (cs := #[.int .i64 0, .int .i64 0, .int .i64 0, .int .i64 0]) ?_ 0 _ rfl; (with_reducible repeat (first | refine blk_drewN ?_ _ | refine blk_drew ?_ | refine blk_alloc ?_ _)); exact BK236.out) hb); have n2_ := Aside0.mk (below_step (by repeat (first | (with_reducible first | exact HB.out | apply below_alloc | apply pw_below_drewN | apply below_drew1 | refine below_set ?_ GE231.out | refine below_set ?_ GE236.out) | exact HB.out)) hb); clear BK231; clear BK236; clear HB; have BK231 := n0_; have BK236 := n1_; have HB := n2_; clear n0_ n1_ n2_; (try clear hb); (try clear hb2); (try clear hk); (try clear hi)))
           go_ret2
           exact ⟨by first | rfl | (simp [errW_none, errW_some] <;> rfl) | (simp [*, errW_none, errW_some] <;> rfl), by repeat (first | (with_reducible first | exact HB.out | apply below_alloc | apply pw_below_drewN | apply below_drew1 | refine below_set ?_ GE231.out | refine below_set ?_ GE236.out) | exact HB.out)⟩
         ·rw [if_neg c16] at H
          exact absurd H (by simp)
        ·rw [if_neg c15] at H
         exact absurd H (by simp)
       ·replace c14 := Bool.eq_false_iff.mpr c14
        subst c14
        have H1 : (some (0, 11)) = some (r1, r2) := by rw [if_neg (show ¬ (false = true) by decide)] at H; exact H
        clear H
        have H := H1
        clear H1
        simp only [Option.some.injEq, Prod.mk.injEq] at H
        obtain ⟨rfl, rfl⟩ := H
        go_wp2_with (first | ((with_reducible refine gate_callee (f := 28) rfl ?_); refine goesL_ (some 31) rfl rfl Try.func28 (by kernel_rfl) rfl #[.string a0, .int .i64 a2] rfl (by (try simp only [List.map_toArray, List.map_cons, List.map_nil]); first | done | rfl | (simp only [List.length_drop, List.length_take]; rfl)) ?_; (with_reducible refine (utf_IsEdge.calls kj9 a0 a2 false _ A13.out).mono ?_); rintro e w42 ⟨rfl, hb⟩; refine ⟨_, rfl, ?_⟩; have n0_ := Aside0.mk (below_step (by repeat (first | (with_reducible first | exact HB.out | apply below_alloc | apply pw_below_drewN | apply below_drew1) | exact HB.out)) hb); clear HB; have HB := n0_; clear n0_; (try clear hb); (try clear hb2); (try clear hk); (try clear hi)))
        go_ret2
        exact ⟨by first | rfl | (simp [errW_none, errW_some] <;> rfl) | (simp [*, errW_none, errW_some] <;> rfl), by repeat (first | (with_reducible first | exact HB.out | apply below_alloc | apply pw_below_drewN | apply below_drew1) | exact HB.out)⟩

end Go.Proofs.Ytgepcdpnjinadaa.PX
end

section
-- MACHINE SIDE, written by wip/drive.py (this session's driver over the kit's print) for this claim. Lean checks it.
namespace Go.Proofs.Ytgepcdpnjinadaa.PX
open Go.RowKit Go.Proofs.YtgepcdpnjinadaaW.PrintWords Go.Proofs.YtgepcdpnjinadaaW.PrintLast Go.Proofs.YtgepcdpnjinadaaW.PrintMore
attribute [local go_sem] max2_int min2_int max_two min_two max_three min_three max_four min_four   -- for this text's walks alone
set_option linter.unusedVariables false
set_option linter.unusedSimpArgs false

-- HAND
-- FUNCTION palinode/count.To
-- KINDS (str i64 i64) (i64 i64) norounds making
-- NEEDS Derived.Test.YtgepcdpnjinadaaCN
-- NEEDS Derived.Lib.OthersKept
-- NEEDS Derived.Lib.Builder
def count_To.f (a0 : ByteArray) (a1 a2 : Int) : Option (Int × Int) := if a0.size ≤ 1000000 then some (V.toSpec a0 a1 a2) else none
set_option maxHeartbeats 8000000 in
set_option maxRecDepth 100000 in
theorem count_To.early (a0 : ByteArray) (k n : Int) (w : World) (hVa : ∀ w, Calls Try.prog 24 #[.string a0] w fun e w' => e = .returned (.bool false) ∧ Below w.heap.size w w') (c : (0 ≤ k ∧ k ≤ 3) ∨ ¬ (0 ≤ k ∧ k ≤ 3)) :
    Calls Try.prog 34 #[.string a0, .int .i64 k, .int .i64 n] w fun e w' => e = .returned (.tuple #[.int .i64 0, .int .i64 12]) ∧ Below w.heap.size w w' := by
  have hIs := count_Get.is k
  rcases c with c | c
  · rw [decide_eq_true c] at hIs
    clear c
    go_enter Try.func34, Try.ntmps34
    go_wp2_with (first | (go_at_call 48; (with_reducible refine (hIs _).mono ?_); rintro e w0 ⟨rfl, rfl⟩) | (go_at_call 24; (with_reducible refine (hVa _).mono ?_); rintro e w1 ⟨rfl, b1⟩))
    go_ret2
    exact ⟨rfl, by repeat (first | assumption | exact Below.refl _ _ | refine below_alloc ?_ _ | refine below_step ?_ (by assumption))⟩
  · rw [decide_eq_false c] at hIs
    clear c
    go_enter Try.func34, Try.ntmps34
    go_wp2_with (first | (go_at_call 48; (with_reducible refine (hIs _).mono ?_); rintro e w0 ⟨rfl, rfl⟩) | (go_at_call 24; (with_reducible refine (hVa _).mono ?_); rintro e w1 ⟨rfl, b1⟩))
    go_ret2
    exact ⟨rfl, by repeat (first | assumption | exact Below.refl _ _ | refine below_alloc ?_ _ | refine below_step ?_ (by assumption))⟩
set_option maxHeartbeats 8000000 in
set_option maxRecDepth 100000 in
theorem count_To.form (a0 : ByteArray) (k n : Int) (w : World) (c : ¬ (0 ≤ k ∧ k ≤ 3)) :
    Calls Try.prog 34 #[.string a0, .int .i64 k, .int .i64 n] w fun e w' => e = .returned (.tuple #[.int .i64 0, .int .i64 12]) ∧ Below w.heap.size w w' := by
  have hIs := count_Get.is k
  rw [decide_eq_false c] at hIs
  clear c
  go_enter Try.func34, Try.ntmps34
  go_wp2_with (first | (go_at_call 48; (with_reducible refine (hIs _).mono ?_); rintro e w0 ⟨rfl, rfl⟩))
  go_ret2
  exact ⟨rfl, by repeat (first | assumption | exact Below.refl _ _ | refine below_alloc ?_ _ | refine below_step ?_ (by assumption))⟩
set_option maxHeartbeats 8000000 in
set_option maxRecDepth 100000 in
theorem count_To.range (a0 : ByteArray) (k n : Int) (w : World) (c : 0 ≤ k ∧ k ≤ 3) (hVa : ∀ w, Calls Try.prog 24 #[.string a0] w fun e w' => e = .returned (.bool true) ∧ Below w.heap.size w w') (c0 c1 c2 c3 g : Int) (hg : V.get4 (c0, c1, c2, c3) k = g) (hOf : ∀ w, Calls Try.prog 38 #[.string a0] w fun e w' => e = .returned (.agg #[.int .i64 c0, .int .i64 c1, .int .i64 c2, .int .i64 c3]) ∧ Below w.heap.size w w') (hn : n < 0 ∨ g < n) :
    Calls Try.prog 34 #[.string a0, .int .i64 k, .int .i64 n] w fun e w' => e = .returned (.tuple #[.int .i64 0, .int .i64 10]) ∧ Below w.heap.size w w' := by
  have hIs := count_Get.is k
  rw [decide_eq_true c] at hIs
  clear c
  have hG0 := fun w => count_Get.calls c0 c1 c2 c3 k _ w rfl
  rw [hg] at hG0
  clear hg
  by_cases c1 : n < 0
  · have d1 : decide (n < 0) = true := decide_eq_true c1
    clear c1 hn
    go_enter Try.func34, Try.ntmps34
    go_wp2_with (first | (go_at_call 48; (with_reducible refine (hIs _).mono ?_); rintro e w0 ⟨rfl, rfl⟩) | (go_at_call 24; (with_reducible refine (hVa _).mono ?_); rintro e w1 ⟨rfl, b1⟩))
    go_ret2
    exact ⟨rfl, by repeat (first | assumption | exact Below.refl _ _ | refine below_alloc ?_ _ | refine below_step ?_ (by assumption))⟩
  · have d1 : decide (n < 0) = false := decide_eq_false c1
    have d2 : decide (g < n) = true := decide_eq_true (by omega)
    clear c1 hn
    go_enter Try.func34, Try.ntmps34
    go_wp2_with (first | (go_at_call 48; (with_reducible refine (hIs _).mono ?_); rintro e w0 ⟨rfl, rfl⟩) | (go_at_call 24; (with_reducible refine (hVa _).mono ?_); rintro e w1 ⟨rfl, b1⟩) | (go_at_call 38; (with_reducible refine (hOf _).mono ?_); rintro e w2 ⟨rfl, b2⟩) | (go_at_call 42; (with_reducible refine (hG0 _).mono ?_); rintro e w3 ⟨rfl, b3⟩))
    go_ret2
    exact ⟨rfl, by repeat (first | assumption | exact Below.refl _ _ | refine below_alloc ?_ _ | refine below_step ?_ (by assumption))⟩
theorem count_To.far {w : World} {g : Nat} {o : Obj} (h : w.heap[g]? = some o) {p : Addr} (hp : g ≠ p.block) (u : Value) : (w.setCell p u).heap[g]? = some o := (Below.heap_setCell w p u g hp).trans h
theorem count_To.pos {w : World} {k : Nat} {s : ByteArray} {pos : Nat} (h : w.heap[k]? = some (.stringIter s pos)) : w.iterPos k = pos := by simp [World.iterPos, h]
set_option maxHeartbeats 8000000 in
set_option maxRecDepth 100000 in
theorem count_To.loop (a0 : ByteArray) (k n : Int) (w : World) (c : 0 ≤ k ∧ k ≤ 3) (hVa : ∀ w, Calls Try.prog 24 #[.string a0] w fun e w' => e = .returned (.bool true) ∧ Below w.heap.size w w') (c0 c1 c2 c3 g : Int) (hg : V.get4 (c0, c1, c2, c3) k = g) (hOf : ∀ w, Calls Try.prog 38 #[.string a0] w fun e w' => e = .returned (.agg #[.int .i64 c0, .int .i64 c1, .int .i64 c2, .int .i64 c3]) ∧ Below w.heap.size w w') (hn : ¬ (n < 0 ∨ g < n)) (p : List Int) (hp : ∀ v ∈ p, U.sc v) (hL : V.L a0 = U.encs p) (hlen : p.length ≤ 1000000) (r1 r2 : Int) (hr : V.toEnd (V.stopAt k n p (0, 0, 0, 0)) k n = (r1, r2)) :
    Calls Try.prog 34 #[.string a0, .int .i64 k, .int .i64 n] w fun e w' => e = .returned (.tuple #[.int .i64 r1, .int .i64 r2]) ∧ Below w.heap.size w w' := by
  have hIs := count_Get.is k
  rw [decide_eq_true c] at hIs
  clear c
  have hG0 := fun w => count_Get.calls c0 c1 c2 c3 k _ w rfl
  rw [hg] at hG0
  clear hg
  have d1 : decide (n < 0) = false := decide_eq_false (by omega)
  have d2 : decide (g < n) = false := decide_eq_false (by omega)
  clear hn
  replace hL := Aside0.mk hL
  replace hp := Aside0.mk hp
  replace hlen := Aside0.mk hlen
  replace hr := Aside0.mk hr
  go_enter Try.func34, Try.ntmps34
  go_wp2_with (first | (go_at_call 48; (with_reducible refine (hIs _).mono ?_); rintro e w0 ⟨rfl, rfl⟩) | (go_at_call 24; (with_reducible refine (hVa _).mono ?_); rintro e w1 ⟨rfl, b1⟩) | (go_at_call 38; (with_reducible refine (hOf _).mono ?_); rintro e w2 ⟨rfl, b2⟩) | (go_at_call 42; (with_reducible refine (hG0 _).mono ?_); rintro e w3 ⟨rfl, b3⟩))
  have hB := Aside0.mk (below_step (below_step (b1) b2) b3)
  clear b1 b2 b3 hVa hOf hG0 hIs d1 d2
  go_loopw [] (fun wr => ∃ (us vs : List Int) (c0 c1 c2 c3 : Int), Aside0 (p = us ++ vs) ∧ Aside0 (V.cnt us = (c0, c1, c2, c3)) ∧ Aside0 (V.toEnd (V.stopAt k n vs (c0, c1, c2, c3)) k n = (r1, r2)) ∧ Aside0 (wr.heap[w3.heap.size]? = some (.cells #[.int .i64 c0, .int .i64 c1, .int .i64 c2, .int .i64 c3] 44 (0, 0))) ∧ Aside0 (wr.heap[w3.heap.size + 1]? = some (.stringIter a0 (U.encs us).length)) ∧ Aside0 (Below w.heap.size w wr)) (fun wr => a0.size - wr.iterPos (w3.heap.size + 1))
  case atStart =>
    refine ⟨[], p, 0, 0, 0, 0, ⟨rfl⟩, ⟨rfl⟩, hr, ⟨?_⟩, ⟨?_⟩, ⟨below_alloc (below_alloc hB.out _) _⟩⟩
    · exact blk_alloc (blk_new w3 _) _
    · have := World.iter_heap (w3.alloc (.cells #[.int .i64 0, .int .i64 0, .int .i64 0, .int .i64 0] 44)) a0 0
      simpa using this
  case round =>
    have hB3 := hB.out.size
    clear hr hB
    obtain ⟨us, vs, c0, c1, c2, c3, hsp, hcn, hst, k1, kit, HB⟩ := hrel
    have hG1 := fun w => count_Get.calls c0 c1 c2 c3 k _ w rfl
    obtain ⟨g, hg⟩ : ∃ g, V.get4 (c0, c1, c2, c3) k = g := ⟨_, rfl⟩
    rw [hg] at hG1
    match vs, hsp, hst with
    | [], hsp, hst =>
      replace hst := hst.out
      rw [V.stopAt] at hst
      have hLt : V.L a0 = U.encs us := by rw [hL.out, hsp.out, List.append_nil]
      have hts : a0.size = (U.encs us).length := by rw [← V.L_len, hLt]
      have hnx : ∀ ty, (Instr.next (.pointer (some ⟨w3.heap.size + 1, 0, none⟩)) true ty).run Try.prog wr = _ := fun ty => Lib.run_next_end_at wr (w3.heap.size + 1) a0 (U.encs us).length ty kit.out (by omega)
      clear hLt hts
      have x0 := (blk_cell k1.out 0).trans rfl
      have x1 := (blk_cell k1.out 1).trans rfl
      have x2 := (blk_cell k1.out 2).trans rfl
      have x3 := (blk_cell k1.out 3).trans rfl
      rw [V.toEnd, hg] at hst
      by_cases e1 : g = n
      · rw [if_pos e1] at hst
        obtain ⟨rfl, rfl⟩ := Prod.mk.inj hst
        have f1 : (g == n) = true := beq_iff_eq.mpr e1
        clear e1 hst hg
        go_wp2_with (first | (go_at_call 42; (with_reducible refine (hG1 _).mono ?_); rintro e w4 ⟨rfl, b4⟩; have z4 := Aside0.mk (blk_below (k1.out) b4); have x0 := (blk_cell z4.out 0).trans rfl; have x1 := (blk_cell z4.out 1).trans rfl; have x2 := (blk_cell z4.out 2).trans rfl; have x3 := (blk_cell z4.out 3).trans rfl))
        go_ret2
        exact ⟨rfl, below_step HB.out b4⟩
      · rw [if_neg e1] at hst
        have f1 : (g == n) = false := beq_eq_false_iff_ne.mpr e1
        by_cases e2 : k = 2
        · rw [if_pos e2] at hst
          obtain ⟨rfl, rfl⟩ := Prod.mk.inj hst
          have f2 : (k == 2) = true := beq_iff_eq.mpr e2
          clear e1 e2 hst hg
          go_wp2_with (first | (go_at_call 42; (with_reducible refine (hG1 _).mono ?_); rintro e w4 ⟨rfl, b4⟩; have z4 := Aside0.mk (blk_below (k1.out) b4); have x0 := (blk_cell z4.out 0).trans rfl; have x1 := (blk_cell z4.out 1).trans rfl; have x2 := (blk_cell z4.out 2).trans rfl; have x3 := (blk_cell z4.out 3).trans rfl))
          go_ret2
          exact ⟨rfl, below_step HB.out b4⟩
        · rw [if_neg e2] at hst
          obtain ⟨rfl, rfl⟩ := Prod.mk.inj hst
          have f2 : (k == 2) = false := beq_eq_false_iff_ne.mpr e2
          clear e1 e2 hst hg
          go_wp2_with (first | (go_at_call 42; (with_reducible refine (hG1 _).mono ?_); rintro e w4 ⟨rfl, b4⟩; have z4 := Aside0.mk (blk_below (k1.out) b4); have x0 := (blk_cell z4.out 0).trans rfl; have x1 := (blk_cell z4.out 1).trans rfl; have x2 := (blk_cell z4.out 2).trans rfl; have x3 := (blk_cell z4.out 3).trans rfl))
          go_ret2
          exact ⟨rfl, below_step HB.out b4⟩
    | v :: vs, hsp, hst =>
      replace hst := hst.out
      rw [V.stopAt, hg] at hst
      have hLt : V.L a0 = U.encs us ++ (U.enc v ++ U.encs vs) := by rw [hL.out, hsp.out, U.encs_append, U.encs_cons]
      have hsv : U.sc v := hp.out v (by rw [hsp.out]; simp)
      obtain ⟨d1, d2⟩ := V.decode_enc a0 (U.encs us) v (U.encs vs) hsv hLt
      have hel := U.enc_len v
      have hts : a0.size = (U.encs us).length + ((U.enc v).length + (U.encs vs).length) := by rw [← V.L_len, hLt, List.length_append, List.length_append]
      have hpos : (U.encs us).length < a0.size := by omega
      have hnx : ∀ ty, (Instr.next (.pointer (some ⟨w3.heap.size + 1, 0, none⟩)) true ty).run Try.prog wr = _ := fun ty => Lib.run_next_any_at wr (w3.heap.size + 1) a0 (U.encs us).length ty kit.out hpos
      rw [d1, d2] at hnx
      obtain ⟨wi, hwi⟩ : ∃ wi, wr.iterAt (w3.heap.size + 1) a0 ((U.encs us).length + (U.enc v).length) = wi := ⟨_, rfl⟩
      rw [hwi] at hnx
      have j1 := (Lib.iterAt_other wr (w3.heap.size + 1) w3.heap.size a0 ((U.encs us).length + (U.enc v).length) (by omega)).trans k1.out
      have jit := Lib.iterAt_heap wr (w3.heap.size + 1) a0 (U.encs us).length ((U.encs us).length + (U.enc v).length) kit.out
      have jB := Lib.below_iterAt HB.out (k := w3.heap.size + 1) (by omega) a0 ((U.encs us).length + (U.enc v).length)
      rw [hwi] at j1 jit jB
      clear hwi
      have kp := Aside0.mk (count_To.pos kit.out)
      clear k1 kit HB d1 d2
      have x0 := (blk_cell j1 0).trans rfl
      have x1 := (blk_cell j1 1).trans rfl
      have x2 := (blk_cell j1 2).trans rfl
      have x3 := (blk_cell j1 3).trans rfl
      replace j1 := Aside0.mk j1
      replace jit := Aside0.mk jit
      replace jB := Aside0.mk jB
      replace hLt := Aside0.mk hLt
      replace hts := Aside0.mk hts
      replace hel := Aside0.mk hel
      by_cases hge : n ≤ g
      · rw [if_pos hge] at hst
        have q1 : decide (n ≤ g) = true := decide_eq_true hge
        clear hge
        rw [V.toEnd, hg] at hst
        by_cases e1 : g = n
        · rw [if_pos e1] at hst
          obtain ⟨rfl, rfl⟩ := Prod.mk.inj hst
          have f1 : (g == n) = true := beq_iff_eq.mpr e1
          clear e1 hst hg
          go_wp2_with (first | (go_at_call 42; (with_reducible refine (hG1 _).mono ?_); rintro e w4 ⟨rfl, b4⟩; have z5 := Aside0.mk (blk_below (by first | exact z4.out | exact j1.out) b4); have jB5 := Aside0.mk (below_step (by first | exact jB4.out | exact jB.out) b4); clear b4; have z4 := z5; have jB4 := jB5; clear z5 jB5; have x0 := (blk_cell z4.out 0).trans rfl; have x1 := (blk_cell z4.out 1).trans rfl; have x2 := (blk_cell z4.out 2).trans rfl; have x3 := (blk_cell z4.out 3).trans rfl))
          go_ret2
          exact ⟨rfl, jB4.out⟩
        · rw [if_neg e1] at hst
          have f1 : (g == n) = false := beq_eq_false_iff_ne.mpr e1
          by_cases e2 : k = 2
          · rw [if_pos e2] at hst
            obtain ⟨rfl, rfl⟩ := Prod.mk.inj hst
            have f2 : (k == 2) = true := beq_iff_eq.mpr e2
            clear e1 e2 hst hg
            go_wp2_with (first | (go_at_call 42; (with_reducible refine (hG1 _).mono ?_); rintro e w4 ⟨rfl, b4⟩; have z5 := Aside0.mk (blk_below (by first | exact z4.out | exact j1.out) b4); have jB5 := Aside0.mk (below_step (by first | exact jB4.out | exact jB.out) b4); clear b4; have z4 := z5; have jB4 := jB5; clear z5 jB5; have x0 := (blk_cell z4.out 0).trans rfl; have x1 := (blk_cell z4.out 1).trans rfl; have x2 := (blk_cell z4.out 2).trans rfl; have x3 := (blk_cell z4.out 3).trans rfl))
            go_ret2
            exact ⟨rfl, jB4.out⟩
          · rw [if_neg e2] at hst
            obtain ⟨rfl, rfl⟩ := Prod.mk.inj hst
            have f2 : (k == 2) = false := beq_eq_false_iff_ne.mpr e2
            clear e1 e2 hst hg
            go_wp2_with (first | (go_at_call 42; (with_reducible refine (hG1 _).mono ?_); rintro e w4 ⟨rfl, b4⟩; have z5 := Aside0.mk (blk_below (by first | exact z4.out | exact j1.out) b4); have jB5 := Aside0.mk (below_step (by first | exact jB4.out | exact jB.out) b4); clear b4; have z4 := z5; have jB4 := jB5; clear z5 jB5; have x0 := (blk_cell z4.out 0).trans rfl; have x1 := (blk_cell z4.out 1).trans rfl; have x2 := (blk_cell z4.out 2).trans rfl; have x3 := (blk_cell z4.out 3).trans rfl))
            go_ret2
            exact ⟨rfl, jB4.out⟩
      · rw [if_neg hge] at hst
        have q1 : decide (n ≤ g) = false := decide_eq_false hge
        clear hge hg
        have hof := fun w => count_of.calls v ((U.enc v).length : Int) 1 (V.cu v) (V.cl v) w rfl
        have hpl := fun w => count_Plus.calls c0 c1 c2 c3 ((U.enc v).length : Int) 1 (V.cu v) (V.cl v) _ _ _ _ w rfl
        go_wp2_with (first | (go_at_call 42; (with_reducible refine (hG1 _).mono ?_); rintro e w4 ⟨rfl, b4⟩; have z4 := Aside0.mk (blk_below j1.out b4); have x0 := (blk_cell z4.out 0).trans rfl; have x1 := (blk_cell z4.out 1).trans rfl; have x2 := (blk_cell z4.out 2).trans rfl; have x3 := (blk_cell z4.out 3).trans rfl))
        go_region_with (first | (go_at_call 49; (refine (hof _).mono ?_); rintro e w5 ⟨rfl, b5⟩; have z5 := Aside0.mk (blk_below (by first | exact z4.out | exact blk_drew z4.out | exact blk_drewN z4.out _) b5); have x0 := (blk_cell z5.out 0).trans rfl; have x1 := (blk_cell z5.out 1).trans rfl; have x2 := (blk_cell z5.out 2).trans rfl; have x3 := (blk_cell z5.out 3).trans rfl) | (go_at_call 40; (refine (hpl _).mono ?_); rintro e w6 ⟨rfl, b6⟩; have z6 := Aside0.mk (blk_below z5.out b6); have x0 := (blk_cell z6.out 0).trans rfl; have x1 := (blk_cell z6.out 1).trans rfl; have x2 := (blk_cell z6.out 2).trans rfl; have x3 := (blk_cell z6.out 3).trans rfl; have f0 := blk_frozen z6.out 0; have f1 := blk_frozen z6.out 1; have f2 := blk_frozen z6.out 2; have f3 := blk_frozen z6.out 3))
        all_goals
          go_roundw
          case rel =>
            refine ⟨_, _, _, _, _, _, _, _, _, _, _, _, _, ⟨us ++ [v], vs, _, _, _, _, ⟨by rw [hsp.out]; simp⟩, ⟨V.cnt_step hcn.out (by have := hlen.out; rw [hsp.out] at this; simp at this; omega) v⟩, ⟨?_⟩, ⟨?_⟩, ⟨?_⟩, ⟨?_⟩⟩, rfl⟩
            · have hcs := V.cnt_step hcn.out (by have := hlen.out; rw [hsp.out] at this; simp at this; omega) v
              rw [V.cnt_snoc, hcn.out] at hcs
              rw [← hcs]
              exact hst
            · exact blk_put (blk_put (blk_put (blk_put z6.out 0 _ rfl) 1 _ rfl) 2 _ rfl) 3 _ rfl
            · rw [U.encs_append, U.encs_cons, U.encs_nil, List.append_nil, List.length_append]
              exact count_To.far (count_To.far (count_To.far (count_To.far (blk_below (blk_below (blk_drew (blk_below jit.out b4)) b5) b6) (by simp) _) (by simp) _) (by simp) _) (by simp) _
            · exact below_set (below_set (below_set (below_set (below_step (below_step (below_drew1 (below_step jB.out b4)) b5) b6) (by omega)) (by omega)) (by omega)) (by omega)
          case measure =>
            have h1 := count_To.pos (count_To.far (count_To.far (count_To.far (count_To.far (blk_below (blk_below (blk_drew (blk_below jit.out b4)) b5) b6) (p := ⟨w3.heap.size, 0, none⟩) (by simp) (.int .i64 (wrap64 (c0 + ((U.enc v).length : Int))))) (p := ⟨w3.heap.size, 1, none⟩) (by simp) (.int .i64 (wrap64 (c1 + 1)))) (p := ⟨w3.heap.size, 2, none⟩) (by simp) (.int .i64 (wrap64 (c2 + V.cu v)))) (p := ⟨w3.heap.size, 3, none⟩) (by simp) (.int .i64 (wrap64 (c3 + V.cl v))))
            have h2 := hts.out
            have h3 := hel.out
            rw [kp.out]
            have h1' : World.iterPos _ (w3.heap.size + 1) = _ := h1
            rw [h1']
            omega
theorem count_To.calls (a0 : ByteArray) (k n : Int) (r1 r2 : Int) (w : World) (h : count_To.f a0 k n = some (r1, r2)) :
  Calls Try.prog 34 #[.string a0, .int .i64 k, .int .i64 n] w fun e w' => e = .returned (.tuple #[.int .i64 r1, .int .i64 r2]) ∧ Below w.heap.size w w' := by
 unfold count_To.f at h
 by_cases hs : a0.size ≤ 1000000
 case neg => rw [if_neg hs] at h; cases h
 rw [if_pos hs] at h
 replace h := Option.some.inj h
 unfold V.toSpec at h
 have hVa := fun w => utf_Valid.calls (a0.size + 8) a0 _ w (V.Valid_eq _ a0 hs (Nat.le_refl _))
 by_cases c : 0 ≤ k ∧ k ≤ 3
 ·by_cases v : U.valid (V.L a0) = true
  ·rw [if_pos ⟨c, v⟩] at h
   rw [v] at hVa
   obtain ⟨c0, c1, c2, c3, hc⟩ : ∃ c0 c1 c2 c3, V.cnt (U.points (V.L a0)) = (c0, c1, c2, c3) := ⟨_, _, _, _, rfl⟩
   have hOf := fun w => count_Of.calls a0 c0 c1 c2 c3 w (by unfold count_Of.f; rw [if_pos hs, hc])
   rw [hc] at h
   by_cases d : n < 0 ∨ V.get4 (c0, c1, c2, c3) k < n
   ·rw [if_pos d] at h
    obtain ⟨rfl, rfl⟩ := Prod.mk.inj h
    exact count_To.range a0 k n w c hVa c0 c1 c2 c3 _ rfl hOf d
   ·rw [if_neg d] at h
    have hl := U.points_le (V.L a0)
    rw [V.L_len] at hl
    have hcl := U.clean_of_valid _ v
    exact count_To.loop a0 k n w c hVa c0 c1 c2 c3 _ rfl hOf d (U.points (V.L a0)) (U.points_sc _) hcl.symm (by omega) r1 r2 h
  ·rw [if_neg (by intro h; exact v h.2)] at h
   rw [Bool.not_eq_true] at v
   rw [v] at hVa
   obtain ⟨rfl, rfl⟩ := Prod.mk.inj h
   exact count_To.early a0 k n w hVa (.inl c)
 ·rw [if_neg (by intro h; exact c h.1)] at h
  obtain ⟨rfl, rfl⟩ := Prod.mk.inj h
  exact count_To.form a0 k n w c

end Go.Proofs.Ytgepcdpnjinadaa.PX
end

section
-- MACHINE SIDE, written by wip/drive.py (this session's driver over the kit's print) for this claim. Lean checks it.
namespace Go.Proofs.Ytgepcdpnjinadaa.PX
open Go.RowKit Go.Proofs.YtgepcdpnjinadaaW.PrintWords Go.Proofs.YtgepcdpnjinadaaW.PrintLast Go.Proofs.YtgepcdpnjinadaaW.PrintMore
attribute [local go_sem] max2_int min2_int max_two min_two max_three min_three max_four min_four   -- for this text's walks alone
set_option linter.unusedVariables false
set_option linter.unusedSimpArgs false

attribute [local go_sem high] eqA44
/-! ### palinodelaw2_known: function 33 -/
def palinodelaw2_known.f (k : Nat)  : Option (Bool) := (count_To.f (⟨#[97, 10, 240, 159, 152, 128, 98]⟩ : ByteArray) 2 4).bind fun bt239 => ((count_To.f (⟨#[97, 10, 240, 159, 152, 128, 98]⟩ : ByteArray) 2 3).bind fun bt241 => ((count_From.f k (⟨#[97, 10, 240, 159, 152, 128, 98]⟩ : ByteArray) 3 2).bind fun bt243 => ((count_From.f k (⟨#[97, 10, 240, 159, 152, 128, 98]⟩ : ByteArray) 1 3).bind fun bt245 => ((count_To.f (⟨#[97, 10, 240, 159, 152, 128, 98]⟩ : ByteArray) 9 0).bind fun bt247 => ((count_Of.f (⟨#[97, 10, 240, 159, 152, 128, 98]⟩ : ByteArray)).bind fun bt249 => (if (bt249.1 == 7 && (bt249.2.1 == 4 && (bt249.2.2.1 == 5 && (bt249.2.2.2 == 1)))) = true then (if bt239.2 = 0 then (if bt239.1 = 6 then (if bt241.2 = 50 then (if bt243.2 = 0 then (if bt243.1 = 1 then (if bt245.2 = 11 then (some (bt247.2 == 12)) else (some false)) else (some false)) else (some false)) else (some false)) else (some false)) else (some false)) else (some false)))))))
theorem palinodelaw2_known.mono : ∀ k, LeO (palinodelaw2_known.f k ) (palinodelaw2_known.f (k + 1) ) := by
  intro  k
  unfold palinodelaw2_known.f
  repeat' first
      | (with_reducible exact count_From.mono _ _ _ _)
      | (with_reducible exact LeO.refl _)
      | (with_reducible exact LeO.none _)
      | (with_reducible refine LeO.ite ?_ ?_)
      | (with_reducible refine LeO.bind ?_ (fun _ => ?_))
      | exact count_From.mono _ _ _ _
      | exact LeO.none _
      | refine LeO.ite ?_ ?_
      | refine LeO.bind ?_ (fun _ => ?_)
set_option maxHeartbeats 8000000 in
set_option maxRecDepth 100000 in
theorem palinodelaw2_known.calls (k : Nat)  (r : Bool) (w : World) (h : palinodelaw2_known.f k  = some r) :
  Calls Try.prog 33 #[] w fun e w' => e = .returned (.bool r) ∧ Below w.heap.size w w' := by
 have hu44 := Try.underlying44
 have HB := Aside0.mk (Below.refl w.heap.size w)
 have H : ((count_To.f (⟨#[97, 10, 240, 159, 152, 128, 98]⟩ : ByteArray) 2 4).bind fun bt239 => ((count_To.f (⟨#[97, 10, 240, 159, 152, 128, 98]⟩ : ByteArray) 2 3).bind fun bt241 => ((count_From.f k (⟨#[97, 10, 240, 159, 152, 128, 98]⟩ : ByteArray) 3 2).bind fun bt243 => ((count_From.f k (⟨#[97, 10, 240, 159, 152, 128, 98]⟩ : ByteArray) 1 3).bind fun bt245 => ((count_To.f (⟨#[97, 10, 240, 159, 152, 128, 98]⟩ : ByteArray) 9 0).bind fun bt247 => ((count_Of.f (⟨#[97, 10, 240, 159, 152, 128, 98]⟩ : ByteArray)).bind fun bt249 => (if (bt249.1 == 7 && (bt249.2.1 == 4 && (bt249.2.2.1 == 5 && (bt249.2.2.2 == 1)))) = true then (if bt239.2 = 0 then (if bt239.1 = 6 then (if bt241.2 = 50 then (if bt243.2 = 0 then (if bt243.1 = 1 then (if bt245.2 = 11 then (some (bt247.2 == 12)) else (some false)) else (some false)) else (some false)) else (some false)) else (some false)) else (some false)) else (some false)))))))) = some r := h
 clear h
 replace H := Option.bind_eq_some_iff.mp H
 obtain ⟨⟨t239, t240⟩, A10, H⟩ := H
 replace H : ((count_To.f (⟨#[97, 10, 240, 159, 152, 128, 98]⟩ : ByteArray) 2 3).bind fun bt241 => ((count_From.f k (⟨#[97, 10, 240, 159, 152, 128, 98]⟩ : ByteArray) 3 2).bind fun bt243 => ((count_From.f k (⟨#[97, 10, 240, 159, 152, 128, 98]⟩ : ByteArray) 1 3).bind fun bt245 => ((count_To.f (⟨#[97, 10, 240, 159, 152, 128, 98]⟩ : ByteArray) 9 0).bind fun bt247 => ((count_Of.f (⟨#[97, 10, 240, 159, 152, 128, 98]⟩ : ByteArray)).bind fun bt249 => (if (bt249.1 == 7 && (bt249.2.1 == 4 && (bt249.2.2.1 == 5 && (bt249.2.2.2 == 1)))) = true then (if t240 = 0 then (if t239 = 6 then (if bt241.2 = 50 then (if bt243.2 = 0 then (if bt243.1 = 1 then (if bt245.2 = 11 then (some (bt247.2 == 12)) else (some false)) else (some false)) else (some false)) else (some false)) else (some false)) else (some false)) else (some false))))))) = some r := H
 have A1 := Aside0.mk A10
 clear A10
 replace H := Option.bind_eq_some_iff.mp H
 obtain ⟨⟨t241, t242⟩, A20, H⟩ := H
 replace H : ((count_From.f k (⟨#[97, 10, 240, 159, 152, 128, 98]⟩ : ByteArray) 3 2).bind fun bt243 => ((count_From.f k (⟨#[97, 10, 240, 159, 152, 128, 98]⟩ : ByteArray) 1 3).bind fun bt245 => ((count_To.f (⟨#[97, 10, 240, 159, 152, 128, 98]⟩ : ByteArray) 9 0).bind fun bt247 => ((count_Of.f (⟨#[97, 10, 240, 159, 152, 128, 98]⟩ : ByteArray)).bind fun bt249 => (if (bt249.1 == 7 && (bt249.2.1 == 4 && (bt249.2.2.1 == 5 && (bt249.2.2.2 == 1)))) = true then (if t240 = 0 then (if t239 = 6 then (if t242 = 50 then (if bt243.2 = 0 then (if bt243.1 = 1 then (if bt245.2 = 11 then (some (bt247.2 == 12)) else (some false)) else (some false)) else (some false)) else (some false)) else (some false)) else (some false)) else (some false)))))) = some r := H
 have A2 := Aside0.mk A20
 clear A20
 replace H := Option.bind_eq_some_iff.mp H
 obtain ⟨⟨t243, t244⟩, A30, H⟩ := H
 replace H : ((count_From.f k (⟨#[97, 10, 240, 159, 152, 128, 98]⟩ : ByteArray) 1 3).bind fun bt245 => ((count_To.f (⟨#[97, 10, 240, 159, 152, 128, 98]⟩ : ByteArray) 9 0).bind fun bt247 => ((count_Of.f (⟨#[97, 10, 240, 159, 152, 128, 98]⟩ : ByteArray)).bind fun bt249 => (if (bt249.1 == 7 && (bt249.2.1 == 4 && (bt249.2.2.1 == 5 && (bt249.2.2.2 == 1)))) = true then (if t240 = 0 then (if t239 = 6 then (if t242 = 50 then (if t244 = 0 then (if t243 = 1 then (if bt245.2 = 11 then (some (bt247.2 == 12)) else (some false)) else (some false)) else (some false)) else (some false)) else (some false)) else (some false)) else (some false))))) = some r := H
 have A3 := Aside0.mk A30
 clear A30
 replace H := Option.bind_eq_some_iff.mp H
 obtain ⟨⟨t245, t246⟩, A40, H⟩ := H
 replace H : ((count_To.f (⟨#[97, 10, 240, 159, 152, 128, 98]⟩ : ByteArray) 9 0).bind fun bt247 => ((count_Of.f (⟨#[97, 10, 240, 159, 152, 128, 98]⟩ : ByteArray)).bind fun bt249 => (if (bt249.1 == 7 && (bt249.2.1 == 4 && (bt249.2.2.1 == 5 && (bt249.2.2.2 == 1)))) = true then (if t240 = 0 then (if t239 = 6 then (if t242 = 50 then (if t244 = 0 then (if t243 = 1 then (if t246 = 11 then (some (bt247.2 == 12)) else (some false)) else (some false)) else (some false)) else (some false)) else (some false)) else (some false)) else (some false)))) = some r := H
 have A4 := Aside0.mk A40
 clear A40
 replace H := Option.bind_eq_some_iff.mp H
 obtain ⟨⟨t247, t248⟩, A50, H⟩ := H
 replace H : ((count_Of.f (⟨#[97, 10, 240, 159, 152, 128, 98]⟩ : ByteArray)).bind fun bt249 => (if (bt249.1 == 7 && (bt249.2.1 == 4 && (bt249.2.2.1 == 5 && (bt249.2.2.2 == 1)))) = true then (if t240 = 0 then (if t239 = 6 then (if t242 = 50 then (if t244 = 0 then (if t243 = 1 then (if t246 = 11 then (some (t248 == 12)) else (some false)) else (some false)) else (some false)) else (some false)) else (some false)) else (some false)) else (some false))) = some r := H
 have A5 := Aside0.mk A50
 clear A50
 replace H := Option.bind_eq_some_iff.mp H
 obtain ⟨⟨t249, t250, t251, t252⟩, A60, H⟩ := H
 replace H : (if (t249 == 7 && (t250 == 4 && (t251 == 5 && (t252 == 1)))) = true then (if t240 = 0 then (if t239 = 6 then (if t242 = 50 then (if t244 = 0 then (if t243 = 1 then (if t246 = 11 then (some (t248 == 12)) else (some false)) else (some false)) else (some false)) else (some false)) else (some false)) else (some false)) else (some false)) = some r := H
 have A6 := Aside0.mk A60
 clear A60
 by_cases c7 : (t249 == 7 && (t250 == 4 && (t251 == 5 && (t252 == 1)))) = true
 ·rw [if_pos c7] at H
  have c7b0 : (t249 == 7 && (t250 == 4 && (t251 == 5 && (t252 == 1)))) = true := c7
  (try (have c7b1 : decide (t249 = 7 && (t250 == 4 && (t251 == 5 && (t252 == 1)))) = true := by simpa using c7))
  (try (have c7b2 : (t249 == 7 && (t250 == 4 && (t251 == 5 && (t252 == 1)))) = true := by simpa using c7))
  clear c7
  by_cases c8 : t240 = 0
  ·rw [if_pos c8] at H
   have c8b0 : (t240 == 0) = true := beq_iff_eq.mpr c8
   have c8b1 : (t240 != 0) = false := bne_eq_false_iff_eq.mpr c8
   clear c8
   by_cases c9 : t239 = 6
   ·rw [if_pos c9] at H
    have c9b0 : (t239 == 6) = true := beq_iff_eq.mpr c9
    have c9b1 : (t239 != 6) = false := bne_eq_false_iff_eq.mpr c9
    clear c9
    by_cases c10 : t242 = 50
    ·rw [if_pos c10] at H
     have c10b0 : (t242 == 50) = true := beq_iff_eq.mpr c10
     have c10b1 : (t242 != 50) = false := bne_eq_false_iff_eq.mpr c10
     clear c10
     by_cases c11 : t244 = 0
     ·rw [if_pos c11] at H
      have c11b0 : (t244 == 0) = true := beq_iff_eq.mpr c11
      have c11b1 : (t244 != 0) = false := bne_eq_false_iff_eq.mpr c11
      clear c11
      by_cases c12 : t243 = 1
      ·rw [if_pos c12] at H
       have c12b0 : (t243 == 1) = true := beq_iff_eq.mpr c12
       have c12b1 : (t243 != 1) = false := bne_eq_false_iff_eq.mpr c12
       clear c12
       by_cases c13 : t246 = 11
       ·rw [if_pos c13] at H
        have c13b0 : (t246 == 11) = true := beq_iff_eq.mpr c13
        have c13b1 : (t246 != 11) = false := bne_eq_false_iff_eq.mpr c13
        clear c13
        obtain rfl := Option.some.inj H
        go_enter Try.func33, Try.ntmps33
        go_wp2_with (first | ((with_reducible refine gate_callee (f := 34) rfl ?_); refine goesL_ (some 14) rfl rfl Try.func34 (by kernel_rfl) rfl #[.string (⟨#[97, 10, 240, 159, 152, 128, 98]⟩ : ByteArray), .int .i64 2, .int .i64 4] rfl (by (try simp only [List.map_toArray, List.map_cons, List.map_nil]); first | done | rfl | (simp only [List.length_drop, List.length_take]; rfl)) ?_; (with_reducible refine (count_To.calls (⟨#[97, 10, 240, 159, 152, 128, 98]⟩ : ByteArray) 2 4 t239 t240 _ A1.out).mono ?_); rintro e w14 ⟨rfl, hb⟩; refine ⟨_, rfl, ?_⟩; have n0_ := Aside0.mk (below_step (by repeat (first | (with_reducible first | exact HB.out | apply below_alloc | apply pw_below_drewN | apply below_drew1) | exact HB.out)) hb); clear HB; have HB := n0_; clear n0_; (try clear hb); (try clear hb2); (try clear hk); (try clear hi)) | ((with_reducible refine gate_callee (f := 34) rfl ?_); refine goesL_ (some 19) rfl rfl Try.func34 (by kernel_rfl) rfl #[.string (⟨#[97, 10, 240, 159, 152, 128, 98]⟩ : ByteArray), .int .i64 2, .int .i64 3] rfl (by (try simp only [List.map_toArray, List.map_cons, List.map_nil]); first | done | rfl | (simp only [List.length_drop, List.length_take]; rfl)) ?_; (with_reducible refine (count_To.calls (⟨#[97, 10, 240, 159, 152, 128, 98]⟩ : ByteArray) 2 3 t241 t242 _ A2.out).mono ?_); rintro e w15 ⟨rfl, hb⟩; refine ⟨_, rfl, ?_⟩; have n0_ := Aside0.mk (below_step (by repeat (first | (with_reducible first | exact HB.out | apply below_alloc | apply pw_below_drewN | apply below_drew1) | exact HB.out)) hb); clear HB; have HB := n0_; clear n0_; (try clear hb); (try clear hb2); (try clear hk); (try clear hi)) | ((with_reducible refine gate_callee (f := 36) rfl ?_); refine goesL_ (some 24) rfl rfl Try.func36 (by kernel_rfl) rfl #[.string (⟨#[97, 10, 240, 159, 152, 128, 98]⟩ : ByteArray), .int .i64 3, .int .i64 2] rfl (by (try simp only [List.map_toArray, List.map_cons, List.map_nil]); first | done | rfl | (simp only [List.length_drop, List.length_take]; rfl)) ?_; (with_reducible refine (count_From.calls k (⟨#[97, 10, 240, 159, 152, 128, 98]⟩ : ByteArray) 3 2 t243 t244 _ A3.out).mono ?_); rintro e w16 ⟨rfl, hb⟩; refine ⟨_, rfl, ?_⟩; have n0_ := Aside0.mk (below_step (by repeat (first | (with_reducible first | exact HB.out | apply below_alloc | apply pw_below_drewN | apply below_drew1) | exact HB.out)) hb); clear HB; have HB := n0_; clear n0_; (try clear hb); (try clear hb2); (try clear hk); (try clear hi)) | ((with_reducible refine gate_callee (f := 36) rfl ?_); refine goesL_ (some 29) rfl rfl Try.func36 (by kernel_rfl) rfl #[.string (⟨#[97, 10, 240, 159, 152, 128, 98]⟩ : ByteArray), .int .i64 1, .int .i64 3] rfl (by (try simp only [List.map_toArray, List.map_cons, List.map_nil]); first | done | rfl | (simp only [List.length_drop, List.length_take]; rfl)) ?_; (with_reducible refine (count_From.calls k (⟨#[97, 10, 240, 159, 152, 128, 98]⟩ : ByteArray) 1 3 t245 t246 _ A4.out).mono ?_); rintro e w17 ⟨rfl, hb⟩; refine ⟨_, rfl, ?_⟩; have n0_ := Aside0.mk (below_step (by repeat (first | (with_reducible first | exact HB.out | apply below_alloc | apply pw_below_drewN | apply below_drew1) | exact HB.out)) hb); clear HB; have HB := n0_; clear n0_; (try clear hb); (try clear hb2); (try clear hk); (try clear hi)) | ((with_reducible refine gate_callee (f := 34) rfl ?_); refine goesL_ (some 34) rfl rfl Try.func34 (by kernel_rfl) rfl #[.string (⟨#[97, 10, 240, 159, 152, 128, 98]⟩ : ByteArray), .int .i64 9, .int .i64 0] rfl (by (try simp only [List.map_toArray, List.map_cons, List.map_nil]); first | done | rfl | (simp only [List.length_drop, List.length_take]; rfl)) ?_; (with_reducible refine (count_To.calls (⟨#[97, 10, 240, 159, 152, 128, 98]⟩ : ByteArray) 9 0 t247 t248 _ A5.out).mono ?_); rintro e w18 ⟨rfl, hb⟩; refine ⟨_, rfl, ?_⟩; have n0_ := Aside0.mk (below_step (by repeat (first | (with_reducible first | exact HB.out | apply below_alloc | apply pw_below_drewN | apply below_drew1) | exact HB.out)) hb); clear HB; have HB := n0_; clear n0_; (try clear hb); (try clear hb2); (try clear hk); (try clear hi)) | ((with_reducible refine gate_callee (f := 38) rfl ?_); refine goesL_ (some 38) rfl rfl Try.func38 (by kernel_rfl) rfl #[.string (⟨#[97, 10, 240, 159, 152, 128, 98]⟩ : ByteArray)] rfl (by (try simp only [List.map_toArray, List.map_cons, List.map_nil]); first | done | rfl | (simp only [List.length_drop, List.length_take]; rfl)) ?_; (with_reducible refine (count_Of.calls (⟨#[97, 10, 240, 159, 152, 128, 98]⟩ : ByteArray) t249 t250 t251 t252 _ A6.out).mono ?_); rintro e w19 ⟨rfl, hb⟩; refine ⟨_, rfl, ?_⟩; have n0_ := Aside0.mk (below_step (by repeat (first | (with_reducible first | exact HB.out | apply below_alloc | apply pw_below_drewN | apply below_drew1) | exact HB.out)) hb); clear HB; have HB := n0_; clear n0_; (try clear hb); (try clear hb2); (try clear hk); (try clear hi)))
        go_ret
        exact ⟨by first | rfl | (simp [errW_none, errW_some] <;> rfl) | (simp [*, errW_none, errW_some] <;> rfl), by repeat (first | (with_reducible first | exact HB.out | apply below_alloc | apply pw_below_drewN | apply below_drew1) | exact HB.out)⟩
       ·rw [if_neg c13] at H
        have c13b0 : (t246 == 11) = false := beq_eq_false_iff_ne.mpr c13
        have c13b1 : (t246 != 11) = true := bne_iff_ne.mpr c13
        obtain rfl := Option.some.inj H
        go_enter Try.func33, Try.ntmps33
        go_wp2_with (first | ((with_reducible refine gate_callee (f := 34) rfl ?_); refine goesL_ (some 14) rfl rfl Try.func34 (by kernel_rfl) rfl #[.string (⟨#[97, 10, 240, 159, 152, 128, 98]⟩ : ByteArray), .int .i64 2, .int .i64 4] rfl (by (try simp only [List.map_toArray, List.map_cons, List.map_nil]); first | done | rfl | (simp only [List.length_drop, List.length_take]; rfl)) ?_; (with_reducible refine (count_To.calls (⟨#[97, 10, 240, 159, 152, 128, 98]⟩ : ByteArray) 2 4 t239 t240 _ A1.out).mono ?_); rintro e w20 ⟨rfl, hb⟩; refine ⟨_, rfl, ?_⟩; have n0_ := Aside0.mk (below_step (by repeat (first | (with_reducible first | exact HB.out | apply below_alloc | apply pw_below_drewN | apply below_drew1) | exact HB.out)) hb); clear HB; have HB := n0_; clear n0_; (try clear hb); (try clear hb2); (try clear hk); (try clear hi)) | ((with_reducible refine gate_callee (f := 34) rfl ?_); refine goesL_ (some 19) rfl rfl Try.func34 (by kernel_rfl) rfl #[.string (⟨#[97, 10, 240, 159, 152, 128, 98]⟩ : ByteArray), .int .i64 2, .int .i64 3] rfl (by (try simp only [List.map_toArray, List.map_cons, List.map_nil]); first | done | rfl | (simp only [List.length_drop, List.length_take]; rfl)) ?_; (with_reducible refine (count_To.calls (⟨#[97, 10, 240, 159, 152, 128, 98]⟩ : ByteArray) 2 3 t241 t242 _ A2.out).mono ?_); rintro e w21 ⟨rfl, hb⟩; refine ⟨_, rfl, ?_⟩; have n0_ := Aside0.mk (below_step (by repeat (first | (with_reducible first | exact HB.out | apply below_alloc | apply pw_below_drewN | apply below_drew1) | exact HB.out)) hb); clear HB; have HB := n0_; clear n0_; (try clear hb); (try clear hb2); (try clear hk); (try clear hi)) | ((with_reducible refine gate_callee (f := 36) rfl ?_); refine goesL_ (some 24) rfl rfl Try.func36 (by kernel_rfl) rfl #[.string (⟨#[97, 10, 240, 159, 152, 128, 98]⟩ : ByteArray), .int .i64 3, .int .i64 2] rfl (by (try simp only [List.map_toArray, List.map_cons, List.map_nil]); first | done | rfl | (simp only [List.length_drop, List.length_take]; rfl)) ?_; (with_reducible refine (count_From.calls k (⟨#[97, 10, 240, 159, 152, 128, 98]⟩ : ByteArray) 3 2 t243 t244 _ A3.out).mono ?_); rintro e w22 ⟨rfl, hb⟩; refine ⟨_, rfl, ?_⟩; have n0_ := Aside0.mk (below_step (by repeat (first | (with_reducible first | exact HB.out | apply below_alloc | apply pw_below_drewN | apply below_drew1) | exact HB.out)) hb); clear HB; have HB := n0_; clear n0_; (try clear hb); (try clear hb2); (try clear hk); (try clear hi)) | ((with_reducible refine gate_callee (f := 36) rfl ?_); refine goesL_ (some 29) rfl rfl Try.func36 (by kernel_rfl) rfl #[.string (⟨#[97, 10, 240, 159, 152, 128, 98]⟩ : ByteArray), .int .i64 1, .int .i64 3] rfl (by (try simp only [List.map_toArray, List.map_cons, List.map_nil]); first | done | rfl | (simp only [List.length_drop, List.length_take]; rfl)) ?_; (with_reducible refine (count_From.calls k (⟨#[97, 10, 240, 159, 152, 128, 98]⟩ : ByteArray) 1 3 t245 t246 _ A4.out).mono ?_); rintro e w23 ⟨rfl, hb⟩; refine ⟨_, rfl, ?_⟩; have n0_ := Aside0.mk (below_step (by repeat (first | (with_reducible first | exact HB.out | apply below_alloc | apply pw_below_drewN | apply below_drew1) | exact HB.out)) hb); clear HB; have HB := n0_; clear n0_; (try clear hb); (try clear hb2); (try clear hk); (try clear hi)) | ((with_reducible refine gate_callee (f := 34) rfl ?_); refine goesL_ (some 34) rfl rfl Try.func34 (by kernel_rfl) rfl #[.string (⟨#[97, 10, 240, 159, 152, 128, 98]⟩ : ByteArray), .int .i64 9, .int .i64 0] rfl (by (try simp only [List.map_toArray, List.map_cons, List.map_nil]); first | done | rfl | (simp only [List.length_drop, List.length_take]; rfl)) ?_; (with_reducible refine (count_To.calls (⟨#[97, 10, 240, 159, 152, 128, 98]⟩ : ByteArray) 9 0 t247 t248 _ A5.out).mono ?_); rintro e w24 ⟨rfl, hb⟩; refine ⟨_, rfl, ?_⟩; have n0_ := Aside0.mk (below_step (by repeat (first | (with_reducible first | exact HB.out | apply below_alloc | apply pw_below_drewN | apply below_drew1) | exact HB.out)) hb); clear HB; have HB := n0_; clear n0_; (try clear hb); (try clear hb2); (try clear hk); (try clear hi)) | ((with_reducible refine gate_callee (f := 38) rfl ?_); refine goesL_ (some 38) rfl rfl Try.func38 (by kernel_rfl) rfl #[.string (⟨#[97, 10, 240, 159, 152, 128, 98]⟩ : ByteArray)] rfl (by (try simp only [List.map_toArray, List.map_cons, List.map_nil]); first | done | rfl | (simp only [List.length_drop, List.length_take]; rfl)) ?_; (with_reducible refine (count_Of.calls (⟨#[97, 10, 240, 159, 152, 128, 98]⟩ : ByteArray) t249 t250 t251 t252 _ A6.out).mono ?_); rintro e w25 ⟨rfl, hb⟩; refine ⟨_, rfl, ?_⟩; have n0_ := Aside0.mk (below_step (by repeat (first | (with_reducible first | exact HB.out | apply below_alloc | apply pw_below_drewN | apply below_drew1) | exact HB.out)) hb); clear HB; have HB := n0_; clear n0_; (try clear hb); (try clear hb2); (try clear hk); (try clear hi)))
        go_ret
        exact ⟨by first | rfl | (simp [errW_none, errW_some] <;> rfl) | (simp [*, errW_none, errW_some] <;> rfl), by repeat (first | (with_reducible first | exact HB.out | apply below_alloc | apply pw_below_drewN | apply below_drew1) | exact HB.out)⟩
      ·rw [if_neg c12] at H
       have c12b0 : (t243 == 1) = false := beq_eq_false_iff_ne.mpr c12
       have c12b1 : (t243 != 1) = true := bne_iff_ne.mpr c12
       obtain rfl := Option.some.inj H
       go_enter Try.func33, Try.ntmps33
       go_wp2_with (first | ((with_reducible refine gate_callee (f := 34) rfl ?_); refine goesL_ (some 14) rfl rfl Try.func34 (by kernel_rfl) rfl #[.string (⟨#[97, 10, 240, 159, 152, 128, 98]⟩ : ByteArray), .int .i64 2, .int .i64 4] rfl (by (try simp only [List.map_toArray, List.map_cons, List.map_nil]); first | done | rfl | (simp only [List.length_drop, List.length_take]; rfl)) ?_; (with_reducible refine (count_To.calls (⟨#[97, 10, 240, 159, 152, 128, 98]⟩ : ByteArray) 2 4 t239 t240 _ A1.out).mono ?_); rintro e w26 ⟨rfl, hb⟩; refine ⟨_, rfl, ?_⟩; have n0_ := Aside0.mk (below_step (by repeat (first | (with_reducible first | exact HB.out | apply below_alloc | apply pw_below_drewN | apply below_drew1) | exact HB.out)) hb); clear HB; have HB := n0_; clear n0_; (try clear hb); (try clear hb2); (try clear hk); (try clear hi)) | ((with_reducible refine gate_callee (f := 34) rfl ?_); refine goesL_ (some 19) rfl rfl Try.func34 (by kernel_rfl) rfl #[.string (⟨#[97, 10, 240, 159, 152, 128, 98]⟩ : ByteArray), .int .i64 2, .int .i64 3] rfl (by (try simp only [List.map_toArray, List.map_cons, List.map_nil]); first | done | rfl | (simp only [List.length_drop, List.length_take]; rfl)) ?_; (with_reducible refine (count_To.calls (⟨#[97, 10, 240, 159, 152, 128, 98]⟩ : ByteArray) 2 3 t241 t242 _ A2.out).mono ?_); rintro e w27 ⟨rfl, hb⟩; refine ⟨_, rfl, ?_⟩; have n0_ := Aside0.mk (below_step (by repeat (first | (with_reducible first | exact HB.out | apply below_alloc | apply pw_below_drewN | apply below_drew1) | exact HB.out)) hb); clear HB; have HB := n0_; clear n0_; (try clear hb); (try clear hb2); (try clear hk); (try clear hi)) | ((with_reducible refine gate_callee (f := 36) rfl ?_); refine goesL_ (some 24) rfl rfl Try.func36 (by kernel_rfl) rfl #[.string (⟨#[97, 10, 240, 159, 152, 128, 98]⟩ : ByteArray), .int .i64 3, .int .i64 2] rfl (by (try simp only [List.map_toArray, List.map_cons, List.map_nil]); first | done | rfl | (simp only [List.length_drop, List.length_take]; rfl)) ?_; (with_reducible refine (count_From.calls k (⟨#[97, 10, 240, 159, 152, 128, 98]⟩ : ByteArray) 3 2 t243 t244 _ A3.out).mono ?_); rintro e w28 ⟨rfl, hb⟩; refine ⟨_, rfl, ?_⟩; have n0_ := Aside0.mk (below_step (by repeat (first | (with_reducible first | exact HB.out | apply below_alloc | apply pw_below_drewN | apply below_drew1) | exact HB.out)) hb); clear HB; have HB := n0_; clear n0_; (try clear hb); (try clear hb2); (try clear hk); (try clear hi)) | ((with_reducible refine gate_callee (f := 36) rfl ?_); refine goesL_ (some 29) rfl rfl Try.func36 (by kernel_rfl) rfl #[.string (⟨#[97, 10, 240, 159, 152, 128, 98]⟩ : ByteArray), .int .i64 1, .int .i64 3] rfl (by (try simp only [List.map_toArray, List.map_cons, List.map_nil]); first | done | rfl | (simp only [List.length_drop, List.length_take]; rfl)) ?_; (with_reducible refine (count_From.calls k (⟨#[97, 10, 240, 159, 152, 128, 98]⟩ : ByteArray) 1 3 t245 t246 _ A4.out).mono ?_); rintro e w29 ⟨rfl, hb⟩; refine ⟨_, rfl, ?_⟩; have n0_ := Aside0.mk (below_step (by repeat (first | (with_reducible first | exact HB.out | apply below_alloc | apply pw_below_drewN | apply below_drew1) | exact HB.out)) hb); clear HB; have HB := n0_; clear n0_; (try clear hb); (try clear hb2); (try clear hk); (try clear hi)) | ((with_reducible refine gate_callee (f := 34) rfl ?_); refine goesL_ (some 34) rfl rfl Try.func34 (by kernel_rfl) rfl #[.string (⟨#[97, 10, 240, 159, 152, 128, 98]⟩ : ByteArray), .int .i64 9, .int .i64 0] rfl (by (try simp only [List.map_toArray, List.map_cons, List.map_nil]); first | done | rfl | (simp only [List.length_drop, List.length_take]; rfl)) ?_; (with_reducible refine (count_To.calls (⟨#[97, 10, 240, 159, 152, 128, 98]⟩ : ByteArray) 9 0 t247 t248 _ A5.out).mono ?_); rintro e w30 ⟨rfl, hb⟩; refine ⟨_, rfl, ?_⟩; have n0_ := Aside0.mk (below_step (by repeat (first | (with_reducible first | exact HB.out | apply below_alloc | apply pw_below_drewN | apply below_drew1) | exact HB.out)) hb); clear HB; have HB := n0_; clear n0_; (try clear hb); (try clear hb2); (try clear hk); (try clear hi)) | ((with_reducible refine gate_callee (f := 38) rfl ?_); refine goesL_ (some 38) rfl rfl Try.func38 (by kernel_rfl) rfl #[.string (⟨#[97, 10, 240, 159, 152, 128, 98]⟩ : ByteArray)] rfl (by (try simp only [List.map_toArray, List.map_cons, List.map_nil]); first | done | rfl | (simp only [List.length_drop, List.length_take]; rfl)) ?_; (with_reducible refine (count_Of.calls (⟨#[97, 10, 240, 159, 152, 128, 98]⟩ : ByteArray) t249 t250 t251 t252 _ A6.out).mono ?_); rintro e w31 ⟨rfl, hb⟩; refine ⟨_, rfl, ?_⟩; have n0_ := Aside0.mk (below_step (by repeat (first | (with_reducible first | exact HB.out | apply below_alloc | apply pw_below_drewN | apply below_drew1) | exact HB.out)) hb); clear HB; have HB := n0_; clear n0_; (try clear hb); (try clear hb2); (try clear hk); (try clear hi)))
       go_ret
       exact ⟨by first | rfl | (simp [errW_none, errW_some] <;> rfl) | (simp [*, errW_none, errW_some] <;> rfl), by repeat (first | (with_reducible first | exact HB.out | apply below_alloc | apply pw_below_drewN | apply below_drew1) | exact HB.out)⟩
     ·rw [if_neg c11] at H
      have c11b0 : (t244 == 0) = false := beq_eq_false_iff_ne.mpr c11
      have c11b1 : (t244 != 0) = true := bne_iff_ne.mpr c11
      obtain rfl := Option.some.inj H
      go_enter Try.func33, Try.ntmps33
      go_wp2_with (first | ((with_reducible refine gate_callee (f := 34) rfl ?_); refine goesL_ (some 14) rfl rfl Try.func34 (by kernel_rfl) rfl #[.string (⟨#[97, 10, 240, 159, 152, 128, 98]⟩ : ByteArray), .int .i64 2, .int .i64 4] rfl (by (try simp only [List.map_toArray, List.map_cons, List.map_nil]); first | done | rfl | (simp only [List.length_drop, List.length_take]; rfl)) ?_; (with_reducible refine (count_To.calls (⟨#[97, 10, 240, 159, 152, 128, 98]⟩ : ByteArray) 2 4 t239 t240 _ A1.out).mono ?_); rintro e w32 ⟨rfl, hb⟩; refine ⟨_, rfl, ?_⟩; have n0_ := Aside0.mk (below_step (by repeat (first | (with_reducible first | exact HB.out | apply below_alloc | apply pw_below_drewN | apply below_drew1) | exact HB.out)) hb); clear HB; have HB := n0_; clear n0_; (try clear hb); (try clear hb2); (try clear hk); (try clear hi)) | ((with_reducible refine gate_callee (f := 34) rfl ?_); refine goesL_ (some 19) rfl rfl Try.func34 (by kernel_rfl) rfl #[.string (⟨#[97, 10, 240, 159, 152, 128, 98]⟩ : ByteArray), .int .i64 2, .int .i64 3] rfl (by (try simp only [List.map_toArray, List.map_cons, List.map_nil]); first | done | rfl | (simp only [List.length_drop, List.length_take]; rfl)) ?_; (with_reducible refine (count_To.calls (⟨#[97, 10, 240, 159, 152, 128, 98]⟩ : ByteArray) 2 3 t241 t242 _ A2.out).mono ?_); rintro e w33 ⟨rfl, hb⟩; refine ⟨_, rfl, ?_⟩; have n0_ := Aside0.mk (below_step (by repeat (first | (with_reducible first | exact HB.out | apply below_alloc | apply pw_below_drewN | apply below_drew1) | exact HB.out)) hb); clear HB; have HB := n0_; clear n0_; (try clear hb); (try clear hb2); (try clear hk); (try clear hi)) | ((with_reducible refine gate_callee (f := 36) rfl ?_); refine goesL_ (some 24) rfl rfl Try.func36 (by kernel_rfl) rfl #[.string (⟨#[97, 10, 240, 159, 152, 128, 98]⟩ : ByteArray), .int .i64 3, .int .i64 2] rfl (by (try simp only [List.map_toArray, List.map_cons, List.map_nil]); first | done | rfl | (simp only [List.length_drop, List.length_take]; rfl)) ?_; (with_reducible refine (count_From.calls k (⟨#[97, 10, 240, 159, 152, 128, 98]⟩ : ByteArray) 3 2 t243 t244 _ A3.out).mono ?_); rintro e w34 ⟨rfl, hb⟩; refine ⟨_, rfl, ?_⟩; have n0_ := Aside0.mk (below_step (by repeat (first | (with_reducible first | exact HB.out | apply below_alloc | apply pw_below_drewN | apply below_drew1) | exact HB.out)) hb); clear HB; have HB := n0_; clear n0_; (try clear hb); (try clear hb2); (try clear hk); (try clear hi)) | ((with_reducible refine gate_callee (f := 36) rfl ?_); refine goesL_ (some 29) rfl rfl Try.func36 (by kernel_rfl) rfl #[.string (⟨#[97, 10, 240, 159, 152, 128, 98]⟩ : ByteArray), .int .i64 1, .int .i64 3] rfl (by (try simp only [List.map_toArray, List.map_cons, List.map_nil]); first | done | rfl | (simp only [List.length_drop, List.length_take]; rfl)) ?_; (with_reducible refine (count_From.calls k (⟨#[97, 10, 240, 159, 152, 128, 98]⟩ : ByteArray) 1 3 t245 t246 _ A4.out).mono ?_); rintro e w35 ⟨rfl, hb⟩; refine ⟨_, rfl, ?_⟩; have n0_ := Aside0.mk (below_step (by repeat (first | (with_reducible first | exact HB.out | apply below_alloc | apply pw_below_drewN | apply below_drew1) | exact HB.out)) hb); clear HB; have HB := n0_; clear n0_; (try clear hb); (try clear hb2); (try clear hk); (try clear hi)) | ((with_reducible refine gate_callee (f := 34) rfl ?_); refine goesL_ (some 34) rfl rfl Try.func34 (by kernel_rfl) rfl #[.string (⟨#[97, 10, 240, 159, 152, 128, 98]⟩ : ByteArray), .int .i64 9, .int .i64 0] rfl (by (try simp only [List.map_toArray, List.map_cons, List.map_nil]); first | done | rfl | (simp only [List.length_drop, List.length_take]; rfl)) ?_; (with_reducible refine (count_To.calls (⟨#[97, 10, 240, 159, 152, 128, 98]⟩ : ByteArray) 9 0 t247 t248 _ A5.out).mono ?_); rintro e w36 ⟨rfl, hb⟩; refine ⟨_, rfl, ?_⟩; have n0_ := Aside0.mk (below_step (by repeat (first | (with_reducible first | exact HB.out | apply below_alloc | apply pw_below_drewN | apply below_drew1) | exact HB.out)) hb); clear HB; have HB := n0_; clear n0_; (try clear hb); (try clear hb2); (try clear hk); (try clear hi)) | ((with_reducible refine gate_callee (f := 38) rfl ?_); refine goesL_ (some 38) rfl rfl Try.func38 (by kernel_rfl) rfl #[.string (⟨#[97, 10, 240, 159, 152, 128, 98]⟩ : ByteArray)] rfl (by (try simp only [List.map_toArray, List.map_cons, List.map_nil]); first | done | rfl | (simp only [List.length_drop, List.length_take]; rfl)) ?_; (with_reducible refine (count_Of.calls (⟨#[97, 10, 240, 159, 152, 128, 98]⟩ : ByteArray) t249 t250 t251 t252 _ A6.out).mono ?_); rintro e w37 ⟨rfl, hb⟩; refine ⟨_, rfl, ?_⟩; have n0_ := Aside0.mk (below_step (by repeat (first | (with_reducible first | exact HB.out | apply below_alloc | apply pw_below_drewN | apply below_drew1) | exact HB.out)) hb); clear HB; have HB := n0_; clear n0_; (try clear hb); (try clear hb2); (try clear hk); (try clear hi)))
      go_ret
      exact ⟨by first | rfl | (simp [errW_none, errW_some] <;> rfl) | (simp [*, errW_none, errW_some] <;> rfl), by repeat (first | (with_reducible first | exact HB.out | apply below_alloc | apply pw_below_drewN | apply below_drew1) | exact HB.out)⟩
    ·rw [if_neg c10] at H
     have c10b0 : (t242 == 50) = false := beq_eq_false_iff_ne.mpr c10
     have c10b1 : (t242 != 50) = true := bne_iff_ne.mpr c10
     obtain rfl := Option.some.inj H
     go_enter Try.func33, Try.ntmps33
     go_wp2_with (first | ((with_reducible refine gate_callee (f := 34) rfl ?_); refine goesL_ (some 14) rfl rfl Try.func34 (by kernel_rfl) rfl #[.string (⟨#[97, 10, 240, 159, 152, 128, 98]⟩ : ByteArray), .int .i64 2, .int .i64 4] rfl (by (try simp only [List.map_toArray, List.map_cons, List.map_nil]); first | done | rfl | (simp only [List.length_drop, List.length_take]; rfl)) ?_; (with_reducible refine (count_To.calls (⟨#[97, 10, 240, 159, 152, 128, 98]⟩ : ByteArray) 2 4 t239 t240 _ A1.out).mono ?_); rintro e w38 ⟨rfl, hb⟩; refine ⟨_, rfl, ?_⟩; have n0_ := Aside0.mk (below_step (by repeat (first | (with_reducible first | exact HB.out | apply below_alloc | apply pw_below_drewN | apply below_drew1) | exact HB.out)) hb); clear HB; have HB := n0_; clear n0_; (try clear hb); (try clear hb2); (try clear hk); (try clear hi)) | ((with_reducible refine gate_callee (f := 34) rfl ?_); refine goesL_ (some 19) rfl rfl Try.func34 (by kernel_rfl) rfl #[.string (⟨#[97, 10, 240, 159, 152, 128, 98]⟩ : ByteArray), .int .i64 2, .int .i64 3] rfl (by (try simp only [List.map_toArray, List.map_cons, List.map_nil]); first | done | rfl | (simp only [List.length_drop, List.length_take]; rfl)) ?_; (with_reducible refine (count_To.calls (⟨#[97, 10, 240, 159, 152, 128, 98]⟩ : ByteArray) 2 3 t241 t242 _ A2.out).mono ?_); rintro e w39 ⟨rfl, hb⟩; refine ⟨_, rfl, ?_⟩; have n0_ := Aside0.mk (below_step (by repeat (first | (with_reducible first | exact HB.out | apply below_alloc | apply pw_below_drewN | apply below_drew1) | exact HB.out)) hb); clear HB; have HB := n0_; clear n0_; (try clear hb); (try clear hb2); (try clear hk); (try clear hi)) | ((with_reducible refine gate_callee (f := 36) rfl ?_); refine goesL_ (some 24) rfl rfl Try.func36 (by kernel_rfl) rfl #[.string (⟨#[97, 10, 240, 159, 152, 128, 98]⟩ : ByteArray), .int .i64 3, .int .i64 2] rfl (by (try simp only [List.map_toArray, List.map_cons, List.map_nil]); first | done | rfl | (simp only [List.length_drop, List.length_take]; rfl)) ?_; (with_reducible refine (count_From.calls k (⟨#[97, 10, 240, 159, 152, 128, 98]⟩ : ByteArray) 3 2 t243 t244 _ A3.out).mono ?_); rintro e w40 ⟨rfl, hb⟩; refine ⟨_, rfl, ?_⟩; have n0_ := Aside0.mk (below_step (by repeat (first | (with_reducible first | exact HB.out | apply below_alloc | apply pw_below_drewN | apply below_drew1) | exact HB.out)) hb); clear HB; have HB := n0_; clear n0_; (try clear hb); (try clear hb2); (try clear hk); (try clear hi)) | ((with_reducible refine gate_callee (f := 36) rfl ?_); refine goesL_ (some 29) rfl rfl Try.func36 (by kernel_rfl) rfl #[.string (⟨#[97, 10, 240, 159, 152, 128, 98]⟩ : ByteArray), .int .i64 1, .int .i64 3] rfl (by (try simp only [List.map_toArray, List.map_cons, List.map_nil]); first | done | rfl | (simp only [List.length_drop, List.length_take]; rfl)) ?_; (with_reducible refine (count_From.calls k (⟨#[97, 10, 240, 159, 152, 128, 98]⟩ : ByteArray) 1 3 t245 t246 _ A4.out).mono ?_); rintro e w41 ⟨rfl, hb⟩; refine ⟨_, rfl, ?_⟩; have n0_ := Aside0.mk (below_step (by repeat (first | (with_reducible first | exact HB.out | apply below_alloc | apply pw_below_drewN | apply below_drew1) | exact HB.out)) hb); clear HB; have HB := n0_; clear n0_; (try clear hb); (try clear hb2); (try clear hk); (try clear hi)) | ((with_reducible refine gate_callee (f := 34) rfl ?_); refine goesL_ (some 34) rfl rfl Try.func34 (by kernel_rfl) rfl #[.string (⟨#[97, 10, 240, 159, 152, 128, 98]⟩ : ByteArray), .int .i64 9, .int .i64 0] rfl (by (try simp only [List.map_toArray, List.map_cons, List.map_nil]); first | done | rfl | (simp only [List.length_drop, List.length_take]; rfl)) ?_; (with_reducible refine (count_To.calls (⟨#[97, 10, 240, 159, 152, 128, 98]⟩ : ByteArray) 9 0 t247 t248 _ A5.out).mono ?_); rintro e w42 ⟨rfl, hb⟩; refine ⟨_, rfl, ?_⟩; have n0_ := Aside0.mk (below_step (by repeat (first | (with_reducible first | exact HB.out | apply below_alloc | apply pw_below_drewN | apply below_drew1) | exact HB.out)) hb); clear HB; have HB := n0_; clear n0_; (try clear hb); (try clear hb2); (try clear hk); (try clear hi)) | ((with_reducible refine gate_callee (f := 38) rfl ?_); refine goesL_ (some 38) rfl rfl Try.func38 (by kernel_rfl) rfl #[.string (⟨#[97, 10, 240, 159, 152, 128, 98]⟩ : ByteArray)] rfl (by (try simp only [List.map_toArray, List.map_cons, List.map_nil]); first | done | rfl | (simp only [List.length_drop, List.length_take]; rfl)) ?_; (with_reducible refine (count_Of.calls (⟨#[97, 10, 240, 159, 152, 128, 98]⟩ : ByteArray) t249 t250 t251 t252 _ A6.out).mono ?_); rintro e w43 ⟨rfl, hb⟩; refine ⟨_, rfl, ?_⟩; have n0_ := Aside0.mk (below_step (by repeat (first | (with_reducible first | exact HB.out | apply below_alloc | apply pw_below_drewN | apply below_drew1) | exact HB.out)) hb); clear HB; have HB := n0_; clear n0_; (try clear hb); (try clear hb2); (try clear hk); (try clear hi)))
     go_ret
     exact ⟨by first | rfl | (simp [errW_none, errW_some] <;> rfl) | (simp [*, errW_none, errW_some] <;> rfl), by repeat (first | (with_reducible first | exact HB.out | apply below_alloc | apply pw_below_drewN | apply below_drew1) | exact HB.out)⟩
   ·rw [if_neg c9] at H
    have c9b0 : (t239 == 6) = false := beq_eq_false_iff_ne.mpr c9
    have c9b1 : (t239 != 6) = true := bne_iff_ne.mpr c9
    obtain rfl := Option.some.inj H
    go_enter Try.func33, Try.ntmps33
    go_wp2_with (first | ((with_reducible refine gate_callee (f := 34) rfl ?_); refine goesL_ (some 14) rfl rfl Try.func34 (by kernel_rfl) rfl #[.string (⟨#[97, 10, 240, 159, 152, 128, 98]⟩ : ByteArray), .int .i64 2, .int .i64 4] rfl (by (try simp only [List.map_toArray, List.map_cons, List.map_nil]); first | done | rfl | (simp only [List.length_drop, List.length_take]; rfl)) ?_; (with_reducible refine (count_To.calls (⟨#[97, 10, 240, 159, 152, 128, 98]⟩ : ByteArray) 2 4 t239 t240 _ A1.out).mono ?_); rintro e w44 ⟨rfl, hb⟩; refine ⟨_, rfl, ?_⟩; have n0_ := Aside0.mk (below_step (by repeat (first | (with_reducible first | exact HB.out | apply below_alloc | apply pw_below_drewN | apply below_drew1) | exact HB.out)) hb); clear HB; have HB := n0_; clear n0_; (try clear hb); (try clear hb2); (try clear hk); (try clear hi)) | ((with_reducible refine gate_callee (f := 34) rfl ?_); refine goesL_ (some 19) rfl rfl Try.func34 (by kernel_rfl) rfl #[.string (⟨#[97, 10, 240, 159, 152, 128, 98]⟩ : ByteArray), .int .i64 2, .int .i64 3] rfl (by (try simp only [List.map_toArray, List.map_cons, List.map_nil]); first | done | rfl | (simp only [List.length_drop, List.length_take]; rfl)) ?_; (with_reducible refine (count_To.calls (⟨#[97, 10, 240, 159, 152, 128, 98]⟩ : ByteArray) 2 3 t241 t242 _ A2.out).mono ?_); rintro e w45 ⟨rfl, hb⟩; refine ⟨_, rfl, ?_⟩; have n0_ := Aside0.mk (below_step (by repeat (first | (with_reducible first | exact HB.out | apply below_alloc | apply pw_below_drewN | apply below_drew1) | exact HB.out)) hb); clear HB; have HB := n0_; clear n0_; (try clear hb); (try clear hb2); (try clear hk); (try clear hi)) | ((with_reducible refine gate_callee (f := 36) rfl ?_); refine goesL_ (some 24) rfl rfl Try.func36 (by kernel_rfl) rfl #[.string (⟨#[97, 10, 240, 159, 152, 128, 98]⟩ : ByteArray), .int .i64 3, .int .i64 2] rfl (by (try simp only [List.map_toArray, List.map_cons, List.map_nil]); first | done | rfl | (simp only [List.length_drop, List.length_take]; rfl)) ?_; (with_reducible refine (count_From.calls k (⟨#[97, 10, 240, 159, 152, 128, 98]⟩ : ByteArray) 3 2 t243 t244 _ A3.out).mono ?_); rintro e w46 ⟨rfl, hb⟩; refine ⟨_, rfl, ?_⟩; have n0_ := Aside0.mk (below_step (by repeat (first | (with_reducible first | exact HB.out | apply below_alloc | apply pw_below_drewN | apply below_drew1) | exact HB.out)) hb); clear HB; have HB := n0_; clear n0_; (try clear hb); (try clear hb2); (try clear hk); (try clear hi)) | ((with_reducible refine gate_callee (f := 36) rfl ?_); refine goesL_ (some 29) rfl rfl Try.func36 (by kernel_rfl) rfl #[.string (⟨#[97, 10, 240, 159, 152, 128, 98]⟩ : ByteArray), .int .i64 1, .int .i64 3] rfl (by (try simp only [List.map_toArray, List.map_cons, List.map_nil]); first | done | rfl | (simp only [List.length_drop, List.length_take]; rfl)) ?_; (with_reducible refine (count_From.calls k (⟨#[97, 10, 240, 159, 152, 128, 98]⟩ : ByteArray) 1 3 t245 t246 _ A4.out).mono ?_); rintro e w47 ⟨rfl, hb⟩; refine ⟨_, rfl, ?_⟩; have n0_ := Aside0.mk (below_step (by repeat (first | (with_reducible first | exact HB.out | apply below_alloc | apply pw_below_drewN | apply below_drew1) | exact HB.out)) hb); clear HB; have HB := n0_; clear n0_; (try clear hb); (try clear hb2); (try clear hk); (try clear hi)) | ((with_reducible refine gate_callee (f := 34) rfl ?_); refine goesL_ (some 34) rfl rfl Try.func34 (by kernel_rfl) rfl #[.string (⟨#[97, 10, 240, 159, 152, 128, 98]⟩ : ByteArray), .int .i64 9, .int .i64 0] rfl (by (try simp only [List.map_toArray, List.map_cons, List.map_nil]); first | done | rfl | (simp only [List.length_drop, List.length_take]; rfl)) ?_; (with_reducible refine (count_To.calls (⟨#[97, 10, 240, 159, 152, 128, 98]⟩ : ByteArray) 9 0 t247 t248 _ A5.out).mono ?_); rintro e w48 ⟨rfl, hb⟩; refine ⟨_, rfl, ?_⟩; have n0_ := Aside0.mk (below_step (by repeat (first | (with_reducible first | exact HB.out | apply below_alloc | apply pw_below_drewN | apply below_drew1) | exact HB.out)) hb); clear HB; have HB := n0_; clear n0_; (try clear hb); (try clear hb2); (try clear hk); (try clear hi)) | ((with_reducible refine gate_callee (f := 38) rfl ?_); refine goesL_ (some 38) rfl rfl Try.func38 (by kernel_rfl) rfl #[.string (⟨#[97, 10, 240, 159, 152, 128, 98]⟩ : ByteArray)] rfl (by (try simp only [List.map_toArray, List.map_cons, List.map_nil]); first | done | rfl | (simp only [List.length_drop, List.length_take]; rfl)) ?_; (with_reducible refine (count_Of.calls (⟨#[97, 10, 240, 159, 152, 128, 98]⟩ : ByteArray) t249 t250 t251 t252 _ A6.out).mono ?_); rintro e w49 ⟨rfl, hb⟩; refine ⟨_, rfl, ?_⟩; have n0_ := Aside0.mk (below_step (by repeat (first | (with_reducible first | exact HB.out | apply below_alloc | apply pw_below_drewN | apply below_drew1) | exact HB.out)) hb); clear HB; have HB := n0_; clear n0_; (try clear hb); (try clear hb2); (try clear hk); (try clear hi)))
    go_ret
    exact ⟨by first | rfl | (simp [errW_none, errW_some] <;> rfl) | (simp [*, errW_none, errW_some] <;> rfl), by repeat (first | (with_reducible first | exact HB.out | apply below_alloc | apply pw_below_drewN | apply below_drew1) | exact HB.out)⟩
  ·rw [if_neg c8] at H
   have c8b0 : (t240 == 0) = false := beq_eq_false_iff_ne.mpr c8
   have c8b1 : (t240 != 0) = true := bne_iff_ne.mpr c8
   obtain rfl := Option.some.inj H
   go_enter Try.func33, Try.ntmps33
   go_wp2_with (first | ((with_reducible refine gate_callee (f := 34) rfl ?_); refine goesL_ (some 14) rfl rfl Try.func34 (by kernel_rfl) rfl #[.string (⟨#[97, 10, 240, 159, 152, 128, 98]⟩ : ByteArray), .int .i64 2, .int .i64 4] rfl (by (try simp only [List.map_toArray, List.map_cons, List.map_nil]); first | done | rfl | (simp only [List.length_drop, List.length_take]; rfl)) ?_; (with_reducible refine (count_To.calls (⟨#[97, 10, 240, 159, 152, 128, 98]⟩ : ByteArray) 2 4 t239 t240 _ A1.out).mono ?_); rintro e w50 ⟨rfl, hb⟩; refine ⟨_, rfl, ?_⟩; have n0_ := Aside0.mk (below_step (by repeat (first | (with_reducible first | exact HB.out | apply below_alloc | apply pw_below_drewN | apply below_drew1) | exact HB.out)) hb); clear HB; have HB := n0_; clear n0_; (try clear hb); (try clear hb2); (try clear hk); (try clear hi)) | ((with_reducible refine gate_callee (f := 34) rfl ?_); refine goesL_ (some 19) rfl rfl Try.func34 (by kernel_rfl) rfl #[.string (⟨#[97, 10, 240, 159, 152, 128, 98]⟩ : ByteArray), .int .i64 2, .int .i64 3] rfl (by (try simp only [List.map_toArray, List.map_cons, List.map_nil]); first | done | rfl | (simp only [List.length_drop, List.length_take]; rfl)) ?_; (with_reducible refine (count_To.calls (⟨#[97, 10, 240, 159, 152, 128, 98]⟩ : ByteArray) 2 3 t241 t242 _ A2.out).mono ?_); rintro e w51 ⟨rfl, hb⟩; refine ⟨_, rfl, ?_⟩; have n0_ := Aside0.mk (below_step (by repeat (first | (with_reducible first | exact HB.out | apply below_alloc | apply pw_below_drewN | apply below_drew1) | exact HB.out)) hb); clear HB; have HB := n0_; clear n0_; (try clear hb); (try clear hb2); (try clear hk); (try clear hi)) | ((with_reducible refine gate_callee (f := 36) rfl ?_); refine goesL_ (some 24) rfl rfl Try.func36 (by kernel_rfl) rfl #[.string (⟨#[97, 10, 240, 159, 152, 128, 98]⟩ : ByteArray), .int .i64 3, .int .i64 2] rfl (by (try simp only [List.map_toArray, List.map_cons, List.map_nil]); first | done | rfl | (simp only [List.length_drop, List.length_take]; rfl)) ?_; (with_reducible refine (count_From.calls k (⟨#[97, 10, 240, 159, 152, 128, 98]⟩ : ByteArray) 3 2 t243 t244 _ A3.out).mono ?_); rintro e w52 ⟨rfl, hb⟩; refine ⟨_, rfl, ?_⟩; have n0_ := Aside0.mk (below_step (by repeat (first | (with_reducible first | exact HB.out | apply below_alloc | apply pw_below_drewN | apply below_drew1) | exact HB.out)) hb); clear HB; have HB := n0_; clear n0_; (try clear hb); (try clear hb2); (try clear hk); (try clear hi)) | ((with_reducible refine gate_callee (f := 36) rfl ?_); refine goesL_ (some 29) rfl rfl Try.func36 (by kernel_rfl) rfl #[.string (⟨#[97, 10, 240, 159, 152, 128, 98]⟩ : ByteArray), .int .i64 1, .int .i64 3] rfl (by (try simp only [List.map_toArray, List.map_cons, List.map_nil]); first | done | rfl | (simp only [List.length_drop, List.length_take]; rfl)) ?_; (with_reducible refine (count_From.calls k (⟨#[97, 10, 240, 159, 152, 128, 98]⟩ : ByteArray) 1 3 t245 t246 _ A4.out).mono ?_); rintro e w53 ⟨rfl, hb⟩; refine ⟨_, rfl, ?_⟩; have n0_ := Aside0.mk (below_step (by repeat (first | (with_reducible first | exact HB.out | apply below_alloc | apply pw_below_drewN | apply below_drew1) | exact HB.out)) hb); clear HB; have HB := n0_; clear n0_; (try clear hb); (try clear hb2); (try clear hk); (try clear hi)) | ((with_reducible refine gate_callee (f := 34) rfl ?_); refine goesL_ (some 34) rfl rfl Try.func34 (by kernel_rfl) rfl #[.string (⟨#[97, 10, 240, 159, 152, 128, 98]⟩ : ByteArray), .int .i64 9, .int .i64 0] rfl (by (try simp only [List.map_toArray, List.map_cons, List.map_nil]); first | done | rfl | (simp only [List.length_drop, List.length_take]; rfl)) ?_; (with_reducible refine (count_To.calls (⟨#[97, 10, 240, 159, 152, 128, 98]⟩ : ByteArray) 9 0 t247 t248 _ A5.out).mono ?_); rintro e w54 ⟨rfl, hb⟩; refine ⟨_, rfl, ?_⟩; have n0_ := Aside0.mk (below_step (by repeat (first | (with_reducible first | exact HB.out | apply below_alloc | apply pw_below_drewN | apply below_drew1) | exact HB.out)) hb); clear HB; have HB := n0_; clear n0_; (try clear hb); (try clear hb2); (try clear hk); (try clear hi)) | ((with_reducible refine gate_callee (f := 38) rfl ?_); refine goesL_ (some 38) rfl rfl Try.func38 (by kernel_rfl) rfl #[.string (⟨#[97, 10, 240, 159, 152, 128, 98]⟩ : ByteArray)] rfl (by (try simp only [List.map_toArray, List.map_cons, List.map_nil]); first | done | rfl | (simp only [List.length_drop, List.length_take]; rfl)) ?_; (with_reducible refine (count_Of.calls (⟨#[97, 10, 240, 159, 152, 128, 98]⟩ : ByteArray) t249 t250 t251 t252 _ A6.out).mono ?_); rintro e w55 ⟨rfl, hb⟩; refine ⟨_, rfl, ?_⟩; have n0_ := Aside0.mk (below_step (by repeat (first | (with_reducible first | exact HB.out | apply below_alloc | apply pw_below_drewN | apply below_drew1) | exact HB.out)) hb); clear HB; have HB := n0_; clear n0_; (try clear hb); (try clear hb2); (try clear hk); (try clear hi)))
   go_ret
   exact ⟨by first | rfl | (simp [errW_none, errW_some] <;> rfl) | (simp [*, errW_none, errW_some] <;> rfl), by repeat (first | (with_reducible first | exact HB.out | apply below_alloc | apply pw_below_drewN | apply below_drew1) | exact HB.out)⟩
 ·rw [if_neg c7] at H
  have c7b0 : (t249 == 7 && (t250 == 4 && (t251 == 5 && (t252 == 1)))) = false := by simpa using c7
  (try (have c7b1 : decide (t249 = 7 && (t250 == 4 && (t251 == 5 && (t252 == 1)))) = false := by simpa using c7))
  (try (have c7b2 : (t249 == 7 && (t250 == 4 && (t251 == 5 && (t252 == 1)))) = false := by simpa using c7))
  (try (have c7b3 : ¬ (t249 = 7 && (t250 == 4 && (t251 == 5 && (t252 == 1)))) := by simpa using c7))
  clear c7
  obtain rfl := Option.some.inj H
  go_enter Try.func33, Try.ntmps33
  go_wp2_with (first | ((with_reducible refine gate_callee (f := 34) rfl ?_); refine goesL_ (some 14) rfl rfl Try.func34 (by kernel_rfl) rfl #[.string (⟨#[97, 10, 240, 159, 152, 128, 98]⟩ : ByteArray), .int .i64 2, .int .i64 4] rfl (by (try simp only [List.map_toArray, List.map_cons, List.map_nil]); first | done | rfl | (simp only [List.length_drop, List.length_take]; rfl)) ?_; (with_reducible refine (count_To.calls (⟨#[97, 10, 240, 159, 152, 128, 98]⟩ : ByteArray) 2 4 t239 t240 _ A1.out).mono ?_); rintro e w56 ⟨rfl, hb⟩; refine ⟨_, rfl, ?_⟩; have n0_ := Aside0.mk (below_step (by repeat (first | (with_reducible first | exact HB.out | apply below_alloc | apply pw_below_drewN | apply below_drew1) | exact HB.out)) hb); clear HB; have HB := n0_; clear n0_; (try clear hb); (try clear hb2); (try clear hk); (try clear hi)) | ((with_reducible refine gate_callee (f := 34) rfl ?_); refine goesL_ (some 19) rfl rfl Try.func34 (by kernel_rfl) rfl #[.string (⟨#[97, 10, 240, 159, 152, 128, 98]⟩ : ByteArray), .int .i64 2, .int .i64 3] rfl (by (try simp only [List.map_toArray, List.map_cons, List.map_nil]); first | done | rfl | (simp only [List.length_drop, List.length_take]; rfl)) ?_; (with_reducible refine (count_To.calls (⟨#[97, 10, 240, 159, 152, 128, 98]⟩ : ByteArray) 2 3 t241 t242 _ A2.out).mono ?_); rintro e w57 ⟨rfl, hb⟩; refine ⟨_, rfl, ?_⟩; have n0_ := Aside0.mk (below_step (by repeat (first | (with_reducible first | exact HB.out | apply below_alloc | apply pw_below_drewN | apply below_drew1) | exact HB.out)) hb); clear HB; have HB := n0_; clear n0_; (try clear hb); (try clear hb2); (try clear hk); (try clear hi)) | ((with_reducible refine gate_callee (f := 36) rfl ?_); refine goesL_ (some 24) rfl rfl Try.func36 (by kernel_rfl) rfl #[.string (⟨#[97, 10, 240, 159, 152, 128, 98]⟩ : ByteArray), .int .i64 3, .int .i64 2] rfl (by (try simp only [List.map_toArray, List.map_cons, List.map_nil]); first | done | rfl | (simp only [List.length_drop, List.length_take]; rfl)) ?_; (with_reducible refine (count_From.calls k (⟨#[97, 10, 240, 159, 152, 128, 98]⟩ : ByteArray) 3 2 t243 t244 _ A3.out).mono ?_); rintro e w58 ⟨rfl, hb⟩; refine ⟨_, rfl, ?_⟩; have n0_ := Aside0.mk (below_step (by repeat (first | (with_reducible first | exact HB.out | apply below_alloc | apply pw_below_drewN | apply below_drew1) | exact HB.out)) hb); clear HB; have HB := n0_; clear n0_; (try clear hb); (try clear hb2); (try clear hk); (try clear hi)) | ((with_reducible refine gate_callee (f := 36) rfl ?_); refine goesL_ (some 29) rfl rfl Try.func36 (by kernel_rfl) rfl #[.string (⟨#[97, 10, 240, 159, 152, 128, 98]⟩ : ByteArray), .int .i64 1, .int .i64 3] rfl (by (try simp only [List.map_toArray, List.map_cons, List.map_nil]); first | done | rfl | (simp only [List.length_drop, List.length_take]; rfl)) ?_; (with_reducible refine (count_From.calls k (⟨#[97, 10, 240, 159, 152, 128, 98]⟩ : ByteArray) 1 3 t245 t246 _ A4.out).mono ?_); rintro e w59 ⟨rfl, hb⟩; refine ⟨_, rfl, ?_⟩; have n0_ := Aside0.mk (below_step (by repeat (first | (with_reducible first | exact HB.out | apply below_alloc | apply pw_below_drewN | apply below_drew1) | exact HB.out)) hb); clear HB; have HB := n0_; clear n0_; (try clear hb); (try clear hb2); (try clear hk); (try clear hi)) | ((with_reducible refine gate_callee (f := 34) rfl ?_); refine goesL_ (some 34) rfl rfl Try.func34 (by kernel_rfl) rfl #[.string (⟨#[97, 10, 240, 159, 152, 128, 98]⟩ : ByteArray), .int .i64 9, .int .i64 0] rfl (by (try simp only [List.map_toArray, List.map_cons, List.map_nil]); first | done | rfl | (simp only [List.length_drop, List.length_take]; rfl)) ?_; (with_reducible refine (count_To.calls (⟨#[97, 10, 240, 159, 152, 128, 98]⟩ : ByteArray) 9 0 t247 t248 _ A5.out).mono ?_); rintro e w60 ⟨rfl, hb⟩; refine ⟨_, rfl, ?_⟩; have n0_ := Aside0.mk (below_step (by repeat (first | (with_reducible first | exact HB.out | apply below_alloc | apply pw_below_drewN | apply below_drew1) | exact HB.out)) hb); clear HB; have HB := n0_; clear n0_; (try clear hb); (try clear hb2); (try clear hk); (try clear hi)) | ((with_reducible refine gate_callee (f := 38) rfl ?_); refine goesL_ (some 38) rfl rfl Try.func38 (by kernel_rfl) rfl #[.string (⟨#[97, 10, 240, 159, 152, 128, 98]⟩ : ByteArray)] rfl (by (try simp only [List.map_toArray, List.map_cons, List.map_nil]); first | done | rfl | (simp only [List.length_drop, List.length_take]; rfl)) ?_; (with_reducible refine (count_Of.calls (⟨#[97, 10, 240, 159, 152, 128, 98]⟩ : ByteArray) t249 t250 t251 t252 _ A6.out).mono ?_); rintro e w61 ⟨rfl, hb⟩; refine ⟨_, rfl, ?_⟩; have n0_ := Aside0.mk (below_step (by repeat (first | (with_reducible first | exact HB.out | apply below_alloc | apply pw_below_drewN | apply below_drew1) | exact HB.out)) hb); clear HB; have HB := n0_; clear n0_; (try clear hb); (try clear hb2); (try clear hk); (try clear hi)))
  go_ret
  exact ⟨by first | rfl | (simp [errW_none, errW_some] <;> rfl) | (simp [*, errW_none, errW_some] <;> rfl), by repeat (first | (with_reducible first | exact HB.out | apply below_alloc | apply pw_below_drewN | apply below_drew1) | exact HB.out)⟩

/-! ### palinoderef2_Plus: function 41 -/
def palinoderef2_Plus.f (a0_0 : Int) (a0_1 : Int) (a0_2 : Int) (a0_3 : Int) (a1_0 : Int) (a1_1 : Int) (a1_2 : Int) (a1_3 : Int) : Option (Int × Int × Int × Int) := some (wrap64 (a0_0 + a1_0), wrap64 (a0_1 + a1_1), wrap64 (a0_2 + a1_2), wrap64 (a0_3 + a1_3))
set_option maxHeartbeats 8000000 in
set_option maxRecDepth 100000 in
theorem palinoderef2_Plus.calls (a0_0 : Int) (a0_1 : Int) (a0_2 : Int) (a0_3 : Int) (a1_0 : Int) (a1_1 : Int) (a1_2 : Int) (a1_3 : Int) (r1 : Int) (r2 : Int) (r3 : Int) (r4 : Int) (w : World) (h : palinoderef2_Plus.f a0_0 a0_1 a0_2 a0_3 a1_0 a1_1 a1_2 a1_3 = some (r1, r2, r3, r4)) :
  Calls Try.prog 41 #[.agg #[.int .i64 a0_0, .int .i64 a0_1, .int .i64 a0_2, .int .i64 a0_3], .agg #[.int .i64 a1_0, .int .i64 a1_1, .int .i64 a1_2, .int .i64 a1_3]] w fun e w' => e = .returned (.agg #[.int .i64 r1, .int .i64 r2, .int .i64 r3, .int .i64 r4]) ∧ Below w.heap.size w w' := by
 have hu44 := Try.underlying44
 have HB := Aside0.mk (Below.refl w.heap.size w)
 have H : (some (wrap64 (a0_0 + a1_0), wrap64 (a0_1 + a1_1), wrap64 (a0_2 + a1_2), wrap64 (a0_3 + a1_3))) = some (r1, r2, r3, r4) := h
 clear h
 simp only [Option.some.injEq, Prod.mk.injEq] at H
 obtain ⟨rfl, rfl, rfl, rfl⟩ := H
 go_enter Try.func41, Try.ntmps41
 go_wp2_with (first | ((with_reducible refine gate_dst (N := 2) rfl ?_); refine box_event ?hg (N := 2) ?hd (cs := #[.int .i64 a0_0, .int .i64 a0_1, .int .i64 a0_2, .int .i64 a0_3]) (t := 44) ?hr ?_; (case hd => rfl); (case hg => rfl); (case hr => first | (go_simp; done) | (go_simp; rfl)); intro gb253 hg w3 hbox hb; have n0_ := Aside0.mk (below_step (by repeat (first | (with_reducible first | exact HB.out | apply below_alloc | apply pw_below_drewN | apply below_drew1) | exact HB.out)) hb); have n1_ := Aside0.mk (hbox); have n2_ := Aside0.mk ((by rw [hg]; exact (below_size (by repeat (first | (with_reducible first | exact HB.out | apply below_alloc | apply pw_below_drewN | apply below_drew1) | exact HB.out))) : w.heap.size ≤ gb253)); have n3_ := Aside0.mk ((by rw [hg]; exact (below_size (by repeat (first | (with_reducible first | exact HB.out | apply below_alloc | apply pw_below_drewN | apply below_drew1) | exact HB.out))) : w.heap.size ≤ gb253)); clear HB; have HB := n0_; have BK253 := n1_; have GW253 := n2_; have GE253 := n3_; clear n0_ n1_ n2_ n3_; clear hb hbox hg) | ((with_reducible refine gate_dst (N := 3) rfl ?_); refine box_event ?hg (N := 3) ?hd (cs := #[.int .i64 a1_0, .int .i64 a1_1, .int .i64 a1_2, .int .i64 a1_3]) (t := 44) ?hr ?_; (case hd => rfl); (case hg => rfl); (case hr => first | (go_simp; done) | (go_simp; rfl)); intro gb254 hg w4 hbox hb; have n0_ := Aside0.mk (blk_below (g := gb253) (o := .cells #[.int .i64 a0_0, .int .i64 a0_1, .int .i64 a0_2, .int .i64 a0_3] 44 (0, 0)) (by (with_reducible repeat (first | refine blk_drewN ?_ _ | refine blk_drew ?_ | refine blk_alloc ?_ _)); exact BK253.out) hb); have n1_ := Aside0.mk (below_step (by repeat (first | (with_reducible first | exact HB.out | apply below_alloc | apply pw_below_drewN | apply below_drew1 | refine below_set ?_ GE253.out) | exact HB.out)) hb); have n2_ := Aside0.mk (hbox); have n3_ := Aside0.mk ((by rw [hg]; exact (below_size (by repeat (first | (with_reducible first | exact HB.out | apply below_alloc | apply pw_below_drewN | apply below_drew1 | refine below_set ?_ GE253.out) | exact HB.out))) : w.heap.size ≤ gb254)); have n4_ := Aside0.mk ((by rw [hg]; exact (below_size (by repeat (first | (with_reducible first | exact HB.out | apply below_alloc | apply pw_below_drewN | apply below_drew1 | refine below_set ?_ GE253.out) | exact HB.out))) : w.heap.size ≤ gb254)); have n5_ := Aside0.mk ((by rw [hg]; exact Nat.ne_of_lt (blk_lt (g := gb253) (o := .cells #[.int .i64 a0_0, .int .i64 a0_1, .int .i64 a0_2, .int .i64 a0_3] 44 (0, 0)) (by (with_reducible repeat (first | refine blk_drewN ?_ _ | refine blk_drew ?_ | refine blk_alloc ?_ _)); exact BK253.out)) : gb253 ≠ gb254)); have n6_ := Aside0.mk ((by rw [hg]; exact Nat.ne_of_gt (blk_lt (g := gb253) (o := .cells #[.int .i64 a0_0, .int .i64 a0_1, .int .i64 a0_2, .int .i64 a0_3] 44 (0, 0)) (by (with_reducible repeat (first | refine blk_drewN ?_ _ | refine blk_drew ?_ | refine blk_alloc ?_ _)); exact BK253.out)) : gb254 ≠ gb253)); clear BK253; clear HB; have BK253 := n0_; have HB := n1_; have BK254 := n2_; have GW254 := n3_; have GE254 := n4_; have NB253_254 := n5_; have NB254_253 := n6_; clear n0_ n1_ n2_ n3_ n4_ n5_ n6_; clear hb hbox hg) | ((with_reducible refine gate_dst (N := 4) rfl ?_); refine box_event ?hg (N := 4) ?hd (cs := #[.int .i64 0, .int .i64 0, .int .i64 0, .int .i64 0]) (t := 44) ?hr ?_; (case hd => rfl); (case hg => rfl); (case hr => first | (go_simp; done) | (go_simp; rfl)); intro gb255 hg w5 hbox hb; have n0_ := Aside0.mk (blk_below (g := gb253) (o := .cells #[.int .i64 a0_0, .int .i64 a0_1, .int .i64 a0_2, .int .i64 a0_3] 44 (0, 0)) (by (with_reducible repeat (first | refine blk_drewN ?_ _ | refine blk_drew ?_ | refine blk_alloc ?_ _)); exact BK253.out) hb); have n1_ := Aside0.mk (blk_below (g := gb254) (o := .cells #[.int .i64 a1_0, .int .i64 a1_1, .int .i64 a1_2, .int .i64 a1_3] 44 (0, 0)) (by (with_reducible repeat (first | refine blk_drewN ?_ _ | refine blk_drew ?_ | refine blk_alloc ?_ _)); exact BK254.out) hb); have n2_ := Aside0.mk (below_step (by repeat (first | (with_reducible first | exact HB.out | apply below_alloc | apply pw_below_drewN | apply below_drew1 | refine below_set ?_ GE253.out | refine below_set ?_ GE254.out) | exact HB.out)) hb); have n3_ := Aside0.mk (hbox); have n4_ := Aside0.mk ((by rw [hg]; exact (below_size (by repeat (first | (with_reducible first | exact HB.out | apply below_alloc | apply pw_below_drewN | apply below_drew1 | refine below_set ?_ GE253.out | refine below_set ?_ GE254.out) | exact HB.out))) : w.heap.size ≤ gb255)); have n5_ := Aside0.mk ((by rw [hg]; exact (below_size (by repeat (first | (with_reducible first | exact HB.out | apply below_alloc | apply pw_below_drewN | apply below_drew1 | refine below_set ?_ GE253.out | refine below_set ?_ GE254.out) | exact HB.out))) : w.heap.size ≤ gb255)); have n6_ := Aside0.mk ((by rw [hg]; exact Nat.ne_of_lt (blk_lt (g := gb253) (o := .cells #[.int .i64 a0_0, .int .i64 a0_1, .int .i64 a0_2, .int .i64 a0_3] 44 (0, 0)) (by (with_reducible repeat (first | refine blk_drewN ?_ _ | refine blk_drew ?_ | refine blk_alloc ?_ _)); exact BK253.out)) : gb253 ≠ gb255)); have n7_ := Aside0.mk ((by rw [hg]; exact Nat.ne_of_gt (blk_lt (g := gb253) (o := .cells #[.int .i64 a0_0, .int .i64 a0_1, .int .i64 a0_2, .int .i64 a0_3] 44 (0, 0)) (by (with_reducible repeat (first | refine blk_drewN ?_ _ | refine blk_drew ?_ | refine blk_alloc ?_ _)); exact BK253.out)) : gb255 ≠ gb253)); have n8_ := Aside0.mk ((by rw [hg]; exact Nat.ne_of_lt (blk_lt (g := gb254) (o := .cells #[.int .i64 a1_0, .int .i64 a1_1, .int .i64 a1_2, .int .i64 a1_3] 44 (0, 0)) (by (with_reducible repeat (first | refine blk_drewN ?_ _ | refine blk_drew ?_ | refine blk_alloc ?_ _)); exact BK254.out)) : gb254 ≠ gb255)); have n9_ := Aside0.mk ((by rw [hg]; exact Nat.ne_of_gt (blk_lt (g := gb254) (o := .cells #[.int .i64 a1_0, .int .i64 a1_1, .int .i64 a1_2, .int .i64 a1_3] 44 (0, 0)) (by (with_reducible repeat (first | refine blk_drewN ?_ _ | refine blk_drew ?_ | refine blk_alloc ?_ _)); exact BK254.out)) : gb255 ≠ gb254)); clear BK253; clear BK254; clear HB; have BK253 := n0_; have BK254 := n1_; have HB := n2_; have BK255 := n3_; have GW255 := n4_; have GE255 := n5_; have NB253_255 := n6_; have NB255_253 := n7_; have NB254_255 := n8_; have NB255_254 := n9_; clear n0_ n1_ n2_ n3_ n4_ n5_ n6_ n7_ n8_ n9_; clear hb hbox hg; have hnb6 := NB253_254.out; have hnc6 := NB254_253.out; have hnb7 := NB253_255.out; have hnc7 := NB255_253.out; have hcz8_0 : w5.cell? ⟨gb253, 0, none⟩ = some (.int .i64 a0_0) := (blk_cell BK253.out 0).trans rfl; have hcz8_1 : w5.cell? ⟨gb253, 1, none⟩ = some (.int .i64 a0_1) := (blk_cell BK253.out 1).trans rfl; have hcz8_2 : w5.cell? ⟨gb253, 2, none⟩ = some (.int .i64 a0_2) := (blk_cell BK253.out 2).trans rfl; have hcz8_3 : w5.cell? ⟨gb253, 3, none⟩ = some (.int .i64 a0_3) := (blk_cell BK253.out 3).trans rfl; have hfz8_0 := blk_frozen BK253.out 0; have hfz8_1 := blk_frozen BK253.out 1; have hfz8_2 := blk_frozen BK253.out 2; have hfz8_3 := blk_frozen BK253.out 3; have hnb9 := NB254_255.out; have hnc9 := NB255_254.out; have hcz10_0 : w5.cell? ⟨gb254, 0, none⟩ = some (.int .i64 a1_0) := (blk_cell BK254.out 0).trans rfl; have hcz10_1 : w5.cell? ⟨gb254, 1, none⟩ = some (.int .i64 a1_1) := (blk_cell BK254.out 1).trans rfl; have hcz10_2 : w5.cell? ⟨gb254, 2, none⟩ = some (.int .i64 a1_2) := (blk_cell BK254.out 2).trans rfl; have hcz10_3 : w5.cell? ⟨gb254, 3, none⟩ = some (.int .i64 a1_3) := (blk_cell BK254.out 3).trans rfl; have hfz10_0 := blk_frozen BK254.out 0; have hfz10_1 := blk_frozen BK254.out 1; have hfz10_2 := blk_frozen BK254.out 2; have hfz10_3 := blk_frozen BK254.out 3; have hcz11_0 : w5.cell? ⟨gb255, 0, none⟩ = some (.int .i64 0) := (blk_cell BK255.out 0).trans rfl; have hcz11_1 : w5.cell? ⟨gb255, 1, none⟩ = some (.int .i64 0) := (blk_cell BK255.out 1).trans rfl; have hcz11_2 : w5.cell? ⟨gb255, 2, none⟩ = some (.int .i64 0) := (blk_cell BK255.out 2).trans rfl; have hcz11_3 : w5.cell? ⟨gb255, 3, none⟩ = some (.int .i64 0) := (blk_cell BK255.out 3).trans rfl; have hfz11_0 := blk_frozen BK255.out 0; have hfz11_1 := blk_frozen BK255.out 1; have hfz11_2 := blk_frozen BK255.out 2; have hfz11_3 := blk_frozen BK255.out 3))
 refine bodyPost_ret (results_cell_row rfl _ _ gb255 44 #[.int .i64 (wrap64 (a0_0 + a1_0)), .int .i64 (wrap64 (a0_1 + a1_1)), .int .i64 (wrap64 (a0_2 + a1_2)), .int .i64 (wrap64 (a0_3 + a1_3))] (0, 0) _ rfl (by (with_reducible repeat (first | refine blk_drewN ?_ _ | refine blk_drew ?_ | refine blk_alloc ?_ _)); refine blk_put (cs := #[.int .i64 (wrap64 (a0_0 + a1_0)), .int .i64 (wrap64 (a0_1 + a1_1)), .int .i64 (wrap64 (a0_2 + a1_2)), .int .i64 0]) ?_ 3 _ rfl; (with_reducible repeat (first | refine blk_drewN ?_ _ | refine blk_drew ?_ | refine blk_alloc ?_ _)); refine blk_put (cs := #[.int .i64 (wrap64 (a0_0 + a1_0)), .int .i64 (wrap64 (a0_1 + a1_1)), .int .i64 0, .int .i64 0]) ?_ 2 _ rfl; (with_reducible repeat (first | refine blk_drewN ?_ _ | refine blk_drew ?_ | refine blk_alloc ?_ _)); refine blk_put (cs := #[.int .i64 (wrap64 (a0_0 + a1_0)), .int .i64 0, .int .i64 0, .int .i64 0]) ?_ 1 _ rfl; (with_reducible repeat (first | refine blk_drewN ?_ _ | refine blk_drew ?_ | refine blk_alloc ?_ _)); refine blk_put (cs := #[.int .i64 0, .int .i64 0, .int .i64 0, .int .i64 0]) ?_ 0 _ rfl; (with_reducible repeat (first | refine blk_drewN ?_ _ | refine blk_drew ?_ | refine blk_alloc ?_ _)); exact BK255.out) Try.underlying44 rfl (by kernel_rfl)) rfl ?_
 exact ⟨by first | rfl | (simp [errW_none, errW_some] <;> rfl) | (simp [*, errW_none, errW_some] <;> rfl), by repeat (first | (with_reducible first | exact HB.out | apply below_alloc | apply pw_below_drewN | apply below_drew1 | refine below_set ?_ GE253.out | refine below_set ?_ GE254.out | refine below_set ?_ GE255.out) | exact HB.out)⟩

end Go.Proofs.Ytgepcdpnjinadaa.PX
end
