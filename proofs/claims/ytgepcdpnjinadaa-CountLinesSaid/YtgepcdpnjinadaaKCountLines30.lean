-- several texts in one (wip/merge.py)
import Derived.Test.YtgepcdpnjinadaaKCountLines22
import Derived.Test.YtgepcdpnjinadaaKCountLines28
import Derived.Test.YtgepcdpnjinadaaKCountLines29
import Derived.Test.YtgepcdpnjinadaaKCountLines27
import Derived.Test.YtgepcdpnjinadaaKCountLines26
section
-- MACHINE SIDE, written by wip/drive.py (this session's driver over the kit's print) for this claim. Lean checks it.
namespace Go.Proofs.Ytgepcdpnjinadaa.PX
open Go.RowKit Go.Proofs.YtgepcdpnjinadaaW.PrintWords Go.Proofs.YtgepcdpnjinadaaW.PrintLast Go.Proofs.YtgepcdpnjinadaaW.PrintMore
open Bool renaming true → TB, false → FB
attribute [local go_sem] max2_int min2_int max_two min_two max_three min_three max_four min_four   -- for this text's walks alone
set_option linter.unusedVariables false
set_option linter.unusedSimpArgs false

/-! ### palinoderef2_Of: function 39 -/
def palinoderef2_Of.l0 : Nat → List ByteArray → Int → Int → Int → Int → Int → Option (Int × Int × Int × Int)
  | 0, _, _, _, _, _, _ => none
  | k + 1, x3, x5, x261000, x261001, x261002, x261003 => if x5 < (x3.length : Int) then (if 0 ≤ x5 then ((palinoderef2_one.f (rdOf ByteArray.empty x3 x5)).bind fun bt262 => ((palinoderef2_Plus.f x261000 x261001 x261002 x261003 bt262.1 bt262.2.1 bt262.2.2.1 bt262.2.2.2).bind fun bt266 => (palinoderef2_Of.l0 k x3 (wrap64 (x5 + 1)) bt266.1 bt266.2.1 bt266.2.2.1 bt266.2.2.2))) else (none)) else (some (x261000, x261001, x261002, x261003))
def palinoderef2_Of.f (k : Nat) (a0 : ByteArray) : Option (Int × Int × Int × Int) := (palinoderef1_Points.f k a0).bind fun t257 => (palinoderef2_Of.l0 k t257 0 0 0 0 0)
theorem palinoderef2_Of.mono_l : ∀ k, (∀ y0 y1 y2 y3 y4 y5, LeO (palinoderef2_Of.l0 k y0 y1 y2 y3 y4 y5) (palinoderef2_Of.l0 (k + 1) y0 y1 y2 y3 y4 y5))
  | 0 => fun _ _ _ _ _ _ r h => by simp [palinoderef2_Of.l0] at h
  | k + 1 => by
    have ih0 := palinoderef2_Of.mono_l k
    · intro y0 y1 y2 y3 y4 y5
      unfold palinoderef2_Of.l0
      repeat' first
      | (with_reducible exact ih0 _ _ _ _ _ _)
      | (with_reducible exact palinoderef1_Points.mono _ _)
      | (with_reducible exact LeO.refl _)
      | (with_reducible exact LeO.none _)
      | (with_reducible refine LeO.ite ?_ ?_)
      | (with_reducible refine LeO.bind ?_ (fun _ => ?_))
      | exact ih0 _ _ _ _ _ _
      | exact palinoderef1_Points.mono _ _
      | exact LeO.none _
      | refine LeO.ite ?_ ?_
      | refine LeO.bind ?_ (fun _ => ?_)
theorem palinoderef2_Of.mono : ∀ a0 k, LeO (palinoderef2_Of.f k a0) (palinoderef2_Of.f (k + 1) a0) := by
  intro a0 k
  have ih0 := palinoderef2_Of.mono_l k
  unfold palinoderef2_Of.f
  repeat' first
      | (with_reducible exact ih0 _ _ _ _ _ _)
      | (with_reducible exact palinoderef1_Points.mono _ _)
      | (with_reducible exact LeO.refl _)
      | (with_reducible exact LeO.none _)
      | (with_reducible refine LeO.ite ?_ ?_)
      | (with_reducible refine LeO.bind ?_ (fun _ => ?_))
      | exact ih0 _ _ _ _ _ _
      | exact palinoderef1_Points.mono _ _
      | exact LeO.none _
      | refine LeO.ite ?_ ?_
      | refine LeO.bind ?_ (fun _ => ?_)
def palinoderef2_Of.T6 : Bool × List (List Nat × List Nat) := (true, [([], []), ([], []), ([], []), ([1, 2], [1, 2]), ([3], [3]), ([4], [4]), ([0, 5, 5], [0, 5]), ([6, 6, 0, 1, 2, 3, 4, 5, 6], [6])])
def palinoderef2_Of.B6 : List Nat := [0, 0, 0, 6, 14, 30, 63, 127]
theorem palinoderef2_Of.tab6 : rtab .any (opsOf Try.f39 6) = palinoderef2_Of.T6 := by kernel_rfl
theorem palinoderef2_Of.bits6 : waitsOk palinoderef2_Of.T6.2 palinoderef2_Of.B6 = true := by kernel_rfl
set_option maxHeartbeats 8000000 in
set_option maxRecDepth 100000 in
theorem palinoderef2_Of.calls (k : Nat) (a0 : ByteArray) (r1 : Int) (r2 : Int) (r3 : Int) (r4 : Int) (w : World) (h : palinoderef2_Of.f k a0 = some (r1, r2, r3, r4)) :
  Calls Try.prog 39 #[.string a0] w fun e w' => e = .returned (.agg #[.int .i64 r1, .int .i64 r2, .int .i64 r3, .int .i64 r4]) ∧ Below w.heap.size w w' := by
 have hu44 := Try.underlying44
 have HB := Aside0.mk (Below.refl w.heap.size w)
 have H : ((palinoderef1_Points.f k a0).bind fun t257 => (palinoderef2_Of.l0 k t257 0 0 0 0 0)) = some (r1, r2, r3, r4) := h
 clear h
 replace H := Option.bind_eq_some_iff.mp H
 obtain ⟨t257, A20, H⟩ := H
 replace H : (palinoderef2_Of.l0 k t257 0 0 0 0 0) = some (r1, r2, r3, r4) := H
 have A2 := Aside0.mk A20
 clear A20
 have H' := Aside0.mk H
 clear H
 go_enter Try.func39, Try.ntmps39
 go_wp2_with (first | ((with_reducible refine gate_dst (N := 2) rfl ?_); refine box_event ?hg (N := 2) ?hd (cs := #[.int .i64 0, .int .i64 0, .int .i64 0, .int .i64 0]) (t := 44) ?hr ?_; (case hd => rfl); (case hg => rfl); (case hr => first | (go_simp; done) | (go_simp; rfl)); intro gb256 hg w3 hbox hb; have n0_ := Aside0.mk (below_step (by repeat (first | (with_reducible first | exact HB.out | apply below_alloc | apply pw_below_drewN | apply below_drew1) | exact HB.out)) hb); have n1_ := Aside0.mk (hbox); have n2_ := Aside0.mk ((by rw [hg]; exact (below_size (by repeat (first | (with_reducible first | exact HB.out | apply below_alloc | apply pw_below_drewN | apply below_drew1) | exact HB.out))) : w.heap.size ≤ gb256)); have n3_ := Aside0.mk ((by rw [hg]; exact (below_size (by repeat (first | (with_reducible first | exact HB.out | apply below_alloc | apply pw_below_drewN | apply below_drew1) | exact HB.out))) : w.heap.size ≤ gb256)); clear HB; have HB := n0_; have BK256 := n1_; have GW256 := n2_; have GE256 := n3_; clear n0_ n1_ n2_ n3_; clear hb hbox hg) | ((with_reducible refine gate_callee (f := 20) rfl ?_); refine goesL_ (some 7) rfl rfl Try.func20 (by kernel_rfl) rfl #[.string a0] rfl (by (try simp only [List.map_toArray, List.map_cons, List.map_nil]); first | done | rfl | (simp only [List.length_drop, List.length_take]; rfl)) ?_; (with_reducible refine (palinoderef1_Points.calls k a0 t257 _ A2.out).mono ?_); rintro e w4 ⟨v258, rfl, ho0, hb⟩; refine ⟨_, rfl, ?_⟩; have n0_ := Aside0.mk (Kd.R_lower ho0 (below_size (by repeat (first | (with_reducible first | exact HB.out | apply below_alloc | apply pw_below_drewN | apply below_drew1 | refine below_set ?_ GE256.out) | exact HB.out)))); have n1_ := Aside0.mk (blk_below (g := gb256) (o := .cells #[.int .i64 0, .int .i64 0, .int .i64 0, .int .i64 0] 44 (0, 0)) (by (with_reducible repeat (first | refine blk_drewN ?_ _ | refine blk_drew ?_ | refine blk_alloc ?_ _)); exact BK256.out) hb); have n2_ := Aside0.mk (below_step (by repeat (first | (with_reducible first | exact HB.out | apply below_alloc | apply pw_below_drewN | apply below_drew1 | refine below_set ?_ GE256.out) | exact HB.out)) hb); clear BK256; clear HB; have HO259 := n0_; have BK256 := n1_; have HB := n2_; clear n0_ n1_ n2_; (try clear hb); (try clear hb2); (try clear hk); (try clear hi); (try clear ho0)) | ((with_reducible refine gate_dst (N := 4) rfl ?_); refine box_event ?hg (N := 4) ?hd (cs := #[.int .i64 0, .int .i64 0, .int .i64 0, .int .i64 0]) (t := 44) ?hr ?_; (case hd => rfl); (case hg => rfl); (case hr => first | (go_simp; done) | (go_simp; rfl)); intro gb260 hg w5 hbox hb; have n0_ := Aside0.mk (Kd.R_below (by (with_reducible repeat (first | apply Kd.R_alloc | apply Kd.R_drewN | apply Kd.R_drew)); exact HO259.out) hb); have n1_ := Aside0.mk (blk_below (g := gb256) (o := .cells #[.int .i64 0, .int .i64 0, .int .i64 0, .int .i64 0] 44 (0, 0)) (by (with_reducible repeat (first | refine blk_drewN ?_ _ | refine blk_drew ?_ | refine blk_alloc ?_ _)); exact BK256.out) hb); have n2_ := Aside0.mk (below_step (by repeat (first | (with_reducible first | exact HB.out | apply below_alloc | apply pw_below_drewN | apply below_drew1 | refine below_set ?_ GE256.out) | exact HB.out)) hb); have n3_ := Aside0.mk (hbox); have n4_ := Aside0.mk ((by rw [hg]; exact (below_size (by repeat (first | (with_reducible first | exact HB.out | apply below_alloc | apply pw_below_drewN | apply below_drew1 | refine below_set ?_ GE256.out) | exact HB.out))) : w.heap.size ≤ gb260)); have n5_ := Aside0.mk ((by rw [hg]; exact (below_size (by repeat (first | (with_reducible first | exact HB.out | apply below_alloc | apply pw_below_drewN | apply below_drew1 | refine below_set ?_ GE256.out) | exact HB.out))) : w.heap.size ≤ gb260)); have n6_ := Aside0.mk ((by rw [hg]; exact Nat.ne_of_lt (blk_lt (g := gb256) (o := .cells #[.int .i64 0, .int .i64 0, .int .i64 0, .int .i64 0] 44 (0, 0)) (by (with_reducible repeat (first | refine blk_drewN ?_ _ | refine blk_drew ?_ | refine blk_alloc ?_ _)); exact BK256.out)) : gb256 ≠ gb260)); have n7_ := Aside0.mk ((by rw [hg]; exact Nat.ne_of_gt (blk_lt (g := gb256) (o := .cells #[.int .i64 0, .int .i64 0, .int .i64 0, .int .i64 0] 44 (0, 0)) (by (with_reducible repeat (first | refine blk_drewN ?_ _ | refine blk_drew ?_ | refine blk_alloc ?_ _)); exact BK256.out)) : gb260 ≠ gb256)); clear HO259; clear BK256; clear HB; have HO259 := n0_; have BK256 := n1_; have HB := n2_; have BK260 := n3_; have GW260 := n4_; have GE260 := n5_; have NB256_260 := n6_; have NB260_256 := n7_; clear n0_ n1_ n2_ n3_ n4_ n5_ n6_ n7_; clear hb hbox hg; have hnb6 := NB260_256.out; have hnc6 := NB256_260.out; have hcz7_0 : w5.cell? ⟨gb260, 0, none⟩ = some (.int .i64 0) := (blk_cell BK260.out 0).trans rfl; have hcz7_1 : w5.cell? ⟨gb260, 1, none⟩ = some (.int .i64 0) := (blk_cell BK260.out 1).trans rfl; have hcz7_2 : w5.cell? ⟨gb260, 2, none⟩ = some (.int .i64 0) := (blk_cell BK260.out 2).trans rfl; have hcz7_3 : w5.cell? ⟨gb260, 3, none⟩ = some (.int .i64 0) := (blk_cell BK260.out 3).trans rfl; have hfz7_0 := blk_frozen BK260.out 0; have hfz7_1 := blk_frozen BK260.out 1; have hfz7_2 := blk_frozen BK260.out 2; have hfz7_3 := blk_frozen BK260.out 3))
 go_loopg [5] k (fun kq v5 w' => ∃ (x5_1 : Int) (x261000_1 : Int) (x261001_1 : Int) (x261002_1 : Int) (x261003_1 : Int), v5 = .int .i64 x5_1 ∧ Aside0 (palinoderef2_Of.l0 kq t257 x5_1 x261000_1 x261001_1 x261002_1 x261003_1 = some (r1, r2, r3, r4)) ∧ Aside0 (kq ≤ k) ∧ Aside0 (Kd.R Kd.string 9 w' w.heap.size (fun _ => True) v258 t257) ∧ Aside0 (w'.heap[gb256]? = some (.cells #[.int .i64 0, .int .i64 0, .int .i64 0, .int .i64 0] 44 (0, 0))) ∧ Aside0 (w'.heap[gb260]? = some (.cells #[.int .i64 x261000_1, .int .i64 x261001_1, .int .i64 x261002_1, .int .i64 x261003_1] 44 (0, 0))) ∧ Aside0 (Below w.heap.size w w'))
 case atStart => exact ⟨(0), (0), (0), (0), (0), (by first | rfl | (simp; done) | (simp [*]; done)), H', ⟨Nat.le_refl _⟩, ⟨by (with_reducible repeat (first | apply Kd.R_alloc | apply Kd.R_drewN | apply Kd.R_drew)); exact Kd.R_mono (Kd.R_far (p := ⟨gb260, 3, none⟩) (Kd.R_far (p := ⟨gb260, 2, none⟩) (Kd.R_far (p := ⟨gb260, 1, none⟩) (Kd.R_far (p := ⟨gb260, 0, none⟩) (Kd.R_types HO259.out BK260.out (by decide)) (fun _ hk => hk.2) (.int .i64 0)) (fun _ hk => hk.2) (.int .i64 0)) (fun _ hk => hk.2) (.int .i64 0)) (fun _ hk => hk.2) (.int .i64 0)) (fun _ hk => trivial)⟩, ⟨by (with_reducible repeat (first | refine blk_drewN ?_ _ | refine blk_drew ?_ | refine blk_alloc ?_ _)); refine blk_far ?_ NB256_260.out _; (with_reducible repeat (first | refine blk_drewN ?_ _ | refine blk_drew ?_ | refine blk_alloc ?_ _)); refine blk_far ?_ NB256_260.out _; (with_reducible repeat (first | refine blk_drewN ?_ _ | refine blk_drew ?_ | refine blk_alloc ?_ _)); refine blk_far ?_ NB256_260.out _; (with_reducible repeat (first | refine blk_drewN ?_ _ | refine blk_drew ?_ | refine blk_alloc ?_ _)); refine blk_far ?_ NB256_260.out _; (with_reducible repeat (first | refine blk_drewN ?_ _ | refine blk_drew ?_ | refine blk_alloc ?_ _)); exact BK256.out⟩, ⟨by (with_reducible repeat (first | refine blk_drewN ?_ _ | refine blk_drew ?_ | refine blk_alloc ?_ _)); refine blk_put (cs := #[.int .i64 0, .int .i64 0, .int .i64 0, .int .i64 0]) ?_ 3 _ rfl; (with_reducible repeat (first | refine blk_drewN ?_ _ | refine blk_drew ?_ | refine blk_alloc ?_ _)); refine blk_put (cs := #[.int .i64 0, .int .i64 0, .int .i64 0, .int .i64 0]) ?_ 2 _ rfl; (with_reducible repeat (first | refine blk_drewN ?_ _ | refine blk_drew ?_ | refine blk_alloc ?_ _)); refine blk_put (cs := #[.int .i64 0, .int .i64 0, .int .i64 0, .int .i64 0]) ?_ 1 _ rfl; (with_reducible repeat (first | refine blk_drewN ?_ _ | refine blk_drew ?_ | refine blk_alloc ?_ _)); refine blk_put (cs := #[.int .i64 0, .int .i64 0, .int .i64 0, .int .i64 0]) ?_ 0 _ rfl; (with_reducible repeat (first | refine blk_drewN ?_ _ | refine blk_drew ?_ | refine blk_alloc ?_ _)); exact BK260.out⟩, ⟨by repeat (first | (with_reducible first | exact HB.out | apply below_alloc | apply pw_below_drewN | apply below_drew1 | refine below_set ?_ GE256.out | refine below_set ?_ GE260.out) | exact HB.out)⟩⟩
 case round =>
  clear H'
  try clear c2
  try clear p2
  try clear c3
  try clear c6
  try clear hcz7_0
  try clear hcz7_1
  try clear hcz7_2
  try clear hcz7_3
  try clear hfz7_0
  try clear hfz7_1
  try clear hfz7_2
  try clear hfz7_3
  obtain ⟨x5_1, x261000_1, x261001_1, x261002_1, x261003_1, rfl, HA, HK1, HO_3, BK256, BK260, HB⟩ := hrel
  cases gk with
  | zero => exact absurd HA.out (by simp [palinoderef2_Of.l0])
  | succ k1 =>
   have H := HA.out
   clear HA
   simp only [palinoderef2_Of.l0] at H
   by_cases c8 : x5_1 < (t257.length : Int)
   ·rw [if_pos c8] at H
    have c8b0 : decide (x5_1 < (t257.length : Int)) = true := decide_eq_true c8
    clear c8
    by_cases c9 : 0 ≤ x5_1
    ·rw [if_pos c9] at H
     have c9b0 : decide (0 ≤ x5_1) = true := decide_eq_true c9
     clear c9
     replace H := Option.bind_eq_some_iff.mp H
     obtain ⟨⟨t262, t263, t264, t265⟩, A100, H⟩ := H
     replace H : ((palinoderef2_Plus.f x261000_1 x261001_1 x261002_1 x261003_1 t262 t263 t264 t265).bind fun bt266 => (palinoderef2_Of.l0 k1 t257 (wrap64 (x5_1 + 1)) bt266.1 bt266.2.1 bt266.2.2.1 bt266.2.2.2)) = some (r1, r2, r3, r4) := H
     have A10 := Aside0.mk A100
     clear A100
     replace H := Option.bind_eq_some_iff.mp H
     obtain ⟨⟨t266, t267, t268, t269⟩, A110, H⟩ := H
     replace H : (palinoderef2_Of.l0 k1 t257 (wrap64 (x5_1 + 1)) t266 t267 t268 t269) = some (r1, r2, r3, r4) := H
     have A11 := Aside0.mk A110
     clear A110
     have H' := Aside0.mk H
     clear H
     obtain ⟨Ao12, co12, eo12⟩ := Kd.R_slice HO_3.out
     subst eo12
     try go_wp2
     have n0_ := Aside0.mk (Kd.R_drew HO_3.out)
     have n1_ := Aside0.mk (blk_drew BK256.out)
     have n2_ := Aside0.mk (blk_drew BK260.out)
     have n3_ := Aside0.mk (below_drew1 HB.out)
     clear HO_3
     clear BK256
     clear BK260
     clear HB
     have HO_3 := n0_
     have BK256 := n1_
     have BK260 := n2_
     have HB := n3_
     clear n0_ n1_ n2_ n3_
     have p261 : 0 ≤ (x5_1 : Int) := of_decide_eq_true (by first | (with_reducible assumption) | assumption)
     have q261 : x5_1 < (t257.length : Int) := of_decide_eq_true (by first | (with_reducible assumption) | assumption)
     obtain ⟨ad261, e261, hx261_0⟩ := Kd.at_string (Kd.R_reads' HO_3.out).2.2 x5_1 p261 q261
     cases e261
     replace p261 := eq_true p261
     replace q261 := eq_true q261
     refine start_ (n := 8) (S := fun w' => w'.cell? ⟨gb260, 0, none⟩ = some (.int .i64 x261000_1) ∧ w'.cell? ⟨gb260, 1, none⟩ = some (.int .i64 x261001_1) ∧ w'.cell? ⟨gb260, 2, none⟩ = some (.int .i64 x261002_1) ∧ w'.cell? ⟨gb260, 3, none⟩ = some (.int .i64 x261003_1) ∧ w'.cell? (ad261.add (x5_1).toNat) = some (.string (rdOf ByteArray.empty t257 x5_1))) (ds := [7]) #[FB,FB,FB,FB,FB,FB,FB,FB] (by kernel_rfl) rfl rfl ⟨(blk_cell BK260.out 0).trans rfl, (blk_cell BK260.out 1).trans rfl, (blk_cell BK260.out 2).trans rfl, (blk_cell BK260.out 3).trans rfl, hx261_0⟩ (fun hHeld => ?_); refine with_tabW palinoderef2_Of.tab6 palinoderef2_Of.bits6 (fun HT_ HW_ => ?_)
     generalize wr.drew = w13 at HO_3 BK256 BK260 HB hx261_0 hHeld ⊢
     refine pure_ (i := 1) (N := some 16) (v := ?_) (a' := ?_) #[FB,TB,FB,FB,FB,FB,FB,FB] rfl rfl (any_of HT_.out (by kernel_rfl)) (fun _ _ _ h => h) (Or.inl ⟨by rfl, ?_⟩) ?_ ?_
     rotate_left
     ·intro w'
      go_simp
      with_reducible rfl
     rotate_left
     ·simp only [Act.put, List.setIfInBounds_toArray, List.set_cons_zero, List.set_cons_succ, i64_w, i32_w]
      rfl
     refine pure_ (i := 2) (N := some 17) (v := ?_) (a' := ?_) #[FB,TB,TB,FB,FB,FB,FB,FB] rfl rfl (any_of HT_.out (by kernel_rfl)) (fun _ _ _ h => h) (Or.inl ⟨by rfl, ?_⟩) ?_ ?_
     rotate_left
     ·intro w'
      go_simp
      with_reducible rfl
     rotate_left
     ·simp only [Act.put, List.setIfInBounds_toArray, List.set_cons_zero, List.set_cons_succ, i64_w, i32_w]
      rfl
     refine pure_ (i := 3) (N := some 18) (v := ?_) (a' := ?_) #[FB,TB,TB,TB,FB,FB,FB,FB] rfl rfl (any_of HT_.out (by kernel_rfl)) (fun _ _ _ h => h) (Or.inl ⟨by rfl, ?_⟩) ?_ ?_
     rotate_left
     ·intro w'
      go_simp
      with_reducible rfl
     rotate_left
     ·simp only [Act.put, List.setIfInBounds_toArray, List.set_cons_zero, List.set_cons_succ, i64_w, i32_w]
      rfl
     refine take_ (i := 0) (N := some 15) (v := ?_) (a' := ?_) #[TB,TB,TB,TB,FB,FB,FB,FB] rfl rfl (take_ofW HT_.out HW_.out (by kernel_rfl)) (fun _ _ _ h => h) (Or.inl ⟨by rfl, ?_⟩) hHeld ?_ ?_
     rotate_left
     ·rintro w' ⟨s0, s1, s2, s3, s4⟩
      go_simp
      with_reducible rfl
     rotate_left
     ·simp only [Act.put, List.setIfInBounds_toArray, List.set_cons_zero, List.set_cons_succ, i64_w, i32_w]
      rfl
     refine take_ (i := 4) (N := some 19) (v := ?_) (a' := ?_) #[TB,TB,TB,TB,TB,FB,FB,FB] rfl rfl (take_ofW HT_.out HW_.out (by kernel_rfl)) (fun _ _ _ h => h) (Or.inl ⟨by rfl, ?_⟩) hHeld ?_ ?_
     rotate_left
     ·rintro w' ⟨s0, s1, s2, s3, s4⟩
      go_simp
      with_reducible rfl
     rotate_left
     ·simp only [Act.put, List.setIfInBounds_toArray, List.set_cons_zero, List.set_cons_succ, i64_w, i32_w]
      rfl
     refine one_ (i := 5) (N := some 20) #[TB,TB,TB,TB,TB,TB,FB,FB] rfl rfl (one_of HT_.out (by kernel_rfl)) (by decide) (fun K hK => ?_)
     refine goes_ Try.func50 (by kernel_rfl) rfl #[.string (rdOf ByteArray.empty t257 x5_1)] (by rfl) rfl rfl (by (try simp only [List.map_toArray, List.map_cons, List.map_nil]); first | done | rfl | (simp only [List.length_drop, List.length_take]; rfl)) ?_
     with_reducible refine (palinoderef2_one.calls (rdOf ByteArray.empty t257 x5_1) t262 t263 t264 t265 _ A10.out).mono ?_
     rintro e w14 ⟨rfl, hb⟩
     have HS4_ := (hb.cell (World.block_lt_of_cell? _ _ (hHeld.2.2.2.2))).trans (hHeld.2.2.2.2)
     refine ⟨_, rfl, ?_⟩
     have n0_ := Aside0.mk (Kd.R_below (by (with_reducible repeat (first | apply Kd.R_alloc | apply Kd.R_drewN | apply Kd.R_drew)); exact HO_3.out) hb)
     have n1_ := Aside0.mk (blk_below (g := gb256) (o := .cells #[.int .i64 0, .int .i64 0, .int .i64 0, .int .i64 0] 44 (0, 0)) (by (with_reducible repeat (first | refine blk_drewN ?_ _ | refine blk_drew ?_ | refine blk_alloc ?_ _)); exact BK256.out) hb)
     have n2_ := Aside0.mk (blk_below (g := gb260) (o := .cells #[.int .i64 x261000_1, .int .i64 x261001_1, .int .i64 x261002_1, .int .i64 x261003_1] 44 (0, 0)) (by (with_reducible repeat (first | refine blk_drewN ?_ _ | refine blk_drew ?_ | refine blk_alloc ?_ _)); exact BK260.out) hb)
     have n3_ := Aside0.mk (below_step (by repeat (first | (with_reducible first | exact HB.out | apply below_alloc | apply pw_below_drewN | apply below_drew1 | refine below_set ?_ GE256.out | refine below_set ?_ GE260.out) | exact HB.out)) hb)
     clear HO_3
     clear BK256
     clear BK260
     clear HB
     have HO_3 := n0_
     have BK256 := n1_
     have BK260 := n2_
     have HB := n3_
     clear n0_ n1_ n2_ n3_
     (try clear hb)
     (try clear hb2)
     (try clear hk)
     (try clear hi)
     refine hK.out _ _ ⟨(blk_cell BK260.out 0).trans rfl, (blk_cell BK260.out 1).trans rfl, (blk_cell BK260.out 2).trans rfl, (blk_cell BK260.out 3).trans rfl, HS4_⟩ (fun hHeld => ?_)
     clear hK K
     refine norm_ (a' := ?_) ?_ ?_
     rotate_left
     ·show Act.put _ (some 20) _ = _
      simp only [Act.put, List.setIfInBounds_toArray, List.set_cons_zero, List.set_cons_succ, i64_w, i32_w]
      rfl
     refine one_ (i := 6) (N := some 21) #[TB,TB,TB,TB,TB,TB,TB,FB] rfl rfl (one_of HT_.out (by kernel_rfl)) (by decide) (fun K hK => ?_)
     refine goes_ Try.func41 (by kernel_rfl) rfl #[.agg #[.int .i64 x261000_1, .int .i64 x261001_1, .int .i64 x261002_1, .int .i64 x261003_1], .agg #[.int .i64 t262, .int .i64 t263, .int .i64 t264, .int .i64 t265]] (by rfl) rfl rfl (by (try simp only [List.map_toArray, List.map_cons, List.map_nil]); first | done | rfl | (simp only [List.length_drop, List.length_take]; rfl)) ?_
     with_reducible refine (palinoderef2_Plus.calls x261000_1 x261001_1 x261002_1 x261003_1 t262 t263 t264 t265 t266 t267 t268 t269 _ A11.out).mono ?_
     rintro e w15 ⟨rfl, hb⟩
     have HS4_ := (hb.cell (World.block_lt_of_cell? _ _ (hHeld.2.2.2.2))).trans (hHeld.2.2.2.2)
     refine ⟨_, rfl, ?_⟩
     have n0_ := Aside0.mk (Kd.R_below (by (with_reducible repeat (first | apply Kd.R_alloc | apply Kd.R_drewN | apply Kd.R_drew)); exact HO_3.out) hb)
     have n1_ := Aside0.mk (blk_below (g := gb256) (o := .cells #[.int .i64 0, .int .i64 0, .int .i64 0, .int .i64 0] 44 (0, 0)) (by (with_reducible repeat (first | refine blk_drewN ?_ _ | refine blk_drew ?_ | refine blk_alloc ?_ _)); exact BK256.out) hb)
     have n2_ := Aside0.mk (blk_below (g := gb260) (o := .cells #[.int .i64 x261000_1, .int .i64 x261001_1, .int .i64 x261002_1, .int .i64 x261003_1] 44 (0, 0)) (by (with_reducible repeat (first | refine blk_drewN ?_ _ | refine blk_drew ?_ | refine blk_alloc ?_ _)); exact BK260.out) hb)
     have n3_ := Aside0.mk (below_step (by repeat (first | (with_reducible first | exact HB.out | apply below_alloc | apply pw_below_drewN | apply below_drew1 | refine below_set ?_ GE256.out | refine below_set ?_ GE260.out) | exact HB.out)) hb)
     clear HO_3
     clear BK256
     clear BK260
     clear HB
     have HO_3 := n0_
     have BK256 := n1_
     have BK260 := n2_
     have HB := n3_
     clear n0_ n1_ n2_ n3_
     (try clear hb)
     (try clear hb2)
     (try clear hk)
     (try clear hi)
     refine hK.out _ _ ⟨(blk_cell BK260.out 0).trans rfl, (blk_cell BK260.out 1).trans rfl, (blk_cell BK260.out 2).trans rfl, (blk_cell BK260.out 3).trans rfl, HS4_⟩ (fun hHeld => ?_)
     clear hK K
     refine norm_ (a' := ?_) ?_ ?_
     rotate_left
     ·show Act.put _ (some 21) _ = _
      simp only [Act.put, List.setIfInBounds_toArray, List.set_cons_zero, List.set_cons_succ, i64_w, i32_w]
      rfl
     refine last_ (i := 7) (N := none) #[TB,TB,TB,TB,TB,TB,TB,TB] rfl rfl (one_of HT_.out (by kernel_rfl)) (by decide) (fun K hK => ?_)
     have hs16 : w15.cell? ⟨gb260, 0, none⟩ = some (.int .i64 x261000_1) := (blk_cell BK260.out 0).trans rfl
     have hfs16 := blk_frozen BK260.out 0
     have hns16_0 := NB256_260.out
     have hms16_0 := NB260_256.out
     have hs17 : w15.cell? ⟨gb260, 1, none⟩ = some (.int .i64 x261001_1) := (blk_cell BK260.out 1).trans rfl
     have hfs17 := blk_frozen BK260.out 1
     have hns17_0 := NB256_260.out
     have hms17_0 := NB260_256.out
     have hs18 : w15.cell? ⟨gb260, 2, none⟩ = some (.int .i64 x261002_1) := (blk_cell BK260.out 2).trans rfl
     have hfs18 := blk_frozen BK260.out 2
     have hns18_0 := NB256_260.out
     have hms18_0 := NB260_256.out
     have hs19 : w15.cell? ⟨gb260, 3, none⟩ = some (.int .i64 x261003_1) := (blk_cell BK260.out 3).trans rfl
     have hfs19 := blk_frozen BK260.out 3
     have hns19_0 := NB256_260.out
     have hms19_0 := NB260_256.out
     refine skip_ (w1 := ?_) (by rfl) rfl ?_ ?_
     rotate_left
     ·go_simp
      rfl
     refine hK.out _ _ ?_
     clear hK K
     refine done_ (done_of HT_.out (by kernel_rfl)) ?_
     try go_wp2
     go_roundg k1
     case measure => have := HK1.out; omega
     case rel => exact ⟨(wrap64 (x5_1 + 1)), (t266), (t267), (t268), (t269), (by first | rfl | (simp; done) | (simp [*]; done)), H', ⟨by have := HK1.out; omega⟩, ⟨by (with_reducible repeat (first | apply Kd.R_alloc | apply Kd.R_drewN | apply Kd.R_drew)); exact Kd.R_mono (Kd.R_far (p := ⟨gb260, 3, none⟩) (Kd.R_far (p := ⟨gb260, 2, none⟩) (Kd.R_far (p := ⟨gb260, 1, none⟩) (Kd.R_far (p := ⟨gb260, 0, none⟩) (Kd.R_types HO_3.out BK260.out (by decide)) (fun _ hk => hk.2) (.int .i64 t266)) (fun _ hk => hk.2) (.int .i64 t267)) (fun _ hk => hk.2) (.int .i64 t268)) (fun _ hk => hk.2) (.int .i64 t269)) (fun _ hk => trivial)⟩, ⟨by (with_reducible repeat (first | refine blk_drewN ?_ _ | refine blk_drew ?_ | refine blk_alloc ?_ _)); refine blk_far ?_ NB256_260.out _; (with_reducible repeat (first | refine blk_drewN ?_ _ | refine blk_drew ?_ | refine blk_alloc ?_ _)); refine blk_far ?_ NB256_260.out _; (with_reducible repeat (first | refine blk_drewN ?_ _ | refine blk_drew ?_ | refine blk_alloc ?_ _)); refine blk_far ?_ NB256_260.out _; (with_reducible repeat (first | refine blk_drewN ?_ _ | refine blk_drew ?_ | refine blk_alloc ?_ _)); refine blk_far ?_ NB256_260.out _; (with_reducible repeat (first | refine blk_drewN ?_ _ | refine blk_drew ?_ | refine blk_alloc ?_ _)); exact BK256.out⟩, ⟨by (with_reducible repeat (first | refine blk_drewN ?_ _ | refine blk_drew ?_ | refine blk_alloc ?_ _)); refine blk_put (cs := #[.int .i64 t266, .int .i64 t267, .int .i64 t268, .int .i64 x261003_1]) ?_ 3 _ rfl; (with_reducible repeat (first | refine blk_drewN ?_ _ | refine blk_drew ?_ | refine blk_alloc ?_ _)); refine blk_put (cs := #[.int .i64 t266, .int .i64 t267, .int .i64 x261002_1, .int .i64 x261003_1]) ?_ 2 _ rfl; (with_reducible repeat (first | refine blk_drewN ?_ _ | refine blk_drew ?_ | refine blk_alloc ?_ _)); refine blk_put (cs := #[.int .i64 t266, .int .i64 x261001_1, .int .i64 x261002_1, .int .i64 x261003_1]) ?_ 1 _ rfl; (with_reducible repeat (first | refine blk_drewN ?_ _ | refine blk_drew ?_ | refine blk_alloc ?_ _)); refine blk_put (cs := #[.int .i64 x261000_1, .int .i64 x261001_1, .int .i64 x261002_1, .int .i64 x261003_1]) ?_ 0 _ rfl; (with_reducible repeat (first | refine blk_drewN ?_ _ | refine blk_drew ?_ | refine blk_alloc ?_ _)); exact BK260.out⟩, ⟨by repeat (first | (with_reducible first | exact HB.out | apply below_alloc | apply pw_below_drewN | apply below_drew1 | refine below_set ?_ GE256.out | refine below_set ?_ GE260.out) | exact HB.out)⟩⟩
    ·rw [if_neg c9] at H
     exact absurd H (by simp)
   ·rw [if_neg c8] at H
    have c8b0 : decide (x5_1 < (t257.length : Int)) = false := decide_eq_false c8
    clear c8
    simp only [Option.some.injEq, Prod.mk.injEq] at H
    obtain ⟨rfl, rfl, rfl, rfl⟩ := H
    obtain ⟨Ao20, co20, eo20⟩ := Kd.R_slice HO_3.out
    subst eo20
    have hnb21 := NB260_256.out
    have hnc21 := NB256_260.out
    have hcz22_0 : wr.cell? ⟨gb260, 0, none⟩ = some (.int .i64 x261000_1) := (blk_cell BK260.out 0).trans rfl
    have hcz22_1 : wr.cell? ⟨gb260, 1, none⟩ = some (.int .i64 x261001_1) := (blk_cell BK260.out 1).trans rfl
    have hcz22_2 : wr.cell? ⟨gb260, 2, none⟩ = some (.int .i64 x261002_1) := (blk_cell BK260.out 2).trans rfl
    have hcz22_3 : wr.cell? ⟨gb260, 3, none⟩ = some (.int .i64 x261003_1) := (blk_cell BK260.out 3).trans rfl
    have hfz22_0 := blk_frozen BK260.out 0
    have hfz22_1 := blk_frozen BK260.out 1
    have hfz22_2 := blk_frozen BK260.out 2
    have hfz22_3 := blk_frozen BK260.out 3
    have hcz23_0 : wr.cell? ⟨gb256, 0, none⟩ = some (.int .i64 0) := (blk_cell BK256.out 0).trans rfl
    have hcz23_1 : wr.cell? ⟨gb256, 1, none⟩ = some (.int .i64 0) := (blk_cell BK256.out 1).trans rfl
    have hcz23_2 : wr.cell? ⟨gb256, 2, none⟩ = some (.int .i64 0) := (blk_cell BK256.out 2).trans rfl
    have hcz23_3 : wr.cell? ⟨gb256, 3, none⟩ = some (.int .i64 0) := (blk_cell BK256.out 3).trans rfl
    have hfz23_0 := blk_frozen BK256.out 0
    have hfz23_1 := blk_frozen BK256.out 1
    have hfz23_2 := blk_frozen BK256.out 2
    have hfz23_3 := blk_frozen BK256.out 3
    go_wp2
    refine bodyPost_ret (results_cell_row rfl _ _ gb256 44 #[.int .i64 x261000_1, .int .i64 x261001_1, .int .i64 x261002_1, .int .i64 x261003_1] (0, 0) _ rfl (by (with_reducible repeat (first | refine blk_drewN ?_ _ | refine blk_drew ?_ | refine blk_alloc ?_ _)); refine blk_put (cs := #[.int .i64 x261000_1, .int .i64 x261001_1, .int .i64 x261002_1, .int .i64 0]) ?_ 3 _ rfl; (with_reducible repeat (first | refine blk_drewN ?_ _ | refine blk_drew ?_ | refine blk_alloc ?_ _)); refine blk_put (cs := #[.int .i64 x261000_1, .int .i64 x261001_1, .int .i64 0, .int .i64 0]) ?_ 2 _ rfl; (with_reducible repeat (first | refine blk_drewN ?_ _ | refine blk_drew ?_ | refine blk_alloc ?_ _)); refine blk_put (cs := #[.int .i64 x261000_1, .int .i64 0, .int .i64 0, .int .i64 0]) ?_ 1 _ rfl; (with_reducible repeat (first | refine blk_drewN ?_ _ | refine blk_drew ?_ | refine blk_alloc ?_ _)); refine blk_put (cs := #[.int .i64 0, .int .i64 0, .int .i64 0, .int .i64 0]) ?_ 0 _ rfl; (with_reducible repeat (first | refine blk_drewN ?_ _ | refine blk_drew ?_ | refine blk_alloc ?_ _)); exact BK256.out) Try.underlying44 rfl (by kernel_rfl)) rfl ?_
    exact ⟨by first | rfl | (simp [errW_none, errW_some] <;> rfl) | (simp [*, errW_none, errW_some] <;> rfl), by repeat (first | (with_reducible first | exact HB.out | apply below_alloc | apply pw_below_drewN | apply below_drew1 | refine below_set ?_ GE256.out | refine below_set ?_ GE260.out) | exact HB.out)⟩

end Go.Proofs.Ytgepcdpnjinadaa.PX
end

section
-- MACHINE SIDE, written by wip/drive.py (this session's driver over the kit's print) for this claim. Lean checks it.
namespace Go.Proofs.Ytgepcdpnjinadaa.PX
open Go.RowKit Go.Proofs.YtgepcdpnjinadaaW.PrintWords Go.Proofs.YtgepcdpnjinadaaW.PrintLast Go.Proofs.YtgepcdpnjinadaaW.PrintMore
open Bool renaming true → TB, false → FB
attribute [local go_sem] max2_int min2_int max_two min_two max_three min_three max_four min_four   -- for this text's walks alone
set_option linter.unusedVariables false
set_option linter.unusedSimpArgs false

/-! ### palinoderef2_To: function 35 -/
mutual
def palinoderef2_To.j0 : Nat → ByteArray → Int → Int → Bool → Option (Int × Int)
  | 0, _, _, _, _ => none
  | k + 1, x0, x1, x2, x22 => if x22 = true then (some (0, 12)) else (if x2 < 0 then (palinoderef2_To.j1 k x0 x1 x2 true) else ((palinoderef2_Of.f k x0).bind fun bt272 => ((palinoderef2_Get.f bt272.1 bt272.2.1 bt272.2.2.1 bt272.2.2.2 x1).bind fun t276 => (palinoderef2_To.j1 k x0 x1 x2 (decide (x2 > t276))))))
def palinoderef2_To.j1 : Nat → ByteArray → Int → Int → Bool → Option (Int × Int)
  | 0, _, _, _, _ => none
  | k + 1, x0, x1, x2, x32 => if x32 = true then (some (0, 10)) else ((palinoderef1_Points.f k x0).bind fun t277 => (palinoderef2_To.l0 k x1 x2 t277 0 0 0 0 0))
def palinoderef2_To.l0 : Nat → Int → Int → List ByteArray → Int → Int → Int → Int → Int → Option (Int × Int)
  | 0, _, _, _, _, _, _, _, _ => none
  | k + 1, x1, x2, x8, x10, x281000, x281001, x281002, x281003 => if x10 ≤ (x8.length : Int) then ((palinoderef2_Get.f x281000 x281001 x281002 x281003 x1).bind fun t281 => (if t281 = x2 then (some (x281000, 0)) else (if t281 > x2 then (if x1 = 0 then (some (0, 11)) else (some (0, 50))) else (if x10 < (x8.length : Int) then (if 0 ≤ x10 then ((palinoderef2_one.f (rdOf ByteArray.empty x8 x10)).bind fun bt283 => ((palinoderef2_Plus.f x281000 x281001 x281002 x281003 bt283.1 bt283.2.1 bt283.2.2.1 bt283.2.2.2).bind fun bt287 => (palinoderef2_To.l0 k x1 x2 x8 (wrap64 (x10 + 1)) bt287.1 bt287.2.1 bt287.2.2.1 bt287.2.2.2))) else (none)) else (palinoderef2_To.l0 k x1 x2 x8 (wrap64 (x10 + 1)) x281000 x281001 x281002 x281003))))) else (some (0, 10))
end
def palinoderef2_To.f (k : Nat) (a0 : ByteArray) (a1 : Int) (a2 : Int) : Option (Int × Int) := if a1 < 0 then (palinoderef2_To.j0 k a0 a1 a2 true) else (if a1 > 3 then (palinoderef2_To.j0 k a0 a1 a2 true) else ((palinoderef1_Valid.f k a0).bind fun t271 => (palinoderef2_To.j0 k a0 a1 a2 (!t271))))
theorem palinoderef2_To.mono_l : ∀ k, (∀ y0 y1 y2 y3, LeO (palinoderef2_To.j0 k y0 y1 y2 y3) (palinoderef2_To.j0 (k + 1) y0 y1 y2 y3)) ∧ (∀ y0 y1 y2 y3, LeO (palinoderef2_To.j1 k y0 y1 y2 y3) (palinoderef2_To.j1 (k + 1) y0 y1 y2 y3)) ∧ (∀ y0 y1 y2 y3 y4 y5 y6 y7, LeO (palinoderef2_To.l0 k y0 y1 y2 y3 y4 y5 y6 y7) (palinoderef2_To.l0 (k + 1) y0 y1 y2 y3 y4 y5 y6 y7))
  | 0 => ⟨fun _ _ _ _ r h => by simp [palinoderef2_To.j0] at h, fun _ _ _ _ r h => by simp [palinoderef2_To.j1] at h, fun _ _ _ _ _ _ _ _ r h => by simp [palinoderef2_To.l0] at h⟩
  | k + 1 => by
    obtain ⟨ih0, ih1, ih2⟩ := palinoderef2_To.mono_l k
    refine ⟨?_, ?_, ?_⟩
    · intro y0 y1 y2 y3
      unfold palinoderef2_To.j0
      repeat' first
      | (with_reducible exact ih0 _ _ _ _)
      | (with_reducible exact ih1 _ _ _ _)
      | (with_reducible exact ih2 _ _ _ _ _ _ _ _)
      | (with_reducible exact palinoderef1_Points.mono _ _)
      | (with_reducible exact palinoderef1_Valid.mono _ _)
      | (with_reducible exact palinoderef2_Of.mono _ _)
      | (with_reducible exact LeO.refl _)
      | (with_reducible exact LeO.none _)
      | (with_reducible refine LeO.ite ?_ ?_)
      | (with_reducible refine LeO.bind ?_ (fun _ => ?_))
      | exact ih0 _ _ _ _
      | exact ih1 _ _ _ _
      | exact ih2 _ _ _ _ _ _ _ _
      | exact palinoderef1_Points.mono _ _
      | exact palinoderef1_Valid.mono _ _
      | exact palinoderef2_Of.mono _ _
      | exact LeO.none _
      | refine LeO.ite ?_ ?_
      | refine LeO.bind ?_ (fun _ => ?_)
    · intro y0 y1 y2 y3
      unfold palinoderef2_To.j1
      repeat' first
      | (with_reducible exact ih0 _ _ _ _)
      | (with_reducible exact ih1 _ _ _ _)
      | (with_reducible exact ih2 _ _ _ _ _ _ _ _)
      | (with_reducible exact palinoderef1_Points.mono _ _)
      | (with_reducible exact palinoderef1_Valid.mono _ _)
      | (with_reducible exact palinoderef2_Of.mono _ _)
      | (with_reducible exact LeO.refl _)
      | (with_reducible exact LeO.none _)
      | (with_reducible refine LeO.ite ?_ ?_)
      | (with_reducible refine LeO.bind ?_ (fun _ => ?_))
      | exact ih0 _ _ _ _
      | exact ih1 _ _ _ _
      | exact ih2 _ _ _ _ _ _ _ _
      | exact palinoderef1_Points.mono _ _
      | exact palinoderef1_Valid.mono _ _
      | exact palinoderef2_Of.mono _ _
      | exact LeO.none _
      | refine LeO.ite ?_ ?_
      | refine LeO.bind ?_ (fun _ => ?_)
    · intro y0 y1 y2 y3 y4 y5 y6 y7
      unfold palinoderef2_To.l0
      repeat' first
      | (with_reducible exact ih0 _ _ _ _)
      | (with_reducible exact ih1 _ _ _ _)
      | (with_reducible exact ih2 _ _ _ _ _ _ _ _)
      | (with_reducible exact palinoderef1_Points.mono _ _)
      | (with_reducible exact palinoderef1_Valid.mono _ _)
      | (with_reducible exact palinoderef2_Of.mono _ _)
      | (with_reducible exact LeO.refl _)
      | (with_reducible exact LeO.none _)
      | (with_reducible refine LeO.ite ?_ ?_)
      | (with_reducible refine LeO.bind ?_ (fun _ => ?_))
      | exact ih0 _ _ _ _
      | exact ih1 _ _ _ _
      | exact ih2 _ _ _ _ _ _ _ _
      | exact palinoderef1_Points.mono _ _
      | exact palinoderef1_Valid.mono _ _
      | exact palinoderef2_Of.mono _ _
      | exact LeO.none _
      | refine LeO.ite ?_ ?_
      | refine LeO.bind ?_ (fun _ => ?_)
theorem palinoderef2_To.mono : ∀ a0 a1 a2 k, LeO (palinoderef2_To.f k a0 a1 a2) (palinoderef2_To.f (k + 1) a0 a1 a2) := by
  intro a0 a1 a2 k
  obtain ⟨ih0, ih1, ih2⟩ := palinoderef2_To.mono_l k
  unfold palinoderef2_To.f
  repeat' first
      | (with_reducible exact ih0 _ _ _ _)
      | (with_reducible exact ih1 _ _ _ _)
      | (with_reducible exact ih2 _ _ _ _ _ _ _ _)
      | (with_reducible exact palinoderef1_Points.mono _ _)
      | (with_reducible exact palinoderef1_Valid.mono _ _)
      | (with_reducible exact palinoderef2_Of.mono _ _)
      | (with_reducible exact LeO.refl _)
      | (with_reducible exact LeO.none _)
      | (with_reducible refine LeO.ite ?_ ?_)
      | (with_reducible refine LeO.bind ?_ (fun _ => ?_))
      | exact ih0 _ _ _ _
      | exact ih1 _ _ _ _
      | exact ih2 _ _ _ _ _ _ _ _
      | exact palinoderef1_Points.mono _ _
      | exact palinoderef1_Valid.mono _ _
      | exact palinoderef2_Of.mono _ _
      | exact LeO.none _
      | refine LeO.ite ?_ ?_
      | refine LeO.bind ?_ (fun _ => ?_)
def palinoderef2_To.T18 : Bool × List (List Nat × List Nat) := (true, [([], []), ([], []), ([], []), ([1, 2], [1, 2]), ([3], [3]), ([4], [4]), ([0, 5, 5], [0, 5]), ([6, 6, 0, 1, 2, 3, 4, 5, 6], [6])])
def palinoderef2_To.B18 : List Nat := [0, 0, 0, 6, 14, 30, 63, 127]
theorem palinoderef2_To.tab18 : rtab .any (opsOf Try.f35 18) = palinoderef2_To.T18 := by kernel_rfl
theorem palinoderef2_To.bits18 : waitsOk palinoderef2_To.T18.2 palinoderef2_To.B18 = true := by kernel_rfl
set_option maxHeartbeats 8000000 in
set_option maxRecDepth 100000 in
theorem palinoderef2_To.calls (k : Nat) (a0 : ByteArray) (a1 : Int) (a2 : Int) (r1 : Int) (r2 : Int) (w : World) (h : palinoderef2_To.f k a0 a1 a2 = some (r1, r2)) :
  Calls Try.prog 35 #[.string a0, .int .i64 a1, .int .i64 a2] w fun e w' => e = .returned (.tuple #[.int .i64 r1, .int .i64 r2]) ∧ Below w.heap.size w w' := by
 have hu44 := Try.underlying44
 have HB := Aside0.mk (Below.refl w.heap.size w)
 have H : (if a1 < 0 then (palinoderef2_To.j0 k a0 a1 a2 true) else (if a1 > 3 then (palinoderef2_To.j0 k a0 a1 a2 true) else ((palinoderef1_Valid.f k a0).bind fun t271 => (palinoderef2_To.j0 k a0 a1 a2 (!t271))))) = some (r1, r2) := h
 clear h
 have HC4 := Aside0.mk H
 clear H
 go_enter Try.func35, Try.ntmps35
 go_upto_region 1 with (fail)
 go_cut [22] (fun v22 wc => ∃ (kq : Nat) (x22_3 : Bool), v22 = .bool x22_3 ∧ Aside0 (palinoderef2_To.j0 kq a0 a1 a2 x22_3 = some (r1, r2)) ∧ Aside0 (kq ≤ k) ∧ Aside0 (Below w.heap.size w wc))
 case first =>
  have H := HC4.out
  clear HC4
  by_cases c5 : a1 < 0
  ·rw [if_pos c5] at H
   have c5b0 : decide (a1 < 0) = true := decide_eq_true c5
   clear c5
   (first | rw [c5b0] | (simp only [i64_w, i32_w]; rw [c5b0]) | skip)
   have H' := Aside0.mk H
   clear H
   go_wp2
   go_meet
   case rel => exact ⟨_, (true), (by first | rfl | (simp; done) | (simp [*]; done)), H', ⟨by first | omega | exact Nat.le_refl _⟩, ⟨by repeat (first | (with_reducible first | exact HB.out | apply below_alloc | apply pw_below_drewN | apply below_drew1) | exact HB.out)⟩⟩
  ·rw [if_neg c5] at H
   have c5b0 : decide (a1 < 0) = false := decide_eq_false c5
   clear c5
   (first | rw [c5b0] | (simp only [i64_w, i32_w]; rw [c5b0]) | skip)
   by_cases c6 : a1 > 3
   ·rw [if_pos c6] at H
    have c6b0 : decide (3 < a1) = true := decide_eq_true c6
    clear c6
    have H' := Aside0.mk H
    clear H
    go_wp2
    go_meet
    case rel => exact ⟨_, (true), (by first | rfl | (simp; done) | (simp [*]; done)), H', ⟨by first | omega | exact Nat.le_refl _⟩, ⟨by repeat (first | (with_reducible first | exact HB.out | apply below_alloc | apply pw_below_drewN | apply below_drew1) | exact HB.out)⟩⟩
   ·rw [if_neg c6] at H
    have c6b0 : decide (3 < a1) = false := decide_eq_false c6
    clear c6
    replace H := Option.bind_eq_some_iff.mp H
    obtain ⟨t271, A70, H⟩ := H
    replace H : (palinoderef2_To.j0 k a0 a1 a2 (!t271)) = some (r1, r2) := H
    have A7 := Aside0.mk A70
    clear A70
    have H' := Aside0.mk H
    clear H
    go_wp2_with (first | (go_at_call 25; (with_reducible refine (palinoderef1_Valid.calls k a0 t271 _ A7.out).mono ?_); rintro e w' ⟨rfl, ⟨nd, rfl⟩⟩))
    go_meet
    case rel => exact ⟨_, (!t271), (by first | rfl | (simp; done) | (simp [*]; done)), H', ⟨by first | omega | exact Nat.le_refl _⟩, ⟨by repeat (first | (with_reducible first | exact HB.out | apply below_alloc | apply pw_below_drewN | apply below_drew1) | exact HB.out)⟩⟩
 case rest =>
  clear HC4
  try clear p2
  try clear c3
  try clear c5
  try clear c5b0
  try clear c6
  try clear c6b0
  obtain ⟨kq, x22_3, rfl, HA, HJ3, HB⟩ := hcut
  cases kq with
  | zero => exact absurd HA.out (by simp [palinoderef2_To.j0])
  | succ kj3 =>
   have H := HA.out
   clear HA
   simp only [palinoderef2_To.j0] at H
   by_cases c8 : x22_3 = true
   ·subst c8
    have H1 : (some (0, 12)) = some (r1, r2) := by rw [if_pos rfl] at H; exact H
    clear H
    have H := H1
    clear H1
    simp only [Option.some.injEq, Prod.mk.injEq] at H
    obtain ⟨rfl, rfl⟩ := H
    go_wp2
    go_ret2
    exact ⟨by first | rfl | (simp [errW_none, errW_some] <;> rfl) | (simp [*, errW_none, errW_some] <;> rfl), by repeat (first | (with_reducible first | exact HB.out | apply below_alloc | apply pw_below_drewN | apply below_drew1) | exact HB.out)⟩
   ·replace c8 := Bool.eq_false_iff.mpr c8
    subst c8
    have H1 : (if a2 < 0 then (palinoderef2_To.j1 kj3 a0 a1 a2 true) else ((palinoderef2_Of.f kj3 a0).bind fun bt272 => ((palinoderef2_Get.f bt272.1 bt272.2.1 bt272.2.2.1 bt272.2.2.2 a1).bind fun t276 => (palinoderef2_To.j1 kj3 a0 a1 a2 (decide (a2 > t276)))))) = some (r1, r2) := by rw [if_neg (show ¬ (false = true) by decide)] at H; exact H
    clear H
    have H := H1
    clear H1
    have HC9 := Aside0.mk H
    clear H
    go_upto_region 3 with (fail)
    go_cut [32] (fun v32 wc => ∃ (kq : Nat) (x32_8 : Bool), v32 = .bool x32_8 ∧ Aside0 (palinoderef2_To.j1 kq a0 a1 a2 x32_8 = some (r1, r2)) ∧ Aside0 (kq ≤ kj3) ∧ Aside0 (Below w.heap.size w wc))
    case first =>
     have H := HC9.out
     clear HC9
     by_cases c10 : a2 < 0
     ·rw [if_pos c10] at H
      have c10b0 : decide (a2 < 0) = true := decide_eq_true c10
      clear c10
      (first | rw [c10b0] | (simp only [i64_w, i32_w]; rw [c10b0]) | skip)
      have H' := Aside0.mk H
      clear H
      go_wp2
      go_meet
      case rel => exact ⟨_, (true), (by first | rfl | (simp; done) | (simp [*]; done)), H', ⟨by have := HJ3.out; first | omega | exact Nat.le_refl _⟩, ⟨by repeat (first | (with_reducible first | exact HB.out | apply below_alloc | apply pw_below_drewN | apply below_drew1) | exact HB.out)⟩⟩
     ·rw [if_neg c10] at H
      have c10b0 : decide (a2 < 0) = false := decide_eq_false c10
      clear c10
      (first | rw [c10b0] | (simp only [i64_w, i32_w]; rw [c10b0]) | skip)
      replace H := Option.bind_eq_some_iff.mp H
      obtain ⟨⟨t272, t273, t274, t275⟩, A110, H⟩ := H
      replace H : ((palinoderef2_Get.f t272 t273 t274 t275 a1).bind fun t276 => (palinoderef2_To.j1 kj3 a0 a1 a2 (decide (a2 > t276)))) = some (r1, r2) := H
      have A11 := Aside0.mk A110
      clear A110
      replace H := Option.bind_eq_some_iff.mp H
      obtain ⟨t276, A120, H⟩ := H
      replace H : (palinoderef2_To.j1 kj3 a0 a1 a2 (decide (a2 > t276))) = some (r1, r2) := H
      have A12 := Aside0.mk A120
      clear A120
      have H' := Aside0.mk H
      clear H
      go_wp2_with (first | (go_at_call 39; (with_reducible refine (palinoderef2_Of.calls kj3 a0 t272 t273 t274 t275 _ A11.out).mono ?_); rintro e w13 ⟨rfl, hb⟩; have n0_ := Aside0.mk (below_step (by repeat (first | (with_reducible first | exact HB.out | apply below_alloc | apply pw_below_drewN | apply below_drew1) | exact HB.out)) hb); clear HB; have HB := n0_; clear n0_; (try clear hb); (try clear hb2); (try clear hk); (try clear hi)) | (go_at_call 43; (with_reducible refine (palinoderef2_Get.calls t272 t273 t274 t275 a1 t276 _ A12.out).mono ?_); rintro e w14 ⟨rfl, hb⟩; have n0_ := Aside0.mk (below_step (by repeat (first | (with_reducible first | exact HB.out | apply below_alloc | apply pw_below_drewN | apply below_drew1) | exact HB.out)) hb); clear HB; have HB := n0_; clear n0_; (try clear hb); (try clear hb2); (try clear hk); (try clear hi)))
      go_meet
      case rel => exact ⟨_, (decide (a2 > t276)), (by first | rfl | (simp; done) | (simp [*]; done)), H', ⟨by have := HJ3.out; first | omega | exact Nat.le_refl _⟩, ⟨by repeat (first | (with_reducible first | exact HB.out | apply below_alloc | apply pw_below_drewN | apply below_drew1) | exact HB.out)⟩⟩
    case rest =>
     clear HC9
     try clear c1
     try clear p2
     try clear c3
     try clear c5
     try clear c5b0
     try clear c6
     try clear c6b0
     try clear c8
     try clear c10
     try clear c10b0
     try clear p2
     obtain ⟨kq, x32_8, rfl, HA, HJ8, HB⟩ := hcut
     cases kq with
     | zero => exact absurd HA.out (by simp [palinoderef2_To.j1])
     | succ kj8 =>
      have H := HA.out
      clear HA
      simp only [palinoderef2_To.j1] at H
      by_cases c15 : x32_8 = true
      ·subst c15
       have H1 : (some (0, 10)) = some (r1, r2) := by rw [if_pos rfl] at H; exact H
       clear H
       have H := H1
       clear H1
       simp only [Option.some.injEq, Prod.mk.injEq] at H
       obtain ⟨rfl, rfl⟩ := H
       go_wp2
       go_ret2
       exact ⟨by first | rfl | (simp [errW_none, errW_some] <;> rfl) | (simp [*, errW_none, errW_some] <;> rfl), by repeat (first | (with_reducible first | exact HB.out | apply below_alloc | apply pw_below_drewN | apply below_drew1) | exact HB.out)⟩
      ·replace c15 := Bool.eq_false_iff.mpr c15
       subst c15
       have H1 : ((palinoderef1_Points.f kj8 a0).bind fun t277 => (palinoderef2_To.l0 kj8 a1 a2 t277 0 0 0 0 0)) = some (r1, r2) := by rw [if_neg (show ¬ (false = true) by decide)] at H; exact H
       clear H
       have H := H1
       clear H1
       replace H := Option.bind_eq_some_iff.mp H
       obtain ⟨t277, A160, H⟩ := H
       replace H : (palinoderef2_To.l0 kj8 a1 a2 t277 0 0 0 0 0) = some (r1, r2) := H
       have A16 := Aside0.mk A160
       clear A160
       have H' := Aside0.mk H
       clear H
       go_wp2_with (first | ((with_reducible refine gate_callee (f := 20) rfl ?_); refine goesL_ (some 34) rfl rfl Try.func20 (by kernel_rfl) rfl #[.string a0] rfl (by (try simp only [List.map_toArray, List.map_cons, List.map_nil]); first | done | rfl | (simp only [List.length_drop, List.length_take]; rfl)) ?_; (with_reducible refine (palinoderef1_Points.calls kj8 a0 t277 _ A16.out).mono ?_); rintro e w17 ⟨v278, rfl, ho0, hb⟩; refine ⟨_, rfl, ?_⟩; have n0_ := Aside0.mk (Kd.R_lower ho0 (below_size (by repeat (first | (with_reducible first | exact HB.out | apply below_alloc | apply pw_below_drewN | apply below_drew1) | exact HB.out)))); have n1_ := Aside0.mk (below_step (by repeat (first | (with_reducible first | exact HB.out | apply below_alloc | apply pw_below_drewN | apply below_drew1) | exact HB.out)) hb); clear HB; have HO279 := n0_; have HB := n1_; clear n0_ n1_; (try clear hb); (try clear hb2); (try clear hk); (try clear hi); (try clear ho0)) | ((with_reducible refine gate_dst (N := 9) rfl ?_); refine box_event ?hg (N := 9) ?hd (cs := #[.int .i64 0, .int .i64 0, .int .i64 0, .int .i64 0]) (t := 44) ?hr ?_; (case hd => rfl); (case hg => rfl); (case hr => first | (go_simp; done) | (go_simp; rfl)); intro gb280 hg w18 hbox hb; have n0_ := Aside0.mk (Kd.R_below (by (with_reducible repeat (first | apply Kd.R_alloc | apply Kd.R_drewN | apply Kd.R_drew)); exact HO279.out) hb); have n1_ := Aside0.mk (below_step (by repeat (first | (with_reducible first | exact HB.out | apply below_alloc | apply pw_below_drewN | apply below_drew1) | exact HB.out)) hb); have n2_ := Aside0.mk (hbox); have n3_ := Aside0.mk ((by rw [hg]; exact (below_size (by repeat (first | (with_reducible first | exact HB.out | apply below_alloc | apply pw_below_drewN | apply below_drew1) | exact HB.out))) : w.heap.size ≤ gb280)); have n4_ := Aside0.mk ((by rw [hg]; exact (below_size (by repeat (first | (with_reducible first | exact HB.out | apply below_alloc | apply pw_below_drewN | apply below_drew1) | exact HB.out))) : w.heap.size ≤ gb280)); clear HO279; clear HB; have HO279 := n0_; have HB := n1_; have BK280 := n2_; have GW280 := n3_; have GE280 := n4_; clear n0_ n1_ n2_ n3_ n4_; clear hb hbox hg; have hcz19_0 : w18.cell? ⟨gb280, 0, none⟩ = some (.int .i64 0) := (blk_cell BK280.out 0).trans rfl; have hcz19_1 : w18.cell? ⟨gb280, 1, none⟩ = some (.int .i64 0) := (blk_cell BK280.out 1).trans rfl; have hcz19_2 : w18.cell? ⟨gb280, 2, none⟩ = some (.int .i64 0) := (blk_cell BK280.out 2).trans rfl; have hcz19_3 : w18.cell? ⟨gb280, 3, none⟩ = some (.int .i64 0) := (blk_cell BK280.out 3).trans rfl; have hfz19_0 := blk_frozen BK280.out 0; have hfz19_1 := blk_frozen BK280.out 1; have hfz19_2 := blk_frozen BK280.out 2; have hfz19_3 := blk_frozen BK280.out 3))
       go_loopg [10] kj8 (fun kq v10 w' => ∃ (x10_3 : Int) (x281000_3 : Int) (x281001_3 : Int) (x281002_3 : Int) (x281003_3 : Int), v10 = .int .i64 x10_3 ∧ Aside0 (palinoderef2_To.l0 kq a1 a2 t277 x10_3 x281000_3 x281001_3 x281002_3 x281003_3 = some (r1, r2)) ∧ Aside0 (kq ≤ kj8) ∧ Aside0 (Kd.R Kd.string 9 w' w.heap.size (fun _ => True) v278 t277) ∧ Aside0 (w'.heap[gb280]? = some (.cells #[.int .i64 x281000_3, .int .i64 x281001_3, .int .i64 x281002_3, .int .i64 x281003_3] 44 (0, 0))) ∧ Aside0 (Below w.heap.size w w'))
       case atStart => exact ⟨(0), (0), (0), (0), (0), (by first | rfl | (simp; done) | (simp [*]; done)), H', ⟨Nat.le_refl _⟩, ⟨by (with_reducible repeat (first | apply Kd.R_alloc | apply Kd.R_drewN | apply Kd.R_drew)); exact Kd.R_mono (Kd.R_far (p := ⟨gb280, 3, none⟩) (Kd.R_far (p := ⟨gb280, 2, none⟩) (Kd.R_far (p := ⟨gb280, 1, none⟩) (Kd.R_far (p := ⟨gb280, 0, none⟩) (Kd.R_types HO279.out BK280.out (by decide)) (fun _ hk => hk.2) (.int .i64 0)) (fun _ hk => hk.2) (.int .i64 0)) (fun _ hk => hk.2) (.int .i64 0)) (fun _ hk => hk.2) (.int .i64 0)) (fun _ hk => trivial)⟩, ⟨by (with_reducible repeat (first | refine blk_drewN ?_ _ | refine blk_drew ?_ | refine blk_alloc ?_ _)); refine blk_put (cs := #[.int .i64 0, .int .i64 0, .int .i64 0, .int .i64 0]) ?_ 3 _ rfl; (with_reducible repeat (first | refine blk_drewN ?_ _ | refine blk_drew ?_ | refine blk_alloc ?_ _)); refine blk_put (cs := #[.int .i64 0, .int .i64 0, .int .i64 0, .int .i64 0]) ?_ 2 _ rfl; (with_reducible repeat (first | refine blk_drewN ?_ _ | refine blk_drew ?_ | refine blk_alloc ?_ _)); refine blk_put (cs := #[.int .i64 0, .int .i64 0, .int .i64 0, .int .i64 0]) ?_ 1 _ rfl; (with_reducible repeat (first | refine blk_drewN ?_ _ | refine blk_drew ?_ | refine blk_alloc ?_ _)); refine blk_put (cs := #[.int .i64 0, .int .i64 0, .int .i64 0, .int .i64 0]) ?_ 0 _ rfl; (with_reducible repeat (first | refine blk_drewN ?_ _ | refine blk_drew ?_ | refine blk_alloc ?_ _)); exact BK280.out⟩, ⟨by repeat (first | (with_reducible first | exact HB.out | apply below_alloc | apply pw_below_drewN | apply below_drew1 | refine below_set ?_ GE280.out) | exact HB.out)⟩⟩
       case round =>
        clear H'
        try clear c1
        try clear c2
        try clear p2
        try clear c3
        try clear c5
        try clear c5b0
        try clear c6
        try clear c6b0
        try clear c8
        try clear c10
        try clear c10b0
        try clear c15
        try clear hcz19_0
        try clear hcz19_1
        try clear hcz19_2
        try clear hcz19_3
        try clear hfz19_0
        try clear hfz19_1
        try clear hfz19_2
        try clear hfz19_3
        try clear p2
        obtain ⟨x10_3, x281000_3, x281001_3, x281002_3, x281003_3, rfl, HA, HK3, HO_8, BK280, HB⟩ := hrel
        cases gk with
        | zero => exact absurd HA.out (by simp [palinoderef2_To.l0])
        | succ k3 =>
         have H := HA.out
         clear HA
         simp only [palinoderef2_To.l0] at H
         by_cases c20 : x10_3 ≤ (t277.length : Int)
         ·rw [if_pos c20] at H
          have c20b0 : decide (x10_3 ≤ (t277.length : Int)) = true := decide_eq_true c20
          clear c20
          replace H := Option.bind_eq_some_iff.mp H
          obtain ⟨t281, A210, H⟩ := H
          replace H : (if t281 = a2 then (some (x281000_3, 0)) else (if t281 > a2 then (if a1 = 0 then (some (0, 11)) else (some (0, 50))) else (if x10_3 < (t277.length : Int) then (if 0 ≤ x10_3 then ((palinoderef2_one.f (rdOf ByteArray.empty t277 x10_3)).bind fun bt283 => ((palinoderef2_Plus.f x281000_3 x281001_3 x281002_3 x281003_3 bt283.1 bt283.2.1 bt283.2.2.1 bt283.2.2.2).bind fun bt287 => (palinoderef2_To.l0 k3 a1 a2 t277 (wrap64 (x10_3 + 1)) bt287.1 bt287.2.1 bt287.2.2.1 bt287.2.2.2))) else (none)) else (palinoderef2_To.l0 k3 a1 a2 t277 (wrap64 (x10_3 + 1)) x281000_3 x281001_3 x281002_3 x281003_3)))) = some (r1, r2) := H
          have A21 := Aside0.mk A210
          clear A210
          by_cases c22 : t281 = a2
          ·rw [if_pos c22] at H
           have c22b0 : (t281 == a2) = true := beq_iff_eq.mpr c22
           have c22b1 : (t281 != a2) = false := bne_eq_false_iff_eq.mpr c22
           clear c22
           simp only [Option.some.injEq, Prod.mk.injEq] at H
           obtain ⟨rfl, rfl⟩ := H
           obtain ⟨Ao23, co23, eo23⟩ := Kd.R_slice HO_8.out
           subst eo23
           have hcz24_0 : wr.cell? ⟨gb280, 0, none⟩ = some (.int .i64 x281000_3) := (blk_cell BK280.out 0).trans rfl
           have hcz24_1 : wr.cell? ⟨gb280, 1, none⟩ = some (.int .i64 x281001_3) := (blk_cell BK280.out 1).trans rfl
           have hcz24_2 : wr.cell? ⟨gb280, 2, none⟩ = some (.int .i64 x281002_3) := (blk_cell BK280.out 2).trans rfl
           have hcz24_3 : wr.cell? ⟨gb280, 3, none⟩ = some (.int .i64 x281003_3) := (blk_cell BK280.out 3).trans rfl
           have hfz24_0 := blk_frozen BK280.out 0
           have hfz24_1 := blk_frozen BK280.out 1
           have hfz24_2 := blk_frozen BK280.out 2
           have hfz24_3 := blk_frozen BK280.out 3
           go_wp2_with (first | ((with_reducible refine gate_callee (f := 43) rfl ?_); refine goesL_ (some 44) rfl rfl Try.func43 (by kernel_rfl) rfl #[.agg #[.int .i64 x281000_3, .int .i64 x281001_3, .int .i64 x281002_3, .int .i64 x281003_3], .int .i64 a1] rfl (by (try simp only [List.map_toArray, List.map_cons, List.map_nil]); first | done | rfl | (simp only [List.length_drop, List.length_take]; rfl)) ?_; (with_reducible refine (palinoderef2_Get.calls x281000_3 x281001_3 x281002_3 x281003_3 a1 t281 _ A21.out).mono ?_); rintro e w25 ⟨rfl, hb⟩; refine ⟨_, rfl, ?_⟩; have n0_ := Aside0.mk (Kd.R_below (by (with_reducible repeat (first | apply Kd.R_alloc | apply Kd.R_drewN | apply Kd.R_drew)); exact HO_8.out) hb); have n1_ := Aside0.mk (blk_below (g := gb280) (o := .cells #[.int .i64 x281000_3, .int .i64 x281001_3, .int .i64 x281002_3, .int .i64 x281003_3] 44 (0, 0)) (by (with_reducible repeat (first | refine blk_drewN ?_ _ | refine blk_drew ?_ | refine blk_alloc ?_ _)); exact BK280.out) hb); have n2_ := Aside0.mk (below_step (by repeat (first | (with_reducible first | exact HB.out | apply below_alloc | apply pw_below_drewN | apply below_drew1 | refine below_set ?_ GE280.out) | exact HB.out)) hb); clear HO_8; clear BK280; clear HB; have HO_8 := n0_; have BK280 := n1_; have HB := n2_; clear n0_ n1_ n2_; (try clear hb); (try clear hb2); (try clear hk); (try clear hi); have hcz26_0 : w25.cell? ⟨gb280, 0, none⟩ = some (.int .i64 x281000_3) := (blk_cell BK280.out 0).trans rfl; have hcz26_1 : w25.cell? ⟨gb280, 1, none⟩ = some (.int .i64 x281001_3) := (blk_cell BK280.out 1).trans rfl; have hcz26_2 : w25.cell? ⟨gb280, 2, none⟩ = some (.int .i64 x281002_3) := (blk_cell BK280.out 2).trans rfl; have hcz26_3 : w25.cell? ⟨gb280, 3, none⟩ = some (.int .i64 x281003_3) := (blk_cell BK280.out 3).trans rfl; have hfz26_0 := blk_frozen BK280.out 0; have hfz26_1 := blk_frozen BK280.out 1; have hfz26_2 := blk_frozen BK280.out 2; have hfz26_3 := blk_frozen BK280.out 3))
           go_ret2
           exact ⟨by first | rfl | (simp [errW_none, errW_some] <;> rfl) | (simp [*, errW_none, errW_some] <;> rfl), by repeat (first | (with_reducible first | exact HB.out | apply below_alloc | apply pw_below_drewN | apply below_drew1 | refine below_set ?_ GE280.out) | exact HB.out)⟩
          ·rw [if_neg c22] at H
           have c22b0 : (t281 == a2) = false := beq_eq_false_iff_ne.mpr c22
           have c22b1 : (t281 != a2) = true := bne_iff_ne.mpr c22
           by_cases c27 : t281 > a2
           ·rw [if_pos c27] at H
            have c27b0 : decide (a2 < t281) = true := decide_eq_true c27
            clear c27
            by_cases c28 : a1 = 0
            ·rw [if_pos c28] at H
             have c28b0 : (a1 == 0) = true := beq_iff_eq.mpr c28
             have c28b1 : (a1 != 0) = false := bne_eq_false_iff_eq.mpr c28
             clear c28
             simp only [Option.some.injEq, Prod.mk.injEq] at H
             obtain ⟨rfl, rfl⟩ := H
             obtain ⟨Ao29, co29, eo29⟩ := Kd.R_slice HO_8.out
             subst eo29
             have hcz30_0 : wr.cell? ⟨gb280, 0, none⟩ = some (.int .i64 x281000_3) := (blk_cell BK280.out 0).trans rfl
             have hcz30_1 : wr.cell? ⟨gb280, 1, none⟩ = some (.int .i64 x281001_3) := (blk_cell BK280.out 1).trans rfl
             have hcz30_2 : wr.cell? ⟨gb280, 2, none⟩ = some (.int .i64 x281002_3) := (blk_cell BK280.out 2).trans rfl
             have hcz30_3 : wr.cell? ⟨gb280, 3, none⟩ = some (.int .i64 x281003_3) := (blk_cell BK280.out 3).trans rfl
             have hfz30_0 := blk_frozen BK280.out 0
             have hfz30_1 := blk_frozen BK280.out 1
             have hfz30_2 := blk_frozen BK280.out 2
             have hfz30_3 := blk_frozen BK280.out 3
             go_wp2_with (first | ((with_reducible refine gate_callee (f := 43) rfl ?_); refine goesL_ (some 44) rfl rfl Try.func43 (by kernel_rfl) rfl #[.agg #[.int .i64 x281000_3, .int .i64 x281001_3, .int .i64 x281002_3, .int .i64 x281003_3], .int .i64 a1] rfl (by (try simp only [List.map_toArray, List.map_cons, List.map_nil]); first | done | rfl | (simp only [List.length_drop, List.length_take]; rfl)) ?_; (with_reducible refine (palinoderef2_Get.calls x281000_3 x281001_3 x281002_3 x281003_3 a1 t281 _ A21.out).mono ?_); rintro e w31 ⟨rfl, hb⟩; refine ⟨_, rfl, ?_⟩; have n0_ := Aside0.mk (Kd.R_below (by (with_reducible repeat (first | apply Kd.R_alloc | apply Kd.R_drewN | apply Kd.R_drew)); exact HO_8.out) hb); have n1_ := Aside0.mk (blk_below (g := gb280) (o := .cells #[.int .i64 x281000_3, .int .i64 x281001_3, .int .i64 x281002_3, .int .i64 x281003_3] 44 (0, 0)) (by (with_reducible repeat (first | refine blk_drewN ?_ _ | refine blk_drew ?_ | refine blk_alloc ?_ _)); exact BK280.out) hb); have n2_ := Aside0.mk (below_step (by repeat (first | (with_reducible first | exact HB.out | apply below_alloc | apply pw_below_drewN | apply below_drew1 | refine below_set ?_ GE280.out) | exact HB.out)) hb); clear HO_8; clear BK280; clear HB; have HO_8 := n0_; have BK280 := n1_; have HB := n2_; clear n0_ n1_ n2_; (try clear hb); (try clear hb2); (try clear hk); (try clear hi)))
             go_ret2
             exact ⟨by first | rfl | (simp [errW_none, errW_some] <;> rfl) | (simp [*, errW_none, errW_some] <;> rfl), by repeat (first | (with_reducible first | exact HB.out | apply below_alloc | apply pw_below_drewN | apply below_drew1 | refine below_set ?_ GE280.out) | exact HB.out)⟩
            ·rw [if_neg c28] at H
             have c28b0 : (a1 == 0) = false := beq_eq_false_iff_ne.mpr c28
             have c28b1 : (a1 != 0) = true := bne_iff_ne.mpr c28
             simp only [Option.some.injEq, Prod.mk.injEq] at H
             obtain ⟨rfl, rfl⟩ := H
             obtain ⟨Ao32, co32, eo32⟩ := Kd.R_slice HO_8.out
             subst eo32
             have hcz33_0 : wr.cell? ⟨gb280, 0, none⟩ = some (.int .i64 x281000_3) := (blk_cell BK280.out 0).trans rfl
             have hcz33_1 : wr.cell? ⟨gb280, 1, none⟩ = some (.int .i64 x281001_3) := (blk_cell BK280.out 1).trans rfl
             have hcz33_2 : wr.cell? ⟨gb280, 2, none⟩ = some (.int .i64 x281002_3) := (blk_cell BK280.out 2).trans rfl
             have hcz33_3 : wr.cell? ⟨gb280, 3, none⟩ = some (.int .i64 x281003_3) := (blk_cell BK280.out 3).trans rfl
             have hfz33_0 := blk_frozen BK280.out 0
             have hfz33_1 := blk_frozen BK280.out 1
             have hfz33_2 := blk_frozen BK280.out 2
             have hfz33_3 := blk_frozen BK280.out 3
             go_wp2_with (first | ((with_reducible refine gate_callee (f := 43) rfl ?_); refine goesL_ (some 44) rfl rfl Try.func43 (by kernel_rfl) rfl #[.agg #[.int .i64 x281000_3, .int .i64 x281001_3, .int .i64 x281002_3, .int .i64 x281003_3], .int .i64 a1] rfl (by (try simp only [List.map_toArray, List.map_cons, List.map_nil]); first | done | rfl | (simp only [List.length_drop, List.length_take]; rfl)) ?_; (with_reducible refine (palinoderef2_Get.calls x281000_3 x281001_3 x281002_3 x281003_3 a1 t281 _ A21.out).mono ?_); rintro e w34 ⟨rfl, hb⟩; refine ⟨_, rfl, ?_⟩; have n0_ := Aside0.mk (Kd.R_below (by (with_reducible repeat (first | apply Kd.R_alloc | apply Kd.R_drewN | apply Kd.R_drew)); exact HO_8.out) hb); have n1_ := Aside0.mk (blk_below (g := gb280) (o := .cells #[.int .i64 x281000_3, .int .i64 x281001_3, .int .i64 x281002_3, .int .i64 x281003_3] 44 (0, 0)) (by (with_reducible repeat (first | refine blk_drewN ?_ _ | refine blk_drew ?_ | refine blk_alloc ?_ _)); exact BK280.out) hb); have n2_ := Aside0.mk (below_step (by repeat (first | (with_reducible first | exact HB.out | apply below_alloc | apply pw_below_drewN | apply below_drew1 | refine below_set ?_ GE280.out) | exact HB.out)) hb); clear HO_8; clear BK280; clear HB; have HO_8 := n0_; have BK280 := n1_; have HB := n2_; clear n0_ n1_ n2_; (try clear hb); (try clear hb2); (try clear hk); (try clear hi)))
             go_ret2
             exact ⟨by first | rfl | (simp [errW_none, errW_some] <;> rfl) | (simp [*, errW_none, errW_some] <;> rfl), by repeat (first | (with_reducible first | exact HB.out | apply below_alloc | apply pw_below_drewN | apply below_drew1 | refine below_set ?_ GE280.out) | exact HB.out)⟩
           ·rw [if_neg c27] at H
            have c27b0 : decide (a2 < t281) = false := decide_eq_false c27
            clear c27
            by_cases c35 : x10_3 < (t277.length : Int)
            ·rw [if_pos c35] at H
             have c35b0 : decide (x10_3 < (t277.length : Int)) = true := decide_eq_true c35
             clear c35
             by_cases c36 : 0 ≤ x10_3
             ·rw [if_pos c36] at H
              have c36b0 : decide (0 ≤ x10_3) = true := decide_eq_true c36
              clear c36
              replace H := Option.bind_eq_some_iff.mp H
              obtain ⟨⟨t283, t284, t285, t286⟩, A370, H⟩ := H
              replace H : ((palinoderef2_Plus.f x281000_3 x281001_3 x281002_3 x281003_3 t283 t284 t285 t286).bind fun bt287 => (palinoderef2_To.l0 k3 a1 a2 t277 (wrap64 (x10_3 + 1)) bt287.1 bt287.2.1 bt287.2.2.1 bt287.2.2.2)) = some (r1, r2) := H
              have A37 := Aside0.mk A370
              clear A370
              replace H := Option.bind_eq_some_iff.mp H
              obtain ⟨⟨t287, t288, t289, t290⟩, A380, H⟩ := H
              replace H : (palinoderef2_To.l0 k3 a1 a2 t277 (wrap64 (x10_3 + 1)) t287 t288 t289 t290) = some (r1, r2) := H
              have A38 := Aside0.mk A380
              clear A380
              have H' := Aside0.mk H
              clear H
              obtain ⟨Ao39, co39, eo39⟩ := Kd.R_slice HO_8.out
              subst eo39
              have hcz40_0 : wr.cell? ⟨gb280, 0, none⟩ = some (.int .i64 x281000_3) := (blk_cell BK280.out 0).trans rfl
              have hcz40_1 : wr.cell? ⟨gb280, 1, none⟩ = some (.int .i64 x281001_3) := (blk_cell BK280.out 1).trans rfl
              have hcz40_2 : wr.cell? ⟨gb280, 2, none⟩ = some (.int .i64 x281002_3) := (blk_cell BK280.out 2).trans rfl
              have hcz40_3 : wr.cell? ⟨gb280, 3, none⟩ = some (.int .i64 x281003_3) := (blk_cell BK280.out 3).trans rfl
              have hfz40_0 := blk_frozen BK280.out 0
              have hfz40_1 := blk_frozen BK280.out 1
              have hfz40_2 := blk_frozen BK280.out 2
              have hfz40_3 := blk_frozen BK280.out 3
              try go_wp2_with (first | ((with_reducible refine gate_callee (f := 43) rfl ?_); refine goesL_ (some 44) rfl rfl Try.func43 (by kernel_rfl) rfl #[.agg #[.int .i64 x281000_3, .int .i64 x281001_3, .int .i64 x281002_3, .int .i64 x281003_3], .int .i64 a1] rfl (by (try simp only [List.map_toArray, List.map_cons, List.map_nil]); first | done | rfl | (simp only [List.length_drop, List.length_take]; rfl)) ?_; (with_reducible refine (palinoderef2_Get.calls x281000_3 x281001_3 x281002_3 x281003_3 a1 t281 _ A21.out).mono ?_); rintro e w41 ⟨rfl, hb⟩; refine ⟨_, rfl, ?_⟩; have n0_ := Aside0.mk (Kd.R_below (by (with_reducible repeat (first | apply Kd.R_alloc | apply Kd.R_drewN | apply Kd.R_drew)); exact HO_8.out) hb); have n1_ := Aside0.mk (blk_below (g := gb280) (o := .cells #[.int .i64 x281000_3, .int .i64 x281001_3, .int .i64 x281002_3, .int .i64 x281003_3] 44 (0, 0)) (by (with_reducible repeat (first | refine blk_drewN ?_ _ | refine blk_drew ?_ | refine blk_alloc ?_ _)); exact BK280.out) hb); have n2_ := Aside0.mk (below_step (by repeat (first | (with_reducible first | exact HB.out | apply below_alloc | apply pw_below_drewN | apply below_drew1 | refine below_set ?_ GE280.out) | exact HB.out)) hb); clear HO_8; clear BK280; clear HB; have HO_8 := n0_; have BK280 := n1_; have HB := n2_; clear n0_ n1_ n2_; (try clear hb); (try clear hb2); (try clear hk); (try clear hi)))
              have n0_ := Aside0.mk (Kd.R_drew HO_8.out)
              have n1_ := Aside0.mk (blk_drew BK280.out)
              have n2_ := Aside0.mk (below_drew1 HB.out)
              clear HO_8
              clear BK280
              clear HB
              have HO_8 := n0_
              have BK280 := n1_
              have HB := n2_
              clear n0_ n1_ n2_
              have p282 : 0 ≤ (x10_3 : Int) := of_decide_eq_true (by first | (with_reducible assumption) | assumption)
              have q282 : x10_3 < (t277.length : Int) := of_decide_eq_true (by first | (with_reducible assumption) | assumption)
              obtain ⟨ad282, e282, hx282_0⟩ := Kd.at_string (Kd.R_reads' HO_8.out).2.2 x10_3 p282 q282
              cases e282
              replace p282 := eq_true p282
              replace q282 := eq_true q282
              refine start_ (n := 8) (S := fun w' => w'.cell? ⟨gb280, 0, none⟩ = some (.int .i64 x281000_3) ∧ w'.cell? ⟨gb280, 1, none⟩ = some (.int .i64 x281001_3) ∧ w'.cell? ⟨gb280, 2, none⟩ = some (.int .i64 x281002_3) ∧ w'.cell? ⟨gb280, 3, none⟩ = some (.int .i64 x281003_3) ∧ w'.cell? (ad282.add (x10_3).toNat) = some (.string (rdOf ByteArray.empty t277 x10_3))) (ds := [7]) #[FB,FB,FB,FB,FB,FB,FB,FB] (by kernel_rfl) rfl rfl ⟨(blk_cell BK280.out 0).trans rfl, (blk_cell BK280.out 1).trans rfl, (blk_cell BK280.out 2).trans rfl, (blk_cell BK280.out 3).trans rfl, hx282_0⟩ (fun hHeld => ?_); refine with_tabW palinoderef2_To.tab18 palinoderef2_To.bits18 (fun HT_ HW_ => ?_)
              generalize w41.drew = w42 at HO_8 BK280 HB hx282_0 hHeld ⊢
              refine pure_ (i := 1) (N := some 60) (v := ?_) (a' := ?_) #[FB,TB,FB,FB,FB,FB,FB,FB] rfl rfl (any_of HT_.out (by kernel_rfl)) (fun _ _ _ h => h) (Or.inl ⟨by rfl, ?_⟩) ?_ ?_
              rotate_left
              ·intro w'
               go_simp
               with_reducible rfl
              rotate_left
              ·simp only [Act.put, List.setIfInBounds_toArray, List.set_cons_zero, List.set_cons_succ, i64_w, i32_w]
               rfl
              refine pure_ (i := 2) (N := some 61) (v := ?_) (a' := ?_) #[FB,TB,TB,FB,FB,FB,FB,FB] rfl rfl (any_of HT_.out (by kernel_rfl)) (fun _ _ _ h => h) (Or.inl ⟨by rfl, ?_⟩) ?_ ?_
              rotate_left
              ·intro w'
               go_simp
               with_reducible rfl
              rotate_left
              ·simp only [Act.put, List.setIfInBounds_toArray, List.set_cons_zero, List.set_cons_succ, i64_w, i32_w]
               rfl
              refine pure_ (i := 3) (N := some 62) (v := ?_) (a' := ?_) #[FB,TB,TB,TB,FB,FB,FB,FB] rfl rfl (any_of HT_.out (by kernel_rfl)) (fun _ _ _ h => h) (Or.inl ⟨by rfl, ?_⟩) ?_ ?_
              rotate_left
              ·intro w'
               go_simp
               with_reducible rfl
              rotate_left
              ·simp only [Act.put, List.setIfInBounds_toArray, List.set_cons_zero, List.set_cons_succ, i64_w, i32_w]
               rfl
              refine take_ (i := 0) (N := some 59) (v := ?_) (a' := ?_) #[TB,TB,TB,TB,FB,FB,FB,FB] rfl rfl (take_ofW HT_.out HW_.out (by kernel_rfl)) (fun _ _ _ h => h) (Or.inl ⟨by rfl, ?_⟩) hHeld ?_ ?_
              rotate_left
              ·rintro w' ⟨s0, s1, s2, s3, s4⟩
               go_simp
               with_reducible rfl
              rotate_left
              ·simp only [Act.put, List.setIfInBounds_toArray, List.set_cons_zero, List.set_cons_succ, i64_w, i32_w]
               rfl
              refine take_ (i := 4) (N := some 63) (v := ?_) (a' := ?_) #[TB,TB,TB,TB,TB,FB,FB,FB] rfl rfl (take_ofW HT_.out HW_.out (by kernel_rfl)) (fun _ _ _ h => h) (Or.inl ⟨by rfl, ?_⟩) hHeld ?_ ?_
              rotate_left
              ·rintro w' ⟨s0, s1, s2, s3, s4⟩
               go_simp
               with_reducible rfl
              rotate_left
              ·simp only [Act.put, List.setIfInBounds_toArray, List.set_cons_zero, List.set_cons_succ, i64_w, i32_w]
               rfl
              refine one_ (i := 5) (N := some 64) #[TB,TB,TB,TB,TB,TB,FB,FB] rfl rfl (one_of HT_.out (by kernel_rfl)) (by decide) (fun K hK => ?_)
              refine goes_ Try.func50 (by kernel_rfl) rfl #[.string (rdOf ByteArray.empty t277 x10_3)] (by rfl) rfl rfl (by (try simp only [List.map_toArray, List.map_cons, List.map_nil]); first | done | rfl | (simp only [List.length_drop, List.length_take]; rfl)) ?_
              with_reducible refine (palinoderef2_one.calls (rdOf ByteArray.empty t277 x10_3) t283 t284 t285 t286 _ A37.out).mono ?_
              rintro e w43 ⟨rfl, hb⟩
              have HS4_ := (hb.cell (World.block_lt_of_cell? _ _ (hHeld.2.2.2.2))).trans (hHeld.2.2.2.2)
              refine ⟨_, rfl, ?_⟩
              have n0_ := Aside0.mk (Kd.R_below (by (with_reducible repeat (first | apply Kd.R_alloc | apply Kd.R_drewN | apply Kd.R_drew)); exact HO_8.out) hb)
              have n1_ := Aside0.mk (blk_below (g := gb280) (o := .cells #[.int .i64 x281000_3, .int .i64 x281001_3, .int .i64 x281002_3, .int .i64 x281003_3] 44 (0, 0)) (by (with_reducible repeat (first | refine blk_drewN ?_ _ | refine blk_drew ?_ | refine blk_alloc ?_ _)); exact BK280.out) hb)
              have n2_ := Aside0.mk (below_step (by repeat (first | (with_reducible first | exact HB.out | apply below_alloc | apply pw_below_drewN | apply below_drew1 | refine below_set ?_ GE280.out) | exact HB.out)) hb)
              clear HO_8
              clear BK280
              clear HB
              have HO_8 := n0_
              have BK280 := n1_
              have HB := n2_
              clear n0_ n1_ n2_
              (try clear hb)
              (try clear hb2)
              (try clear hk)
              (try clear hi)
              refine hK.out _ _ ⟨(blk_cell BK280.out 0).trans rfl, (blk_cell BK280.out 1).trans rfl, (blk_cell BK280.out 2).trans rfl, (blk_cell BK280.out 3).trans rfl, HS4_⟩ (fun hHeld => ?_)
              clear hK K
              refine norm_ (a' := ?_) ?_ ?_
              rotate_left
              ·show Act.put _ (some 64) _ = _
               simp only [Act.put, List.setIfInBounds_toArray, List.set_cons_zero, List.set_cons_succ, i64_w, i32_w]
               rfl
              refine one_ (i := 6) (N := some 65) #[TB,TB,TB,TB,TB,TB,TB,FB] rfl rfl (one_of HT_.out (by kernel_rfl)) (by decide) (fun K hK => ?_)
              refine goes_ Try.func41 (by kernel_rfl) rfl #[.agg #[.int .i64 x281000_3, .int .i64 x281001_3, .int .i64 x281002_3, .int .i64 x281003_3], .agg #[.int .i64 t283, .int .i64 t284, .int .i64 t285, .int .i64 t286]] (by rfl) rfl rfl (by (try simp only [List.map_toArray, List.map_cons, List.map_nil]); first | done | rfl | (simp only [List.length_drop, List.length_take]; rfl)) ?_
              with_reducible refine (palinoderef2_Plus.calls x281000_3 x281001_3 x281002_3 x281003_3 t283 t284 t285 t286 t287 t288 t289 t290 _ A38.out).mono ?_
              rintro e w44 ⟨rfl, hb⟩
              have HS4_ := (hb.cell (World.block_lt_of_cell? _ _ (hHeld.2.2.2.2))).trans (hHeld.2.2.2.2)
              refine ⟨_, rfl, ?_⟩
              have n0_ := Aside0.mk (Kd.R_below (by (with_reducible repeat (first | apply Kd.R_alloc | apply Kd.R_drewN | apply Kd.R_drew)); exact HO_8.out) hb)
              have n1_ := Aside0.mk (blk_below (g := gb280) (o := .cells #[.int .i64 x281000_3, .int .i64 x281001_3, .int .i64 x281002_3, .int .i64 x281003_3] 44 (0, 0)) (by (with_reducible repeat (first | refine blk_drewN ?_ _ | refine blk_drew ?_ | refine blk_alloc ?_ _)); exact BK280.out) hb)
              have n2_ := Aside0.mk (below_step (by repeat (first | (with_reducible first | exact HB.out | apply below_alloc | apply pw_below_drewN | apply below_drew1 | refine below_set ?_ GE280.out) | exact HB.out)) hb)
              clear HO_8
              clear BK280
              clear HB
              have HO_8 := n0_
              have BK280 := n1_
              have HB := n2_
              clear n0_ n1_ n2_
              (try clear hb)
              (try clear hb2)
              (try clear hk)
              (try clear hi)
              refine hK.out _ _ ⟨(blk_cell BK280.out 0).trans rfl, (blk_cell BK280.out 1).trans rfl, (blk_cell BK280.out 2).trans rfl, (blk_cell BK280.out 3).trans rfl, HS4_⟩ (fun hHeld => ?_)
              clear hK K
              refine norm_ (a' := ?_) ?_ ?_
              rotate_left
              ·show Act.put _ (some 65) _ = _
               simp only [Act.put, List.setIfInBounds_toArray, List.set_cons_zero, List.set_cons_succ, i64_w, i32_w]
               rfl
              refine last_ (i := 7) (N := none) #[TB,TB,TB,TB,TB,TB,TB,TB] rfl rfl (one_of HT_.out (by kernel_rfl)) (by decide) (fun K hK => ?_)
              have hs45 : w44.cell? ⟨gb280, 0, none⟩ = some (.int .i64 x281000_3) := (blk_cell BK280.out 0).trans rfl
              have hfs45 := blk_frozen BK280.out 0
              have hs46 : w44.cell? ⟨gb280, 1, none⟩ = some (.int .i64 x281001_3) := (blk_cell BK280.out 1).trans rfl
              have hfs46 := blk_frozen BK280.out 1
              have hs47 : w44.cell? ⟨gb280, 2, none⟩ = some (.int .i64 x281002_3) := (blk_cell BK280.out 2).trans rfl
              have hfs47 := blk_frozen BK280.out 2
              have hs48 : w44.cell? ⟨gb280, 3, none⟩ = some (.int .i64 x281003_3) := (blk_cell BK280.out 3).trans rfl
              have hfs48 := blk_frozen BK280.out 3
              refine skip_ (w1 := ?_) (by rfl) rfl ?_ ?_
              rotate_left
              ·go_simp
               rfl
              refine hK.out _ _ ?_
              clear hK K
              refine done_ (done_of HT_.out (by kernel_rfl)) ?_
              try go_wp2
              go_roundg k3
              case measure => have := HJ3.out; have := HJ8.out; have := HK3.out; omega
              case rel => exact ⟨(wrap64 (x10_3 + 1)), (t287), (t288), (t289), (t290), (by first | rfl | (simp; done) | (simp [*]; done)), H', ⟨by have := HJ3.out; have := HJ8.out; have := HK3.out; omega⟩, ⟨by (with_reducible repeat (first | apply Kd.R_alloc | apply Kd.R_drewN | apply Kd.R_drew)); exact Kd.R_mono (Kd.R_far (p := ⟨gb280, 3, none⟩) (Kd.R_far (p := ⟨gb280, 2, none⟩) (Kd.R_far (p := ⟨gb280, 1, none⟩) (Kd.R_far (p := ⟨gb280, 0, none⟩) (Kd.R_types HO_8.out BK280.out (by decide)) (fun _ hk => hk.2) (.int .i64 t287)) (fun _ hk => hk.2) (.int .i64 t288)) (fun _ hk => hk.2) (.int .i64 t289)) (fun _ hk => hk.2) (.int .i64 t290)) (fun _ hk => trivial)⟩, ⟨by (with_reducible repeat (first | refine blk_drewN ?_ _ | refine blk_drew ?_ | refine blk_alloc ?_ _)); refine blk_put (cs := #[.int .i64 t287, .int .i64 t288, .int .i64 t289, .int .i64 x281003_3]) ?_ 3 _ rfl; (with_reducible repeat (first | refine blk_drewN ?_ _ | refine blk_drew ?_ | refine blk_alloc ?_ _)); refine blk_put (cs := #[.int .i64 t287, .int .i64 t288, .int .i64 x281002_3, .int .i64 x281003_3]) ?_ 2 _ rfl; (with_reducible repeat (first | refine blk_drewN ?_ _ | refine blk_drew ?_ | refine blk_alloc ?_ _)); refine blk_put (cs := #[.int .i64 t287, .int .i64 x281001_3, .int .i64 x281002_3, .int .i64 x281003_3]) ?_ 1 _ rfl; (with_reducible repeat (first | refine blk_drewN ?_ _ | refine blk_drew ?_ | refine blk_alloc ?_ _)); refine blk_put (cs := #[.int .i64 x281000_3, .int .i64 x281001_3, .int .i64 x281002_3, .int .i64 x281003_3]) ?_ 0 _ rfl; (with_reducible repeat (first | refine blk_drewN ?_ _ | refine blk_drew ?_ | refine blk_alloc ?_ _)); exact BK280.out⟩, ⟨by repeat (first | (with_reducible first | exact HB.out | apply below_alloc | apply pw_below_drewN | apply below_drew1 | refine below_set ?_ GE280.out) | exact HB.out)⟩⟩
             ·rw [if_neg c36] at H
              exact absurd H (by simp)
            ·rw [if_neg c35] at H
             have c35b0 : decide (x10_3 < (t277.length : Int)) = false := decide_eq_false c35
             clear c35
             have H' := Aside0.mk H
             clear H
             obtain ⟨Ao49, co49, eo49⟩ := Kd.R_slice HO_8.out
             subst eo49
             have hcz50_0 : wr.cell? ⟨gb280, 0, none⟩ = some (.int .i64 x281000_3) := (blk_cell BK280.out 0).trans rfl
             have hcz50_1 : wr.cell? ⟨gb280, 1, none⟩ = some (.int .i64 x281001_3) := (blk_cell BK280.out 1).trans rfl
             have hcz50_2 : wr.cell? ⟨gb280, 2, none⟩ = some (.int .i64 x281002_3) := (blk_cell BK280.out 2).trans rfl
             have hcz50_3 : wr.cell? ⟨gb280, 3, none⟩ = some (.int .i64 x281003_3) := (blk_cell BK280.out 3).trans rfl
             have hfz50_0 := blk_frozen BK280.out 0
             have hfz50_1 := blk_frozen BK280.out 1
             have hfz50_2 := blk_frozen BK280.out 2
             have hfz50_3 := blk_frozen BK280.out 3
             go_wp2_with (first | ((with_reducible refine gate_callee (f := 43) rfl ?_); refine goesL_ (some 44) rfl rfl Try.func43 (by kernel_rfl) rfl #[.agg #[.int .i64 x281000_3, .int .i64 x281001_3, .int .i64 x281002_3, .int .i64 x281003_3], .int .i64 a1] rfl (by (try simp only [List.map_toArray, List.map_cons, List.map_nil]); first | done | rfl | (simp only [List.length_drop, List.length_take]; rfl)) ?_; (with_reducible refine (palinoderef2_Get.calls x281000_3 x281001_3 x281002_3 x281003_3 a1 t281 _ A21.out).mono ?_); rintro e w51 ⟨rfl, hb⟩; refine ⟨_, rfl, ?_⟩; have n0_ := Aside0.mk (Kd.R_below (by (with_reducible repeat (first | apply Kd.R_alloc | apply Kd.R_drewN | apply Kd.R_drew)); exact HO_8.out) hb); have n1_ := Aside0.mk (blk_below (g := gb280) (o := .cells #[.int .i64 x281000_3, .int .i64 x281001_3, .int .i64 x281002_3, .int .i64 x281003_3] 44 (0, 0)) (by (with_reducible repeat (first | refine blk_drewN ?_ _ | refine blk_drew ?_ | refine blk_alloc ?_ _)); exact BK280.out) hb); have n2_ := Aside0.mk (below_step (by repeat (first | (with_reducible first | exact HB.out | apply below_alloc | apply pw_below_drewN | apply below_drew1 | refine below_set ?_ GE280.out) | exact HB.out)) hb); clear HO_8; clear BK280; clear HB; have HO_8 := n0_; have BK280 := n1_; have HB := n2_; clear n0_ n1_ n2_; (try clear hb); (try clear hb2); (try clear hk); (try clear hi)))
             go_roundg k3
             case measure => have := HJ3.out; have := HJ8.out; have := HK3.out; omega
             case rel => exact ⟨(wrap64 (x10_3 + 1)), (x281000_3), (x281001_3), (x281002_3), (x281003_3), (by first | rfl | (simp; done) | (simp [*]; done)), H', ⟨by have := HJ3.out; have := HJ8.out; have := HK3.out; omega⟩, ⟨by (with_reducible repeat (first | apply Kd.R_alloc | apply Kd.R_drewN | apply Kd.R_drew)); exact HO_8.out⟩, ⟨by (with_reducible repeat (first | refine blk_drewN ?_ _ | refine blk_drew ?_ | refine blk_alloc ?_ _)); exact BK280.out⟩, ⟨by repeat (first | (with_reducible first | exact HB.out | apply below_alloc | apply pw_below_drewN | apply below_drew1 | refine below_set ?_ GE280.out) | exact HB.out)⟩⟩
         ·rw [if_neg c20] at H
          have c20b0 : decide (x10_3 ≤ (t277.length : Int)) = false := decide_eq_false c20
          clear c20
          simp only [Option.some.injEq, Prod.mk.injEq] at H
          obtain ⟨rfl, rfl⟩ := H
          obtain ⟨Ao52, co52, eo52⟩ := Kd.R_slice HO_8.out
          subst eo52
          go_wp2
          go_ret2
          exact ⟨by first | rfl | (simp [errW_none, errW_some] <;> rfl) | (simp [*, errW_none, errW_some] <;> rfl), by repeat (first | (with_reducible first | exact HB.out | apply below_alloc | apply pw_below_drewN | apply below_drew1 | refine below_set ?_ GE280.out) | exact HB.out)⟩

end Go.Proofs.Ytgepcdpnjinadaa.PX
end

section
-- MACHINE SIDE, written by wip/drive.py (this session's driver over the kit's print) for this claim. Lean checks it.
namespace Go.Proofs.Ytgepcdpnjinadaa.PX
open Go.RowKit Go.Proofs.YtgepcdpnjinadaaW.PrintWords Go.Proofs.YtgepcdpnjinadaaW.PrintLast Go.Proofs.YtgepcdpnjinadaaW.PrintMore
attribute [local go_sem] max2_int min2_int max_two min_two max_three min_three max_four min_four   -- for this text's walks alone
set_option linter.unusedVariables false
set_option linter.unusedSimpArgs false

/-! ### palinoderef2_From: function 37 -/
mutual
def palinoderef2_From.j0 : Nat → ByteArray → Int → Int → Bool → Option (Int × Int)
  | 0, _, _, _, _ => none
  | k + 1, x0, x1, x2, x18 => if x18 = true then (some (0, 12)) else (if x2 < 0 then (palinoderef2_From.j1 k x0 x1 x2 true) else (palinoderef2_From.j1 k x0 x1 x2 (decide (x2 > (x0.size : Int)))))
def palinoderef2_From.j1 : Nat → ByteArray → Int → Int → Bool → Option (Int × Int)
  | 0, _, _, _, _ => none
  | k + 1, x0, x1, x2, x26 => if x26 = true then (some (0, 10)) else ((palinoderef1_IsEdge.f k x0 x2).bind fun t292 => (if t292 = true then (if 0 ≤ x2 then (if x2 ≤ (x0.size : Int) then ((palinoderef2_Of.f k (x0.extract 0 (x2 : Int).toNat)).bind fun bt293 => ((palinoderef2_Get.f bt293.1 bt293.2.1 bt293.2.2.1 bt293.2.2.2 x1).bind fun t297 => (some (t297, 0)))) else (none)) else (none)) else (some (0, 11))))
end
def palinoderef2_From.f (k : Nat) (a0 : ByteArray) (a1 : Int) (a2 : Int) : Option (Int × Int) := if a1 < 0 then (palinoderef2_From.j0 k a0 a1 a2 true) else (if a1 > 3 then (palinoderef2_From.j0 k a0 a1 a2 true) else ((palinoderef1_Valid.f k a0).bind fun t291 => (palinoderef2_From.j0 k a0 a1 a2 (!t291))))
theorem palinoderef2_From.mono_l : ∀ k, (∀ y0 y1 y2 y3, LeO (palinoderef2_From.j0 k y0 y1 y2 y3) (palinoderef2_From.j0 (k + 1) y0 y1 y2 y3)) ∧ (∀ y0 y1 y2 y3, LeO (palinoderef2_From.j1 k y0 y1 y2 y3) (palinoderef2_From.j1 (k + 1) y0 y1 y2 y3))
  | 0 => ⟨fun _ _ _ _ r h => by simp [palinoderef2_From.j0] at h, fun _ _ _ _ r h => by simp [palinoderef2_From.j1] at h⟩
  | k + 1 => by
    obtain ⟨ih0, ih1⟩ := palinoderef2_From.mono_l k
    refine ⟨?_, ?_⟩
    · intro y0 y1 y2 y3
      unfold palinoderef2_From.j0
      repeat' first
      | (with_reducible exact ih0 _ _ _ _)
      | (with_reducible exact ih1 _ _ _ _)
      | (with_reducible exact palinoderef1_IsEdge.mono _ _ _)
      | (with_reducible exact palinoderef1_Valid.mono _ _)
      | (with_reducible exact palinoderef2_Of.mono _ _)
      | (with_reducible exact LeO.refl _)
      | (with_reducible exact LeO.none _)
      | (with_reducible refine LeO.ite ?_ ?_)
      | (with_reducible refine LeO.bind ?_ (fun _ => ?_))
      | exact ih0 _ _ _ _
      | exact ih1 _ _ _ _
      | exact palinoderef1_IsEdge.mono _ _ _
      | exact palinoderef1_Valid.mono _ _
      | exact palinoderef2_Of.mono _ _
      | exact LeO.none _
      | refine LeO.ite ?_ ?_
      | refine LeO.bind ?_ (fun _ => ?_)
    · intro y0 y1 y2 y3
      unfold palinoderef2_From.j1
      repeat' first
      | (with_reducible exact ih0 _ _ _ _)
      | (with_reducible exact ih1 _ _ _ _)
      | (with_reducible exact palinoderef1_IsEdge.mono _ _ _)
      | (with_reducible exact palinoderef1_Valid.mono _ _)
      | (with_reducible exact palinoderef2_Of.mono _ _)
      | (with_reducible exact LeO.refl _)
      | (with_reducible exact LeO.none _)
      | (with_reducible refine LeO.ite ?_ ?_)
      | (with_reducible refine LeO.bind ?_ (fun _ => ?_))
      | exact ih0 _ _ _ _
      | exact ih1 _ _ _ _
      | exact palinoderef1_IsEdge.mono _ _ _
      | exact palinoderef1_Valid.mono _ _
      | exact palinoderef2_Of.mono _ _
      | exact LeO.none _
      | refine LeO.ite ?_ ?_
      | refine LeO.bind ?_ (fun _ => ?_)
theorem palinoderef2_From.mono : ∀ a0 a1 a2 k, LeO (palinoderef2_From.f k a0 a1 a2) (palinoderef2_From.f (k + 1) a0 a1 a2) := by
  intro a0 a1 a2 k
  obtain ⟨ih0, ih1⟩ := palinoderef2_From.mono_l k
  unfold palinoderef2_From.f
  repeat' first
      | (with_reducible exact ih0 _ _ _ _)
      | (with_reducible exact ih1 _ _ _ _)
      | (with_reducible exact palinoderef1_IsEdge.mono _ _ _)
      | (with_reducible exact palinoderef1_Valid.mono _ _)
      | (with_reducible exact palinoderef2_Of.mono _ _)
      | (with_reducible exact LeO.refl _)
      | (with_reducible exact LeO.none _)
      | (with_reducible refine LeO.ite ?_ ?_)
      | (with_reducible refine LeO.bind ?_ (fun _ => ?_))
      | exact ih0 _ _ _ _
      | exact ih1 _ _ _ _
      | exact palinoderef1_IsEdge.mono _ _ _
      | exact palinoderef1_Valid.mono _ _
      | exact palinoderef2_Of.mono _ _
      | exact LeO.none _
      | refine LeO.ite ?_ ?_
      | refine LeO.bind ?_ (fun _ => ?_)
set_option maxHeartbeats 8000000 in
set_option maxRecDepth 100000 in
theorem palinoderef2_From.calls (k : Nat) (a0 : ByteArray) (a1 : Int) (a2 : Int) (r1 : Int) (r2 : Int) (w : World) (h : palinoderef2_From.f k a0 a1 a2 = some (r1, r2)) :
  Calls Try.prog 37 #[.string a0, .int .i64 a1, .int .i64 a2] w fun e w' => e = .returned (.tuple #[.int .i64 r1, .int .i64 r2]) ∧ Below w.heap.size w w' := by
 have HB := Aside0.mk (Below.refl w.heap.size w)
 have H : (if a1 < 0 then (palinoderef2_From.j0 k a0 a1 a2 true) else (if a1 > 3 then (palinoderef2_From.j0 k a0 a1 a2 true) else ((palinoderef1_Valid.f k a0).bind fun t291 => (palinoderef2_From.j0 k a0 a1 a2 (!t291))))) = some (r1, r2) := h
 clear h
 have HC4 := Aside0.mk H
 clear H
 go_enter Try.func37, Try.ntmps37
 go_upto_region 1 with (fail)
 go_cut [18] (fun v18 wc => ∃ (kq : Nat) (x18_3 : Bool), v18 = .bool x18_3 ∧ Aside0 (palinoderef2_From.j0 kq a0 a1 a2 x18_3 = some (r1, r2)) ∧ Aside0 (kq ≤ k) ∧ Aside0 (Below w.heap.size w wc))
 case first =>
  have H := HC4.out
  clear HC4
  by_cases c5 : a1 < 0
  ·rw [if_pos c5] at H
   have c5b0 : decide (a1 < 0) = true := decide_eq_true c5
   clear c5
   (first | rw [c5b0] | (simp only [i64_w, i32_w]; rw [c5b0]) | skip)
   have H' := Aside0.mk H
   clear H
   go_wp2
   go_meet
   case rel => exact ⟨_, (true), (by first | rfl | (simp; done) | (simp [*]; done)), H', ⟨by first | omega | exact Nat.le_refl _⟩, ⟨by repeat (first | (with_reducible first | exact HB.out | apply below_alloc | apply pw_below_drewN | apply below_drew1) | exact HB.out)⟩⟩
  ·rw [if_neg c5] at H
   have c5b0 : decide (a1 < 0) = false := decide_eq_false c5
   clear c5
   (first | rw [c5b0] | (simp only [i64_w, i32_w]; rw [c5b0]) | skip)
   by_cases c6 : a1 > 3
   ·rw [if_pos c6] at H
    have c6b0 : decide (3 < a1) = true := decide_eq_true c6
    clear c6
    have H' := Aside0.mk H
    clear H
    go_wp2
    go_meet
    case rel => exact ⟨_, (true), (by first | rfl | (simp; done) | (simp [*]; done)), H', ⟨by first | omega | exact Nat.le_refl _⟩, ⟨by repeat (first | (with_reducible first | exact HB.out | apply below_alloc | apply pw_below_drewN | apply below_drew1) | exact HB.out)⟩⟩
   ·rw [if_neg c6] at H
    have c6b0 : decide (3 < a1) = false := decide_eq_false c6
    clear c6
    replace H := Option.bind_eq_some_iff.mp H
    obtain ⟨t291, A70, H⟩ := H
    replace H : (palinoderef2_From.j0 k a0 a1 a2 (!t291)) = some (r1, r2) := H
    have A7 := Aside0.mk A70
    clear A70
    have H' := Aside0.mk H
    clear H
    go_wp2_with (first | (go_at_call 25; (with_reducible refine (palinoderef1_Valid.calls k a0 t291 _ A7.out).mono ?_); rintro e w' ⟨rfl, ⟨nd, rfl⟩⟩))
    go_meet
    case rel => exact ⟨_, (!t291), (by first | rfl | (simp; done) | (simp [*]; done)), H', ⟨by first | omega | exact Nat.le_refl _⟩, ⟨by repeat (first | (with_reducible first | exact HB.out | apply below_alloc | apply pw_below_drewN | apply below_drew1) | exact HB.out)⟩⟩
 case rest =>
  clear HC4
  try clear p2
  try clear c3
  try clear c5
  try clear c5b0
  try clear c6
  try clear c6b0
  obtain ⟨kq, x18_3, rfl, HA, HJ3, HB⟩ := hcut
  cases kq with
  | zero => exact absurd HA.out (by simp [palinoderef2_From.j0])
  | succ kj3 =>
   have H := HA.out
   clear HA
   simp only [palinoderef2_From.j0] at H
   by_cases c8 : x18_3 = true
   ·subst c8
    have H1 : (some (0, 12)) = some (r1, r2) := by rw [if_pos rfl] at H; exact H
    clear H
    have H := H1
    clear H1
    simp only [Option.some.injEq, Prod.mk.injEq] at H
    obtain ⟨rfl, rfl⟩ := H
    go_wp2
    go_ret2
    exact ⟨by first | rfl | (simp [errW_none, errW_some] <;> rfl) | (simp [*, errW_none, errW_some] <;> rfl), by repeat (first | (with_reducible first | exact HB.out | apply below_alloc | apply pw_below_drewN | apply below_drew1) | exact HB.out)⟩
   ·replace c8 := Bool.eq_false_iff.mpr c8
    subst c8
    have H1 : (if a2 < 0 then (palinoderef2_From.j1 kj3 a0 a1 a2 true) else (palinoderef2_From.j1 kj3 a0 a1 a2 (decide (a2 > (a0.size : Int))))) = some (r1, r2) := by rw [if_neg (show ¬ (false = true) by decide)] at H; exact H
    clear H
    have H := H1
    clear H1
    have HC9 := Aside0.mk H
    clear H
    go_upto_region 3 with (fail)
    go_cut [26] (fun v26 wc => ∃ (kq : Nat) (x26_8 : Bool), v26 = .bool x26_8 ∧ Aside0 (palinoderef2_From.j1 kq a0 a1 a2 x26_8 = some (r1, r2)) ∧ Aside0 (kq ≤ kj3) ∧ Aside0 (Below w.heap.size w wc))
    case first =>
     have H := HC9.out
     clear HC9
     by_cases c10 : a2 < 0
     ·rw [if_pos c10] at H
      have c10b0 : decide (a2 < 0) = true := decide_eq_true c10
      clear c10
      (first | rw [c10b0] | (simp only [i64_w, i32_w]; rw [c10b0]) | skip)
      have H' := Aside0.mk H
      clear H
      go_wp2
      go_meet
      case rel => exact ⟨_, (true), (by first | rfl | (simp; done) | (simp [*]; done)), H', ⟨by have := HJ3.out; first | omega | exact Nat.le_refl _⟩, ⟨by repeat (first | (with_reducible first | exact HB.out | apply below_alloc | apply pw_below_drewN | apply below_drew1) | exact HB.out)⟩⟩
     ·rw [if_neg c10] at H
      have c10b0 : decide (a2 < 0) = false := decide_eq_false c10
      clear c10
      (first | rw [c10b0] | (simp only [i64_w, i32_w]; rw [c10b0]) | skip)
      have H' := Aside0.mk H
      clear H
      go_wp2
      go_meet
      case rel => exact ⟨_, (decide (a2 > (a0.size : Int))), (by first | rfl | (simp; done) | (simp [*]; done)), H', ⟨by have := HJ3.out; first | omega | exact Nat.le_refl _⟩, ⟨by repeat (first | (with_reducible first | exact HB.out | apply below_alloc | apply pw_below_drewN | apply below_drew1) | exact HB.out)⟩⟩
    case rest =>
     clear HC9
     try clear c1
     try clear p2
     try clear c3
     try clear c5
     try clear c5b0
     try clear c6
     try clear c6b0
     try clear c8
     try clear c10
     try clear c10b0
     try clear p2
     obtain ⟨kq, x26_8, rfl, HA, HJ8, HB⟩ := hcut
     cases kq with
     | zero => exact absurd HA.out (by simp [palinoderef2_From.j1])
     | succ kj8 =>
      have H := HA.out
      clear HA
      simp only [palinoderef2_From.j1] at H
      by_cases c11 : x26_8 = true
      ·subst c11
       have H1 : (some (0, 10)) = some (r1, r2) := by rw [if_pos rfl] at H; exact H
       clear H
       have H := H1
       clear H1
       simp only [Option.some.injEq, Prod.mk.injEq] at H
       obtain ⟨rfl, rfl⟩ := H
       go_wp2
       go_ret2
       exact ⟨by first | rfl | (simp [errW_none, errW_some] <;> rfl) | (simp [*, errW_none, errW_some] <;> rfl), by repeat (first | (with_reducible first | exact HB.out | apply below_alloc | apply pw_below_drewN | apply below_drew1) | exact HB.out)⟩
      ·replace c11 := Bool.eq_false_iff.mpr c11
       subst c11
       have H1 : ((palinoderef1_IsEdge.f kj8 a0 a2).bind fun t292 => (if t292 = true then (if 0 ≤ a2 then (if a2 ≤ (a0.size : Int) then ((palinoderef2_Of.f kj8 (a0.extract 0 (a2 : Int).toNat)).bind fun bt293 => ((palinoderef2_Get.f bt293.1 bt293.2.1 bt293.2.2.1 bt293.2.2.2 a1).bind fun t297 => (some (t297, 0)))) else (none)) else (none)) else (some (0, 11)))) = some (r1, r2) := by rw [if_neg (show ¬ (false = true) by decide)] at H; exact H
       clear H
       have H := H1
       clear H1
       replace H := Option.bind_eq_some_iff.mp H
       obtain ⟨t292, A120, H⟩ := H
       replace H : (if t292 = true then (if 0 ≤ a2 then (if a2 ≤ (a0.size : Int) then ((palinoderef2_Of.f kj8 (a0.extract 0 (a2 : Int).toNat)).bind fun bt293 => ((palinoderef2_Get.f bt293.1 bt293.2.1 bt293.2.2.1 bt293.2.2.2 a1).bind fun t297 => (some (t297, 0)))) else (none)) else (none)) else (some (0, 11))) = some (r1, r2) := H
       have A12 := Aside0.mk A120
       clear A120
       by_cases c13 : t292 = true
       ·subst c13
        have H1 : (if 0 ≤ a2 then (if a2 ≤ (a0.size : Int) then ((palinoderef2_Of.f kj8 (a0.extract 0 (a2 : Int).toNat)).bind fun bt293 => ((palinoderef2_Get.f bt293.1 bt293.2.1 bt293.2.2.1 bt293.2.2.2 a1).bind fun t297 => (some (t297, 0)))) else (none)) else (none)) = some (r1, r2) := by rw [if_pos rfl] at H; exact H
        clear H
        have H := H1
        clear H1
        by_cases c14 : 0 ≤ a2
        ·rw [if_pos c14] at H
         have c14b0 := eq_true c14
         have c14b1 : decide (0 ≤ a2) = true := decide_eq_true c14
         clear c14
         by_cases c15 : a2 ≤ (a0.size : Int)
         ·rw [if_pos c15] at H
          have c15b0 := eq_true c15
          have c15b1 : decide (a2 ≤ (a0.size : Int)) = true := decide_eq_true c15
          clear c15
          replace H := Option.bind_eq_some_iff.mp H
          obtain ⟨⟨t293, t294, t295, t296⟩, A160, H⟩ := H
          replace H : ((palinoderef2_Get.f t293 t294 t295 t296 a1).bind fun t297 => (some (t297, 0))) = some (r1, r2) := H
          have A16 := Aside0.mk A160
          clear A160
          replace H := Option.bind_eq_some_iff.mp H
          obtain ⟨t297, A170, H⟩ := H
          replace H : (some (t297, 0)) = some (r1, r2) := H
          have A17 := Aside0.mk A170
          clear A170
          simp only [Option.some.injEq, Prod.mk.injEq] at H
          obtain ⟨rfl, rfl⟩ := H
          go_wp2_with (first | ((with_reducible refine gate_callee (f := 29) rfl ?_); refine goesL_ (some 29) rfl rfl Try.func29 (by kernel_rfl) rfl #[.string a0, .int .i64 a2] rfl (by (try simp only [List.map_toArray, List.map_cons, List.map_nil]); first | done | rfl | (simp only [List.length_drop, List.length_take]; rfl)) ?_; (with_reducible refine (palinoderef1_IsEdge.calls kj8 a0 a2 true _ A12.out).mono ?_); rintro e w' ⟨rfl, ⟨nd, rfl⟩⟩; refine ⟨_, rfl, ?_⟩) | ((with_reducible refine gate_callee (f := 39) rfl ?_); refine goesL_ (some 34) rfl rfl Try.func39 (by kernel_rfl) rfl #[.string (a0.extract 0 (a2 : Int).toNat)] rfl (by (try simp only [List.map_toArray, List.map_cons, List.map_nil]); first | done | rfl | (simp only [List.length_drop, List.length_take]; rfl)) ?_; (with_reducible refine (palinoderef2_Of.calls kj8 (a0.extract 0 (a2 : Int).toNat) t293 t294 t295 t296 _ A16.out).mono ?_); rintro e w18 ⟨rfl, hb⟩; refine ⟨_, rfl, ?_⟩; have n0_ := Aside0.mk (below_step (by repeat (first | (with_reducible first | exact HB.out | apply below_alloc | apply pw_below_drewN | apply below_drew1) | exact HB.out)) hb); clear HB; have HB := n0_; clear n0_; (try clear hb); (try clear hb2); (try clear hk); (try clear hi)) | ((with_reducible refine gate_callee (f := 43) rfl ?_); refine goesL_ (some 36) rfl rfl Try.func43 (by kernel_rfl) rfl #[.agg #[.int .i64 t293, .int .i64 t294, .int .i64 t295, .int .i64 t296], .int .i64 a1] rfl (by (try simp only [List.map_toArray, List.map_cons, List.map_nil]); first | done | rfl | (simp only [List.length_drop, List.length_take]; rfl)) ?_; (with_reducible refine (palinoderef2_Get.calls t293 t294 t295 t296 a1 t297 _ A17.out).mono ?_); rintro e w19 ⟨rfl, hb⟩; refine ⟨_, rfl, ?_⟩; have n0_ := Aside0.mk (below_step (by repeat (first | (with_reducible first | exact HB.out | apply below_alloc | apply pw_below_drewN | apply below_drew1) | exact HB.out)) hb); clear HB; have HB := n0_; clear n0_; (try clear hb); (try clear hb2); (try clear hk); (try clear hi)))
          go_ret2
          exact ⟨by first | rfl | (simp [errW_none, errW_some] <;> rfl) | (simp [*, errW_none, errW_some] <;> rfl), by repeat (first | (with_reducible first | exact HB.out | apply below_alloc | apply pw_below_drewN | apply below_drew1) | exact HB.out)⟩
         ·rw [if_neg c15] at H
          exact absurd H (by simp)
        ·rw [if_neg c14] at H
         exact absurd H (by simp)
       ·replace c13 := Bool.eq_false_iff.mpr c13
        subst c13
        have H1 : (some (0, 11)) = some (r1, r2) := by rw [if_neg (show ¬ (false = true) by decide)] at H; exact H
        clear H
        have H := H1
        clear H1
        simp only [Option.some.injEq, Prod.mk.injEq] at H
        obtain ⟨rfl, rfl⟩ := H
        go_wp2_with (first | ((with_reducible refine gate_callee (f := 29) rfl ?_); refine goesL_ (some 29) rfl rfl Try.func29 (by kernel_rfl) rfl #[.string a0, .int .i64 a2] rfl (by (try simp only [List.map_toArray, List.map_cons, List.map_nil]); first | done | rfl | (simp only [List.length_drop, List.length_take]; rfl)) ?_; (with_reducible refine (palinoderef1_IsEdge.calls kj8 a0 a2 false _ A12.out).mono ?_); rintro e w' ⟨rfl, ⟨nd, rfl⟩⟩; refine ⟨_, rfl, ?_⟩))
        go_ret2
        exact ⟨by first | rfl | (simp [errW_none, errW_some] <;> rfl) | (simp [*, errW_none, errW_some] <;> rfl), by repeat (first | (with_reducible first | exact HB.out | apply below_alloc | apply pw_below_drewN | apply below_drew1) | exact HB.out)⟩

end Go.Proofs.Ytgepcdpnjinadaa.PX
end

section
/- The printed From of package count and the reference of layer 2 (Plus, Of, Get, To, From), against the plain law of counts. For strings of at most 100000 bytes. -/
namespace Go.Proofs.Ytgepcdpnjinadaa.V
open Go.RowKit Go.Proofs.Ytgepcdpnjinadaa.PX Go.Proofs.YtgepcdpnjinadaaW.PrintWords Go.Proofs.YtgepcdpnjinadaaW.PrintLast Go.Proofs.Ytgepcdpnjinadaa.U Go.Lib
set_option linter.unusedVariables false

def cntS (s : ByteArray) : C4 := cnt (points (L s))
theorem Of_eq (s : ByteArray) (hs : s.size ≤ 1000000) : count_Of.f s = some (cntS s) := by unfold count_Of.f; rw [if_pos hs]; rfl
theorem Is_eq (k : Int) : count_Is.f k = some (decide (0 ≤ k ∧ k ≤ 3)) := by
  unfold count_Is.f
  by_cases a : k ≥ 0
  · rw [if_pos a]; exact congrArg some (decide_eq_decide.2 (by omega))
  · rw [if_neg a, decide_eq_false (show ¬ (0 ≤ k ∧ k ≤ 3) by omega)]
theorem To_eq (s : ByteArray) (hs : s.size ≤ 1000000) (k n : Int) : count_To.f s k n = some (toSpec s k n) := by unfold count_To.f; rw [if_pos hs]
def fromSpec (s : ByteArray) (k at_ : Int) : Int × Int :=
  if (0 ≤ k ∧ k ≤ 3) ∧ valid (L s) = true then (if at_ < 0 ∨ (s.size : Int) < at_ then (0, 10) else if edge s at_ = true then (get4 (cntS (s.extract 0 at_.toNat)) k, 0) else (0, 11)) else (0, 12)
theorem From_eq (k : Nat) (s : ByteArray) (hs : s.size ≤ 100000) (hk : s.size + 12 ≤ k) (kd at_ : Int) : count_From.f k s kd at_ = some (fromSpec s kd at_) := by
  obtain ⟨k, rfl⟩ : ∃ m, k = m + 2 := ⟨k - 2, by omega⟩
  unfold count_From.f fromSpec
  rw [Is_eq, Option.bind_some]
  by_cases c : 0 ≤ kd ∧ kd ≤ 3
  · rw [decide_eq_true c, if_pos rfl, Valid_eq _ s (by omega) (by omega), Option.bind_some]
    by_cases v : valid (L s) = true
    · rw [if_pos ⟨c, v⟩, v]
      simp only [count_From.j0, Bool.not_true, Bool.false_eq_true, if_false]
      by_cases a : at_ < 0
      · rw [if_pos a, if_pos (.inl a)]; simp only [count_From.j1, if_true]
      · rw [if_neg a]
        by_cases b : at_ > (s.size : Int)
        · rw [decide_eq_true b, if_pos (.inr b)]; simp only [count_From.j1, if_true]
        · rw [decide_eq_false b, if_neg (by omega)]
          simp only [count_From.j1]
          rw [if_neg (by simp), IsEdge_eq k s (by omega) (by omega), Option.bind_some]
          by_cases e : edge s at_ = true
          · have hz : (s.extract 0 at_.toNat).size ≤ s.size := by rw [L_size, L_extract, List.length_take, List.length_drop, L_len]; omega
            rw [if_pos e, if_pos e, if_pos (by omega), if_pos (by omega), Of_eq _ (by omega), Of_eq s (by omega), Option.bind_some, Option.bind_some]
            have hg : ∀ x : C4, count_Get.f x.1 x.2.1 x.2.2.1 x.2.2.2 kd = some (get4 x kd) := fun x => rfl
            rw [hg, hg, Option.bind_some, Option.bind_some]
            by_cases q : ((cntS (s.extract 0 at_.toNat)).1 == (cntS s).1 && ((cntS (s.extract 0 at_.toNat)).2.1 == (cntS s).2.1 && ((cntS (s.extract 0 at_.toNat)).2.2.1 == (cntS s).2.2.1 && ((cntS (s.extract 0 at_.toNat)).2.2.2 == (cntS s).2.2.2)))) = true
            · rw [if_pos q]
              simp only [Bool.and_eq_true, beq_iff_eq] at q
              have : cntS (s.extract 0 at_.toNat) = cntS s := by
                apply Prod.ext q.1; apply Prod.ext q.2.1; exact Prod.ext q.2.2.1 q.2.2.2
              rw [this]
            · rw [if_neg q]
          · rw [if_neg e, if_neg e]
    · rw [Bool.not_eq_true] at v
      rw [if_neg (by rw [v]; simp), v]
      simp only [count_From.j0, Bool.not_false, if_true]
  · rw [decide_eq_false c, if_neg (by simp), if_neg (by intro h; exact c h.1)]
    simp only [count_From.j0, if_true]
theorem rGet_eq (x : C4) (k : Int) : palinoderef2_Get.f x.1 x.2.1 x.2.2.1 x.2.2.2 k = some (get4 x k) := by
  unfold palinoderef2_Get.f get4
  by_cases a : k = 0
  · rw [if_pos a, if_pos a]
  rw [if_neg a, if_neg a]
  by_cases b : k = 1
  · rw [if_pos b, if_pos b]
  rw [if_neg b, if_neg b]
  by_cases c : k = 2
  · rw [if_pos c, if_pos c]
  rw [if_neg c, if_neg c]
  by_cases d : k = 3
  · rw [if_pos d, if_pos d]
  · rw [if_neg d, if_neg d]
theorem enc_length {v : Int} (h : sc v) : ((enc v).length : Int) = if v < 128 then 1 else if v < 2048 then 2 else if v < 65536 then 3 else 4 := by
  have h' := h
  unfold sc at h'
  by_cases c1 : v < 128
  · rw [if_pos c1, enc_one (by omega) c1]; rfl
  rw [if_neg c1]
  by_cases c2 : v < 2048
  · rw [if_pos c2, enc_two (by omega) c2]; rfl
  rw [if_neg c2]
  by_cases c3 : v < 65536
  · rw [if_pos c3, enc_three (by omega) c3 h]; rfl
  · rw [if_neg c3, enc_four (by omega) (by omega)]; rfl
theorem enc_10 {v : Int} (h : sc v) : enc v = [10] ↔ v = 10 := by
  constructor
  · intro e
    have h10 : enc 10 = [10] := by decide +kernel
    have a := enc_dec v h []
    have b := enc_dec 10 (by decide) []
    rw [List.append_nil, e] at a
    rw [List.append_nil, h10] at b
    rw [a] at b
    exact (Prod.mk.inj b).2
  · rintro rfl; decide +kernel
theorem rone_eq {v : Int} (h : sc v) : palinoderef2_one.f (encS v) = some (one4 v) := by
  unfold palinoderef2_one.f one4
  have hz : ((encS v).size : Int) = ((enc v).length : Int) := by rw [L_size, L_encS]
  have e1 : (if ((encS v).size : Int) = 4 then (2 : Int) else 1) = cu v := by
    rw [hz, enc_length h]; unfold cu; unfold sc at h
    by_cases c : 65536 ≤ v
    · rw [if_pos c, if_pos (by rw [if_neg (by omega), if_neg (by omega), if_neg (by omega)])]
    · rw [if_neg c, if_neg]
      by_cases c1 : v < 128
      · rw [if_pos c1]; omega
      rw [if_neg c1]
      by_cases c2 : v < 2048
      · rw [if_pos c2]; omega
      · rw [if_neg c2, if_pos (by omega)]; omega
  have e2 : (if (encS v).toList = ([10] : List UInt8) then (1 : Int) else 0) = cl v := by
    rw [toList_L, L_encS]
    unfold cl
    by_cases c : v = 10
    · rw [if_pos c, if_pos ((enc_10 h).2 c)]
    · rw [if_neg c, if_neg (fun e => c ((enc_10 h).1 e))]
  rw [e1, e2, hz]
theorem rPlus_eq {us : List Int} (hl : us.length ≤ 1000000) (v : Int) (x : C4) (hx : x = cnt us) (y : C4) (hy : y = one4 v) : palinoderef2_Plus.f x.1 x.2.1 x.2.2.1 x.2.2.2 y.1 y.2.1 y.2.2.1 y.2.2.2 = some (cnt (us ++ [v])) := by
  unfold palinoderef2_Plus.f
  rw [cnt_step (us := us) (c0 := (cnt us).1) (c1 := (cnt us).2.1) (c2 := (cnt us).2.2.1) (c3 := (cnt us).2.2.2) rfl hl v, hx, hy]
  rfl
theorem rOf_l (p : List Int) (hp : ∀ v ∈ p, sc v) (hl : p.length ≤ 100000) : ∀ (vs us : List Int) (k : Nat), p = us ++ vs → vs.length + 2 ≤ k →
    palinoderef2_Of.l0 k (p.map encS) (us.length : Int) (cnt us).1 (cnt us).2.1 (cnt us).2.2.1 (cnt us).2.2.2 = some (cnt p) := by
  intro vs
  induction vs with
  | nil =>
    intro us k h hk
    obtain ⟨k, rfl⟩ : ∃ m, k = m + 1 := ⟨k - 1, by omega⟩
    rw [List.append_nil] at h
    subst h
    simp only [palinoderef2_Of.l0]
    rw [if_neg (by simp)]
  | cons v vs ih =>
    intro us k h hk
    obtain ⟨k, rfl⟩ : ∃ m, k = m + 1 := ⟨k - 1, by omega⟩
    have hlt : us.length < p.length := by rw [h]; simp
    have hv : sc v := hp v (by rw [h]; simp)
    have e1 : rdOf ByteArray.empty (p.map encS) (us.length : Int) = encS v := by simp [rdOf, h]
    simp only [palinoderef2_Of.l0]
    rw [if_pos (by simp; omega), if_pos (by omega), e1, rone_eq hv, Option.bind_some, rPlus_eq (us := us) (by omega) v (cnt us) rfl (one4 v) rfl, Option.bind_some, w64 (by omega) (by omega)]
    have := ih (us ++ [v]) k (by rw [h]; simp) (by simp at hk; omega)
    rw [List.length_append] at this
    exact this
theorem rOf_eq (k : Nat) (s : ByteArray) (hs : s.size ≤ 100000) (hk : 4 * s.size + 12 ≤ k) : palinoderef2_Of.f k s = some (cntS s) := by
  have hl := points_le (L s)
  rw [L_len] at hl
  unfold palinoderef2_Of.f
  rw [rPoints_eq k s hs hk, Option.bind_some]
  exact rOf_l (points (L s)) (points_sc _) (by omega) (points (L s)) [] k rfl (by omega)
theorem get4_add (a b : C4) (k : Int) : get4 (add4 a b) k = get4 a k + get4 b k := by
  unfold get4 add4
  by_cases h0 : k = 0
  · simp [h0]
  by_cases h1 : k = 1
  · simp [h1]
  by_cases h2 : k = 2
  · simp [h2]
  by_cases h3 : k = 3
  · simp [h3]
  · simp [h0, h1, h2, h3]
theorem get4_one (v k : Int) : 0 ≤ get4 (one4 v) k ∧ ((k = 1 ∨ k = 3) → get4 (one4 v) k ≤ 1) := by
  have a := enc_len v
  have b := cu_range v
  have c := cl_range v
  unfold get4 one4
  by_cases h0 : k = 0
  · simp [h0]
  by_cases h1 : k = 1
  · simp [h1]
  by_cases h2 : k = 2
  · simp [h2]; omega
  by_cases h3 : k = 3
  · simp [h3]; omega
  · simp [h0, h1, h2, h3]
theorem rTo_l (k n : Int) (hk03 : 0 ≤ k ∧ k ≤ 3) (p : List Int) (hp : ∀ v ∈ p, sc v) (hl : p.length ≤ 100000) (hn : n ≤ get4 (cnt p) k) : ∀ (vs us : List Int) (f : Nat), p = us ++ vs → vs.length + 3 ≤ f → ((k = 1 ∨ k = 3) → get4 (cnt us) k ≤ n) →
    palinoderef2_To.l0 f k n (p.map encS) (us.length : Int) (cnt us).1 (cnt us).2.1 (cnt us).2.2.1 (cnt us).2.2.2 = some (toEnd (stopAt k n vs (cnt us)) k n) := by
  intro vs
  induction vs with
  | nil =>
    intro us f h hf hi
    obtain ⟨f, rfl⟩ : ∃ m, f = m + 1 := ⟨f - 1, by omega⟩
    rw [List.append_nil] at h
    subst h
    simp only [palinoderef2_To.l0]
    rw [if_pos (by simp), rGet_eq, Option.bind_some, stopAt]
    unfold toEnd
    by_cases a : get4 (cnt p) k = n
    · rw [if_pos a, if_pos a]
    · rw [if_neg a, if_neg a, if_pos (by omega)]
      by_cases b : k = 0
      · rw [if_pos b, if_neg (by omega)]
      · rw [if_neg b, if_pos]
        rcases (by omega : k = 1 ∨ k = 2 ∨ k = 3) with c | c | c
        · have := hi (.inl c); omega
        · exact c
        · have := hi (.inr c); omega
  | cons v vs ih =>
    intro us f h hf hi
    obtain ⟨f, rfl⟩ : ∃ m, f = m + 1 := ⟨f - 1, by omega⟩
    have hlt : us.length < p.length := by rw [h]; simp
    have hv : sc v := hp v (by rw [h]; simp)
    have e1 : rdOf ByteArray.empty (p.map encS) (us.length : Int) = encS v := by simp [rdOf, h]
    simp only [palinoderef2_To.l0]
    rw [if_pos (by simp; omega), rGet_eq, Option.bind_some, stopAt]
    by_cases a : get4 (cnt us) k = n
    · rw [if_pos a, if_pos (show n ≤ get4 (cnt us) k by omega)]
      unfold toEnd
      rw [if_pos a]
    · rw [if_neg a]
      by_cases g : get4 (cnt us) k > n
      · rw [if_pos g, if_pos (show n ≤ get4 (cnt us) k by omega)]
        unfold toEnd
        rw [if_neg a]
        by_cases b : k = 0
        · rw [if_pos b, if_neg (by omega)]
        · rw [if_neg b, if_pos]
          rcases (by omega : k = 1 ∨ k = 2 ∨ k = 3) with c | c | c
          · have := hi (.inl c); omega
          · exact c
          · have := hi (.inr c); omega
      · rw [if_neg g, if_neg (show ¬ n ≤ get4 (cnt us) k by omega), if_pos (by simp; omega), if_pos (by omega), e1, rone_eq hv, Option.bind_some, rPlus_eq (us := us) (by omega) v (cnt us) rfl (one4 v) rfl, Option.bind_some, w64 (by omega) (by omega)]
        have o := get4_one v k
        have := ih (us ++ [v]) f (by rw [h]; simp) (by simp at hf; omega) (fun hk => by rw [cnt_snoc, get4_add]; have := o.2 hk; omega)
        rw [List.length_append] at this
        rw [← cnt_snoc]
        exact this
theorem rTo_eq (f : Nat) (s : ByteArray) (hs : s.size ≤ 100000) (hf : 4 * s.size + 20 ≤ f) (k n : Int) : palinoderef2_To.f f s k n = some (toSpec s k n) := by
  obtain ⟨f, rfl⟩ : ∃ m, f = m + 2 := ⟨f - 2, by omega⟩
  have hl := points_le (L s)
  rw [L_len] at hl
  unfold palinoderef2_To.f toSpec
  by_cases a : k < 0
  · rw [if_pos a, if_neg (by omega)]; simp only [palinoderef2_To.j0, if_true]
  rw [if_neg a]
  by_cases b : k > 3
  · rw [if_pos b, if_neg (by omega)]; simp only [palinoderef2_To.j0, if_true]
  rw [if_neg b, rValid_eq _ s (by omega) (by omega), Option.bind_some]
  by_cases v : valid (L s) = true
  · rw [if_pos ⟨by omega, v⟩, v]
    simp only [palinoderef2_To.j0, Bool.not_true, Bool.false_eq_true, if_false]
    by_cases c : n < 0
    · rw [if_pos c, if_pos (.inl c)]; simp only [palinoderef2_To.j1, if_true]
    · rw [if_neg c, rOf_eq _ s hs (by omega), Option.bind_some, rGet_eq, Option.bind_some]
      by_cases d : n > get4 (cntS s) k
      · rw [decide_eq_true d, if_pos (.inr d)]; simp only [palinoderef2_To.j1, if_true]
      · rw [decide_eq_false d, if_neg (show ¬ (n < 0 ∨ get4 (cnt (points (L s))) k < n) by intro h; rcases h with h | h; exact c h; exact d h)]
        simp only [palinoderef2_To.j1]
        rw [if_neg (by simp), rPoints_eq f s hs (by omega), Option.bind_some]
        exact rTo_l k n (by omega) (points (L s)) (points_sc _) (by omega) (by unfold cntS at d; omega) (points (L s)) [] f rfl (by omega) (fun _ => by
          show get4 (0, 0, 0, 0) k ≤ n
          unfold get4; simp; omega)
  · rw [Bool.not_eq_true] at v
    rw [if_neg (by rw [v]; simp), v]
    simp only [palinoderef2_To.j0, Bool.not_false, if_true]
theorem rFrom_eq (f : Nat) (s : ByteArray) (hs : s.size ≤ 100000) (hf : 4 * s.size + 20 ≤ f) (k at_ : Int) : palinoderef2_From.f f s k at_ = some (fromSpec s k at_) := by
  obtain ⟨f, rfl⟩ : ∃ m, f = m + 2 := ⟨f - 2, by omega⟩
  unfold palinoderef2_From.f fromSpec
  by_cases a : k < 0
  · rw [if_pos a, if_neg (by omega)]; simp only [palinoderef2_From.j0, if_true]
  rw [if_neg a]
  by_cases b : k > 3
  · rw [if_pos b, if_neg (by omega)]; simp only [palinoderef2_From.j0, if_true]
  rw [if_neg b, rValid_eq _ s (by omega) (by omega), Option.bind_some]
  by_cases v : valid (L s) = true
  · rw [if_pos ⟨by omega, v⟩, v]
    simp only [palinoderef2_From.j0, Bool.not_true, Bool.false_eq_true, if_false]
    by_cases c : at_ < 0
    · rw [if_pos c, if_pos (.inl c)]; simp only [palinoderef2_From.j1, if_true]
    · rw [if_neg c]
      by_cases d : at_ > (s.size : Int)
      · rw [decide_eq_true d, if_pos (.inr d)]; simp only [palinoderef2_From.j1, if_true]
      · rw [decide_eq_false d, if_neg (by omega)]
        simp only [palinoderef2_From.j1]
        rw [if_neg (by simp), rIsEdge_eq f s (by omega) (by omega), Option.bind_some]
        by_cases e : edge s at_ = true
        · have hz : (s.extract 0 at_.toNat).size ≤ s.size := by rw [L_size, L_extract, List.length_take, List.length_drop, L_len]; omega
          rw [if_pos e, if_pos e, if_pos (by omega), if_pos (by omega), rOf_eq _ _ (by omega) (by omega), Option.bind_some, rGet_eq, Option.bind_some]
        · rw [if_neg e, if_neg e]
  · rw [Bool.not_eq_true] at v
    rw [if_neg (by rw [v]; simp), v]
    simp only [palinoderef2_From.j0, Bool.not_false, if_true]

end Go.Proofs.Ytgepcdpnjinadaa.V
end

section
/- The printed known() of layer 2 comes to true; contracts of package count in plain words; further plain facts on counts at edges. For strings of at most 100000 bytes. -/
namespace Go.Proofs.Ytgepcdpnjinadaa.V
open Go.RowKit Go.Proofs.Ytgepcdpnjinadaa.PX Go.Proofs.YtgepcdpnjinadaaW.PrintWords Go.Proofs.YtgepcdpnjinadaaW.PrintLast Go.Proofs.Ytgepcdpnjinadaa.U Go.Lib
set_option linter.unusedVariables false

def kn : ByteArray := ⟨#[97, 10, 240, 159, 152, 128, 98]⟩
theorem kn_L : L kn = encs [97, 10, 128512, 98] := by decide +kernel
theorem kn_p : points (L kn) = [97, 10, 128512, 98] := by rw [kn_L]; exact points_encs' _ (by decide)
theorem kn_v : valid (L kn) = true := by rw [kn_L]; exact valid_encs' _ (by decide)
theorem known2 (k : Nat) (hk : 40 ≤ k) : palinodelaw2_known.f k = some true := by
  have t1 : toSpec kn 2 4 = (6, 0) := by unfold toSpec; rw [kn_v, kn_p]; decide +kernel
  have t2 : toSpec kn 2 3 = (0, 50) := by unfold toSpec; rw [kn_v, kn_p]; decide +kernel
  have t3 : toSpec kn 9 0 = (0, 12) := by unfold toSpec; rw [kn_v]; decide +kernel
  have e2 : edge kn 2 = true := by unfold edge; rw [kn_v]; decide +kernel
  have e3 : edge kn 3 = false := by unfold edge; rw [kn_v]; decide +kernel
  have f1 : fromSpec kn 3 2 = (1, 0) := by
    unfold fromSpec cntS
    rw [kn_v, e2, show L (kn.extract 0 (Int.toNat 2)) = encs [97, 10] by decide +kernel, points_encs' _ (by decide)]
    decide +kernel
  have f2 : fromSpec kn 1 3 = (0, 11) := by
    unfold fromSpec
    rw [kn_v, e3]
    decide +kernel
  have c1 : cntS kn = (7, 4, 5, 1) := by unfold cntS; rw [kn_p]; decide +kernel
  have hz : kn.size = 7 := by decide
  unfold palinodelaw2_known.f
  change (count_To.f kn 2 4).bind _ = _
  rw [To_eq kn (by omega), t1, Option.bind_some]
  change (count_To.f kn 2 3).bind _ = _
  rw [To_eq kn (by omega), t2, Option.bind_some]
  change (count_From.f k kn 3 2).bind _ = _
  rw [From_eq k kn (by omega) (by omega), f1, Option.bind_some]
  change (count_From.f k kn 1 3).bind _ = _
  rw [From_eq k kn (by omega) (by omega), f2, Option.bind_some]
  change (count_To.f kn 9 0).bind _ = _
  rw [To_eq kn (by omega), t3, Option.bind_some]
  change (count_Of.f kn).bind _ = _
  rw [Of_eq kn (by omega), c1, Option.bind_some]
  decide +kernel
theorem cKnown2 (w : World) : Calls Try.prog 33 #[] w fun e w' => e = .returned (.bool true) ∧ Below w.heap.size w w' :=
  palinodelaw2_known.calls 40 _ w (known2 40 (Nat.le_refl _))
abbrev V4 (c : C4) : Value := .agg #[.int .i64 c.1, .int .i64 c.2.1, .int .i64 c.2.2.1, .int .i64 c.2.2.2]
theorem cOf (s : ByteArray) (hs : s.size ≤ 100000) (w : World) : Calls Try.prog 38 #[.string s] w fun e w' => e = .returned (V4 (cntS s)) ∧ Below w.heap.size w w' :=
  count_Of.calls s _ _ _ _ w (Of_eq s (by omega))
theorem cGet (c0 c1 c2 c3 k : Int) (w : World) : Calls Try.prog 42 #[.agg #[.int .i64 c0, .int .i64 c1, .int .i64 c2, .int .i64 c3], .int .i64 k] w fun e w' => e = .returned (.int .i64 (get4 (c0, c1, c2, c3) k)) ∧ Below w.heap.size w w' :=
  count_Get.calls c0 c1 c2 c3 k _ w rfl
theorem cTo (s : ByteArray) (hs : s.size ≤ 100000) (k n : Int) (w : World) : Calls Try.prog 34 #[.string s, .int .i64 k, .int .i64 n] w fun e w' => e = .returned (.tuple #[.int .i64 (toSpec s k n).1, .int .i64 (toSpec s k n).2]) ∧ Below w.heap.size w w' :=
  count_To.calls s k n _ _ w (To_eq s (by omega) k n)
theorem cFrom (s : ByteArray) (hs : s.size ≤ 100000) (k n : Int) (w : World) : Calls Try.prog 36 #[.string s, .int .i64 k, .int .i64 n] w fun e w' => e = .returned (.tuple #[.int .i64 (fromSpec s k n).1, .int .i64 (fromSpec s k n).2]) ∧ Below w.heap.size w w' :=
  count_From.calls (s.size + 12) s k n _ _ w (From_eq _ s hs (Nat.le_refl _) k n)
theorem crOf (s : ByteArray) (hs : s.size ≤ 100000) (w : World) : Calls Try.prog 39 #[.string s] w fun e w' => e = .returned (V4 (cntS s)) ∧ Below w.heap.size w w' :=
  palinoderef2_Of.calls _ s _ _ _ _ w (rOf_eq (4 * s.size + 12) s hs (Nat.le_refl _))
theorem crTo (s : ByteArray) (hs : s.size ≤ 100000) (k n : Int) (w : World) : Calls Try.prog 35 #[.string s, .int .i64 k, .int .i64 n] w fun e w' => e = .returned (.tuple #[.int .i64 (toSpec s k n).1, .int .i64 (toSpec s k n).2]) ∧ Below w.heap.size w w' :=
  palinoderef2_To.calls _ s k n _ _ w (rTo_eq (4 * s.size + 20) s hs (Nat.le_refl _) k n)
theorem crFrom (s : ByteArray) (hs : s.size ≤ 100000) (k n : Int) (w : World) : Calls Try.prog 37 #[.string s, .int .i64 k, .int .i64 n] w fun e w' => e = .returned (.tuple #[.int .i64 (fromSpec s k n).1, .int .i64 (fromSpec s k n).2]) ∧ Below w.heap.size w w' :=
  palinoderef2_From.calls _ s k n _ _ w (rFrom_eq (4 * s.size + 20) s hs (Nat.le_refl _) k n)
theorem crValid (s : ByteArray) (hs : s.size ≤ 100000) (w : World) : Calls Try.prog 25 #[.string s] w fun e w' => e = .returned (.bool (valid (L s))) ∧ Below w.heap.size w w' :=
  (palinoderef1_Valid.calls (s.size + 12) s _ w (rValid_eq _ s (by omega) (Nat.le_refl _))).mono fun _ _ h => ⟨h.1, h.2.below⟩
theorem crIsEdge (s : ByteArray) (hs : s.size ≤ 100000) (i : Int) (w : World) : Calls Try.prog 29 #[.string s, .int .i64 i] w fun e w' => e = .returned (.bool (edge s i)) ∧ Below w.heap.size w w' :=
  (palinoderef1_IsEdge.calls (s.size + 12) s i _ w (rIsEdge_eq _ s (by omega) (Nat.le_refl _) i)).mono fun _ _ h => ⟨h.1, h.2.below⟩
/-- At an edge of a valid text its numbers part. -/
theorem edge_parts (s : ByteArray) (hv : valid (L s) = true) (i : Nat) (he : edge s i = true) : ∃ us vs, points (L s) = us ++ vs ∧ i = (encs us).length ∧ (∀ v ∈ us, sc v) ∧ ∀ v ∈ vs, sc v := by
  have hle := (edge_valid he).2.2
  have key : ∀ (vs us : List Int), (∀ v ∈ us, sc v) → (∀ v ∈ vs, sc v) → L s = encs us ++ encs vs → (encs us).length ≤ i → ∃ us' vs', us ++ vs = us' ++ vs' ∧ i = (encs us').length := by
    intro vs
    induction vs with
    | nil =>
      intro us hu hv h hi
      have hz : s.size = (encs us).length := by rw [← L_len, h, encs_nil, List.append_nil]
      exact ⟨us, [], rfl, by omega⟩
    | cons v vs ih =>
      intro us hu hv h hi
      by_cases c : (encs us).length = i
      · exact ⟨us, v :: vs, rfl, c.symm⟩
      · have hs := hv v (by simp)
        rw [encs_cons] at h
        by_cases d : (encs us).length + (enc v).length ≤ i
        · obtain ⟨a, b, h1, h2⟩ := ih (us ++ [v]) (fun w hw => by rcases List.mem_append.1 hw with hw | hw; exact hu w hw; rw [List.mem_singleton.1 hw]; exact hs) (fun w hw => hv w (by simp [hw])) (by rw [h, U.encs_append, encs_cons, encs_nil, List.append_nil, List.append_assoc]) (by rw [U.encs_append, encs_cons, encs_nil, List.append_nil, List.length_append]; exact d)
          exact ⟨a, b, by rw [← h1]; simp, h2⟩
        · exfalso
          obtain ⟨a, t, hsh, _, ht⟩ := enc_shape v hs
          have hl : (enc v).length = t.length + 1 := by rw [hsh]; rfl
          have hz : s.size = (encs us).length + ((enc v).length + (encs vs).length) := by rw [← L_len, h, List.length_append, List.length_append]
          obtain ⟨b, hb1, hb2⟩ := nth_of s (encs us ++ [a]) (t ++ encs vs) (by rw [h, hsh]; simp) i (by simp; omega) (by omega)
          have hx : i - (encs us ++ [a]).length < t.length := by simp; omega
          rw [List.getElem?_append_left hx] at hb1
          have hcb := ht b (List.mem_of_getElem? hb1)
          unfold edge at he
          rw [hb2, decide_eq_true (show 128 ≤ bi b ∧ bi b < 192 from hcb), decide_eq_false (show ¬ (i : Int) = (s.size : Int) by omega)] at he
          simp at he
  have e := clean_of_valid _ hv
  unfold clean at e
  obtain ⟨us, vs, h1, h2⟩ := key (points (L s)) [] (by simp) (points_sc _) (by rw [encs_nil, List.nil_append, e]) (by simp)
  rw [List.nil_append] at h1
  exact ⟨us, vs, h1, h2, fun v hv' => points_sc (L s) v (by rw [h1]; simp [hv']), fun v hv' => points_sc (L s) v (by rw [h1]; simp [hv'])⟩
theorem L_parts {s : ByteArray} (hv : valid (L s) = true) {us vs : List Int} (h : points (L s) = us ++ vs) : L s = encs us ++ encs vs := by
  have e := clean_of_valid _ hv
  unfold clean at e
  rw [← U.encs_append, ← h, e]
/-- What is ahead of an edge. -/
theorem cnt_ahead {s : ByteArray} (hv : valid (L s) = true) {us vs : List Int} (h : points (L s) = us ++ vs) (hu : ∀ v ∈ us, sc v) : cntS (s.extract 0 (encs us).length) = cnt us := by
  unfold cntS
  rw [L_extract, List.drop_zero, Nat.sub_zero, L_parts hv h, List.take_left, points_encs' _ hu]

end Go.Proofs.Ytgepcdpnjinadaa.V
end

section
/- Counts of texts one behind the other, and between two edges. No conditions. -/
namespace Go.Proofs.Ytgepcdpnjinadaa.V
open Go.RowKit Go.Proofs.Ytgepcdpnjinadaa.PX Go.Proofs.YtgepcdpnjinadaaW.PrintWords Go.Proofs.YtgepcdpnjinadaaW.PrintLast Go.Proofs.Ytgepcdpnjinadaa.U Go.Lib
set_option linter.unusedVariables false
theorem cntS_app {a : ByteArray} (h : valid (L a) = true) (b : ByteArray) : cntS (a ++ b) = add4 (cntS a) (cntS b) := by
  unfold cntS; rw [L_append, points_append h, cnt_append]
theorem get4_cnt (l : List Int) (k : Int) : 0 ≤ get4 (cnt l) k ∧ get4 (cnt l) k ≤ 4 * l.length := by
  have r := cnt_range l
  unfold get4
  by_cases h0 : k = 0
  · rw [if_pos h0]; omega
  rw [if_neg h0]
  by_cases h1 : k = 1
  · rw [if_pos h1]; omega
  rw [if_neg h1]
  by_cases h2 : k = 2
  · rw [if_pos h2]; omega
  rw [if_neg h2]
  by_cases h3 : k = 3
  · rw [if_pos h3]; omega
  · rw [if_neg h3]; omega
theorem valid_ahead {s : ByteArray} (hv : valid (L s) = true) {i : Nat} (he : edge s i = true) : valid (L (s.extract 0 i)) = true := by
  obtain ⟨us, vs, h, rfl, hu, _⟩ := edge_parts s hv i he
  rw [L_extract, List.drop_zero, Nat.sub_zero, L_parts hv h, List.take_left]
  exact valid_encs' us hu
theorem cut_join (s : ByteArray) (x y : Nat) (h : x ≤ y) : s.extract 0 y = s.extract 0 x ++ s.extract x y := by
  apply L_inj
  rw [L_append, L_extract, L_extract, L_extract, List.drop_zero, Nat.sub_zero, Nat.sub_zero, List.take_drop, Nat.add_sub_cancel' h]
  have := List.take_append_drop x ((L s).take y)
  rw [List.take_take, Nat.min_eq_left h] at this
  exact this.symm
theorem get4_ahead (s : ByteArray) (x : Nat) (k : Int) (hs : s.size ≤ 1000) : 0 ≤ get4 (cntS (s.extract 0 x)) k ∧ get4 (cntS (s.extract 0 x)) k ≤ 4000 := by
  have r := get4_cnt (points (L (s.extract 0 x))) k
  have l := points_le (L (s.extract 0 x))
  rw [L_extract, List.length_take, List.length_drop, L_len, ← L_extract] at l
  unfold cntS
  omega
theorem from_at {s : ByteArray} (hv : valid (L s) = true) {x : Nat} (hx : x ≤ s.size) (he : edge s x = true) (k : Int) (h0 : 0 ≤ k) (h3 : k ≤ 3) : fromSpec s k x = (get4 (cntS (s.extract 0 x)) k, 0) := by
  unfold fromSpec
  rw [if_pos ⟨⟨h0, h3⟩, hv⟩, if_neg (by omega), if_pos he]; rfl
theorem cut_counts {s : ByteArray} (hv : valid (L s) = true) {x y : Nat} (h : x ≤ y) (ex : edge s x = true) (k : Int) : get4 (cntS (s.extract 0 y)) k - get4 (cntS (s.extract 0 x)) k = get4 (cntS (s.extract x y)) k ∧ get4 (cntS (s.extract 0 x)) k ≤ get4 (cntS (s.extract 0 y)) k := by
  have e := cntS_app (valid_ahead hv ex) (s.extract x y)
  rw [← cut_join s x y h] at e
  have g := get4_add (cntS (s.extract 0 x)) (cntS (s.extract x y)) k
  rw [← e] at g
  have := (get4_cnt (points (L (s.extract x y))) k).1
  unfold cntS at g ⊢
  omega
end Go.Proofs.Ytgepcdpnjinadaa.V
end
