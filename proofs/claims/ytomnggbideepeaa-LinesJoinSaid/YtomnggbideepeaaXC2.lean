/- lines.Pieces walked by hand. No condition. -/
import Derived.Test.YtomnggbideepeaaXC1
import Derived.Test.YtomnggbideepeaaRC4
import Derived.Test.YtomnggbideepeaaQ8
import Derived.Conc.SmallLaws
namespace Go.Proofs.Ytomnggbideepeaa.AM
open Go Go.Conc Go.RowKit Go.Proofs.Ytomnggbideepeaa.U
set_option linter.unusedVariables false
set_option linter.unusedSimpArgs false
/-- What Pieces tells. -/
noncomputable def piecesAns (r : PV) (a b m : Int) : Option Ret := match Run EA 28 [r, pi a, pi b] with
  | some (.val (.tu [x, .sc (.int .i64 e)])) => if e ≠ 0 then some (.val (.tu [.sl 1 [], pi e])) else if m < 4 then some (.val (.tu [.sl 1 [], pi 12])) else
    match Run EA 26 [x] with
    | some (.val (.sc (.string s))) => if valid (L s) = true ∧ s.size < 268435456 then some (.val (.tu [.sl 1 (strs (piecesM m.toNat s)), pi 0])) else none
    | _ => none
  | _ => none
theorem rep_pair {w : World} {lm : Nat → Nat} {x : PV} {v2 u : Value} (h : Rep w lm (.tu [x, .sc v2]) u) : ∃ vx, u = .tuple #[vx, v2] ∧ Rep w lm x vx := by
  cases h with
  | tu h => cases h with
    | cons h1 h => cases h with
      | cons h2 h =>
        cases h
        cases h2
        exact ⟨_, rfl, h1⟩
theorem rep_ptr {w : World} {lm : Nat → Nat} {l : List PV} {u : Value} (h : Rep w lm (.pt l) u) : ∃ b o, u = .pointer (some ⟨b, o, none⟩) := by
  cases h with
  | pt hl hm => exact ⟨_, _, rfl⟩
theorem rep_str {w : World} {lm : Nat → Nat} {v u : Value} (h : Rep w lm (.sc v) u) : u = v := by cases h; rfl
theorem bytes_str : ∃ i, Try.prog.info? 9 = some i ∧ i.bytes = 16 := by
  have h : (Try.prog.info? 9).map (·.bytes) = some 16 := by kernel_rfl
  obtain ⟨i, hi, hb⟩ := Option.map_eq_some_iff.1 h
  exact ⟨i, hi, hb⟩
theorem mk_chan (w : World) (n : Nat) (hn : n ≤ 268435456) : (Instr.makeChan 120 (.int .i64 n)).run Try.prog w = .ok (.chan (some w.heap.size)) (w.alloc (.chan n #[] false 0 0 false)) := by
  obtain ⟨i, hi, hb⟩ := bytes_str
  exact run_makeChan (P := Try.prog) (w := w) Try.underlying120 hi .i64 n (by omega) (by rw [hb]; omega)
set_option maxHeartbeats 4000000 in
set_option maxRecDepth 100000 in
theorem pieces_ok (l : List PV) (a b m : Int) (r : Ret) (h : piecesAns (.pt l) a b m = some r) : CallOK' Try.prog 54 [.pt l, pi a, pi b, pi m] r := by
  intro w0 lm0 vs hk hvs
  cases hvs with
  | cons hp hvs => cases hvs with
  | cons ha hvs => cases hvs with
  | cons hb hvs => cases hvs with
  | cons hm hvs =>
  cases hvs
  cases ha; cases hb; cases hm
  unfold piecesAns at h
  split at h
  case h_2 => simp at h
  rename_i x e hrun
  have c1 := (run_sound EAok hrun).1.plain (fun _ _ _ h => by cases h)
  have call1 := c1 w0 lm0 [_, .int .i64 a, .int .i64 b] hk (.cons hp (.cons (.sc _) (.cons (.sc _) .nil)))
  obtain ⟨b0, o0, rfl⟩ := rep_ptr hp
  clear c1 hp
  refine calls_of_wpN Try.func54 rfl ?_
  have ea : (#[.pointer (some ⟨b0, o0, none⟩), .int .i64 a, .int .i64 b, .int .i64 m] : Array Value) ++ Array.replicate (Try.f54.ntmps - 4) undef = #[.pointer (some ⟨b0, o0, none⟩), .int .i64 a, .int .i64 b, .int .i64 m, undef, undef, undef, undef, undef, undef, undef, undef, undef, undef, undef, undef, undef, undef, undef, undef, undef, undef, undef, undef, undef, undef, undef, undef, undef, undef, undef, undef, undef, undef, undef, undef, undef, undef, undef, undef, undef, undef, undef, undef, undef, undef, undef, undef, undef, undef, undef, undef, undef, undef, undef, undef, undef, undef, undef, undef, undef] := by
    rw [Try.ntmps54]
    kernel_rfl
  have ef : ({ tmps := [Value.pointer (some ⟨b0, o0, none⟩), .int .i64 a, .int .i64 b, .int .i64 m].toArray ++ Array.replicate (Try.f54.ntmps - [Value.pointer (some ⟨b0, o0, none⟩), .int .i64 a, .int .i64 b, .int .i64 m].toArray.size) undef, defers := [] } : Act) = ⟨#[.pointer (some ⟨b0, o0, none⟩), .int .i64 a, .int .i64 b, .int .i64 m, undef, undef, undef, undef, undef, undef, undef, undef, undef, undef, undef, undef, undef, undef, undef, undef, undef, undef, undef, undef, undef, undef, undef, undef, undef, undef, undef, undef, undef, undef, undef, undef, undef, undef, undef, undef, undef, undef, undef, undef, undef, undef, undef, undef, undef, undef, undef, undef, undef, undef, undef, undef, undef, undef, undef, undef, undef], []⟩ := congrArg (fun x => Act.mk x []) ea
  rw [ef]
  refine wpN_seq1 ?_
  go_wp2
  refine wpN_seq1 ?_
  go_wp2
  refine wpN_seq1 ?_
  go_wp2_with (go_at_call 28; refine call1.mono ?_; rintro e1 w1 ⟨u, lm1, rfl, hB1, hl1, hr1⟩; obtain ⟨vx, rfl, hx⟩ := rep_pair hr1)
  by_cases he : e = 0
  case neg =>
    rw [if_pos he] at h
    obtain rfl := Option.some.inj h
    have f1 : (e != 0) = true := by simpa using he
    refine wpN_seq1 ?_
    go_wp2
    go_ret2
    exact ⟨_, rfl, hB1, lm1, hl1, .tu (.cons .sl0 (.cons (.sc _) .nil))⟩
  rw [if_neg (by simpa using he)] at h
  subst he
  refine wpN_seq1 ?_
  go_wp2
  by_cases h4 : m < 4
  · rw [if_pos h4] at h
    obtain rfl := Option.some.inj h
    have f2 : decide (m < 4) = true := decide_eq_true h4
    refine wpN_seq1 ?_
    go_wp2
    go_ret2
    exact ⟨_, rfl, hB1, lm1, hl1, .tu (.cons .sl0 (.cons (.sc _) .nil))⟩
  rw [if_neg h4] at h
  have f2 : decide (m < 4) = false := decide_eq_false h4
  split at h
  case h_2 => simp at h
  rename_i s hrun2
  split at h
  case isFalse => simp at h
  rename_i hsv
  obtain ⟨hv, hs⟩ := hsv
  obtain rfl := Option.some.inj h
  have c2 := (run_sound EAok hrun2).1.plain (fun _ _ _ h => by cases h)
  have call2 := c2 w1 lm1 [vx] (hk.b.at hB1) (.cons hx .nil)
  clear c2 call1 hrun hrun2
  refine wpN_seq1 ?_
  go_wp2
  refine wpN_seq1 ?_
  go_wp2_with (go_at_call 26; refine call2.mono ?_; rintro e2 w2 ⟨u2, lm2, rfl, hB2', hl2, hr2⟩; obtain rfl := rep_str hr2)
  have hB2 : Below w0.heap.size w0 w2 := hB1.trans (hB2'.mono hB1.size)
  have hmk : (Instr.makeChan 120 (.int .i64 ((s.size : Int) + 1))).run Try.prog w2 = .ok (.chan (some w2.heap.size)) (w2.alloc (.chan (s.size + 1) #[] false 0 0 false)) := mk_chan w2 (s.size + 1) (by omega)
  -- THE LOOP
  refine wpN_seq1 ?_
  go_wp2
  have hcd : (w2.alloc (.chan (s.size + 1) #[] false 0 0 false)).heap[w2.heap.size]? = some (.chan (s.size + 1) #[] false 0 0 false) := by
    show (w2.heap.push _)[w2.heap.size]? = _
    simp
  have hBd := hB2.alloc hB2.size (.chan (s.size + 1) #[] false 0 0 false)
  clear hmk call2
  generalize w2.alloc (.chan (s.size + 1) #[] false 0 0 false) = w3 at *
  have hcB : w0.heap.size ≤ w2.heap.size := hB2.size
  generalize w2.heap.size = c at *
  obtain ⟨mm, rfl⟩ : ∃ mm : Nat, m = mm := ⟨m.toNat, by omega⟩
  have hm4 : 4 ≤ mm := by omega
  rw [Int.toNat_natCast]
  obtain ⟨J, hJ⟩ : ∃ J : Nat → Act → World → Prop, ∀ n a w4, J n a w4 ↔ ∃ (s1 : ByteArray) (l1 : List ByteArray) (sc rc : Nat) (x0 x1 x2 x4 x5 x6 x7 x8 x9 x10 x11 x14 x15 x16 x17 x18 x19 x20 x21 x22 x23 x24 x25 x26 x27 x28 x29 x30 x31 x32 x33 x34 x35 x36 x37 x38 x39 x40 x41 x42 x43 x44 x45 x46 x47 x48 x49 x50 x51 x52 x53 x54 x55 x56 x57 x58 x59 x60 : Value), s1.size = n ∧ a = ⟨#[x0, x1, x2, .int .i64 mm, x4, x5, x6, x7, x8, x9, x10, x11, .string s1, .chan (some c), x14, x15, x16, x17, x18, x19, x20, x21, x22, x23, x24, x25, x26, x27, x28, x29, x30, x31, x32, x33, x34, x35, x36, x37, x38, x39, x40, x41, x42, x43, x44, x45, x46, x47, x48, x49, x50, x51, x52, x53, x54, x55, x56, x57, x58, x59, x60], []⟩ ∧ Below w0.heap.size w0 w4 ∧ w4.heap[c]? = some (.chan (s.size + 1) (l1.map Value.string).toArray false sc rc false) ∧ valid (L s1) = true ∧ l1.length + s1.size ≤ s.size ∧ piecesM mm s = l1 ++ piecesM mm s1 := ⟨fun n a w4 => _, fun _ _ _ => Iff.rfl⟩
  replace hJ := As.mk hJ
  refine wpN_seq (wpN_block (wpN_loop J s.size ?_ ?_))
  · exact (hJ.out _ _ _).2 ⟨s, [], 0, 0, _, _, _, _, _, _, _, _, _, _, _, _, _, _, _, _, _, _, _, _, _, _, _, _, _, _, _, _, _, _, _, _, _, _, _, _, _, _, _, _, _, _, _, _, _, _, _, _, _, _, _, _, _, _, _, _, _, _, rfl, rfl, hBd, hcd, hv, by simp, rfl⟩
  · intro n a4 w4 hJ4
    obtain ⟨s1, l1, sc, rc, x0, x1, x2, x4, x5, x6, x7, x8, x9, x10, x11, x14, x15, x16, x17, x18, x19, x20, x21, x22, x23, x24, x25, x26, x27, x28, x29, x30, x31, x32, x33, x34, x35, x36, x37, x38, x39, x40, x41, x42, x43, x44, x45, x46, x47, x48, x49, x50, x51, x52, x53, x54, x55, x56, x57, x58, x59, x60, rfl, rfl, hB4, hc4, hv1, hr1, hp1⟩ := (hJ.out _ _ _).1 hJ4
    clear hJ4
    replace hp1 := As.mk hp1
    refine wpN_seq (wpN_seq1 ?_)
    go_wp2
    by_cases hz : s1.size = 0
    · have hbz : s1.toList.isEmpty = true := by
        have : L s1 = [] := List.eq_nil_of_length_eq_zero (by rw [L_len]; exact hz)
        rw [toList_L]; unfold L at this; rw [this]; rfl
      refine wpN_cond (t := false) (congrArg Value.bool (by rw [hbz]; rfl)) (wpN_of ?_)
      simp only [Bool.false_eq_true, if_false]
      refine wp_exit ?_
      simp only [Exit.then, Exit.inBlock, if_true]
      replace hp1 := hp1.out
      rw [piecesM_nil mm s1 hz, List.append_nil] at hp1
      have hl1 : l1.length ≤ s.size := by omega
      rw [hp1]
      have call3 := drained_walk l1 (by omega) w0 w4 c (s.size + 1) sc rc hB4 hcB hc4
      clear hc4 hB4
      refine wpN_of ?_
      go_wp2_with (go_at_call 79; refine call3.mono ?_; rintro e5 w5 ⟨v5, rfl, hB5, hown5⟩)
      go_ret2
      refine ⟨_, rfl, hB5, fun b => if b < w0.heap.size then lm0 b else l1.length, fun b hb => if_pos hb, .tu (.cons ?_ (.cons (.sc _) .nil))⟩
      have hR : RowR w5 ⟨fun b => if b < w0.heap.size then lm0 b else 0, fun _ => v5⟩ w0.heap.size 0 9 1 (strs l1) := by
        refine ⟨by omega, ?_, ⟨l1.map Value.string, by rw [strs_len]; exact hown5, ?_, ?_⟩, fun b hb => if_neg ?_⟩
        · intro c hc
          obtain ⟨s, _, rfl⟩ := List.mem_map.1 hc; rfl
        · clear hown5 hp1 call3 hl1 hr1
          induction l1 with
          | nil => exact .nil
          | cons s l ih => exact .cons (.sc _) ih
        · intro x hx
          obtain ⟨s, _, rfl⟩ := List.mem_map.1 hx; rfl
        · have := (owns_block hown5 hb).1
          omega
      refine hR.plain ?_ ?_
      · intro b o u hu ho
        refine ⟨hu, ?_⟩
        dsimp only at ho ⊢
        by_cases hb : b < w0.heap.size
        · rw [if_pos hb] at ho ⊢; exact ho
        · rw [if_neg hb] at ho; omega
      · intro b hb
        have := (owns_block hown5 hb).1
        show (strs l1).length * 1 ≤ if b < w0.heap.size then lm0 b else l1.length
        rw [if_neg (by omega), strs_len]; omega
    · have hbz : s1.toList.isEmpty = false := by
        cases h : s1.toList with
        | nil =>
          rw [toList_L] at h
          have := L_len s1
          unfold L at this
          rw [h] at this
          simp at this; omega
        | cons _ _ => rfl
      refine wpN_cond (t := true) (congrArg Value.bool (by rw [hbz]; rfl)) (wpN_of ?_)
      simp only [if_true]
      refine wp_skip ?_
      simp only [Exit.then]
      obtain ⟨q1, q2, q3, q4, q5, q6⟩ := cutM_ok mm hm4 s1 hv1 (by omega)
      refine wpN_block (wpN_seq1 ?_)
      go_wp2
      refine wpN_seq1 ?_
      by_cases hgt : s1.size ≤ mm
      · have f3 : decide ((mm : Int) < (s1.size : Int)) = false := decide_eq_false (by omega)
        have hKs : s1.size ≤ s1.size := Nat.le_refl _
        have hcut : cutM mm s1 = s1.size := by unfold cutM; rw [if_pos hgt]
        go_wp2
        refine wpN_seq (wpN_region ?_)
        refine opsN_val (v := .chan (some c)) (w' := w4) rfl rfl (by simp [go_sem, execOp, Act.eval, Act.put]) ?_
        refine opsN_val (v := .string s1) (w' := w4) rfl rfl (by simp [go_sem, execOp, Act.eval, Act.put]) ?_
        refine opsN_val (v := .int .i64 (s1.size : Nat)) (w' := w4) rfl rfl (by simp [go_sem, execOp, Act.eval, Act.put]) ?_
        refine opsN_val (v := .string (s1.extract 0 s1.size)) (w' := w4) rfl rfl (by simp [go_sem, execOp, Act.eval, Act.put, hKs]) ?_
        refine opsN_send (c := c) (v := .string (s1.extract 0 s1.size)) (z' := .tuple #[]) (w₁ := w4) rfl rfl (by simp [go_sem, execOp, scase, Act.eval, Act.put]) hc4 (by simp; omega) ?_
        refine opsN_end ?_
        simp only [Exit.then]
        have hcs : c < w4.heap.size := (Array.getElem?_eq_some_iff.1 hc4).1
        have hB5 := below_setChan hB4 hcB (s.size + 1) ((l1.map Value.string).toArray.push (.string (s1.extract 0 s1.size))) false (sc + 1) rc false
        have hc5 := heap_setChan w4 c (s.size + 1) ((l1.map Value.string).toArray.push (.string (s1.extract 0 s1.size))) false (sc + 1) rc false hcs
        clear hc4
        generalize w4.setChan c (s.size + 1) ((l1.map Value.string).toArray.push (.string (s1.extract 0 s1.size))) false (sc + 1) rc false = w5 at *
        refine wpN_of ?_
        go_wp2
        have hz2 : (s1.extract s1.size s1.size).size = s1.size - s1.size := ex_drop_size s1 s1.size
        have hpc := piecesM_cons mm hm4 s1 hv1 (by omega)
        rw [hcut] at hpc
        have hem : s1.extract s1.size s1.size = ByteArray.empty := empty_eq (by rw [ex_drop_size]; omega)
        rw [hem] at hz2 hpc
        refine ⟨s1.size - s1.size, by omega, (hJ.out _ _ _).2 ⟨ByteArray.empty, l1 ++ [s1.extract 0 s1.size], sc + 1, rc, _, _, _, _, _, _, _, _, _, _, _, _, _, _, _, _, _, _, _, _, _, _, _, _, _, _, _, _, _, _, _, _, _, _, _, _, _, _, _, _, _, _, _, _, _, _, _, _, _, _, _, _, _, _, _, _, _, _, hz2, rfl, hB5, ?_, ?_, ?_, ?_⟩⟩
        · rw [hc5]; simp
        · exact valid_nil
        · rw [List.length_append, List.length_singleton]; omega
        · rw [hp1.out, hpc, List.append_assoc]; rfl
      · have f3 : decide ((mm : Int) < (s1.size : Int)) = true := decide_eq_true (by omega)
        have hcut : cutM mm s1 = backN (L s1) mm := by unfold cutM; rw [if_neg hgt]
        go_wp2
        have f3n : decide (mm < s1.size) = true := decide_eq_true (by omega)
        simp only [hbz, f3n, Bool.not_false]
        go_loop [14] (fun v14 => ∃ k : Nat, v14 = .int .i64 (k : Int) ∧ k ≤ mm ∧ backN (L s1) k = backN (L s1) mm) (fun v14 => (RowKit.intOf v14).toNat)
        case atStart => exact ⟨mm, rfl, Nat.le_refl _, rfl⟩
        case round =>
          obtain ⟨k, rfl, hk1, hk2⟩ := hrel
          have hkl : k < (L s1).length := by rw [L_len]; omega
          have e1 : decide ((k : Int) < (s1.size : Int)) = true := decide_eq_true (by omega)
          have e2 : decide (k < s1.size) = true := decide_eq_true (by omega)
          have hb : ∀ h : k < s1.size, ((s1[k]'h).toNat : Int) = bi (L s1)[k] := fun h => rfl
          have p2 : (0 ≤ (k : Int)) = True := eq_true (by omega)
          have p3 : ((k : Int) < (s1.size : Int)) = True := eq_true (by omega)
          have n1 := n192 (L s1)[k]
          have hbr := bi_range (L s1)[k]
          by_cases hcn : cont (L s1)[k]
          · have e5 : (bits BinOp.and IntKind.u8 (bi (L s1)[k]) 192 == 128) = true := by
              rw [n1]; unfold cont at hcn; exact beq_iff_eq.2 (by omega)
            obtain ⟨k', rfl⟩ : ∃ k', k = k' + 1 := by
              rcases k with _ | k'
              · exfalso
                cases hl : L s1 with
                | nil => simp [hl] at hkl
                | cons a0 t0 =>
                  rw [hl] at hv1
                  simp only [hl, List.getElem_cons_zero] at hcn
                  exact valid_head2 hv1 hcn
              · exact ⟨k', rfl⟩
            have hk3 : backN (L s1) k' = backN (L s1) mm := by
              rw [← hk2, backN_succ _ _ _ (List.getElem?_eq_getElem hkl), if_pos hcn]
            clear hk2 n1 hbr hcn
            go_wp2
            refine ⟨⟨k', by go_num, by omega, hk3⟩, by simp [RowKit.intOf]⟩
          · have e5 : (bits BinOp.and IntKind.u8 (bi (L s1)[k]) 192 == 128) = false := by
              rw [n1]; unfold cont at hcn; exact beq_eq_false_iff_ne.2 (by omega)
            have hk3 : backN (L s1) k = k := by
              rcases k with _ | k'
              · rfl
              · rw [backN_succ _ _ _ (List.getElem?_eq_getElem hkl), if_neg hcn]
            rw [hk3] at hk2
            rw [← hk2] at hcut
            have hKs : k ≤ s1.size := by omega
            clear n1 hbr hcn hk3 hk2
            go_wp2
            refine wpN_seq (wpN_region ?_)
            refine opsN_val (v := .chan (some c)) (w' := w4) rfl rfl (by simp [go_sem, execOp, Act.eval, Act.put]) ?_
            refine opsN_val (v := .string s1) (w' := w4) rfl rfl (by simp [go_sem, execOp, Act.eval, Act.put]) ?_
            refine opsN_val (v := .int .i64 (k : Nat)) (w' := w4) rfl rfl (by simp [go_sem, execOp, Act.eval, Act.put]) ?_
            refine opsN_val (v := .string (s1.extract 0 k)) (w' := w4) rfl rfl (by simp [go_sem, execOp, Act.eval, Act.put, hKs]) ?_
            refine opsN_send (c := c) (v := .string (s1.extract 0 k)) (z' := .tuple #[]) (w₁ := w4) rfl rfl (by simp [go_sem, execOp, scase, Act.eval, Act.put]) hc4 (by simp; omega) ?_
            refine opsN_end ?_
            simp only [Exit.then]
            have hcs : c < w4.heap.size := (Array.getElem?_eq_some_iff.1 hc4).1
            have hB5 := below_setChan hB4 hcB (s.size + 1) ((l1.map Value.string).toArray.push (.string (s1.extract 0 k))) false (sc + 1) rc false
            have hc5 := heap_setChan w4 c (s.size + 1) ((l1.map Value.string).toArray.push (.string (s1.extract 0 k))) false (sc + 1) rc false hcs
            clear hc4
            generalize w4.setChan c (s.size + 1) ((l1.map Value.string).toArray.push (.string (s1.extract 0 k))) false (sc + 1) rc false = w5 at *
            refine wpN_of ?_
            go_wp2
            have hz2 : (s1.extract k s1.size).size = s1.size - k := ex_drop_size s1 k
            have hpc := piecesM_cons mm hm4 s1 hv1 (by omega)
            rw [hcut] at hpc
            refine ⟨s1.size - k, by omega, (hJ.out _ _ _).2 ⟨s1.extract k s1.size, l1 ++ [s1.extract 0 k], sc + 1, rc, _, _, _, _, _, _, _, _, _, _, _, _, _, _, _, _, _, _, _, _, _, _, _, _, _, _, _, _, _, _, _, _, _, _, _, _, _, _, _, _, _, _, _, _, _, _, _, _, _, _, _, _, _, _, _, _, _, _, hz2, rfl, hB5, ?_, ?_, ?_, ?_⟩⟩
            · rw [hc5]; simp
            · rw [ex_drop, ← hcut]; exact q6
            · rw [List.length_append, List.length_singleton]; omega
            · rw [hp1.out, hpc, List.append_assoc]; rfl
end Go.Proofs.Ytomnggbideepeaa.AM
