/- lines.drained walked by hand: what is in a channel comes out of it, in order. No condition. -/
import Derived.Test.YtomnggbideepeaaXC0
import Derived.Test.YtomnggbideepeaaQ7
namespace Go.Proofs.Ytomnggbideepeaa.AM
open Go Go.Conc Go.RowKit
set_option linter.unusedVariables false
set_option linter.unusedSimpArgs false
theorem str_el : elOk Try.prog 9 1 16 = true := by decide +kernel
theorem grew_chan {w w' : World} {v v' : Value} {c : Nat} (h : GrewAt w w' v v') (hv : ∀ b, blk v = some b → b ≠ c) (hc : c < w.heap.size) : w'.heap[c]? = w.heap[c]? := by
  rcases h with ⟨h0, h1, h2, h3, h4, h5⟩ | ⟨_, h⟩
  · exact h5 c fun e => hv c e rfl
  · exact h.block c hc
set_option maxHeartbeats 4000000 in
set_option maxRecDepth 100000 in
theorem drained_walk (l : List ByteArray) (hl : l.length * 16 ≤ 140737488355328) (w0 w : World) (c cap s r : Nat) (hB : Below w0.heap.size w0 w) (hc : w0.heap.size ≤ c) (hcw : w.heap[c]? = some (.chan cap (l.map Value.string).toArray false s r false)) :
    Calls Try.prog 79 #[.chan (some c)] w fun e w' => ∃ v', e = .returned v' ∧ Below w0.heap.size w0 w' ∧ w'.ownsRow w0.heap.size 9 1 v' l.length (l.map Value.string) := by
  refine calls_of_wpN Try.func79 rfl ?_
  change wpN _ _ _ ⟨#[.chan (some c), undef, undef, undef, undef, undef, undef, undef, undef, undef, undef, undef, undef, undef, undef], []⟩ w
  refine wpN_seq1 ?_
  go_wp2
  refine wpN_seq1 ?_
  go_wp2
  refine wpN_block (wpN_loop (fun n a w1 => ∃ (i s r : Nat) (vo x1 x4 x5 x6 x7 x8 x9 x10 x11 x12 x13 x14 : Value), i + n = l.length ∧ a = ⟨#[.chan (some c), x1, .slice none 0 0, vo, x4, x5, x6, x7, x8, x9, x10, x11, x12, x13, x14], []⟩ ∧
    Below w0.heap.size w0 w1 ∧ w1.heap[c]? = some (.chan cap ((l.drop i).map Value.string).toArray false s r false) ∧ w1.ownsRow w0.heap.size 9 1 vo i ((l.take i).map Value.string)) l.length ?_ ?_)
  · refine ⟨0, s, r, _, _, _, _, _, _, _, _, _, _, _, _, _, by omega, rfl, hB, hcw, ?_⟩
    exact World.ownsRow_nil _ _ _ _
  · rintro n a w1 ⟨i, s1, r1, vo, x1, x4, x5, x6, x7, x8, x9, x10, x11, x12, x13, x14, hi, rfl, hB1, hc1, hown⟩
    refine wpN_block (wpN_seq1 ?_)
    go_wp2
    refine wpN_seq (wpN_region ?_)
    by_cases hlt : i < l.length
    · have hd : (l.drop i).map Value.string = .string l[i] :: (l.drop (i + 1)).map Value.string := by rw [List.drop_eq_getElem_cons hlt, List.map_cons]
      rw [hd] at hc1
      refine opsN_recv (c := c) (z := .string ⟨#[]⟩) rfl rfl (by simp [go_sem, execOp, rcase, Act.eval]) hc1 (by simp) ?_
      have hcs : c < w1.heap.size := (Array.getElem?_eq_some_iff.1 hc1).1
      have hB2 := below_setChan hB1 hc cap (((Value.string l[i] :: (l.drop (i + 1)).map Value.string).toArray).extract 1 ((Value.string l[i] :: (l.drop (i + 1)).map Value.string).toArray).size) false s1 (r1 + 1) false
      have hc2 := heap_setChan w1 c cap (((Value.string l[i] :: (l.drop (i + 1)).map Value.string).toArray).extract 1 ((Value.string l[i] :: (l.drop (i + 1)).map Value.string).toArray).size) false s1 (r1 + 1) false hcs
      have ho2 : ∀ b, b ≠ c → (w1.setChan c cap (((Value.string l[i] :: (l.drop (i + 1)).map Value.string).toArray).extract 1 ((Value.string l[i] :: (l.drop (i + 1)).map Value.string).toArray).size) false s1 (r1 + 1) false).heap[b]? = w1.heap[b]? := fun b hb => by
        simp only [World.setChan]
        rw [Array.getElem?_setIfInBounds_ne (Ne.symm hb)]
      have hcs2 : c < (w1.setChan c cap (((Value.string l[i] :: (l.drop (i + 1)).map Value.string).toArray).extract 1 ((Value.string l[i] :: (l.drop (i + 1)).map Value.string).toArray).size) false s1 (r1 + 1) false).heap.size := by rw [size_setChan]; exact hcs
      generalize w1.setChan c cap (((Value.string l[i] :: (l.drop (i + 1)).map Value.string).toArray).extract 1 ((Value.string l[i] :: (l.drop (i + 1)).map Value.string).toArray).size) false s1 (r1 + 1) false = w2 at *
      refine opsN_val (v := goInt 0) (w' := w2) rfl rfl (by simp [go_sem, execOp, Act.eval, Act.put]) ?_
      refine opsN_val (v := .bool true) (w' := w2) rfl rfl (by simp [go_sem, execOp, Act.eval, Act.put]) ?_
      refine opsN_end ?_
      change wpN _ _ _ ⟨#[.chan (some c), x1, .slice none 0 0, vo, x4, .chan (some c), .tuple #[goInt 0, .bool true, .string l[i]], goInt 0, .bool true, x9, x10, x11, x12, x13, x14], []⟩ _
      refine wpN_block (wpN_cond (t := true) rfl (wpN_of ?_))
      simp only [if_true]
      have hne : ∀ b, blk vo = some b → b ≠ c := by
        intro b hb e
        subst e
        rcases hown.2 with ⟨h, _⟩ | ⟨b', cap', cur, h, h1, h2, _⟩
        · rw [h] at hb; simp [blk] at hb
        · rw [h] at hb; simp [blk] at hb; subst hb
          rw [hc1] at h2; simp at h2
      have hown2 : w2.ownsRow w0.heap.size 9 1 vo i ((l.take i).map Value.string) := ownsRow_keep hown fun b hb => ho2 b (hne b hb)
      have hsz : w0.heap.size ≤ w2.heap.size := hB2.size
      obtain ⟨O, hO⟩ : ∃ O : Obj, O = .cells #[.string l[i]] 9 := ⟨_, rfl⟩
      have hown3 : (w2.alloc O).ownsRow w0.heap.size 9 1 vo i ((l.take i).map Value.string) := ownsRow_keep hown2 fun b hb => Lib.alloc_old w2 O b (owns_block hown2 hb).2
      have hB3 := hB2.alloc hsz O
      have hc3 : (w2.alloc O).heap[c]? = _ := (Lib.alloc_old w2 O c hcs2).trans hc2
      have hnew : (w2.alloc O).cell? ⟨w2.heap.size, 0, none⟩ = some (.string l[i]) := by
        have e3 : (w2.alloc O).heap[w2.heap.size]? = some O := by
          show (w2.heap.push _)[w2.heap.size]? = _
          simp
        rw [hO] at e3
        rw [hO]
        unfold World.cell?
        dsimp only
        rw [e3]
        rfl
      rw [hO] at hown3 hB3 hc3 hnew
      clear hO
      go_wp2_with (at_builtin; refine app_wpList Try.underlying42 str_el rfl _ _ rfl w0.heap.size _ i ((l.take i).map Value.string) rfl hown3 (some ⟨w2.heap.size, 0, none⟩) 1 1 [.string l[i]] rfl ?hl ?mem ?one ?c1 ?c2 ?c3 ?_)
      case hl => rfl
      case mem =>
        refine .inr ⟨_, rfl, fun j u hu => ?_⟩
        have : j = 0 := by
          rcases j with _ | j
          · rfl
          · simp at hu
        subst this
        simp only [List.getElem?_cons_zero, Option.some.injEq] at hu
        subst hu
        exact hnew
      case one => intro u hu; simp at hu; subst hu; rfl
      case c1 => omega
      case c2 => omega
      case c3 => exact hB3.size
      intro v4 w4 hown4 hgrow4
      have hB4 := hB3.trans (grew_below hgrow4 hB3.size fun b hb => (owns_block hown3 hb).1)
      have hc4 := (grew_chan hgrow4 (hne) (Array.getElem?_eq_some_iff.1 hc3).1).trans hc3
      go_wp2
      refine ⟨n - 1, by omega, i + 1, s1, r1 + 1, _, _, _, _, _, _, _, _, _, _, _, _, _, by omega, rfl, hB4, ?_, ?_⟩
      · rw [hc4]
        simp [List.map_drop]
        rw [List.take_of_length_le (by simp)]
      · rw [List.take_succ_eq_append_getElem hlt, List.map_append, List.map_take]
        exact hown4
    · have : i = l.length := by omega
      subst this
      rw [List.drop_length, List.map_nil] at hc1
      refine opsN_default (c := c) (z := .string ⟨#[]⟩) rfl rfl (by simp [go_sem, execOp, rcase, Act.eval]) hc1 ?_
      refine opsN_val (v := goInt (-1)) (w' := w1) rfl rfl (by simp [go_sem, execOp, Act.eval, Act.put]) ?_
      refine opsN_val (v := .bool false) (w' := w1) rfl rfl (by simp [go_sem, execOp, Act.eval, Act.put]) ?_
      refine opsN_end ?_
      change wpN _ _ _ ⟨#[.chan (some c), x1, .slice none 0 0, vo, x4, .chan (some c), .tuple #[goInt (-1), .bool false, .string ⟨#[]⟩], goInt (-1), .bool false, x9, x10, x11, x12, x13, x14], []⟩ _
      refine wpN_block (wpN_cond (t := false) rfl (wpN_of ?_))
      simp only [Bool.false_eq_true, if_false]
      go_wp2
      go_ret
      exact ⟨_, rfl, hB1, by simpa using hown⟩
end Go.Proofs.Ytomnggbideepeaa.AM
