/- The reference's Copy of atoms, walked by hand. No condition. -/
import Derived.Test.YtihgpnfkadldeaaAY1
namespace Go.Proofs.Ytihgpnfkadldeaa.AM
open Go.RowKit
set_option linter.unusedVariables false
set_option linter.unusedSimpArgs false
theorem new_blk (w : World) (o : Obj) : (w.alloc o).heap[w.heap.size]? = some o := by
  show (w.heap.push o)[w.heap.size]? = _
  simp
theorem at_el : elOk Try.prog 31 5 64 = true := by decide +kernel
theorem slice_of {w : World} {B e k n : Nat} {v : Value} {xs : List Value} (h : w.ownsRow B e k v n xs) : ∃ ad cap, v = .slice ad n cap := by
  rcases h.2 with ⟨h, hn⟩ | ⟨b, cap, cur, h, _⟩
  · exact ⟨none, 0, by rw [h, hn]⟩
  · exact ⟨_, cap, h⟩
set_option maxHeartbeats 4000000 in
set_option maxRecDepth 100000 in
theorem copy_ok (l : List At) (hb : l.length * 64 ≤ 140737488355328) (hc : ∀ a ∈ l, a.cuts.length * 16 ≤ 140737488355328) : CallOK' Try.prog 17 [.sl 5 (ats l)] (.deep 31 5 (dats l)) := by
  intro w0 lm0 vs hvs
  cases hvs with
  | cons hv hn =>
  cases hn
  rename_i v
  obtain ⟨ad, cap, xs, rfl, hxs, h1, hmem⟩ := rep_row hv
  rw [ats_len] at *
  go_enter Try.func17, Try.ntmps17
  go_wp2
  go_loopw [3, 4] (fun vo vi wr => ∃ i : Nat, vi = .int .i64 i ∧ As (i ≤ l.length) ∧ As (CInv w0 lm0 l i vo wr)) (fun _ vi _ => l.length - (intOf vi).toNat)
  case atStart =>
    refine ⟨0, rfl, ⟨by omega⟩, ⟨Below.refl _ _, fun _ => .slice none 0 0, rfl, ⟨by omega, by simp [dats], ⟨[], ⟨rfl, .inl ⟨rfl, rfl⟩⟩, .nil, by simp, by simp [dats]⟩, by simp [blk], fun p hp => by simp [dats] at hp⟩, fun _ => 0, fun x b hx hb => by simp [blk] at hb⟩⟩
  case round =>
    obtain ⟨i, rfl, hi, hI⟩ := hrel
    by_cases hlt : i < l.length
    · obtain ⟨b, o, rfl, hm⟩ : ∃ b o, ad = some ⟨b, o, none⟩ ∧ ∀ j u, xs[j]? = some u → w0.cell? ⟨b, o + j, none⟩ = some u := by
        rcases hmem with h | h
        · omega
        · exact h
      have hdr := hxs.drop (i * 5)
      rw [flatten_drop i (fun c hc => by obtain ⟨a, _, rfl⟩ := List.mem_map.1 hc; rfl), show (ats l).drop i = l[i].pv :: (ats l).drop (i + 1) from by rw [List.drop_eq_getElem_cons (by rw [ats_len]; exact hlt)]; congr 1; simp [ats], List.flatten_cons] at hdr
      obtain ⟨y, hy⟩ : ∃ y, xs.drop (i * 5) = y := ⟨_, rfl⟩
      rw [hy] at hdr
      unfold At.pv at hdr
      cases hdr with
      | cons r0 hdr => cases hdr with
      | cons r1 hdr => cases hdr with
      | cons r2 hdr => cases hdr with
      | cons r3 hdr => cases hdr with
      | cons r4 hdr =>
      cases r0
      cases r1
      cases r2
      cases r3
      rename_i c4 ys
      have hget : ∀ j, xs[i * 5 + j]? = (Value.string l[i].txt :: Value.int .i64 l[i].rv :: Value.int .i64 l[i].gr :: Value.int .i64 l[i].rk :: c4 :: ys)[j]? := fun j => by rw [← hy, List.getElem?_drop]
      have hbw := hI.out.1
      have hcell : ∀ j u, xs[i * 5 + j]? = some u → wr.cell? ⟨b, o + i * 5 + j, none⟩ = some u := fun j u hu => by
        have h2 := hm _ u hu
        rw [show o + (i * 5 + j) = o + i * 5 + j by omega] at h2
        have h3 : b < w0.heap.size := by
          rcases Nat.lt_or_ge b w0.heap.size with h' | h'
          · exact h'
          · simp [World.cell?, Array.getElem?_eq_none h'] at h2
        exact (World.cell?_of_block (a := ⟨b, o + i * 5 + j, none⟩) (hbw.block b h3)).trans h2
      have g0 := hcell 0 _ (hget 0)
      have g1 := hcell 1 _ (hget 1)
      have g2 := hcell 2 _ (hget 2)
      have g3 := hcell 3 _ (hget 3)
      have g4 := hcell 4 _ (hget 4)
      rw [Nat.add_zero] at g0
      clear hget hcell hm
      obtain ⟨ad4, cap4, zs, rfl, hzs, hz1, hzm⟩ := rep_row r4
      rw [cutsL_len] at *
      have hzl : zs.length = l[i].cuts.length * 2 := by rw [← hzs.length, flatten_len (k := 2) (fun c hc => by obtain ⟨q, _, rfl⟩ := List.mem_map.1 hc; rfl), cutsL_len]
      have hci := hc l[i] (List.getElem_mem hlt)
      generalize hcn : l[i].cuts.length = cn at *
      have hzmw : ∀ X : Obj, cn = 0 ∨ ∃ a', ad4 = some a' ∧ ∀ j u, zs[j]? = some u → (wr.alloc X).cell? (a'.add j) = some u := fun X => by
        rcases hzm with h | ⟨b4, o4, h, hm4⟩
        · exact .inl h
        · refine .inr ⟨_, h, fun j u hu => ?_⟩
          have h2 := hm4 j u hu
          have h3 : b4 < w0.heap.size := by
            rcases Nat.lt_or_ge b4 w0.heap.size with h' | h'
            · exact h'
            · simp [World.cell?, Array.getElem?_eq_none h'] at h2
          have h4 := (World.cell?_of_block (a := ⟨b4, o4 + j, none⟩) (hbw.block b4 h3)).trans h2
          rw [add_n]
          exact (World.cell?_of_block (Lib.alloc_old wr _ _ (by have := hbw.size; show b4 < _; omega))).trans h4
      go_wp2_with (at_builtin; refine app_wpList Try.underlying29 clone_el rfl _ _ rfl w0.heap.size _ 0 [] rfl ⟨rfl, .inl ⟨rfl, rfl⟩⟩ ad4 cn cap4 zs rfl hzl (hzmw _) hz1 ?c1 ?c2 ?c3 ?_)
      case c1 => omega
      case c2 => omega
      case c3 => simp; exact Nat.le_succ_of_le hbw.size
      intro vc w2 hown2 hgrow2
      have hcg : (∀ b, blk vc = some b → wr.heap.size < b) ∧ Below (wr.heap.size + 1) (wr.alloc (.cells #[.string l[i].txt, .int .i64 l[i].rv, .int .i64 l[i].gr, .int .i64 l[i].rk, .slice ad4 cn cap4] 31)) w2 := by
        have hsz : (wr.alloc (.cells #[.string l[i].txt, .int .i64 l[i].rv, .int .i64 l[i].gr, .int .i64 l[i].rk, .slice ad4 cn cap4] 31)).heap.size = wr.heap.size + 1 := by simp
        refine ⟨fun b hb => ?_, ?_⟩
        · rcases hgrow2 with h | h
          · rw [h.1] at hb; simp [blk, Act.eval] at hb
          · rw [h.1, hsz] at hb; have := Option.some.inj hb; omega
        · exact grew_below hgrow2 (by rw [hsz]; omega) fun b hb => by simp [blk, Act.eval] at hb
      obtain ⟨hcb, hbl2⟩ := hcg
      have hb5 : w2.heap[wr.heap.size]? = some (.cells #[.string l[i].txt, .int .i64 l[i].rv, .int .i64 l[i].gr, .int .i64 l[i].rk, .slice ad4 cn cap4] 31 (0, 0)) := by
        rw [hbl2.block _ (by omega)]; exact new_blk _ _
      obtain ⟨adc, capc, rfl⟩ := slice_of hown2
      have f4 : w2.frozen? ⟨wr.heap.size, 4, none⟩ = false := by simp [World.frozen?, hb5]
      have x0 : w2.cell? ⟨wr.heap.size, 0, none⟩ = some (.string l[i].txt) := by simp [World.cell?, hb5]
      have x1 : w2.cell? ⟨wr.heap.size, 1, none⟩ = some (.int .i64 l[i].rv) := by simp [World.cell?, hb5]
      have x2 : w2.cell? ⟨wr.heap.size, 2, none⟩ = some (.int .i64 l[i].gr) := by simp [World.cell?, hb5]
      have x3 : w2.cell? ⟨wr.heap.size, 3, none⟩ = some (.int .i64 l[i].rk) := by simp [World.cell?, hb5]
      have x4 : w2.cell? ⟨wr.heap.size, 4, none⟩ = some (.slice ad4 cn cap4) := by simp [World.cell?, hb5]
      obtain ⟨hB, gv, hg0, hob, own, hap⟩ := hI.out
      obtain ⟨_, _, ⟨xsI, hxI, hrI, ho1, h7⟩, hlm, hse⟩ := hob
      have hil : (dats (l.take i)).length = i := by rw [dats_len, List.length_take]; omega
      dsimp only at hxI
      rw [hg0, hil] at hxI
      obtain ⟨ad3, cap3, rfl⟩ := slice_of hxI
      have hs2 : wr.heap.size + 1 ≤ w2.heap.size := by have := hbl2.size; simpa using this
      have h3b : ∀ b, blk (.slice ad3 i cap3) = some b → b < wr.heap.size := fun b hb => (owns_block hxI hb).2
      have hk : ∀ (X : Obj) b, b < wr.heap.size → ((w2.setCell ⟨wr.heap.size, 4, none⟩ (.slice adc cn capc)).alloc X).heap[b]? = wr.heap[b]? := fun X b hb => by
        rw [Lib.alloc_old _ _ _ (by simp; omega), Below.heap_setCell _ _ _ _ (show b ≠ wr.heap.size by omega), hbl2.block b (by omega), Lib.alloc_old _ _ _ hb]
      have hown3 : ∀ X : Obj, ((w2.setCell ⟨wr.heap.size, 4, none⟩ (.slice adc cn capc)).alloc X).ownsRow w0.heap.size 31 5 (.slice ad3 i cap3) i xsI := fun X => ownsRow_keep hxI fun b hb => hk X b (h3b b hb)
      have hm3 : ∀ c (j : Nat) (u : Value), c.toList[j]? = some u → ((w2.setCell ⟨wr.heap.size, 4, none⟩ (.slice adc cn capc)).alloc (.cells c 31)).cell? ((⟨w2.heap.size, 0, none⟩ : Addr).add j) = some u := fun c j u hu => by
        have := new_blk (w2.setCell ⟨wr.heap.size, 4, none⟩ (.slice adc cn capc)) (.cells c 31)
        rw [show (w2.setCell ⟨wr.heap.size, 4, none⟩ (.slice adc cn capc)).heap.size = w2.heap.size by simp] at this
        rw [add_n, Nat.zero_add]
        simp only [World.cell?, this]
        rw [← Array.getElem?_toList]
        exact hu
      go_wp2_with (at_builtin; refine app_wpList Try.underlying22 at_el rfl _ _ rfl w0.heap.size _ i xsI rfl (hown3 _) (some ⟨w2.heap.size, 0, none⟩) 1 1 [.string l[i].txt, .int .i64 l[i].rv, .int .i64 l[i].gr, .int .i64 l[i].rk, .slice adc cn capc] rfl rfl (.inr ⟨_, rfl, fun j u hu => hm3 _ j u hu⟩) ?o1 ?o2 ?o3 ?o4 ?_)
      case o1 =>
        exact ⟨rfl, rfl, rfl, rfl, rfl⟩
      case o2 => omega
      case o3 => omega
      case o4 => have := hB.size; omega
      intro v4 w4 hown4 hgrow4
      have hfin : CInv w0 lm0 l (i + 1) v4 w4 := by
        have hs3 : ∀ X : Obj, ((w2.setCell ⟨wr.heap.size, 4, none⟩ (.slice adc cn capc)).alloc X).heap.size = w2.heap.size + 1 := fun X => by simp
        have gr : ∀ b, blk (.slice ad3 i cap3) ≠ some b → b < w2.heap.size + 1 → w4.heap[b]? = ((w2.setCell ⟨wr.heap.size, 4, none⟩ (.slice adc cn capc)).alloc (.cells #[.string l[i].txt, .int .i64 l[i].rv, .int .i64 l[i].gr, .int .i64 l[i].rk, .slice adc cn capc] 31)).heap[b]? := fun b h1 h2 => by
          rcases hgrow4 with h | h
          · exact h.2.2.2.2.2 b h1
          · exact h.2.block b (by rw [hs3]; exact h2)
        refine step_inv (w2 := w2) (own := own) hlt hB ?_ hg0 hrI h7 hap (by rw [hcn]; exact hown2) hzs hz1 hcb ?_ h3b ?_ ?_ hown4 ?_
        · have b1 : Below w0.heap.size w0 _ := (hB.alloc hB.size _).trans (hbl2.mono (by have := hB.size; omega))
          exact (((b1.setCell (p := ⟨wr.heap.size, 4, none⟩) hB.size _).alloc (by simp; have := hB.size; omega) _).trans (grew_below hgrow4 (by rw [hs3]; have := hB.size; omega) fun b hb => (owns_block hxI hb).1))
        · intro b hb
          rcases hgrow4 with h | h
          · rw [h.1] at hb; exact .inl hb
          · rw [h.1, hs3] at hb
            have hb := Option.some.inj hb
            refine .inr ⟨by omega, fun h => ?_⟩
            have := (owns_block hown2 h).2
            omega
        · intro b h1 h2
          rw [gr b h2 (by omega)]
          exact hk _ b h1
        · intro b hb
          have q1 := hcb b hb
          have q2 := (owns_block hown2 hb).2
          rw [gr b (fun h => by have := h3b b h; omega) (by omega), Lib.alloc_old _ _ _ (by simpa using q2), Below.heap_setCell _ _ _ _ (show b ≠ wr.heap.size by omega)]
        · intro u hu
          simp only [List.mem_append, List.mem_cons, List.not_mem_nil, or_false] at hu
          rcases hu with hu | rfl | rfl | rfl | rfl | rfl
          · exact ho1 u hu
          all_goals rfl
      clear hown4 hgrow4 hown3 hm3 hk h3b hxI hrI h7 hap
      go_wp2
      go_roundw
      case rel => exact ⟨i + 1, by go_num, ⟨by omega⟩, ⟨hfin⟩⟩
      case measure => simp [intOf]; omega
    · have hil : i = l.length := by have := hi.out; omega
      subst hil
      obtain ⟨hB, gv, hg0, hob, own, hap⟩ := hI.out
      rw [List.take_length] at hob hap
      go_wp2
      go_ret
      exact ⟨u3, lmz w0 lm0, rfl, hB, fun b hb => if_pos hb, gv, hg0, hob, own, hap⟩
end Go.Proofs.Ytihgpnfkadldeaa.AM
