/- The small machine's operations that make slices grow, copy, and go through strings. No condition. -/
import Derived.Test.YtihgpnfkadldeaaAM10
namespace Go.Proofs.Ytihgpnfkadldeaa.AM
open Go Go.RowKit
set_option linter.unusedVariables false
set_option linter.unusedSimpArgs false

section
variable {P : Program} {base : Nat} {w0 : World} {lm0 : Nat → Nat} {N : Nat} {g : Gs} {a : Act} {w : World} {s : St} {o : Oper}

theorem run_app {t tx ty e : TypeId} {dx : TypeDesc} {i : TypeInfo} {z : Value} (ht : P.underlying t = some (.slice e)) (htx : P.underlying tx = some dx) (hdx : ∀ k, dx ≠ .int k) (hi : P.info? e = some i) (hz : i.zero = some z) (hzs : z.cells.size = i.size)
    {v x : Value} {n m : Nat} {xs news : List Value} (hown : w.ownsRow base e i.size v n xs) (hl : news.length = m * i.size) (h1 : ∀ u ∈ news, u.oneCell' = true) (hlen : ∀ w', (Builtin.lenOf x).run P w' = .ok m w')
    (hf : ∀ w', w'.heap = w.heap → (Builtin.firstCells i.size m x).run P w' = .ok news.toArray w') (h63 : n + m ≤ maxLen) (hby : (n + m) * i.bytes ≤ 140737488355328) (hbase : base ≤ w.heap.size) :
    ∃ v' w', (Builtin.append_ #[t, tx] ty #[v, x]).run P w = .ok v' w' ∧ w'.ownsRow base e i.size v' (n + m) (xs ++ news) ∧
      ((blk v' = blk v ∧ w'.os = w.os ∧ w'.tape = w.tape ∧ w'.output = w.output ∧ w'.heap.size = w.heap.size ∧ ∀ b, blk v ≠ some b → w'.heap[b]? = w.heap[b]?) ∨ (blk v' = some w.heap.size ∧ Below w.heap.size w w')) := by
  have hsmall : n + m ≤ 9223372036854775807 := by simp only [maxLen] at h63; omega
  have hxl := hown.1
  have hlen' : (xs ++ news).length = (n + m) * i.size := by rw [List.length_append, hxl, hl, Nat.add_mul]
  have hzero : (match dx with | .int _ => true | _ => false) = false := by cases dx <;> first | rfl | exact absurd rfl (hdx _)
  have grown : ∀ (old : Nat), old < n + m →
      (w.drew.alloc (.cells (xs.toArray ++ news.toArray ++ Builtin.zeroCells z.cells (grownCap w (n + m) old e - (n + m))) e)).ownsRow base e i.size
        (.slice (some ⟨w.heap.size, 0, none⟩) (n + m) (grownCap w (n + m) old e)) (n + m) (xs ++ news) := by
    intro old ho
    have hge := grownCap_ge w (n + m) old e
    have hcm := grownCap_le_maxLen w (n + m) old e h63
    refine ⟨hlen', .inr ⟨w.heap.size, _, _, rfl, hbase, heap_alloc_new w.drew _, hge, hcm, ?_, ?_⟩⟩
    · simp only [Array.size_append, List.size_toArray, size_zeroCells, hzs, hxl, hl, ← Nat.add_mul]
      congr 1
      omega
    · simp only [Array.toList_append, List.append_assoc]
      rw [← List.append_assoc, ← hlen']
      exact List.take_left
  rcases hown.2 with ⟨rfl, rfl⟩ | ⟨b, cap, cur, rfl, hbg, hg, hnc, hcm, hcs, htake⟩
  · have hx : xs = [] := List.eq_nil_of_length_eq_zero (by simpa using hxl)
    subst hx
    by_cases hm : m = 0
    · subst hm
      have hn : news = [] := List.eq_nil_of_length_eq_zero (by simpa using hl)
      subst hn
      refine ⟨.slice none 0 0, w, ?_, hown, .inl ⟨rfl, rfl, rfl, rfl, rfl, fun _ _ => rfl⟩⟩
      have := hf w rfl
      simp [Builtin.append_, run_underlying ht, run_underlying htx, sizeOf, typeInfo, hi, hlen, hzero, this]
    · have h63' : ¬ (9223372036854775807 < (m : Int)) := by omega
      have h48' : ¬ (281474976710656 < Builtin.nextslicecap m 0 * i.bytes) := by rw [nextslicecap_zero (by omega)]; have hb := hby; simp only [Nat.zero_add] at hb; omega
      have hfd := hf w.drew rfl
      have hgr := grown 0 (by omega)
      simp only [Nat.zero_add, List.nil_append, Array.empty_append] at hgr ⊢
      refine ⟨_, _, ?_, hgr, .inr ⟨rfl, drewN_alloc_below w _⟩⟩
      simp [Builtin.append_, run_underlying ht, run_underlying htx, sizeOf, typeInfo, zeroValue, hi, hz, hlen, hzero, hm, h63', h48', Question.forced, run_firstCells_none, hfd, Go.newRow, grownCap]
  · by_cases hroom : n + m ≤ cap
    · have hfit : n * i.size + news.length ≤ cur.size := by rw [hl, hcs, ← Nat.add_mul]; exact Nat.mul_le_mul_right _ hroom
      have hst := run_storeCells_at P b (n * i.size) e news 0 cur w hg (by simpa using hfit) h1
      simp only [Nat.add_zero] at hst
      have hfw := hf w rfl
      refine ⟨.slice (some ⟨b, 0, none⟩) (n + m) cap, w.setRow b (cur.toList.take (n * i.size) ++ news ++ cur.toList.drop (n * i.size + news.length)).toArray, ?_, ⟨hlen', .inr ⟨b, cap, _, rfl, hbg, setRow_heap w b cur _ e _ hg, hroom, hcm, ?_, ?_⟩⟩, .inl ⟨rfl, rfl, rfl, rfl, by simp, fun b' hb' => setRow_other w b b' _ (fun e => hb' (by rw [e]; rfl))⟩⟩
      · simp [Builtin.append_, run_underlying ht, run_underlying htx, sizeOf, typeInfo, hi, hlen, hzero, hroom, hfw, Addr.add_lit, hst]
      · simp only [List.size_toArray, List.length_append, List.length_take, List.length_drop, Array.length_toList]
        omega
      · rw [htake, ← hlen']
        exact List.take_left
    · have holds : ∀ j u, xs[j]? = some u → w.cell? ((⟨b, 0, none⟩ : Addr).add j) = some u := hown.cells (g := b) rfl
      have hn : ¬ (n + m ≤ cap) := hroom
      have h63' : ¬ (9223372036854775807 < ((n : Int) + (m : Int))) := by omega
      have h48' : ¬ (281474976710656 < Builtin.nextslicecap (n + m) cap * i.bytes) := by have := growslice_fits (show cap < n + m by omega) hby; omega
      have hfd := hf w.drew rfl
      have hfo := run_firstCells_some (P := P) w.drew i.size n ⟨b, 0, none⟩ n cap xs hxl (by simpa using holds)
      refine ⟨_, _, ?_, grown cap (by omega), .inr ⟨rfl, drewN_alloc_below w _⟩⟩
      simp [Builtin.append_, run_underlying ht, run_underlying htx, sizeOf, typeInfo, zeroValue, hi, hz, hlen, hzero, hn, h63', h48', Question.forced, hfd, hfo, Go.newRow, grownCap]
      congr 2
      apply Array.ext'
      simp [List.append_assoc]

/-- A row grows: the elder object is gone, a new one has all. -/
theorem Sim.grow (S : Sim base w0 lm0 N g a w s) {d id e k : Nat} {l l' : List (List PV)} (hd : get s.h d = some (.row e k false l)) (hid : get s.h id = none) (hid2 : id < 1000000) {w' : World} {v' : Value} {xs' : List Value} (hk : ∀ c ∈ l', c.length = k) (hown : w'.ownsRow base e k v' l'.length xs') (hr : RepL w g.lm l'.flatten xs') (h1 : ∀ u ∈ xs', u.oneCell' = true)
    (hc : (blk v' = blk (g.v d) ∧ w'.os = w.os ∧ w'.tape = w.tape ∧ w'.output = w.output ∧ w'.heap.size = w.heap.size ∧ ∀ b, blk (g.v d) ≠ some b → w'.heap[b]? = w.heap[b]?) ∨ (blk v' = some w.heap.size ∧ Below w.heap.size w w')) :
    ∃ g' : Gs, g'.v id = v' ∧ Sim base w0 lm0 N g' a w' ⟨s.t, AM.put (AM.put s.h d .dead) id (.row e k false l')⟩ := by
  have hlm0 : ∀ b, blk (g.v d) = some b → g.lm b = 0 := fun b hb => by simpa using (S.ob d _ hd).2.2.2 b hb
  have hne : id ≠ d := fun h => by rw [h, hd] at hid; simp at hid
  let lm' : Nat → Nat := fun b => if b = w.heap.size then 0 else g.lm b
  have hbl : ∀ b, b < w.heap.size → lm' b = g.lm b := fun b h => if_neg (by omega)
  have hheap : ∀ b, b < w.heap.size → blk (g.v d) ≠ some b → w'.heap[b]? = w.heap[b]? := by
    intro b hb hb'
    rcases hc with ⟨_, _, _, _, _, h⟩ | ⟨_, h⟩
    · exact h b hb'
    · exact h.block b hb
  have hext : Ext w g.lm w' lm' := by
    intro b of u hcell ho
    have hb := cell_lt hcell
    have hb' : blk (g.v d) ≠ some b := fun h => by have := hlm0 b h; omega
    exact ⟨(World.cell?_of_block (a := ⟨b, of, none⟩) (hheap b hb hb')).trans hcell, by rw [hbl b hb]; exact ho⟩
  have hbelow : Below base w w' := by
    rcases hc with ⟨h0, h1, h2, h3, h4, h5⟩ | ⟨_, h⟩
    · refine ⟨h1, h2, h3, by omega, fun b hb => h5 b fun hq => ?_⟩
      have := ((S.ob d _ hd).block rfl hq).1
      omega
    · exact h.mono S.bw
  have hv'lm : ∀ b, blk v' = some b → lm' b = 0 := by
    intro b hb
    rcases hc with ⟨h0, _⟩ | ⟨h0, _⟩
    · rw [h0] at hb
      rw [hbl b ((S.ob d _ hd).block rfl hb).2, hlm0 b hb]
    · rw [h0] at hb
      obtain rfl := Option.some.inj hb
      exact if_pos rfl
  have hni : ∀ d1 o1 x, get s.h d1 = some o1 → Ids d1 o1 x → x ≠ id := fun d1 o1 x h1 hi e => by
    have := hi.lt (by rw [e]; exact hid2)
    rw [← this, e, hid] at h1
    simp at h1
  have keep : ∀ {d1 o1}, get (AM.put (AM.put s.h d .dead) id (.row e k false l')) d1 = some o1 → id ≠ d1 → o1.live = true → get s.h d1 = some o1 ∧ d ≠ d1 := by
    intro d1 o1 h hi hl
    rw [get_put_ne _ hi] at h
    by_cases h3 : d = d1
    · rw [← h3, get_put_same] at h
      obtain rfl := Option.some.inj h
      simp [Ob.live] at hl
    · rw [get_put_ne _ h3] at h
      exact ⟨h, h3⟩
  refine ⟨⟨lm', upd g.v id v'⟩, upd_same _ _ _, S.turn ⟨hext, fun d1 o1 hd1 => ?_⟩ hbelow (fun b hb => hbl b (Nat.lt_of_lt_of_le hb S.bw)) (fun d1 o1 hd1 => ?_) (fun d1 o1 hd1 => ?_) ?_⟩
  · have h2 : d1 ≠ id := fun h => by rw [h, hid] at hd1; simp at hd1
    rw [get_put_ne _ (Ne.symm h2)]
    by_cases h3 : d = d1
    · exact .inl (by rw [← h3, get_put_same])
    · exact .inr ⟨upd_ne _ h2 _, o1, by rw [get_put_ne _ h3]; exact hd1, Shp.refl _⟩
  · by_cases h2 : id = d1
    · subst h2
      rw [get_put_same] at hd1
      obtain rfl := Option.some.inj hd1
      refine ⟨(S.ob d _ hd).1, hk, ⟨xs', by simp only [upd_same]; exact hown, hr.ext hext, h1⟩, fun b hb => ?_⟩
      simp only [upd_same] at hb
      simpa using hv'lm b hb
    · rw [get_put_ne _ h2] at hd1
      by_cases h3 : d = d1
      · subst h3
        rw [get_put_same] at hd1
        obtain rfl := Option.some.inj hd1
        trivial
      · rw [get_put_ne _ h3] at hd1
        refine (S.ob d1 o1 hd1).keep (fun x hi => upd_ne _ (hni d1 o1 x hd1 hi) _) hext fun hl x hi b hb => ?_
        have hb2 := ((S.ob d1 o1 hd1).blockI hl hi hb).2
        exact ⟨hheap b hb2 fun hq => S.far hd hd1 rfl hl (.self _ _) hi (S.ne hd hd1 h3 (.self _ _) hi) hq hb, hbl b hb2⟩
  · by_cases h2 : id = d1
    · subst h2; exact hid2
    · rw [get_put_ne _ h2] at hd1
      by_cases h3 : d = d1
      · subst h3; exact S.lt _ _ hd
      · rw [get_put_ne _ h3] at hd1; exact S.lt _ _ hd1
  · obtain ⟨own, hap⟩ := S.ap
    refine ⟨fun b => if blk v' = some b then id else own b, fun d1 o1 x b hd1 l1 hi hb => ?_⟩
    dsimp only
    by_cases h2 : id = d1
    · subst h2
      rw [get_put_same] at hd1
      obtain rfl := Option.some.inj hd1
      obtain rfl := hi.plain rfl
      simp only [upd_same] at hb
      exact if_pos hb
    · obtain ⟨q1, q2⟩ := keep hd1 h2 l1
      simp only [upd_ne _ (hni d1 o1 x q1 hi)] at hb
      rw [if_neg]
      · exact hap d1 o1 x b q1 l1 hi hb
      · intro hb'
        have hb2 := ((S.ob d1 o1 q1).blockI l1 hi hb).2
        rcases hc with ⟨h0, _⟩ | ⟨h0, _⟩
        · rw [h0] at hb'
          exact S.far hd q1 rfl l1 (.self _ _) hi (S.ne hd q1 q2 (.self _ _) hi) hb' hb
        · rw [h0] at hb'
          have := Option.some.inj hb'
          omega
end
end Go.Proofs.Ytihgpnfkadldeaa.AM
