/- Made by pack.py: VR2, VR3, VR4, VR5, VR6, RH, RH2, RH3, RH4, AE, AY1, AY, AE2, AR15, AR16, AR17, AR18. No condition but what each says. -/
import Derived.Test.YtjpibniecllafaaGreatR12
import Derived.Test.YtjpibniecllafaaGreatR2
import Derived.Deep.AppendLies
import Derived.Deep.DeepMust
import Derived.Laws.CopyOwn
import Derived.Deep.RegionLaw
import Derived.Test.YtjpibniecllafaaGreatR5
import Derived.Test.YtjpibniecllafaaGreatR11
import Derived.Test.YtjpibniecllafaaGreatR3
set_option linter.unusedSimpArgs false
set_option linter.unusedVariables false
section
namespace Go.Proofs.YtjpibniecllafaaGreat.AM
open Go Go.RowKit Go.Maps Go.Proofs
attribute [local go_sem ↓] Go.wp_at_zero Go.wp_at_succ
structure Tch (w w' : World) (T : Nat → Prop) : Prop where
 os : w'.os = w.os
 tape : w'.tape = w.tape
 output : w'.output = w.output
 size : w.heap.size ≤ w'.heap.size
 block : ∀ k, k < w.heap.size → ¬ T k → w'.heap[k]? = w.heap[k]?
theorem Tch.of {w w' : World} {T : Nat → Prop} (h : Below w.heap.size w w') : Tch w w' T := ⟨h.os, h.tape, h.output, h.size, fun k hk _ => h.block k hk⟩
theorem Tch.trans {w w' w'' : World} {T : Nat → Prop} (h : Tch w w' T) (h' : Tch w' w'' T) : Tch w w'' T := ⟨h'.os.trans h.os, h'.tape.trans h.tape, h'.output.trans h.output, Nat.le_trans h.size h'.size, fun k hk ht => (h'.block k (Nat.lt_of_lt_of_le hk h.size) ht).trans (h.block k hk ht)⟩
section
variable {w : World} {B b ub cap mg mf : Nat} {um : List Nat} {U : List (List Int)} {fl : Int} {G F : List Int}
theorem Tus : elOk Tryz.prog 161 1 8 = true := by decide +kernel
theorem Tfb {l : List Int} {m : Nat} (W : World) (h : SetAt W m l) : Calls Tryz.prog 154 #[.map (some m)] W fun e w' => e = .returned (.map (some W.heap.size)) ∧ SetAt w' W.heap.size l ∧ W.heap.size < w'.heap.size ∧ Below W.heap.size W w' := by
 refine (AnyW.maps_Clone_owns Tryz.mclone 3 unitElem m 60 (keyL l) W h.1).mono ?_
 rintro e w' ⟨rfl, h1, h2, h3⟩
 exact ⟨rfl, ⟨h1, h.2⟩, h1.lt, h3⟩
theorem RevM.last (h : RevM w B b ub cap mg mf um U fl G F) : ∃ k m l, U.length = k + 1 ∧ um[k]? = some m ∧ U[k]? = some l ∧ U.getLastD [] = l ∧ B ≤ m ∧ SetAt w m l := by
 obtain ⟨k, hk⟩ : ∃ k, U.length = k + 1 := ⟨U.length - 1, by have := h.n1; omega⟩
 have h1 : k < um.length := by have := h.len; omega
 have h2 : k < U.length := by omega
 refine ⟨k, um[k], U[k], hk, List.getElem?_eq_getElem h1, List.getElem?_eq_getElem h2, ?_, h.sets k _ _ (List.getElem?_eq_getElem h1) (List.getElem?_eq_getElem h2)⟩
 have hne : U ≠ [] := by intro e; simp [e] at hk
 rw [List.getLastD_eq_getLast?, List.getLast?_eq_some_getLast hne, Option.getD_some, List.getLast_eq_getElem]
 congr 1
 omega
set_option maxHeartbeats 4000000 in
set_option maxRecDepth 100000 in
theorem Tm4 (h : RevM w B b ub cap mg mf um U fl G F) (hBw : B ≤ w.heap.size) :
 Calls Tryz.prog 98 #[.pointer (some ⟨b, 0, none⟩)] w fun e w' =>
  (200 ≤ fl + U.length - 1 ∧ e = .returned (.tuple #[.map none, .int .i64 70]) ∧ Below w.heap.size w w') ∨
  (fl + U.length - 1 < 200 ∧ ∃ m ub' cap', e = .returned (.tuple #[.map (some m), .int .i64 0]) ∧ RevM w' B b ub' cap' mg mf (um ++ [m]) (U ++ [U.getLastD []]) fl G F ∧ w.heap.size ≤ m ∧ (ub' = ub ∨ w.heap.size ≤ ub') ∧ Tch w w' fun k => k = b ∨ k = ub) := by
 have hH := Tdv h
 obtain ⟨k, m, l, hk, hm, hl, hlast, hmB, hset⟩ := h.last
 rw [hlast]
 have c0 : w.cell? ⟨b, 0, none⟩ = some (.slice (some ⟨ub, 0, none⟩) U.length cap) := by simp [World.cell?, h.cells]
 have c3 := h.at_ hm
 have k2 := h.f0
 have k3 := h.le
 have hk1 : k < U.length := by omega
 have hk2 : U.length ≤ k + 1 := by omega
 have hlt := h.lt
 obtain ⟨n, hn⟩ : ∃ n, U.length = n := ⟨_, rfl⟩
 rw [hn] at c0 hH k3 hk1 hk2 ⊢
 clear hk
 go_enter Tryz.func98, Tryz.ntmps98
 by_cases hh : 200 ≤ fl + (n : Int) - 1
 · have f1 : decide (fl + (n : Int) - 1 ≥ 200) = true := decide_eq_true hh
   go_wp2_with (go_at_call 59; refine hH.mono ?_; rintro e w' ⟨rfl, hb⟩)
   go_ret2
   exact .inl ⟨hh, rfl, hb⟩
 · have f1 : decide (fl + (n : Int) - 1 ≥ 200) = false := decide_eq_false hh
   go_wp2_with (go_at_call 59; refine hH.mono ?_; rintro e w1 ⟨rfl, hb⟩)
   have hsz := hb.size
   have d0 : w1.cell? ⟨b, 0, none⟩ = some (.slice (some ⟨ub, 0, none⟩) n cap) := (World.cell?_of_block (hb.block b (h.lt b (by simp)).2)).trans c0
   have d3 : w1.cell? ⟨ub, k, none⟩ = some (.map (some m)) := (World.cell?_of_block (hb.block ub (h.lt ub (by simp)).2)).trans c3
   have hC : ∀ W : World, w1 = W ∨ w1.drew = W → Calls Tryz.prog 154 #[.map (some m)] W fun e w' => e = .returned (.map (some w1.heap.size)) ∧ w'.cell? ⟨b, 0, none⟩ = some (.slice (some ⟨ub, 0, none⟩) n cap) ∧ w'.cell? ⟨ub, k, none⟩ = some (.map (some m)) ∧ SetAt w' w1.heap.size l ∧ w1.heap.size < w'.heap.size ∧ Below w.heap.size w w' := by
    intro W hW
    have e1 : W.heap = w1.heap := by rcases hW with rfl | rfl <;> rfl
    have e2 : Below w.heap.size w W := hW.elim (fun e => e ▸ hb) (fun e => e ▸ ⟨hb.os, hb.tape, hb.output, hb.size, hb.block⟩)
    refine (Tfb W (hset.keep (by rw [e1]; exact hb.block m hset.lt))).mono ?_
    rintro e w' ⟨rfl, q1, q2, q3⟩
    rw [e1] at q1 q2 q3 ⊢
    have q4 : Below w.heap.size w w' := e2.trans (q3.mono hsz)
    exact ⟨rfl, (World.cell?_of_block (q4.block b (h.lt b (by simp)).2)).trans c0, (World.cell?_of_block (q4.block ub (h.lt ub (by simp)).2)).trans c3, q1, q2, q4⟩
   have i1 : IntKind.i64.wrap ((n : Int) - 1) = (k : Int) := by rw [wrapI _ (by omega) (by omega)]; omega
   have i2 : (0 : Int) ≤ (k : Int) := by omega
   have i3 : (k : Int) < (n : Int) := by omega
   go_region_held3 (fun w' => w'.cell? ⟨b, 0, none⟩ = some (.slice (some ⟨ub, 0, none⟩) n cap) ∧ w'.cell? ⟨ub, k, none⟩ = some (.map (some m))) (go_keep)
    (first | (go_at_call 154; refine (hC _ ?_).mono ?_; (simp); rintro e w2 ⟨rfl, q0, q3, q5, q6, q7⟩))
   have R2 : RevM w2 B b ub cap mg mf um U fl G F := h.below q7
   obtain ⟨i, z, hi, hz, hi1, hby1, hzs⟩ := Tbg Tus
   have hs2 := q7.size
   go_wp2_with (at_builtin; refine wpList_append_lies _ rfl _ _ _ rfl B 161 i z 1 8 Tryz.underlying162 hi hz hi1 hby1 hzs (by omega) (.slice (some ⟨ub, 0, none⟩) n cap) n (um.map fun m => .map (some m)) rfl ?own ⟨w2.heap.size, 0, none⟩ 1 1 [.map (some w1.heap.size)] rfl rfl ?news ?one (by omega) ?c1 ?c2 ?c3 (w2.heap.size + 1) (by simp) ?_)
   case own => rw [← hn]; exact R2.row.alloc _
   case news => exact World.news_of_block (heap_alloc_new w2 _)
   case one => simp [Value.oneCell']
   case c1 => simp only [maxLen]; omega
   case c2 => omega
   case c3 => simp; omega
   intro g cap' w3 hown hgrow hat hlt3
   have hnb : ub ≠ b := by have := h.nd; simp at this; exact this.1.1
   have hbl := (hlt b (by simp)).2
   have e0 : (w2.alloc (.cells #[.map (some w1.heap.size)] 161)).heap.size = w2.heap.size + 1 := by simp
   have old : ∀ k, k < w2.heap.size → k ≠ ub → w3.heap[k]? = w2.heap[k]? := fun k hk hne => (hgrow.block k (by rw [e0]; omega) (by simpa [Value.ownBlock] using hne)).trans (Lib.alloc_old w2 _ k hk)
   have hc3 : w3.heap[b]? = some (.cells #[.slice (some ⟨ub, 0, none⟩) n cap, .int .i64 fl, .map (some mg), .map (some mf)] 164 (0, 0)) := by rw [old b (by omega) (Ne.symm hnb), R2.cells, hn]
   have d1 : w3.cell? ⟨b, 0, none⟩ = some (.slice (some ⟨ub, 0, none⟩) n cap) := by simp [World.cell?, hc3]
   have d2 : w3.frozen? ⟨b, 0, none⟩ = false := by simp [World.frozen?, hc3]
   go_wp2
   go_ret2
   have hgb : g ≠ b := by
    rcases hat with h1 | h1
    · simp [Value.ownBlock] at h1; omega
    · omega
   have e4 : ∀ k, k < w2.heap.size → k ≠ ub → k ≠ b → (w3.setCell ⟨b, 0, none⟩ (.slice (some ⟨g, 0, none⟩) (n + 1) cap')).heap[k]? = w2.heap[k]? := fun k hk h1 h2 => (heap_setCell_other w3 ⟨b, 0, none⟩ k _ h2).trans (old k hk h1)
   have hlt2 := R2.lt
   have hnd := h.nd
   have hbb : w.heap.size ≤ w1.heap.size := hb.size
   refine .inr ⟨hh, w1.heap.size, g, cap', rfl, ⟨by simp, k2, by simp; omega, h.bb, ?_, ?_, by simp [h.len], ?_, h.gb, h.fb, ?_, ?_, ?_⟩, hbb, ?_, ?_⟩
   · have := heap_setCell_same w3 b 0 _ _ (.slice (some ⟨g, 0, none⟩) (n + 1) cap') hc3
     simpa [hn] using this
   · have := ownsRow_setCell_other (a := ⟨b, 0, none⟩) hown (by simpa [Value.ownBlock] using hgb) (.slice (some ⟨g, 0, none⟩) (n + 1) cap')
     simpa [hn] using this
   · intro i m1 l1 h1 h2
     by_cases hi : i < n
     · rw [List.getElem?_append_left (by rw [h.len]; omega)] at h1
       rw [List.getElem?_append_left (by omega)] at h2
       have hm1 := List.mem_of_getElem? h1
       have hs := R2.sets i m1 l1 h1 h2
       have hne : m1 ≠ ub ∧ m1 ≠ b := by
        constructor <;> rintro rfl <;> simp [hm1] at hnd
       exact ⟨hs.1, hs.2.keep (e4 m1 (hlt2 m1 (by simp [hm1])).2 hne.1 hne.2)⟩
     · have hin : i = n := by
        have := (List.getElem?_eq_some_iff.1 h2).1
        simp at this; omega
       subst hin
       rw [List.getElem?_append_right (by rw [h.len]; omega)] at h1
       rw [List.getElem?_append_right (by omega)] at h2
       simp [h.len, hn] at h1 h2
       subst h1 h2
       exact ⟨by omega, q5.keep (e4 _ q6 (by have := (hlt ub (by simp)).2; omega) (by omega))⟩
   · have : mg ≠ ub ∧ mg ≠ b := by constructor <;> rintro rfl <;> simp at hnd
     exact R2.gset.keep (e4 mg (hlt2 mg (by simp)).2 this.1 this.2)
   · have : mf ≠ ub ∧ mf ≠ b := by constructor <;> rintro rfl <;> simp at hnd
     exact R2.fset.keep (e4 mf (hlt2 mf (by simp)).2 this.1 this.2)
   · have hg : ∀ k ∈ b :: mg :: mf :: um, k ≠ g := by
      intro k hk
      have := (hlt k (List.mem_cons_of_mem _ hk)).2
      rcases hat with h1 | h1
      · simp [Value.ownBlock] at h1
        subst h1
        rintro rfl
        exact (List.nodup_cons.1 hnd).1 hk
      · omega
     have hm2 : ∀ k ∈ g :: b :: mg :: mf :: um, k ≠ w1.heap.size := by
      intro k hk
      rcases List.mem_cons.1 hk with rfl | hk
      · rcases hat with h1 | h1
        · simp [Value.ownBlock] at h1
          have := (hlt ub (by simp)).2; omega
        · omega
      · have := (hlt k (List.mem_cons_of_mem _ hk)).2; omega
     have e5 : g :: b :: mg :: mf :: (um ++ [w1.heap.size]) = (g :: b :: mg :: mf :: um) ++ [w1.heap.size] := rfl
     rw [e5, List.nodup_append]
     refine ⟨List.nodup_cons.2 ⟨fun hk => hg _ hk rfl, (List.nodup_cons.1 hnd).2⟩, by simp, ?_⟩
     intro x hx y hy
     simp at hy
     subst hy
     exact hm2 x hx
   · rcases hat with h1 | h1
     · simp [Value.ownBlock] at h1; exact .inl h1.symm
     · exact .inr (by omega)
   · have hsz4 := hgrow.size
     refine ⟨?_, ?_, ?_, by simp; omega, fun k hk ht => (e4 k (by omega) (fun e => ht (.inr e)) fun e => ht (.inl e)).trans (q7.block k hk)⟩
     · exact (hgrow.os).trans q7.os
     · exact (hgrow.tape).trans q7.tape
     · exact (hgrow.output).trans q7.output
end
end Go.Proofs.YtjpibniecllafaaGreat.AM
end
section
namespace Go.Proofs.YtjpibniecllafaaGreat.AM
open Go Go.RowKit Go.Maps Go.Proofs
attribute [local go_sem ↓] Go.wp_at_zero Go.wp_at_succ
section
variable {w : World} {B b ub cap mg mf : Nat} {um : List Nat} {U : List (List Int)} {fl : Int} {G F : List Int}
theorem RevM.upG (h : RevM w B b ub cap mg mf um U fl G F) {w' : World} {G' : List Int} (hs : SetAt w' mg G') (hk : ∀ k, k < w.heap.size → k ≠ mg → w'.heap[k]? = w.heap[k]?) : RevM w' B b ub cap mg mf um U fl G' F := by
 have hlt := h.lt
 have hnd := h.nd
 have k0 : ∀ k ∈ ub :: b :: mf :: um, w'.heap[k]? = w.heap[k]? := by
  intro k hm
  have h1 : k ∈ ub :: b :: mg :: mf :: um := by
   rcases List.mem_cons.1 hm with rfl | hm
   · simp
   rcases List.mem_cons.1 hm with rfl | hm
   · simp
   · exact List.mem_cons_of_mem _ (List.mem_cons_of_mem _ (List.mem_cons_of_mem _ hm))
  refine hk k (hlt k h1).2 ?_
  rintro rfl
  rcases List.mem_cons.1 hm with rfl | hm
  · simp at hnd
  rcases List.mem_cons.1 hm with rfl | hm
  · simp at hnd
  · have := (List.nodup_cons.1 (List.nodup_cons.1 (List.nodup_cons.1 hnd).2).2).1
    exact this hm
 refine ⟨h.n1, h.f0, h.le, h.bb, (k0 b (by simp)).trans h.cells, ⟨h.row.1, ?_⟩, h.len, fun i m l hi hl => ⟨(h.sets i m l hi hl).1, (h.sets i m l hi hl).2.keep (k0 m (by simp [List.mem_of_getElem? hi]))⟩, h.gb, h.fb, hs, h.fset.keep (k0 mf (by simp)), h.nd⟩
 rcases h.row.2 with q | ⟨g, cp, cur, hv, h1, h2, h3⟩
 · exact .inl q
 · refine .inr ⟨g, cp, cur, hv, h1, (k0 g ?_).trans h2, h3⟩
   simp only [Value.slice.injEq, oIE, Addr.mk.injEq] at hv
   simp [hv.1.1]
theorem RevM.upL {m : Nat} {l : List Int} (h : RevM w B b ub cap mg mf (um ++ [m]) (U ++ [l]) fl G F) {w' : World} {l' : List Int} (hs : SetAt w' m l') (hk : ∀ k, k < w.heap.size → k ≠ m → w'.heap[k]? = w.heap[k]?) : RevM w' B b ub cap mg mf (um ++ [m]) (U ++ [l']) fl G F := by
 have hlt := h.lt
 have hnd := h.nd
 have hlen : um.length = U.length := by simpa using h.len
 have e5 : ub :: b :: mg :: mf :: (um ++ [m]) = (ub :: b :: mg :: mf :: um) ++ [m] := rfl
 rw [e5] at hnd hlt
 have k0 : ∀ k ∈ ub :: b :: mg :: mf :: um, w'.heap[k]? = w.heap[k]? := by
  intro k hm
  refine hk k (hlt k (List.mem_append_left _ hm)).2 ?_
  rintro rfl
  exact (List.nodup_append.1 hnd).2.2 k hm k (by simp) rfl
 have n1 := h.n1
 have le := h.le
 have cells := h.cells
 have row := h.row
 simp only [List.length_append, List.length_singleton] at n1 le cells row
 refine ⟨by simp, h.f0, by simpa using le, h.bb, by simpa using (k0 b (by simp)).trans cells, ?_, by simp [hlen], ?_, h.gb, h.fb, h.gset.keep (k0 mg (by simp)), h.fset.keep (k0 mf (by simp)), h.nd⟩
 · simp only [List.length_append, List.length_singleton]
   refine ⟨row.1, ?_⟩
   rcases row.2 with q | ⟨g, cp, cur, hv, h1, h2, h3⟩
   · exact .inl q
   · refine .inr ⟨g, cp, cur, hv, h1, (k0 g ?_).trans h2, h3⟩
     simp only [Value.slice.injEq, oIE, Addr.mk.injEq] at hv
     simp [hv.1.1]
 · intro i m1 l1 hi hl
   by_cases hh : i < U.length
   · have hi' := hi
     rw [List.getElem?_append_left (by omega)] at hi hl
     have := h.sets i m1 l1 hi' (by rw [List.getElem?_append_left hh]; exact hl)
     exact ⟨this.1, this.2.keep (k0 m1 (by simp [List.mem_of_getElem? hi]))⟩
   · have hin : i = U.length := by
      have := (List.getElem?_eq_some_iff.1 hl).1
      simp at this; omega
     subst hin
     have := h.sets U.length m1 l hi (by simp)
     rw [List.getElem?_append_right (by omega)] at hi
     simp [hlen] at hi hl
     subst hi hl
     exact ⟨this.1, hs⟩
theorem Tm5 {m : Nat} {l : List Int} {w' : World} (h : SetAt w m l) {g : Int} (h0 : 0 ≤ g) (h1 : g < 60) (hown : w'.ownsMap (H := Unit) Tryz.prog 3 unitElem m 61 ((keyL l).put (.int .i64 g) (.agg []))) : SetAt w' m (insS g l) := by
 rw [Trx l h.2.1 g] at hown
 exact SetAt.of hown (h.2.ins h0 h1)
theorem Ttn {m : Nat} {l : List Int} {w' : World} (h : SetAt w m l) {g : Int} (hown : w'.ownsMap (H := Unit) Tryz.prog 3 unitElem m 60 ((keyL l).del (.int .i64 g))) : SetAt w' m (delS g l) := by
 rw [Trw l g] at hown
 exact SetAt.of hown (h.2.del g)
theorem Tch.map {w w' : World} {m : Nat} (h : w.mapTurned w' m) : Tch w w' fun k => k = m := ⟨h.grown.os, h.grown.tape, h.grown.output, h.grown.size, fun k hk hne => h.grown.block k hk (by simpa using hne)⟩
theorem Tch.mono {w w' : World} {T S : Nat → Prop} (h : Tch w w' T) (hs : ∀ k, k < w.heap.size → T k → S k) : Tch w w' S := ⟨h.os, h.tape, h.output, h.size, fun k hk hn => h.block k hk fun ht => hn (hs k hk ht)⟩
theorem Tch.trans' {w w' w'' : World} {T S R : Nat → Prop} (h : Tch w w' T) (h' : Tch w' w'' S) (ht : ∀ k, k < w.heap.size → T k → R k) (hs : ∀ k, k < w.heap.size → S k → R k) : Tch w w'' R :=
 ⟨h'.os.trans h.os, h'.tape.trans h.tape, h'.output.trans h.output, Nat.le_trans h.size h'.size, fun k hk hn => (h'.block k (Nat.lt_of_lt_of_le hk h.size) fun x => hn (hs k hk x)).trans (h.block k hk fun x => hn (ht k hk x))⟩
def AddPost (w : World) (B b ub mg mf : Nat) (um : List Nat) (U : List (List Int)) (fl : Int) (G F : List Int) (g : Int) (e : Ending) (w' : World) : Prop :=
      ((g ∈ F ∨ g < 0 ∨ 60 ≤ g) ∧ e = .returned (.tuple #[.int .i64 0, .int .i64 210]) ∧ Below w.heap.size w w') ∨
      (¬ (g ∈ F ∨ g < 0 ∨ 60 ≤ g) ∧ 200 ≤ fl + U.length - 1 ∧ e = .returned (.tuple #[.int .i64 0, .int .i64 70]) ∧ Below w.heap.size w w') ∨
      (¬ (g ∈ F ∨ g < 0 ∨ 60 ≤ g) ∧ ¬ 200 ≤ fl + U.length - 1 ∧ ∃ m ub' cap', e = .returned (.tuple #[.int .i64 (fl + U.length), .int .i64 0]) ∧ RevM w' B b ub' cap' mg mf (um ++ [m]) (U ++ [U.getLastD []]) fl (insS g G) F ∧ w.heap.size ≤ m ∧ (ub' = ub ∨ w.heap.size ≤ ub') ∧ Tch w w' fun k => k = b ∨ k = ub ∨ k = mg)
theorem Thz (h : RevM w B b ub cap mg mf um U fl G F) (hBw : B ≤ w.heap.size) (hf : 200 ≤ fl + U.length - 1) :
 Calls Tryz.prog 98 #[.pointer (some ⟨b, 0, none⟩)] w fun e w' => e = .returned (.tuple #[.map none, .int .i64 70]) ∧ Below w.heap.size w w' := by
 refine (Tm4 h hBw).mono ?_
 rintro e w' (⟨_, h1, h2⟩ | ⟨h0, _⟩)
 · exact ⟨h1, h2⟩
 · omega
theorem Tkd (h : RevM w B b ub cap mg mf um U fl G F) (hBw : B ≤ w.heap.size) (hf : ¬ 200 ≤ fl + U.length - 1) :
 Calls Tryz.prog 98 #[.pointer (some ⟨b, 0, none⟩)] w fun e w' => ∃ m ub' cap', e = .returned (.tuple #[.map (some m), .int .i64 0]) ∧ RevM w' B b ub' cap' mg mf (um ++ [m]) (U ++ [U.getLastD []]) fl G F ∧ w.heap.size ≤ m ∧ (ub' = ub ∨ w.heap.size ≤ ub') ∧ Tch w w' fun k => k = b ∨ k = ub := by
 refine (Tm4 h hBw).mono ?_
 rintro e w' (⟨h0, _⟩ | ⟨_, h1⟩)
 · omega
 · exact h1
set_option maxHeartbeats 4000000 in
set_option maxRecDepth 100000 in
theorem Tli (h : RevM w B b ub cap mg mf um U fl G F) (hBw : B ≤ w.heap.size) (g : Int) (h0 : -9223372036854775808 ≤ g) (h1 : g ≤ 9223372036854775807) :
 Calls Tryz.prog 54 #[.pointer (some ⟨b, 0, none⟩), .int .i64 g] w (AddPost w B b ub mg mf um U fl G F g) := by
 have c3 : w.cell? ⟨b, 3, none⟩ = some (.map (some mf)) := by simp [World.cell?, h.cells]
 have hsF := h.fset
 have hh := Th9 F g
 by_cases hc : g ∈ F ∨ g < 0 ∨ 60 ≤ g
 · by_cases a1 : g ∈ F
   · rw [decide_eq_true a1] at hh
     go_enter Tryz.func54, Tryz.ntmps54
     go_wp2_with (at_lookup; refine wpList_lookup_own_unit _ rfl _ _ 161 rfl 3 171 Tbd Tryz.underlying161 (Tryz.zeroValue171 _) mf 60 _ rfl hsF.1 _ _ rfl (Tb9 g h0 h1) ?_)
     go_ret2
     exact .inl ⟨hc, rfl, (Below.refl _ _).alloc (Nat.le_refl _) _⟩
   · rw [decide_eq_false a1] at hh
     by_cases a2 : g < 0
     · have f2 : decide (g < 0) = true := decide_eq_true a2
       go_enter Tryz.func54, Tryz.ntmps54
       go_wp2_with (at_lookup; refine wpList_lookup_own_unit _ rfl _ _ 161 rfl 3 171 Tbd Tryz.underlying161 (Tryz.zeroValue171 _) mf 60 _ rfl hsF.1 _ _ rfl (Tb9 g h0 h1) ?_)
       go_ret2
       exact .inl ⟨hc, rfl, (Below.refl _ _).alloc (Nat.le_refl _) _⟩
     · have f2 : decide (g < 0) = false := decide_eq_false a2
       have f3 : decide (g ≥ 60) = true := decide_eq_true (by rcases hc with hc | hc | hc; exact absurd hc a1; exact absurd hc a2; exact hc)
       go_enter Tryz.func54, Tryz.ntmps54
       go_wp2_with (at_lookup; refine wpList_lookup_own_unit _ rfl _ _ 161 rfl 3 171 Tbd Tryz.underlying161 (Tryz.zeroValue171 _) mf 60 _ rfl hsF.1 _ _ rfl (Tb9 g h0 h1) ?_)
       go_ret2
       exact .inl ⟨hc, rfl, (Below.refl _ _).alloc (Nat.le_refl _) _⟩
 · have a1 : ¬ g ∈ F := fun e => hc (.inl e)
   have g0 : 0 ≤ g := by omega
   have g1 : g < 60 := by omega
   rw [decide_eq_false a1] at hh
   have f2 : decide (g < 0) = false := decide_eq_false (by omega)
   have f3 : decide (g ≥ 60) = false := decide_eq_false (by omega)
   have hbl : Below w.heap.size w (w.alloc (.cells #[] 171)) := (Below.refl _ _).alloc (Nat.le_refl _) _
   have hs1 : B ≤ (w.alloc (.cells #[] 171)).heap.size := by simp; omega
   by_cases hf : 200 ≤ fl + U.length - 1
   · have hN := Thz (h.below hbl) hs1 hf
     go_enter Tryz.func54, Tryz.ntmps54
     go_wp2_with (first | (at_lookup; refine wpList_lookup_own_unit _ rfl _ _ 161 rfl 3 171 Tbd Tryz.underlying161 (Tryz.zeroValue171 _) mf 60 _ rfl hsF.1 _ _ rfl (Tb9 g h0 h1) ?_) | (go_at_call 98; refine hN.mono ?_; rintro e w1 ⟨rfl, hb⟩))
     go_ret2
     exact .inr (.inl ⟨hc, hf, rfl, hbl.trans (hb.mono (by simp))⟩)
   · have hN := Tkd (h.below hbl) hs1 hf
     go_enter Tryz.func54, Tryz.ntmps54
     go_wp2_with (first | (at_lookup; refine wpList_lookup_own_unit _ rfl _ _ 161 rfl 3 171 Tbd Tryz.underlying161 (Tryz.zeroValue171 _) mf 60 _ rfl hsF.1 _ _ rfl (Tb9 g h0 h1) ?_) | (go_at_call 98; refine hN.mono ?_; rintro e w1 ⟨m, ub', cap', rfl, R1, hm, hub, ht⟩; have c2 : w1.cell? ⟨b, 2, none⟩ = some (.map (some mg)) := (by simp [World.cell?, R1.cells])) | (at_mapUpdate; refine wpList_mapUpdate_in _ rfl _ _ _ 161 rfl 3 171 Tbd Tryz.underlying161 unitElem mg 60 _ rfl R1.gset.1 (by decide) _ _ _ rfl rfl (Tb9 g h0 h1) (.agg []) [] unitElem_mk ?_; intro w2 hown hturn; have R2 := R1.upG (Tm5 R1.gset g0 g1 hown) (fun k hk hne => hturn.grown.block k hk (by simpa using hne))) | (go_at_call 59; refine (Tdv R2).mono ?_; rintro e w3 ⟨rfl, hb3⟩))
     go_ret2
     refine .inr (.inr ⟨hc, by omega, m, ub', cap', ?_, R2.below hb3, ?_, ?_, ?_⟩)
     · simp; omega
     · simp at hm; omega
     · simp at hub; omega
     · exact (Tch.of hbl).trans' ((ht.trans' (Tch.map hturn) (fun k _ => .inl) fun k _ => .inr).trans' (T := fun k => (k = b ∨ k = ub) ∨ k = mg) (S := fun _ => False) (R := fun k => (k = b ∨ k = ub) ∨ k = mg) (Tch.of hb3) (fun k _ x => x) (fun k _ x => x.elim)) (T := fun _ => False) (fun k _ x => x.elim) (fun k _ x => by omega)
def TogPost (w : World) (B b ub mg mf : Nat) (um : List Nat) (U : List (List Int)) (fl : Int) (G F : List Int) (g : Int) (e : Ending) (w' : World) : Prop :=
      (g ∉ G ∧ e = .returned (.tuple #[.int .i64 0, .int .i64 210]) ∧ Below w.heap.size w w') ∨
      (g ∈ G ∧ 200 ≤ fl + U.length - 1 ∧ e = .returned (.tuple #[.int .i64 0, .int .i64 70]) ∧ Below w.heap.size w w') ∨
      (g ∈ G ∧ ¬ 200 ≤ fl + U.length - 1 ∧ ∃ m ub' cap', e = .returned (.tuple #[.int .i64 (fl + U.length), .int .i64 0]) ∧ RevM w' B b ub' cap' mg mf (um ++ [m]) (U ++ [if g ∈ U.getLastD [] then delS g (U.getLastD []) else insS g (U.getLastD [])]) fl G F ∧ w.heap.size ≤ m ∧ (ub' = ub ∨ w.heap.size ≤ ub') ∧ Tch w w' fun k => k = b ∨ k = ub)
theorem RevM.lastSet {m : Nat} {l : List Int} (h : RevM w B b ub cap mg mf (um ++ [m]) (U ++ [l]) fl G F) : SetAt w m l := by
 have hlen : um.length = U.length := by simpa using h.len
 exact (h.sets U.length m l (by rw [List.getElem?_append_right (by omega)]; simp [hlen]) (by simp)).2
theorem Tch.new {w w' w'' : World} {T : Nat → Prop} {m : Nat} (h : Tch w w' T) (h' : w'.mapTurned w'' m) (hm : w.heap.size ≤ m) : Tch w w'' T := h.trans' (Tch.map h') (fun k _ x => x) (fun k hk e => by omega)
set_option maxHeartbeats 4000000 in
set_option maxRecDepth 100000 in
theorem Tfc (h : RevM w B b ub cap mg mf um U fl G F) (hBw : B ≤ w.heap.size) (g : Int) (h0 : -9223372036854775808 ≤ g) (h1 : g ≤ 9223372036854775807) :
 Calls Tryz.prog 62 #[.pointer (some ⟨b, 0, none⟩), .int .i64 g] w (TogPost w B b ub mg mf um U fl G F g) := by
 have hH := Twr h g h0 h1
 by_cases hc : g ∈ G
 · rw [decide_eq_true hc] at hH
   have g01 := h.gset.2.2 g hc
   by_cases hf : 200 ≤ fl + U.length - 1
   · have hN := fun (w1 : World) (hb : Below w.heap.size w w1) => Thz (h.below hb) (Nat.le_trans hBw hb.size) hf
     go_enter Tryz.func62, Tryz.ntmps62
     go_wp2_with (first | (go_at_call 108; refine hH.mono ?_; rintro e w1 ⟨rfl, hb⟩) | (go_at_call 98; refine (hN _ hb).mono ?_; rintro e w2 ⟨rfl, hb2⟩))
     go_ret2
     exact .inr (.inl ⟨hc, hf, rfl, hb.trans (hb2.mono hb.size)⟩)
   · have hN := fun (w1 : World) (hb : Below w.heap.size w w1) => Tkd (h.below hb) (Nat.le_trans hBw hb.size) hf
     obtain ⟨L, hL⟩ : ∃ L, U.getLastD [] = L := ⟨_, rfl⟩
     simp only [hL] at hN
     have hh := Th9 L g
     by_cases hl : g ∈ L
     · rw [decide_eq_true hl] at hh
       go_enter Tryz.func62, Tryz.ntmps62
       go_wp2_with (first | (go_at_call 108; refine hH.mono ?_; rintro e w1 ⟨rfl, hb⟩) | (go_at_call 98; refine (hN _ hb).mono ?_; rintro e w2 ⟨m, ub', cap', rfl, R2, hm, hub, ht⟩; have sM := R2.lastSet; have hb3 : Below w2.heap.size w2 (w2.alloc (.cells #[] 171)) := (Below.refl _ _).alloc (Nat.le_refl _) _; have R2' := R2.below hb3; have sM' := R2'.lastSet) | (at_lookup; refine wpList_lookup_own_unit _ rfl _ _ 161 rfl 3 171 Tbd Tryz.underlying161 (Tryz.zeroValue171 _) m 60 _ rfl sM.1 _ _ rfl (Tb9 g h0 h1) ?_) | (at_delete; refine wpList_delete_own _ rfl _ _ 161 3 rfl 171 Tbd Tryz.underlying161 unitElem m 60 _ rfl sM'.1 _ _ rfl (Tb9 g h0 h1) ?_; intro w3 hown hturn; have R3 := R2'.upL (Ttn sM' hown) (fun k hk hne => hturn.grown.block k hk (by simpa using hne))) | (go_at_call 59; refine (Tdv R3).mono ?_; rintro e w4 ⟨rfl, hb4⟩))
       go_ret2
       have hbs := hb.size
       refine .inr (.inr ⟨hc, by omega, m, ub', cap', ?_, ?_, by omega, by omega, ?_⟩)
       · simp; omega
       · rw [hL, if_pos hl]; exact R3.below hb4
       · have q1 : Tch w w2 fun k => k = b ∨ k = ub := (Tch.of hb).trans' ht (T := fun _ => False) (fun k _ x => x.elim) (fun k _ x => x)
         have q2 : Tch w (w2.alloc (.cells #[] 171)) fun k => k = b ∨ k = ub := q1.trans' (Tch.of hb3) (S := fun _ => False) (fun k _ x => x) (fun k _ x => x.elim)
         exact (q2.new hturn (by omega)).trans' (Tch.of hb4) (S := fun _ => False) (fun k _ x => x) (fun k _ x => x.elim)
     · rw [decide_eq_false hl] at hh
       go_enter Tryz.func62, Tryz.ntmps62
       go_wp2_with (first | (go_at_call 108; refine hH.mono ?_; rintro e w1 ⟨rfl, hb⟩) | (go_at_call 98; refine (hN _ hb).mono ?_; rintro e w2 ⟨m, ub', cap', rfl, R2, hm, hub, ht⟩; have sM := R2.lastSet; have hb3 : Below w2.heap.size w2 (w2.alloc (.cells #[] 171)) := (Below.refl _ _).alloc (Nat.le_refl _) _; have R2' := R2.below hb3; have sM' := R2'.lastSet) | (at_lookup; refine wpList_lookup_own_unit _ rfl _ _ 161 rfl 3 171 Tbd Tryz.underlying161 (Tryz.zeroValue171 _) m 60 _ rfl sM.1 _ _ rfl (Tb9 g h0 h1) ?_) | (at_mapUpdate; refine wpList_mapUpdate_in _ rfl _ _ _ 161 rfl 3 171 Tbd Tryz.underlying161 unitElem m 60 _ rfl sM'.1 (by decide) _ _ _ rfl rfl (Tb9 g h0 h1) (.agg []) [] unitElem_mk ?_; intro w3 hown hturn; have R3 := R2'.upL (Tm5 sM' g01.1 g01.2 hown) (fun k hk hne => hturn.grown.block k hk (by simpa using hne))) | (go_at_call 59; refine (Tdv R3).mono ?_; rintro e w4 ⟨rfl, hb4⟩))
       go_ret2
       have hbs := hb.size
       refine .inr (.inr ⟨hc, by omega, m, ub', cap', ?_, ?_, by omega, by omega, ?_⟩)
       · simp; omega
       · rw [hL, if_neg hl]; exact R3.below hb4
       · have q1 : Tch w w2 fun k => k = b ∨ k = ub := (Tch.of hb).trans' ht (T := fun _ => False) (fun k _ x => x.elim) (fun k _ x => x)
         have q2 : Tch w (w2.alloc (.cells #[] 171)) fun k => k = b ∨ k = ub := q1.trans' (Tch.of hb3) (S := fun _ => False) (fun k _ x => x) (fun k _ x => x.elim)
         exact (q2.new hturn (by omega)).trans' (Tch.of hb4) (S := fun _ => False) (fun k _ x => x) (fun k _ x => x.elim)
 · rw [decide_eq_false hc] at hH
   go_enter Tryz.func62, Tryz.ntmps62
   go_wp2_with (go_at_call 108; refine hH.mono ?_; rintro e w1 ⟨rfl, hb⟩)
   go_ret2
   exact .inl ⟨hc, rfl, hb⟩
end
end Go.Proofs.YtjpibniecllafaaGreat.AM
end
section
namespace Go.Proofs.YtjpibniecllafaaGreat.AM
open Go Go.RowKit Go.Maps Go.Proofs Go.Sort Go.Shelf
attribute [local go_sem ↓] Go.wp_at_zero Go.wp_at_succ
theorem Tke (l : List Int) : intKeys (keyL l) = l := by
 simp [intKeys, keyL, Function.comp_def, Go.intOf]
theorem Tlj {l ss : List Int} (h : l.Pairwise (· < ·)) (hp : ss.Perm l) : ss.mergeSort (fun x y => decide (x ≤ y)) = l := by
 rw [mergeSort_of_perm_i hp]
 exact List.mergeSort_of_pairwise (h.imp fun hab => by simp only [leI, decide_eq_true_eq]; omega)
theorem Tqx (m : Nat) : AnyZI.SortsIn Tryz.prog Tryz.msorted_ren Fence.wide m :=
  ⟨fun blk off cap ss W hH hblk hsz => callsIn_wide.2 (AnyM.slices_Sort_int Tryz.msort blk off cap ss W hH hblk hsz),
   fun p cap W => callsIn_wide.2 (AnyM.slices_Sort_int_none Tryz.msort p cap W)⟩
theorem Tto (m : Nat) (W : World) : Calls Tryz.prog 203 #[.map (some m)] W fun e w' => e = .returned (.func (.func 224) #[] #[.pointer (some ⟨W.heap.size, 0, none⟩)]) ∧ w' = W.alloc (.cells #[.map (some m)] 161) :=
 (callsIn_wide (n := 5)).1 (AnyZI.keys_in Tryz.mkeys Fence.wide 5 trivial rfl (some m) W)
theorem Tlk {l : List Int} (m : Nat) (W : World) (h : SetAt W m l) : Calls Tryz.prog 202 #[.func (.func 224) #[] #[.pointer (some ⟨W.heap.size, 0, none⟩)]] (W.alloc (.cells #[.map (some m)] 161)) fun e w' => ∃ v, e = .returned v ∧ w'.ownsRow W.heap.size 3 1 v l.length (l.map (Value.int .i64)) ∧ Below W.heap.size W w' := by
 refine (callsIn_wide (n := 4)).1 ?_
 have hl60 := h.2.len
 have hseq : SeqGives Fence.wide 1 Tryz.prog 224 #[.pointer (some ⟨W.heap.size, 0, none⟩)] encZ (fun ss => ss.Perm (intKeys (keyL l))) (Maps.size (keyL l)) (W.alloc (.cells #[.map (some m)] 161)) :=
  AnyZI.keys_gives (ρ := Tryz.mkeys_ren) { Tryz.mkeys with } Fence.wide _ trivial rfl (by omega) W.heap.size m 60 (keyL l) _ (by simp) (by simp) (by
   obtain ⟨es, clock, hb, Ft, hs, hD⟩ := h.1
   exact ⟨es, clock, (Below.heap_alloc _ _ m h.lt).trans hb, Ft, hs, hD⟩)
 have cS := AnyZI.sorted_in Tryz.msorted Fence.wide 4 trivial trivial trivial trivial rfl (by omega) (Tqx _) (enters_of Tryz.func223 (by kernel_rfl) rfl) 224 #[.pointer (some ⟨W.heap.size, 0, none⟩)] trivial (enters_of Tryz.func224 (by kernel_rfl) rfl) _ _ (by rw [Td9]; simp only [maxLen]; omega) (by rw [Td9]; omega) _ hseq
 change CallsIn _ _ Tryz.prog 202 _ _ _ at cS
 refine cS.mono ?_
 rintro e w' ⟨v, ss, rfl, hp, hrow, _, hb⟩
 rw [Tke] at hp
 have e1 := Tlj h.2.1 hp
 have e2 := hp.length_eq
 rw [e1, e2] at hrow
 exact ⟨v, rfl, ownsRow_base_a hrow (by simp), ((Below.refl _ W).alloc (Nat.le_refl _) _).trans (hb.mono (by simp))⟩
theorem Ttp : ∃ i, Tryz.prog.info? 3 = some i ∧ i.zero = some (.int .i64 0) ∧ i.size = 1 ∧ i.bytes = 8 := info_parts (by kernel_rfl)
section
variable {w : World} {B b ub cap mg mf : Nat} {um : List Nat} {U : List (List Int)} {fl : Int} {G F : List Int}
theorem Tqy {base : Nat} {l : List Int} {v : Value} (h : w.ownsRow base 3 1 v l.length (l.map (Value.int .i64))) : ∃ ad cp, v = .slice ad l.length cp ∧ (0 < l.length → ∃ a', ad = some a' ∧ ∀ j u, (l.map (Value.int .i64))[j]? = some u → w.cell? (a'.add j) = some u) := by
 rcases h.2 with ⟨h1, h2⟩ | ⟨g, cp, cur, hv, _, h2, h3, _, h5, h6⟩
 · exact ⟨none, 0, by rw [h1, h2], fun h0 => by omega⟩
 · refine ⟨_, cp, hv, fun _ => ⟨_, rfl, fun j u hu => ?_⟩⟩
   have hj : j < l.length := by simpa using (List.getElem?_eq_some_iff.1 hu).1
   have e1 : (⟨g, 0, none⟩ : Addr).add j = ⟨g, j, none⟩ := by unfold Addr.add; split <;> simp_all
   rw [e1]
   rw [← h6, List.getElem?_take_of_lt (by omega), Array.getElem?_toList] at hu
   simp [World.cell?, h2, hu]
set_option maxHeartbeats 4000000 in
set_option maxRecDepth 100000 in
theorem Tod {m : Nat} {l : List Int} (h : SetAt w m l) : Calls Tryz.prog 157 #[.map (some m)] w fun e w' => ∃ b', e = .returned (.slice (some ⟨b', 0, none⟩) l.length l.length) ∧ w.heap.size ≤ b' ∧ w'.heap[b']? = some (.cells (l.map (Value.int .i64)).toArray 3 (0, 0)) ∧ Below w.heap.size w w' := by
 have hl60 := h.2.len
 have hsz := Td9 l
 obtain ⟨i, hi, hz, hi1, hby1⟩ := Ttp
 have hlen := h.1.len Tryz.underlying161 3
 rw [hsz] at hlen
 go_enter Tryz.func157, Tryz.ntmps157
 go_wp2_with (first | (at_make; refine wpList_make_full _ rfl _ _ _ rfl w.heap.size 3 i _ 1 Tryz.underlying30 hi hz hi1 _ _ _ _ l.length rfl rfl rfl rfl ?m1 ?m2 (Nat.le_refl _) ?_))
 case m1 => rw [hby1]; omega
 case m2 => simp only [maxLen]; omega
 intro w1 hown1 hg1
 have hb1 : Below w.heap.size w w1 := ⟨hg1.os, hg1.tape, hg1.output, hg1.size, fun k hk => hg1.block k hk (by simp)⟩
 have hs1 : SetAt w1 m l := h.keep (hb1.block m h.lt)
 obtain ⟨cur, hc1, hc2⟩ : ∃ cur : List Value, w1.heap[w.heap.size]? = some (.cells cur.toArray 3 (0, 0)) ∧ cur.length = l.length := by
  rcases hown1.2 with ⟨h1, _⟩ | ⟨g, cp, cur, hv, _, h2, _, _, h3, _⟩
  · simp at h1
  · simp only [Value.slice.injEq, oIE, Addr.mk.injEq] at hv
    obtain ⟨⟨rfl, _⟩, _, rfl⟩ := hv
    exact ⟨cur.toList, by simpa using h2, by simpa using h3⟩
 have hw1 : w.heap.size < w1.heap.size := (Array.getElem?_eq_some_iff.1 hc1).1
 clear hown1 hlen
 generalize hgd : w.heap.size = gd at *
 go_wp2_with (first | (go_at_call 203; refine (Tto m w1).mono ?_; rintro e w2 ⟨rfl, rfl⟩) | (go_at_call 202; refine (Tlk m w1 hs1).mono ?_; rintro e w3 ⟨v, rfl, hrow, hb3⟩; obtain ⟨ad, cp, rfl, hsrc⟩ := Tqy hrow) | (with_reducible refine wpList_copy_splice (w0 := w) rfl (.tmp 7) (.tmp 10) 30 30 rfl 3 Tryz.underlying30 ?q1 (some ⟨gd, 0, none⟩) ad l.length l.length l.length cp rfl rfl gd 0 cur 3 ?q2 (l.map (Value.int .i64)) ?q3 ?q4 ?q5 ?q6 gd ?q7 (Nat.le_refl _) ?_))
 case q1 => rw [hi]; simp [hi1]
 case q2 => exact (hb3.block gd hw1).trans hc1
 case q3 => simp
 case q4 =>
  intro h0
  obtain ⟨a1, h1, h2⟩ := hsrc (by simpa using h0)
  first | exact ⟨rfl, a1, h1, h2⟩ | exact ⟨a1, h1, h2⟩ | exact ⟨a1, h1, fun j x hx => h2 j _ (by rw [List.getElem?_map, hx]; rfl)⟩
 case q5 => simp [hc2]
 case q6 => simp [Value.oneCell']
 case q7 => exact hb1.trans (hb3.mono (by omega))
 intro w4 hh hb4
 go_wp2
 go_ret
 refine ⟨gd, rfl, by omega, ?_, by rw [hgd]; exact hb4⟩
 have hh' : w4.heap[gd]? = some (.cells (splice cur 0 (l.map (Value.int .i64))).toArray 3 (0, 0)) := hh
 rw [hh']
 simp [splice, hc2]
def UndPost (w : World) (U : List (List Int)) (fl r : Int) (e : Ending) (w' : World) : Prop :=
      (¬ (fl ≤ r ∧ r ≤ fl + U.length - 1) ∧ e = .returned (.slice none 0 0) ∧ Below w.heap.size w w') ∨
      ((fl ≤ r ∧ r ≤ fl + U.length - 1) ∧ ∃ b' l, U[(r - fl).toNat]? = some l ∧ e = .returned (.slice (some ⟨b', 0, none⟩) l.length l.length) ∧ w.heap.size ≤ b' ∧ w'.heap[b']? = some (.cells (l.map (Value.int .i64)).toArray 3 (0, 0)) ∧ Below w.heap.size w w')
set_option maxHeartbeats 4000000 in
set_option maxRecDepth 100000 in
theorem Toe (h : RevM w B b ub cap mg mf um U fl G F) (r : Int) :
 Calls Tryz.prog 102 #[.pointer (some ⟨b, 0, none⟩), .int .i64 r] w (UndPost w U fl r) := by
 have hL := Tm3 h r
 by_cases hr : fl ≤ r ∧ r ≤ fl + U.length - 1
 · have f1 : (decide (fl ≤ r) && decide (r ≤ fl + U.length - 1)) = true := by simp [hr]
   rw [f1] at hL
   obtain ⟨k, hk⟩ : ∃ k : Nat, r = fl + k := ⟨(r - fl).toNat, by omega⟩
   have hkU : k < U.length := by omega
   have e1 : (r - fl).toNat = k := by omega
   have hm1 : k < um.length := by have := h.len; omega
   have hm := List.getElem?_eq_getElem hm1
   have hl := List.getElem?_eq_getElem hkU
   have hs := (h.sets k _ _ hm hl).2
   have c0 : w.cell? ⟨b, 0, none⟩ = some (.slice (some ⟨ub, 0, none⟩) U.length cap) := by simp [World.cell?, h.cells]
   have c1 : w.cell? ⟨b, 1, none⟩ = some (.int .i64 fl) := by simp [World.cell?, h.cells]
   have c3 := h.at_ hm
   have hlt := h.lt
   have hl' : U[(r - fl).toNat]? = some U[k] := by rw [e1]; exact hl
   clear hl
   generalize U[k] = l at *
   generalize um[k] = m at *
   have k2 := h.f0
   have k3 := h.le
   have hbb := (hlt b (by simp)).2
   have hub := (hlt ub (by simp)).2
   clear h hm hm1 hlt f1
   have hl := hl'
   clear hl'
   obtain ⟨n, hn⟩ : ∃ n, U.length = n := ⟨_, rfl⟩
   rw [hn] at c0 hkU k3
   have i1 : IntKind.i64.wrap (r - fl) = (k : Int) := by rw [wrapI _ (by omega) (by omega)]; omega
   have i2 : (0 : Int) ≤ (k : Int) := by omega
   have i3 : (k : Int) < (n : Int) := by omega
   clear hk e1 k2 k3 hn
   go_enter Tryz.func102, Tryz.ntmps102
   go_wp2_with (go_at_call 151; refine hL.mono ?_; rintro e w1 ⟨rfl, hb⟩)
   have hC : ∀ W : World, w1 = W ∨ w1.drew = W → Calls Tryz.prog 157 #[.map (some m)] W fun e w' => ∃ b', e = .returned (.slice (some ⟨b', 0, none⟩) l.length l.length) ∧ w'.cell? ⟨b, 0, none⟩ = some (.slice (some ⟨ub, 0, none⟩) n cap) ∧ w'.cell? ⟨b, 1, none⟩ = some (.int .i64 fl) ∧ w'.cell? ⟨ub, k, none⟩ = some (.map (some m)) ∧ w.heap.size ≤ b' ∧ w'.heap[b']? = some (.cells (l.map (Value.int .i64)).toArray 3 (0, 0)) ∧ Below w.heap.size w w' := by
    intro W hW
    have e1 : W.heap = w1.heap := by rcases hW with rfl | rfl <;> rfl
    have e2 : Below w.heap.size w W := hW.elim (fun e => e ▸ hb) (fun e => e ▸ ⟨hb.os, hb.tape, hb.output, hb.size, hb.block⟩)
    refine (Tod (hs.keep (e2.block m hs.lt))).mono ?_
    rintro e w' ⟨b', rfl, q1, q2, q3⟩
    have q4 : Below w.heap.size w w' := e2.trans (q3.mono e2.size)
    exact ⟨b', rfl, (World.cell?_of_block (q4.block b hbb)).trans c0, (World.cell?_of_block (q4.block b hbb)).trans c1, (World.cell?_of_block (q4.block ub hub)).trans c3, Nat.le_trans e2.size q1, q2, q4⟩
   have d0 := (World.cell?_of_block (hb.block b hbb)).trans c0
   have d1 := (World.cell?_of_block (a := ⟨b, 1, none⟩) (hb.block b hbb)).trans c1
   have d3 := (World.cell?_of_block (hb.block ub hub)).trans c3
   go_region_held3 (fun w' => w'.cell? ⟨b, 0, none⟩ = some (.slice (some ⟨ub, 0, none⟩) n cap) ∧ w'.cell? ⟨b, 1, none⟩ = some (.int .i64 fl) ∧ w'.cell? ⟨ub, k, none⟩ = some (.map (some m))) (go_keep)
    (first | (go_at_call 157; refine (hC _ ?_).mono ?_; (simp); rintro e w2 ⟨b', rfl, q0, q1, q3, q5, q6, q7⟩))
   all_goals go_wp2
   go_ret
   exact .inr ⟨hr, b', l, hl, rfl, q5, q6, q7⟩
 · have f1 : (decide (fl ≤ r) && decide (r ≤ fl + U.length - 1)) = false := by simp; omega
   rw [f1] at hL
   clear h
   go_enter Tryz.func102, Tryz.ntmps102
   go_wp2_with (go_at_call 151; refine hL.mono ?_; rintro e w1 ⟨rfl, hb⟩)
   go_ret
   exact .inl ⟨hr, rfl, hb⟩
end
end Go.Proofs.YtjpibniecllafaaGreat.AM
end
section
namespace Go.Proofs.YtjpibniecllafaaGreat.AM
open Go Go.RowKit Go.Maps Go.Proofs
attribute [local go_sem ↓] Go.wp_at_zero Go.wp_at_succ
structure AsR (p : Prop) : Prop where
 out : p
def intVR : Value → Int
 | .int _ a => a
 | _ => 0
structure CopyI (w W : World) (c mg mf : Nat) (U : List (List Int)) (fl : Int) (G F : List Int) (i : Nat) (v : Value) (um : List Nat) : Prop where
 cells : W.heap[c]? = some (.cells #[v, .int .i64 fl, .map (some mg), .map (some mf)] 164 (0, 0))
 row : W.ownsRow w.heap.size 161 1 v i (um.map fun m => .map (some m))
 sets : ∀ (j m : Nat) (l : List Int), um[j]? = some m → U[j]? = some l → w.heap.size ≤ m ∧ SetAt W m l
 gset : SetAt W mg G
 fset : SetAt W mf F
 lo : ∀ k ∈ c :: mg :: mf :: um, w.heap.size ≤ k ∧ k < W.heap.size
 nd : (c :: mg :: mf :: um).Nodup
 ap : ∀ x, v.ownBlock = some x → x ∉ c :: mg :: mf :: um
 below : Below w.heap.size w W
theorem CopyI.len {w W : World} {c mg mf : Nat} {U : List (List Int)} {fl : Int} {G F : List Int} {i : Nat} {v : Value} {um : List Nat} (h : CopyI w W c mg mf U fl G F i v um) : um.length = i := by
 have := h.row.1
 simpa using this
theorem CopyI.done {w W : World} {c mg mf : Nat} {U : List (List Int)} {fl : Int} {G F : List Int} {v : Value} {um : List Nat} (h : CopyI w W c mg mf U fl G F U.length v um) (h1 : 1 ≤ U.length) (h2 : 0 ≤ fl) (h3 : fl + U.length ≤ 201) :
 ∃ ub cap, RevM W w.heap.size c ub cap mg mf um U fl G F := by
 have row := h.row
 rcases row.2 with ⟨_, q⟩ | ⟨g, cap, cur, rfl, q⟩
 · omega
 · exact ⟨g, cap, h1, h2, h3, (h.lo c (by simp)).1, h.cells, row, h.len, h.sets, (h.lo mg (by simp)).1, (h.lo mf (by simp)).1, h.gset, h.fset, List.nodup_cons.2 ⟨h.ap g rfl, h.nd⟩⟩
theorem CopyI.row1 {w W w1 : World} {c mg mf : Nat} {U : List (List Int)} {fl : Int} {G F : List Int} {i : Nat} {v : Value} {um : List Nat} (h : CopyI w W c mg mf U fl G F i v um) (hb1 : Below W.heap.size W w1) : w1.ownsRow w.heap.size 161 1 v i (um.map fun m => .map (some m)) := by
 refine ⟨h.row.1, ?_⟩
 rcases h.row.2 with q | ⟨g, cap, cur, hv, q1, q2, q3⟩
 · exact .inl q
 · exact .inr ⟨g, cap, cur, hv, q1, (hb1.block g (Array.getElem?_eq_some_iff.1 q2).1).trans q2, q3⟩
theorem CopyI.step {w W w1 w3 : World} {c mg mf : Nat} {U : List (List Int)} {fl : Int} {G F : List Int} {i : Nat} {v : Value} {um : List Nat} (h : CopyI w W c mg mf U fl G F i v um) {l : List Int} (hl : U[i]? = some l)
 (hs : SetAt w1 W.heap.size l) (hlt : W.heap.size < w1.heap.size) (hb1 : Below W.heap.size W w1) {g cap : Nat}
 (hown : w3.ownsRow w.heap.size 161 1 (.slice (some ⟨g, 0, none⟩) (i + 1) cap) (i + 1) ((um.map fun m => .map (some m)) ++ [.map (some W.heap.size)]))
 {X : Obj} (hgrow : (w1.alloc X).grownBy w3 v.ownBlock) (hat : v.ownBlock = some g ∨ g = w1.heap.size + 1) :
 CopyI w (w3.setCell ⟨c, 0, none⟩ (.slice (some ⟨g, 0, none⟩) (i + 1) cap)) c mg mf U fl G F (i + 1) (.slice (some ⟨g, 0, none⟩) (i + 1) cap) (um ++ [W.heap.size]) := by
 have e0 : (w1.alloc X).heap.size = w1.heap.size + 1 := by simp
 have hsz := hgrow.size
 have hcl := h.lo c (by simp)
 have old : ∀ k, k < w1.heap.size → v.ownBlock ≠ some k → w3.heap[k]? = w1.heap[k]? := fun k hk hne => (hgrow.block k (by rw [e0]; omega) (fun e => hne e.symm)).trans (Lib.alloc_old w1 _ k hk)
 have old2 : ∀ k ∈ c :: mg :: mf :: um, w3.heap[k]? = W.heap[k]? := fun k hk => (old k (by have := (h.lo k hk).2; omega) fun e => h.ap k e hk).trans (hb1.block k (h.lo k hk).2)
 have hgc : g ∉ c :: mg :: mf :: um := by
  rcases hat with h1 | h1
  · exact h.ap g h1
  · intro hm; have := (h.lo g hm).2; omega
 have ho : ∀ k, k ≠ c → (w3.setCell ⟨c, 0, none⟩ (.slice (some ⟨g, 0, none⟩) (i + 1) cap)).heap[k]? = w3.heap[k]? := fun k hk => heap_setCell_other w3 ⟨c, 0, none⟩ k _ hk
 have hnd := h.nd
 have vb : ∀ x, v.ownBlock = some x → w.heap.size ≤ x ∧ x < W.heap.size := by
  intro x hx
  rcases h.row.2 with ⟨q, _⟩ | ⟨g', cp, cur, rfl, q1, q2, _⟩
  · rw [q] at hx; simp [Value.ownBlock] at hx
  · simp [Value.ownBlock] at hx; subst hx; exact ⟨q1, (Array.getElem?_eq_some_iff.1 q2).1⟩
 have gne : g ≠ c := fun e => hgc (by simp [e])
 refine ⟨?_, ?_, ?_, ?_, ?_, ?_, ?_, ?_, ?_⟩
 · have := heap_setCell_same w3 c 0 _ _ (.slice (some ⟨g, 0, none⟩) (i + 1) cap) ((old2 c (by simp)).trans h.cells)
   simpa using this
 · have := ownsRow_setCell_other (a := ⟨c, 0, none⟩) hown (by simpa [Value.ownBlock] using gne) (.slice (some ⟨g, 0, none⟩) (i + 1) cap)
   simpa using this
 · intro j m l' h1 h2
   by_cases hj : j < i
   · rw [List.getElem?_append_left (by rw [h.len]; omega)] at h1
     have hm := List.mem_of_getElem? h1
     have := h.sets j m l' h1 h2
     have hmem : m ∈ c :: mg :: mf :: um := by simp [hm]
     exact ⟨this.1, this.2.keep ((ho m (by rintro rfl; simp [hm] at hnd)).trans (old2 m hmem))⟩
   · have hji : j = i := by
      have := (List.getElem?_eq_some_iff.1 h1).1
      simp [h.len] at this; omega
     subst hji
     rw [List.getElem?_append_right (by rw [h.len]; omega)] at h1
     simp [h.len] at h1
     rw [hl] at h2
     obtain rfl := oIj h2
     subst h1
     exact ⟨h.below.size, hs.keep ((ho _ (by omega)).trans (old _ hlt fun e => by have := (vb _ e).2; omega))⟩
 · exact h.gset.keep ((ho mg (by rintro rfl; simp at hnd)).trans (old2 mg (by simp)))
 · exact h.fset.keep ((ho mf (by rintro rfl; simp at hnd)).trans (old2 mf (by simp)))
 · intro k hk
   have e5 : c :: mg :: mf :: (um ++ [W.heap.size]) = (c :: mg :: mf :: um) ++ [W.heap.size] := rfl
   rw [e5] at hk
   rcases List.mem_append.1 hk with hk | hk
   · have := h.lo k hk
     simp; omega
   · simp at hk
     have := h.below.size
     simp; omega
 · have e5 : c :: mg :: mf :: (um ++ [W.heap.size]) = (c :: mg :: mf :: um) ++ [W.heap.size] := rfl
   rw [e5, List.nodup_append]
   refine ⟨hnd, by simp, fun x hx y hy => ?_⟩
   simp at hy
   have := (h.lo x hx).2
   omega
 · intro x hx
   simp [Value.ownBlock] at hx
   subst hx
   have e5 : c :: mg :: mf :: (um ++ [W.heap.size]) = (c :: mg :: mf :: um) ++ [W.heap.size] := rfl
   rw [e5]
   intro hm
   rcases List.mem_append.1 hm with hm | hm
   · exact hgc hm
   · simp at hm
     rcases hat with h1 | h1
     · have := (vb g h1).2; omega
     · omega
 · have hbs := h.below.size
   have hb1s := hb1.size
   refine ⟨?_, ?_, ?_, by simp; omega, fun k hk => (ho k (by omega)).trans ((old k (by omega) fun e => by have := (vb k e).1; omega).trans ((hb1.block k (by omega)).trans (h.below.block k hk)))⟩
   · exact (hgrow.os).trans (hb1.os.trans h.below.os)
   · exact (hgrow.tape).trans (hb1.tape.trans h.below.tape)
   · exact (hgrow.output).trans (hb1.output.trans h.below.output)
section
variable {w : World} {B b ub cap mg mf : Nat} {um : List Nat} {U : List (List Int)} {fl : Int} {G F : List Int}
set_option maxHeartbeats 4000000 in
set_option maxRecDepth 100000 in
theorem Ttq (h : RevM w B b ub cap mg mf um U fl G F) :
 Calls Tryz.prog 97 #[.pointer (some ⟨b, 0, none⟩)] w fun e w' => ∃ b' ub' cap' mg' mf' um', e = .returned (.pointer (some ⟨b', 0, none⟩)) ∧ RevM w' w.heap.size b' ub' cap' mg' mf' um' U fl G F ∧ Below w.heap.size w w' := by
 have c0 : w.cell? ⟨b, 0, none⟩ = some (.slice (some ⟨ub, 0, none⟩) U.length cap) := by simp [World.cell?, h.cells]
 have c1 : w.cell? ⟨b, 1, none⟩ = some (.int .i64 fl) := by simp [World.cell?, h.cells]
 have c2 : w.cell? ⟨b, 2, none⟩ = some (.map (some mg)) := by simp [World.cell?, h.cells]
 have c3 : w.cell? ⟨b, 3, none⟩ = some (.map (some mf)) := by simp [World.cell?, h.cells]
 have hlt := h.lt
 have hbb := (hlt b (by simp)).2
 have hub := (hlt ub (by simp)).2
 have hcl : ∀ (m : Nat) (l : List Int), SetAt w m l → ∀ W : World, Below w.heap.size w W → Calls Tryz.prog 154 #[.map (some m)] W fun e w' => e = .returned (.map (some W.heap.size)) ∧ w'.cell? ⟨b, 1, none⟩ = some (.int .i64 fl) ∧ w'.cell? ⟨b, 2, none⟩ = some (.map (some mg)) ∧ w'.cell? ⟨b, 3, none⟩ = some (.map (some mf)) ∧ SetAt w' W.heap.size l ∧ W.heap.size < w'.heap.size ∧ Below W.heap.size W w' ∧ Below w.heap.size w w' := by
  intro m l hs W hW
  refine (Tfb W (hs.keep (hW.block m hs.lt))).mono ?_
  rintro e w' ⟨rfl, q1, q2, q3⟩
  have q4 : Below w.heap.size w w' := hW.trans (q3.mono hW.size)
  exact ⟨rfl, (World.cell?_of_block (q4.block b hbb)).trans c1, (World.cell?_of_block (q4.block b hbb)).trans c2, (World.cell?_of_block (q4.block b hbb)).trans c3, q1, q2, q3, q4⟩
 have hG := hcl mg G h.gset
 have hF := hcl mf F h.fset
 go_enter Tryz.func97, Tryz.ntmps97
 go_wp2
 go_region_held3 (fun w' => w'.cell? ⟨b, 1, none⟩ = some (.int .i64 fl) ∧ w'.cell? ⟨b, 2, none⟩ = some (.map (some mg)) ∧ w'.cell? ⟨b, 3, none⟩ = some (.map (some mf))) (go_keep)
  (first | (go_at_call 154; refine (hG _ ?_).mono ?_; (first | assumption | exact ⟨rfl, rfl, rfl, Nat.le_refl _, fun _ _ => rfl⟩); rintro e w1 ⟨rfl, p1, p2, p3, p4, p5, p6, p7⟩) | (go_at_call 154; refine (hF _ ?_).mono ?_; (first | assumption | exact ⟨rfl, rfl, rfl, Nat.le_refl _, fun _ _ => rfl⟩); rintro e w2 ⟨rfl, q1, q2, q3, q4, q5, q6, q7⟩))
 have a0 : CopyI w (w2.alloc (.cells #[.slice none 0 0, .int .i64 fl, .map (some w.heap.size), .map (some w1.heap.size)] 164)) w2.heap.size w.heap.size w1.heap.size U fl G F 0 (.slice none 0 0) [] := by
  have p4' : SetAt w1 w.heap.size G := p4
  have p5' : w.heap.size < w1.heap.size := p5
  have keep : ∀ k, k < w2.heap.size → (w2.alloc (.cells #[.slice none 0 0, .int .i64 fl, .map (some w.heap.size), .map (some w1.heap.size)] 164)).heap[k]? = w2.heap[k]? := fun k hk => Lib.alloc_old w2 _ k hk
  refine ⟨heap_alloc_new w2 _, ⟨rfl, .inl ⟨rfl, rfl⟩⟩, fun j m l h1 => by simp at h1, p4'.keep ((keep _ (by omega)).trans (q6.block _ p5')), q4.keep (keep _ q5), ?_, ?_, fun x hx => by simp [Value.ownBlock] at hx, q7.trans ((Below.refl _ _).alloc q7.size _)⟩
  · intro k hk
    simp at hk
    simp
    omega
  · simp; omega
 have hkU := h.len
 have n1 := h.n1
 have f0 := h.f0
 have le := h.le
 have hsets := h.sets
 have hat := fun (i m : Nat) (hm : um[i]? = some m) => h.at_ hm
 clear h hG hF hcl p1 p2 p3 q1 q2 q3
 generalize hc : w2.heap.size = c at *
 generalize w.heap.size = z0 at a0
 generalize w1.heap.size = z1 at a0
 obtain ⟨W0, hW0⟩ : ∃ W0, w2.alloc (.cells #[.slice none 0 0, .int .i64 fl, .map (some z0), .map (some z1)] 164) = W0 := ⟨_, rfl⟩
 rw [hW0] at a0 ⊢
 clear hW0 hc p4 p5 p6 p7 q4 q5 q6 q7
 have d0 : W0.cell? ⟨b, 0, none⟩ = some (.slice (some ⟨ub, 0, none⟩) U.length cap) := (World.cell?_of_block (a0.below.block b hbb)).trans c0
 obtain ⟨n, hn⟩ : ∃ n, U.length = n := ⟨_, rfl⟩
 rw [hn] at c0 d0 hkU n1 le
 obtain ⟨i, z, hi, hz, hi1, hby1, hzs⟩ := Tbg Tus
 go_wp2
 go_loopw [27] (fun vi wr => ∃ i : Nat, vi = .int .i64 i ∧ AsR (i ≤ n) ∧ AsR (∃ v um', CopyI w wr c z0 z1 U fl G F i v um')) (fun vi _ => n - (intVR vi).toNat)
 case atStart => exact ⟨0, rfl, ⟨by omega⟩, ⟨_, _, a0⟩⟩
 case round =>
  obtain ⟨j, rfl, hj, hI⟩ := hrel
  obtain ⟨v, um', hI⟩ := hI.out
  by_cases hjn : j < n
  · have i2 : (0 : Int) ≤ (j : Int) := by omega
    have i3 : (j : Int) < (n : Int) := by omega
    have hum : um[j]? = some um[j] := List.getElem?_eq_getElem (by omega)
    have hU : U[j]? = some U[j] := List.getElem?_eq_getElem (by omega)
    have hs := (hsets j _ _ hum hU).2
    have hlm := hlt um[j] (by simp)
    have g1 := (World.cell?_of_block (a := ⟨ub, j, none⟩) (hI.below.block ub hub)).trans (hat j _ hum)
    clear hum
    have hU' := hU
    clear hU
    generalize U[j] = l at *
    generalize um[j] = m at *
    obtain ⟨ad, cp, rfl⟩ : ∃ ad cp, v = .slice ad j cp := by
     rcases hI.row.2 with ⟨h1, h2⟩ | ⟨g, cp, cur, h1, _⟩
     · exact ⟨none, 0, by rw [h1, h2]⟩
     · exact ⟨_, cp, h1⟩
    have g0 : wr.cell? ⟨c, 0, none⟩ = some (.slice ad j cp) := by simp [World.cell?, hI.cells]
    have g00 : wr.frozen? ⟨c, 0, none⟩ = false := by simp [World.frozen?, hI.cells]
    have hcl := (hI.lo c (by simp)).2
    have hap : some c ≠ (Value.slice ad j cp).ownBlock := fun e => hI.ap c e.symm (by simp)
    have hC : ∀ W : World, wr.drew = W → Calls Tryz.prog 154 #[.map (some m)] W fun e w' => e = .returned (.map (some wr.heap.size)) ∧ w'.cell? ⟨c, 0, none⟩ = some (.slice ad j cp) ∧ w'.frozen? ⟨c, 0, none⟩ = false ∧ SetAt w' wr.heap.size l ∧ wr.heap.size < w'.heap.size ∧ Below wr.heap.size wr w' := by
     rintro W rfl
     refine (Tfb wr.drew ((hs.keep (hI.below.block m hs.lt)).keep rfl)).mono ?_
     rintro e w' ⟨rfl, q1, q2, q3⟩
     have q4 : Below wr.heap.size wr w' := ⟨q3.os, q3.tape, q3.output, q3.size, q3.block⟩
     exact ⟨rfl, (World.cell?_of_block (q4.block c hcl)).trans g0, (World.frozen?_of_block (q4.block c hcl)).trans g00, q1, q2, q4⟩
    have hby : (j + 1) * 8 ≤ 140737488355328 := by omega
    have h63 : j + 1 ≤ maxLen := by simp only [maxLen]; omega
    go_wp2
    go_region_law (first | (go_simp; refine (hC _ rfl).mono ?_; rintro e w1 ⟨rfl, q0, q00, q1, q2, q3⟩; have hq3 := q3.size; have hcw : c < w1.heap.size := (by omega); have q0' : (w1.alloc (.cells #[.map (some wr.heap.size)] 161)).cell? ⟨c, 0, none⟩ = some (.slice ad j cp) := (World.cell?_of_block (Lib.alloc_old w1 _ c hcw)).trans q0; have q00' : (w1.alloc (.cells #[.map (some wr.heap.size)] 161)).frozen? ⟨c, 0, none⟩ = false := (World.frozen?_of_block (Lib.alloc_old w1 _ c hcw)).trans q00; have hown1 : (w1.alloc (.cells #[.map (some wr.heap.size)] 161)).ownsRow w.heap.size 161 1 (.slice ad j cp) j (um'.map fun m => .map (some m)) := (hI.row1 q3).alloc _) | (refine step_append_lies _ (by rfl) _ _ _ (by rfl) w.heap.size 161 i z 1 8 Tryz.underlying162 hi hz hi1 hby1 hzs (by omega) _ j (um'.map fun m => .map (some m)) (by rfl) hown1 ⟨w1.heap.size, 0, none⟩ 1 1 [.map (some wr.heap.size)] (by rfl) (by rfl) (World.news_of_block (heap_alloc_new w1 _)) (by simp [Value.oneCell']) (by omega) h63 hby (by have := hI.below.size; simp; omega) (w1.heap.size + 1) (by simp) ?_; intro g cap' w3 hown hgrow hat' hlt3; have r0 : w3.cell? ⟨c, 0, none⟩ = some (.slice ad j cp) := (hgrow.cell_far ⟨c, 0, none⟩ (by simp; omega) hap).trans q0'; have r00 : w3.frozen? ⟨c, 0, none⟩ = false := (hgrow.frozen_far ⟨c, 0, none⟩ (by simp; omega) hap).trans q00'))
    all_goals
     have hfin := hI.step hU' q1 q2 q3 hown hgrow hat'
     have w1' : IntKind.i64.wrap ((j : Int) + 1) = ((j + 1 : Nat) : Int) := by rw [wrapI _ (by omega) (by omega)]; omega
     go_wp2
     go_roundw
     case rel => exact ⟨j + 1, by go_num, ⟨by omega⟩, ⟨_, _, hfin⟩⟩
     case measure => simp [intVR]; omega
  · have hjn : j = n := by have := hj.out; omega
    subst hjn
    have hd := hn ▸ hI
    obtain ⟨ub', cap', hR⟩ := hd.done (by omega) f0 (by omega)
    go_wp2
    go_ret
    exact ⟨c, ub', cap', z0, z1, um', rfl, hR, hI.below⟩
end
end Go.Proofs.YtjpibniecllafaaGreat.AM
end
section
namespace Go.Proofs.YtjpibniecllafaaGreat.AM
open Go Go.RowKit Go.Maps Go.Proofs
theorem Ttr (w : World) : SetAt (w.alloc (.map #[] 0)) w.heap.size [] := SetAt.of (n := 0) (World.ownsMap_made w _ _ _) Grp.nil
theorem Tg0 {w : World} {b : Nat} (h : w.heap[b]? = some (.map #[] 0)) : SetAt w b [] := by
 obtain ⟨⟨es, clock, h1, F, hs, hD⟩, hg⟩ := Ttr w
 rw [heap_alloc_new] at h1
 simp only [oIE, Obj.map.injEq] at h1
 obtain ⟨rfl, rfl⟩ := h1
 exact ⟨⟨#[], 0, h, F, hs, hD⟩, hg⟩
set_option maxHeartbeats 4000000 in
set_option maxRecDepth 100000 in
theorem Tws (w : World) : Calls Tryz.prog 50 #[] w fun e w' => ∃ b ub cap mg mf m, e = .returned (.pointer (some ⟨b, 0, none⟩)) ∧ RevM w' w.heap.size b ub cap mg mf [m] [[]] 0 [] [] ∧ Below w.heap.size w w' := by
 have hmm := @run_makeMap Tryz.prog
 go_enter Tryz.func50, Tryz.ntmps50
 go_wp2
 go_ret
 have al : ∀ (W : World) (o : Obj) (k : Nat), (W.alloc o).heap[k]? = if k = W.heap.size then some o else W.heap[k]? := fun W o k => by
  show (W.heap.push o)[k]? = _
  rw [Array.getElem?_push]
 have sz : ∀ (W : World) (o : Obj), (W.alloc o).heap.size = W.heap.size + 1 := fun W o => by simp
 refine ⟨w.heap.size + 4, w.heap.size + 1, 1, w.heap.size + 2, w.heap.size + 3, w.heap.size, ?_, ⟨by simp, by simp, by simp, by omega, ?_, ⟨rfl, .inr ⟨w.heap.size + 1, 1, #[.map (some w.heap.size)], rfl, by omega, ?_, by simp, by simp [maxLen], by simp, by simp⟩⟩, rfl, ?_, by omega, by omega, ?_, ?_, ?_⟩, ?_⟩
 · rfl
 · rw [al, if_pos (by simp only [sz])]; rfl
 · rw [al, if_neg (by simp only [sz]; omega), al, if_neg (by simp only [sz]; omega), al, if_neg (by simp only [sz]; omega), al, if_pos (by simp only [sz])]
 · intro i m l h1 h2
   obtain ⟨rfl, rfl⟩ : m = w.heap.size ∧ l = [] := by
    rcases i with _ | i
    · simp at h1 h2; exact ⟨h1.symm, h2⟩
    · simp at h1
   exact ⟨Nat.le_refl _, Tg0 (by rw [al, if_neg (by simp only [sz]; omega), al, if_neg (by simp only [sz]; omega), al, if_neg (by simp only [sz]; omega), al, if_neg (by simp only [sz]; omega), al, if_pos rfl])⟩
 · exact Tg0 (by rw [al, if_neg (by simp only [sz]; omega), al, if_neg (by simp only [sz]; omega), al, if_pos (by simp only [sz])])
 · exact Tg0 (by rw [al, if_neg (by simp only [sz]; omega), al, if_pos (by simp only [sz])])
 · simp
 · exact ((((((Below.refl _ w).alloc (Nat.le_refl _) _).alloc (by simp) _).alloc (by simp; omega) _).alloc (by simp; omega) _).alloc (by simp; omega) _)
end Go.Proofs.YtjpibniecllafaaGreat.AM
end
section
namespace Go.Proofs.YtjpibniecllafaaGreat.AM
open Go Go.RowKit
def revV (b ub cap n mg mf : Nat) (um : List Nat) : Nat → Value
 | 0 => .pointer (some ⟨b, 0, none⟩)
 | 1 => .slice (some ⟨ub, 0, none⟩) n cap
 | 2 => .map (some mg)
 | 3 => .map (some mf)
 | i + 4 => .map um[i]?
def RevG (g : Gs) (d b ub cap n mg mf : Nat) (um : List Nat) : Prop := ∀ p, p < um.length + 4 → g.v (p * 1000000 + d) = revV b ub cap n mg mf um p
theorem Twt (d p : Nat) : nid d p = (p + 1) * 1000000 + d := rfl
theorem Tm6 {b ub cap n mg mf : Nat} {um : List Nat} {p k : Nat} (h : blk (revV b ub cap n mg mf um p) = some k) : (b :: ub :: mg :: mf :: um)[p]? = some k := by
 match p with
 | 0 => simpa [revV, blk] using h
 | 1 => simpa [revV, blk] using h
 | 2 => simpa [revV, blk] using h
 | 3 => simpa [revV, blk] using h
 | i + 4 =>
  cases hm : um[i]? with
  | none => simp [revV, blk, hm] at h
  | some m => simpa [revV, blk, hm] using h
section
variable {w : World} {B b ub cap mg mf : Nat} {um : List Nat} {U : List (List Int)} {fl : Int} {G F : List Int} {g : Gs} {d : Nat}
theorem Tck (hG : RevG g d b ub cap U.length mg mf um) (hl : um.length = U.length) {x k : Nat} (hx : Ids d (.mpo U fl G F) x) (hk : blk (g.v x) = some k) : ∃ p, x = p * 1000000 + d ∧ (b :: ub :: mg :: mf :: um)[p]? = some k := by
 rcases hx with rfl | ⟨e, k', l, p, e', k2, l', h, _⟩ | ⟨U', fl', G', F', p, h, hp, rfl⟩
 · refine ⟨0, by omega, ?_⟩
   have := hG 0 (by omega)
   rw [show 0 * 1000000 + x = x by omega] at this
   rw [this] at hk
   exact Tm6 hk
 · simp at h
 · simp only [Ob.mpo.injEq] at h
   obtain ⟨rfl, _⟩ := h
   rw [Twt] at hk ⊢
   rw [hG (p + 1) (by omega)] at hk
   exact ⟨p + 1, rfl, Tm6 hk⟩
theorem Ti1 (M : RevM w B b ub cap mg mf um U fl G F) (hG : RevG g d b ub cap U.length mg mf um) (hl : ∀ k ∈ b :: ub :: mg :: mf :: um, g.lm k = 0) : RevAt w g B d U fl G F := by
 have v0 := hG 0 (by omega)
 have v1 := hG 1 (by omega)
 have v2 := hG 2 (by omega)
 have v3 := hG 3 (by omega)
 rw [show 0 * 1000000 + d = d by omega] at v0
 rw [show 1 * 1000000 + d = nid d 0 by unfold nid; omega] at v1
 rw [show 2 * 1000000 + d = nid d 1 by unfold nid; omega] at v2
 rw [show 3 * 1000000 + d = nid d 2 by unfold nid; omega] at v3
 have v4 : ∀ i m : Nat, um[i]? = some m → g.v (nid d (3 + i)) = .map (some m) := fun i m hm => by
  have := hG (i + 4) (by have := (List.getElem?_eq_some_iff.1 hm).1; omega)
  rw [show (i + 4) * 1000000 + d = nid d (3 + i) by unfold nid; omega] at this
  rw [this]; simp [revV, hm]
 simp only [revV] at v0 v1 v2 v3
 refine ⟨⟨M.n1, M.f0, M.le⟩, ⟨b, v0, M.bb, hl b (by simp), by rw [v1, v2, v3]; exact M.cells⟩, ⟨_, by rw [v1]; exact M.row, fun i u hu => ?_⟩, fun k hk => ?_, fun i l hi => ?_, ⟨mg, v2, M.gb, M.gset, hl mg (by simp)⟩, ⟨mf, v3, M.fb, M.fset, hl mf (by simp)⟩⟩
 · rw [List.getElem?_map] at hu
   obtain ⟨m, hm, rfl⟩ := Option.map_eq_some_iff.1 hu
   exact (v4 i m hm).symm
 · rw [v1] at hk
   simp [blk] at hk
   subst hk
   exact hl ub (by simp)
 · have hi' : i < um.length := by have := (List.getElem?_eq_some_iff.1 hi).1; have := M.len; omega
   have hm := List.getElem?_eq_getElem hi'
   have := M.sets i _ l hm hi
   exact ⟨_, v4 i _ hm, this.1, this.2, hl _ (by simp)⟩
theorem Tqz (R : RevAt w g B d U fl G F) (hap : ∃ own : Nat → Nat, ∀ x k, Ids d (.mpo U fl G F) x → blk (g.v x) = some k → own k = x) : ∃ b ub cap mg mf um, RevM w B b ub cap mg mf um U fl G F ∧ RevG g d b ub cap U.length mg mf um ∧ ∀ k ∈ b :: ub :: mg :: mf :: um, g.lm k = 0 := by
 obtain ⟨⟨n1, f0, le⟩, ⟨b, v0, bb, l0, cells⟩, ⟨xs, row, hxs⟩, l1, hsets, ⟨mg, v2, gb, gset, l2⟩, ⟨mf, v3, fb, fset, l3⟩⟩ := R
 obtain ⟨own, hown⟩ := hap
 obtain ⟨ub, cap, v1⟩ : ∃ ub cap, g.v (nid d 0) = .slice (some ⟨ub, 0, none⟩) U.length cap := by
  rcases row.2 with ⟨_, h⟩ | ⟨ub, cap, cur, h, _⟩
  · omega
  · exact ⟨ub, cap, h⟩
 have hm : ∀ i, i < U.length → ∃ m, g.v (nid d (3 + i)) = .map (some m) ∧ g.lm m = 0 := fun i hi => by
  obtain ⟨m, h1, _, _, h2⟩ := hsets i _ (List.getElem?_eq_getElem hi)
  exact ⟨m, h1, h2⟩
 let bl : Value → Nat := fun v => match blk v with | some k => k | none => 0
 let um : List Nat := (List.range U.length).map fun i => bl (g.v (nid d (3 + i)))
 have hul : um.length = U.length := by simp [um]
 have hum : ∀ i m : Nat, um[i]? = some m → g.v (nid d (3 + i)) = .map (some m) ∧ i < U.length ∧ g.lm m = 0 := fun i m h => by
  have hi : i < U.length := by have := (List.getElem?_eq_some_iff.1 h).1; omega
  obtain ⟨m', h1, h2⟩ := hm i hi
  have : um[i]? = some m' := by simp [um, hi, h1, bl, blk]
  rw [this] at h
  obtain rfl := oIj h
  exact ⟨h1, hi, h2⟩
 have hG : RevG g d b ub cap U.length mg mf um := by
  intro p hp
  match p with
  | 0 => rw [show 0 * 1000000 + d = d by omega]; exact v0
  | 1 => rw [show 1 * 1000000 + d = nid d 0 by unfold nid; omega]; exact v1
  | 2 => rw [show 2 * 1000000 + d = nid d 1 by unfold nid; omega]; exact v2
  | 3 => rw [show 3 * 1000000 + d = nid d 2 by unfold nid; omega]; exact v3
  | i + 4 =>
   rw [show (i + 4) * 1000000 + d = nid d (3 + i) by unfold nid; omega]
   have hi : i < um.length := by omega
   have := List.getElem?_eq_getElem hi
   rw [(hum i _ this).1]; simp [revV, this]
 have hinj : ∀ p q k : Nat, (b :: ub :: mg :: mf :: um)[p]? = some k → (b :: ub :: mg :: mf :: um)[q]? = some k → p = q := by
  have key : ∀ p k : Nat, (b :: ub :: mg :: mf :: um)[p]? = some k → own k = p * 1000000 + d := by
   intro p k hp
   match p with
   | 0 => simp at hp; subst hp; rw [show 0 * 1000000 + d = d by omega]; exact hown d _ (.self _ _) (by rw [v0]; rfl)
   | 1 => simp at hp; subst hp; rw [show 1 * 1000000 + d = nid d 0 by unfold nid; omega]; exact hown _ _ (.mpo (by omega)) (by rw [v1]; rfl)
   | 2 => simp at hp; subst hp; rw [show 2 * 1000000 + d = nid d 1 by unfold nid; omega]; exact hown _ _ (.mpo (by omega)) (by rw [v2]; rfl)
   | 3 => simp at hp; subst hp; rw [show 3 * 1000000 + d = nid d 2 by unfold nid; omega]; exact hown _ _ (.mpo (by omega)) (by rw [v3]; rfl)
   | i + 4 =>
    simp at hp
    rw [show (i + 4) * 1000000 + d = nid d (3 + i) by unfold nid; omega]
    have := hum i k hp
    exact hown _ _ (.mpo (by omega)) (by rw [this.1]; rfl)
  intro p q k hp hq
  have := key p k hp
  have := key q k hq
  omega
 have hnd : (b :: ub :: mg :: mf :: um).Nodup := by
  unfold List.Nodup
  rw [List.pairwise_iff_getElem]
  intro i j hi hj hij he
  have := hinj i j _ (List.getElem?_eq_getElem hi) (by rw [he]; exact List.getElem?_eq_getElem hj)
  omega
 refine ⟨b, ub, cap, mg, mf, um, ⟨n1, f0, le, bb, by rw [← v1, ← v2, ← v3]; exact cells, ?_, hul, fun i m l h1 h2 => ?_, gb, fb, gset, fset, ?_⟩, hG, ?_⟩
 · rw [← v1]
   have e : xs = um.map fun m => .map (some m) := by
    apply List.ext_getElem?
    intro i
    have hxl : xs.length = U.length := by simpa using row.1
    by_cases hi : i < U.length
    · have h1 : xs[i]? = some xs[i] := List.getElem?_eq_getElem (by omega)
      have h2 : um[i]? = some um[i] := List.getElem?_eq_getElem (by omega)
      rw [h1, hxs i _ h1, (hum i _ h2).1, List.getElem?_map, h2]; rfl
    · rw [List.getElem?_eq_none (by omega), List.getElem?_eq_none (by simp [hul]; omega)]
   rw [← e]; exact row
 · obtain ⟨m', q1, q2, q3, _⟩ := hsets i l h2
   have := (hum i m h1).1
   rw [q1] at this
   obtain rfl : m' = m := by simpa using this
   exact ⟨q2, q3⟩
 · exact ((List.Perm.swap ub b (mg :: mf :: um)).nodup_iff).1 hnd
 · intro k hk
   simp only [List.mem_cons] at hk
   rcases hk with rfl | rfl | rfl | rfl | hk
   · exact l0
   · exact l1 k (by rw [v1]; rfl)
   · exact l2
   · exact l3
   · obtain ⟨i, hi⟩ := List.mem_iff_getElem?.1 hk
     exact (hum i k hi).2.2
end
end Go.Proofs.YtjpibniecllafaaGreat.AM
end
section
namespace Go.Proofs.YtjpibniecllafaaGreat.AM
open Go Go.RowKit
theorem ap_of {h : List (Nat × Ob)} {g : Gs} (inj : ∀ d o x d' o' x' b, get h d = some o → o.live = true → Ids d o x → blk (g.v x) = some b → get h d' = some o' → o'.live = true → Ids d' o' x' → blk (g.v x') = some b → x = x') :
 ∃ own : Nat → Nat, ∀ d o x b, get h d = some o → o.live = true → Ids d o x → blk (g.v x) = some b → own b = x := by
 classical
 refine ⟨fun b => if hh : ∃ x d o, get h d = some o ∧ o.live = true ∧ Ids d o x ∧ blk (g.v x) = some b then hh.choose else 0, fun d o x b h1 h2 h3 h4 => ?_⟩
 have hh : ∃ x d o, get h d = some o ∧ o.live = true ∧ Ids d o x ∧ blk (g.v x) = some b := ⟨x, d, o, h1, h2, h3, h4⟩
 simp only
 rw [dif_pos hh]
 obtain ⟨d', o', q1, q2, q3, q4⟩ := hh.choose_spec
 exact inj _ _ _ _ _ _ b q1 q2 q3 q4 h1 h2 h3 h4
def lmN (w : World) (lm : Nat → Nat) : Nat → Nat := fun b => if b < w.heap.size then lm b else 0
def newG (g : Gs) (lm : Nat → Nat) (d : Nat) (vals : Nat → Value) : Gs := ⟨lm, fun x => if x % 1000000 = d then vals (x / 1000000) else g.v x⟩
theorem Ti2 {g : Gs} {lm : Nat → Nat} {d b ub cap n mg mf : Nat} {um : List Nat} (hd : d < 1000000) : RevG (newG g lm d (revV b ub cap n mg mf um)) d b ub cap n mg mf um := by
 intro p _
 show (if (p * 1000000 + d) % 1000000 = d then revV b ub cap n mg mf um ((p * 1000000 + d) / 1000000) else _) = _
 rw [if_pos (by omega), show (p * 1000000 + d) / 1000000 = p by omega]
theorem Ti3 {L : List Nat} (h : L.Nodup) {p q k : Nat} (hp : L[p]? = some k) (hq : L[q]? = some k) : p = q := by
 unfold List.Nodup at h
 rw [List.pairwise_iff_getElem] at h
 obtain ⟨p1, p2⟩ := List.getElem?_eq_some_iff.1 hp
 obtain ⟨q1, q2⟩ := List.getElem?_eq_some_iff.1 hq
 rcases Nat.lt_trichotomy p q with hl | hl | hl
 · exact absurd (p2.trans q2.symm) (h p q p1 q1 hl)
 · exact hl
 · exact absurd (q2.trans p2.symm) (h q p q1 p1 hl)
section
variable {w : World} {B b ub cap mg mf : Nat} {um : List Nat} {U : List (List Int)} {fl : Int} {G F : List Int} {g : Gs}
theorem RevM.nd' (M : RevM w B b ub cap mg mf um U fl G F) : (b :: ub :: mg :: mf :: um).Nodup := ((List.Perm.swap b ub (mg :: mf :: um)).nodup_iff).1 M.nd
theorem RevM.lt' (M : RevM w B b ub cap mg mf um U fl G F) : ∀ k ∈ b :: ub :: mg :: mf :: um, B ≤ k ∧ k < w.heap.size := fun k hk => M.lt k (((List.Perm.swap b ub (mg :: mf :: um)).mem_iff).2 hk)
theorem Tdm {o o' : Ob} {d : Nat} (h : get [(0, o)] d = some o') : d = 0 ∧ o = o' := by
 simp only [get] at h
 split at h
 · exact ⟨by simp_all, by simpa using h⟩
 · simp at h
theorem Tut (M : RevM w B b ub cap mg mf um U fl G F) (hG : RevG g 0 b ub cap U.length mg mf um) (hl : ∀ k ∈ b :: ub :: mg :: mf :: um, g.lm k = 0) : HS B g w [(0, .mpo U fl G F)] := by
 refine ⟨fun d o h => ?_, fun d o h => ?_, ap_of fun d o x d' o' x' k h1 _ h3 h4 h5 _ h7 h8 => ?_, fun d e k l xs h => ?_⟩
 · obtain ⟨rfl, rfl⟩ := Tdm h
   exact Ti1 M hG hl
 · obtain ⟨rfl, _⟩ := Tdm h
   omega
 · obtain ⟨rfl, rfl⟩ := Tdm h1
   obtain ⟨rfl, rfl⟩ := Tdm h5
   obtain ⟨p, rfl, hp⟩ := Tck hG M.len h3 h4
   obtain ⟨q, rfl, hq⟩ := Tck hG M.len h7 h8
   rw [Ti3 M.nd' hp hq]
 · obtain ⟨_, h⟩ := Tdm h
   simp at h
theorem Tm7 (M : RevM w B b ub cap mg mf um U fl G F) (hG : RevG g 0 b ub cap U.length mg mf um) {k : Nat} (hk : k ∉ b :: ub :: mg :: mf :: um) : Free g (get [(0, .mpo U fl G F)]) k := by
 intro d o x h1 _ h3 h4
 obtain ⟨rfl, rfl⟩ := Tdm h1
 obtain ⟨p, _, hp⟩ := Tck hG M.len h3 h4
 exact hk (List.mem_of_getElem? hp)
theorem Tfl (hG : RevG g 0 b ub cap U.length mg mf um) (hl : um.length = U.length) {k : Nat} (hk : k ∈ b :: ub :: mg :: mf :: um) : ¬ Free g (get [(0, .mpo U fl G F)]) k := by
 intro hf
 obtain ⟨p, hp⟩ := List.mem_iff_getElem?.1 hk
 have hpl := (List.getElem?_eq_some_iff.1 hp).1
 simp at hpl
 refine hf 0 _ (p * 1000000 + 0) rfl rfl ?_ ?_
 · rcases p with _ | p
   · exact Ids.self 0 _
   · exact Ids.mpo (p := p) (by omega)
 · rw [hG p hpl]
   match p with
   | 0 => simpa [revV, blk] using hp
   | 1 => simpa [revV, blk] using hp
   | 2 => simpa [revV, blk] using hp
   | 3 => simpa [revV, blk] using hp
   | i + 4 => simp at hp; simp [revV, blk, hp]
theorem Tbk {f : FuncId} {vs : List SV} {r : PV} {U' : List (List Int)} {fl' : Int} {G' F' : List Int}
 (H : ∀ (w : World) (B : Nat) (g : Gs) (b ub cap mg mf : Nat) (um : List Nat) (us : List Value), RevM w B b ub cap mg mf um U fl G F → B ≤ w.heap.size → SRepL w g (get [(0, .mpo U fl G F)]) vs us →
  Calls Tryz.prog f (.pointer (some ⟨b, 0, none⟩) :: us).toArray w fun e w' => ∃ u ub' cap' um' lm', e = .returned u ∧ (∀ k, k < w.heap.size → lm' k = g.lm k) ∧ (∀ k ∈ ub' :: um', w.heap.size ≤ k → lm' k = 0) ∧ Rep w' lm' r u ∧ RevM w' B b ub' cap' mg mf um' U' fl' G' F' ∧ (∀ k ∈ ub' :: um', k ∈ ub :: um ∨ w.heap.size ≤ k) ∧ Tch w w' fun k => k ∈ b :: ub :: mg :: mf :: um) :
 SharedOK Tryz.prog f [.hp (.mo 0 :: vs) [(0, .mpo U fl G F)]] (.p r) [(0, .mpo U' fl' G' F')] := by
 intro vs0 h0 heq base w0 lmf g w us hs hrl K hK
 simp only [List.cons.injEq, PV.hp.injEq, and_true] at heq
 obtain ⟨rfl, rfl⟩ := heq
 cases hrl with
 | cons hr0 hrl =>
 rename_i u0 us
 have e0 : u0 = g.v 0 := hr0
 have R := hs.hs.ob 0 _ rfl
 obtain ⟨b, ub, cap, mg, mf, um, M, hG, hl⟩ := Tqz R (by
  obtain ⟨own, h⟩ := hs.hs.ap
  exact ⟨own, fun x k hx hk => h 0 _ x k rfl rfl hx hk⟩)
 have hv0 : g.v 0 = .pointer (some ⟨b, 0, none⟩) := by simpa [revV] using hG 0 (by omega)
 have hBw : base ≤ w.heap.size := by rw [hs.bas]; exact hs.below.size
 rw [e0, hv0]
 refine (H w base g b ub cap mg mf um us M hBw hrl).mono ?_
 rintro e w' ⟨u, ub', cap', um', lm', rfl, hlm, hlm2, hrep, M', hnew, ht⟩
 have hsub : ∀ k ∈ b :: ub' :: mg :: mf :: um', k ∈ b :: ub :: mg :: mf :: um ∨ w.heap.size ≤ k := by
  intro k hk
  simp only [List.mem_cons] at hk ⊢
  rcases hk with rfl | rfl | rfl | rfl | hk
  · exact .inl (.inl rfl)
  · rcases hnew k (by simp) with h | h
    · simp only [List.mem_cons] at h
      rcases h with h | h
      · exact .inl (.inr (.inl h))
      · exact .inl (.inr (.inr (.inr (.inr h))))
    · exact .inr h
  · exact .inl (.inr (.inr (.inl rfl)))
  · exact .inl (.inr (.inr (.inr (.inl rfl))))
  · rcases hnew k (by simp [hk]) with h | h
    · simp only [List.mem_cons] at h
      rcases h with h | h
      · exact .inl (.inr (.inl h))
      · exact .inl (.inr (.inr (.inr (.inr h))))
    · exact .inr h
 have hG' : RevG (newG g lm' 0 (revV b ub' cap' U'.length mg mf um')) 0 b ub' cap' U'.length mg mf um' := Ti2 (by omega)
 have hl' : ∀ k ∈ b :: ub' :: mg :: mf :: um', lm' k = 0 := by
  intro k hk
  by_cases hkw : k < w.heap.size
  · rw [hlm k hkw]
    rcases hsub k hk with h | h
    · exact hl k h
    · omega
  · refine hlm2 k ?_ (by omega)
    simp only [List.mem_cons] at hk ⊢
    rcases hk with rfl | rfl | rfl | rfl | hk
    · exact absurd (M.lt' k (by simp)).2 hkw
    · exact .inl rfl
    · exact absurd (M.lt' k (by simp)).2 hkw
    · exact absurd (M.lt' k (by simp)).2 hkw
    · exact .inr hk
 have hext : Ext w g.lm w' lm' := Ext.blocks fun k hk h0 => ⟨ht.block k hk fun hm => by have := hl k hm; omega, hlm k hk⟩
 have hH := Tut (g := newG g lm' 0 (revV b ub' cap' U'.length mg mf um')) M' hG' hl'
 refine ⟨u, newG g lm' 0 (revV b ub' cap' U'.length mg mf um'), rfl, ⟨hs.bas, ?_, fun k hk => (hlm k (by omega)).trans (hs.lm k hk), hH⟩, hrep, hext, ht.size, fun k hk => ?_, fun v1 u1 h1 => ?_⟩
 · exact ⟨ht.os.trans hs.below.os, ht.tape.trans hs.below.tape, ht.output.trans hs.below.output, Nat.le_trans hs.below.size ht.size, fun k hk => (ht.block k (by omega) fun hm => by have := (M.lt' k hm).1; omega).trans (hs.below.block k hk)⟩
 · obtain ⟨q1, q2⟩ := hK k hk
   have q3 : k ∉ b :: ub :: mg :: mf :: um := fun hm => Tfl hG M.len hm q2
   exact ⟨ht.block k q1 q3, hlm k q1, Tm7 M' hG' fun hm => by
    rcases hsub k hm with h | h
    · exact q3 h
    · omega⟩
 · have := SRep.mapr (w' := w') (g' := newG g lm' 0 (revV b ub' cap' U'.length mg mf um')) (h' := get [(0, .mpo U' fl' G' F')]) (f := fun e => e) hext (fun e _ o ho => by
    obtain ⟨rfl, rfl⟩ := Tdm ho
    refine ⟨.mpo U' fl' G' F', rfl, trivial, ?_⟩
    have e1 := hG' 0 (by omega)
    rw [Nat.zero_mul, Nat.zero_add] at e1
    rw [e1, hv0]; rfl) h1
   rwa [SV.mapr_id (f := fun e => e) (fun _ _ => rfl)] at this
end
end Go.Proofs.YtjpibniecllafaaGreat.AM
end
section
namespace Go.Proofs.YtjpibniecllafaaGreat.AM
open Go Go.RowKit
variable {U : List (List Int)} {fl : Int} {G F : List Int}
theorem Tbf (w : World) (lm : Nat → Nat) : ∀ k, k < w.heap.size → lmN w lm k = lm k := fun k hk => if_pos hk
theorem Tcl (w : World) (lm : Nat → Nat) {k : Nat} (hk : w.heap.size ≤ k) : lmN w lm k = 0 := if_neg (by omega)
theorem Twu : SharedOK Tryz.prog 59 [.hp [.mo 0] [(0, .mpo U fl G F)]] (.p (pi (fl + U.length - 1))) [(0, .mpo U fl G F)] := by
 refine Tbk (vs := []) fun w B g b ub cap mg mf um us M hB hr => ?_
 cases hr
 refine (Tdv M).mono ?_
 rintro e w' ⟨rfl, hb⟩
 exact ⟨_, ub, cap, um, lmN w g.lm, rfl, Tbf w _, fun k _ hk => Tcl w _ hk, .sc _, M.below hb, fun k hk => .inl hk, Tch.of hb⟩
theorem Twv (r : Int) : SharedOK Tryz.prog 151 [.hp [.mo 0, .p (pi r)] [(0, .mpo U fl G F)]] (.p (pb (decide (fl ≤ r) && decide (r ≤ fl + U.length - 1)))) [(0, .mpo U fl G F)] := by
 refine Tbk (vs := [.p (pi r)]) fun w B g b ub cap mg mf um us M hB hr => ?_
 cases hr with
 | cons h1 hr =>
 cases hr
 cases h1
 refine (Tm3 M r).mono ?_
 rintro e w' ⟨rfl, hb⟩
 exact ⟨_, ub, cap, um, lmN w g.lm, rfl, Tbf w _, fun k _ hk => Tcl w _ hk, .sc _, M.below hb, fun k hk => .inl hk, Tch.of hb⟩
theorem Tkf (w : World) (lm : Nat → Nat) : ∀ l : List Int, RepL w lm (ints l).flatten (l.map (Value.int .i64))
 | [] => .nil
 | x :: l => .cons (.sc _) (Tkf w lm l)
theorem Tq0 (r : Int) : SharedOK Tryz.prog 102 [.hp [.mo 0, .p (pi r)] [(0, .mpo U fl G F)]] (.p (.sl 1 (if fl ≤ r ∧ r ≤ fl + U.length - 1 then ints (U.getD (r - fl).toNat []) else []))) [(0, .mpo U fl G F)] := by
 refine Tbk (vs := [.p (pi r)]) fun w B g b ub cap mg mf um us M hB hr => ?_
 cases hr with
 | cons h1 hr =>
 cases hr
 cases h1
 refine (Toe M r).mono ?_
 rintro e w' (⟨h0, rfl, hb⟩ | ⟨h0, b', l, hl, rfl, hb', hh, hb⟩)
 · rw [if_neg h0]
   exact ⟨_, ub, cap, um, lmN w g.lm, rfl, Tbf w _, fun k _ hk => Tcl w _ hk, .sl0, M.below hb, fun k hk => .inl hk, Tch.of hb⟩
 · rw [if_pos h0]
   have e1 : U.getD (r - fl).toNat [] = l := by rw [List.getD_eq_getElem?_getD, hl]; rfl
   rw [e1]
   have hil : (ints l).length = l.length := by simp [ints]
   refine ⟨_, ub, cap, um, fun k => if k = b' then l.length else lmN w g.lm k, rfl, fun k hk => ?_, fun k hk hk2 => ?_, ?_, M.below hb, fun k hk => .inl hk, Tch.of hb⟩
   · show (if k = b' then _ else _) = _
     rw [if_neg (by omega)]; exact Tbf w _ k hk
   · exfalso
     have := (M.lt' k (by
      simp only [List.mem_cons] at hk ⊢
      rcases hk with h | h
      · exact .inr (.inl h)
      · exact .inr (.inr (.inr (.inr h))))).2
     omega
   · have hc : w'.heap[b']? = some (.cells (l.map (Value.int .i64)).toArray 3 (0, 0)) := hh
     have := Rep.sl (w := w') (lm := fun k => if k = b' then l.length else lmN w g.lm k) (k := 1) (l := ints l) (vs := l.map (Value.int .i64)) (b := b') (o := 0) (cap := l.length) (by omega) (fun c hc => by simp [ints] at hc; obtain ⟨a, _, rfl⟩ := hc; rfl) (Tkf _ _ l) (fun j u hu => by
      have hj : j < l.length := by simpa using (List.getElem?_eq_some_iff.1 hu).1
      refine ⟨by rw [Nat.zero_add]; simp only [World.cell?, hc]; simpa using hu, ?_, ?_⟩
      · show 0 + j < (if b' = b' then l.length else _)
        rw [if_pos rfl]; omega
      · rw [List.getElem?_map] at hu
        obtain ⟨x, _, rfl⟩ := Option.map_eq_some_iff.1 hu
        rfl) (by omega)
     rw [hil] at this
     exact this
theorem Tq1 {w : World} {ub ub' m : Nat} {um : List Nat} (h1 : ub' = ub ∨ w.heap.size ≤ ub') (h2 : w.heap.size ≤ m) : ∀ k ∈ ub' :: (um ++ [m]), k ∈ ub :: um ∨ w.heap.size ≤ k := by
 intro k hk
 simp only [List.mem_cons, List.mem_append, List.not_mem_nil, or_false] at hk ⊢
 rcases hk with rfl | hk | rfl
 · rcases h1 with rfl | h1
   · exact .inl (.inl rfl)
   · exact .inr h1
 · exact .inl (.inr hk)
 · exact .inr h2
theorem Tfd (w : World) (lm : Nat → Nat) (a c : Int) : Rep w lm (.tu [pi a, pi c]) (.tuple #[.int .i64 a, .int .i64 c]) := .tu (vs := [.int .i64 a, .int .i64 c]) (.cons (.sc _) (.cons (.sc _) .nil))
theorem Tyc (x : Int) (hx : inR x) (v : SV) (h' : List (Nat × Ob)) (hr : revAdd U fl G F x = .shr v h') : SharedOK Tryz.prog 54 [.hp [.mo 0, .p (pi x)] [(0, .mpo U fl G F)]] v h' := by
 unfold revAdd revO at hr
 by_cases c1 : x ∈ F ∨ x < 0 ∨ 60 ≤ x
 · rw [if_pos c1] at hr
   obtain ⟨rfl, rfl⟩ := Ret.shr.inj hr
   refine Tbk (vs := [.p (pi x)]) fun w B g b ub cap mg mf um us M hB hr => ?_
   cases hr with
   | cons h1 hr =>
   cases hr
   cases h1
   refine (Tli M hB x hx.1 hx.2).mono ?_
   rintro e w' (⟨_, rfl, hb⟩ | ⟨h0, _⟩ | ⟨h0, _⟩)
   · exact ⟨_, ub, cap, um, lmN w g.lm, rfl, Tbf w _, fun k _ hk => Tcl w _ hk, Tfd _ _ _ _, M.below hb, fun k hk => .inl hk, Tch.of hb⟩
   · exact absurd c1 h0
   · exact absurd c1 h0
 rw [if_neg c1] at hr
 by_cases c2 : 200 ≤ fl + (U.length : Int) - 1
 · rw [if_pos c2] at hr
   obtain ⟨rfl, rfl⟩ := Ret.shr.inj hr
   refine Tbk (vs := [.p (pi x)]) fun w B g b ub cap mg mf um us M hB hr => ?_
   cases hr with
   | cons h1 hr =>
   cases hr
   cases h1
   refine (Tli M hB x hx.1 hx.2).mono ?_
   rintro e w' (⟨h0, _⟩ | ⟨_, _, rfl, hb⟩ | ⟨_, h0, _⟩)
   · exact absurd h0 c1
   · exact ⟨_, ub, cap, um, lmN w g.lm, rfl, Tbf w _, fun k _ hk => Tcl w _ hk, Tfd _ _ _ _, M.below hb, fun k hk => .inl hk, Tch.of hb⟩
   · exact absurd c2 h0
 · rw [if_neg c2] at hr
   obtain ⟨rfl, rfl⟩ := Ret.shr.inj hr
   refine Tbk (vs := [.p (pi x)]) fun w B g b ub cap mg mf um us M hB hr => ?_
   cases hr with
   | cons h1 hr =>
   cases hr
   cases h1
   refine (Tli M hB x hx.1 hx.2).mono ?_
   rintro e w' (⟨h0, _⟩ | ⟨_, h0, _⟩ | ⟨_, _, m, ub', cap', rfl, M', hm, hub, ht⟩)
   · exact absurd h0 c1
   · exact absurd h0 c2
   · exact ⟨_, ub', cap', _, lmN w g.lm, rfl, Tbf w _, fun k _ hk => Tcl w _ hk, Tfd _ _ _ _, M', Tq1 hub hm, ht.mono fun k _ hk => by rcases hk with rfl | rfl | rfl <;> simp⟩
theorem Tq2 (x : Int) (hx : inR x) (v : SV) (h' : List (Nat × Ob)) (hr : revToggle U fl G F x = .shr v h') : SharedOK Tryz.prog 62 [.hp [.mo 0, .p (pi x)] [(0, .mpo U fl G F)]] v h' := by
 unfold revToggle revO at hr
 by_cases c1 : x ∉ G
 · rw [if_pos c1] at hr
   obtain ⟨rfl, rfl⟩ := Ret.shr.inj hr
   refine Tbk (vs := [.p (pi x)]) fun w B g b ub cap mg mf um us M hB hr => ?_
   cases hr with
   | cons h1 hr =>
   cases hr
   cases h1
   refine (Tfc M hB x hx.1 hx.2).mono ?_
   rintro e w' (⟨_, rfl, hb⟩ | ⟨h0, _⟩ | ⟨h0, _⟩)
   · exact ⟨_, ub, cap, um, lmN w g.lm, rfl, Tbf w _, fun k _ hk => Tcl w _ hk, Tfd _ _ _ _, M.below hb, fun k hk => .inl hk, Tch.of hb⟩
   · exact absurd h0 c1
   · exact absurd h0 c1
 rw [if_neg c1] at hr
 by_cases c2 : 200 ≤ fl + (U.length : Int) - 1
 · rw [if_pos c2] at hr
   obtain ⟨rfl, rfl⟩ := Ret.shr.inj hr
   refine Tbk (vs := [.p (pi x)]) fun w B g b ub cap mg mf um us M hB hr => ?_
   cases hr with
   | cons h1 hr =>
   cases hr
   cases h1
   refine (Tfc M hB x hx.1 hx.2).mono ?_
   rintro e w' (⟨h0, _⟩ | ⟨_, _, rfl, hb⟩ | ⟨_, h0, _⟩)
   · exact absurd h0 c1
   · exact ⟨_, ub, cap, um, lmN w g.lm, rfl, Tbf w _, fun k _ hk => Tcl w _ hk, Tfd _ _ _ _, M.below hb, fun k hk => .inl hk, Tch.of hb⟩
   · exact absurd c2 h0
 · rw [if_neg c2] at hr
   obtain ⟨rfl, rfl⟩ := Ret.shr.inj hr
   refine Tbk (vs := [.p (pi x)]) fun w B g b ub cap mg mf um us M hB hr => ?_
   cases hr with
   | cons h1 hr =>
   cases hr
   cases h1
   refine (Tfc M hB x hx.1 hx.2).mono ?_
   rintro e w' (⟨h0, _⟩ | ⟨_, h0, _⟩ | ⟨_, _, m, ub', cap', rfl, M', hm, hub, ht⟩)
   · exact absurd h0 c1
   · exact absurd h0 c2
   · exact ⟨_, ub', cap', _, lmN w g.lm, rfl, Tbf w _, fun k _ hk => Tcl w _ hk, Tfd _ _ _ _, M', Tq1 hub hm, ht.mono fun k _ hk => by rcases hk with rfl | rfl <;> simp⟩
theorem RevM.base {w : World} {B B' b ub cap mg mf : Nat} {um : List Nat} (h : RevM w B b ub cap mg mf um U fl G F) (hB : B' ≤ B) : RevM w B' b ub cap mg mf um U fl G F :=
 ⟨h.n1, h.f0, h.le, Nat.le_trans hB h.bb, h.cells, ownsRow_base_a h.row hB, h.len, fun i m l h1 h2 => ⟨Nat.le_trans hB (h.sets i m l h1 h2).1, (h.sets i m l h1 h2).2⟩, Nat.le_trans hB h.gb, Nat.le_trans hB h.fb, h.gset, h.fset, h.nd⟩
theorem Tyd : SharedOK Tryz.prog 50 [.hp [] []] (.mo 0) [(0, .mpo [[]] 0 [] [])] := by
 intro vs0 h0 heq base w0 lmf g w us hs hrl K hK
 simp only [List.cons.injEq, PV.hp.injEq, and_true] at heq
 obtain ⟨rfl, rfl⟩ := heq
 cases hrl
 refine (Tws w).mono ?_
 rintro e w' ⟨b, ub, cap, mg, mf, m, rfl, M, hb⟩
 have hBw : base ≤ w.heap.size := by rw [hs.bas]; exact hs.below.size
 have M' := M.base hBw
 have hG : RevG (newG g (lmN w g.lm) 0 (revV b ub cap [([] : List Int)].length mg mf [m])) 0 b ub cap [([] : List Int)].length mg mf [m] := Ti2 (by omega)
 have hl : ∀ k ∈ b :: ub :: mg :: mf :: [m], lmN w g.lm k = 0 := fun k hk => Tcl w _ (M.lt' k hk).1
 have hext : Ext w g.lm w' (lmN w g.lm) := Ext.of_below hb (Tbf w _)
 refine ⟨_, newG g (lmN w g.lm) 0 (revV b ub cap [([] : List Int)].length mg mf [m]), rfl, ⟨hs.bas, hs.below.trans (hb.mono hBw), fun k hk => (Tbf w _ k (by omega)).trans (hs.lm k hk), Tut M' hG hl⟩, ?_, hext, hb.size, fun k hk => ?_, fun v1 u1 h1 => ?_⟩
 · have e1 := hG 0 (by omega)
   rw [Nat.zero_mul, Nat.zero_add] at e1
   show Value.pointer (some ⟨b, 0, none⟩) = _
   rw [e1]; rfl
 · obtain ⟨q1, _⟩ := hK k hk
   exact ⟨hb.block k q1, Tbf w _ k q1, Tm7 M' hG fun hm => by have := (M.lt' k hm).1; omega⟩
 · have := SRep.mapr (w' := w') (g' := newG g (lmN w g.lm) 0 (revV b ub cap [([] : List Int)].length mg mf [m])) (h' := get [(0, .mpo [[]] 0 [] [])]) (f := fun e => e) hext (fun e _ o ho => by simp [get] at ho) h1
   rwa [SV.mapr_id (f := fun e => e) (fun _ _ => rfl)] at this
theorem Td6 {o0 o1 o : Ob} {d : Nat} (h : get [(0, o0), (1, o1)] d = some o) : (d = 0 ∧ o0 = o) ∨ (d = 1 ∧ o1 = o) := by
 simp only [get] at h
 split at h
 · exact .inl ⟨by simp_all, by simpa using h⟩
 split at h
 · exact .inr ⟨by simp_all, by simpa using h⟩
 · simp at h
theorem Tts : SharedOK Tryz.prog 97 [.hp [.mo 0] [(0, .mpo U fl G F)]] (.mo 1) [(0, .mpo U fl G F), (1, .mpo U fl G F)] := by
 intro vs0 h0 heq base w0 lmf g w us hs hrl K hK
 simp only [List.cons.injEq, PV.hp.injEq, and_true] at heq
 obtain ⟨rfl, rfl⟩ := heq
 cases hrl with
 | cons hr0 hrl =>
 cases hrl
 rename_i u0
 have e0 : u0 = g.v 0 := hr0
 obtain ⟨b, ub, cap, mg, mf, um, M, hG, hl⟩ := Tqz (hs.hs.ob 0 _ rfl) (by
  obtain ⟨own, h⟩ := hs.hs.ap
  exact ⟨own, fun x k hx hk => h 0 _ x k rfl rfl hx hk⟩)
 have hv0 : g.v 0 = .pointer (some ⟨b, 0, none⟩) := by simpa [revV] using hG 0 (by omega)
 have hBw : base ≤ w.heap.size := by rw [hs.bas]; exact hs.below.size
 rw [e0, hv0]
 refine (Ttq M).mono ?_
 rintro e w' ⟨b', ub', cap', mg', mf', um', rfl, M1, hb⟩
 have M0 := M.below hb
 have M1' := M1.base hBw
 have hG0 : RevG (newG g (lmN w g.lm) 1 (revV b' ub' cap' U.length mg' mf' um')) 0 b ub cap U.length mg mf um := by
  intro p hp
  show (if (p * 1000000 + 0) % 1000000 = 1 then _ else g.v (p * 1000000 + 0)) = _
  rw [if_neg (by omega)]; exact hG p hp
 have hG1 : RevG (newG g (lmN w g.lm) 1 (revV b' ub' cap' U.length mg' mf' um')) 1 b' ub' cap' U.length mg' mf' um' := Ti2 (by omega)
 have hl0 : ∀ k ∈ b :: ub :: mg :: mf :: um, lmN w g.lm k = 0 := fun k hk => (Tbf w _ k (M.lt' k hk).2).trans (hl k hk)
 have hl1 : ∀ k ∈ b' :: ub' :: mg' :: mf' :: um', lmN w g.lm k = 0 := fun k hk => Tcl w _ (M1.lt' k hk).1
 have hext : Ext w g.lm w' (lmN w g.lm) := Ext.of_below hb (Tbf w _)
 have hv0' : (newG g (lmN w g.lm) 1 (revV b' ub' cap' U.length mg' mf' um')).v 0 = g.v 0 := by
  simp [newG]
 have hH : HS base (newG g (lmN w g.lm) 1 (revV b' ub' cap' U.length mg' mf' um')) w' [(0, .mpo U fl G F), (1, .mpo U fl G F)] := by
  refine ⟨fun d o h => ?_, fun d o h => ?_, ap_of fun d o x d' o' x' k h1 _ h3 h4 h5 _ h7 h8 => ?_, fun d e k l xs h => ?_⟩
  · rcases Td6 h with ⟨rfl, rfl⟩ | ⟨rfl, rfl⟩
    · exact Ti1 M0 hG0 hl0
    · exact Ti1 M1' hG1 hl1
  · rcases Td6 h with ⟨rfl, _⟩ | ⟨rfl, _⟩ <;> omega
  · rcases Td6 h1 with ⟨rfl, rfl⟩ | ⟨rfl, rfl⟩
    · obtain ⟨p, rfl, hp⟩ := Tck hG0 M0.len h3 h4
      rcases Td6 h5 with ⟨rfl, rfl⟩ | ⟨rfl, rfl⟩
      · obtain ⟨q, rfl, hq⟩ := Tck hG0 M0.len h7 h8
        rw [Ti3 M0.nd' hp hq]
      · obtain ⟨q, rfl, hq⟩ := Tck hG1 M1.len h7 h8
        have a1 := (M.lt' k (List.mem_of_getElem? hp)).2
        have a2 := (M1.lt' k (List.mem_of_getElem? hq)).1
        omega
    · obtain ⟨p, rfl, hp⟩ := Tck hG1 M1.len h3 h4
      rcases Td6 h5 with ⟨rfl, rfl⟩ | ⟨rfl, rfl⟩
      · obtain ⟨q, rfl, hq⟩ := Tck hG0 M0.len h7 h8
        have a1 := (M.lt' k (List.mem_of_getElem? hq)).2
        have a2 := (M1.lt' k (List.mem_of_getElem? hp)).1
        omega
      · obtain ⟨q, rfl, hq⟩ := Tck hG1 M1.len h7 h8
        rw [Ti3 M1.nd' hp hq]
  · rcases Td6 h with ⟨_, h⟩ | ⟨_, h⟩ <;> simp at h
 refine ⟨_, newG g (lmN w g.lm) 1 (revV b' ub' cap' U.length mg' mf' um'), rfl, ⟨hs.bas, hs.below.trans (hb.mono hBw), fun k hk => (Tbf w _ k (by omega)).trans (hs.lm k hk), hH⟩, ?_, hext, hb.size, fun k hk => ?_, fun v1 u1 h1 => ?_⟩
 · have e1 := hG1 0 (by omega)
   rw [Nat.zero_mul, Nat.zero_add] at e1
   show Value.pointer (some ⟨b', 0, none⟩) = _
   rw [e1]; rfl
 · obtain ⟨q1, q2⟩ := hK k hk
   refine ⟨hb.block k q1, Tbf w _ k q1, fun d o x h1 _ h3 h4 => ?_⟩
   rcases Td6 h1 with ⟨rfl, rfl⟩ | ⟨rfl, rfl⟩
   · obtain ⟨p, _, hp⟩ := Tck hG0 M0.len h3 h4
     exact Tfl hG M.len (List.mem_of_getElem? hp) q2
   · obtain ⟨p, _, hp⟩ := Tck hG1 M1.len h3 h4
     have := (M1.lt' k (List.mem_of_getElem? hp)).1
     omega
 · have := SRep.mapr (w' := w') (g' := newG g (lmN w g.lm) 1 (revV b' ub' cap' U.length mg' mf' um')) (h' := get [(0, .mpo U fl G F), (1, .mpo U fl G F)]) (f := fun e => e) hext (fun e _ o ho => by
    obtain ⟨rfl, rfl⟩ := Tdm ho
    exact ⟨.mpo U fl G F, rfl, trivial, hv0'⟩) h1
   rwa [SV.mapr_id (f := fun e => e) (fun _ _ => rfl)] at this
end Go.Proofs.YtjpibniecllafaaGreat.AM
end
section
namespace Go.Proofs.YtjpibniecllafaaGreat.AM
open Go.RowKit
theorem Tww : Callable Tryz.prog 85 := ⟨_, Tryz.func85, by decide +kernel, by kernel_rfl⟩
theorem Twx : Callable Tryz.prog 208 := ⟨_, Tryz.func208, by decide +kernel, by kernel_rfl⟩
theorem Twy : Callable Tryz.prog 86 := ⟨_, Tryz.func86, by decide +kernel, by kernel_rfl⟩
theorem Twz : Callable Tryz.prog 220 := ⟨_, Tryz.func220, by decide +kernel, by kernel_rfl⟩
theorem Tw0 : Callable Tryz.prog 43 := ⟨_, Tryz.func43, by decide +kernel, by kernel_rfl⟩
theorem Tw1 : Callable Tryz.prog 106 := ⟨_, Tryz.func106, by decide +kernel, by kernel_rfl⟩
theorem Tw2 : Callable Tryz.prog 180 := ⟨_, Tryz.func180, by decide +kernel, by kernel_rfl⟩
theorem Tw3 : Callable Tryz.prog 84 := ⟨_, Tryz.func84, by decide +kernel, by kernel_rfl⟩
theorem Tw4 : Callable Tryz.prog 50 := ⟨_, Tryz.func50, by decide +kernel, by kernel_rfl⟩
theorem Tw5 : Callable Tryz.prog 59 := ⟨_, Tryz.func59, by decide +kernel, by kernel_rfl⟩
theorem Tw6 : Callable Tryz.prog 151 := ⟨_, Tryz.func151, by decide +kernel, by kernel_rfl⟩
theorem Tw7 : Callable Tryz.prog 102 := ⟨_, Tryz.func102, by decide +kernel, by kernel_rfl⟩
theorem Tw8 : Callable Tryz.prog 97 := ⟨_, Tryz.func97, by decide +kernel, by kernel_rfl⟩
theorem Tw9 : Callable Tryz.prog 54 := ⟨_, Tryz.func54, by decide +kernel, by kernel_rfl⟩
theorem Txa : Callable Tryz.prog 62 := ⟨_, Tryz.func62, by decide +kernel, by kernel_rfl⟩
theorem Ttt {f : FuncId} {vs : List SV} {h h' : List (Nat × Ob)} {v : SV} (k : SharedOK Tryz.prog f [.hp vs h] v (h ++ h')) : SharedNew Tryz.prog f [.hp vs h] v h' := by
 intro vs' h0 heq
 simp only [List.cons.injEq, PV.hp.injEq, and_true] at heq
 obtain ⟨rfl, rfl⟩ := heq
 exact k
theorem Tkg {F f : FuncId} (hF : F - 2000000 = f) {vs : List SV} {h h' : List (Nat × Ob)} {v : SV} (hc : Callable Tryz.prog f) (k : SharedOK Tryz.prog f [.hp vs h] v (h ++ h')) : CallOK Tryz.prog F [.hp vs h] (.shn v h') ∧ Callable Tryz.prog (realF F (.shn v h')) := by
 rw [Tew, Tgd, hF]
 exact ⟨Ttt k, hc⟩
theorem Tuu {F f : FuncId} (hF : F - 1000000 = f) {args : List PV} {h' : List (Nat × Ob)} {v : SV} (hc : Callable Tryz.prog f) (k : SharedOK Tryz.prog f args v h') : CallOK Tryz.prog F args (.shr v h') ∧ Callable Tryz.prog (realF F (.shr v h')) := by
 rw [Tev, Tgc, hF]
 exact ⟨k, hc⟩
theorem Tof (U : List (List Int)) (fl : Int) (G F : List Int) (g : Int) : ∃ v h', revAdd U fl G F g = .shr v h' := by
 unfold revAdd
 split
 · exact ⟨_, _, rfl⟩
 split
 · exact ⟨_, _, rfl⟩
 · exact ⟨_, _, rfl⟩
theorem Ti4 (U : List (List Int)) (fl : Int) (G F : List Int) (g : Int) : ∃ v h', revToggle U fl G F g = .shr v h' := by
 unfold revToggle
 split
 · exact ⟨_, _, rfl⟩
 split
 · exact ⟨_, _, rfl⟩
 · exact ⟨_, _, rfl⟩
theorem Taw {p : Prop} [Decidable p] {a b : Option Ret} {r : Ret} (h : (if p then a else b) = some r) : (p ∧ a = some r) ∨ (¬ p ∧ b = some r) := by
 by_cases hp : p
 · rw [if_pos hp] at h; exact .inl ⟨hp, h⟩
 · rw [if_neg hp] at h; exact .inr ⟨hp, h⟩
theorem sbok1 : CallOK Tryz.prog 85 [] (.sb 1 145 5) := show SbOK _ 1 _ _ _ from by simpa [SbOK] using sbWrite
theorem sbok3 : CallOK Tryz.prog 208 [] (.sb 3 145 5) := show SbOK _ 3 _ _ _ from by simpa [SbOK] using sbRune
theorem sbok2 : CallOK Tryz.prog 86 [] (.sb 2 145 5) := show SbOK _ 2 _ _ _ from by simpa [SbOK] using sbString
theorem Ta4 {r : Ret} {C : Prop} (h : (none : Option Ret) = some r) : C := by cases h
theorem Teq {x r : Ret} {args : List PV} (h : (match args with | [] => some x | _ => none) = some r) : args = [] ∧ x = r := by
 cases args with
 | nil => exact ⟨rfl, oIj h⟩
 | cons a l => exact Ta4 h
theorem Tg1 {T : TypeId} {args : List PV} {r : Ret} (h : cloneF T args = some r) : ∃ l, args = [.sl 2 l] ∧ (∀ c ∈ l, c.length = 2) ∧ l.length * 16 ≤ 140737488355328 ∧ r = .own T 2 l := by
 unfold cloneF at h
 split at h
 · rename_i l
   rcases Taw h with ⟨hc, h⟩ | ⟨_, h⟩
   · exact ⟨l, rfl, hc.1, hc.2, (oIj h).symm⟩
   · exact Ta4 h
 · exact Ta4 h
theorem Ttu {args : List PV} {r : Ret} (h : (match args with | [.st [x]] => (match allF x with | some l => some (.own 153 1 (l.map fun s => [PV.sc (.string s)])) | none => none) | _ => none) = some r) : ∃ x l, args = [.st [x]] ∧ allF x = some l ∧ r = .own 153 1 (l.map fun s => [PV.sc (.string s)]) := by
 split at h
 · rename_i x
   cases hx : allF x with
   | none => rw [hx] at h; exact Ta4 h
   | some l => rw [hx] at h; exact ⟨x, l, rfl, hx, (oIj h).symm⟩
 · exact Ta4 h
theorem Tog {args : List PV} {r : Ret} (h : revNewF args = some r) : CallOK Tryz.prog 2000050 args r ∧ Callable Tryz.prog (realF 2000050 r) := by
 unfold revNewF at h
 split at h
 · obtain rfl := oIj h
   exact Tkg (f := 50) (by decide) Tw4 Tyd
 · exact Ta4 h
theorem Tll {args : List PV} {r : Ret} (h : revHeadF args = some r) : CallOK Tryz.prog 2000059 args r ∧ Callable Tryz.prog (realF 2000059 r) := by
 unfold revHeadF at h
 split at h
 · obtain rfl := oIj h
   exact Tkg (f := 59) (by decide) Tw5 Twu
 · exact Ta4 h
theorem Tlm {args : List PV} {r : Ret} (h : revLiveF args = some r) : CallOK Tryz.prog 2000151 args r ∧ Callable Tryz.prog (realF 2000151 r) := by
 unfold revLiveF at h
 split at h
 · obtain rfl := oIj h
   exact Tkg (f := 151) (by decide) Tw6 (Twv _)
 · exact Ta4 h
theorem Ti5 {args : List PV} {r : Ret} (h : revUndoneF args = some r) : CallOK Tryz.prog 2000102 args r ∧ Callable Tryz.prog (realF 2000102 r) := by
 unfold revUndoneF at h
 split at h
 · obtain rfl := oIj h
   exact Tkg (f := 102) (by decide) Tw7 (Tq0 _)
 · exact Ta4 h
theorem Tln {args : List PV} {r : Ret} (h : revCopyF args = some r) : CallOK Tryz.prog 2000097 args r ∧ Callable Tryz.prog (realF 2000097 r) := by
 unfold revCopyF at h
 split at h
 · obtain rfl := oIj h
   exact Tkg (f := 97) (by decide) Tw8 Tts
 · exact Ta4 h
theorem Toh {args : List PV} {r : Ret} (h : revAddF args = some r) : CallOK Tryz.prog 1000054 args r ∧ Callable Tryz.prog (realF 1000054 r) := by
 unfold revAddF at h
 split at h
 · rename_i g U fl G F
   rcases Taw h with ⟨hg, h⟩ | ⟨_, h⟩
   · obtain rfl := oIj h
     obtain ⟨v, h', e⟩ := Tof U fl G F g
     rw [e]
     exact Tuu (f := 54) (by decide) Tw9 (Tyc g hg v h' e)
   · exact Ta4 h
 · exact Ta4 h
theorem Ti6 {args : List PV} {r : Ret} (h : revToggleF args = some r) : CallOK Tryz.prog 1000062 args r ∧ Callable Tryz.prog (realF 1000062 r) := by
 unfold revToggleF at h
 split at h
 · rename_i g U fl G F
   rcases Taw h with ⟨hg, h⟩ | ⟨_, h⟩
   · obtain rfl := oIj h
     obtain ⟨v, h', e⟩ := Ti4 U fl G F g
     rw [e]
     exact Tuu (f := 62) (by decide) Txa (Tq2 g hg v h' e)
   · exact Ta4 h
 · exact Ta4 h
theorem envOk (cp : List PV → Option Ret) (hcp : ∀ f args r, cp (.fn f [] :: args) = some r → CallOK Tryz.prog f args r ∧ Callable Tryz.prog (realF f r)) : EnvOk Tryz.prog (EX cp) := by
 refine ⟨mixed, okPrg, ?_⟩
 intro f args r he hr
 change extF cp f args = some r at hr
 unfold extF at hr
 rcases Taw hr with ⟨rfl, hr⟩ | ⟨_, hr⟩
 · obtain ⟨rfl, rfl⟩ := Teq hr
   exact ⟨sbok1, Tww⟩
 rcases Taw hr with ⟨rfl, hr⟩ | ⟨_, hr⟩
 · obtain ⟨rfl, rfl⟩ := Teq hr
   exact ⟨sbok3, Twx⟩
 rcases Taw hr with ⟨rfl, hr⟩ | ⟨_, hr⟩
 · obtain ⟨rfl, rfl⟩ := Teq hr
   exact ⟨sbok2, Twy⟩
 rcases Taw hr with ⟨rfl, hr⟩ | ⟨_, hr⟩
 · obtain ⟨rfl, rfl⟩ := Teq hr
   exact ⟨Ttj, Twz⟩
 rcases Taw hr with ⟨rfl, hr⟩ | ⟨_, hr⟩
 · obtain ⟨l, rfl, h1, h2, rfl⟩ := Tg1 hr
   exact ⟨Tti _ h1 h2, Tw1⟩
 rcases Taw hr with ⟨rfl, hr⟩ | ⟨_, hr⟩
 · obtain ⟨l, rfl, h1, h2, rfl⟩ := Tg1 hr
   exact ⟨Tqu _ h1 h2, Tw2⟩
 rcases Taw hr with ⟨rfl, hr⟩ | ⟨_, hr⟩
 · obtain ⟨rfl, rfl⟩ := Teq hr
   exact ⟨Ttk, Tw0⟩
 rcases Taw hr with ⟨rfl, hr⟩ | ⟨_, hr⟩
 · obtain ⟨x, l, rfl, hl, rfl⟩ := Ttu hr
   exact ⟨Twq x l hl, Tw3⟩
 rcases Taw hr with ⟨_, hr⟩ | ⟨_, hr⟩
 · exact hcp _ _ _ hr
 rcases Taw hr with ⟨_, hr⟩ | ⟨_, hr⟩
 · exact hcp _ _ _ hr
 rcases Taw hr with ⟨_, hr⟩ | ⟨_, hr⟩
 · exact hcp _ _ _ hr
 rcases Taw hr with ⟨rfl, hr⟩ | ⟨_, hr⟩
 · exact Tog hr
 rcases Taw hr with ⟨rfl, hr⟩ | ⟨_, hr⟩
 · exact Tll hr
 rcases Taw hr with ⟨rfl, hr⟩ | ⟨_, hr⟩
 · exact Tlm hr
 rcases Taw hr with ⟨rfl, hr⟩ | ⟨_, hr⟩
 · exact Ti5 hr
 rcases Taw hr with ⟨rfl, hr⟩ | ⟨_, hr⟩
 · exact Tln hr
 rcases Taw hr with ⟨rfl, hr⟩ | ⟨_, hr⟩
 · exact Toh hr
 rcases Taw hr with ⟨rfl, hr⟩ | ⟨_, hr⟩
 · exact Ti6 hr
 rcases Taw hr with ⟨_, hr⟩ | ⟨_, hr⟩
 · exact hcp _ _ _ hr
 · exact Ta4 hr
def EV : Env := EX fun _ => none
theorem EVok : EnvOk Tryz.prog EV := envOk _ fun _ _ _ h => by cases h
end Go.Proofs.YtjpibniecllafaaGreat.AM
end
section
namespace Go.Proofs.YtjpibniecllafaaGreat.AM
open Go Go.Proofs.YtjpibniecllafaaGreat.U
structure Ch where
 f : Int
 t : Int
 s : ByteArray
 deriving DecidableEq
def Ch.pv (c : Ch) : List PV := [pi c.f, pi c.t, .sc (.string c.s)]
def chs (l : List Ch) : List (List PV) := l.map Ch.pv
@[simp] theorem Tg2 (l : List Ch) : (chs l).length = l.length := by simp [chs]
@[simp] theorem Ty6 : chs [] = [] := rfl
theorem Tbs (l : List Ch) (n : Nat) (h : n < l.length) : (chs l)[n]? = some l[n].pv := by simp [chs, List.getElem?_eq_getElem h]
def inI (n : Int) : Prop := -9223372036854775808 ≤ n ∧ n ≤ 9223372036854775807
def Ch.wf (c : Ch) : Prop := inI c.f ∧ inI c.t ∧ c.s.size ≤ 9223372036854775807
theorem Tq3 : ∀ {l : List (List PV)}, WTR [.i .i64, .i .i64, .tx] l → ∃ cs : List Ch, l = chs cs ∧ ∀ c ∈ cs, c.wf
 | _, .nil => ⟨[], rfl, by simp⟩
 | _, .cons hc hl => by
  obtain ⟨cs, rfl, hs⟩ := Tq3 hl
  cases hc with
  | cons h1 hc => cases hc with
  | cons h2 hc => cases hc with
  | cons h3 hc =>
   cases hc
   obtain ⟨a, rfl, ha⟩ := Tuq h1
   obtain ⟨b, rfl, hb⟩ := Tuq h2
   obtain ⟨t, rfl, ht⟩ := wt_tx h3
   refine ⟨⟨a, b, t⟩ :: cs, rfl, fun x hx => ?_⟩
   rcases List.mem_cons.1 hx with rfl | hx
   · exact ⟨ha, hb, ht⟩
   · exact hs x hx
end Go.Proofs.YtjpibniecllafaaGreat.AM
end
