/- strings.Builder on the small machine: an object of two cells, of which the second has its bytes alone. No condition. -/
import Derived.Test.YtihgpnfkadldeaaAMD
import Derived.Lib.RuneBytes
namespace Go.Proofs.Ytihgpnfkadldeaa.AM
open Go Go.RowKit
set_option linter.unusedVariables false
set_option linter.unusedSimpArgs false

/-- What (*strings.Builder).WriteString does. -/
def SbWrite (P : Program) (T e : TypeId) (f : FuncId) : Prop :=
  ∀ (B b : Nat) (p v : Value) (bs : List Value) (t : ByteArray) (w : World), B ≤ b → B ≤ w.heap.size → (p = .pointer none ∨ p = .pointer (some ⟨b, 0, none⟩)) → w.heap[b]? = some (.cells #[p, v] T (0, 0)) → w.ownsRow B e 1 v bs.length bs → blk v ≠ some b → bs.length + t.size ≤ maxBytes →
    Calls P f #[.pointer (some ⟨b, 0, none⟩), .string t] w fun x w' => x = .returned (.tuple #[.int .i64 t.size, .nilIface]) ∧ ∃ v', w'.heap[b]? = some (.cells #[.pointer (some ⟨b, 0, none⟩), v'] T (0, 0)) ∧ w'.ownsRow B e 1 v' (bs.length + t.size) (bs ++ t.data.toList.map fun c => Value.int .u8 c.toNat) ∧ (blk v' = blk v ∨ ∃ c, blk v' = some c ∧ w.heap.size ≤ c) ∧ Below B w w' ∧ ∀ k, k < w.heap.size → k ≠ b → blk v ≠ some k → w'.heap[k]? = w.heap[k]?
/-- What (*strings.Builder).WriteRune does. -/
def SbRune (P : Program) (T e : TypeId) (f : FuncId) : Prop :=
  ∀ (B b : Nat) (p v : Value) (bs : List Value) (r : Int) (w : World), -2147483648 ≤ r → r ≤ 2147483647 → B ≤ b → B ≤ w.heap.size → (p = .pointer none ∨ p = .pointer (some ⟨b, 0, none⟩)) → w.heap[b]? = some (.cells #[p, v] T (0, 0)) → w.ownsRow B e 1 v bs.length bs → blk v ≠ some b → bs.length + 4 ≤ maxBytes →
    Calls P f #[.pointer (some ⟨b, 0, none⟩), .int .i32 r] w fun x w' => x = .returned (.tuple #[.int .i64 (Lib.runeCells r).length, .nilIface]) ∧ ∃ v', w'.heap[b]? = some (.cells #[.pointer (some ⟨b, 0, none⟩), v'] T (0, 0)) ∧ w'.ownsRow B e 1 v' (bs.length + (Lib.runeCells r).length) (bs ++ Lib.runeCells r) ∧ (blk v' = blk v ∨ ∃ c, blk v' = some c ∧ w.heap.size ≤ c) ∧ Below B w w' ∧ ∀ k, k < w.heap.size → k ≠ b → blk v ≠ some k → w'.heap[k]? = w.heap[k]?
/-- The same of both. -/
def SbPut (P : Program) (T e : TypeId) (f : FuncId) (u : Value) (cs : List Value) : Prop :=
  ∀ (B b : Nat) (p v : Value) (bs : List Value) (w : World), B ≤ b → B ≤ w.heap.size → (p = .pointer none ∨ p = .pointer (some ⟨b, 0, none⟩)) → w.heap[b]? = some (.cells #[p, v] T (0, 0)) → w.ownsRow B e 1 v bs.length bs → blk v ≠ some b → bs.length + cs.length + 4 ≤ maxBytes →
    Calls P f #[.pointer (some ⟨b, 0, none⟩), u] w fun x w' => x = .returned (.tuple #[.int .i64 cs.length, .nilIface]) ∧ ∃ v', w'.heap[b]? = some (.cells #[.pointer (some ⟨b, 0, none⟩), v'] T (0, 0)) ∧ w'.ownsRow B e 1 v' (bs.length + cs.length) (bs ++ cs) ∧ (blk v' = blk v ∨ ∃ c, blk v' = some c ∧ w.heap.size ≤ c) ∧ Below B w w' ∧ ∀ k, k < w.heap.size → k ≠ b → blk v ≠ some k → w'.heap[k]? = w.heap[k]?
theorem SbWrite.put {P : Program} {T e : TypeId} {f : FuncId} (h : SbWrite P T e f) (t : ByteArray) : SbPut P T e f (.string t) (t.data.toList.map fun c => Value.int .u8 c.toNat) := by
  intro B b p v bs w h1 h2 h3 h4 h5 h6 h7
  have hl : (t.data.toList.map fun c => Value.int .u8 c.toNat).length = t.size := by simp
  rw [hl] at h7 ⊢
  exact h B b p v bs t w h1 h2 h3 h4 h5 h6 (by omega)
theorem SbRune.put {P : Program} {T e : TypeId} {f : FuncId} (h : SbRune P T e f) (r : Int) (r0 : -2147483648 ≤ r) (r1 : r ≤ 2147483647) : SbPut P T e f (.int .i32 r) ((Lib.encodeRune r).map fun c => Value.int .u8 c.toNat) := by
  intro B b p v bs w h1 h2 h3 h4 h5 h6 h7
  have hl : ((Lib.encodeRune r).map fun c => Value.int .u8 c.toNat) = Lib.runeCells r := Lib.byteCells_encodeRune r
  rw [hl] at h7 ⊢
  exact h B b p v bs r w r0 r1 h1 h2 h3 h4 h5 h6 (by omega)
/-- What (*strings.Builder).String does. -/
def SbString (P : Program) (T e : TypeId) (f : FuncId) : Prop :=
  ∀ (B b : Nat) (p v : Value) (l : List UInt8) (w : World), B ≤ b → B ≤ w.heap.size → (p = .pointer none ∨ p = .pointer (some ⟨b, 0, none⟩)) → w.heap[b]? = some (.cells #[p, v] T (0, 0)) → w.ownsRow B e 1 v l.length (l.map fun c => Value.int .u8 c.toNat) → blk v ≠ some b →
    Calls P f #[.pointer (some ⟨b, 0, none⟩)] w fun x w' => x = .returned (.string ⟨l.toArray⟩) ∧ Below B w w' ∧ ∀ k, k < w.heap.size → blk v ≠ some k → w'.heap[k]? = w.heap[k]?

theorem ids_sb {d T e x : Nat} {l : List (List PV)} : Ids d (.dp T 2 (sbRow e l)) x ↔ x = d ∨ x = nid d 1 := by
  constructor
  · rintro (h | ⟨_, _, _, p, e', k', l', ho, hp, hk, rfl⟩)
    · exact .inl h
    · simp only [Ob.dp.injEq] at ho
      obtain ⟨rfl, rfl, rfl⟩ := ho
      match p with
      | 0 => simp [sbRow] at hp; omega
      | 1 => exact .inr rfl
      | p + 2 => simp [sbRow] at hp
  · rintro (h | h)
    · exact .inl h
    · exact .inr ⟨T, 2, sbRow e l, 1, e, 1, l, rfl, by simp [sbRow], by omega, h⟩

theorem owns_one {w : World} {base e n : Nat} {v : Value} {xs : List Value} {k : Nat} (h : w.ownsRow base e k v n xs) : v.oneCell' = true := by
  rcases h.2 with ⟨rfl, _⟩ | ⟨_, _, _, rfl, _⟩ <;> rfl

theorem orep_sb_mk {w : World} {g : Gs} {base d T e b : Nat} {p v : Value} {l : List (List PV)} (hv : g.v d = .slice (some ⟨b, 0, none⟩) 1 1) (hbb : base ≤ b) (hg : w.heap[b]? = some (.cells #[p, v] T (0, 0))) (hp : p = .pointer none ∨ p = .pointer (some ⟨b, 0, none⟩)) (hn : g.v (nid d 1) = v) (hR : RowR w g base (nid d 1) e 1 l) (hlm : g.lm b = 0) :
    ORep w g base d (.dp T 2 (sbRow e l)) := by
  have hR' := hR
  obtain ⟨r1, r2, ⟨ys, r3, r4, r5⟩, r6⟩ := hR
  rw [hn] at r3
  have hp1 : p.oneCell' = true := by rcases hp with rfl | rfl <;> rfl
  refine ⟨by omega, by simp [sbRow], ⟨[p, v], ?_, ?_, ?_, ?_⟩, ?_, ?_⟩
  · refine ⟨rfl, .inr ⟨b, 1, #[p, v], hv, hbb, hg, Nat.le_refl _, by decide, rfl, rfl⟩⟩
  · exact .cons .ow (.cons .ow .nil)
  · intro u hu
    simp at hu
    rcases hu with rfl | rfl
    · exact hp1
    · exact owns_one r3
  · intro q e' k' l' hq hk
    match q with
    | 0 => simp [sbRow] at hq; omega
    | 1 =>
      simp [sbRow] at hq
      obtain ⟨rfl, rfl, rfl⟩ := hq
      exact ⟨by simp [hn], hR'⟩
    | q + 2 => simp [sbRow] at hq
  · intro b' hb'
    rw [hv] at hb'
    simp [blk] at hb'
    rw [← hb']; exact hlm
  · intro q hq
    match q with
    | 0 =>
      refine ⟨b, hv, ?_⟩
      rw [cell_of_row w b 0 _ T (0, 0) hg]
      rcases hp with rfl | rfl
      · exact .inl rfl
      · exact .inr rfl
    | 1 => simp [sbRow] at hq
    | q + 2 => simp [sbRow] at hq

theorem orep_sb {w : World} {g : Gs} {base d T e : Nat} {l : List (List PV)} (h : ORep w g base d (.dp T 2 (sbRow e l))) :
    ∃ b p v, g.v d = .slice (some ⟨b, 0, none⟩) 1 1 ∧ base ≤ b ∧ w.heap[b]? = some (.cells #[p, v] T (0, 0)) ∧ (p = .pointer none ∨ p = .pointer (some ⟨b, 0, none⟩)) ∧ g.v (nid d 1) = v ∧ RowR w g base (nid d 1) e 1 l ∧ g.lm b = 0 := by
  obtain ⟨h1, h2, ⟨xs, h3, h4, h5, h7⟩, h6, h8⟩ := h
  obtain ⟨b, hv, hp⟩ := h8 0 (by simp [sbRow])
  have hv : g.v d = .slice (some ⟨b, 0, none⟩) 1 1 := hv
  obtain ⟨q1, q2⟩ := h7 1 e 1 l (by simp [sbRow]) (by omega)
  rcases h3.2 with ⟨h, _⟩ | ⟨b', cap, cur, h, hb, hg, _, _, hs, ht⟩
  · rw [hv] at h; simp at h
  · rw [hv] at h
    simp only [Value.slice.injEq, Option.some.injEq, Addr.mk.injEq, and_true] at h
    obtain ⟨rfl, _, rfl⟩ := h
    have hl : (sbRow e l).length = 1 := rfl
    rw [hl] at ht
    have hcl : cur.toList.length = 2 := by simpa using hs
    rw [List.take_of_length_le (by omega)] at ht
    have hc0 := cell_of_row w b 0 cur T (0, 0) hg
    match xs, ht, q1 with
    | [x0, x1], ht, q1 =>
      simp at q1
      subst q1
      have hcur : cur = #[x0, g.v (nid d 1)] := by apply Array.ext'; rw [ht]
      subst hcur
      refine ⟨b, x0, _, hv, hb, hg, ?_, rfl, q2, h6 b (by rw [hv]; rfl)⟩
      rw [hc0] at hp
      simpa using hp
    | [], ht, q1 => simp at q1
    | [x0], ht, q1 => simp at q1
    | _ :: _ :: _ :: _, ht, q1 => rw [ht] at hcl; simp at hcl

theorem unRow_eq {r : List (List PV)} {e : TypeId} {l : List (List PV)} (h : unRow r = some (e, l)) : r = sbRow e l := by
  unfold unRow at h
  split at h
  · split at h
    · rename_i hc
      obtain ⟨rfl, rfl, rfl⟩ := hc
      simp only [Option.some.injEq, Prod.mk.injEq] at h
      obtain ⟨rfl, rfl⟩ := h
      rfl
    · simp at h
  · simp at h

section
variable {P : Program} {base : Nat} {w0 : World} {lm0 : Nat → Nat} {N : Nat} {g : Gs} {a : Act} {w : World} {s : St} {o : Oper}

theorem eff_sbn (S : Sim base w0 lm0 N g a w s) {T e : TypeId} {z : Value} {call : Call} {d : Nat} {r : Eff} (ho : o.op = .alloc T) (hz : (P.info? T).bind (·.zero) = some z) (hzc : z.cells = #[.pointer none, .slice none 0 0])
    (he : eff call s d (.sbn T e) = some r) : EffOK P base w0 lm0 N g a w s o r := by
  simp only [eff] at he
  cases hid : newId s.h d with
  | none => rw [hid] at he; simp at he
  | some id =>
    rw [hid] at he
    simp only [Option.some.injEq] at he
    subst he
    have hidl := newId_lt hid
    have hnn : nid id 1 ≠ id := fun h => by have := nid_ge id 1; omega
    let v' : Nat → Value := upd (upd g.v id (.slice (some ⟨w.heap.size, 0, none⟩) 1 1)) (nid id 1) (.slice none 0 0)
    have v1 : v' id = .slice (some ⟨w.heap.size, 0, none⟩) 1 1 := by simp only [v']; rw [upd_ne _ (Ne.symm hnn), upd_same]
    have v2 : v' (nid id 1) = .slice none 0 0 := upd_same _ _ _
    have hl : ∀ b, b < w.heap.size → upd g.lm w.heap.size 0 b = g.lm b := fun b h => upd_ne _ (by omega) _
    have ho2 : ORep (w.alloc (.cells z.cells T)) ⟨upd g.lm w.heap.size 0, v'⟩ base id (.dp T 2 (sbRow e [])) := by
      refine orep_sb_mk (b := w.heap.size) (p := .pointer none) (v := .slice none 0 0) v1 S.bw ?_ (.inl rfl) v2 ⟨by omega, by simp, ⟨[], ⟨rfl, .inl ⟨v2, rfl⟩⟩, .nil, by simp⟩, fun b hb => by dsimp only at hb; rw [v2] at hb; simp [blk] at hb⟩ (upd_same _ _ _)
      rw [hzc]; simp only [World.alloc]; exact Array.getElem?_push_size
    obtain ⟨S2, T2⟩ := S.newG (id := id) (newId_none hid) hidl (w' := w.alloc (.cells z.cells T)) (lm' := upd g.lm w.heap.size 0) (v' := v') (o := .dp T 2 (sbRow e [])) (below_alloc' w _) hl
      (fun x hx => by
        have h1 : x ≠ nid id 1 := fun h => hx (by rw [h]; unfold nid; omega)
        have h2 : x ≠ id := fun h => hx (by rw [h]; omega)
        simp only [v']; rw [upd_ne _ h1, upd_ne _ h2])
      (fun x b hi hb => by
        rcases ids_sb.1 hi with rfl | rfl
        · rw [v1] at hb; simp [blk] at hb; omega
        · rw [v2] at hb; simp [blk] at hb)
      ⟨fun _ => id, fun x b hi hb => by
        rcases ids_sb.1 hi with rfl | rfl
        · rfl
        · rw [v2] at hb; simp [blk] at hb⟩ ho2
    refine EffOK.mk' (u := .pointer (some ⟨w.heap.size, 0, none⟩)) rfl ?_ S2 ?_
    · simp [execOp, ho, Instr.alloc, run_zero hz, newVar, Go.newRow]
    · show SRep _ _ (get (AM.put s.h id (.dp T 2 (sbRow e [])))) _ _
      simp only [SRep, get_put_same]
      exact ⟨w.heap.size, by rw [v1]; rfl, by simp⟩

theorem Sim.sbw (S : Sim base w0 lm0 N g a w s) {d T e : Nat} {l : List (List PV)} (hd : get s.h d = some (.dp T 2 (sbRow e l))) {b : Nat} {p v : Value} (hv : g.v d = .slice (some ⟨b, 0, none⟩) 1 1) (hbb : base ≤ b) (hg : w.heap[b]? = some (.cells #[p, v] T (0, 0)))
    (hn : g.v (nid d 1) = v) (hR : RowR w g base (nid d 1) e 1 l) (hlm : g.lm b = 0) {w' : World} {v' : Value} {bs : List UInt8} {xs : List Value} (hrep : RepL w g.lm l.flatten xs) (hone : ∀ u ∈ xs, u.oneCell' = true)
    (q1 : w'.heap[b]? = some (.cells #[.pointer (some ⟨b, 0, none⟩), v'] T (0, 0))) (q2 : w'.ownsRow base e 1 v' (l.length + bs.length) (xs ++ bs.map fun c => Value.int .u8 c.toNat)) (q3 : blk v' = blk v ∨ ∃ c, blk v' = some c ∧ w.heap.size ≤ c) (q4 : Below base w w') (q5 : ∀ k, k < w.heap.size → k ≠ b → blk v ≠ some k → w'.heap[k]? = w.heap[k]?) :
    ∃ g', Sim base w0 lm0 N g' a w' ⟨s.t, AM.put s.h d (.dp T 2 (sbRow e (l ++ bRows bs)))⟩ := by
  obtain ⟨r1, r2, _, r6⟩ := hR
  rw [hn] at r6
  have hdl := S.lt _ _ hd
  have hnn : d ≠ nid d 1 := fun h => by have := nid_ge d 1; omega
  have hblt : b < w.heap.size := (Array.getElem?_eq_some_iff.1 hg).1
  have bd : blk (g.v d) = some b := by rw [hv]; rfl
  obtain ⟨own, hap⟩ := S.ap
  let lm' : Nat → Nat := fun b => if w.heap.size ≤ b then 0 else g.lm b
  have hlm' : ∀ b, b < w.heap.size → lm' b = g.lm b := fun b h => if_neg (by omega)
  let gv : Nat → Value := upd g.v (nid d 1) v'
  have g1 : gv d = .slice (some ⟨b, 0, none⟩) 1 1 := by simp only [gv]; rw [upd_ne _ hnn]; exact hv
  have g2 : gv (nid d 1) = v' := upd_same _ _ _
  have hbl : ∀ k, k < w.heap.size → k ≠ b → blk v ≠ some k → w'.heap[k]? = w.heap[k]? ∧ lm' k = g.lm k := fun k h1 h2 h3 => ⟨q5 k h1 h2 h3, hlm' k h1⟩
  have hext : Ext w g.lm w' lm' := by
    intro b2 o2 u hc ho2
    have hlt := cell_lt hc
    have e1 : b2 ≠ b := fun e => by rw [e, hlm] at ho2; omega
    have e2 : blk v ≠ some b2 := fun e => by rw [r6 b2 e] at ho2; omega
    obtain ⟨z1, z2⟩ := hbl b2 hlt e1 e2
    exact ⟨(World.cell?_of_block (a := ⟨b2, o2, none⟩) z1).trans hc, by rw [z2]; exact ho2⟩
  have hnew : ORep w' ⟨lm', gv⟩ base d (.dp T 2 (sbRow e (l ++ bRows bs))) := by
    have hlen : (l ++ bRows bs).length = l.length + bs.length := by simp [bRows]
    refine orep_sb_mk g1 hbb q1 (.inr rfl) g2 ⟨by omega, ?_, ⟨_, by dsimp only; rw [g2, hlen]; exact q2, ?_, ?_⟩, ?_⟩ (by show lm' b = 0; rw [hlm' b hblt]; exact hlm)
    · intro c hc
      rcases List.mem_append.1 hc with h | h
      · exact r2 c h
      · obtain ⟨_, _, rfl⟩ := List.mem_map.1 h; rfl
    · rw [List.flatten_append]
      exact (hrep.ext hext).append (rep_bytes _)
    · intro u hu
      rcases List.mem_append.1 hu with h | h
      · exact hone u h
      · obtain ⟨_, _, rfl⟩ := List.mem_map.1 h; rfl
    · intro b2 hb2
      dsimp only at hb2 ⊢
      rw [g2] at hb2
      rcases q3 with h | ⟨c, h, hc⟩
      · rw [h] at hb2
        have := r6 b2 hb2
        show (if _ then _ else _) = 0
        split
        · rfl
        · exact this
      · rw [h] at hb2
        obtain rfl := Option.some.inj hb2
        exact if_pos hc
  have hnx : ∀ {d1 o1 x}, get s.h d1 = some o1 → d ≠ d1 → Ids d1 o1 x → x ≠ nid d 1 := fun h1 hne hi e => by
    have := hi.mod (S.lt _ _ h1)
    rw [e] at this
    exact hne (by rw [← this]; unfold nid; omega)
  obtain ⟨S2, _⟩ := S.dput hd rfl (w' := w') (lm' := lm') (v' := gv) (o' := .dp T 2 (sbRow e (l ++ bRows bs))) ⟨rfl, rfl⟩ (g1.trans hv.symm) (fun x hx => upd_ne _ (fun e => hx (by rw [e]; unfold nid; omega)) _) hext q4
    (fun b2 hb2 hlt => hbl b2 hlt (fun e => hb2 d (.self _ _) (by rw [e]; exact bd)) (fun e => hb2 (nid d 1) (ids_sb.2 (.inr rfl)) (by rw [hn]; exact e))) hnew
    ⟨fun b2 => if w.heap.size ≤ b2 then nid d 1 else own b2, fun d1 o1 x b2 h1 l1 hi hb1 => by
      dsimp only
      by_cases e1 : d = d1
      · subst e1
        rw [get_put_same] at h1
        obtain rfl := Option.some.inj h1
        rcases ids_sb.1 hi with rfl | rfl
        · rw [g1] at hb1
          simp [blk] at hb1
          subst hb1
          rw [if_neg (by omega)]
          exact hap _ _ _ _ hd rfl (.self _ _) bd
        · rw [g2] at hb1
          rcases q3 with h | ⟨c, h, hc⟩
          · rw [h] at hb1
            have hb1' : blk (g.v (nid d 1)) = some b2 := by rw [hn]; exact hb1
            have := ((S.ob _ _ hd).blockI rfl (ids_sb.2 (.inr rfl)) hb1').2
            rw [if_neg (by omega)]
            exact hap _ _ _ _ hd rfl (ids_sb.2 (.inr rfl)) hb1'
          · rw [h] at hb1
            obtain rfl := Option.some.inj hb1
            exact if_pos hc
      · rw [get_put_ne _ e1] at h1
        have hx := hnx h1 e1 hi
        simp only [gv] at hb1
        rw [upd_ne _ hx] at hb1
        have := ((S.ob _ _ h1).blockI l1 hi hb1).2
        rw [if_neg (by omega)]
        exact hap _ _ _ _ h1 l1 hi hb1⟩
  exact ⟨_, S2⟩

theorem Sim.sbs (S : Sim base w0 lm0 N g a w s) {d T e : Nat} {l : List (List PV)} (hd : get s.h d = some (.dp T 2 (sbRow e l))) {v : Value} (hn : g.v (nid d 1) = v) (hR : RowR w g base (nid d 1) e 1 l) {w' : World}
    (q4 : Below base w w') (q5 : ∀ k, k < w.heap.size → blk v ≠ some k → w'.heap[k]? = w.heap[k]?) : Sim base w0 lm0 N g a w' ⟨s.t, AM.put s.h d .dead⟩ := by
  obtain ⟨_, _, _, r6⟩ := hR
  rw [hn] at r6
  have hext : Ext w g.lm w' g.lm := by
    intro b2 o2 u hc ho2
    have hlt := cell_lt hc
    have e2 : blk v ≠ some b2 := fun e => by rw [r6 b2 e] at ho2; omega
    exact ⟨(World.cell?_of_block (a := ⟨b2, o2, none⟩) (q5 b2 hlt e2)).trans hc, ho2⟩
  have T : Tr w g (get s.h) w' g (get (AM.put s.h d .dead)) := ⟨hext, fun d1 o1 h1 => by
    by_cases e : d = d1
    · exact .inl (by rw [← e, get_put_same])
    · exact .inr ⟨rfl, o1, by rw [get_put_ne _ e]; exact h1, Shp.refl _⟩⟩
  refine S.turn T q4 (fun _ _ => rfl) (fun d1 o1 h1 => ?_) (fun d1 o1 h1 => ?_) ?_
  · by_cases e : d = d1
    · subst e
      rw [get_put_same] at h1
      obtain rfl := Option.some.inj h1
      trivial
    · rw [get_put_ne _ e] at h1
      refine (S.ob _ _ h1).keep (fun _ _ => rfl) hext fun hl x hi b hb => ⟨q5 b ((S.ob _ _ h1).blockI hl hi hb).2 fun e2 => ?_, rfl⟩
      exact S.far h1 hd hl rfl hi (ids_sb.2 (.inr rfl)) (S.ne h1 hd (Ne.symm e) hi (ids_sb.2 (.inr rfl))) hb (by rw [hn]; exact e2)
  · by_cases e : d = d1
    · subst e; exact S.lt _ _ hd
    · rw [get_put_ne _ e] at h1; exact S.lt _ _ h1
  · obtain ⟨own, hap⟩ := S.ap
    refine ⟨own, fun d1 o1 x b h1 l1 hi hb => ?_⟩
    by_cases e : d = d1
    · subst e
      rw [get_put_same] at h1
      obtain rfl := Option.some.inj h1
      simp [Ob.live] at l1
    · rw [get_put_ne _ e] at h1
      exact hap d1 o1 x b h1 l1 hi hb
end
end Go.Proofs.Ytihgpnfkadldeaa.AM
