/- MADE BY sync2.py: AMB, AMC, AM14, AMK, AM15, one behind the other. No condition but what they say. -/
import Derived.Test.YtomnggbideepeaaQ3
import Derived.Lib.RuneBytes
import GoSem.Dispatch
import Derived.Below
section
/- strings.Builder on the small machine: an object of two cells, of which the second has its bytes alone. No condition. -/
namespace Go.Proofs.Ytomnggbideepeaa.AM
open Go Go.RowKit
set_option linter.unusedVariables false
set_option linter.unusedSimpArgs false

/-- What (*strings.Builder).WriteString does. -/
def SbWrite (P : Program) (T e : TypeId) (f : FuncId) : Prop :=
  ∀ (B b : Nat) (p v : Value) (bs : List Value) (t : ByteArray) (w : World), B ≤ b → B ≤ w.heap.size → (p = .pointer none ∨ p = .pointer (some ⟨b, 0, none⟩)) → w.heap[b]? = some (.cells #[p, v] T (0, 0)) → w.ownsRow B e 1 v bs.length bs → blk v ≠ some b → bs.length + t.size ≤ maxBytes →
    Calls P f #[.pointer (some ⟨b, 0, none⟩), .string t] w fun x w' => x = .returned (.tuple #[.int .i64 t.size, .nilIface]) ∧ ∃ v', w'.heap[b]? = some (.cells #[.pointer (some ⟨b, 0, none⟩), v'] T (0, 0)) ∧ w'.ownsRow B e 1 v' (bs.length + t.size) (bs ++ t.data.toList.map fun c => Value.int .u8 c.toNat) ∧ (blk v' = blk v ∨ ∃ c, blk v' = some c ∧ w.heap.size ≤ c) ∧ Below B w w' ∧ ∀ k, k < w.heap.size → k ≠ b → blk v ≠ some k → w'.heap[k]? = w.heap[k]?
/-- What (*strings.Builder).WriteRune does. -/
def SbRune (P : Program) (T e : TypeId) (f : FuncId) : Prop :=
  ∀ (B b : Nat) (p v : Value) (bs : List Value) (r : Int) (w : World), -2147483648 ≤ r → r ≤ 2147483647 → B ≤ b → B ≤ w.heap.size → (p = .pointer none ∨ p = .pointer (some ⟨b, 0, none⟩)) → w.heap[b]? = some (.cells #[p, v] T (0, 0)) → w.ownsRow B e 1 v bs.length bs → blk v ≠ some b → bs.length + 4 ≤ maxBytes →
    Calls P f #[.pointer (some ⟨b, 0, none⟩), .int .i32 r] w fun x w' => x = .returned (.tuple #[.int .i64 (Lib.runeCells r).length, .nilIface]) ∧ ∃ v', w'.heap[b]? = some (.cells #[.pointer (some ⟨b, 0, none⟩), v'] T (0, 0)) ∧ w'.ownsRow B e 1 v' (bs.length + (Lib.runeCells r).length) (bs ++ Lib.runeCells r) ∧ (blk v' = blk v ∨ ∃ c, blk v' = some c ∧ w.heap.size ≤ c) ∧ Below B w w' ∧ ∀ k, k < w.heap.size → k ≠ b → blk v ≠ some k → w'.heap[k]? = w.heap[k]?
/-- The same of both. -/
def SbPut (P : Program) (T e : TypeId) (f : FuncId) (u : Value) (cs : List Value) : Prop :=
  ∀ (B b : Nat) (p v : Value) (bs : List Value) (w : World), B ≤ b → B ≤ w.heap.size → (p = .pointer none ∨ p = .pointer (some ⟨b, 0, none⟩)) → w.heap[b]? = some (.cells #[p, v] T (0, 0)) → w.ownsRow B e 1 v bs.length bs → blk v ≠ some b → bs.length + cs.length + 4 ≤ maxBytes →
    Calls P f #[.pointer (some ⟨b, 0, none⟩), u] w fun x w' => x = .returned (.tuple #[.int .i64 cs.length, .nilIface]) ∧ ∃ v', w'.heap[b]? = some (.cells #[.pointer (some ⟨b, 0, none⟩), v'] T (0, 0)) ∧ w'.ownsRow B e 1 v' (bs.length + cs.length) (bs ++ cs) ∧ (blk v' = blk v ∨ ∃ c, blk v' = some c ∧ w.heap.size ≤ c) ∧ Below B w w' ∧ ∀ k, k < w.heap.size → k ≠ b → blk v ≠ some k → w'.heap[k]? = w.heap[k]?
theorem SbWrite.put {P : Program} {T e : TypeId} {f : FuncId} (h : SbWrite P T e f) (t : ByteArray) : SbPut P T e f (.string t) (t.data.toList.map fun c => Value.int .u8 c.toNat) := by
  intro B b p v bs w h1 h2 h3 h4 h5 h6 h7
  have hl : (t.data.toList.map fun c => Value.int .u8 c.toNat).length = t.size := by simp
  rw [hl] at h7 ⊢
  exact h B b p v bs t w h1 h2 h3 h4 h5 h6 (by omega)
theorem SbRune.put {P : Program} {T e : TypeId} {f : FuncId} (h : SbRune P T e f) (r : Int) (r0 : -2147483648 ≤ r) (r1 : r ≤ 2147483647) : SbPut P T e f (.int .i32 r) ((Lib.encodeRune r).map fun c => Value.int .u8 c.toNat) := by
  intro B b p v bs w h1 h2 h3 h4 h5 h6 h7
  have hl : ((Lib.encodeRune r).map fun c => Value.int .u8 c.toNat) = Lib.runeCells r := Lib.byteCells_encodeRune r
  rw [hl] at h7 ⊢
  exact h B b p v bs r w r0 r1 h1 h2 h3 h4 h5 h6 (by omega)
/-- What (*strings.Builder).String does. -/
def SbString (P : Program) (T e : TypeId) (f : FuncId) : Prop :=
  ∀ (B b : Nat) (p v : Value) (l : List UInt8) (w : World), B ≤ b → B ≤ w.heap.size → (p = .pointer none ∨ p = .pointer (some ⟨b, 0, none⟩)) → w.heap[b]? = some (.cells #[p, v] T (0, 0)) → w.ownsRow B e 1 v l.length (l.map fun c => Value.int .u8 c.toNat) → blk v ≠ some b →
    Calls P f #[.pointer (some ⟨b, 0, none⟩)] w fun x w' => x = .returned (.string ⟨l.toArray⟩) ∧ Below B w w' ∧ ∀ k, k < w.heap.size → blk v ≠ some k → w'.heap[k]? = w.heap[k]?

theorem ids_sb {d T e x : Nat} {l : List (List PV)} : Ids d (.dp T 2 (sbRow e l)) x ↔ x = d ∨ x = nid d 1 := by
  constructor
  · rintro (h | ⟨_, _, _, p, e', k', l', ho, hp, hk, rfl⟩)
    · exact .inl h
    · simp only [Ob.dp.injEq] at ho
      obtain ⟨rfl, rfl, rfl⟩ := ho
      match p with
      | 0 => simp [sbRow] at hp; omega
      | 1 => exact .inr rfl
      | p + 2 => simp [sbRow] at hp
  · rintro (h | h)
    · exact .inl h
    · exact .inr ⟨T, 2, sbRow e l, 1, e, 1, l, rfl, by simp [sbRow], by omega, h⟩

theorem owns_one {w : World} {base e n : Nat} {v : Value} {xs : List Value} {k : Nat} (h : w.ownsRow base e k v n xs) : v.oneCell' = true := by
  rcases h.2 with ⟨rfl, _⟩ | ⟨_, _, _, rfl, _⟩ <;> rfl

theorem orep_sb_mk {w : World} {g : Gs} {base d T e b : Nat} {p v : Value} {l : List (List PV)} (hv : g.v d = .slice (some ⟨b, 0, none⟩) 1 1) (hbb : base ≤ b) (hg : w.heap[b]? = some (.cells #[p, v] T (0, 0))) (hp : p = .pointer none ∨ p = .pointer (some ⟨b, 0, none⟩)) (hn : g.v (nid d 1) = v) (hR : RowR w g base (nid d 1) e 1 l) (hlm : g.lm b = 0) :
    ORep w g base d (.dp T 2 (sbRow e l)) := by
  have hR' := hR
  obtain ⟨r1, r2, ⟨ys, r3, r4, r5⟩, r6⟩ := hR
  rw [hn] at r3
  have hp1 : p.oneCell' = true := by rcases hp with rfl | rfl <;> rfl
  refine ⟨by omega, by simp [sbRow], ⟨[p, v], ?_, ?_, ?_, ?_⟩, ?_, ?_⟩
  · refine ⟨rfl, .inr ⟨b, 1, #[p, v], hv, hbb, hg, Nat.le_refl _, by decide, rfl, rfl⟩⟩
  · exact .cons .ow (.cons .ow .nil)
  · intro u hu
    simp at hu
    rcases hu with rfl | rfl
    · exact hp1
    · exact owns_one r3
  · intro q e' k' l' hq hk
    match q with
    | 0 => simp [sbRow] at hq; omega
    | 1 =>
      simp [sbRow] at hq
      obtain ⟨rfl, rfl, rfl⟩ := hq
      exact ⟨by simp [hn], hR'⟩
    | q + 2 => simp [sbRow] at hq
  · intro b' hb'
    rw [hv] at hb'
    simp [blk] at hb'
    rw [← hb']; exact hlm
  · intro q hq
    match q with
    | 0 =>
      refine ⟨b, hv, ?_⟩
      rw [cell_of_row w b 0 _ T (0, 0) hg]
      rcases hp with rfl | rfl
      · exact .inl rfl
      · exact .inr rfl
    | 1 => simp [sbRow] at hq
    | q + 2 => simp [sbRow] at hq

theorem orep_sb {w : World} {g : Gs} {base d T e : Nat} {l : List (List PV)} (h : ORep w g base d (.dp T 2 (sbRow e l))) :
    ∃ b p v, g.v d = .slice (some ⟨b, 0, none⟩) 1 1 ∧ base ≤ b ∧ w.heap[b]? = some (.cells #[p, v] T (0, 0)) ∧ (p = .pointer none ∨ p = .pointer (some ⟨b, 0, none⟩)) ∧ g.v (nid d 1) = v ∧ RowR w g base (nid d 1) e 1 l ∧ g.lm b = 0 := by
  obtain ⟨h1, h2, ⟨xs, h3, h4, h5, h7⟩, h6, h8⟩ := h
  obtain ⟨b, hv, hp⟩ := h8 0 (by simp [sbRow])
  have hv : g.v d = .slice (some ⟨b, 0, none⟩) 1 1 := hv
  obtain ⟨q1, q2⟩ := h7 1 e 1 l (by simp [sbRow]) (by omega)
  rcases h3.2 with ⟨h, _⟩ | ⟨b', cap, cur, h, hb, hg, _, _, hs, ht⟩
  · rw [hv] at h; simp at h
  · rw [hv] at h
    simp only [Value.slice.injEq, Option.some.injEq, Addr.mk.injEq, and_true] at h
    obtain ⟨rfl, _, rfl⟩ := h
    have hl : (sbRow e l).length = 1 := rfl
    rw [hl] at ht
    have hcl : cur.toList.length = 2 := by simpa using hs
    rw [List.take_of_length_le (by omega)] at ht
    have hc0 := cell_of_row w b 0 cur T (0, 0) hg
    match xs, ht, q1 with
    | [x0, x1], ht, q1 =>
      simp at q1
      subst q1
      have hcur : cur = #[x0, g.v (nid d 1)] := by apply Array.ext'; rw [ht]
      subst hcur
      refine ⟨b, x0, _, hv, hb, hg, ?_, rfl, q2, h6 b (by rw [hv]; rfl)⟩
      rw [hc0] at hp
      simpa using hp
    | [], ht, q1 => simp at q1
    | [x0], ht, q1 => simp at q1
    | _ :: _ :: _ :: _, ht, q1 => rw [ht] at hcl; simp at hcl

theorem unRow_eq {r : List (List PV)} {e : TypeId} {l : List (List PV)} (h : unRow r = some (e, l)) : r = sbRow e l := by
  unfold unRow at h
  split at h
  · split at h
    · rename_i hc
      obtain ⟨rfl, rfl, rfl⟩ := hc
      simp only [Option.some.injEq, Prod.mk.injEq] at h
      obtain ⟨rfl, rfl⟩ := h
      rfl
    · simp at h
  · simp at h

section
variable {P : Program} {base : Nat} {w0 : World} {lm0 : Nat → Nat} {N : Nat} {g : Gs} {a : Act} {w : World} {s : St} {o : Oper}

theorem eff_sbn (S : Sim base w0 lm0 N g a w s) {T e : TypeId} {z : Value} {call : Call} {d : Nat} {r : Eff} (ho : o.op = .alloc T) (hz : (P.info? T).bind (·.zero) = some z) (hzc : z.cells = #[.pointer none, .slice none 0 0])
    (he : eff call s d (.sbn T e) = some r) : EffOK P base w0 lm0 N g a w s o r := by
  simp only [eff] at he
  cases hid : newId s.h d with
  | none => rw [hid] at he; simp at he
  | some id =>
    rw [hid] at he
    simp only [Option.some.injEq] at he
    subst he
    have hidl := newId_lt hid
    have hnn : nid id 1 ≠ id := fun h => by have := nid_ge id 1; omega
    let v' : Nat → Value := upd (upd g.v id (.slice (some ⟨w.heap.size, 0, none⟩) 1 1)) (nid id 1) (.slice none 0 0)
    have v1 : v' id = .slice (some ⟨w.heap.size, 0, none⟩) 1 1 := by simp only [v']; rw [upd_ne _ (Ne.symm hnn), upd_same]
    have v2 : v' (nid id 1) = .slice none 0 0 := upd_same _ _ _
    have hl : ∀ b, b < w.heap.size → upd g.lm w.heap.size 0 b = g.lm b := fun b h => upd_ne _ (by omega) _
    have ho2 : ORep (w.alloc (.cells z.cells T)) ⟨upd g.lm w.heap.size 0, v'⟩ base id (.dp T 2 (sbRow e [])) := by
      refine orep_sb_mk (b := w.heap.size) (p := .pointer none) (v := .slice none 0 0) v1 S.bw ?_ (.inl rfl) v2 ⟨by omega, by simp, ⟨[], ⟨rfl, .inl ⟨v2, rfl⟩⟩, .nil, by simp⟩, fun b hb => by dsimp only at hb; rw [v2] at hb; simp [blk] at hb⟩ (upd_same _ _ _)
      rw [hzc]; simp only [World.alloc]; exact Array.getElem?_push_size
    obtain ⟨S2, T2⟩ := S.newG (id := id) (newId_none hid) hidl (w' := w.alloc (.cells z.cells T)) (lm' := upd g.lm w.heap.size 0) (v' := v') (o := .dp T 2 (sbRow e [])) (below_alloc' w _) hl
      (fun x hx => by
        have h1 : x ≠ nid id 1 := fun h => hx (by rw [h]; unfold nid; omega)
        have h2 : x ≠ id := fun h => hx (by rw [h]; omega)
        simp only [v']; rw [upd_ne _ h1, upd_ne _ h2])
      (fun x b hi hb => by
        rcases ids_sb.1 hi with rfl | rfl
        · rw [v1] at hb; simp [blk] at hb; omega
        · rw [v2] at hb; simp [blk] at hb)
      ⟨fun _ => id, fun x b hi hb => by
        rcases ids_sb.1 hi with rfl | rfl
        · rfl
        · rw [v2] at hb; simp [blk] at hb⟩ ho2
    refine EffOK.mk' (u := .pointer (some ⟨w.heap.size, 0, none⟩)) rfl ?_ S2 ?_
    · simp [execOp, ho, Instr.alloc, run_zero hz, newVar, Go.newRow]
    · show SRep _ _ (get (AM.put s.h id (.dp T 2 (sbRow e [])))) _ _
      simp only [SRep, get_put_same]
      exact ⟨w.heap.size, by rw [v1]; rfl, by simp⟩

theorem Sim.sbw (S : Sim base w0 lm0 N g a w s) {d T e : Nat} {l : List (List PV)} (hd : get s.h d = some (.dp T 2 (sbRow e l))) {b : Nat} {p v : Value} (hv : g.v d = .slice (some ⟨b, 0, none⟩) 1 1) (hbb : base ≤ b) (hg : w.heap[b]? = some (.cells #[p, v] T (0, 0)))
    (hn : g.v (nid d 1) = v) (hR : RowR w g base (nid d 1) e 1 l) (hlm : g.lm b = 0) {w' : World} {v' : Value} {bs : List UInt8} {xs : List Value} (hrep : RepL w g.lm l.flatten xs) (hone : ∀ u ∈ xs, u.oneCell' = true)
    (q1 : w'.heap[b]? = some (.cells #[.pointer (some ⟨b, 0, none⟩), v'] T (0, 0))) (q2 : w'.ownsRow base e 1 v' (l.length + bs.length) (xs ++ bs.map fun c => Value.int .u8 c.toNat)) (q3 : blk v' = blk v ∨ ∃ c, blk v' = some c ∧ w.heap.size ≤ c) (q4 : Below base w w') (q5 : ∀ k, k < w.heap.size → k ≠ b → blk v ≠ some k → w'.heap[k]? = w.heap[k]?) :
    ∃ g', Sim base w0 lm0 N g' a w' ⟨s.t, AM.put s.h d (.dp T 2 (sbRow e (l ++ bRows bs)))⟩ := by
  obtain ⟨r1, r2, _, r6⟩ := hR
  rw [hn] at r6
  have hdl := S.lt _ _ hd
  have hnn : d ≠ nid d 1 := fun h => by have := nid_ge d 1; omega
  have hblt : b < w.heap.size := (Array.getElem?_eq_some_iff.1 hg).1
  have bd : blk (g.v d) = some b := by rw [hv]; rfl
  obtain ⟨own, hap⟩ := S.ap
  let lm' : Nat → Nat := fun b => if w.heap.size ≤ b then 0 else g.lm b
  have hlm' : ∀ b, b < w.heap.size → lm' b = g.lm b := fun b h => if_neg (by omega)
  let gv : Nat → Value := upd g.v (nid d 1) v'
  have g1 : gv d = .slice (some ⟨b, 0, none⟩) 1 1 := by simp only [gv]; rw [upd_ne _ hnn]; exact hv
  have g2 : gv (nid d 1) = v' := upd_same _ _ _
  have hbl : ∀ k, k < w.heap.size → k ≠ b → blk v ≠ some k → w'.heap[k]? = w.heap[k]? ∧ lm' k = g.lm k := fun k h1 h2 h3 => ⟨q5 k h1 h2 h3, hlm' k h1⟩
  have hext : Ext w g.lm w' lm' := by
    intro b2 o2 u hc ho2
    have hlt := cell_lt hc
    have e1 : b2 ≠ b := fun e => by rw [e, hlm] at ho2; omega
    have e2 : blk v ≠ some b2 := fun e => by rw [r6 b2 e] at ho2; omega
    obtain ⟨z1, z2⟩ := hbl b2 hlt e1 e2
    exact ⟨(World.cell?_of_block (a := ⟨b2, o2, none⟩) z1).trans hc, by rw [z2]; exact ho2⟩
  have hnew : ORep w' ⟨lm', gv⟩ base d (.dp T 2 (sbRow e (l ++ bRows bs))) := by
    have hlen : (l ++ bRows bs).length = l.length + bs.length := by simp [bRows]
    refine orep_sb_mk g1 hbb q1 (.inr rfl) g2 ⟨by omega, ?_, ⟨_, by dsimp only; rw [g2, hlen]; exact q2, ?_, ?_⟩, ?_⟩ (by show lm' b = 0; rw [hlm' b hblt]; exact hlm)
    · intro c hc
      rcases List.mem_append.1 hc with h | h
      · exact r2 c h
      · obtain ⟨_, _, rfl⟩ := List.mem_map.1 h; rfl
    · rw [List.flatten_append]
      exact (hrep.ext hext).append (rep_bytes _)
    · intro u hu
      rcases List.mem_append.1 hu with h | h
      · exact hone u h
      · obtain ⟨_, _, rfl⟩ := List.mem_map.1 h; rfl
    · intro b2 hb2
      dsimp only at hb2 ⊢
      rw [g2] at hb2
      rcases q3 with h | ⟨c, h, hc⟩
      · rw [h] at hb2
        have := r6 b2 hb2
        show (if _ then _ else _) = 0
        split
        · rfl
        · exact this
      · rw [h] at hb2
        obtain rfl := Option.some.inj hb2
        exact if_pos hc
  have hnx : ∀ {d1 o1 x}, get s.h d1 = some o1 → d ≠ d1 → Ids d1 o1 x → x ≠ nid d 1 := fun h1 hne hi e => by
    have := hi.mod (S.lt _ _ h1)
    rw [e] at this
    exact hne (by rw [← this]; unfold nid; omega)
  obtain ⟨S2, _⟩ := S.dput hd rfl (w' := w') (lm' := lm') (v' := gv) (o' := .dp T 2 (sbRow e (l ++ bRows bs))) ⟨rfl, rfl⟩ (g1.trans hv.symm) (fun x hx => upd_ne _ (fun e => hx (by rw [e]; unfold nid; omega)) _) hext q4
    (fun b2 hb2 hlt => hbl b2 hlt (fun e => hb2 d (.self _ _) (by rw [e]; exact bd)) (fun e => hb2 (nid d 1) (ids_sb.2 (.inr rfl)) (by rw [hn]; exact e))) hnew
    ⟨fun b2 => if w.heap.size ≤ b2 then nid d 1 else own b2, fun d1 o1 x b2 h1 l1 hi hb1 => by
      dsimp only
      by_cases e1 : d = d1
      · subst e1
        rw [get_put_same] at h1
        obtain rfl := Option.some.inj h1
        rcases ids_sb.1 hi with rfl | rfl
        · rw [g1] at hb1
          simp [blk] at hb1
          subst hb1
          rw [if_neg (by omega)]
          exact hap _ _ _ _ hd rfl (.self _ _) bd
        · rw [g2] at hb1
          rcases q3 with h | ⟨c, h, hc⟩
          · rw [h] at hb1
            have hb1' : blk (g.v (nid d 1)) = some b2 := by rw [hn]; exact hb1
            have := ((S.ob _ _ hd).blockI rfl (ids_sb.2 (.inr rfl)) hb1').2
            rw [if_neg (by omega)]
            exact hap _ _ _ _ hd rfl (ids_sb.2 (.inr rfl)) hb1'
          · rw [h] at hb1
            obtain rfl := Option.some.inj hb1
            exact if_pos hc
      · rw [get_put_ne _ e1] at h1
        have hx := hnx h1 e1 hi
        simp only [gv] at hb1
        rw [upd_ne _ hx] at hb1
        have := ((S.ob _ _ h1).blockI l1 hi hb1).2
        rw [if_neg (by omega)]
        exact hap _ _ _ _ h1 l1 hi hb1⟩
  exact ⟨_, S2⟩

theorem Sim.sbs (S : Sim base w0 lm0 N g a w s) {d T e : Nat} {l : List (List PV)} (hd : get s.h d = some (.dp T 2 (sbRow e l))) {v : Value} (hn : g.v (nid d 1) = v) (hR : RowR w g base (nid d 1) e 1 l) {w' : World}
    (q4 : Below base w w') (q5 : ∀ k, k < w.heap.size → blk v ≠ some k → w'.heap[k]? = w.heap[k]?) : Sim base w0 lm0 N g a w' ⟨s.t, AM.put s.h d .dead⟩ := by
  obtain ⟨_, _, _, r6⟩ := hR
  rw [hn] at r6
  have hext : Ext w g.lm w' g.lm := by
    intro b2 o2 u hc ho2
    have hlt := cell_lt hc
    have e2 : blk v ≠ some b2 := fun e => by rw [r6 b2 e] at ho2; omega
    exact ⟨(World.cell?_of_block (a := ⟨b2, o2, none⟩) (q5 b2 hlt e2)).trans hc, ho2⟩
  have T : Tr w g (get s.h) w' g (get (AM.put s.h d .dead)) := ⟨hext, fun d1 o1 h1 => by
    by_cases e : d = d1
    · exact .inl (by rw [← e, get_put_same])
    · exact .inr ⟨rfl, o1, by rw [get_put_ne _ e]; exact h1, Shp.refl _⟩⟩
  refine S.turn T q4 (fun _ _ => rfl) (fun d1 o1 h1 => ?_) (fun d1 o1 h1 => ?_) ?_
  · by_cases e : d = d1
    · subst e
      rw [get_put_same] at h1
      obtain rfl := Option.some.inj h1
      trivial
    · rw [get_put_ne _ e] at h1
      refine (S.ob _ _ h1).keep (fun _ _ => rfl) hext fun hl x hi b hb => ⟨q5 b ((S.ob _ _ h1).blockI hl hi hb).2 fun e2 => ?_, rfl⟩
      exact S.far h1 hd hl rfl hi (ids_sb.2 (.inr rfl)) (S.ne h1 hd (Ne.symm e) hi (ids_sb.2 (.inr rfl))) hb (by rw [hn]; exact e2)
  · by_cases e : d = d1
    · subst e; exact S.lt _ _ hd
    · rw [get_put_ne _ e] at h1; exact S.lt _ _ h1
  · obtain ⟨own, hap⟩ := S.ap
    refine ⟨own, fun d1 o1 x b h1 l1 hi hb => ?_⟩
    by_cases e : d = d1
    · subst e
      rw [get_put_same] at h1
      obtain rfl := Option.some.inj h1
      simp [Ob.live] at l1
    · rw [get_put_ne _ e] at h1
      exact hap d1 o1 x b h1 l1 hi hb
end
end Go.Proofs.Ytomnggbideepeaa.AM

end
section
/- The small machine's copy of a deep row into a row. No condition. -/
namespace Go.Proofs.Ytomnggbideepeaa.AM
set_option linter.unusedSimpArgs false
set_option linter.unusedVariables false
open Go Go.RowKit

theorem ids_dp {d e k x : Nat} {l : List (List PV)} : Ids d (.dp e k l) x ↔ x = d ∨ ∃ p e' k' l', l.flatten[p]? = some (.ow e' k' l') ∧ 0 < k' ∧ x = nid d p := by
  constructor
  · rintro (h | ⟨_, _, _, p, e', k', l', ho, hp, hk, rfl⟩)
    · exact .inl h
    · simp only [Ob.dp.injEq] at ho
      obtain ⟨rfl, rfl, rfl⟩ := ho
      exact .inr ⟨p, e', k', l', hp, hk, rfl⟩
  · rintro (h | ⟨p, e', k', l', hp, hk, rfl⟩)
    · exact .inl h
    · exact .inr ⟨_, _, _, p, e', k', l', rfl, hp, hk, rfl⟩

section
variable {P : Program} {base : Nat} {w0 : World} {lm0 : Nat → Nat} {N : Nat} {g : Gs} {a : Act} {w : World} {s : St} {o : Oper}

/-- What a deep row alone has goes over to another object, whose cells are its cells. -/
theorem Sim.over (S : Sim base w0 lm0 N g a w s) {d1 d2 e k : Nat} {l1 l2 : List (List PV)} (hd1 : get s.h d1 = some (.row e k false l1)) (hd2 : get s.h d2 = some (.dp e k l2)) (hll : l1.length = l2.length) (hok : okSet l2 = true)
    {w' : World} {xs : List Value} (h4 : RepL w g.lm l2.flatten xs) (h5 : ∀ u ∈ xs, u.oneCell' = true) (h7 : ∀ p e' k' l', l2.flatten[p]? = some (.ow e' k' l') → 0 < k' → xs[p]? = some (g.v (nid d2 p)) ∧ RowR w g base (nid d2 p) e' k' l')
    (hown : w'.ownsRow base e k (g.v d1) l1.length xs) (hb : Below base w w') (hbl : ∀ b, blk (g.v d1) ≠ some b → w'.heap[b]? = w.heap[b]?) :
    ∃ g', Sim base w0 lm0 N g' a w' ⟨s.t, AM.put (AM.put s.h d2 .dead) d1 (.dp e k l2)⟩ := by
  have hne : d1 ≠ d2 := fun h => by rw [h, hd2] at hd1; simp at hd1
  have l1t := S.lt _ _ hd1
  have l2t := S.lt _ _ hd2
  obtain ⟨r1, r2, _, r6⟩ := S.ob _ _ hd1
  obtain ⟨_, k2, _, _, _⟩ := S.ob _ _ hd2
  obtain ⟨own, hap⟩ := S.ap
  let v' : Nat → Value := fun x => if 1000000 ≤ x ∧ x % 1000000 = d1 then g.v (x - d1 + d2) else g.v x
  have v1 : v' d1 = g.v d1 := if_neg (by omega)
  have v2 : ∀ p, v' (nid d1 p) = g.v (nid d2 p) := fun p => by
    have h1 := nid_ge d1 p
    have h2 : nid d1 p % 1000000 = d1 := by unfold nid; omega
    show (if _ then _ else _) = _
    rw [if_pos ⟨h1, h2⟩]
    congr 1
    unfold nid; omega
  have hlm1 : ∀ b, blk (g.v d1) = some b → g.lm b = 0 := fun b hb => by simpa using r6 b hb
  have hext : Ext w g.lm w' g.lm := by
    intro b2 o2 u hc ho2
    have e1 : blk (g.v d1) ≠ some b2 := fun e => by rw [hlm1 b2 e] at ho2; omega
    exact ⟨(World.cell?_of_block (a := ⟨b2, o2, none⟩) (hbl b2 e1)).trans hc, ho2⟩
  have hnb : ∀ p e' k' l', l2.flatten[p]? = some (.ow e' k' l') → 0 < k' → ∀ b, blk (g.v (nid d2 p)) = some b → blk (g.v d1) ≠ some b := fun p e' k' l' hp hk b hb hb1 => by
    have z1 := hap d2 _ _ b hd2 rfl (ids_dp.2 (.inr ⟨p, e', k', l', hp, hk, rfl⟩)) hb
    have z2 := hap d1 _ _ b hd1 rfl (.self _ _) hb1
    have := nid_ge d2 p
    omega
  obtain ⟨S1, T1⟩ := S.kill hd2
  have hd1' : get (AM.put s.h d2 .dead) d1 = some (.row e k false l1) := by rw [get_put_ne _ (Ne.symm hne)]; exact hd1
  obtain ⟨S2, _⟩ := S1.dput hd1' rfl (w' := w') (lm' := g.lm) (v' := v') (o' := .dp e k l2) ⟨rfl, hll⟩ v1 (fun x hx => if_neg fun h => hx h.2) hext hb
    (fun b hb _ => ⟨hbl b (hb d1 (.self _ _)), rfl⟩)
    ⟨r1, k2, ⟨xs, by dsimp only; rw [v1, ← hll]; exact hown, h4.ext hext, h5, fun p e' k' l' hp hk => by
        obtain ⟨q1, m1, m2, ⟨ys, m3, m4, m5⟩, m6⟩ := h7 p e' k' l' hp hk
        refine ⟨by dsimp only; rw [v2]; exact q1, m1, m2, ⟨ys, by dsimp only; rw [v2]; exact ownsRow_keep m3 fun b hb => hbl b (hnb p e' k' l' hp hk b hb), m4.ext hext, m5⟩, fun b hb => ?_⟩
        dsimp only at hb
        rw [v2] at hb
        exact m6 b hb⟩,
      fun b hb => by dsimp only at hb; rw [v1] at hb; exact hlm1 b hb,
      fun p hp => by have := okSet_flat hok hp; simp [PV.noHole] at this⟩
    ⟨fun b => if 1000000 ≤ own b ∧ own b % 1000000 = d2 then own b - d2 + d1 else own b, fun d3 o3 x b h3 hl3 hi hbx => by
      dsimp only
      by_cases e1 : d1 = d3
      · subst e1
        rw [get_put_same] at h3
        obtain rfl := Option.some.inj h3
        rcases ids_dp.1 hi with rfl | ⟨p, e', k', l', hp, hk, rfl⟩
        · rw [v1] at hbx
          have := hap x _ x b hd1 rfl (.self _ _) hbx
          rw [this, if_neg (by omega)]
        · rw [v2] at hbx
          have := hap d2 _ _ b hd2 rfl (ids_dp.2 (.inr ⟨p, e', k', l', hp, hk, rfl⟩)) hbx
          have h2 : nid d2 p % 1000000 = d2 := by unfold nid; omega
          rw [this, if_pos ⟨nid_ge _ _, h2⟩]
          unfold nid; omega
      · rw [get_put_ne _ e1] at h3
        by_cases e2 : d2 = d3
        · subst e2
          rw [get_put_same] at h3
          obtain rfl := Option.some.inj h3
          simp [Ob.live] at hl3
        · rw [get_put_ne _ e2] at h3
          have hm := hi.mod (S.lt _ _ h3)
          have hx1 : v' x = g.v x := if_neg fun h => e1 (by rw [← h.2, hm])
          rw [hx1] at hbx
          have := hap d3 o3 x b h3 hl3 hi hbx
          rw [this, if_neg fun h => e2 (by rw [← h.2, hm])]⟩
  exact ⟨_, S2⟩

theorem eff_cpyo (S : Sim base w0 lm0 N g a w s) {t t2 el : TypeId} {k : Nat} (h0 : 0 < k) {x y : Operand} {x' y' : X} {call : Call} {d : Nat} {r : Eff} (ho : o.op = .call { callee := .builtin .copy, args := #[x, y], argTypes := #[t, t2] }) (ht : P.underlying t = some (.slice el)) (hk : P.cellsOf el = k)
    (hx : okX x x' = true) (hy : okX y y' = true) (he : eff call s d (.cpyo k x' y') = some r) : EffOK P base w0 lm0 N g a w s o r := by
  simp only [eff] at he
  split at he
  case h_2 => simp at he
  rename_i d1 off1 len1 d2 off2 len2 hvx hvy
  split at he
  case h_2 => simp at he
  rename_i e k1 l1 e2 k2 l2 hd1 hd2
  split at he
  case isFalse => simp at he
  rename_i hc
  obtain ⟨hne, rfl, rfl, rfl, rfl, rfl, rfl, rfl, hll, hok⟩ := hc
  simp only [Option.some.injEq] at he
  subst he
  have hrx := okX_sound S hx hvx
  have hry := okX_sound S hy hvy
  simp only [SRep, hd1] at hrx
  simp only [SRep, hd2] at hry
  have hux : a.eval x = g.v d1 := by
    rcases hrx.2 with h | h
    · exact h.2.2
    · exact absurd h.1 (by simp)
  have huy : a.eval y = g.v d2 := by
    rcases hry.2 with h | h
    · exact h.2.2
    · exact absurd h.1 (by simp)
  obtain ⟨_, hk1, ⟨xs1, h31, h41, h51⟩, _⟩ := S.ob _ _ hd1
  obtain ⟨_, hk2, ⟨xs2, h32, h42, h52, h72⟩, _⟩ := S.ob _ _ hd2
  have fin : ∀ {w' : World}, (execOp a.eval o).run P w = .ok (.value (.int .i64 l1.length)) w' → w'.ownsRow base e2 k2 (g.v d1) l1.length xs2 → Below base w w' → (∀ b, blk (g.v d1) ≠ some b → w'.heap[b]? = w.heap[b]?) → EffOK P base w0 lm0 N g a w s o ⟨.p (.sc (.int .i64 (l1.length : Nat))), [(d2, .dead), (d1, .dp e2 k2 l2)]⟩ := by
    intro w' hrun h1 h2 h3
    obtain ⟨g', S2⟩ := S.over hd1 hd2 hll hok h42 h52 h72 h1 h2 h3
    exact EffOK.mk' (h' := AM.put (AM.put s.h d2 .dead) d1 (.dp e2 k2 l2)) rfl hrun S2 (Rep.sc _)
  have hz2 : Nat.min l2.length l1.length = l1.length := by rw [← hll]; exact Nat.min_self _
  have slv : ∀ {v : Value} {n : Nat} {xs : List Value}, w.ownsRow base e2 k2 v n xs → ∃ ad cap, v = .slice ad n cap := by
    intro v n xs h
    rcases h.2 with ⟨h, hn⟩ | ⟨b, cap, cur, h, _⟩
    · exact ⟨none, 0, by rw [h, hn]⟩
    · exact ⟨_, cap, h⟩
  by_cases hn1 : l1.length = 0
  · have hl2 : l2.length = 0 := by omega
    have hx2 : xs2 = [] := List.eq_nil_of_length_eq_zero (by rw [h32.1, hl2]; simp)
    have hx1 : xs1 = [] := List.eq_nil_of_length_eq_zero (by rw [h31.1, hn1]; simp)
    subst hx2
    subst hx1
    refine fin (w' := w) ?_ h31 (Below.refl _ _) (fun _ _ => rfl)
    obtain ⟨a1, c1, hv1⟩ := slv h31
    obtain ⟨a2, c2, hv2⟩ := slv h32
    rw [hn1] at hv1
    rw [hl2] at hv2
    have hm : Nat.min 0 0 = 0 := rfl
    have hf : ∀ c, (Builtin.firstCells k2 0 (.slice a2 0 c)).run P w = .ok #[] w := fun c => by cases a2 <;> simp [Builtin.firstCells, loadCells, loadCellsFrom]
    cases a1 <;> simp [execOp, ho, resolve, invoke, builtin, hux, huy, hv1, hv2, Builtin.copy_, run_underlying ht, Builtin.lenOf, hm, run_sizeOf hk h0, hf, storeCells, goInt, hn1]
  rcases h31.2 with ⟨hv1, hz⟩ | ⟨b1, cap1, cur1, hv1, q1, q2, q3, q4, q5, q6⟩
  · exact absurd hz hn1
  rcases h32.2 with ⟨hv2, hz⟩ | ⟨b2, cap2, cur2, hv2, _⟩
  · omega
  have hcl : xs2.length = l1.length * k2 := by rw [h32.1, hll]
  have hlcap : l1.length * k2 ≤ cap1 * k2 := Nat.mul_le_mul_right _ q3
  have hst := run_storeCells_at P b1 0 e2 xs2 0 cur1 w q2 (by rw [hcl]; omega) h52
  simp only [Nat.add_zero, Nat.zero_add, hcl, List.take_zero, List.nil_append] at hst
  have hsz : (xs2 ++ cur1.toList.drop (l1.length * k2)).toArray.size = cap1 * k2 := by
    simp only [List.size_toArray, List.length_append, List.length_drop, Array.length_toList, hcl]; omega
  refine fin (w' := w.setRow b1 (xs2 ++ cur1.toList.drop (l1.length * k2)).toArray) ?_ ⟨hcl, .inr ⟨b1, cap1, (xs2 ++ cur1.toList.drop (l1.length * k2)).toArray, hv1, q1, setRow_heap w b1 cur1 _ e2 _ q2, q3, q4, hsz, ?_⟩⟩ (below_setRow (Below.refl _ _) q1 _) (fun b hb => setRow_other _ _ _ _ fun e => hb (by rw [hv1, e]; rfl))
  · have hf := run_firstCells_some (P := P) w k2 l1.length ⟨b2, 0, none⟩ l2.length cap2 xs2 hcl (fun j v hv => by
      rw [add_n, Nat.zero_add]
      exact own_cells h32 (by rw [hv2]; rfl) hv)
    simp [execOp, ho, resolve, invoke, builtin, hux, huy, hv1, hv2, Builtin.copy_, run_underlying ht, Builtin.lenOf, hz2, run_sizeOf hk h0, hf, hst, goInt]
  · rw [List.toList_toArray, ← hcl, List.take_left]
end
end Go.Proofs.Ytomnggbideepeaa.AM

end
section
/- Which text of the small machine stands for which of Go's operations, and that it serves. No condition. -/
namespace Go.Proofs.Ytomnggbideepeaa.AM
open Go Go.RowKit
set_option linter.unusedVariables false
set_option linter.unusedSimpArgs false

def isSl (P : Program) (t el : TypeId) : Bool := match P.underlying t with | some (.slice e) => e == el | _ => false
def isStr (P : Program) (t : TypeId) : Bool := match P.underlying t with | some .string => true | _ => false
theorem isSl_sound {P : Program} {t el : TypeId} (h : isSl P t el = true) : P.underlying t = some (.slice el) := by
  unfold isSl at h
  split at h
  · rename_i e he
    rw [he]; simp at h; rw [h]
  · simp at h
theorem isStr_sound {P : Program} {t : TypeId} (h : isStr P t = true) : P.underlying t = some .string := by
  unfold isStr at h
  split at h
  · assumption
  · simp at h

def zeroOf (P : Program) (e : TypeId) : Option Value := (P.info? e).bind (·.zero)
def zeroCellsOf (P : Program) (el : TypeId) (n : Nat) : Array Value := if n = 0 then #[] else ((zeroOf P el).getD .nilFunc).cells

def okS1 (P : Program) (op : Op) (so : SOp) (y : X) : Bool := match so, op with
  | .un u, .unOp u' _ x => decide (u' = u) && okX x y
  | .cv k, .convert t1 t2 x => (P.underlying t1).isSome && (match P.underlying t2 with | some (.int k') => decide (k' = k) | _ => false) && okX x y
  | .i2s, .convert t1 t2 x => (P.underlying t1).isSome && isStr P t2 && okX x y
  | .s2s, .convert t1 t2 x => (P.underlying t1).isSome && isStr P t2 && okX x y
  | _, _ => false
def okS2 (P : Program) (op : Op) (so : SOp) (y1 y2 : X) : Bool := match so, op with
  | .bin b, .binOp b' _ x1 x2 _ => decide (b' = b) && okX x1 y1 && okX x2 y2
  | .idx, .index t x1 x2 => isStr P t && okX x1 y1 && okX x2 y2
  | .beq ne, .binOp b t x1 x2 _ => decide (b = if ne then .neq else .eql) && (match P.underlying t with | some .bool => true | _ => false) && okX x1 y1 && okX x2 y2
  | .peq ne, .binOp b t x1 x2 _ => decide (b = if ne then .neq else .eql) && (match P.underlying t with | some (.pointer _) => true | _ => false) && okX x1 y1 && okX x2 y2
  | _, _ => false

def okBlt (P : Program) (c : Go.Call) (ao : AOp) : Bool := match c.callee, c.args.toList, c.argTypes.toList, ao with
  | .builtin .len, [x], [t], .len y => (match P.underlying t with | some (.slice _) => true | _ => false) && okX x y
  | .builtin .len, [x], [t], .lens y => isStr P t && okX x y
  | .builtin .append, [x, y], [t, t2], .app e k by_ x' y' => t2 == t && decide (0 < k) && isSl P t e && elOk P e k by_ && okX x x' && okX y y'
  | .builtin .append, [x, y], [t, t2], .apps e by_ x' y' => isSl P t e && isStr P t2 && elOk P e 1 by_ && okX x x' && okX y y'
  | .builtin .copy, [x, y], [t, _], .cpy k x' y' => decide (0 < k) && (match P.underlying t with | some (.slice e) => P.cellsOf e == k | _ => false) && okX x x' && okX y y'
  | .builtin .len, [x], [t], .lend y => (match P.underlying t with | some (.slice _) => true | _ => false) && okX x y
  | .builtin .copy, [x, y], [t, _], .cpyd k x' y' => decide (0 < k) && (match P.underlying t with | some (.slice e) => P.cellsOf e == k | _ => false) && okX x x' && okX y y'
  | .builtin .copy, [x, y], [t, _], .cpyo k x' y' => decide (0 < k) && (match P.underlying t with | some (.slice e) => P.cellsOf e == k | _ => false) && okX x x' && okX y y'
  | .builtin .max, xs, _, .mm true ys => okXs xs ys
  | .builtin .min, xs, _, .mm false ys => okXs xs ys
  | _, _, _, _ => false

def okA (P : Program) (op : Op) (ao : AOp) : Bool := match ao with
  | .mv y => (match op with | .move x => okX x y | .assign x => okX x y | _ => false)
  | .nl _ k => decide (0 < k) && (match op with | .move (.const (.slice none 0 0)) => true | .assign (.const (.slice none 0 0)) => true | _ => false)
  | .pick c' a' b' => (match op with | .pick c a b => okX c c' && okX a a' && okX b b' | _ => false)
  | .box e k y => (match op with | .box t x => t == e && decide (0 < k) && okX x y | _ => false)
  | .alloc e k rows => (match op with | .alloc t => t == e && decide (0 < k) && (match zeroOf P e with | some z => okZ z.cells.toList rows.flatten | none => false) && (rows.all fun c => c.length == k) && decide (rows.length ≤ 1000000) | _ => false)
  | .boxp e k y => (match op with | .box t x => t == e && decide (0 < k) && okX x y | _ => false)
  | .alcp e k c => (match op with | .alloc t => t == e && decide (0 < k) && (match zeroOf P e with | some z => okZ z.cells.toList [c].flatten | none => false) && ([c].all fun x => x.length == k) | _ => false)
  | .bld z qs => (match op with
    | .build t ps => (match P.underlying t, zeroOf P t with
      | some (.struct fs), some zv => okZ zv.cells.toList z && sizesOk P fs.toList && okPs (fun i => (fs[i]?).map fun f => (f.offset, P.cellsOf f.type)) ps.toList qs
      | _, _ => false)
    | _ => false)
  | .bldp z qs => (match op with
    | .build t ps => (match P.underlying t, zeroOf P t with
      | some (.struct fs), some zv => okZ zv.cells.toList z && sizesOk P fs.toList && okPs (fun i => (fs[i]?).map fun f => (f.offset, P.cellsOf f.type)) ps.toList qs
      | _, _ => false)
    | _ => false)
  | .bsl el k z qs => (match op with
    | .buildSlice t n ps => isSl P t el && decide (0 < k) && P.cellsOf el == k && z.length == n && (z.all fun c => c.length == k) && decide (n * k ≤ 16777216) && (decide (n * k = 0) || (zeroOf P el).isSome) && okZ (zeroRow (zeroCellsOf P el (n * k)) (n * k)).toList z.flatten && okRs k ps.toList qs
    | _ => false)
  | .bslp el k z qs => (match op with
    | .buildSlice t n ps => isSl P t el && decide (0 < k) && P.cellsOf el == k && z.length == n && (z.all fun c => c.length == k) && decide (n * k ≤ 16777216) && (decide (n * k = 0) || (zeroOf P el).isSome) && okZ (zeroRow (zeroCellsOf P el (n * k)) (n * k)).toList z.flatten && okRs k ps.toList qs
    | _ => false)
  | .iad k y j => (match op with | .indexAddr t x i => (match P.underlying t with | some (.slice e) => P.cellsOf e == k | _ => false) && decide (0 < k) && okX x y && okX i j | _ => false)
  | .fad y off => (match op with
    | .fieldAddr t x i => (match P.underlying t with | some (.struct fs) => (match fs[i]? with | some f => f.offset == off && decide (0 < P.cellsOf f.type) | none => false) | _ => false) && okX x y
    | _ => false)
  | .ld1d y => (match op with | .load t x => decide (aggT P t = some false) && okX x y | _ => false)
  | .ld1o y => (match op with | .load t x => decide (aggT P t = some false) && okX x y | _ => false)
  | .sto1o x' y' => (match op with | .store t x y => P.cellsOf t == 1 && okX x x' && okX y y' | _ => false)
  | .stod x' y' => (match op with | .store t x y => P.cellsOf t == 1 && okX x x' && okX y y' | _ => false)
  | .sbn T _ => (match op with | .alloc t => t == T && (match zeroOf P T with | some z => (match z.cells.toList with | [.pointer none, .slice none 0 0] => true | _ => false) | none => false) | _ => false)
  | .mvs y _ => (match op with | .move x => okX x y | .assign x => okX x y | _ => false)
  | .iap k y j => (match op with | .indexAddr t x i => (match P.underlying t with | some (.slice e) => P.cellsOf e == k | _ => false) && decide (0 < k) && okX x y && okX i j | _ => false)
  | .ldp1 y => (match op with | .load t x => decide (aggT P t = some false) && okX x y | _ => false)
  | .ldpk k y => (match op with | .load t x => decide (aggT P t = some true) && P.cellsOf t == k && decide (0 < k) && okX x y | _ => false)
  | .mvp y => (match op with | .move x => okX x y | .assign x => okX x y | _ => false)
  | .ld1 y => (match op with | .load t x => decide (aggT P t = some false) && okX x y | _ => false)
  | .ldk k y => (match op with | .load t x => decide (aggT P t = some true) && P.cellsOf t == k && decide (0 < k) && okX x y | _ => false)
  | .sto k x' y' => (match op with | .store t x y => P.cellsOf t == k && decide (0 < k) && okX x x' && okX y y' | _ => false)
  | .s1 so y => okS1 P op so y
  | .s2 so y1 y2 => okS2 P op so y1 y2
  | .eqst ne ks y1 y2 => (match op with
    | .binOp b t x1 x2 _ => decide (b = if ne then .neq else .eql) && (match P.underlying t with | some (.struct fs) => okFs P 0 ks fs.toList | _ => false) && !P.stoodInHeld t && !P.eqGuardType P.depth t && okX x1 y1 && okX x2 y2
    | _ => false)
  | .nck y => (match op with | .nilCheck x => okX x y | _ => false)
  | .mki t y => (match op with | .makeInterface t' x => t' == t && (match P.underlying t with | some (.interface _) => false | some _ => true | none => false) && okX x y | _ => false)
  | .fld1 y off => (match op with
    | .field t x i => (match P.underlying t with | some (.struct fs) => (match fs[i]? with | some f => f.offset == off && decide (aggT P f.type = some false) | none => false) | _ => false) && okX x y
    | _ => false)
  | .fldk y off k => (match op with
    | .field t x i => (match P.underlying t with | some (.struct fs) => (match fs[i]? with | some f => f.offset == off && decide (aggT P f.type = some true) && P.cellsOf f.type == k && decide (0 < k) | none => false) | _ => false) && okX x y
    | _ => false)
  | .ixa k m y j => (match op with | .index t x i => (match P.underlying t with | some (.array m' e) => m' == m && decide (aggT P e = some true) && P.cellsOf e == k | _ => false) && decide (0 < k) && okX x y && okX i j | _ => false)
  | .fa y off => (match op with
    | .fieldAddr t x i => (match P.underlying t with | some (.struct fs) => (match fs[i]? with | some f => f.offset == off && decide (0 < P.cellsOf f.type) | none => false) | _ => false) && okX x y
    | _ => false)
  | .ia k y j => (match op with | .indexAddr t x i => (match P.underlying t with | some (.slice e) => P.cellsOf e == k | _ => false) && decide (0 < k) && okX x y && okX i j | _ => false)
  | .aa k m y j => (match op with | .indexAddr t x i => (match P.underlying t with | some (.array m' e) => m' == m && P.cellsOf e == k | _ => false) && decide (0 < k) && okX x y && okX i j | _ => false)
  | .mkf f ys => (match op with | .makeFunc (.func f') first xs => f' == f && first.toList.isEmpty && okXs xs.toList ys | _ => false)
  | .mks e k by_ z x' y' => (match op with | .makeSlice t x y => isSl P t e && decide (0 < k) && elOk P e k by_ && (match zeroOf P e with | some z' => okZ z'.cells.toList z | none => false) && okX x x' && okX y y' | _ => false)
  | .slc k y lo' hi' mx' => (match op with | .slice t x lo hi mx => (match P.underlying t with | some (.slice e) => P.cellsOf e == k | _ => false) && decide (0 < k) && okX x y && okO lo lo' && okO hi hi' && okO mx mx' && (!mx.isSome || hi.isSome) | _ => false)
  | .sls y lo' hi' => (match op with | .slice t x lo hi none => isStr P t && okX x y && okO lo lo' && okO hi hi' | _ => false)
  | .rng y => (match op with | .range t x => isStr P t && okX x y | _ => false)
  | .nxt y => (match op with | .next x true => okX x y | _ => false)
  | .ext y i => (match op with | .extract x j => j == i && okX x y | _ => false)
  | .b2s y => (match op with | .convert t1 t2 x => (match P.underlying t1 with | some (.slice e) => (match P.underlying e with | some (.int .u8) => true | _ => false) | _ => false) && isStr P t2 && okX x y | _ => false)
  | ao => (match op with | .call c => okBlt P c ao | _ => false)

section
variable {P : Program} {base : Nat} {w0 : World} {lm0 : Nat → Nat} {N : Nat} {g : Gs} {a : Act} {w : World} {s : St} {o : Oper}

theorem ofList {α : Type} {x : Array α} {l : List α} (h : x.toList = l) : x = l.toArray := by rw [← h]

theorem blt_sound (S : Sim base w0 lm0 N g a w s) {c : Go.Call} {ao : AOp} {call : Call} {d : Nat} {e : Eff} (ho : o.op = .call c) (h : okBlt P c ao = true) (he : eff call s d ao = some e) : EffOK P base w0 lm0 N g a w s o e := by
  obtain ⟨cal, args, ts⟩ := c
  unfold okBlt at h
  dsimp only at h
  split at h
  · rename_i x t y h2 h3
    rw [ofList h2, ofList h3] at ho
    simp only [Bool.and_eq_true] at h
    cases ht : P.underlying t with
    | none => rw [ht] at h; simp at h
    | some q =>
      rw [ht] at h
      cases q <;> simp at h
      exact eff_len S ho ht h he
  · rename_i x t y h2 h3
    rw [ofList h2, ofList h3] at ho
    simp only [Bool.and_eq_true] at h
    exact eff_lens S ho (isStr_sound h.1) h.2 he
  · rename_i x y t t2 e' k by_ x' y' h2 h3
    rw [ofList h2, ofList h3] at ho
    simp only [Bool.and_eq_true, decide_eq_true_eq, beq_iff_eq] at h
    obtain ⟨⟨⟨⟨⟨rfl, q1⟩, q2⟩, q3⟩, q4⟩, q5⟩ := h
    exact eff_app S q1 ho (isSl_sound q2) q3 q4 q5 he
  · rename_i x y t t2 e' by_ x' y' h2 h3
    rw [ofList h2, ofList h3] at ho
    simp only [Bool.and_eq_true] at h
    obtain ⟨⟨⟨⟨q1, q2⟩, q3⟩, q4⟩, q5⟩ := h
    exact eff_apps S ho (isSl_sound q1) (isStr_sound q2) q3 q4 q5 he
  · rename_i x y t t2 k x' y' h2 h3
    rw [ofList h2, ofList h3] at ho
    simp only [Bool.and_eq_true, decide_eq_true_eq] at h
    obtain ⟨⟨⟨q1, q2⟩, q3⟩, q4⟩ := h
    cases ht : P.underlying t with
    | none => rw [ht] at q2; simp at q2
    | some q =>
      rw [ht] at q2
      cases q <;> simp at q2
      exact eff_cpy S q1 ho ht q2 q3 q4 he
  · rename_i x t y h2 h3
    rw [ofList h2, ofList h3] at ho
    simp only [Bool.and_eq_true] at h
    cases ht : P.underlying t with
    | none => rw [ht] at h; simp at h
    | some q =>
      rw [ht] at h
      cases q <;> simp at h
      exact eff_lend S ho ht h he
  · rename_i x y t t2 k x' y' h2 h3
    rw [ofList h2, ofList h3] at ho
    simp only [Bool.and_eq_true, decide_eq_true_eq] at h
    obtain ⟨⟨⟨q1, q2⟩, q3⟩, q4⟩ := h
    cases ht : P.underlying t with
    | none => rw [ht] at q2; simp at q2
    | some q =>
      rw [ht] at q2
      cases q <;> simp at q2
      exact eff_cpyd S q1 ho ht q2 q3 q4 he
  · rename_i x y t t2 k x' y' h2 h3
    rw [ofList h2, ofList h3] at ho
    simp only [Bool.and_eq_true, decide_eq_true_eq] at h
    obtain ⟨⟨⟨q1, q2⟩, q3⟩, q4⟩ := h
    cases ht : P.underlying t with
    | none => rw [ht] at q2; simp at q2
    | some q =>
      rw [ht] at q2
      cases q <;> simp at q2
      exact eff_cpyo S q1 ho ht q2 q3 q4 he
  · exact eff_mm S (mx := true) (xs := args.toList) (by simpa using ho) h he
  · exact eff_mm S (mx := false) (xs := args.toList) (by simpa using ho) h he
  · simp at h

theorem s1_sound (S : Sim base w0 lm0 N g a w s) {so : SOp} {y : X} {call : Call} {d : Nat} {e : Eff} (h : okS1 P o.op so y = true) (he : eff call s d (.s1 so y) = some e) : EffOK P base w0 lm0 N g a w s o e := by
  simp only [eff] at he
  split at he
  · rename_i z hv
    cases hr : sop1 so z with
    | none => rw [hr] at he; simp [uns] at he
    | some r =>
      rw [hr] at he
      simp only [uns, Option.some.injEq] at he
      subst he
      unfold okS1 at h
      split at h
      · rename_i u u' t x ho
        simp only [Bool.and_eq_true, decide_eq_true_eq] at h
        exact eff_un S ho h.1 h.2 hv hr
      · rename_i k t1 t2 x ho
        simp only [Bool.and_eq_true] at h
        obtain ⟨⟨q1, q2⟩, q3⟩ := h
        obtain ⟨d1, hd1⟩ := Option.isSome_iff_exists.1 q1
        cases ht : P.underlying t2 with
        | none => rw [ht] at q2; simp at q2
        | some q =>
          rw [ht] at q2
          cases q <;> simp at q2
          subst q2
          exact eff_cv S ho hd1 ht q3 hv hr
      · rename_i t1 t2 x ho
        simp only [Bool.and_eq_true] at h
        obtain ⟨⟨q1, q2⟩, q3⟩ := h
        obtain ⟨d1, hd1⟩ := Option.isSome_iff_exists.1 q1
        exact eff_i2s S ho hd1 (isStr_sound q2) q3 hv hr
      · rename_i t1 t2 x ho
        simp only [Bool.and_eq_true] at h
        obtain ⟨⟨q1, q2⟩, q3⟩ := h
        obtain ⟨d1, hd1⟩ := Option.isSome_iff_exists.1 q1
        exact eff_s2s S ho hd1 (isStr_sound q2) q3 hv hr
      · simp at h
  · simp at he

theorem s2_sound (S : Sim base w0 lm0 N g a w s) {so : SOp} {y1 y2 : X} {call : Call} {d : Nat} {e : Eff} (h : okS2 P o.op so y1 y2 = true) (he : eff call s d (.s2 so y1 y2) = some e) : EffOK P base w0 lm0 N g a w s o e := by
  have plain : (∀ ne, so ≠ .peq ne) → ∃ z1 z2 r, y1.ev s = some (.p z1) ∧ y2.ev s = some (.p z2) ∧ sop2 so z1 z2 = some r ∧ e = ⟨.p r, []⟩ := by
    intro hne
    simp only [eff] at he
    split at he
    · rename_i z1 z2 hv1 hv2
      cases hr : sop2 so z1 z2 with
      | none => rw [hr] at he; simp [uns] at he
      | some r =>
        rw [hr] at he
        simp only [uns, Option.some.injEq] at he
        exact ⟨z1, z2, r, hv1, hv2, hr, he.symm⟩
    · exfalso
      cases so <;> first | (simp at he; done) | exact hne _ rfl
    · simp at he
  unfold okS2 at h
  split at h
  · rename_i b b' t x1 x2 ty ho
    simp only [Bool.and_eq_true, decide_eq_true_eq] at h
    obtain ⟨⟨rfl, q2⟩, q3⟩ := h
    obtain ⟨z1, z2, r, hv1, hv2, hr, rfl⟩ := plain (by simp)
    exact eff_bin S ho q2 q3 hv1 hv2 hr
  · rename_i t x1 x2 ho
    simp only [Bool.and_eq_true] at h
    obtain ⟨⟨q1, q2⟩, q3⟩ := h
    obtain ⟨z1, z2, r, hv1, hv2, hr, rfl⟩ := plain (by simp)
    exact eff_idx S ho (isStr_sound q1) q2 q3 hv1 hv2 hr
  · rename_i ne b t x1 x2 ty ho
    simp only [Bool.and_eq_true, decide_eq_true_eq] at h
    obtain ⟨⟨⟨q0, q1⟩, q2⟩, q3⟩ := h
    obtain ⟨z1, z2, r, hv1, hv2, hr, rfl⟩ := plain (by simp)
    cases ht : P.underlying t with
    | none => rw [ht] at q1; simp at q1
    | some q =>
      rw [ht] at q1
      cases q <;> simp at q1
      exact eff_beq S q0 ho ht q2 q3 hv1 hv2 hr
  · rename_i ne b t x1 x2 ty ho
    simp only [Bool.and_eq_true, decide_eq_true_eq] at h
    obtain ⟨⟨⟨q0, q1⟩, q2⟩, q3⟩ := h
    cases ht : P.underlying t with
    | none => rw [ht] at q1; simp at q1
    | some q =>
      rw [ht] at q1
      cases q <;> simp at q1
      exact eff_peq S q0 ho ht q2 q3 he
  · simp at h

theorem all_len {k : Nat} {l : List (List PV)} (h : (l.all fun c => c.length == k) = true) : ∀ c ∈ l, c.length = k := by
  intro c hc
  have := List.all_eq_true.1 h c hc
  simpa using this

theorem eff_sound (S : Sim base w0 lm0 N g a w s) {ao : AOp} {call : Call} {d : Nat} {e : Eff} (h : okA P o.op ao = true) (he : eff call s d ao = some e) : EffOK P base w0 lm0 N g a w s o e := by
  cases ao
  case mv y =>
    simp only [eff] at he
    cases hv : y.ev s with
    | none => rw [hv] at he; simp at he
    | some v =>
      rw [hv] at he
      simp only [Option.some.injEq] at he
      subst he
      simp only [okA] at h
      split at h
      · rename_i x ho; exact eff_mv S (.inl ho) h hv
      · rename_i x ho; exact eff_mv S (.inr ho) h hv
      · simp at h
  case nl e' k =>
    simp only [okA, Bool.and_eq_true, decide_eq_true_eq] at h
    obtain ⟨h0, h⟩ := h
    split at h
    · rename_i ho; exact eff_nl S h0 (.inl ho) he
    · rename_i ho; exact eff_nl S h0 (.inr ho) he
    · simp at h
  case pick c' a' b' =>
    simp only [okA] at h
    split at h
    · rename_i c x y ho
      simp only [Bool.and_eq_true] at h
      obtain ⟨⟨q1, q2⟩, q3⟩ := h
      simp only [eff] at he
      split at he
      · rename_i b v1 v2 h1 h2 h3
        simp only [Option.some.injEq] at he
        subst he
        exact eff_pick S ho q1 q2 q3 h1 h2 h3
      · simp at he
    · simp at h
  case box e' k y =>
    simp only [okA] at h
    split at h
    · rename_i t x ho
      simp only [Bool.and_eq_true, decide_eq_true_eq, beq_iff_eq] at h
      obtain ⟨⟨rfl, q2⟩, q3⟩ := h
      exact eff_box S q2 ho q3 he
    · simp at h
  case alloc e' k rows =>
    simp only [okA] at h
    split at h
    · rename_i t ho
      simp only [Bool.and_eq_true, decide_eq_true_eq, beq_iff_eq] at h
      obtain ⟨⟨⟨⟨rfl, q2⟩, q3⟩, q4⟩, q5⟩ := h
      cases hz : zeroOf P t with
      | none => rw [hz] at q3; simp at q3
      | some z =>
        rw [hz] at q3
        exact eff_alloc S q2 ho hz q3 (all_len q4) (by simp only [maxLen]; omega) he
    · simp at h
  case boxp e' k y =>
    simp only [okA] at h
    split at h
    · rename_i t x ho
      simp only [Bool.and_eq_true, decide_eq_true_eq, beq_iff_eq] at h
      obtain ⟨⟨rfl, q2⟩, q3⟩ := h
      exact eff_boxp S q2 ho q3 he
    · simp at h
  case alcp e' k rows =>
    simp only [okA] at h
    split at h
    · rename_i t ho
      simp only [Bool.and_eq_true, decide_eq_true_eq, beq_iff_eq] at h
      obtain ⟨⟨⟨rfl, q2⟩, q3⟩, q4⟩ := h
      cases hz : zeroOf P t with
      | none => rw [hz] at q3; simp at q3
      | some z =>
        rw [hz] at q3
        exact eff_alcp S q2 ho hz q3 (all_len q4) he
    · simp at h
  case bld z qs =>
    simp only [okA] at h
    split at h
    · rename_i t ps ho
      split at h
      · rename_i fs zv ht hz
        simp only [Bool.and_eq_true] at h
        obtain ⟨⟨q1, q2⟩, q3⟩ := h
        exact eff_bld_struct S ho ht hz q1 q2 q3 he
      · simp at h
    · simp at h
  case bldp z qs =>
    have he' : eff call s d (.bld z qs) = some e := by
      simp only [eff] at he ⊢
      cases hv0 : evp s (qs.map fun q => q.2.2) with
      | none => rw [hv0] at he; simp at he
      | some ys =>
        rw [hv0] at he
        dsimp only at he
        obtain ⟨q1, q2⟩ := evp_evs hv0
        rw [q1]
        dsimp only
        rw [q2 s.h]
        exact he
    simp only [okA] at h
    split at h
    · rename_i t ps ho
      split at h
      · rename_i fs zv ht hz
        simp only [Bool.and_eq_true] at h
        obtain ⟨⟨q1, q2⟩, q3⟩ := h
        exact eff_bld_struct S ho ht hz q1 q2 q3 he'
      · simp at h
    · simp at h
  case bsl el k z qs =>
    simp only [okA] at h
    split at h
    · rename_i t n ps ho
      simp only [Bool.and_eq_true, decide_eq_true_eq, beq_iff_eq, Bool.or_eq_true] at h
      obtain ⟨⟨⟨⟨⟨⟨⟨⟨q1, q2⟩, q3⟩, q4⟩, q5⟩, q6⟩, q7⟩, q8⟩, q9⟩ := h
      exact eff_bsl S q2 ho (isSl_sound q1) q3 q4 (all_len q5) rfl q7 q8 q6 q9 he
    · simp at h
  case bslp el k z qs =>
    simp only [okA] at h
    split at h
    · rename_i t n ps ho
      simp only [Bool.and_eq_true, decide_eq_true_eq, beq_iff_eq, Bool.or_eq_true] at h
      obtain ⟨⟨⟨⟨⟨⟨⟨⟨q1, q2⟩, q3⟩, q4⟩, q5⟩, q6⟩, q7⟩, q8⟩, q9⟩ := h
      exact eff_bslp S q2 ho (isSl_sound q1) q3 q4 (all_len q5) rfl q7 q8 q6 q9 he
    · simp at h
  case iad k y j =>
    simp only [okA] at h
    split at h
    · rename_i t x i ho
      simp only [Bool.and_eq_true, decide_eq_true_eq] at h
      obtain ⟨⟨⟨q1, q2⟩, q3⟩, q4⟩ := h
      split at q1
      · rename_i e' ht
        exact eff_iad S ho ht (by simpa using q1) q2 q3 q4 he
      · simp at q1
    · simp at h
  case fad y off =>
    simp only [okA] at h
    split at h
    · rename_i t x i ho
      simp only [Bool.and_eq_true] at h
      obtain ⟨q1, q2⟩ := h
      split at q1
      · rename_i fs ht
        split at q1
        · rename_i f hf
          simp only [Bool.and_eq_true, decide_eq_true_eq, beq_iff_eq] at q1
          exact eff_fad S ho ht hf q1.1 q1.2 q2 he
        · simp at q1
      · simp at q1
    · simp at h
  case ld1d y =>
    simp only [okA] at h
    split at h
    · rename_i t x ho
      simp only [Bool.and_eq_true, decide_eq_true_eq] at h
      exact eff_ld1d S ho h.1 h.2 he
    · simp at h
  case ld1o y =>
    simp only [okA] at h
    split at h
    · rename_i t x ho
      simp only [Bool.and_eq_true, decide_eq_true_eq] at h
      exact eff_ld1o S ho h.1 h.2 he
    · simp at h
  case sto1o x' y' =>
    simp only [okA] at h
    split at h
    · rename_i t x y ho
      simp only [Bool.and_eq_true, beq_iff_eq] at h
      exact eff_sto1o S ho h.1.1 h.1.2 h.2 he
    · simp at h
  case stod x' y' =>
    simp only [okA] at h
    split at h
    · rename_i t x y ho
      simp only [Bool.and_eq_true, beq_iff_eq] at h
      exact eff_stod S ho h.1.1 h.1.2 h.2 he
    · simp at h
  case sbn T e1 =>
    simp only [okA] at h
    split at h
    · rename_i t ho
      simp only [Bool.and_eq_true, beq_iff_eq] at h
      obtain ⟨rfl, h2⟩ := h
      cases hz : zeroOf P t with
      | none => rw [hz] at h2; simp at h2
      | some z =>
        rw [hz] at h2
        dsimp only at h2
        split at h2
        · rename_i hzc
          exact eff_sbn S ho hz (by apply Array.ext'; rw [hzc]) he
        · simp at h2
    · simp at h
  case mvs y z =>
    simp only [okA] at h
    split at h
    · rename_i x ho; exact eff_mvs S (.inl ho) h he
    · rename_i x ho; exact eff_mvs S (.inr ho) h he
    · simp at h
  case iap k y j =>
    have he' : eff call s d (.ia k y j) = some e := by
      simp only [eff] at he ⊢
      split at he
      · rename_i h1 h2; rw [h1, h2]; exact he
      · simp at he
    simp only [okA] at h
    split at h
    · rename_i t x i ho
      simp only [Bool.and_eq_true, decide_eq_true_eq] at h
      obtain ⟨⟨⟨q1, q2⟩, q3⟩, q4⟩ := h
      split at q1
      · rename_i e' ht
        exact eff_ia S ho ht (by simpa using q1) q2 q3 q4 he'
      · simp at q1
    · simp at h
  case ldp1 y =>
    have he' : eff call s d (.ld1 y) = some e := by
      simp only [eff] at he ⊢
      split at he
      · rename_i h1; rw [h1]; exact he
      · simp at he
    simp only [okA] at h
    split at h
    · rename_i t x ho
      simp only [Bool.and_eq_true, decide_eq_true_eq] at h
      exact eff_ld1 S ho h.1 h.2 he'
    · simp at h
  case ldpk k y =>
    have he' : eff call s d (.ldk k y) = some e := by
      simp only [eff] at he ⊢
      split at he
      · rename_i h1; rw [h1]; exact he
      · simp at he
    simp only [okA] at h
    split at h
    · rename_i t x ho
      simp only [Bool.and_eq_true, decide_eq_true_eq, beq_iff_eq] at h
      obtain ⟨⟨⟨q1, q2⟩, q3⟩, q4⟩ := h
      exact eff_ldk S ho q1 q2 q3 q4 he'
    · simp at h
  case mvp y =>
    simp only [eff] at he
    cases hv : y.ev s with
    | none => rw [hv] at he; simp at he
    | some v =>
      rw [hv] at he
      dsimp only at he
      cases hf : frz s.h v with
      | none => rw [hf] at he; simp at he
      | some q =>
        obtain ⟨z, fr⟩ := q
        rw [hf] at he
        simp only [Option.some.injEq] at he
        subst he
        simp only [okA] at h
        split at h
        · rename_i x ho
          exact EffOK.frz S (okX_sound S h hv) hf (u := a.eval x) (by simp [execOp, ho]) (fun lm' h => h)
        · rename_i x ho
          exact EffOK.frz S (okX_sound S h hv) hf (u := a.eval x) (by simp [execOp, ho]) (fun lm' h => h)
        · simp at h
  case ld1 y =>
    simp only [okA] at h
    split at h
    · rename_i t x ho
      simp only [Bool.and_eq_true, decide_eq_true_eq] at h
      exact eff_ld1 S ho h.1 h.2 he
    · simp at h
  case ldk k y =>
    simp only [okA] at h
    split at h
    · rename_i t x ho
      simp only [Bool.and_eq_true, decide_eq_true_eq, beq_iff_eq] at h
      obtain ⟨⟨⟨q1, q2⟩, q3⟩, q4⟩ := h
      exact eff_ldk S ho q1 q2 q3 q4 he
    · simp at h
  case sto k x' y' =>
    simp only [okA] at h
    split at h
    · rename_i t x y ho
      simp only [Bool.and_eq_true, decide_eq_true_eq, beq_iff_eq] at h
      obtain ⟨⟨⟨q1, q2⟩, q3⟩, q4⟩ := h
      exact eff_sto S q2 ho q1 q3 q4 he
    · simp at h
  case s1 so y => exact s1_sound S h he
  case s2 so y1 y2 => exact s2_sound S h he
  case eqst ne ks y1 y2 =>
    simp only [okA] at h
    split at h
    · rename_i b t x1 x2 ty ho
      simp only [Bool.and_eq_true, decide_eq_true_eq, Bool.not_eq_true'] at h
      obtain ⟨⟨⟨⟨⟨q1, q2⟩, q3⟩, q4⟩, q5⟩, q6⟩ := h
      cases ht : P.underlying t with
      | none => rw [ht] at q2; simp at q2
      | some q =>
        rw [ht] at q2
        cases q <;> simp at q2
        exact eff_eqst S q1 ho ht q2 q3 q4 q5 q6 he
    · simp at h
  case nck y =>
    simp only [okA] at h
    split at h
    · rename_i x ho; exact eff_nck S ho h he
    · simp at h
  case mki t y =>
    simp only [okA] at h
    split at h
    · rename_i t' x ho
      simp only [Bool.and_eq_true, beq_iff_eq] at h
      obtain ⟨⟨rfl, q2⟩, q3⟩ := h
      cases ht : P.underlying t' with
      | none => rw [ht] at q2; simp at q2
      | some q =>
        rw [ht] at q2
        exact eff_mki S ho ht (fun ms hms => by rw [hms] at q2; simp at q2) q3 he
    · simp at h
  case fld1 y off =>
    simp only [okA] at h
    split at h
    · rename_i t x i ho
      simp only [Bool.and_eq_true] at h
      obtain ⟨q1, q2⟩ := h
      split at q1
      · rename_i fs ht
        split at q1
        · rename_i f hf
          simp only [Bool.and_eq_true, decide_eq_true_eq, beq_iff_eq] at q1
          exact eff_fld1 S ho ht hf q1.1 q1.2 q2 he
        · simp at q1
      · simp at q1
    · simp at h
  case ixa k m y j =>
    simp only [okA] at h
    split at h
    · rename_i t x i ho
      simp only [Bool.and_eq_true, decide_eq_true_eq] at h
      obtain ⟨⟨⟨q1, q2⟩, q3⟩, q4⟩ := h
      split at q1
      · rename_i m' e' ht
        simp only [Bool.and_eq_true, decide_eq_true_eq, beq_iff_eq] at q1
        obtain ⟨⟨rfl, p2⟩, p3⟩ := q1
        exact eff_ixa S ho ht p2 p3 q2 q3 q4 he
      · simp at q1
    · simp at h
  case fldk y off k =>
    simp only [okA] at h
    split at h
    · rename_i t x i ho
      simp only [Bool.and_eq_true] at h
      obtain ⟨q1, q2⟩ := h
      split at q1
      · rename_i fs ht
        split at q1
        · rename_i f hf
          simp only [Bool.and_eq_true, decide_eq_true_eq, beq_iff_eq] at q1
          obtain ⟨⟨⟨p1, p2⟩, p3⟩, p4⟩ := q1
          exact eff_fldk S ho ht hf p1 p2 p3 p4 q2 he
        · simp at q1
      · simp at q1
    · simp at h
  case fa y off =>
    simp only [okA] at h
    split at h
    · rename_i t x i ho
      simp only [Bool.and_eq_true] at h
      obtain ⟨q1, q2⟩ := h
      split at q1
      · rename_i fs ht
        split at q1
        · rename_i f hf
          simp only [Bool.and_eq_true, decide_eq_true_eq, beq_iff_eq] at q1
          exact eff_fa S ho ht hf q1.1 q1.2 q2 he
        · simp at q1
      · simp at q1
    · simp at h
  case ia k y j =>
    simp only [okA] at h
    split at h
    · rename_i t x i ho
      simp only [Bool.and_eq_true, decide_eq_true_eq] at h
      obtain ⟨⟨⟨q1, q2⟩, q3⟩, q4⟩ := h
      split at q1
      · rename_i e' ht
        exact eff_ia S ho ht (by simpa using q1) q2 q3 q4 he
      · simp at q1
    · simp at h
  case aa k m y j =>
    simp only [okA] at h
    split at h
    · rename_i t x i ho
      simp only [Bool.and_eq_true, decide_eq_true_eq] at h
      obtain ⟨⟨⟨q1, q2⟩, q3⟩, q4⟩ := h
      split at q1
      · rename_i m' e' ht
        simp only [Bool.and_eq_true, beq_iff_eq] at q1
        obtain ⟨rfl, q5⟩ := q1
        exact eff_aa S ho ht q5 q2 q3 q4 he
      · simp at q1
    · simp at h
  case mkf f ys =>
    simp only [okA] at h
    split at h
    · rename_i f' first xs ho
      simp only [Bool.and_eq_true, beq_iff_eq] at h
      obtain ⟨⟨rfl, q2⟩, q3⟩ := h
      have : first = #[] := by simpa using q2
      subst this
      exact eff_mkf S (xs := xs.toList) (by simpa using ho) q3 he
    · simp at h
  case mks e' k by_ z x' y' =>
    simp only [okA] at h
    split at h
    · rename_i t x y ho
      simp only [Bool.and_eq_true, decide_eq_true_eq] at h
      obtain ⟨⟨⟨⟨⟨q1, q2⟩, q3⟩, q4⟩, q5⟩, q6⟩ := h
      cases hz : zeroOf P e' with
      | none => rw [hz] at q4; simp at q4
      | some zv =>
        rw [hz] at q4
        exact eff_mks S q2 ho (isSl_sound q1) q3 hz q4 q5 q6 he
    · simp at h
  case slc k y lo' hi' mx' =>
    simp only [okA] at h
    split at h
    · rename_i t x lo hi mx ho
      simp only [Bool.and_eq_true, decide_eq_true_eq] at h
      obtain ⟨⟨⟨⟨⟨⟨q1, q2⟩, q3⟩, q4⟩, q5⟩, q6⟩, q7⟩ := h
      split at q1
      · rename_i e' ht
        exact eff_slc S ho ht (by simpa using q1) q2 q3 q4 q5 q6 (fun hm => by rw [hm] at q7; simpa using q7) he
      · simp at q1
    · simp at h
  case sls y lo' hi' =>
    simp only [okA] at h
    split at h
    · rename_i t x lo hi ho
      simp only [Bool.and_eq_true] at h
      obtain ⟨⟨⟨q1, q2⟩, q3⟩, q4⟩ := h
      exact eff_sls S ho (isStr_sound q1) q2 q3 q4 he
    · simp at h
  case rng y =>
    simp only [okA] at h
    split at h
    · rename_i t x ho
      simp only [Bool.and_eq_true] at h
      exact eff_rng S ho (isStr_sound h.1) h.2 he
    · simp at h
  case nxt y =>
    simp only [okA] at h
    split at h
    · rename_i x ho; exact eff_nxt S ho h he
    · simp at h
  case ext y i =>
    simp only [okA] at h
    split at h
    · rename_i x j ho
      simp only [Bool.and_eq_true, beq_iff_eq] at h
      obtain ⟨rfl, q2⟩ := h
      exact eff_ext S ho q2 he
    · simp at h
  case b2s y =>
    simp only [okA] at h
    split at h
    · rename_i t1 t2 x ho
      simp only [Bool.and_eq_true] at h
      obtain ⟨⟨q1, q2⟩, q3⟩ := h
      split at q1
      · rename_i e' ht
        split at q1
        · rename_i hu; exact eff_b2s S ho ht (isStr_sound q2) hu q3 he
        · simp at q1
      · simp at q1
    · simp at h
  all_goals
    simp only [okA] at h
    split at h
    · rename_i c ho; exact blt_sound S ho h he
    · simp at h
end
end Go.Proofs.Ytomnggbideepeaa.AM

end
section
/- What is asked of memory ahead of a call: the library's variable internal/bytealg.MaxLen holds some number. No condition. -/
namespace Go.Proofs.Ytomnggbideepeaa.AM
open Go Go.RowKit
/-- The library's variable holds some number. -/
def Kw (w : World) : Prop := ∃ m, w.cell? ⟨0, 0, none⟩ = some (.int .i64 m)
def Kb (base : Nat) (w : World) : Prop := Kw w ∧ 0 < base
theorem Kw.b {w : World} (h : Kw w) : Kb w.heap.size w := by
  refine ⟨h, ?_⟩
  obtain ⟨m, hm⟩ := h
  unfold World.cell? at hm
  rcases Nat.eq_zero_or_pos w.heap.size with h0 | h0
  · have : w.heap[0]? = none := Array.getElem?_eq_none (by omega)
    simp [this] at hm
  · exact h0
theorem Kb.at {base : Nat} {w0 w : World} (h : Kb base w0) (hb : Below base w0 w) : Kw w := by
  obtain ⟨⟨m, hm⟩, h0⟩ := h
  exact ⟨m, (World.cell?_of_block (a := ⟨0, 0, none⟩) (hb.block 0 h0)).trans hm⟩
end Go.Proofs.Ytomnggbideepeaa.AM

end
section
/- The small machine's calls and steps, against Go's. No condition. -/
namespace Go.Proofs.Ytomnggbideepeaa.AM
open Go Go.RowKit
set_option linter.unusedVariables false
set_option linter.unusedSimpArgs false

def Callable (P : Program) (f : FuncId) : Prop := ∃ fn, P.funcs[f]? = some fn ∧ (fn.name == "runtime.NumGoroutine") = false ∧ fn.body.isNone = false

def RRep (base : Nat) (w : World) (lm : Nat → Nat) : Ret → Value → Prop
  | .val x, u => Rep w lm x u
  | .sb _ _ _, _ => False
  | .deep e k l, u => ∃ gv : Nat → Value, gv 0 = u ∧ ORep w ⟨lm, gv⟩ base 0 (.dp e k l) ∧ ∃ own : Nat → Nat, ∀ x b, Ids 0 (.dp e k l) x → blk (gv x) = some b → own b = x
  | .own e k l, u => 0 < k ∧ (∀ c ∈ l, c.length = k) ∧ (∃ xs, w.ownsRow base e k u l.length xs ∧ RepL w lm l.flatten xs ∧ ∀ x ∈ xs, x.oneCell' = true) ∧ ∀ b, blk u = some b → lm b = 0

/-- Called with values that read so, a function returns what reads so; nothing that was there has turned. -/
def CallOK' (P : Program) (f : FuncId) (args : List PV) (r : Ret) : Prop :=
  ∀ (w0 : World) (lm0 : Nat → Nat) (vs : List Value), Kw w0 → RepL w0 lm0 args vs → Calls P f vs.toArray w0 fun e w' => ∃ u lm', e = .returned u ∧ Below w0.heap.size w0 w' ∧ (∀ b, b < w0.heap.size → lm' b = lm0 b) ∧ RRep w0.heap.size w' lm' r u

/-- What a builder's function does. -/
def SbOK (P : Program) (k : Nat) (T e : TypeId) (f : FuncId) : Prop := if k = 1 then SbWrite P T e f else if k = 3 then SbRune P T e f else SbString P T e f
def CallOK (P : Program) (f : FuncId) (args : List PV) (r : Ret) : Prop := match r with
  | .sb k T e => SbOK P k T e f
  | r => CallOK' P f args r
theorem CallOK.plain {P : Program} {f : FuncId} {args : List PV} {r : Ret} (h : CallOK P f args r) (hr : ∀ k T e, r ≠ .sb k T e) : CallOK' P f args r := by
  cases r with
  | sb k T e => exact absurd rfl (hr k T e)
  | val x => exact h
  | own e k l => exact h
  | deep e k l => exact h
theorem CallOK.of {P : Program} {f : FuncId} {args : List PV} {r : Ret} (h : CallOK' P f args r) (hr : ∀ k T e, r ≠ .sb k T e) : CallOK P f args r := by
  cases r with
  | sb k T e => exact absurd rfl (hr k T e)
  | val x => exact h
  | own e k l => exact h
  | deep e k l => exact h

def Good (P : Program) (call : Call) : Prop := ∀ f args r, call f args = some r → CallOK P f args r ∧ Callable P f

def methOk (P : Program) (t : TypeId) (m : String) (f : FuncId) : Bool := match P.info? t, P.underlying t with
  | some i, some u => (match u with | .pointer _ => false | _ => true) && (match i.methods.find? (·.name == m) with
    | some mm => mm.path.isEmpty && (match mm.func with | some (f', false) => f' == f | _ => false)
    | none => false)
  | _, _ => false

def okCall (P : Program) (op : Op) (ao : AOp) : Bool := match op with
  | .call c => (match c.callee, ao with
    | .value (.func f), .cl f' ys => f == f' && okXs c.args.toList ys
    | .value (.func f), .cld f' ys => f == f' && okXs c.args.toList ys
    | .value (.func f), .sbw f' y1 y2 => f == f' && okXs c.args.toList [y1, y2]
    | .value (.func f), .sbs f' y1 => f == f' && okXs c.args.toList [y1]
    | .value x, .cv y ys => okX x y && okXs c.args.toList ys
    | .invoke x m, .inv t f m' y ys => m == m' && okX x y && okXs c.args.toList ys && methOk P t m f
    | _, _ => false)
  | _ => false

section
variable {P : Program} {base : Nat} {w0 : World} {lm0 : Nat → Nat} {N : Nat} {g : Gs} {a : Act} {w : World} {s : St} {o : Oper}

/-- What a call gives that the caller alone has. -/
theorem Sim.calledOwn (S : Sim base w0 lm0 N g a w s) {w' : World} {lm' : Nat → Nat} {u : Value} (hb : Below w.heap.size w w') (hl : ∀ b, b < w.heap.size → lm' b = g.lm b) {e k : Nat} {l : List (List PV)} (hr : RRep w.heap.size w' lm' (.own e k l) u) {id : Nat} (hid : get s.h id = none) (hid2 : id < 1000000) :
    ∃ g', Sim base w0 lm0 N g' a w' ⟨s.t, AM.put s.h id (.row e k false l)⟩ ∧ SRep w' g' (get (AM.put s.h id (.row e k false l))) (.ms id 0 l.length) u := by
  obtain ⟨q1, q2, ⟨xs, q3, q4, q5⟩, q6⟩ := hr
  obtain ⟨S', T'⟩ := S.new (id := id) hid hid2 hb hl (hop := rfl) (v0 := u) (o := .row e k false l) (fun b hb' => by
      rcases q3.2 with ⟨hv, _⟩ | ⟨b', cap, cur, hv, h1, _⟩
      · rw [hv] at hb'; simp [blk] at hb'
      · rw [hv] at hb'; simp [blk] at hb'; omega)
    ⟨q1, q2, ⟨xs, by
      simp only [upd_same]
      refine ⟨q3.1, ?_⟩
      rcases q3.2 with h | ⟨b', cap, cur, hv, h1, h2⟩
      · exact .inl h
      · exact .inr ⟨b', cap, cur, hv, Nat.le_trans S.bw h1, h2⟩, q4, q5⟩, fun b hb' => by simp only [upd_same] at hb'; simpa using q6 b hb'⟩
  refine ⟨⟨lm', upd g.v id u⟩, S', ?_⟩
  have := srep_new_ms (w' := w') (g' := ⟨lm', upd g.v id u⟩) (h' := AM.put s.h id (.row e k false l)) (get_put_same _ _ _) (n := l.length) rfl
  simp only [upd_same] at this
  exact this

/-- What a call leaves in the caller's state. -/
theorem Sim.called (S : Sim base w0 lm0 N g a w s) {w' : World} {lm' : Nat → Nat} {u : Value} {r : Ret} (hb : Below w.heap.size w w') (hl : ∀ b, b < w.heap.size → lm' b = g.lm b) (hr : RRep w.heap.size w' lm' r u) {h0 fr : List (Nat × Ob)} {d : Nat} {e : Eff} (hf : ∀ d, Fz (get h0 d) (get s.h d)) (he : ret1 h0 fr d r = some e) (hs : s.h = putAll h0 fr) :
    ∃ g', Sim base w0 lm0 N g' a w' ⟨s.t, putAll h0 e.hs⟩ ∧ SRep w' g' (get (putAll h0 e.hs)) e.v u := by
  have hext := Ext.of_below hb hl
  cases r with
  | val x =>
    simp only [ret1, Option.some.injEq] at he
    subst he
    refine ⟨⟨lm', g.v⟩, ?_, hr⟩
    have := S.turn (w' := w') (g' := ⟨lm', g.v⟩) (h' := s.h) ⟨hext, fun d o h => .inr ⟨rfl, o, h, Shp.refl _⟩⟩ (hb.mono S.bw) (fun b h => hl b (Nat.lt_of_lt_of_le h S.bw)) (fun d1 o1 h1 => (S.ob d1 o1 h1).keep (fun _ _ => rfl) hext fun hlv x hi b hbk => by
      have := ((S.ob d1 o1 h1).blockI hlv hi hbk).2
      exact ⟨hb.block b this, hl b this⟩) S.lt S.ap
    rw [hs] at this
    exact this
  | own e' k l =>
    simp only [ret1] at he
    cases hid : newId h0 d with
    | none => rw [hid] at he; simp at he
    | some id =>
      rw [hid] at he
      simp only [Option.some.injEq] at he
      subst he
      obtain ⟨g', S', R'⟩ := S.calledOwn hb hl hr (newId_fz hf hid) (newId_lt hid)
      exact ⟨g', by rw [putAll_append, ← hs]; exact S', by rw [putAll_append, ← hs]; exact R'⟩
  | deep e' k l =>
    simp only [ret1] at he
    split at he
    · rename_i hok
      cases hid : newId h0 d with
      | none => rw [hid] at he; simp at he
      | some id =>
        rw [hid] at he
        simp only [Option.some.injEq] at he
        subst he
        obtain ⟨gv, rfl, q1, q2⟩ := hr
        obtain ⟨lm2, X2, L2, O2⟩ := dp_settle q1 hok (by omega) q2
        have hl2 : ∀ b, b < w.heap.size → lm2 b = g.lm b := fun b hb' => by
          refine (L2 b fun x hx hbx => ?_).trans (hl b hb')
          have := (q1.blockI rfl hx hbx).1
          omega
        obtain ⟨g', S', R'⟩ := S.calledOwn (lm' := lm2) hb hl2 (e := e') (k := k) (l := setL l) ⟨O2.1, O2.2.1, O2.2.2.1, fun b hb' => by simpa using O2.2.2.2 b hb'⟩ (newId_fz hf hid) (newId_lt hid)
        have hlen : (setL l).length = l.length := by simp [setL]
        rw [hlen] at R'
        exact ⟨g', by rw [putAll_append, ← hs]; exact S', by rw [putAll_append, ← hs]; exact R'⟩
    · simp at he
  | sb k T e1 => simp [ret1] at he

/-- What a call gives that is kept deep. -/
theorem Sim.calledD (S : Sim base w0 lm0 N g a w s) {w' : World} {lm' : Nat → Nat} {u : Value} {r : Ret} (hb : Below w.heap.size w w') (hl : ∀ b, b < w.heap.size → lm' b = g.lm b) (hr : RRep w.heap.size w' lm' r u) {h0 fr : List (Nat × Ob)} {d : Nat} {e : Eff} (hf : ∀ d, Fz (get h0 d) (get s.h d)) (he : ret1d h0 fr d r = some e) (hs : s.h = putAll h0 fr) :
    ∃ g', Sim base w0 lm0 N g' a w' ⟨s.t, putAll h0 e.hs⟩ ∧ SRep w' g' (get (putAll h0 e.hs)) e.v u := by
  cases r with
  | val x => simp [ret1d] at he
  | own e' k l => simp [ret1d] at he
  | sb k T e1 => simp [ret1d] at he
  | deep e' k l =>
    simp only [ret1d] at he
    cases hid : newId h0 d with
    | none => rw [hid] at he; simp at he
    | some id =>
      rw [hid] at he
      simp only [Option.some.injEq] at he
      subst he
      obtain ⟨gv, rfl, q1, own, q2⟩ := hr
      have hid2 := newId_lt hid
      let v' : Nat → Value := fun x => if x % 1000000 = id then gv (x - id) else g.v x
      have e0 : v' id = gv 0 := by
        show (if id % 1000000 = id then gv (id - id) else g.v id) = gv 0
        rw [if_pos (by omega), Nat.sub_self]
      have ep : ∀ p, v' (nid id p) = gv (nid 0 p) := fun p => by
        show (if nid id p % 1000000 = id then gv (nid id p - id) else g.v (nid id p)) = gv (nid 0 p)
        have h1 : nid id p % 1000000 = id := by unfold nid; omega
        rw [if_pos h1]
        congr 1
        unfold nid; omega
      have back : ∀ {x}, Ids id (.dp e' k l) x → Ids 0 (.dp e' k l) (x - id) ∧ v' x = gv (x - id) ∧ id ≤ x := by
        intro x hi
        rcases hi with rfl | ⟨_, _, _, p, e1, k1, l1, ho, hp, hk, rfl⟩
        · exact ⟨.inl (by omega), by rw [e0, Nat.sub_self], Nat.le_refl _⟩
        · have e2 : nid id p - id = nid 0 p := by unfold nid; omega
          exact ⟨.inr ⟨_, _, _, p, e1, k1, l1, ho, hp, hk, e2⟩, by rw [ep, e2], by unfold nid; omega⟩
      obtain ⟨S', T'⟩ := S.newG (id := id) (newId_fz hf hid) hid2 (w' := w') (lm' := lm') (v' := v') (o := .dp e' k l) hb hl (fun x hx => if_neg hx)
        (fun x b hi hbx => by
          obtain ⟨h1, h2, _⟩ := back hi
          rw [h2] at hbx
          exact (q1.blockI rfl h1 hbx).1)
        ⟨fun b => own b + id, fun x b hi hbx => by
          obtain ⟨h1, h2, h3⟩ := back hi
          rw [h2] at hbx
          have := q2 _ b h1 hbx
          show own b + id = x
          omega⟩
        (dp_shift q1 S.bw e0 ep)
      refine ⟨⟨lm', v'⟩, ?_, ?_⟩
      · rw [putAll_append, ← hs]; exact S'
      · rw [putAll_append, ← hs]
        show SRep w' ⟨lm', v'⟩ (get (AM.put s.h id (.dp e' k l))) (.ms id 0 l.length) (gv 0)
        simp only [SRep, get_put_same]
        exact ⟨by omega, .inl ⟨trivial, trivial, e0.symm⟩⟩

theorem run_callFunc {f : FuncId} (h : Callable P f) (args : Array Value) (w : World) : (callFunc f args).run P w = .ok (.enter f args) w := by
  obtain ⟨fn, h1, h2, h3⟩ := h
  have h2' : ¬ fn.name = "runtime.NumGoroutine" := by simpa using h2
  have h3' : ¬ fn.body = none := by intro h; rw [h] at h3; simp at h3
  simp [callFunc, h1, h2', h3']

theorem run_method {t : TypeId} {m : String} {f : FuncId} (h : methOk P t m f = true) (n : Nat) (v : Value) (w : World) : (method (n + 1) t v m).run P w = .ok (f, v) w := by
  unfold methOk at h
  split at h
  · rename_i i u hi hu
    simp only [Bool.and_eq_true] at h
    obtain ⟨h1, h2⟩ := h
    split at h2
    · rename_i mm hm
      simp only [Bool.and_eq_true] at h2
      obtain ⟨h3, h4⟩ := h2
      split at h4
      · rename_i f' hf
        simp at h4
        subst h4
        have hp : mm.path = #[] := by simpa using h3
        have hinf : (typeInfo t).run P w = .ok i w := by simp [typeInfo, hi]
        simp only [method, Sem.run_bind, hinf, Result.andThen_ok, hm, hp, hf]
        cases u <;> first | (simp at h1; done) | simp [follow, receiverAt, run_underlying hu, Place.get]
      · simp at h4
    · simp at h2
  · simp at h

theorem bytes_cells {lm : Nat → Nat} : ∀ {l : List (List PV)} {bl : List UInt8} {xs : List Value}, sbBytes l = some bl → RepL w lm l.flatten xs → xs = bl.map (fun c => Value.int .u8 c.toNat) ∧ l.length = bl.length
  | [], bl, xs, h, hr => by
    simp only [sbBytes, Option.some.injEq] at h
    subst h
    cases hr
    exact ⟨rfl, rfl⟩
  | y :: ys, bl, xs, h, hr => by
    unfold sbBytes at h
    split at h
    · simp_all
    · rename_i n l heq
      simp only [List.cons.injEq] at heq
      obtain ⟨rfl, rfl⟩ := heq
      split at h
      case isFalse => simp at h
      rename_i hn
      cases hb : sbBytes ys with
      | none => rw [hb] at h; simp at h
      | some b =>
        rw [hb] at h
        simp only [Option.map_some, Option.some.injEq] at h
        subst h
        rw [List.flatten_cons] at hr
        cases hr with
        | cons h1 h2 =>
          rename_i v vs
          obtain ⟨rfl, h4⟩ := bytes_cells hb h2
          have e : ((UInt8.ofNat n.toNat).toNat : Int) = n := by
            rw [UInt8.toNat_ofNat']
            omega
          refine ⟨?_, by simp [h4]⟩
          rw [rep_sc h1, List.map_cons, e]
    · simp at h

/-- A call: what Go enters. -/
theorem call_sound (hk : Kb base w0) (S : Sim base w0 lm0 N g a w s) {ao : AOp} {call : Call} (hG : Good P call) {d : Nat} {e : Eff} (h : okCall P o.op ao = true) (he : eff call s d ao = some e) {K : Act → World → Prop} {Q : Exit → Act → World → Prop}
    (hK : ∀ g' w' u, Sim base w0 lm0 N g' a w' ⟨s.t, putAll s.h e.hs⟩ → SRep w' g' (get (putAll s.h e.hs)) e.v u → K (a.put o.dst u) w') : o.wp P a w K Q := by
  have fin : ∀ (f : FuncId) (zs : List PV) (us : List Value) (fr : List (Nat × Ob)) (r : Ret) (lm' : Nat → Nat), call f zs = some r → ret1 s.h fr d r = some e → Sim base w0 lm0 N ⟨lm', g.v⟩ a w ⟨s.t, putAll s.h fr⟩ → (∀ d, Fz (get s.h d) (get (putAll s.h fr) d)) → RepL w lm' zs us →
      (execOp a.eval o).run P w = .ok (.enter f us.toArray) w → o.wp P a w K Q := by
    intro f zs us fr r lm' hc hr1 S' hF hrl hrun
    unfold Oper.wp
    rw [hrun, Oper.upon_enter]
    refine ((hG f zs r hc).1.plain (fun k T e1 h => by subst h; simp [ret1] at hr1) w lm' us (hk.at S.below) hrl).mono ?_
    rintro en w' ⟨u, lm2, rfl, hb, hl, hrr⟩
    obtain ⟨g', S2, R2⟩ := S'.called hb hl hrr hF hr1 rfl
    exact hK g' w' u S2 R2
  have finD : ∀ (f : FuncId) (zs : List PV) (us : List Value) (fr : List (Nat × Ob)) (r : Ret) (lm' : Nat → Nat), call f zs = some r → ret1d s.h fr d r = some e → Sim base w0 lm0 N ⟨lm', g.v⟩ a w ⟨s.t, putAll s.h fr⟩ → (∀ d, Fz (get s.h d) (get (putAll s.h fr) d)) → RepL w lm' zs us →
      (execOp a.eval o).run P w = .ok (.enter f us.toArray) w → o.wp P a w K Q := by
    intro f zs us fr r lm' hc hr1 S' hF hrl hrun
    unfold Oper.wp
    rw [hrun, Oper.upon_enter]
    refine ((hG f zs r hc).1.plain (fun k T e1 h => by subst h; simp [ret1d] at hr1) w lm' us (hk.at S.below) hrl).mono ?_
    rintro en w' ⟨u, lm2, rfl, hb, hl, hrr⟩
    obtain ⟨g', S2, R2⟩ := S'.calledD hb hl hrr hF hr1 rfl
    exact hK g' w' u S2 R2
  unfold okCall at h
  split at h
  case h_2 => simp at h
  rename_i c ho
  split at h
  · rename_i f f' ys hcal
    simp only [Bool.and_eq_true, beq_iff_eq] at h
    obtain ⟨rfl, hys⟩ := h
    simp only [eff] at he
    cases hv : evs s ys with
    | none => rw [hv] at he; simp at he
    | some vs =>
      rw [hv] at he
      dsimp only at he
      cases hf : AM.frzs s.h vs with
      | none => rw [hf] at he; simp at he
      | some q =>
        obtain ⟨zs, fr⟩ := q
        rw [hf] at he
        dsimp only at he
        cases hc : call f zs with
        | none => rw [hc] at he; simp at he
        | some r =>
          rw [hc] at he
          obtain ⟨lm', S1, rl, T1, F1⟩ := frzs_sim S (fun d => Fz.refl _) (okXs_sound S hys hv) hf
          refine fin f zs _ fr r lm' hc he S1 F1 rl ?_
          simp [execOp, ho, resolve, hcal, Act.eval, Deferred.ofValue, invoke, run_callFunc (hG f zs r hc).2]
          congr 2
          apply Array.ext'
          simp
  · rename_i f f' ys hcal
    simp only [Bool.and_eq_true, beq_iff_eq] at h
    obtain ⟨rfl, hys⟩ := h
    simp only [eff] at he
    cases hv : evs s ys with
    | none => rw [hv] at he; simp at he
    | some vs =>
      rw [hv] at he
      dsimp only at he
      cases hf : AM.frzs s.h vs with
      | none => rw [hf] at he; simp at he
      | some q =>
        obtain ⟨zs, fr⟩ := q
        rw [hf] at he
        dsimp only at he
        cases hc : call f zs with
        | none => rw [hc] at he; simp at he
        | some r =>
          rw [hc] at he
          obtain ⟨lm', S1, rl, T1, F1⟩ := frzs_sim S (fun d => Fz.refl _) (okXs_sound S hys hv) hf
          refine finD f zs _ fr r lm' hc he S1 F1 rl ?_
          simp [execOp, ho, resolve, hcal, Act.eval, Deferred.ofValue, invoke, run_callFunc (hG f zs r hc).2]
          congr 2
          apply Array.ext'
          simp
  · rename_i f f' y1 y2 hcal
    simp only [Bool.and_eq_true, beq_iff_eq] at h
    obtain ⟨rfl, hys⟩ := h
    simp only [eff] at he
    cases hc : call f [] with
    | none => rw [hc] at he; simp at he
    | some r =>
      rw [hc] at he
      dsimp only at he
      obtain ⟨hcr, hcal2⟩ := hG f [] r hc
      unfold sbwE at he
      split at he
      case h_2 => simp at he
      rename_i kd T e1
      split at he
      case h_2 => simp at he
      rename_i d' i j yv hx hy
      split at he
      case h_2 => simp at he
      rename_i bs hadd
      split at he
      case h_2 => simp at he
      rename_i T' k rr hd
      split at he
      case h_2 => simp at he
      rename_i e2 l hr
      split at he
      case isFalse => simp at he
      rename_i hcond
      obtain ⟨rfl, rfl, rfl, rfl, rfl, hle⟩ := hcond
      obtain rfl := unRow_eq hr
      simp only [Option.some.injEq] at he
      subst he
      have hev : evs s [y1, y2] = some [.mp d' 0 0, .p yv] := by simp only [evs, hx, hy]
      have hsr := okXs_sound S hys hev
      obtain ⟨b, p, v, hv, hbb, hg, hp, hn, hR, hlm⟩ := orep_sb (S.ob d' _ hd)
      obtain ⟨u1, u2, hargs, hu1, hu2⟩ : ∃ u1 u2, c.args.toList.map a.eval = [u1, u2] ∧ SRep w g (get s.h) (.mp d' 0 0) u1 ∧ SRep w g (get s.h) (.p yv) u2 := by
        generalize c.args.toList.map a.eval = us at hsr
        cases hsr with
        | cons h1 h2 => cases h2 with
          | cons h2 h3 => cases h3; exact ⟨_, _, rfl, h1, h2⟩
      simp only [SRep, hd] at hu1
      obtain ⟨b', hb', rfl⟩ := hu1
      rw [hv] at hb'
      simp [blk] at hb'
      subst hb'
      obtain ⟨r1, r2, ⟨xs, r3, r4, r5⟩, r6⟩ := hR
      have r3' := r3
      rw [hn] at r3'
      have hxl : xs.length = l.length := by have := r3'.1; omega
      have hbv : blk v ≠ some b := fun e => by
        obtain ⟨own, hap⟩ := S.ap
        have z1 := hap d' _ d' b hd rfl (.self _ _) (by rw [hv]; rfl)
        have z2 := hap d' _ (nid d' 1) b hd rfl (ids_sb.2 (.inr rfl)) (by rw [hn]; exact e)
        have := nid_ge d' 1
        have := S.lt _ _ hd
        omega
      have hP : SbPut P T' e2 f u2 (bs.map fun c => Value.int .u8 c.toNat) := by
        unfold sbAdd at hadd
        split at hadd
        · split at hadd
          case isFalse => simp at hadd
          rename_i hk1
          subst hk1
          obtain rfl := Option.some.inj hadd
          have hv2 := rep_sc hu2
          subst hv2
          have : SbOK P 1 T' e2 f := hcr
          simp only [SbOK, if_true] at this
          exact this.put _
        · split at hadd
          case isFalse => simp at hadd
          rename_i hk1
          obtain ⟨rfl, r0, r1⟩ := hk1
          obtain rfl := Option.some.inj hadd
          have hv2 := rep_sc hu2
          subst hv2
          have : SbOK P 3 T' e2 f := hcr
          exact SbRune.put (by simpa [SbOK] using this) _ r0 r1
        · simp at hadd
      unfold Oper.wp
      have hrun : (execOp a.eval o).run P w = .ok (.enter f #[.pointer (some ⟨b, 0, none⟩), u2]) w := by
        have e3 : c.args.map a.eval = #[.pointer (some ⟨b, 0, none⟩), u2] := by
          apply Array.ext'
          rw [Array.toList_map, hargs]
        have hf0 : a.eval (.func f) = .func (.func f) #[] #[] := rfl
        simp [execOp, ho, resolve, hcal, hf0, Deferred.ofValue, invoke, run_callFunc hcal2, e3]
      rw [hrun, Oper.upon_enter]
      refine (hP base b p v xs w hbb S.bw hp hg (by rw [hxl]; exact r3') hbv (by rw [hxl, List.length_map]; exact hle)).mono ?_
      rintro en w' ⟨rfl, v', q1, q2, q3, q4, q5⟩
      obtain ⟨g', S2⟩ := S.sbw hd hv hbb hg hn ⟨r1, r2, ⟨xs, r3, r4, r5⟩, r6⟩ hlm r4 r5 q1 (by rw [← hxl]; simpa using q2) q3 q4 q5
      have hres : Rep w' g'.lm (.tu [.sc (.int .i64 bs.length), .sc .nilIface]) (.tuple #[.int .i64 (bs.map fun c => Value.int .u8 c.toNat).length, .nilIface]) := by
        rw [List.length_map]
        exact .tu (vs := [.int .i64 bs.length, .nilIface]) (.cons (.sc _) (.cons (.sc _) .nil))
      exact hK g' w' _ S2 hres
  · rename_i f f' y1 hcal
    simp only [Bool.and_eq_true, beq_iff_eq] at h
    obtain ⟨rfl, hys⟩ := h
    simp only [eff] at he
    cases hc : call f [] with
    | none => rw [hc] at he; simp at he
    | some r =>
      rw [hc] at he
      dsimp only at he
      obtain ⟨hcr, hcal2⟩ := hG f [] r hc
      unfold sbsE at he
      split at he
      case h_2 => simp at he
      rename_i kd T e1
      split at he
      case h_2 => simp at he
      rename_i d' i j hx
      split at he
      case h_2 => simp at he
      rename_i T' k rr hd
      split at he
      case h_2 => simp at he
      rename_i e2 l hr
      split at he
      case isFalse => simp at he
      rename_i hcond
      obtain ⟨rfl, rfl, rfl, rfl, rfl, rfl⟩ := hcond
      obtain rfl := unRow_eq hr
      cases hbl : sbBytes l with
      | none => rw [hbl] at he; simp at he
      | some bl =>
      rw [hbl] at he
      simp only [Option.some.injEq] at he
      subst he
      have hev : evs s [y1] = some [.mp d' 0 0] := by simp only [evs, hx]
      have hsr := okXs_sound S hys hev
      obtain ⟨b, p, v, hv, hbb, hg, hp, hn, hR, hlm⟩ := orep_sb (S.ob d' _ hd)
      obtain ⟨u1, hargs, hu1⟩ : ∃ u1, c.args.toList.map a.eval = [u1] ∧ SRep w g (get s.h) (.mp d' 0 0) u1 := by
        generalize c.args.toList.map a.eval = us at hsr
        cases hsr with
        | cons h1 h2 => cases h2; exact ⟨_, rfl, h1⟩
      simp only [SRep, hd] at hu1
      obtain ⟨b', hb', rfl⟩ := hu1
      rw [hv] at hb'
      simp [blk] at hb'
      subst hb'
      have hR0 := hR
      obtain ⟨r1, r2, ⟨xs, r3, r4, r5⟩, r6⟩ := hR
      have r3' := r3
      rw [hn] at r3'
      obtain ⟨hxs, hll⟩ := bytes_cells hbl r4
      have hbv : blk v ≠ some b := fun e => by
        obtain ⟨own, hap⟩ := S.ap
        have z1 := hap d' _ d' b hd rfl (.self _ _) (by rw [hv]; rfl)
        have z2 := hap d' _ (nid d' 1) b hd rfl (ids_sb.2 (.inr rfl)) (by rw [hn]; exact e)
        have := nid_ge d' 1
        have := S.lt _ _ hd
        omega
      have hW : SbString P T' e2 f := by
        have : SbOK P 2 T' e2 f := hcr
        simpa [SbOK] using this
      unfold Oper.wp
      have hrun : (execOp a.eval o).run P w = .ok (.enter f #[.pointer (some ⟨b, 0, none⟩)]) w := by
        have e3 : c.args.map a.eval = #[.pointer (some ⟨b, 0, none⟩)] := by
          apply Array.ext'
          rw [Array.toList_map, hargs]
        have hf0 : a.eval (.func f) = .func (.func f) #[] #[] := rfl
        simp [execOp, ho, resolve, hcal, hf0, Deferred.ofValue, invoke, run_callFunc hcal2, e3]
      rw [hrun, Oper.upon_enter]
      refine (hW base b p v bl w hbb S.bw hp hg (by rw [← hxs, ← hll]; exact r3') hbv).mono ?_
      rintro en w' ⟨rfl, q4, q5⟩
      have S2 := S.sbs hd hn hR0 q4 q5
      exact hK g w' _ S2 (.sc _)
  · rename_i x y ys hcal
    simp only [Bool.and_eq_true] at h
    obtain ⟨hx, hys⟩ := h
    simp only [eff] at he
    cases hv0 : y.ev s with
    | none => rw [hv0] at he; simp at he
    | some v0 =>
      cases hv : evs s ys with
      | none => rw [hv0, hv] at he; cases v0 <;> simp at he
      | some vs =>
        rw [hv0, hv] at he
        split at he
        · rename_i f cs _ h1 h2
          obtain rfl := Option.some.inj h1
          obtain rfl := Option.some.inj h2
          cases hf : AM.frzs s.h vs with
          | none => rw [hf] at he; simp at he
          | some q =>
            obtain ⟨zs, fr⟩ := q
            rw [hf] at he
            dsimp only at he
            cases hc : call f (zs ++ cs) with
            | none => rw [hc] at he; simp at he
            | some r =>
              rw [hc] at he
              obtain ⟨lm', S1, rl, T1, F1⟩ := frzs_sim S (fun d => Fz.refl _) (okXs_sound S hys hv) hf
              obtain ⟨us, hu, hl⟩ := rep_fn (ev_p S hx hv0)
              refine fin f (zs ++ cs) _ fr r lm' hc he S1 F1 (rl.append (hl.ext T1.ext)) ?_
              simp [execOp, ho, resolve, hcal, hu, Deferred.ofValue, invoke, run_callFunc (hG f (zs ++ cs) r hc).2]
        · simp at he
  · rename_i x m t f m' y ys hcal
    simp only [Bool.and_eq_true, beq_iff_eq] at h
    obtain ⟨⟨⟨rfl, hx⟩, hys⟩, hm⟩ := h
    simp only [eff] at he
    cases hv0 : y.ev s with
    | none => rw [hv0] at he; simp at he
    | some v0 =>
      cases hv : evs s ys with
      | none => rw [hv0, hv] at he; cases v0 <;> simp at he
      | some vs =>
        rw [hv0, hv] at he
        split at he
        · rename_i t' z _ h1 h2
          obtain rfl := Option.some.inj h1
          obtain rfl := Option.some.inj h2
          split at he
          case isFalse => simp at he
          rename_i ht
          subst ht
          cases hf : AM.frzs s.h vs with
          | none => rw [hf] at he; simp at he
          | some q =>
            obtain ⟨zs, fr⟩ := q
            rw [hf] at he
            dsimp only at he
            cases hc : call f (z :: zs) with
            | none => rw [hc] at he; simp at he
            | some r =>
              rw [hc] at he
              obtain ⟨lm', S1, rl, T1, F1⟩ := frzs_sim S (fun d => Fz.refl _) (okXs_sound S hys hv) hf
              obtain ⟨v, hu, hz⟩ := rep_ifc (ev_p S hx hv0)
              refine fin f (z :: zs) _ fr r lm' hc he S1 F1 (.cons (hz.ext T1.ext) rl) ?_
              have hd : P.types.size + Made.depth = (P.types.size + Made.depth - 1) + 1 := by simp [Made.depth]
              have hmm := run_method hm (P.types.size + Made.depth - 1) v w
              rw [← hd] at hmm
              have e0 : (#[Value.iface t' v] ++ Array.map a.eval c.args)[0]? = some (.iface t' v) := by rw [Array.getElem?_append_left (by simp)]; rfl
              simp only [execOp, ho, resolve, hcal, hu, invoke, Sem.run_bind, Sem.run_pure, Result.andThen_ok]
              rw [e0]
              simp only [callMethod, Sem.run_bind, run_program, Result.andThen_ok, hmm, run_callFunc (hG f (z :: zs) r hc).2]
              congr 2
              apply Array.ext'
              simp
              rw [List.take_of_length_le (by simp)]
        · simp at he
  · simp at h
end
end Go.Proofs.Ytomnggbideepeaa.AM

end
