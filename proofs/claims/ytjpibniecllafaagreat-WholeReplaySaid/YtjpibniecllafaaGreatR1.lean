/- Made by pack.py: AM2, AM3, AM4, AM5, AM6. No condition but what each says. -/
import Derived.Test.YtjpibniecllafaaGreatR0
import Derived.Orders
import Derived.Below
import Derived.Laws.AppendOwn
import Derived.Laws.OwnMore
import Derived.Laws.MakeOwn
import Derived.Laws.CopyRow
import Derived.Laws.StructEq
set_option linter.unusedSimpArgs false
set_option linter.unusedVariables false
section
namespace Go.Proofs.YtjpibniecllafaaGreat.AM
open Go Go.RowKit
def Mem (w : World) (lm : Nat → Nat) (b o : Nat) (vs : List Value) : Prop :=
 ∀ j u, vs[j]? = some u → w.cell? ⟨b, o + j, none⟩ = some u ∧ o + j < lm b ∧ u.oneCell' = true
mutual
inductive Rep (w : World) (lm : Nat → Nat) : PV → Value → Prop
 | sc (v : Value) : Rep w lm (.sc v) v
 | st {l vs} : RepL w lm l vs → (∀ u ∈ vs, u.oneCell' = true) → Rep w lm (.st l) (.agg vs.toArray)
 | tu {l vs} : RepL w lm l vs → Rep w lm (.tu l) (.tuple vs.toArray)
 | pt {l vs b o} : RepL w lm l vs → Mem w lm b o vs → Rep w lm (.pt l) (.pointer (some ⟨b, o, none⟩))
 | sl {k l vs b o cap} : 0 < k → (∀ c ∈ l, c.length = k) → RepL w lm l.flatten vs → Mem w lm b o vs → l.length ≤ cap → Rep w lm (.sl k l) (.slice (some ⟨b, o, none⟩) l.length cap)
 | sl0 {k a cap} : Rep w lm (.sl k []) (.slice a 0 cap)
 | fn {f l vs} : RepL w lm l vs → Rep w lm (.fn f l) (.func (.func f) #[] vs.toArray)
 | ifc {t x v} : Rep w lm x v → Rep w lm (.ifc t x) (.iface t v)
 | ow {e k l v} : Rep w lm (.ow e k l) v
 | ma {l b} : SetAt w b l → 0 < lm b → Rep w lm (.ma l) (.map (some b))
inductive RepL (w : World) (lm : Nat → Nat) : List PV → List Value → Prop
 | nil : RepL w lm [] []
 | cons {x v l vs} : Rep w lm x v → RepL w lm l vs → RepL w lm (x :: l) (v :: vs)
end
structure Ext (w : World) (lm : Nat → Nat) (w' : World) (lm' : Nat → Nat) : Prop where
 ce : ∀ b o u, w.cell? ⟨b, o, none⟩ = some u → o < lm b → w'.cell? ⟨b, o, none⟩ = some u ∧ o < lm' b
 mp : ∀ b es clock, w.heap[b]? = some (.map es clock) → 0 < lm b → w'.heap[b]? = some (.map es clock) ∧ 0 < lm' b
theorem Ext.refl (w : World) (lm : Nat → Nat) : Ext w lm w lm := ⟨fun _ _ _ h h' => ⟨h, h'⟩, fun _ _ _ h h' => ⟨h, h'⟩⟩
theorem Ext.trans {w lm w' lm' w'' lm''} (h : Ext w lm w' lm') (k : Ext w' lm' w'' lm'') : Ext w lm w'' lm'' := ⟨fun b o u a c => let ⟨x, y⟩ := h.ce b o u a c; k.ce b o u x y, fun b es clock a c => let ⟨x, y⟩ := h.mp b es clock a c; k.mp b es clock x y⟩
theorem Ext.blocks {w lm w' lm'} (h : ∀ b, b < w.heap.size → 0 < lm b → w'.heap[b]? = w.heap[b]? ∧ lm' b = lm b) : Ext w lm w' lm' := by
 refine ⟨fun b o u hc ho => ?_, fun b es clock hm h0 => ?_⟩
 · have hlt : b < w.heap.size := by
    rcases Nat.lt_or_ge b w.heap.size with h' | h'
    · exact h'
    · simp [World.cell?, Array.getElem?_eq_none h'] at hc
   obtain ⟨x, y⟩ := h b hlt (by omega)
   exact ⟨(World.cell?_of_block (a := ⟨b, o, none⟩) x).trans hc, by rw [y]; exact ho⟩
 · obtain ⟨x, y⟩ := h b (Array.getElem?_eq_some_iff.1 hm).1 h0
   exact ⟨x.trans hm, by rw [y]; exact h0⟩
theorem SetAt.ext {w lm w' lm'} (h : Ext w lm w' lm') {b : Nat} {l : List Int} (m : SetAt w b l) (hb : 0 < lm b) : SetAt w' b l ∧ 0 < lm' b := by
 obtain ⟨⟨es, clock, h1, F, hs, hD⟩, hg⟩ := m
 obtain ⟨x, y⟩ := h.mp b es clock h1 hb
 exact ⟨⟨⟨es, clock, x, F, hs, hD⟩, hg⟩, y⟩
theorem Mem.ext {w lm w' lm'} (h : Ext w lm w' lm') {b o vs} (m : Mem w lm b o vs) : Mem w' lm' b o vs := fun j u hu =>
 let ⟨x, y, z⟩ := m j u hu; let ⟨p, q⟩ := h.ce b (o + j) u x y; ⟨p, q, z⟩
mutual
theorem Rep.ext {w lm w' lm'} (h : Ext w lm w' lm') : ∀ {x v}, Rep w lm x v → Rep w' lm' x v
 | _, _, .sc v => .sc v
 | _, _, .st a o => .st (RepL.ext h a) o
 | _, _, .tu a => .tu (RepL.ext h a)
 | _, _, .pt a m => .pt (RepL.ext h a) (m.ext h)
 | _, _, .sl h0 hk a m hc => .sl h0 hk (RepL.ext h a) (m.ext h) hc
 | _, _, .sl0 => .sl0
 | _, _, .fn a => .fn (RepL.ext h a)
 | _, _, .ifc a => .ifc (Rep.ext h a)
 | _, _, .ow => .ow
 | _, _, .ma m hb => let ⟨x, y⟩ := m.ext h hb; .ma x y
theorem RepL.ext {w lm w' lm'} (h : Ext w lm w' lm') : ∀ {l vs}, RepL w lm l vs → RepL w' lm' l vs
 | _, _, .nil => .nil
 | _, _, .cons a b => .cons (Rep.ext h a) (RepL.ext h b)
end
theorem RepL.length {w lm} : ∀ {l vs}, RepL w lm l vs → l.length = vs.length
 | _, _, .nil => rfl
 | _, _, .cons _ b => by simp [RepL.length b]
theorem RepL.get {w lm} : ∀ {l vs}, RepL w lm l vs → ∀ (i : Nat) (x : PV), l[i]? = some x → ∃ v, vs[i]? = some v ∧ Rep w lm x v
 | _, _, .nil, i, x, h => by simp at h
 | _, _, .cons a b, 0, x, h => by simp at h; subst h; exact ⟨_, rfl, a⟩
 | _, _, .cons a b, i + 1, x, h => by simpa using RepL.get b i x (by simpa using h)
theorem RepL.drop {w lm} : ∀ {l vs}, RepL w lm l vs → ∀ n, RepL w lm (l.drop n) (vs.drop n)
 | _, _, h, 0 => h
 | _, _, .nil, n + 1 => .nil
 | _, _, .cons a b, n + 1 => RepL.drop b n
theorem RepL.take {w lm} : ∀ {l vs}, RepL w lm l vs → ∀ n, RepL w lm (l.take n) (vs.take n)
 | _, _, h, 0 => .nil
 | _, _, .nil, n + 1 => .nil
 | _, _, .cons a b, n + 1 => .cons a (RepL.take b n)
theorem RepL.append {w lm} : ∀ {l vs}, RepL w lm l vs → ∀ {m us}, RepL w lm m us → RepL w lm (l ++ m) (vs ++ us)
 | _, _, .nil, _, _, h => h
 | _, _, .cons a b, _, _, h => .cons a (RepL.append b h)
theorem RepL.one {w lm x v} (h : Rep w lm x v) : RepL w lm [x] [v] := .cons h .nil
theorem Rep.cells {w lm x v c} (h : Rep w lm x v) (hx : x.cells = some c) : RepL w lm c v.cells.toList ∧ ∀ u ∈ v.cells.toList, u.oneCell' = true := by
 have one : ∀ {y u}, Rep w lm y u → u.cells = #[u] → u.oneCell' = true → some [y] = some c → RepL w lm c u.cells.toList ∧ ∀ z ∈ u.cells.toList, z.oneCell' = true := by
  intro y u hr hc h1 he
  obtain rfl := oIj he
  rw [hc]
  exact ⟨.one hr, fun z hz => by simp at hz; rw [hz]; exact h1⟩
 cases h with
 | sc v => cases v <;> first | exact one (.sc _) rfl rfl hx | (simp [PV.cells] at hx)
 | st a o => obtain rfl := oIj hx; exact ⟨by simpa [Value.cells] using a, by simpa [Value.cells] using o⟩
 | tu a => simp [PV.cells] at hx
 | pt a m => exact one (.pt a m) rfl rfl hx
 | sl h0 hk a m hc => exact one (.sl h0 hk a m hc) rfl rfl hx
 | sl0 => exact one .sl0 rfl rfl hx
 | fn a => exact one (.fn a) rfl rfl hx
 | ifc a => exact one (.ifc a) rfl rfl hx
 | ow => simp [PV.cells] at hx
 | ma m hb => exact one (.ma m hb) rfl rfl hx
theorem Tao {k : Nat} : ∀ {l : List (List PV)}, (∀ c ∈ l, c.length = k) → l.flatten.length = l.length * k
 | [], _ => by simp
 | c :: l, h => by
  have := Tao (l := l) (fun c hc => h c (by simp [hc]))
  simp [List.flatten_cons, this, h c (by simp), Nat.add_mul]; omega
theorem Tar {k : Nat} : ∀ {l : List (List PV)} (n : Nat), (∀ c ∈ l, c.length = k) → l.flatten.drop (n * k) = (l.drop n).flatten
 | l, 0, _ => by simp
 | [], n + 1, _ => by simp
 | c :: l, n + 1, h => by
  have hc : c.length = k := h c (by simp)
  have e : (n + 1) * k = c.length + n * k := by rw [Nat.add_mul, hc]; omega
  rw [e, List.flatten_cons, ← List.drop_drop, List.drop_left, List.drop_succ_cons]
  exact Tar n (fun c hc => h c (by simp [hc]))
theorem Tbo {k : Nat} : ∀ {l : List (List PV)} (n : Nat), (∀ c ∈ l, c.length = k) → l.flatten.take (n * k) = (l.take n).flatten
 | l, 0, _ => by simp
 | [], n + 1, _ => by simp
 | c :: l, n + 1, h => by
  have hc : c.length = k := h c (by simp)
  have e : (n + 1) * k = c.length + n * k := by rw [Nat.add_mul, hc]; omega
  rw [e, List.flatten_cons, List.take_succ_cons, List.flatten_cons, List.take_append, List.take_of_length_le (by omega), Nat.add_sub_cancel_left, Tbo n (fun c hc => h c (by simp [hc]))]
structure Gs where
 lm : Nat → Nat
 v : Nat → Value
def blk : Value → Option Nat
 | .slice (some a) _ _ => some a.block
 | .pointer (some a) => some a.block
 | .map (some b) => some b
 | _ => none
def QRep (w : World) (g : Gs) (h : Nat → Option Ob) : RV → Value → Prop
 | .p x, u => Rep w g.lm x u
 | .ms d off len, u => match h d with
  | some (.row _ k _ l) => off + len ≤ l.length ∧ ((off = 0 ∧ len = l.length ∧ u = g.v d) ∨ ¬ (off = 0 ∧ len = l.length) ∧ ∃ a cap, u = .slice a len cap ∧ len ≤ cap ∧ (len = 0 ∨ ∃ b, blk (g.v d) = some b ∧ a = some ⟨b, off * k, none⟩))
  | some (.dp _ k l) => off + len ≤ l.length ∧ ((off = 0 ∧ len = l.length ∧ u = g.v d) ∨ ¬ (off = 0 ∧ len = l.length) ∧ ∃ a cap, u = .slice a len cap ∧ len ≤ cap ∧ (len = 0 ∨ ∃ b, blk (g.v d) = some b ∧ a = some ⟨b, off * k, none⟩))
  | some (.gr _ k l) => off + len ≤ l.length ∧ ((off = 0 ∧ len = l.length ∧ u = g.v d) ∨ ¬ (off = 0 ∧ len = l.length) ∧ ∃ a cap, u = .slice a len cap ∧ len ≤ cap ∧ (len = 0 ∨ ∃ b, blk (g.v d) = some b ∧ a = some ⟨b, off * k, none⟩))
  | some .dead => True
  | _ => False
 | .mp d i j, u => match h d with
  | some (.row _ k _ _) => ∃ b, blk (g.v d) = some b ∧ u = .pointer (some ⟨b, i * k + j, none⟩)
  | some (.it _ _) => u = g.v d
  | some (.dp _ k _) => ∃ b, blk (g.v d) = some b ∧ u = .pointer (some ⟨b, i * k + j, none⟩)
  | some (.gr _ k _) => ∃ b, blk (g.v d) = some b ∧ u = .pointer (some ⟨b, i * k + j, none⟩)
  | some .dead => True
  | _ => False
 | .mo d, u => match h d with
  | some (.mpo ..) => u = g.v d
  | some .dead => True
  | _ => False
inductive QRepL (w : World) (g : Gs) (h : Nat → Option Ob) : List RV → List Value → Prop
 | nil : QRepL w g h [] []
 | cons {x v l vs} : QRep w g h x v → QRepL w g h l vs → QRepL w g h (x :: l) (v :: vs)
def SRep (w : World) (g : Gs) (h : Nat → Option Ob) : SV → Value → Prop
 | .p x, u => Rep w g.lm x u
 | .xs k l, u => ∃ a, u = .slice a l.length l.length ∧ 0 < k ∧ (∀ c ∈ l, c.length = k) ∧ (l = [] ∨ ∃ b o vs, a = some ⟨b, o, none⟩ ∧ RepL w g.lm l.flatten vs ∧ Mem w g.lm b o vs)
 | .ms d off len, u => match h d with
  | some (.row _ k _ l) => off + len ≤ l.length ∧ ((off = 0 ∧ len = l.length ∧ u = g.v d) ∨ ¬ (off = 0 ∧ len = l.length) ∧ ∃ a cap, u = .slice a len cap ∧ len ≤ cap ∧ (len = 0 ∨ ∃ b, blk (g.v d) = some b ∧ a = some ⟨b, off * k, none⟩))
  | some (.dp _ k l) => off + len ≤ l.length ∧ ((off = 0 ∧ len = l.length ∧ u = g.v d) ∨ ¬ (off = 0 ∧ len = l.length) ∧ ∃ a cap, u = .slice a len cap ∧ len ≤ cap ∧ (len = 0 ∨ ∃ b, blk (g.v d) = some b ∧ a = some ⟨b, off * k, none⟩))
  | some (.gr _ k l) => off + len ≤ l.length ∧ ((off = 0 ∧ len = l.length ∧ u = g.v d) ∨ ¬ (off = 0 ∧ len = l.length) ∧ ∃ a cap, u = .slice a len cap ∧ len ≤ cap ∧ (len = 0 ∨ ∃ b, blk (g.v d) = some b ∧ a = some ⟨b, off * k, none⟩))
  | some .dead => True
  | _ => False
 | .mp d i j, u => match h d with
  | some (.row _ k _ _) => ∃ b, blk (g.v d) = some b ∧ u = .pointer (some ⟨b, i * k + j, none⟩)
  | some (.it _ _) => u = g.v d
  | some (.dp _ k _) => ∃ b, blk (g.v d) = some b ∧ u = .pointer (some ⟨b, i * k + j, none⟩)
  | some (.gr _ k _) => ∃ b, blk (g.v d) = some b ∧ u = .pointer (some ⟨b, i * k + j, none⟩)
  | some .dead => True
  | _ => False
 | .mo d, u => match h d with
  | some (.mpo ..) => u = g.v d
  | some .dead => True
  | _ => False
 | .sst l, u => ∃ vs, u = .agg vs.toArray ∧ QRepL w g h l vs ∧ ∀ x ∈ vs, x.oneCell' = true
 | .stu l, u => ∃ vs, u = .tuple vs.toArray ∧ QRepL w g h l vs
 | .fnv f l, u => ∃ vs, u = .func (.func f) #[] vs.toArray ∧ QRepL w g h l vs
def nid (d p : Nat) : Nat := (p + 1) * 1000000 + d
def RowR (w : World) (g : Gs) (base x e k : Nat) (l : List (List PV)) : Prop :=
 0 < k ∧ (∀ c ∈ l, c.length = k) ∧ (∃ xs, w.ownsRow base e k (g.v x) l.length xs ∧ RepL w g.lm l.flatten xs ∧ ∀ u ∈ xs, u.oneCell' = true) ∧ ∀ b, blk (g.v x) = some b → g.lm b = 0
def SelfR (w : World) (g : Gs) (d : Nat) (l : List (List PV)) : Prop :=
 ∀ p, l.flatten[p]? = some (.ow 1 0 []) → ∃ b, g.v d = .slice (some ⟨b, 0, none⟩) l.length l.length ∧ (w.cell? ⟨b, p, none⟩ = some (.pointer none) ∨ w.cell? ⟨b, p, none⟩ = some (.pointer (some ⟨b, p, none⟩)))
def MapAt (w : World) (g : Gs) (base x : Nat) (l : List Int) : Prop := ∃ b, g.v x = .map (some b) ∧ base ≤ b ∧ SetAt w b l ∧ g.lm b = 0
def RevAt (w : World) (g : Gs) (base d : Nat) (U : List (List Int)) (fl : Int) (G F : List Int) : Prop :=
 (1 ≤ U.length ∧ 0 ≤ fl ∧ fl + U.length ≤ 201) ∧
 (∃ b, g.v d = .pointer (some ⟨b, 0, none⟩) ∧ base ≤ b ∧ g.lm b = 0 ∧ w.heap[b]? = some (.cells #[g.v (nid d 0), .int .i64 fl, g.v (nid d 1), g.v (nid d 2)] 164 (0, 0))) ∧
 (∃ xs, w.ownsRow base 161 1 (g.v (nid d 0)) U.length xs ∧ ∀ i u, xs[i]? = some u → u = g.v (nid d (3 + i))) ∧ (∀ b, blk (g.v (nid d 0)) = some b → g.lm b = 0) ∧
 (∀ i l, U[i]? = some l → MapAt w g base (nid d (3 + i)) l) ∧ MapAt w g base (nid d 1) G ∧ MapAt w g base (nid d 2) F
def ORep (w : World) (g : Gs) (base d : Nat) : Ob → Prop
 | .row e k fz l => 0 < k ∧ (∀ c ∈ l, c.length = k) ∧ (∃ xs, w.ownsRow base e k (g.v d) l.length xs ∧ RepL w g.lm l.flatten xs ∧ ∀ u ∈ xs, u.oneCell' = true) ∧
  ∀ b, blk (g.v d) = some b → g.lm b = if fz then l.length * k else 0
 | .it s pos => ∃ b, g.v d = .pointer (some ⟨b, 0, none⟩) ∧ base ≤ b ∧ w.heap[b]? = some (.stringIter s pos)
 | .dp e k l => 0 < k ∧ (∀ c ∈ l, c.length = k) ∧ (∃ xs, w.ownsRow base e k (g.v d) l.length xs ∧ RepL w g.lm l.flatten xs ∧ (∀ u ∈ xs, u.oneCell' = true) ∧
  ∀ p e' k' l', l.flatten[p]? = some (.ow e' k' l') → 0 < k' → xs[p]? = some (g.v (nid d p)) ∧ RowR w g base (nid d p) e' k' l') ∧
  (∀ b, blk (g.v d) = some b → g.lm b = 0) ∧ SelfR w g d l
 | .dead => True
 | .gr e k l => 0 < k ∧ (∀ c ∈ l, c.length = k) ∧ (∃ xs, w.ownsRow base e k (g.v d) l.length xs ∧ ∀ u ∈ xs, u.oneCell' = true) ∧ ∀ b, blk (g.v d) = some b → g.lm b = 0
 | .mpo U fl G F => RevAt w g base d U fl G F
 | .pin _ => True
def Ids (d : Nat) (o : Ob) (x : Nat) : Prop := x = d ∨ (∃ e k l p e' k' l', o = .dp e k l ∧ l.flatten[p]? = some (.ow e' k' l') ∧ 0 < k' ∧ x = nid d p) ∨ ∃ U fl G F p, o = .mpo U fl G F ∧ p < 3 + U.length ∧ x = nid d p
theorem Ids.self (d : Nat) (o : Ob) : Ids d o d := .inl rfl
theorem Ids.dp {d e k : Nat} {l : List (List PV)} {p e' k' : Nat} {l' : List (List PV)} (h : l.flatten[p]? = some (.ow e' k' l')) (hk : 0 < k') : Ids d (.dp e k l) (nid d p) := .inr (.inl ⟨e, k, l, p, e', k', l', rfl, h, hk, rfl⟩)
theorem Ids.mpo {d : Nat} {U : List (List Int)} {fl : Int} {G F : List Int} {p : Nat} (h : p < 3 + U.length) : Ids d (.mpo U fl G F) (nid d p) := .inr (.inr ⟨U, fl, G, F, p, rfl, h, rfl⟩)
theorem Tcu (d p : Nat) : 1000000 ≤ nid d p := by unfold nid; omega
theorem Tia {d d' p p' : Nat} (hd : d < 1000000) (hd' : d' < 1000000) (h : nid d p = nid d' p') : d = d' ∧ p = p' := by unfold nid at h; omega
theorem Ids.dpE {d e k : Nat} {l : List (List PV)} {x : Nat} (h : Ids d (.dp e k l) x) : x = d ∨ ∃ p e' k' l', l.flatten[p]? = some (.ow e' k' l') ∧ 0 < k' ∧ x = nid d p := by
 rcases h with h | ⟨_, _, _, p, e', k', l', h, h1, h2, h3⟩ | ⟨_, _, _, _, _, h, _⟩
 · exact .inl h
 · simp only [Ob.dp.injEq] at h
   obtain ⟨rfl, rfl, rfl⟩ := h
   exact .inr ⟨p, e', k', l', h1, h2, h3⟩
 · simp at h
theorem Ids.form {d : Nat} {o : Ob} {x : Nat} (h : Ids d o x) : x = d ∨ o.isDp = true ∧ ∃ p, x = nid d p := by
 rcases h with h | ⟨_, _, _, p, _, _, _, h, _, _, q⟩ | ⟨_, _, _, _, p, h, _, q⟩
 · exact .inl h
 · exact .inr ⟨by rw [h]; rfl, p, q⟩
 · exact .inr ⟨by rw [h]; rfl, p, q⟩
theorem Ids.lt {d : Nat} {o : Ob} {x : Nat} (h : Ids d o x) (hx : x < 1000000) : x = d := by
 rcases h.form with h | ⟨_, p, h⟩
 · exact h
 · have := Tcu d p; omega
theorem Ids.mod {d : Nat} {o : Ob} {x : Nat} (h : Ids d o x) (hd : d < 1000000) : x % 1000000 = d := by
 rcases h.form with h | ⟨_, p, h⟩
 · subst h; omega
 · subst h; unfold nid; omega
theorem Ids.plain {d : Nat} {o : Ob} {x : Nat} (h : Ids d o x) (ho : o.isDp = false) : x = d := by
 rcases h.form with h | ⟨h, _⟩
 · exact h
 · rw [ho] at h; simp at h
structure L0 where
 f : Nat → Nat
 ov : SV → Value → Prop
 pl : Option (List Nat)
 kb : Nat → Prop
 wk : World
 lk : Nat → Nat
def L0.plain (w : World) (f : Nat → Nat) : L0 := ⟨f, fun _ _ => False, none, fun _ => False, w, f⟩
instance : CoeFun L0 (fun _ => Nat → Nat) := ⟨L0.f⟩
def L0.K (l : L0) (b : Nat) : Prop := l.kb b ∧ b < l.wk.heap.size
def Free (g : Gs) (h : Nat → Option Ob) (b : Nat) : Prop := ∀ d o x, h d = some o → o.live = true → Ids d o x → blk (g.v x) ≠ some b
structure Fr (lm0 : L0) (g : Gs) (w : World) (h : Nat → Option Ob) : Prop where
 ex : Ext lm0.wk lm0.lk w g.lm
 sz : lm0.wk.heap.size ≤ w.heap.size
 kf : ∀ b, lm0.K b → w.heap[b]? = lm0.wk.heap[b]? ∧ g.lm b = lm0.lk b
 kd : ∀ b, lm0.K b → Free g h b
structure Sim (base : Nat) (w0 : World) (lm0 : L0) (N : Nat) (g : Gs) (a : Act) (w : World) (s : St) : Prop where
 bas : base = w0.heap.size
 size : a.tmps.size = N
 defers : a.defers = []
 below : Below base w0 w
 lm : ∀ b, b < base → g.lm b = lm0 b
 tm : ∀ n v, get s.t n = some v → ∃ u, a.tmps[n]? = some u ∧ SRep w g (get s.h) v u
 ob : ∀ d o, get s.h d = some o → ORep w g base d o
 lt : ∀ d o, get s.h d = some o → d < 1000000
 ap : ∃ own : Nat → Nat, ∀ d o x b, get s.h d = some o → o.live = true → Ids d o x → blk (g.v x) = some b → own b = x
 gs : ∀ d e k l xs, get s.h d = some (.gr e k l) → w.ownsRow base e k (g.v d) l.length xs → QRepL w g (get s.h) l.flatten xs
 ov : ∀ v u, lm0.ov v u → SRep w g (get s.h) v u
 pn : ∀ v u, lm0.ov v u → ∀ d, v.ref d = true → ∃ l, lm0.pl = some l ∧ d ∈ l
 px : ∀ l, lm0.pl = some l → get s.h 999999 = some (.pin l) ∧ ∀ d ∈ l, d = 999999 ∨ get s.h d ≠ none
 fr : Fr lm0 g w (get s.h)
theorem Ta9 {α : Type} : ∀ (l : List (Nat × α)) (d e : Nat) (v : α), get (put l d v) e = if d = e then some v else get l e
 | [], d, e, v => by simp [put, get]
 | (c, u) :: l, d, e, v => by
  simp only [put]
  split
  · rename_i h; subst h
    simp only [get]
    split <;> rfl
  · rename_i h
    split
    · simp only [get]
    · simp only [get, Ta9 l d e v]
      split
      · rename_i h1 h2
        subst h2
        rw [if_neg (fun e => h e.symm)]
      · rfl
theorem Taa {α : Type} (l : List (Nat × α)) (d : Nat) (v : α) : get (put l d v) d = some v := by rw [Ta9, if_pos rfl]
theorem Tac {α : Type} (l : List (Nat × α)) {d e : Nat} (h : d ≠ e) (v : α) : get (put l d v) e = get l e := by rw [Ta9, if_neg h]
theorem Tai (h : List (Nat × Ob)) : ∀ (a b : List (Nat × Ob)), putAll h (a ++ b) = putAll (putAll h a) b
 | [], b => rfl
 | (d, o) :: a, b => Tai (put h d o) a b
theorem Tea {h : List (Nat × Ob)} : ∀ {n d id : Nat}, newIdN h n d = some id → get h id = none ∧ d ≤ id ∧ id < d + n * 100000
 | 0, d, id, e => by simp [newIdN] at e
 | n + 1, d, id, e => by
  unfold newIdN at e
  split at e
  · rename_i h1
    obtain rfl := oIj e
    exact ⟨h1, Nat.le_refl _, by omega⟩
  · obtain ⟨a, b, c⟩ := Tea e
    exact ⟨a, by omega, by omega⟩
theorem Tav {h : List (Nat × Ob)} {d id : Nat} (e : newId h d = some id) : get h id = none := by
 unfold newId at e
 split at e
 · exact (Tea e).1
 · simp at e
theorem Ta6 {h : List (Nat × Ob)} {d id : Nat} (e : newId h d = some id) : id < 1000000 := by
 unfold newId at e
 split at e
 · have := (Tea e).2.2; omega
 · simp at e
end Go.Proofs.YtjpibniecllafaaGreat.AM
end
section
namespace Go.Proofs.YtjpibniecllafaaGreat.AM
open Go Go.RowKit
def Shp : Ob → Ob → Prop
 | .row _ k _ l, .row _ k' _ l' => k = k' ∧ l.length = l'.length
 | .it .., .it .. => True
 | .dp _ k l, .dp _ k' l' => k = k' ∧ l.length = l'.length
 | .row _ k _ l, .dp _ k' l' => k = k' ∧ l.length = l'.length
 | .dp _ k l, .row _ k' _ l' => k = k' ∧ l.length = l'.length
 | .dead, .dead => True
 | .gr _ k l, .gr _ k' l' => k = k' ∧ l.length = l'.length
 | .mpo .., .mpo .. => True
 | .pin l, .pin l' => l = l'
 | _, _ => False
theorem Shp.refl : ∀ o, Shp o o
 | .row .. => ⟨rfl, rfl⟩
 | .it .. => trivial
 | .dp .. => ⟨rfl, rfl⟩
 | .dead => trivial
 | .gr .. => ⟨rfl, rfl⟩
 | .mpo .. => trivial
 | .pin _ => rfl
structure Tr (w : World) (g : Gs) (h : Nat → Option Ob) (w' : World) (g' : Gs) (h' : Nat → Option Ob) : Prop where
 ext : Ext w g.lm w' g'.lm
 hp : ∀ d o, h d = some o → (o.live = true ∧ h' d = some .dead) ∨ (g'.v d = g.v d ∧ ∃ o', h' d = some o' ∧ Shp o o')
theorem QRep.tr {w g h w' g' h'} (T : Tr w g h w' g' h') {v u} (r : QRep w g h v u) : QRep w' g' h' v u := by
  cases v with
  | p x => exact Rep.ext T.ext r
  | ms d off len =>
    simp only [QRep] at r ⊢
    cases hd : h d with
    | none => rw [hd] at r; exact r.elim
    | some o =>
      rw [hd] at r
      rcases T.hp d o hd with ⟨_, h1⟩ | ⟨h1, o', h2, h3⟩
      · rw [h1]; trivial
      · rw [h2]
        cases o <;> cases o' <;> simp only [Shp] at h3 <;> first | exact h3.elim | exact r.elim | trivial | skip
        all_goals
          obtain ⟨rfl, h4⟩ := h3
          dsimp only at r ⊢; rw [← h4, h1]; exact r
  | mp d i j =>
    simp only [QRep] at r ⊢
    cases hd : h d with
    | none => rw [hd] at r; exact r.elim
    | some o =>
      rw [hd] at r
      rcases T.hp d o hd with ⟨_, h1⟩ | ⟨h1, o', h2, h3⟩
      · rw [h1]; trivial
      · rw [h2]
        cases o <;> cases o' <;> simp only [Shp] at h3 <;> first | exact h3.elim | exact r.elim | trivial | skip
        all_goals
          first
          | (obtain ⟨rfl, h4⟩ := h3
             rw [h1]; exact r)
          | (rw [h1]; exact r)
  | mo d =>
    simp only [QRep] at r ⊢
    cases hd : h d with
    | none => rw [hd] at r; exact r.elim
    | some o =>
      rw [hd] at r
      rcases T.hp d o hd with ⟨_, h1⟩ | ⟨h1, o', h2, h3⟩
      · rw [h1]; trivial
      · rw [h2]
        cases o <;> cases o' <;> simp only [Shp] at h3 <;> first | exact h3.elim | exact r.elim | trivial | skip
        all_goals
          dsimp only at r ⊢; rw [h1]; exact r
theorem QRepL.tr {w g h w' g' h'} (T : Tr w g h w' g' h') : ∀ {l vs}, QRepL w g h l vs → QRepL w' g' h' l vs
 | _, _, .nil => .nil
 | _, _, .cons a b => .cons (QRep.tr T a) (QRepL.tr T b)
theorem QRep.sv {w g h} : ∀ {v u}, QRep w g h v u ↔ SRep w g h v.sv u
 | .p _, _ => Iff.rfl
 | .ms .., _ => Iff.rfl
 | .mp .., _ => Iff.rfl
 | .mo _, _ => Iff.rfl
theorem SV.rv_sv {v : SV} {r : RV} (h : v.rv = some r) : v = r.sv := by
 cases v <;> simp [SV.rv] at h <;> subst h <;> rfl
theorem SRep.tr {w g h w' g' h'} (T : Tr w g h w' g' h') {v u} (r : SRep w g h v u) : SRep w' g' h' v u := by
 cases v with
 | p x => exact Rep.ext T.ext r
 | xs k l =>
  obtain ⟨a, h1, h2, h3, h4⟩ := r
  refine ⟨a, h1, h2, h3, h4.imp id ?_⟩
  rintro ⟨b, o, vs, e, hr, hm⟩
  exact ⟨b, o, vs, e, hr.ext T.ext, hm.ext T.ext⟩
 | ms d off len => exact QRep.sv.1 (QRep.tr T (v := .ms d off len) (QRep.sv.2 r))
 | mp d i j => exact QRep.sv.1 (QRep.tr T (v := .mp d i j) (QRep.sv.2 r))
 | mo d => exact QRep.sv.1 (QRep.tr T (v := .mo d) (QRep.sv.2 r))
 | sst l => obtain ⟨vs, h1, h2, h3⟩ := r; exact ⟨vs, h1, h2.tr T, h3⟩
 | stu l => obtain ⟨vs, h1, h2⟩ := r; exact ⟨vs, h1, h2.tr T⟩
 | fnv f l => obtain ⟨vs, h1, h2⟩ := r; exact ⟨vs, h1, h2.tr T⟩
theorem Tu1 {w g h w' g' h'} (T : Tr w g h w' g' h') {l : List Nat} (hp : h 999999 = some (.pin l) ∧ ∀ d ∈ l, d = 999999 ∨ h d ≠ none) : h' 999999 = some (.pin l) ∧ ∀ d ∈ l, d = 999999 ∨ h' d ≠ none := by
 constructor
 · rcases T.hp _ _ hp.1 with ⟨h3, _⟩ | ⟨_, o', h3, h4⟩
   · simp [Ob.live] at h3
   · cases o' <;> simp only [Shp] at h4
     subst h4
     exact h3
 · intro d hd
   rcases hp.2 d hd with h1 | h1
   · exact .inl h1
   · right
     cases ho : h d with
     | none => exact absurd ho h1
     | some o =>
      rcases T.hp _ _ ho with ⟨_, h3⟩ | ⟨_, o', h3, _⟩
      · rw [h3]; simp
      · rw [h3]; simp
theorem Tas {w w' : World} {base : Nat} {e k : Nat} {v : Value} {n : Nat} {xs : List Value} (h : w.ownsRow base e k v n xs) (hb : ∀ b, blk v = some b → w'.heap[b]? = w.heap[b]?) : w'.ownsRow base e k v n xs := by
 refine ⟨h.1, ?_⟩
 rcases h.2 with h | ⟨b, cap, cur, rfl, h1, h2, rest⟩
 · exact .inl h
 · exact .inr ⟨b, cap, cur, rfl, h1, by rw [hb b rfl]; exact h2, rest⟩
theorem ORep.keep {w g base d o w' g'} (h : ORep w g base d o) (hv : ∀ x, Ids d o x → g'.v x = g.v x) (hx : Ext w g.lm w' g'.lm) (hb : o.live = true → ∀ x, Ids d o x → ∀ b, blk (g.v x) = some b → w'.heap[b]? = w.heap[b]? ∧ g'.lm b = g.lm b) : ORep w' g' base d o := by
 have hvd := hv d (.self _ _)
 cases o with
 | row e k fz l =>
  obtain ⟨h1, h2, ⟨xs, h3, h4, h5⟩, h6⟩ := h
  refine ⟨h1, h2, ⟨xs, ?_, h4.ext hx, h5⟩, fun b hbk => ?_⟩
  · rw [hvd]; exact Tas h3 fun b e => (hb rfl d (.self _ _) b e).1
  · rw [hvd] at hbk; rw [(hb rfl d (.self _ _) b hbk).2]; exact h6 b hbk
 | it s pos =>
  obtain ⟨b, h1, h2, h3⟩ := h
  exact ⟨b, hvd.trans h1, h2, by rw [(hb rfl d (.self _ _) b (by rw [h1]; rfl)).1]; exact h3⟩
 | dp e k l =>
  obtain ⟨h1, h2, ⟨xs, h3, h4, h5, h7⟩, h6, h8⟩ := h
  refine ⟨h1, h2, ⟨xs, ?_, h4.ext hx, h5, fun p e' k' l' hp hk => ?_⟩, fun b hbk => ?_, fun p hp => ?_⟩
  · rw [hvd]; exact Tas h3 fun b e => (hb rfl d (.self _ _) b e).1
  · have hi : Ids d (.dp e k l) (nid d p) := .dp hp hk
    obtain ⟨q1, q2, q3, ⟨ys, q4, q5, q6⟩, q7⟩ := h7 p e' k' l' hp hk
    have e1 := hv _ hi
    refine ⟨by rw [e1]; exact q1, q2, q3, ⟨ys, ?_, q5.ext hx, q6⟩, fun b hbk => ?_⟩
    · rw [e1]; exact Tas q4 fun b e => (hb rfl _ hi b e).1
    · rw [e1] at hbk; rw [(hb rfl _ hi b hbk).2]; exact q7 b hbk
  · rw [hvd] at hbk; rw [(hb rfl d (.self _ _) b hbk).2]; exact h6 b hbk
  · obtain ⟨b, q1, q2⟩ := h8 p hp
    refine ⟨b, by rw [hvd]; exact q1, ?_⟩
    rw [World.cell?_of_block (a := ⟨b, p, none⟩) (hb rfl d (.self _ _) b (by rw [q1]; rfl)).1]
    exact q2
 | dead => trivial
 | gr e k l =>
  obtain ⟨h1, h2, ⟨xs, h3, h5⟩, h6⟩ := h
  refine ⟨h1, h2, ⟨xs, ?_, h5⟩, fun b hbk => ?_⟩
  · rw [hvd]; exact Tas h3 fun b e => (hb rfl d (.self _ _) b e).1
  · rw [hvd] at hbk; rw [(hb rfl d (.self _ _) b hbk).2]; exact h6 b hbk
 | mpo U fl G F =>
  have hi : ∀ p, p < 3 + U.length → g'.v (nid d p) = g.v (nid d p) := fun p hp => hv _ (.mpo hp)
  have mk : ∀ p l, p < 3 + U.length → MapAt w g base (nid d p) l → MapAt w' g' base (nid d p) l := fun p l hp ⟨b, h1, h2, h3, h4⟩ => by
   have := hb rfl _ (.mpo hp) b (by rw [h1]; rfl)
   exact ⟨b, (hi p hp).trans h1, h2, h3.keep this.1, this.2.trans h4⟩
  obtain ⟨h0, ⟨b, h1, h2, h3, h4⟩, ⟨xs, h5, h6⟩, h7, h8, h9, h10⟩ := h
  have hbb := hb rfl d (.self _ _) b (by rw [h1]; rfl)
  have hul : ∀ i u, xs[i]? = some u → i < U.length := fun i u hu => by
   have := (List.getElem?_eq_some_iff.1 hu).1
   have := h5.1
   omega
  refine ⟨h0, ⟨b, hvd.trans h1, h2, hbb.2.trans h3, ?_⟩, ⟨xs, ?_, fun i u hu => ?_⟩, fun b hbk => ?_, fun i l hl => ?_, mk 1 G (by omega) h9, mk 2 F (by omega) h10⟩
  · rw [hbb.1, h4, hi 0 (by omega), hi 1 (by omega), hi 2 (by omega)]
  · rw [hi 0 (by omega)]
    exact Tas h5 fun b e => (hb rfl _ (.mpo (p := 0) (by omega)) b e).1
  · rw [hi (3 + i) (by have := hul i u hu; omega)]; exact h6 i u hu
  · rw [hi 0 (by omega)] at hbk
    rw [(hb rfl _ (.mpo (p := 0) (by omega)) b hbk).2]; exact h7 b hbk
  · exact mk _ _ (by have := (List.getElem?_eq_some_iff.1 hl).1; omega) (h8 i l hl)
 | pin l => trivial
theorem Tap {w : World} {base e k n : Nat} {v : Value} {xs : List Value} (h3 : w.ownsRow base e k v n xs) {b : Nat} (hb : blk v = some b) : base ≤ b ∧ b < w.heap.size := by
 rcases h3.2 with ⟨h, _⟩ | ⟨b', cap, cur, h, h1, h2, _⟩
 · rw [h] at hb; simp [blk] at hb
 · rw [h] at hb; simp [blk] at hb; subst hb
   exact ⟨h1, (Array.getElem?_eq_some_iff.1 h2).1⟩
theorem ORep.blockI {w g base d o} (h : ORep w g base d o) (hl : o.live = true) {x : Nat} (hi : Ids d o x) {b : Nat} (hb : blk (g.v x) = some b) : base ≤ b ∧ b < w.heap.size := by
 cases o with
 | row e k fz l =>
  obtain rfl := hi.plain rfl
  obtain ⟨_, _, ⟨xs, h3, _⟩, _⟩ := h
  exact Tap h3 hb
 | it s pos =>
  obtain rfl := hi.plain rfl
  obtain ⟨b', h1, h2, h3⟩ := h
  rw [h1] at hb; simp [blk] at hb; subst hb
  exact ⟨h2, (Array.getElem?_eq_some_iff.1 h3).1⟩
 | dp e k l =>
  obtain ⟨_, _, ⟨xs, h3, _, _, h7⟩, _⟩ := h
  rcases hi with rfl | ⟨_, _, _, p, e', k', l', ho, hp, hk, rfl⟩ | ⟨_, _, _, _, p, ho, _⟩
  · exact Tap h3 hb
  · simp only [Ob.dp.injEq] at ho
    obtain ⟨rfl, rfl, rfl⟩ := ho
    obtain ⟨_, _, _, ⟨ys, q4, _⟩, _⟩ := h7 p e' k' l' hp hk
    exact Tap q4 hb
  · simp at ho
 | dead => simp [Ob.live] at hl
 | gr e k l =>
  obtain rfl := hi.plain rfl
  obtain ⟨_, _, ⟨xs, h3, _⟩, _⟩ := h
  exact Tap h3 hb
 | mpo U fl G F =>
  obtain ⟨h0, ⟨b1, h1, h2, h3, h4⟩, ⟨xs, h5, h6⟩, h7, h8, h9, h10⟩ := h
  have mk : ∀ p l, MapAt w g base (nid d p) l → blk (g.v (nid d p)) = some b → base ≤ b ∧ b < w.heap.size := fun p l ⟨b', q1, q2, q3, _⟩ hb => by
   rw [q1] at hb; simp [blk] at hb; subst hb
   exact ⟨q2, q3.lt⟩
  rcases hi with rfl | ⟨_, _, _, p, _, _, _, ho, _⟩ | ⟨_, _, _, _, p, ho, hp, rfl⟩
  · rw [h1] at hb; simp [blk] at hb; subst hb
    exact ⟨h2, (Array.getElem?_eq_some_iff.1 h4).1⟩
  · simp at ho
  · simp only [Ob.mpo.injEq] at ho
    obtain ⟨rfl, rfl, rfl, rfl⟩ := ho
    rcases Nat.lt_or_ge p 3 with hp3 | hp3
    · rcases (show p = 0 ∨ p = 1 ∨ p = 2 by omega) with rfl | rfl | rfl
      · exact Tap h5 hb
      · exact mk _ _ h9 hb
      · exact mk _ _ h10 hb
    · obtain ⟨i, rfl⟩ : ∃ i, p = 3 + i := ⟨p - 3, by omega⟩
      exact mk _ _ (h8 i U[i] (List.getElem?_eq_getElem (by omega))) hb
 | pin l => simp [Ob.live] at hl
theorem ORep.block {w g base d o} (h : ORep w g base d o) (hl : o.live = true) {b : Nat} (hb : blk (g.v d) = some b) : base ≤ b ∧ b < w.heap.size := h.blockI hl (.self _ _) hb
section
variable {base : Nat} {w0 : World} {lm0 : L0} {N : Nat} {g : Gs} {a : Act} {w : World} {s : St}
theorem Sim.bw (S : Sim base w0 lm0 N g a w s) : base ≤ w.heap.size := by rw [S.bas]; exact S.below.size
theorem Sim.put (S : Sim base w0 lm0 N g a w s) {d : Nat} {v : SV} {u : Value} (hd : d < N) (hr : SRep w g (get s.h) v u) : Sim base w0 lm0 N g (a.put (some d) u) w ⟨put s.t d v, s.h⟩ := by
 refine ⟨S.bas, by simp [Act.put, S.size], S.defers, S.below, S.lm, fun n v' hn => ?_, S.ob, S.lt, S.ap, S.gs, S.ov, S.pn, S.px, S.fr⟩
 rw [Ta9] at hn
 by_cases h : d = n
 · subst h
   rw [if_pos rfl] at hn
   obtain rfl := oIj hn
   exact ⟨u, by simp [Act.put, S.size, hd], hr⟩
 · rw [if_neg h] at hn
   obtain ⟨u', h1, h2⟩ := S.tm n v' hn
   exact ⟨u', by simp only [Act.put]; rw [Array.getElem?_setIfInBounds_ne h]; exact h1, h2⟩
theorem Sim.turn (S : Sim base w0 lm0 N g a w s) {w' : World} {g' : Gs} {h' : List (Nat × Ob)} (T : Tr w g (get s.h) w' g' (get h')) (hb : Below base w w') (hl : ∀ b, b < base → g'.lm b = g.lm b)
 (ho : ∀ d o, get h' d = some o → ORep w' g' base d o)
 (hlt : ∀ d o, get h' d = some o → d < 1000000)
 (hap : ∃ own : Nat → Nat, ∀ d o x b, get h' d = some o → o.live = true → Ids d o x → blk (g'.v x) = some b → own b = x)
 (hgs : ∀ d e k l, get h' d = some (.gr e k l) → (get s.h d = some (.gr e k l) ∧ g'.v d = g.v d ∧ ∀ b, blk (g.v d) = some b → w'.heap[b]? = w.heap[b]?) ∨ ∀ xs, w'.ownsRow base e k (g'.v d) l.length xs → QRepL w' g' (get h') l.flatten xs)
 (hfr : ∀ b, lm0.K b → b < w.heap.size → Free g (get s.h) b → (w'.heap[b]? = w.heap[b]? ∧ g'.lm b = g.lm b) ∧ Free g' (get h') b) : Sim base w0 lm0 N g' a w' ⟨s.t, h'⟩ :=
 ⟨S.bas, S.size, S.defers, S.below.trans hb, fun b h => (hl b h).trans (S.lm b h), fun n v hn => let ⟨u, h1, h2⟩ := S.tm n v hn; ⟨u, h1, h2.tr T⟩, ho, hlt, hap,
  fun d e k l xs hd hw => by
   rcases hgs d e k l hd with ⟨h1, h2, h3⟩ | h1
   · rw [h2] at hw
     exact (S.gs d e k l xs h1 (Tas hw fun b hb => (h3 b hb).symm)).tr T
   · exact h1 xs hw,
  fun v u hq => (S.ov v u hq).tr T, S.pn, fun l hl => Tu1 T (S.px l hl),
  ⟨S.fr.ex.trans T.ext, Nat.le_trans S.fr.sz hb.size, fun b hb => by
   obtain ⟨h1, h2⟩ := S.fr.kf b hb
   obtain ⟨⟨h3, h4⟩, _⟩ := hfr b hb (Nat.lt_of_lt_of_le hb.2 S.fr.sz) (S.fr.kd b hb)
   exact ⟨h3.trans h1, h4.trans h2⟩, fun b hb => (hfr b hb (Nat.lt_of_lt_of_le hb.2 S.fr.sz) (S.fr.kd b hb)).2⟩⟩
theorem Sim.far (S : Sim base w0 lm0 N g a w s) {d d' : Nat} {o o' : Ob} (h1 : get s.h d = some o) (h2 : get s.h d' = some o') (l1 : o.live = true) (l2 : o'.live = true) {x x' : Nat} (i1 : Ids d o x) (i2 : Ids d' o' x') (hne : x ≠ x') {b : Nat} (hb : blk (g.v x) = some b) : blk (g.v x') ≠ some b := fun hb' => by
 obtain ⟨own, hap⟩ := S.ap
 exact hne ((hap d o x b h1 l1 i1 hb).symm.trans (hap d' o' x' b h2 l2 i2 hb'))
theorem Sim.ne (S : Sim base w0 lm0 N g a w s) {d d' : Nat} {o o' : Ob} (h1 : get s.h d = some o) (h2 : get s.h d' = some o') (hne : d ≠ d') {x x' : Nat} (i1 : Ids d o x) (i2 : Ids d' o' x') : x ≠ x' := fun e => by
 have q1 := i1.mod (S.lt _ _ h1)
 have q2 := i2.mod (S.lt _ _ h2)
 rw [e] at q1
 exact hne (q1.symm.trans q2)
def upd {α : Type} (f : Nat → α) (d : Nat) (x : α) : Nat → α := fun e => if e = d then x else f e
theorem Tah {α : Type} (f : Nat → α) (d : Nat) (x : α) : upd f d x d = x := if_pos rfl
theorem Ta7 {α : Type} (f : Nat → α) {d e : Nat} (h : e ≠ d) (x : α) : upd f d x e = f e := if_neg h
theorem Sim.cells (S : Sim base w0 lm0 N g a w s) {w' : World} {d : Nat} {o o' : Ob} {lm' : Nat → Nat} (hd : get s.h d = some o) (hsh : Shp o o') (hlv : o.live = true) (hids : ∀ x, Ids d o' x → Ids d o x) (hx : Ext w g.lm w' lm') (hb : Below base w w')
 (hgr : ∀ e k l, o' = .gr e k l → ∀ xs, w'.ownsRow base e k (g.v d) l.length xs → QRepL w' ⟨lm', g.v⟩ (get (AM.put s.h d o')) l.flatten xs)
 (hbl : ∀ b, (∀ x, Ids d o x → blk (g.v x) ≠ some b) → b < w.heap.size → w'.heap[b]? = w.heap[b]? ∧ lm' b = g.lm b) (hnew : ORep w' ⟨lm', g.v⟩ base d o') : Sim base w0 lm0 N ⟨lm', g.v⟩ a w' ⟨s.t, AM.put s.h d o'⟩ := by
 have hlv' : o'.live = true := by cases o <;> cases o' <;> simp_all [Shp, Ob.live]
 refine S.turn (w' := w') (g' := ⟨lm', g.v⟩) (h' := AM.put s.h d o') ⟨hx, fun d1 o1 h1 => .inr ⟨rfl, ?_⟩⟩ hb (fun b h => ?_) (fun d1 o1 h1 => ?_) (fun d1 o1 h1 => ?_) ?_ (fun d1 e1 k1 l1 h1 => ?_) (fun b _ hbz hF => ⟨hbl b (fun x hx => hF d o x hd hlv hx) hbz, fun d1 o1 x h1 l1 hi => ?_⟩)
 · by_cases e : d = d1
   · subst e
     rw [hd] at h1
     obtain rfl := oIj h1
     exact ⟨o', Taa _ _ _, hsh⟩
   · exact ⟨o1, by rw [Tac _ e]; exact h1, Shp.refl _⟩
 · refine (hbl b (fun x hx e => ?_) (Nat.lt_of_lt_of_le h S.bw)).2
   have := ((S.ob d o hd).blockI hlv hx e).1
   omega
 · by_cases e : d = d1
   · subst e
     rw [Taa] at h1
     obtain rfl := oIj h1
     exact hnew
   · rw [Tac _ e] at h1
     refine (S.ob d1 o1 h1).keep (fun _ _ => rfl) hx fun hl x hi b hbk => ?_
     exact hbl b (fun y hy => S.far h1 hd hl hlv hi hy (S.ne h1 hd (Ne.symm e) hi hy) hbk) ((S.ob d1 o1 h1).blockI hl hi hbk).2
 · by_cases e : d = d1
   · subst e; exact S.lt _ _ hd
   · rw [Tac _ e] at h1; exact S.lt _ _ h1
 · obtain ⟨own, hap⟩ := S.ap
   refine ⟨own, fun d1 o1 x b h1 l1 hi hbk => ?_⟩
   by_cases e : d = d1
   · subst e
     rw [Taa] at h1
     obtain rfl := oIj h1
     exact hap d o x b hd hlv (hids x hi) hbk
   · rw [Tac _ e] at h1
     exact hap d1 o1 x b h1 l1 hi hbk
 · by_cases e : d = d1
   · subst e
     rw [Taa] at h1
     exact .inr fun xs hw => hgr _ _ _ (oIj h1) xs hw
   · rw [Tac _ e] at h1
     refine .inl ⟨h1, rfl, fun b hbk => ?_⟩
     exact (hbl b (fun y hy => S.far h1 hd rfl hlv (.self _ _) hy (S.ne h1 hd (Ne.symm e) (.self _ _) hy) hbk) ((S.ob d1 _ h1).block rfl hbk).2).1
 · by_cases e : d = d1
   · subst e
     rw [Taa] at h1
     obtain rfl := oIj h1
     exact hF d o x hd hlv (hids x hi)
   · rw [Tac _ e] at h1
     exact hF d1 o1 x h1 l1 hi
theorem Sim.cells1 (S : Sim base w0 lm0 N g a w s) {w' : World} {d : Nat} {o o' : Ob} {lm' : Nat → Nat} (hd : get s.h d = some o) (hsh : Shp o o') (hlv : o.live = true) (hp : o.isDp = false) (hp' : o'.isDp = false) (hx : Ext w g.lm w' lm') (hb : Below base w w')
 (hbl : ∀ b, blk (g.v d) ≠ some b → b < w.heap.size → w'.heap[b]? = w.heap[b]? ∧ lm' b = g.lm b) (hnew : ORep w' ⟨lm', g.v⟩ base d o') (hng : o'.isGr = false := by rfl) : Sim base w0 lm0 N ⟨lm', g.v⟩ a w' ⟨s.t, AM.put s.h d o'⟩ :=
 S.cells hd hsh hlv (fun x h => by rw [h.plain hp']; exact .self _ _) hx hb (fun e k l h => by rw [h] at hng; simp [Ob.isGr] at hng) (fun b h => hbl b (h d (.self _ _))) hnew
end
end Go.Proofs.YtjpibniecllafaaGreat.AM
end
section
namespace Go.Proofs.YtjpibniecllafaaGreat.AM
open Go Go.RowKit
theorem Ext.of_below {w w' : World} {lm lm' : Nat → Nat} (h : Below w.heap.size w w') (hl : ∀ b, b < w.heap.size → lm' b = lm b) : Ext w lm w' lm' := by
 exact Ext.blocks fun b hb _ => ⟨h.block b hb, hl b hb⟩
section
variable {base : Nat} {w0 : World} {lm0 : L0} {N : Nat} {g : Gs} {a : Act} {w : World} {s : St}
theorem Sim.newG (S : Sim base w0 lm0 N g a w s) {id : Nat} (hid : get s.h id = none) (hid2 : id < 1000000) {w' : World} {lm' : Nat → Nat} {v' : Nat → Value} {o : Ob} (hb : Below w.heap.size w w') (hl : ∀ b, b < w.heap.size → lm' b = g.lm b)
 (hvs : ∀ x, x % 1000000 ≠ id → v' x = g.v x) (hv : ∀ x b, Ids id o x → blk (v' x) = some b → w.heap.size ≤ b) (hown : ∃ own : Nat → Nat, ∀ x b, Ids id o x → blk (v' x) = some b → own b = x) (ho : ORep w' ⟨lm', v'⟩ base id o) (hgr : ∀ e k l, o = .gr e k l → ∀ xs, w'.ownsRow base e k (v' id) l.length xs → QRepL w' ⟨lm', v'⟩ (get (AM.put s.h id o)) l.flatten xs := by intro _ _ _ h; cases h) :
 Sim base w0 lm0 N ⟨lm', v'⟩ a w' ⟨s.t, AM.put s.h id o⟩ ∧ Tr w g (get s.h) w' ⟨lm', v'⟩ (get (AM.put s.h id o)) := by
 have hx := Ext.of_below hb hl
 have hne : ∀ d o1, get s.h d = some o1 → d ≠ id := fun d o1 h1 e => by rw [e, hid] at h1; simp at h1
 have hni : ∀ d o1 x, get s.h d = some o1 → Ids d o1 x → x % 1000000 ≠ id := fun d o1 x h1 hi e => hne d o1 h1 ((hi.mod (S.lt _ _ h1)).symm.trans e)
 have T : Tr w g (get s.h) w' ⟨lm', v'⟩ (get (AM.put s.h id o)) := ⟨hx, fun d o1 h1 => .inr ⟨hvs _ (hni d o1 d h1 (.self _ _)), o1, by rw [Tac _ (Ne.symm (hne d o1 h1))]; exact h1, Shp.refl _⟩⟩
 refine ⟨S.turn T (hb.mono S.bw) (fun b h => hl b (Nat.lt_of_lt_of_le h S.bw)) (fun d o1 h1 => ?_) (fun d o1 h1 => ?_) ?_ (fun d e1 k1 l1 h1 => ?_) (fun b _ hbz hF => ⟨⟨hb.block b hbz, hl b hbz⟩, fun d o1 x h1 l1 hi hbk => ?_⟩), T⟩
 · by_cases e : id = d
   · subst e
     rw [Taa] at h1
     obtain rfl := oIj h1
     exact ho
   · rw [Tac _ e] at h1
     refine (S.ob d o1 h1).keep (fun x hi => hvs _ (hni d o1 x h1 hi)) hx fun hlv x hi b hbk => ?_
     have := ((S.ob d o1 h1).blockI hlv hi hbk).2
     exact ⟨hb.block b this, hl b this⟩
 · by_cases e : id = d
   · subst e; exact hid2
   · rw [Tac _ e] at h1; exact S.lt _ _ h1
 · obtain ⟨own, hap⟩ := S.ap
   obtain ⟨own', hap'⟩ := hown
   refine ⟨fun b => if w.heap.size ≤ b then own' b else own b, fun d o1 x b h1 l1 hi hb1 => ?_⟩
   dsimp only
   by_cases e : id = d
   · subst e
     rw [Taa] at h1
     obtain rfl := oIj h1
     rw [if_pos (hv x b hi hb1)]
     exact hap' x b hi hb1
   · rw [Tac _ e] at h1
     dsimp only at hb1
     rw [hvs _ (hni d o1 x h1 hi)] at hb1
     have := ((S.ob d o1 h1).blockI l1 hi hb1).2
     rw [if_neg (by omega)]
     exact hap d o1 x b h1 l1 hi hb1
 · by_cases e : id = d
   · subst e
     rw [Taa] at h1
     exact .inr fun xs hw => hgr _ _ _ (oIj h1) xs hw
   · rw [Tac _ e] at h1
     exact .inl ⟨h1, hvs _ (hni d _ d h1 (.self _ _)), fun b hbk => hb.block b ((S.ob d _ h1).block rfl hbk).2⟩
 · by_cases e : id = d
   · subst e
     rw [Taa] at h1
     obtain rfl := oIj h1
     have := hv x b hi hbk
     omega
   · rw [Tac _ e] at h1
     dsimp only at hbk
     rw [hvs _ (hni d o1 x h1 hi)] at hbk
     exact hF d o1 x h1 l1 hi hbk
theorem Sim.new (S : Sim base w0 lm0 N g a w s) {id : Nat} (hid : get s.h id = none) (hid2 : id < 1000000) {w' : World} {lm' : Nat → Nat} {v0 : Value} {o : Ob} (hb : Below w.heap.size w w') (hl : ∀ b, b < w.heap.size → lm' b = g.lm b)
 (hop : o.isDp = false) (hv : ∀ b, blk v0 = some b → w.heap.size ≤ b) (ho : ORep w' ⟨lm', upd g.v id v0⟩ base id o) (hgr : ∀ e k l, o = .gr e k l → ∀ xs, w'.ownsRow base e k (upd g.v id v0 id) l.length xs → QRepL w' ⟨lm', upd g.v id v0⟩ (get (AM.put s.h id o)) l.flatten xs := by intro _ _ _ h; cases h) :
 Sim base w0 lm0 N ⟨lm', upd g.v id v0⟩ a w' ⟨s.t, AM.put s.h id o⟩ ∧ Tr w g (get s.h) w' ⟨lm', upd g.v id v0⟩ (get (AM.put s.h id o)) :=
 S.newG hid hid2 hb hl (fun x hx => Ta7 _ (fun e => hx (by rw [e]; omega)) _) (fun x b hi hb1 => by obtain rfl := hi.plain hop; simp only [Tah] at hb1; exact hv b hb1) ⟨fun _ => id, fun x b hi _ => (hi.plain hop).symm⟩ ho hgr
def Fz : Option Ob → Option Ob → Prop
 | some (.row e k _ l), some (.row e' k' _ l') => e = e' ∧ k = k' ∧ l = l'
 | a, b => a = b
theorem Fz.refl : ∀ o, Fz o o
 | some (.row ..) => ⟨rfl, rfl, rfl⟩
 | some (.it ..) => rfl
 | some (.dp ..) => rfl
 | some .dead => rfl
 | some (.gr ..) => rfl
 | some (.mpo ..) => rfl
 | some (.pin ..) => rfl
 | none => rfl
theorem Fz.row {o e k fz l} (h : Fz (some (.row e k fz l)) o) : ∃ fz', o = some (.row e k fz' l) := by
 cases o with
 | none => simp [Fz] at h
 | some o => cases o <;> simp [Fz] at h; obtain ⟨rfl, rfl, rfl⟩ := h; exact ⟨_, rfl⟩
theorem Fz.none_iff {o o'} (h : Fz o o') : o = none ↔ o' = none := by
 cases o with
 | none => cases o' with
  | none => simp
  | some x => simp [Fz] at h
 | some x => cases o' with
  | none => cases x <;> simp [Fz] at h
  | some y => simp
theorem Fz.set {o e k fz l} (h : Fz o (some (.row e k fz l))) : Fz o (some (.row e k true l)) := by
 cases o with
 | none => simp [Fz] at h
 | some o => cases o <;> simp_all [Fz]
theorem Tkr {w : World} {lm : Nat → Nat} {base e k n : Nat} {v : Value} {xs : List Value} (h : w.ownsRow base e k v n xs) (h1 : ∀ u ∈ xs, u.oneCell' = true) {b : Nat} (hb : blk v = some b) (hl : n * k ≤ lm b) (i : Nat) :
 Mem w lm b i (xs.drop i) := by
 intro j u hu
 rw [List.getElem?_drop] at hu
 have hlt : i + j < xs.length := (List.getElem?_eq_some_iff.1 hu).1
 refine ⟨?_, by have := h.1; omega, h1 u (List.mem_of_getElem? hu)⟩
 rcases h.2 with ⟨rfl, _⟩ | ⟨b', cap, cur, rfl, _, hg, _, _, _, ht⟩
 · simp [blk] at hb
 · simp [blk] at hb
   subst hb
   rw [cell_of_row w b' (i + j) cur e (0, 0) hg]
   rw [← ht, List.getElem?_take] at hu
   split at hu
   · simpa using hu
   · simp at hu
theorem Mem.take {w lm b o vs} (h : Mem w lm b o vs) (n : Nat) : Mem w lm b o (vs.take n) := fun j u hu => by
 rw [List.getElem?_take] at hu
 split at hu
 · exact h j u hu
 · simp at hu
theorem Mem.drop {w lm b o vs} (h : Mem w lm b o vs) (n : Nat) : Mem w lm b (o + n) (vs.drop n) := fun j u hu => by
 rw [List.getElem?_drop] at hu
 have := h _ u hu
 rw [Nat.add_assoc]
 exact this
theorem Sim.freeze (S : Sim base w0 lm0 N g a w s) {d e k : Nat} {fz : Bool} {l : List (List PV)} (hd : get s.h d = some (.row e k fz l)) :
 ∃ lm', Sim base w0 lm0 N ⟨lm', g.v⟩ a w ⟨s.t, AM.put s.h d (.row e k true l)⟩ ∧ Tr w g (get s.h) w ⟨lm', g.v⟩ (get (AM.put s.h d (.row e k true l))) ∧ ∀ b, blk (g.v d) = some b → lm' b = l.length * k := by
 obtain ⟨h1, h2, ⟨xs, h3, h4, h5⟩, h6⟩ := S.ob d _ hd
 let lm' : Nat → Nat := fun b => if blk (g.v d) = some b then l.length * k else g.lm b
 have hlm : ∀ b, blk (g.v d) = some b → lm' b = l.length * k := fun b hb => if_pos hb
 have hx : Ext w g.lm w lm' := by
  refine Ext.blocks fun b _ h0 => ⟨rfl, ?_⟩
  by_cases e : blk (g.v d) = some b
  · rw [hlm b e]
    have h7 := h6 b e
    rw [h7] at h0 ⊢
    split at h0
    · rename_i hz; rw [if_pos hz]
    · omega
  · show (if _ then _ else _) = _
    rw [if_neg e]
 refine ⟨lm', S.cells1 hd ⟨rfl, rfl⟩ rfl rfl rfl hx (Below.refl _ _) (fun b hb _ => ⟨rfl, if_neg hb⟩) ⟨h1, h2, ⟨xs, h3, h4.ext hx, h5⟩, fun b hb => by show lm' b = _; rw [hlm b hb]; simp⟩, ⟨hx, fun d1 o1 hd1 => .inr ⟨rfl, ?_⟩⟩, hlm⟩
 by_cases e : d = d1
 · subst e
   rw [hd] at hd1
   obtain rfl := oIj hd1
   exact ⟨_, Taa _ _ _, rfl, rfl⟩
 · exact ⟨o1, by rw [Tac _ e]; exact hd1, Shp.refl _⟩
theorem Teb {α : Type} (l : List α) {off len : Nat} (h : off + len ≤ l.length) : ((l.drop off).take len).length = len := by simp; omega
theorem Sim.part (S : Sim base w0 lm0 N g a w s) {d e k : Nat} {l : List (List PV)} (hd : get s.h d = some (.row e k true l)) {off len : Nat} {u : Value} (hr : SRep w g (get s.h) (.ms d off len) u) : Rep w g.lm (.sl k ((l.drop off).take len)) u := by
 obtain ⟨h1, h2, ⟨xs, h3, h4, h5⟩, h6⟩ := S.ob d _ hd
 simp only [SRep, hd] at hr
 obtain ⟨hle, hr⟩ := hr
 have hmem : ∀ c ∈ (l.drop off).take len, c.length = k := fun c hc => h2 c (List.mem_of_mem_drop (List.mem_of_mem_take hc))
 have hfl : ((l.drop off).take len).flatten = (l.flatten.drop (off * k)).take (len * k) := by
  rw [Tar off h2, Tbo len (fun c hc => h2 c (List.mem_of_mem_drop hc))]
 have hll := Teb l hle
 have key : ∀ b cap, blk (g.v d) = some b → len ≤ cap → Rep w g.lm (.sl k ((l.drop off).take len)) (.slice (some ⟨b, off * k, none⟩) len cap) := by
  intro b cap hb hcap
  have hm := (Tkr h3 h5 hb (lm := g.lm) (by rw [h6 b hb]; simp) (off * k)).take (len * k)
  have hrl := (h4.drop (off * k)).take (len * k)
  rw [← hfl] at hrl
  have := Rep.sl (w := w) (lm := g.lm) (cap := cap) h1 hmem hrl hm (by rw [hll]; exact hcap)
  rwa [hll] at this
 rcases hr with ⟨rfl, rfl, rfl⟩ | ⟨_, ad, cap, rfl, hcap, hz⟩
 · rcases h3.2 with ⟨hv, h0⟩ | ⟨b, cap, cur, hv, _, _, hcap, _⟩
   · rw [hv]
     have : l = [] := List.eq_nil_of_length_eq_zero h0
     subst this
     exact .sl0
   · have := key b cap (by rw [hv]; rfl) hcap
     rw [hv]
     simpa using this
 · by_cases h0 : len = 0
   · subst h0
     rw [List.take_zero]
     exact .sl0
   · rcases hz with hz | ⟨b, hb, rfl⟩
     · exact absurd hz h0
     · exact key b cap hb hcap
theorem Tcp (S : Sim base w0 lm0 N g a w s) {h0 : List (Nat × Ob)} (hf : ∀ d, Fz (get h0 d) (get s.h d)) {v : SV} {u : Value} (hr : SRep w g (get s.h) v u) {x : PV} {fr : List (Nat × Ob)} (he : frz h0 v = some (x, fr)) :
 ∃ lm', Sim base w0 lm0 N ⟨lm', g.v⟩ a w ⟨s.t, putAll s.h fr⟩ ∧ Rep w lm' x u ∧ Tr w g (get s.h) w ⟨lm', g.v⟩ (get (putAll s.h fr)) ∧ ∀ d, Fz (get h0 d) (get (putAll s.h fr) d) := by
 have keep : Sim base w0 lm0 N ⟨g.lm, g.v⟩ a w ⟨s.t, putAll s.h []⟩ := S
 have tr0 : Tr w g (get s.h) w ⟨g.lm, g.v⟩ (get (putAll s.h [])) := ⟨Ext.refl _ _, fun d o h => .inr ⟨rfl, o, h, Shp.refl _⟩⟩
 cases v with
 | p y =>
  simp only [frz, oIE, Prod.mk.injEq] at he
  obtain ⟨rfl, rfl⟩ := he
  exact ⟨g.lm, keep, hr, tr0, hf⟩
 | xs k l =>
  simp only [frz, oIE, Prod.mk.injEq] at he
  obtain ⟨rfl, rfl⟩ := he
  obtain ⟨ad, rfl, h2, h3, h4⟩ := hr
  refine ⟨g.lm, keep, ?_, tr0, hf⟩
  rcases h4 with rfl | ⟨b, o, vs, rfl, h5, h6⟩
  · exact .sl0
  · exact .sl h2 h3 h5 h6 (Nat.le_refl _)
 | ms d off len =>
  simp only [frz] at he
  cases hd : get h0 d with
  | none => rw [hd] at he; simp at he
  | some o =>
   cases o <;> rw [hd] at he <;> first | (simp at he; done) | skip
   rename_i e k fz l
   obtain ⟨fz', hs⟩ := Fz.row (hd ▸ hf d)
   dsimp only at he
   split at he
   · rename_i hle
     simp only [oIE, Prod.mk.injEq] at he
     obtain ⟨rfl, rfl⟩ := he
     obtain ⟨lm', S', T', _⟩ := S.freeze hs
     refine ⟨lm', S', S'.part (Taa _ _ _) (hr.tr T'), T', fun d1 => ?_⟩
     simp only [putAll]
     rw [Ta9]
     split
     · rename_i h1; subst h1
       have := hf d; rw [hs] at this; exact this.set
     · exact hf d1
   · simp at he
 | mp d i j =>
  simp only [frz] at he
  cases hd : get h0 d with
  | none => rw [hd] at he; simp at he
  | some o =>
   cases o <;> rw [hd] at he <;> first | (simp at he; done) | skip
   rename_i e k fz l
   obtain ⟨fz', hs⟩ := Fz.row (hd ▸ hf d)
   dsimp only at he
   cases hi : l[i]? with
   | none => rw [hi] at he; simp at he
   | some c =>
    rw [hi] at he
    dsimp only at he
    split at he
    · rename_i hjk
      simp only [oIE, Prod.mk.injEq] at he
      obtain ⟨rfl, rfl⟩ := he
      obtain ⟨lm', S', T', hlm⟩ := S.freeze hs
      refine ⟨lm', S', ?_, T', fun d1 => ?_⟩
      · have hr' := hr.tr T'
        simp only [SRep, Taa] at hr'
        obtain ⟨b, hb, rfl⟩ := hr'
        obtain ⟨h1, h2, ⟨xs, h3, h4, h5⟩, h6⟩ := S'.ob d _ (Taa _ _ _)
        have hil : i < l.length := (List.getElem?_eq_some_iff.1 hi).1
        have hck : c.length = k := h2 c (List.mem_of_getElem? hi)
        have hm := (Tkr h3 h5 hb (lm := lm') (by rw [hlm b hb]; exact Nat.le_refl _) (i * k + j)).take (k - j)
        have hrl := (h4.drop (i * k + j)).take (k - j)
        have e1 : (l.flatten.drop (i * k + j)).take (k - j) = c.drop j := by
         rw [← List.drop_drop, Tar i h2]
         have : l.drop i = c :: l.drop (i + 1) := by
          rw [List.drop_eq_getElem_cons hil]
          congr 1
          simpa [List.getElem?_eq_getElem hil] using hi
         rw [this, List.flatten_cons, List.drop_append_of_le_length (by omega), List.take_append_of_le_length (by simp; omega), List.take_of_length_le (by simp; omega)]
        rw [e1] at hrl
        exact .pt hrl hm
      · simp only [putAll]
        rw [Ta9]
        split
        · rename_i h1; subst h1
          have := hf d; rw [hs] at this; exact this.set
        · exact hf d1
    · simp at he
 | mo d => simp [frz] at he
 | sst l => simp [frz] at he
 | stu l => simp [frz] at he
 | fnv f l => simp [frz] at he
inductive SRepL (w : World) (g : Gs) (h : Nat → Option Ob) : List SV → List Value → Prop
 | nil : SRepL w g h [] []
 | cons {v u vs us} : SRep w g h v u → SRepL w g h vs us → SRepL w g h (v :: vs) (u :: us)
theorem SRepL.tr {w g h w' g' h'} (T : Tr w g h w' g' h') : ∀ {vs us}, SRepL w g h vs us → SRepL w' g' h' vs us
 | _, _, .nil => .nil
 | _, _, .cons a b => .cons (a.tr T) (SRepL.tr T b)
theorem Tr.trans {w g h w' g' h' w'' g'' h''} (T : Tr w g h w' g' h') (U : Tr w' g' h' w'' g'' h'') : Tr w g h w'' g'' h'' := by
 refine ⟨T.ext.trans U.ext, fun d o hd => ?_⟩
 rcases T.hp d o hd with ⟨h0, h1⟩ | ⟨h1, o', h2, h3⟩
 · rcases U.hp d _ h1 with ⟨h4, _⟩ | ⟨h4, o'', h5, h6⟩
   · simp [Ob.live] at h4
   · cases o'' <;> simp only [Shp] at h6
     exact .inl ⟨h0, h5⟩
 · rcases U.hp d o' h2 with ⟨h4, h4'⟩ | ⟨h4, o'', h5, h6⟩
   · refine .inl ⟨?_, h4'⟩
     cases o <;> cases o' <;> simp only [Shp] at h3 <;> first | rfl | (simp [Ob.live] at h4)
   · refine .inr ⟨h4.trans h1, o'', h5, ?_⟩
     cases o <;> cases o' <;> cases o'' <;> simp_all [Shp]
theorem Tb2 : ∀ {vs : List SV} {us : List Value} {g : Gs} {s : St} {xs : List PV} {fr : List (Nat × Ob)} {h0 : List (Nat × Ob)} (S : Sim base w0 lm0 N g a w s) (hf : ∀ d, Fz (get h0 d) (get s.h d)) (hr : SRepL w g (get s.h) vs us) (he : frzs h0 vs = some (xs, fr)),
 ∃ lm', Sim base w0 lm0 N ⟨lm', g.v⟩ a w ⟨s.t, putAll s.h fr⟩ ∧ RepL w lm' xs us ∧ Tr w g (get s.h) w ⟨lm', g.v⟩ (get (putAll s.h fr)) ∧ ∀ d, Fz (get h0 d) (get (putAll s.h fr) d)
 | [], _, g, s, xs, fr, h0, S, hf, .nil, he => by
  simp only [frzs, oIE, Prod.mk.injEq] at he
  obtain ⟨rfl, rfl⟩ := he
  exact ⟨g.lm, S, .nil, ⟨Ext.refl _ _, fun d o h => .inr ⟨rfl, o, h, Shp.refl _⟩⟩, hf⟩
 | v :: vs, _, g, s, xs, fr, h0, S, hf, .cons (us := us') hv hvs, he => by
  simp only [frzs] at he
  cases h1 : frz h0 v with
  | none => rw [h1] at he; simp at he
  | some q =>
   obtain ⟨x, f1⟩ := q
   rw [h1] at he
   dsimp only at he
   cases h2 : frzs h0 vs with
   | none => rw [h2] at he; simp at he
   | some q =>
    obtain ⟨ys, f2⟩ := q
    rw [h2] at he
    simp only [oIE, Prod.mk.injEq] at he
    obtain ⟨rfl, rfl⟩ := he
    obtain ⟨lm1, S1, r1, T1, F1⟩ := Tcp S hf hv h1
    obtain ⟨lm2, S2, r2, T2, F2⟩ := Tb2 S1 F1 (hvs.tr T1) h2
    rw [Tai]
    exact ⟨lm2, S2, .cons (r1.ext T2.ext) r2, T1.trans T2, F2⟩
end
theorem RepL.mk {w : World} {lm : Nat → Nat} : ∀ {l : List PV} {vs : List Value}, l.length = vs.length → (∀ (i : Nat) (x : PV) (v : Value), l[i]? = some x → vs[i]? = some v → Rep w lm x v) → RepL w lm l vs
 | [], [], _, _ => .nil
 | [], _ :: _, h, _ => by simp at h
 | _ :: _, [], h, _ => by simp at h
 | x :: l, v :: vs, h, hr => .cons (hr 0 x v rfl rfl) (RepL.mk (by simpa using h) fun i y u hy hu => hr (i + 1) y u (by simpa using hy) (by simpa using hu))
theorem RowR.plain {w : World} {g : Gs} {base x e k : Nat} {l : List (List PV)} (h : RowR w g base x e k l) {lm2 : Nat → Nat} (hx : Ext w g.lm w lm2) (hb : ∀ b, blk (g.v x) = some b → l.length * k ≤ lm2 b) : Rep w lm2 (.sl k l) (g.v x) := by
 obtain ⟨h0, hk, ⟨xs, h3, h4, h5⟩, h6⟩ := h
 have hl := Tao hk
 have hxl := h4.length
 rcases h3.2 with ⟨hv, hn⟩ | ⟨b, cap, cur, hv, _, _, hcap, _⟩
 · have : l = [] := List.eq_nil_of_length_eq_zero hn
   subst this
   rw [hv]
   exact .sl0
 · cases l with
   | nil => rw [hv]; exact .sl0
   | cons c l =>
    have hbb := hb b (by rw [hv]; rfl)
    have hm := Tkr h3 h5 (b := b) (by rw [hv]; rfl) hbb 0
    rw [hv]
    exact .sl h0 hk (h4.ext hx) (by simpa using hm) hcap
theorem Tff (l : List (List PV)) : (setL l).flatten = l.flatten.map PV.set := by
 simp [setL, List.map_flatten]
theorem Thb {l : List (List PV)} (h : okSet l = true) {p : Nat} {x : PV} (hp : l.flatten[p]? = some x) : x.noHole = true := by
 obtain ⟨c, hc, hx⟩ := List.mem_flatten.1 (List.mem_of_getElem? hp)
 exact List.all_eq_true.1 (List.all_eq_true.1 h c hc) x hx
theorem Tow {l : List (List PV)} {k : Nat} (h : ∀ c ∈ l, c.length = k) : ∀ c ∈ setL l, c.length = k := by
 intro c hc
 obtain ⟨c', hc', rfl⟩ := List.mem_map.1 hc
 simpa using h c' hc'
open Classical in
theorem Tjg {w : World} {g : Gs} {base d e k : Nat} {l : List (List PV)} (h : ORep w g base d (.dp e k l)) (hok : okSet l = true) (hd : d < 1000000) (hown : ∃ own : Nat → Nat, ∀ x b, Ids d (.dp e k l) x → blk (g.v x) = some b → own b = x) :
 ∃ lm2 : Nat → Nat, Ext w g.lm w lm2 ∧ (∀ b, (∀ x, Ids d (.dp e k l) x → blk (g.v x) ≠ some b) → lm2 b = g.lm b) ∧ ORep w ⟨lm2, g.v⟩ base d (.row e k false (setL l)) := by
 obtain ⟨h1, h2, ⟨xs, h3, h4, h5, h7⟩, h6, h8⟩ := h
 obtain ⟨own, hown⟩ := hown
 let T (b n : Nat) : Prop := ∃ p e' k' l', l.flatten[p]? = some (.ow e' k' l') ∧ 0 < k' ∧ blk (g.v (nid d p)) = some b ∧ n = l'.length * k'
 have hids : ∀ {p e' k' l'}, l.flatten[p]? = some (.ow e' k' l') → 0 < k' → Ids d (.dp e k l) (nid d p) := fun hp hk => .dp hp hk
 have uniq : ∀ {b n m}, T b n → T b m → n = m := by
  rintro b n m ⟨p, e1, k1, l1, p1, p2, p3, rfl⟩ ⟨q, e2, k2, l2, q1, q2, q3, rfl⟩
  have := (hown _ b (hids p1 p2) p3).symm.trans (hown _ b (hids q1 q2) q3)
  obtain ⟨_, rfl⟩ := Tia hd hd this
  rw [p1] at q1
  simp only [oIE, PV.ow.injEq] at q1
  obtain ⟨_, rfl, rfl⟩ := q1
  rfl
 let lm2 : Nat → Nat := fun b => if h : ∃ n, T b n then Classical.choose h else g.lm b
 have hT : ∀ {b n}, T b n → lm2 b = n := fun {b n} ht => by
  have hex : ∃ n, T b n := ⟨n, ht⟩
  show (if h : ∃ n, T b n then Classical.choose h else g.lm b) = n
  rw [dif_pos hex]
  exact uniq (Classical.choose_spec hex) ht
 have hnT : ∀ {b}, (∀ n, ¬ T b n) → lm2 b = g.lm b := fun hn => dif_neg fun ⟨n, ht⟩ => hn n ht
 have hx : Ext w g.lm w lm2 := by
  refine Ext.blocks fun b _ ho => ⟨rfl, ?_⟩
  by_cases hex : ∃ n, T b n
  · obtain ⟨n, p, e', k', l', p1, p2, p3, _⟩ := hex
    obtain ⟨_, _, _, _, q7⟩ := h7 p e' k' l' p1 p2
    rw [q7 b p3] at ho
    omega
  · rw [hnT fun n ht => hex ⟨n, ht⟩]
 refine ⟨lm2, hx, fun b hb => hnT ?_, h1, Tow h2, ⟨xs, by simpa [setL] using h3, ?_, h5⟩, fun b hb => ?_⟩
 · rintro n ⟨p, e', k', l', p1, p2, p3, _⟩
   exact hb _ (hids p1 p2) p3
 · refine RepL.mk (by rw [Tff, List.length_map]; exact h4.length) fun i x v hx' hv => ?_
   rw [Tff, List.getElem?_map] at hx'
   cases hp : l.flatten[i]? with
   | none => rw [hp] at hx'; simp at hx'
   | some y =>
    rw [hp] at hx'
    simp only [Option.map_some, oIE] at hx'
    subst hx'
    obtain ⟨v', hv', hr⟩ := h4.get i y hp
    rw [hv] at hv'
    obtain rfl := oIj hv'
    have hnh := Thb hok hp
    cases y with
    | ow e' k' l' =>
     have hk' : 0 < k' := by
      cases k' with
      | zero => simp [PV.noHole] at hnh
      | succ n => omega
     obtain ⟨q1, q2⟩ := h7 i e' k' l' hp hk'
     rw [hv] at q1
     obtain rfl := oIj q1
     exact q2.plain hx fun b hb => Nat.le_of_eq (hT ⟨i, e', k', l', hp, hk', hb, rfl⟩).symm
    | _ => exact hr.ext hx
 · have : ∀ n, ¬ T b n := by
    rintro n ⟨p, e', k', l', p1, p2, p3, _⟩
    have e1 := (hown d b (.self _ _) hb).symm.trans (hown _ b (hids p1 p2) p3)
    have := Tcu d p
    omega
   show lm2 b = _
   rw [hnT this, h6 b hb]
   simp
theorem Tib {w : World} {lm : Nat → Nat} {v v' : Nat → Value} {base base' d d' e k : Nat} {l : List (List PV)} (h : ORep w ⟨lm, v⟩ base d (.dp e k l)) (hb : base' ≤ base) (h0 : v' d' = v d) (hp : ∀ p, v' (nid d' p) = v (nid d p)) : ORep w ⟨lm, v'⟩ base' d' (.dp e k l) := by
 have lower : ∀ {u e k n xs}, w.ownsRow base e k u n xs → w.ownsRow base' e k u n xs := by
  intro u e k n xs h
  refine ⟨h.1, ?_⟩
  rcases h.2 with h | ⟨b, cap, cur, h1, h2, h3⟩
  · exact .inl h
  · exact .inr ⟨b, cap, cur, h1, Nat.le_trans hb h2, h3⟩
 obtain ⟨h1, h2, ⟨xs, h3, h4, h5, h7⟩, h6, h8⟩ := h
 refine ⟨h1, h2, ⟨xs, ?_, h4, h5, fun p e' k' l' hq hk => ?_⟩, fun b hbk => ?_, fun p hq => by obtain ⟨b, q1, q2⟩ := h8 p hq; exact ⟨b, by dsimp only at q1 ⊢; rw [h0]; exact q1, q2⟩⟩
 · dsimp only at h3 ⊢; rw [h0]; exact lower h3
 · obtain ⟨q1, q2, q3, ⟨ys, q4, q5, q6⟩, q7⟩ := h7 p e' k' l' hq hk
   dsimp only at q1 q4 q7
   refine ⟨by dsimp only; rw [hp]; exact q1, q2, q3, ⟨ys, by dsimp only; rw [hp]; exact lower q4, q5, q6⟩, fun b hbk => ?_⟩
   dsimp only at hbk
   rw [hp] at hbk
   exact q7 b hbk
 · dsimp only at hbk h6 ⊢; rw [h0] at hbk; exact h6 b hbk
end Go.Proofs.YtjpibniecllafaaGreat.AM
end
section
namespace Go.Proofs.YtjpibniecllafaaGreat.AM
open Go Go.RowKit
def okC : Value → SV → Bool
 | .int k n, .p (.sc (.int k' n')) => decide (k = k') && decide (n = n')
 | .bool b, .p (.sc (.bool b')) => b == b'
 | .string s, .p (.sc (.string s')) => s.data.toList == s'.data.toList
 | .pointer none, .p (.sc (.pointer none)) => true
 | .nilFunc, .p (.sc .nilFunc) => true
 | .slice none 0 0, .xs k [] => decide (0 < k)
 | _, _ => false
def okX : Operand → X → Bool
 | .tmp n, .t m => n == m
 | .func f, .f g => f == g
 | .const v, .c s => okC v s
 | _, _ => false
def okXs : List Operand → List X → Bool
 | [], [] => true
 | x :: xs, y :: ys => okX x y && okXs xs ys
 | _, _ => false
def EffOK (P : Program) (base : Nat) (w0 : World) (lm0 : L0) (N : Nat) (g : Gs) (a : Act) (w : World) (s : St) (o : Oper) (e : Eff) : Prop :=
 ∃ u w' g', ((execOp a.eval o).run P w = .ok (.value u) w' ∨ ((execOp a.eval o).run P w = .ok .skip w' ∧ u = undef)) ∧
  Sim base w0 lm0 N g' a w' ⟨s.t, putAll s.h e.hs⟩ ∧ SRep w' g' (get (putAll s.h e.hs)) e.v u
theorem add_n (b o n : Nat) : (⟨b, o, none⟩ : Addr).add n = ⟨b, o + n, none⟩ := by unfold Addr.add; split <;> simp_all
section
variable {P : Program} {base : Nat} {w0 : World} {lm0 : L0} {N : Nat} {g : Gs} {a : Act} {w : World} {s : St} {o : Oper}
theorem Tox {u : Value} {v : SV} (h : okC u v = true) : SRep w g (get s.h) v u := by
 unfold okC at h
 split at h
 · simp at h; obtain ⟨rfl, rfl⟩ := h; exact .sc _
 · simp at h; subst h; exact .sc _
 · rename_i s1 s2
   have : s1 = s2 := by
    obtain ⟨⟨x⟩⟩ := s1; obtain ⟨⟨y⟩⟩ := s2
    simp at h; subst h; rfl
   subst this; exact .sc _
 · exact .sc _
 · exact .sc _
 · exact ⟨none, rfl, by simpa using h, by simp, .inl rfl⟩
 · simp at h
theorem Taf (S : Sim base w0 lm0 N g a w s) {x : Operand} {y : X} (h : okX x y = true) {v : SV} (hv : y.ev s = some v) : SRep w g (get s.h) v (a.eval x) := by
 cases x <;> cases y <;> simp only [okX] at h <;> first | (simp at h; done) | skip
 · simp at h
   subst h
   obtain ⟨u, h1, h2⟩ := S.tm _ _ hv
   simp only [Act.eval]
   rw [Array.getD_eq_getD_getElem?, h1]
   exact h2
 · rename_i u v0
   have : v0 = v := by
    cases v0 <;> simp only [X.ev] at hv <;> first | exact oIj hv | (simp at hv)
   subst this
   exact Tox h
 · simp at h
   subst h
   obtain rfl := oIj hv
   exact Rep.fn .nil
theorem Tax (S : Sim base w0 lm0 N g a w s) : ∀ {xs : List Operand} {ys : List X} {vs : List SV}, okXs xs ys = true → evs s ys = some vs → SRepL w g (get s.h) vs (xs.map a.eval)
 | [], [], vs, h, hv => by simp only [evs, oIE] at hv; subst hv; exact .nil
 | x :: xs, y :: ys, vs, h, hv => by
  simp only [okXs, Bool.and_eq_true] at h
  simp only [evs] at hv
  cases h1 : y.ev s with
  | none => rw [h1] at hv; simp at hv
  | some v =>
   rw [h1] at hv; dsimp only at hv
   cases h2 : evs s ys with
   | none => rw [h2] at hv; simp at hv
   | some vs' =>
    rw [h2] at hv
    obtain rfl := oIj hv
    exact .cons (Taf S h.1 h1) (Tax S h.2 h2)
 | [], _ :: _, _, h, _ => by simp [okXs] at h
 | _ :: _, [], _, h, _ => by simp [okXs] at h
theorem EffOK.pure (S : Sim base w0 lm0 N g a w s) {u : Value} {v : SV} (hrun : (execOp a.eval o).run P w = .ok (.value u) w) (hr : SRep w g (get s.h) v u) : EffOK P base w0 lm0 N g a w s o ⟨v, []⟩ :=
 ⟨u, w, g, .inl hrun, S, hr⟩
theorem EffOK.frzs (S : Sim base w0 lm0 N g a w s) {vs : List SV} {us : List Value} (hr : SRepL w g (get s.h) vs us) {xs : List PV} {fr : List (Nat × Ob)} (he : frzs s.h vs = some (xs, fr)) {u : Value} {x : PV}
 (hrun : (execOp a.eval o).run P w = .ok (.value u) w) (hx : ∀ lm', RepL w lm' xs us → Rep w lm' x u) : EffOK P base w0 lm0 N g a w s o ⟨.p x, fr⟩ := by
 obtain ⟨lm', S', r', T', _⟩ := Tb2 S (fun d => Fz.refl _) hr he
 exact ⟨u, w, ⟨lm', g.v⟩, .inl hrun, S', hx lm' r'⟩
theorem EffOK.frz (S : Sim base w0 lm0 N g a w s) {v : SV} {u0 : Value} (hr : SRep w g (get s.h) v u0) {y : PV} {fr : List (Nat × Ob)} (he : frz s.h v = some (y, fr)) {u : Value} {x : PV}
 (hrun : (execOp a.eval o).run P w = .ok (.value u) w) (hx : ∀ lm', Rep w lm' y u0 → Rep w lm' x u) : EffOK P base w0 lm0 N g a w s o ⟨.p x, fr⟩ := by
 obtain ⟨lm', S', r', T', _⟩ := Tcp S (fun d => Fz.refl _) hr he
 exact ⟨u, w, ⟨lm', g.v⟩, .inl hrun, S', hx lm' r'⟩
theorem Tua (S : Sim base w0 lm0 N g a w s) {x : Operand} {y : X} {v : SV} (ho : o.op = .move x ∨ o.op = .assign x) (hx : okX x y = true) (hv : y.ev s = some v) : EffOK P base w0 lm0 N g a w s o ⟨v, []⟩ := by
 refine EffOK.pure S (u := a.eval x) ?_ (Taf S hx hv)
 rcases ho with ho | ho <;> simp [execOp, ho]
theorem Tfm {lm : Nat → Nat} {b : Bool} {u : Value} (h : Rep w lm (.sc (.bool b)) u) : u = .bool b := by cases h; rfl
theorem Tjh {lm : Nat → Nat} {l : List PV} {u : Value} (h : Rep w lm (.pt l) u) : ∃ b o vs, u = .pointer (some ⟨b, o, none⟩) ∧ RepL w lm l vs ∧ Mem w lm b o vs := by cases h with | pt a m => exact ⟨_, _, _, rfl, a, m⟩
theorem Thc {lm : Nat → Nat} {l : List PV} {u : Value} (h : Rep w lm (.st l) u) : ∃ vs : List Value, u = .agg vs.toArray ∧ RepL w lm l vs ∧ ∀ u ∈ vs, u.oneCell' = true := by cases h with | st a o => exact ⟨_, rfl, a, o⟩
theorem Txl {lm : Nat → Nat} {l : List PV} {u : Value} (h : Rep w lm (.tu l) u) : ∃ vs : List Value, u = .tuple vs.toArray ∧ RepL w lm l vs := by cases h with | tu a => exact ⟨_, rfl, a⟩
theorem Tub {lm : Nat → Nat} {f : FuncId} {l : List PV} {u : Value} (h : Rep w lm (.fn f l) u) : ∃ vs : List Value, u = .func (.func f) #[] vs.toArray ∧ RepL w lm l vs := by cases h with | fn a => exact ⟨_, rfl, a⟩
theorem Tu2 {lm : Nat → Nat} {t : TypeId} {x : PV} {u : Value} (h : Rep w lm (.ifc t x) u) : ∃ v : Value, u = .iface t v ∧ Rep w lm x v := by cases h with | ifc a => exact ⟨_, rfl, a⟩
theorem Thd {lm : Nat → Nat} {k : Nat} {l : List (List PV)} {u : Value} (h : Rep w lm (.sl k l) u) : ∃ a cap, u = .slice a l.length cap ∧ l.length ≤ cap ∧ (l = [] ∨ (0 < k ∧ (∀ c ∈ l, c.length = k) ∧ ∃ b o vs, a = some ⟨b, o, none⟩ ∧ RepL w lm l.flatten vs ∧ Mem w lm b o vs)) := by
 cases h with
 | sl h0 hk a m hc => exact ⟨_, _, rfl, hc, .inr ⟨h0, hk, _, _, _, rfl, a, m⟩⟩
 | sl0 => exact ⟨_, _, rfl, Nat.zero_le _, .inl rfl⟩
theorem Ta2 {lm : Nat → Nat} {v : Value} {u : Value} (h : Rep w lm (.sc v) u) : u = v := by cases h; rfl
theorem Try (S : Sim base w0 lm0 N g a w s) {c x y : Operand} {c' x' y' : X} {b : Bool} {v1 v2 : SV} (ho : o.op = .pick c x y) (hc : okX c c' = true) (hx : okX x x' = true) (hy : okX y y' = true)
 (h1 : c'.ev s = some (.p (.sc (.bool b)))) (h2 : x'.ev s = some v1) (h3 : y'.ev s = some v2) : EffOK P base w0 lm0 N g a w s o ⟨if b then v1 else v2, []⟩ := by
 have hb := Tfm (Taf S hc h1)
 refine EffOK.pure S (u := if b then a.eval x else a.eval y) ?_ ?_
 · simp [execOp, ho, hb, asBool]
 · cases b
   · exact Taf S hy h3
   · exact Taf S hx h2
def aggT (P : Program) (t : TypeId) : Option Bool := match P.underlying t with
 | some (.struct _) => some true
 | some (.array _ _) => some true
 | some _ => some false
 | none => none
theorem Tcv {t : TypeId} {b : Bool} (h : aggT P t = some b) (w : World) : (isAgg t).run P w = .ok b w := by
 unfold aggT at h
 cases hu : P.underlying t with
 | none => rw [hu] at h; simp at h
 | some d =>
  rw [hu] at h
  simp only [isAgg, Sem.run_bind, run_underlying hu, Result.andThen_ok]
  cases d <;> simp at h <;> subst h <;> rfl
theorem Tan {t : TypeId} {k : Nat} (h : P.cellsOf t = k) (h0 : 0 < k) (w : World) : (sizeOf t).run P w = .ok k w := by
 unfold Program.cellsOf at h
 cases hi : P.info? t with
 | none => rw [hi] at h; simp at h; omega
 | some i =>
  rw [hi] at h
  simp at h
  simp [sizeOf, typeInfo, hi, h]
theorem Tcw {t : TypeId} (h : aggT P t = some false) {ad : Addr} {u : Value} (hc : w.cell? ad = some u) : (Instr.loadAt t (.pointer (some ad))).run P w = .ok u w := by
 simp [Instr.loadAt, Instr.sureAddr, loadVar, Tcv h, hc]
theorem Tec {t : TypeId} (h : aggT P t = some true) {k : Nat} (hk : P.cellsOf t = k) (h0 : 0 < k) {b o : Nat} {vs : List Value} (hl : vs.length = k) (hc : ∀ j u, vs[j]? = some u → w.cell? ⟨b, o + j, none⟩ = some u) :
 (Instr.loadAt t (.pointer (some ⟨b, o, none⟩))).run P w = .ok (.agg vs.toArray) w := by
 have := run_loadCells_list (P := P) w ⟨b, o, none⟩ vs (fun j v h => by rw [add_n]; exact hc j v h)
 rw [hl] at this
 simp [Instr.loadAt, Instr.sureAddr, loadVar, Tcv h, Tan hk h0, this]
theorem Tbt {k : Nat} : ∀ {l : List (List PV)} {i j : Nat} {c : PV}, (∀ c ∈ l, c.length = k) → cellAt l i j = some c → l.flatten[i * k + j]? = some c
 | [], i, j, c, _, h => by simp [cellAt] at h
 | x :: l, 0, j, c, hk, h => by
  simp [cellAt] at h
  have hj : j < x.length := (List.getElem?_eq_some_iff.1 h).1
  rw [List.flatten_cons, Nat.zero_mul, Nat.zero_add, List.getElem?_append_left hj]; exact h
 | x :: l, i + 1, j, c, hk, h => by
  have hx : x.length = k := hk x (by simp)
  have h' : cellAt l i j = some c := by simpa [cellAt] using h
  rw [List.flatten_cons, List.getElem?_append_right (by rw [hx, Nat.add_mul]; omega), show (i + 1) * k + j - x.length = i * k + j by rw [hx, Nat.add_mul]; omega]
  exact Tbt (fun c hc => hk c (by simp [hc])) h'
theorem Ta1 {base e k n : Nat} {v : Value} {xs : List Value} (h : w.ownsRow base e k v n xs) {b : Nat} (hb : blk v = some b) {i : Nat} {u : Value} (hu : xs[i]? = some u) : w.cell? ⟨b, i, none⟩ = some u := by
 rcases h.2 with ⟨rfl, _⟩ | ⟨b', cap, cur, rfl, _, hg, _, _, _, ht⟩
 · simp [blk] at hb
 · simp [blk] at hb
   subst hb
   rw [cell_of_row w b' i cur e (0, 0) hg]
   rw [← ht, List.getElem?_take] at hu
   split at hu
   · simpa using hu
   · simp at hu
theorem Sim.row (S : Sim base w0 lm0 N g a w s) {d e k : Nat} {fz : Bool} {l : List (List PV)} (hd : get s.h d = some (.row e k fz l)) {i j : Nat} {u : Value} (hr : SRep w g (get s.h) (.mp d i j) u) :
 0 < k ∧ (∀ c ∈ l, c.length = k) ∧ ∃ b xs, u = .pointer (some ⟨b, i * k + j, none⟩) ∧ blk (g.v d) = some b ∧ w.ownsRow base e k (g.v d) l.length xs ∧ RepL w g.lm l.flatten xs ∧ (∀ u ∈ xs, u.oneCell' = true) := by
 obtain ⟨h1, h2, ⟨xs, h3, h4, h5⟩, h6⟩ := S.ob d _ hd
 simp only [SRep, hd] at hr
 obtain ⟨b, hb, rfl⟩ := hr
 exact ⟨h1, h2, b, xs, rfl, hb, h3, h4, h5⟩
theorem Toy (S : Sim base w0 lm0 N g a w s) {t : TypeId} {x : Operand} {y : X} {e : Eff} {call : Call} {d : Nat} (ho : o.op = .load t x) (ha : aggT P t = some false) (hx : okX x y = true)
 (he : eff call s d (.ld1 y) = some e) : EffOK P base w0 lm0 N g a w s o e := by
 simp only [eff] at he
 cases hv : y.ev s with
 | none => rw [hv] at he; simp at he
 | some v =>
  rw [hv] at he
  have hr := Taf S hx hv
  cases v with
  | p z =>
   cases z with
   | pt l =>
    cases l with
    | nil => simp at he
    | cons c l =>
     simp only [oIE] at he
     subst he
     obtain ⟨b, of, vs, hu, hl, hm⟩ := Tjh hr
     cases hl with
     | cons hc hl =>
      rename_i v0 vs
      obtain ⟨h1, h2, h3⟩ := hm 0 v0 rfl
      rw [Nat.add_zero] at h1
      refine EffOK.pure S (u := v0) ?_ hc
      simp [execOp, ho, hu, Tcw ha h1]
   | _ => simp at he
  | mp d' i j =>
   dsimp only at he
   cases hd : get s.h d' with
   | none => rw [hd] at he; simp at he
   | some ob =>
    cases ob <;> rw [hd] at he <;> first | (simp at he; done) | skip
    rename_i e' k fz l
    dsimp only at he
    cases hc : cellAt l i j with
    | none => rw [hc] at he; simp at he
    | some c =>
     rw [hc] at he
     simp only [oIE] at he
     subst he
     obtain ⟨h0, hk, b, xs, hu, hb, hown, hrl, h1⟩ := S.row hd hr
     obtain ⟨v0, hv0, hrep⟩ := hrl.get _ _ (Tbt hk hc)
     refine EffOK.pure S (u := v0) ?_ hrep
     have := Tcw ha (Ta1 hown hb hv0)
     simp [execOp, ho, hu, this]
  | _ => simp at he
end
end Go.Proofs.YtjpibniecllafaaGreat.AM
end
section
namespace Go.Proofs.YtjpibniecllafaaGreat.AM
open Go Go.RowKit
section
variable {P : Program} {base : Nat} {w0 : World} {lm0 : L0} {N : Nat} {g : Gs} {a : Act} {w : World} {s : St} {o : Oper}
theorem Toz (S : Sim base w0 lm0 N g a w s) {t : TypeId} {x : Operand} {y : X} {k : Nat} {e : Eff} {call : Call} {d : Nat} (ho : o.op = .load t x) (ha : aggT P t = some true) (hk : P.cellsOf t = k) (h0 : 0 < k) (hx : okX x y = true)
 (he : eff call s d (.ldk k y) = some e) : EffOK P base w0 lm0 N g a w s o e := by
 simp only [eff] at he
 cases hv : y.ev s with
 | none => rw [hv] at he; simp at he
 | some v =>
  rw [hv] at he
  have hr := Taf S hx hv
  cases v with
  | p z =>
   cases z with
   | pt l =>
    dsimp only at he
    split at he
    · rename_i hle
      simp only [oIE] at he
      subst he
      obtain ⟨b, of, vs, hu, hl, hm⟩ := Tjh hr
      have hlen := hl.length
      have hm' := hm.take k
      refine EffOK.pure S (u := .agg (vs.take k).toArray) ?_ (.st (hl.take k) fun u hu => ?_)
      · have := Tec (P := P) (w := w) ha hk h0 (b := b) (o := of) (vs := vs.take k) (by simp; omega) (fun j u hu => (hm' j u hu).1)
        simp [execOp, ho, hu, this]
      · obtain ⟨j, hj, e⟩ := List.getElem_of_mem hu
        exact (hm' j u (by rw [List.getElem?_eq_getElem hj, e])).2.2
    · simp at he
   | _ => simp at he
  | mp d' i j =>
   dsimp only at he
   cases hd : get s.h d' with
   | none => rw [hd] at he; simp at he
   | some ob =>
    cases ob <;> rw [hd] at he <;> first | (simp at he; done) | skip
    rename_i e' k' fz l
    dsimp only at he
    cases hc : l[i]? with
    | none => rw [hc] at he; simp at he
    | some c =>
     rw [hc] at he
     dsimp only at he
     split at he
     · rename_i hle
       simp only [oIE] at he
       subst he
       obtain ⟨h0', hk', b, xs, hu, hb, hown, hrl, h1⟩ := S.row hd hr
       have hil : i < l.length := (List.getElem?_eq_some_iff.1 hc).1
       have hck : c.length = k' := hk' c (List.mem_of_getElem? hc)
       have e1 : (l.flatten.drop (i * k' + j)).take k = (c.drop j).take k := by
        rw [← List.drop_drop, Tar i hk']
        have : l.drop i = c :: l.drop (i + 1) := by
         rw [List.drop_eq_getElem_cons hil]
         congr 1
         simpa [List.getElem?_eq_getElem hil] using hc
        rw [this, List.flatten_cons, List.drop_append_of_le_length (by omega), List.take_append_of_le_length (by simp; omega)]
       have hrl' := (hrl.drop (i * k' + j)).take k
       rw [e1] at hrl'
       have hlen := hrl'.length
       rw [List.length_take, List.length_drop, Nat.min_eq_left (by omega)] at hlen
       refine EffOK.pure S (u := .agg ((xs.drop (i * k' + j)).take k).toArray) ?_ (.st hrl' fun u hu => h1 u (List.mem_of_mem_drop (List.mem_of_mem_take hu)))
       have := Tec (P := P) (w := w) ha hk h0 (b := b) (o := i * k' + j) (vs := (xs.drop (i * k' + j)).take k) hlen.symm (fun q u hu => Ta1 hown hb (by
        rw [List.getElem?_take] at hu
        split at hu
        · rw [List.getElem?_drop] at hu; exact hu
        · simp at hu))
       simp [execOp, ho, hu, this]
     · simp at he
  | _ => simp at he
theorem ev_p {y : X} {x : PV} (S : Sim base w0 lm0 N g a w s) {z : Operand} (h : okX z y = true) (hv : y.ev s = some (.p x)) : Rep w g.lm x (a.eval z) := Taf S h hv
theorem Txm (S : Sim base w0 lm0 N g a w s) {op op' : UnOp} {t : TypeId} {x : Operand} {y : X} {z r : PV} (ho : o.op = .unOp op t x) (hop : op = op') (hx : okX x y = true) (hv : y.ev s = some (.p z)) (hr : sop1 (.un op') z = some r) :
 EffOK P base w0 lm0 N g a w s o ⟨.p r, []⟩ := by
 subst hop
 have hrep := ev_p S hx hv
 simp only [sop1, unS] at hr
 split at hr
 · cases op <;> simp at hr
   subst hr
   exact EffOK.pure S (u := .bool _) (by simp [execOp, ho, Ta2 hrep, Op.unary]) (.sc _)
 · cases op <;> simp at hr
   subst hr
   exact EffOK.pure S (u := .int _ _) (by simp [execOp, ho, Ta2 hrep, Op.unary, Op.intArith]) (.sc _)
 · simp at hr
theorem Txn (S : Sim base w0 lm0 N g a w s) {t1 t2 : TypeId} {d1 : TypeDesc} {k : IntKind} {x : Operand} {y : X} {z r : PV} (ho : o.op = .convert t1 t2 x) (h1 : P.underlying t1 = some d1) (h2 : P.underlying t2 = some (.int k)) (hx : okX x y = true) (hv : y.ev s = some (.p z)) (hr : sop1 (.cv k) z = some r) :
 EffOK P base w0 lm0 N g a w s o ⟨.p r, []⟩ := by
 have hrep := ev_p S hx hv
 simp only [sop1] at hr
 split at hr
 · rename_i k' n
   simp at hr; subst hr
   refine EffOK.pure S (u := .int k (k.wrap n)) ?_ (.sc _)
   simp [execOp, ho, Ta2 hrep, convert, run_underlying h1, run_underlying h2, Conv.intToInt]
 · simp at hr
theorem Tu3 (S : Sim base w0 lm0 N g a w s) {t1 t2 : TypeId} {d1 : TypeDesc} {x : Operand} {y : X} {z r : PV} (ho : o.op = .convert t1 t2 x) (h1 : P.underlying t1 = some d1) (h2 : P.underlying t2 = some .string) (hx : okX x y = true) (hv : y.ev s = some (.p z)) (hr : sop1 .i2s z = some r) :
 EffOK P base w0 lm0 N g a w s o ⟨.p r, []⟩ := by
 have hrep := ev_p S hx hv
 simp only [sop1] at hr
 split at hr
 · rename_i k' n
   simp at hr; subst hr
   refine EffOK.pure S (u := .string (Utf8.encode n)) ?_ (.sc _)
   simp [execOp, ho, Ta2 hrep, convert, run_underlying h1, run_underlying h2, Conv.intToString]
 · simp at hr
theorem Tu4 (S : Sim base w0 lm0 N g a w s) {t1 t2 : TypeId} {d1 : TypeDesc} {x : Operand} {y : X} {z r : PV} (ho : o.op = .convert t1 t2 x) (h1 : P.underlying t1 = some d1) (h2 : P.underlying t2 = some .string) (hx : okX x y = true) (hv : y.ev s = some (.p z)) (hr : sop1 .s2s z = some r) :
 EffOK P base w0 lm0 N g a w s o ⟨.p r, []⟩ := by
 have hrep := ev_p S hx hv
 simp only [sop1] at hr
 split at hr
 · rename_i n
   simp at hr; subst hr
   refine EffOK.pure S (u := .string n) ?_ (.sc _)
   simp [execOp, ho, Ta2 hrep, convert, run_underlying h1, run_underlying h2]
 · simp at hr
theorem Tu5 (S : Sim base w0 lm0 N g a w s) {op : BinOp} {t ty : TypeId} {x1 x2 : Operand} {y1 y2 : X} {z1 z2 r : PV} (ho : o.op = .binOp op t x1 x2 ty) (hx1 : okX x1 y1 = true) (hx2 : okX x2 y2 = true) (hv1 : y1.ev s = some (.p z1)) (hv2 : y2.ev s = some (.p z2)) (hr : sop2 (.bin op) z1 z2 = some r) :
    EffOK P base w0 lm0 N g a w s o ⟨.p r, []⟩ := by
  have r1 := ev_p S hx1 hv1
  have r2 := ev_p S hx2 hv2
  simp only [sop2, binS] at hr
  split at hr
  · rename_i k m k' n
    have e1 := Ta2 r1
    have e2 := Ta2 r2
    have fin : ∀ u : Value, r = .sc u → (binOp op t (.int k m) (.int k' n)).run P w = .ok u w → EffOK P base w0 lm0 N g a w s o ⟨.p r, []⟩ := by
      rintro u rfl hrun
      refine EffOK.pure S (u := u) ?_ (.sc _)
      have hg : (eqGuard op t x1 x2 (.int k m) (.int k' n)).run P w = .ok () w := by
        unfold eqGuard
        cases op <;> simp
      simp [execOp, ho, e1, e2, hg, hrun]
    cases op <;> dsimp only at hr
    case shl => split at hr <;> simp at hr; subst hr; rename_i h; exact fin _ rfl (by simp [binOp, Op.shift, h])
    case shr => split at hr <;> simp at hr; subst hr; rename_i h; exact fin _ rfl (by simp [binOp, Op.shift, h])
    all_goals
      split at hr
      · rename_i h
        subst h
        first
          | (simp at hr; subst hr; exact fin _ rfl (by simp [binOp, Op.intArith, Op.intCmp, Op.intBits]))
          | (split at hr
             · simp at hr
             · rename_i h0; simp at hr; subst hr; exact fin _ rfl (by simp [binOp, Op.intDiv, h0]))
      · simp at hr
  · rename_i p q
    have e1 := Ta2 r1
    have e2 := Ta2 r2
    have fin : ∀ u : Value, r = .sc u → (binOp op t (.string p) (.string q)).run P w = .ok u w → EffOK P base w0 lm0 N g a w s o ⟨.p r, []⟩ := by
      rintro u rfl hrun
      refine EffOK.pure S (u := u) ?_ (.sc _)
      have hg : (eqGuard op t x1 x2 (.string p) (.string q)).run P w = .ok () w := by
        unfold eqGuard
        cases op <;> simp
      simp [execOp, ho, e1, e2, hg, hrun]
    cases op <;> dsimp only at hr <;> first | (simp at hr; done) | skip
    · split at hr
      · rename_i h
        simp at hr; subst hr
        have h' : ¬ (((p.size + q.size : Nat) : Int) > IntKind.i64.max) := by
          have : IntKind.i64.max = 9223372036854775807 := rfl
          rw [this]; omega
        refine fin _ rfl ?_
        simp only [binOp, Op.stringOp]
        rw [if_neg h']
        simp
      · simp at hr
    · simp at hr; subst hr; exact fin _ rfl (by simp [binOp, Op.stringOp])
    · simp at hr; subst hr; exact fin _ rfl (by simp [binOp, Op.stringOp])
  · simp at hr
theorem Tu6 (S : Sim base w0 lm0 N g a w s) {t : TypeId} {x1 x2 : Operand} {y1 y2 : X} {z1 z2 r : PV} (ho : o.op = .index t x1 x2) (ht : P.underlying t = some .string) (hx1 : okX x1 y1 = true) (hx2 : okX x2 y2 = true) (hv1 : y1.ev s = some (.p z1)) (hv2 : y2.ev s = some (.p z2)) (hr : sop2 .idx z1 z2 = some r) :
 EffOK P base w0 lm0 N g a w s o ⟨.p r, []⟩ := by
 have r1 := ev_p S hx1 hv1
 have r2 := ev_p S hx2 hv2
 simp only [sop2] at hr
 split at hr
 · rename_i st k i
   have e1 := Ta2 r1
   have e2 := Ta2 r2
   simp only [bt?] at hr
   by_cases h0 : 0 ≤ i
   · rw [if_pos h0] at hr
     cases hb : st[i.toNat]? with
     | none => rw [hb] at hr; simp at hr
     | some b =>
      rw [hb] at hr
      simp at hr; subst hr
      refine EffOK.pure S (u := .int .u8 b.toNat) ?_ (.sc _)
      simp [execOp, ho, e1, e2, Instr.index, asIntOf, run_underlying ht, h0, hb]
   · rw [if_neg h0] at hr; simp at hr
 · simp at hr
theorem Tks {t : TypeId} (ht : P.underlying t = some .bool) (p q : Bool) : (Op.equal t (.bool p) (.bool q)).run P w = .ok (p == q) w := by
 have : ∀ n, (Op.equalIn (n + 1) t (.bool p) (.bool q)).run P w = .ok (p == q) w := fun n => by simp [Op.equalIn, run_underlying ht]
 exact this 9999
theorem Tu7 (S : Sim base w0 lm0 N g a w s) {ne : Bool} {op : BinOp} (hop : op = if ne then .neq else .eql) {t ty : TypeId} {x1 x2 : Operand} {y1 y2 : X} {z1 z2 r : PV} (ho : o.op = .binOp op t x1 x2 ty) (ht : P.underlying t = some .bool) (hx1 : okX x1 y1 = true) (hx2 : okX x2 y2 = true) (hv1 : y1.ev s = some (.p z1)) (hv2 : y2.ev s = some (.p z2)) (hr : sop2 (.beq ne) z1 z2 = some r) :
 EffOK P base w0 lm0 N g a w s o ⟨.p r, []⟩ := by
 have r1 := ev_p S hx1 hv1
 have r2 := ev_p S hx2 hv2
 simp only [sop2] at hr
 split at hr
 · rename_i p q
   have e1 := Ta2 r1
   have e2 := Ta2 r2
   simp at hr; subst hr
   have hq : (Op.equal t (.bool p) (.bool q)).run P w = .ok (p == q) w := Tks ht p q
   refine EffOK.pure S (u := .bool (if ne then !(p == q) else p == q)) ?_ (.sc _)
   cases ne <;> subst hop <;> simp [execOp, ho, e1, e2, eqGuard, binOp, hq]
 · simp at hr
theorem The {t e : TypeId} (ht : P.underlying t = some (.pointer e)) (ad : Option Addr) : (Op.equal t (.pointer ad) (.pointer none)).run P w = .ok ad.isNone w := by
 have : ∀ n, (Op.equalIn (n + 1) t (.pointer ad) (.pointer none)).run P w = .ok ad.isNone w := fun n => by cases ad <;> simp [Op.equalIn, run_underlying ht]
 exact this 9999
theorem Tu8 (S : Sim base w0 lm0 N g a w s) {ne : Bool} {op : BinOp} (hop : op = if ne then .neq else .eql) {t ty e : TypeId} {x1 x2 : Operand} {y1 y2 : X} {call : Call} {d : Nat} {r : Eff} (ho : o.op = .binOp op t x1 x2 ty) (ht : P.underlying t = some (.pointer e)) (hx1 : okX x1 y1 = true) (hx2 : okX x2 y2 = true) (hr : eff call s d (.s2 (.peq ne) y1 y2) = some r) :
 EffOK P base w0 lm0 N g a w s o r := by
 have key : ∀ (ad : Option Addr), a.eval x1 = .pointer ad → a.eval x2 = .pointer none → r = ⟨.p (.sc (.bool (if ne then !ad.isNone else ad.isNone))), []⟩ → EffOK P base w0 lm0 N g a w s o r := by
  rintro ad e1 e2 rfl
  have hq := The (P := P) (w := w) ht ad
  refine EffOK.pure S (u := .bool (if ne then !ad.isNone else ad.isNone)) ?_ (.sc _)
  cases ne <;> subst hop <;> simp [execOp, ho, e1, e2, eqGuard, binOp, hq]
 simp only [eff] at hr
 cases hv1 : y1.ev s with
 | none => rw [hv1] at hr; simp at hr
 | some v1 =>
  cases hv2 : y2.ev s with
  | none => rw [hv1, hv2] at hr; cases v1 <;> simp at hr
  | some v2 =>
   have r1 := Taf S hx1 hv1
   have r2 := Taf S hx2 hv2
   rw [hv1, hv2] at hr
   split at hr
   · rename_i z1 z2 h1 h2
     obtain rfl := oIj h1
     obtain rfl := oIj h2
     simp only [sop2] at hr
     split at hr
     · obtain ⟨b, of, vs, hu, _⟩ := Tjh r1
       simp [uns] at hr
       exact key _ hu (Ta2 r2) (by rw [← hr]; cases ne <;> rfl)
     · simp [uns] at hr
       exact key none (Ta2 r1) (Ta2 r2) (by rw [← hr]; cases ne <;> rfl)
     · simp [uns] at hr
   · rename_i d' i j h1 h2
     obtain rfl := oIj h1
     obtain rfl := oIj h2
     try dsimp only at hr
     cases hd : get s.h d' with
     | none => rw [hd] at hr; simp at hr
     | some ob =>
      cases ob <;> rw [hd] at hr <;> first | (simp at hr; done) | skip
      simp at hr
      obtain ⟨_, _, b, xs, hu, _⟩ := S.row hd r1
      exact key _ hu (Ta2 r2) (by rw [← hr]; cases ne <;> rfl)
   · simp at hr
theorem Ted {t : TypeId} (h : aggT P t = some false) {cs : List Value} {off : Nat} {u : Value} (hu : cs[off]? = some u) : (part t cs.toArray off).run P w = .ok u w := by
 simp [part, Tcv h, hu]
theorem Tji {t : TypeId} (h : aggT P t = some true) {k : Nat} (hk : P.cellsOf t = k) (h0 : 0 < k) {cs : List Value} {off : Nat} : (part t cs.toArray off).run P w = .ok (.agg ((cs.drop off).take k).toArray) w := by
 simp only [part, Sem.run_bind, Tcv h, Result.andThen_ok, if_true, Tan hk h0, Sem.run_pure]
 congr 2
 apply Array.ext'
 simp [List.extract_eq_take_drop]
theorem Trz (S : Sim base w0 lm0 N g a w s) {t : TypeId} {fs : Array Field} {i : Nat} {f : Field} {x : Operand} {y : X} {off : Nat} {call : Call} {d : Nat} {e : Eff} (ho : o.op = .field t x i) (ht : P.underlying t = some (.struct fs)) (hf : fs[i]? = some f) (hoff : f.offset = off) (ha : aggT P f.type = some false) (hx : okX x y = true)
 (he : eff call s d (.fld1 y off) = some e) : EffOK P base w0 lm0 N g a w s o e := by
 simp only [eff] at he
 cases hv : y.ev s with
 | none => rw [hv] at he; simp at he
 | some v =>
  rw [hv] at he
  have hr := Taf S hx hv
  split at he
  · rename_i l h1
    obtain rfl := oIj h1
    obtain ⟨vs, hu, hl, h1⟩ := Thc hr
    cases hc : l[off]? with
    | none => rw [hc] at he; simp at he
    | some c =>
     rw [hc] at he
     simp only [oIE] at he
     subst he
     obtain ⟨u, hu2, hrep⟩ := hl.get _ _ hc
     refine EffOK.pure S (u := u) ?_ hrep
     simp [execOp, ho, hu, Instr.field, run_underlying ht, hf, asAgg, hoff, Ted ha hu2]
  · simp at he
theorem Tr0 (S : Sim base w0 lm0 N g a w s) {t : TypeId} {fs : Array Field} {i : Nat} {f : Field} {x : Operand} {y : X} {off k : Nat} {call : Call} {d : Nat} {e : Eff} (ho : o.op = .field t x i) (ht : P.underlying t = some (.struct fs)) (hf : fs[i]? = some f) (hoff : f.offset = off) (ha : aggT P f.type = some true) (hk : P.cellsOf f.type = k) (h0 : 0 < k) (hx : okX x y = true)
 (he : eff call s d (.fldk y off k) = some e) : EffOK P base w0 lm0 N g a w s o e := by
 simp only [eff] at he
 cases hv : y.ev s with
 | none => rw [hv] at he; simp at he
 | some v =>
  rw [hv] at he
  have hr := Taf S hx hv
  split at he
  · rename_i l h1
    obtain rfl := oIj h1
    obtain ⟨vs, hu, hl, h1⟩ := Thc hr
    split at he
    · simp only [oIE] at he
      subst he
      refine EffOK.pure S (u := .agg ((vs.drop off).take k).toArray) ?_ (.st ((hl.drop off).take k) fun u hu => h1 u (List.mem_of_mem_drop (List.mem_of_mem_take hu)))
      simp [execOp, ho, hu, Instr.field, run_underlying ht, hf, asAgg, hoff, Tji ha hk h0]
    · simp at he
  · simp at he
theorem Tcq {f : Field} (h : 0 < P.cellsOf f.type) (b of : Nat) : (fieldPlace ⟨b, of, none⟩ f).run P w = .ok ⟨b, of + f.offset, none⟩ w := by
 have := Tan (P := P) rfl h w
 simp only [fieldPlace, Sem.run_bind, this, Result.andThen_ok]
 rw [if_neg (by omega)]
 simp [add_n]
theorem Txo (S : Sim base w0 lm0 N g a w s) {t : TypeId} {fs : Array Field} {i : Nat} {f : Field} {x : Operand} {y : X} {off : Nat} {call : Call} {d : Nat} {e : Eff} (ho : o.op = .fieldAddr t x i) (ht : P.underlying t = some (.struct fs)) (hf : fs[i]? = some f) (hoff : f.offset = off) (h0 : 0 < P.cellsOf f.type) (hx : okX x y = true)
 (he : eff call s d (.fa y off) = some e) : EffOK P base w0 lm0 N g a w s o e := by
 have hrun : ∀ b of, a.eval x = .pointer (some ⟨b, of, none⟩) → (execOp a.eval o).run P w = .ok (.value (.pointer (some ⟨b, of + off, none⟩))) w := by
  intro b of hu
  simp [execOp, ho, hu, Instr.fieldAt, run_underlying ht, hf, Instr.sureAddr, Tcq h0, hoff]
 simp only [eff] at he
 cases hv : y.ev s with
 | none => rw [hv] at he; simp at he
 | some v =>
  rw [hv] at he
  have hr := Taf S hx hv
  split at he
  · rename_i l h1
    obtain rfl := oIj h1
    obtain ⟨b, of, vs, hu, hl, hm⟩ := Tjh hr
    split at he
    · simp only [oIE] at he
      subst he
      exact EffOK.pure S (hrun b of hu) (Rep.pt (hl.drop off) (hm.drop off))
    · simp at he
  · rename_i d' i' j h1
    obtain rfl := oIj h1
    try dsimp only at he
    cases hd : get s.h d' with
    | none => rw [hd] at he; simp at he
    | some ob =>
     cases ob <;> rw [hd] at he <;> first | (simp at he; done) | skip
     simp only [oIE] at he
     subst he
     obtain ⟨_, _, b, xs, hu, hb, _⟩ := S.row hd hr
     refine EffOK.pure S (hrun b _ hu) ?_
     simp only [SRep, hd]
     exact ⟨b, hb, by rw [Nat.add_assoc]⟩
  · simp at he
theorem Tba (S : Sim base w0 lm0 N g a w s) {z : Operand} {y : X} {v : SV} {n : Nat} (h : okX z y = true) (hv : y.ev s = some v) (hn : natOf v = some n) : ∃ k, a.eval z = .int k (n : Int) := by
 have hr := Taf S h hv
 unfold natOf at hn
 split at hn
 · split at hn
   · simp at hn; subst hn
     exact ⟨_, by rw [Ta2 hr]; congr 1; omega⟩
   · simp at hn
 · simp at hn
theorem Tuc (S : Sim base w0 lm0 N g a w s) {t el : TypeId} {x i : Operand} {y j : X} {k : Nat} {call : Call} {d : Nat} {e : Eff} (ho : o.op = .indexAddr t x i) (ht : P.underlying t = some (.slice el)) (hk : P.cellsOf el = k) (h0 : 0 < k) (hx : okX x y = true) (hi : okX i j = true)
 (he : eff call s d (.ia k y j) = some e) : EffOK P base w0 lm0 N g a w s o e := by
 simp only [eff] at he
 cases hv : y.ev s with
 | none => rw [hv] at he; simp at he
 | some v =>
  cases hw : j.ev s with
  | none => rw [hv, hw] at he; simp at he
  | some u =>
   rw [hv, hw] at he
   dsimp only at he
   cases hn : natOf u with
   | none => rw [hn] at he; simp at he
   | some n =>
    rw [hn] at he
    dsimp only at he
    obtain ⟨ki, hi'⟩ := Tba S hi hw hn
    have hr := Taf S hx hv
    have hrun : ∀ b of len cap, a.eval x = .slice (some ⟨b, of, none⟩) len cap → n < len → (execOp a.eval o).run P w = .ok (.value (.pointer (some ⟨b, of + n * k, none⟩))) w := by
     intro b of len cap hu hlt
     have h1 : (0 : Int) ≤ (n : Int) ∧ (n : Int) < (len : Int) := by omega
     simp [execOp, ho, hu, hi', Instr.indexAt, run_underlying ht, asIntOf, h1, Tan hk h0, add_n, hlt]
    have plain : ∀ (l : List (List PV)) (u : Value), u = a.eval x → (∃ ad cap, u = .slice ad l.length cap ∧ (l = [] ∨ (0 < k ∧ (∀ c ∈ l, c.length = k) ∧ ∃ b o vs, ad = some ⟨b, o, none⟩ ∧ RepL w g.lm l.flatten vs ∧ Mem w g.lm b o vs))) → (match l[n]? with | some c => some (⟨.p (.pt c), []⟩ : Eff) | none => none) = some e → EffOK P base w0 lm0 N g a w s o e := by
     rintro l _ rfl ⟨ad, cap, hu, hl⟩ he
     cases hc : l[n]? with
     | none => rw [hc] at he; simp at he
     | some c =>
      rw [hc] at he
      simp only [oIE] at he
      subst he
      have hlt : n < l.length := (List.getElem?_eq_some_iff.1 hc).1
      rcases hl with rfl | ⟨_, hk', b, of, vs, rfl, hrl, hm⟩
      · simp at hlt
      · refine EffOK.pure S (hrun b of _ cap hu hlt) ?_
        have hck : c.length = k := hk' c (List.mem_of_getElem? hc)
        have e1 : (l.flatten.drop (n * k)).take k = c := by
         rw [Tar n hk']
         have : l.drop n = c :: l.drop (n + 1) := by
          rw [List.drop_eq_getElem_cons hlt]
          congr 1
          simpa [List.getElem?_eq_getElem hlt] using hc
         rw [this, List.flatten_cons, List.take_append_of_le_length (by omega), List.take_of_length_le (by omega)]
        have hrl' := (hrl.drop (n * k)).take k
        rw [e1] at hrl'
        exact Rep.pt hrl' ((hm.drop (n * k)).take k)
    cases v with
    | p z =>
     cases z with
     | sl k' l =>
      dsimp only at he
      split at he
      · rename_i hkk
        subst hkk
        obtain ⟨ad, cap, hu, _, hl⟩ := Thd hr
        exact plain l _ rfl ⟨ad, cap, hu, hl⟩ he
      · simp at he
     | _ => simp at he
    | xs k' l =>
     dsimp only at he
     split at he
     · rename_i hkk
       subst hkk
       obtain ⟨ad, hu, h2, h3, h4⟩ := hr
       exact plain l _ rfl ⟨ad, _, hu, h4.imp id fun ⟨b, o, vs, q⟩ => ⟨h2, h3, b, o, vs, q⟩⟩ he
     · simp at he
    | ms d' off len =>
     dsimp only at he
     cases hd : get s.h d' with
     | none => rw [hd] at he; simp at he
     | some ob =>
      cases ob <;> rw [hd] at he <;> first | (simp at he; done) | skip
      rename_i e' k' fz l
      dsimp only at he
      split at he
      · rename_i hc
        obtain ⟨rfl, hlt⟩ := hc
        simp only [oIE] at he
        subst he
        simp only [SRep, hd] at hr
        obtain ⟨hle, hr⟩ := hr
        obtain ⟨h1, h2, ⟨xs, h3, h4, h5⟩, h6⟩ := S.ob d' _ hd
        have hb : ∃ b cap, blk (g.v d') = some b ∧ a.eval x = .slice (some ⟨b, off * k', none⟩) len cap := by
         rcases hr with ⟨rfl, rfl, hu⟩ | ⟨_, ad, cap, hu, _, hz⟩
         · rcases h3.2 with ⟨hv0, h0'⟩ | ⟨b, cap, cur, hv0, _⟩
           · omega
           · exact ⟨b, cap, by rw [hv0]; rfl, by rw [hu, hv0]; simp⟩
         · rcases hz with hz | ⟨b, hb, rfl⟩
           · omega
           · exact ⟨b, cap, hb, hu⟩
        obtain ⟨b, cap, hb, hu⟩ := hb
        refine EffOK.pure S (hrun b _ _ cap hu hlt) ?_
        simp only [SRep, hd]
        exact ⟨b, hb, by rw [Nat.add_mul, Nat.add_zero]⟩
      · simp at he
    | _ => simp at he
theorem Txp (S : Sim base w0 lm0 N g a w s) {t el : TypeId} {x i : Operand} {y j : X} {k m : Nat} {call : Call} {d : Nat} {e : Eff} (ho : o.op = .indexAddr t x i) (ht : P.underlying t = some (.array m el)) (hk : P.cellsOf el = k) (h0 : 0 < k) (hx : okX x y = true) (hi : okX i j = true)
 (he : eff call s d (.aa k m y j) = some e) : EffOK P base w0 lm0 N g a w s o e := by
 simp only [eff] at he
 cases hv : y.ev s with
 | none => rw [hv] at he; simp at he
 | some v =>
  cases hw : j.ev s with
  | none => rw [hv, hw] at he; cases v <;> simp at he
  | some u =>
   rw [hv, hw] at he
   have hr := Taf S hx hv
   cases v with
   | mp d' i' j' =>
    dsimp only at he
    cases hn : natOf u with
    | none => rw [hn] at he; simp at he
    | some n =>
     rw [hn] at he
     dsimp only at he
     cases hd : get s.h d' with
     | none => rw [hd] at he; simp at he
     | some ob =>
      cases ob <;> rw [hd] at he <;> first | (simp at he; done) | skip
      rename_i e' k' fz l
      dsimp only at he
      split at he
      · rename_i hc
        obtain ⟨rfl, hlt, rfl, rfl⟩ := hc
        simp only [oIE] at he
        subst he
        obtain ⟨ki, hi'⟩ := Tba S hi hw hn
        obtain ⟨_, _, b, xs, hu, hb, _⟩ := S.row hd hr
        have h1 : (0 : Int) ≤ (n : Int) ∧ (n : Int) < (m : Int) := by omega
        refine EffOK.pure S (u := .pointer (some ⟨b, n * k', none⟩)) ?_ ?_
        · simp [execOp, ho, hu, hi', Instr.indexAt, run_underlying ht, asIntOf, h1, Instr.sureAddr, Tan hk h0, add_n, hlt]
        · simp only [SRep, hd]
          exact ⟨b, hb, by simp⟩
      · simp at he
   | _ => simp at he
theorem Tu9 (S : Sim base w0 lm0 N g a w s) {t el : TypeId} {m : Nat} {x i : Operand} {y j : X} {k : Nat} {call : Call} {d : Nat} {e : Eff} (ho : o.op = .index t x i) (ht : P.underlying t = some (.array m el)) (ha : aggT P el = some true) (hk : P.cellsOf el = k) (h0 : 0 < k) (hx : okX x y = true) (hi : okX i j = true)
 (he : eff call s d (.ixa k m y j) = some e) : EffOK P base w0 lm0 N g a w s o e := by
 simp only [eff] at he
 split at he
 · rename_i l v hv hw
   split at he
   · rename_i n hn
     split at he
     · rename_i hc
       simp only [oIE] at he
       subst he
       obtain ⟨vs, hu, hl, h1⟩ := Thc (Taf S hx hv)
       obtain ⟨ki, hi'⟩ := Tba S hi hw hn
       refine EffOK.pure S (u := .agg ((vs.drop (n * k)).take k).toArray) ?_ (.st ((hl.drop (n * k)).take k) fun u hu => h1 u (List.mem_of_mem_drop (List.mem_of_mem_take hu)))
       have hlt : (0 : Int) ≤ (n : Int) ∧ (n : Int) < (m : Int) := by omega
       simp [execOp, ho, hu, hi', Instr.index, asIntOf, run_underlying ht, hc.1, Tan hk h0, Tji ha hk h0]
     · simp at he
   · simp at he
 · simp at he
end
end Go.Proofs.YtjpibniecllafaaGreat.AM
end
