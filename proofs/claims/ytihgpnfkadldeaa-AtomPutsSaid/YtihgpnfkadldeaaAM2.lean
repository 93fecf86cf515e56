/- How the small machine's state stands to Go's memory. No condition. -/
import Derived.Test.YtihgpnfkadldeaaAM1
import Derived.Orders
import Derived.Below
import Derived.Laws.AppendOwn
import Derived.Laws.OwnMore
import Derived.Laws.MakeOwn
import Derived.Laws.CopyRow
namespace Go.Proofs.Ytihgpnfkadldeaa.AM
open Go Go.RowKit
set_option linter.unusedVariables false
set_option linter.unusedSimpArgs false

/-- From cell o of block b on memory reads as vs, all of it ahead of what may still be written. -/
def Mem (w : World) (lm : Nat → Nat) (b o : Nat) (vs : List Value) : Prop :=
  ∀ j u, vs[j]? = some u → w.cell? ⟨b, o + j, none⟩ = some u ∧ o + j < lm b ∧ u.oneCell' = true

mutual
inductive Rep (w : World) (lm : Nat → Nat) : PV → Value → Prop
  | sc (v : Value) : Rep w lm (.sc v) v
  | st {l vs} : RepL w lm l vs → (∀ u ∈ vs, u.oneCell' = true) → Rep w lm (.st l) (.agg vs.toArray)
  | tu {l vs} : RepL w lm l vs → Rep w lm (.tu l) (.tuple vs.toArray)
  | pt {l vs b o} : RepL w lm l vs → Mem w lm b o vs → Rep w lm (.pt l) (.pointer (some ⟨b, o, none⟩))
  | sl {k l vs b o cap} : 0 < k → (∀ c ∈ l, c.length = k) → RepL w lm l.flatten vs → Mem w lm b o vs → l.length ≤ cap → Rep w lm (.sl k l) (.slice (some ⟨b, o, none⟩) l.length cap)
  | sl0 {k a cap} : Rep w lm (.sl k []) (.slice a 0 cap)
  | fn {f l vs} : RepL w lm l vs → Rep w lm (.fn f l) (.func (.func f) #[] vs.toArray)
  | ifc {t x v} : Rep w lm x v → Rep w lm (.ifc t x) (.iface t v)
  | ow {e k l v} : Rep w lm (.ow e k l) v
inductive RepL (w : World) (lm : Nat → Nat) : List PV → List Value → Prop
  | nil : RepL w lm [] []
  | cons {x v l vs} : Rep w lm x v → RepL w lm l vs → RepL w lm (x :: l) (v :: vs)
end

/-- What may not be written any more stays. -/
def Ext (w : World) (lm : Nat → Nat) (w' : World) (lm' : Nat → Nat) : Prop :=
  ∀ b o u, w.cell? ⟨b, o, none⟩ = some u → o < lm b → w'.cell? ⟨b, o, none⟩ = some u ∧ o < lm' b

theorem Ext.refl (w : World) (lm : Nat → Nat) : Ext w lm w lm := fun _ _ _ h h' => ⟨h, h'⟩
theorem Ext.trans {w lm w' lm' w'' lm''} (h : Ext w lm w' lm') (k : Ext w' lm' w'' lm'') : Ext w lm w'' lm'' := fun b o u a c => let ⟨x, y⟩ := h b o u a c; k b o u x y
theorem Mem.ext {w lm w' lm'} (h : Ext w lm w' lm') {b o vs} (m : Mem w lm b o vs) : Mem w' lm' b o vs := fun j u hu =>
  let ⟨x, y, z⟩ := m j u hu; let ⟨p, q⟩ := h b (o + j) u x y; ⟨p, q, z⟩

mutual
theorem Rep.ext {w lm w' lm'} (h : Ext w lm w' lm') : ∀ {x v}, Rep w lm x v → Rep w' lm' x v
  | _, _, .sc v => .sc v
  | _, _, .st a o => .st (RepL.ext h a) o
  | _, _, .tu a => .tu (RepL.ext h a)
  | _, _, .pt a m => .pt (RepL.ext h a) (m.ext h)
  | _, _, .sl h0 hk a m hc => .sl h0 hk (RepL.ext h a) (m.ext h) hc
  | _, _, .sl0 => .sl0
  | _, _, .fn a => .fn (RepL.ext h a)
  | _, _, .ifc a => .ifc (Rep.ext h a)
  | _, _, .ow => .ow
theorem RepL.ext {w lm w' lm'} (h : Ext w lm w' lm') : ∀ {l vs}, RepL w lm l vs → RepL w' lm' l vs
  | _, _, .nil => .nil
  | _, _, .cons a b => .cons (Rep.ext h a) (RepL.ext h b)
end

theorem RepL.length {w lm} : ∀ {l vs}, RepL w lm l vs → l.length = vs.length
  | _, _, .nil => rfl
  | _, _, .cons _ b => by simp [RepL.length b]
theorem RepL.get {w lm} : ∀ {l vs}, RepL w lm l vs → ∀ (i : Nat) (x : PV), l[i]? = some x → ∃ v, vs[i]? = some v ∧ Rep w lm x v
  | _, _, .nil, i, x, h => by simp at h
  | _, _, .cons a b, 0, x, h => by simp at h; subst h; exact ⟨_, rfl, a⟩
  | _, _, .cons a b, i + 1, x, h => by simpa using RepL.get b i x (by simpa using h)
theorem RepL.drop {w lm} : ∀ {l vs}, RepL w lm l vs → ∀ n, RepL w lm (l.drop n) (vs.drop n)
  | _, _, h, 0 => h
  | _, _, .nil, n + 1 => .nil
  | _, _, .cons a b, n + 1 => RepL.drop b n
theorem RepL.take {w lm} : ∀ {l vs}, RepL w lm l vs → ∀ n, RepL w lm (l.take n) (vs.take n)
  | _, _, h, 0 => .nil
  | _, _, .nil, n + 1 => .nil
  | _, _, .cons a b, n + 1 => .cons a (RepL.take b n)
theorem RepL.append {w lm} : ∀ {l vs}, RepL w lm l vs → ∀ {m us}, RepL w lm m us → RepL w lm (l ++ m) (vs ++ us)
  | _, _, .nil, _, _, h => h
  | _, _, .cons a b, _, _, h => .cons a (RepL.append b h)
theorem RepL.one {w lm x v} (h : Rep w lm x v) : RepL w lm [x] [v] := .cons h .nil

/-- A value's cells. -/
theorem Rep.cells {w lm x v c} (h : Rep w lm x v) (hx : x.cells = some c) : RepL w lm c v.cells.toList ∧ ∀ u ∈ v.cells.toList, u.oneCell' = true := by
  have one : ∀ {y u}, Rep w lm y u → u.cells = #[u] → u.oneCell' = true → some [y] = some c → RepL w lm c u.cells.toList ∧ ∀ z ∈ u.cells.toList, z.oneCell' = true := by
    intro y u hr hc h1 he
    obtain rfl := Option.some.inj he
    rw [hc]
    exact ⟨.one hr, fun z hz => by simp at hz; rw [hz]; exact h1⟩
  cases h with
  | sc v => cases v <;> first | exact one (.sc _) rfl rfl hx | (simp [PV.cells] at hx)
  | st a o => obtain rfl := Option.some.inj hx; exact ⟨by simpa [Value.cells] using a, by simpa [Value.cells] using o⟩
  | tu a => simp [PV.cells] at hx
  | pt a m => exact one (.pt a m) rfl rfl hx
  | sl h0 hk a m hc => exact one (.sl h0 hk a m hc) rfl rfl hx
  | sl0 => exact one .sl0 rfl rfl hx
  | fn a => exact one (.fn a) rfl rfl hx
  | ifc a => exact one (.ifc a) rfl rfl hx
  | ow => simp [PV.cells] at hx

theorem flatten_len {k : Nat} : ∀ {l : List (List PV)}, (∀ c ∈ l, c.length = k) → l.flatten.length = l.length * k
  | [], _ => by simp
  | c :: l, h => by
    have := flatten_len (l := l) (fun c hc => h c (by simp [hc]))
    simp [List.flatten_cons, this, h c (by simp), Nat.add_mul]; omega
theorem flatten_drop {k : Nat} : ∀ {l : List (List PV)} (n : Nat), (∀ c ∈ l, c.length = k) → l.flatten.drop (n * k) = (l.drop n).flatten
  | l, 0, _ => by simp
  | [], n + 1, _ => by simp
  | c :: l, n + 1, h => by
    have hc : c.length = k := h c (by simp)
    have e : (n + 1) * k = c.length + n * k := by rw [Nat.add_mul, hc]; omega
    rw [e, List.flatten_cons, ← List.drop_drop, List.drop_left, List.drop_succ_cons]
    exact flatten_drop n (fun c hc => h c (by simp [hc]))
theorem flatten_take {k : Nat} : ∀ {l : List (List PV)} (n : Nat), (∀ c ∈ l, c.length = k) → l.flatten.take (n * k) = (l.take n).flatten
  | l, 0, _ => by simp
  | [], n + 1, _ => by simp
  | c :: l, n + 1, h => by
    have hc : c.length = k := h c (by simp)
    have e : (n + 1) * k = c.length + n * k := by rw [Nat.add_mul, hc]; omega
    rw [e, List.flatten_cons, List.take_succ_cons, List.flatten_cons, List.take_append, List.take_of_length_le (by omega), Nat.add_sub_cancel_left, flatten_take n (fun c hc => h c (by simp [hc]))]

/-- What a slot's value is told by: the machine's state of memory beside it. -/
structure Gs where
  lm : Nat → Nat
  v : Nat → Value

def blk : Value → Option Nat
  | .slice (some a) _ _ => some a.block
  | .pointer (some a) => some a.block
  | _ => none

def SRep (w : World) (g : Gs) (h : Nat → Option Ob) : SV → Value → Prop
  | .p x, u => Rep w g.lm x u
  | .xs k l, u => ∃ a, u = .slice a l.length l.length ∧ 0 < k ∧ (∀ c ∈ l, c.length = k) ∧ (l = [] ∨ ∃ b o vs, a = some ⟨b, o, none⟩ ∧ RepL w g.lm l.flatten vs ∧ Mem w g.lm b o vs)
  | .ms d off len, u => match h d with
    | some (.row _ k _ l) => off + len ≤ l.length ∧ ((off = 0 ∧ len = l.length ∧ u = g.v d) ∨ ¬ (off = 0 ∧ len = l.length) ∧ ∃ a cap, u = .slice a len cap ∧ len ≤ cap ∧ (len = 0 ∨ ∃ b, blk (g.v d) = some b ∧ a = some ⟨b, off * k, none⟩))
    | some (.dp _ k l) => off + len ≤ l.length ∧ ((off = 0 ∧ len = l.length ∧ u = g.v d) ∨ ¬ (off = 0 ∧ len = l.length) ∧ ∃ a cap, u = .slice a len cap ∧ len ≤ cap ∧ (len = 0 ∨ ∃ b, blk (g.v d) = some b ∧ a = some ⟨b, off * k, none⟩))
    | some .dead => True
    | _ => False
  | .mp d i j, u => match h d with
    | some (.row _ k _ _) => ∃ b, blk (g.v d) = some b ∧ u = .pointer (some ⟨b, i * k + j, none⟩)
    | some (.it _ _) => u = g.v d
    | some (.dp _ k _) => ∃ b, blk (g.v d) = some b ∧ u = .pointer (some ⟨b, i * k + j, none⟩)
    | some .dead => True
    | none => False

/-- The ghost number of what a cell of an object alone has. -/
def nid (d p : Nat) : Nat := (p + 1) * 1000000 + d
/-- A row that is still written. -/
def RowR (w : World) (g : Gs) (base x e k : Nat) (l : List (List PV)) : Prop :=
  0 < k ∧ (∀ c ∈ l, c.length = k) ∧ (∃ xs, w.ownsRow base e k (g.v x) l.length xs ∧ RepL w g.lm l.flatten xs ∧ ∀ u ∈ xs, u.oneCell' = true) ∧ ∀ b, blk (g.v x) = some b → g.lm b = 0

/-- The cells that hold their own address, or none. -/
def SelfR (w : World) (g : Gs) (d : Nat) (l : List (List PV)) : Prop :=
  ∀ p, l.flatten[p]? = some (.ow 1 0 []) → ∃ b, g.v d = .slice (some ⟨b, 0, none⟩) l.length l.length ∧ (w.cell? ⟨b, p, none⟩ = some (.pointer none) ∨ w.cell? ⟨b, p, none⟩ = some (.pointer (some ⟨b, p, none⟩)))

def ORep (w : World) (g : Gs) (base d : Nat) : Ob → Prop
  | .row e k fz l => 0 < k ∧ (∀ c ∈ l, c.length = k) ∧ (∃ xs, w.ownsRow base e k (g.v d) l.length xs ∧ RepL w g.lm l.flatten xs ∧ ∀ u ∈ xs, u.oneCell' = true) ∧
      ∀ b, blk (g.v d) = some b → g.lm b = if fz then l.length * k else 0
  | .it s pos => ∃ b, g.v d = .pointer (some ⟨b, 0, none⟩) ∧ base ≤ b ∧ w.heap[b]? = some (.stringIter s pos)
  | .dp e k l => 0 < k ∧ (∀ c ∈ l, c.length = k) ∧ (∃ xs, w.ownsRow base e k (g.v d) l.length xs ∧ RepL w g.lm l.flatten xs ∧ (∀ u ∈ xs, u.oneCell' = true) ∧
      ∀ p e' k' l', l.flatten[p]? = some (.ow e' k' l') → 0 < k' → xs[p]? = some (g.v (nid d p)) ∧ RowR w g base (nid d p) e' k' l') ∧
      (∀ b, blk (g.v d) = some b → g.lm b = 0) ∧ SelfR w g d l
  | .dead => True

def Ob.live : Ob → Bool | .dead => false | _ => true

/-- The numbers whose values are an object's. -/
def Ids (d : Nat) (o : Ob) (x : Nat) : Prop := x = d ∨ ∃ e k l p e' k' l', o = .dp e k l ∧ l.flatten[p]? = some (.ow e' k' l') ∧ 0 < k' ∧ x = nid d p
theorem Ids.self (d : Nat) (o : Ob) : Ids d o d := .inl rfl
theorem nid_ge (d p : Nat) : 1000000 ≤ nid d p := by unfold nid; omega
theorem nid_inj {d d' p p' : Nat} (hd : d < 1000000) (hd' : d' < 1000000) (h : nid d p = nid d' p') : d = d' ∧ p = p' := by unfold nid at h; omega
theorem Ids.lt {d : Nat} {o : Ob} {x : Nat} (h : Ids d o x) (hx : x < 1000000) : x = d := by
  rcases h with h | ⟨_, _, _, p, _, _, _, _, _, _, h⟩
  · exact h
  · have := nid_ge d p; omega
theorem Ids.mod {d : Nat} {o : Ob} {x : Nat} (h : Ids d o x) (hd : d < 1000000) : x % 1000000 = d := by
  rcases h with h | ⟨_, _, _, p, _, _, _, _, _, _, h⟩
  · subst h; omega
  · subst h; unfold nid; omega
theorem Ids.plain {d : Nat} {o : Ob} {x : Nat} (h : Ids d o x) (ho : o.isDp = false) : x = d := by
  rcases h with h | ⟨_, _, _, p, _, _, _, h, _⟩
  · exact h
  · subst h; simp [Ob.isDp] at ho

structure Sim (base : Nat) (w0 : World) (lm0 : Nat → Nat) (N : Nat) (g : Gs) (a : Act) (w : World) (s : St) : Prop where
  bas : base = w0.heap.size
  size : a.tmps.size = N
  defers : a.defers = []
  below : Below base w0 w
  lm : ∀ b, b < base → g.lm b = lm0 b
  tm : ∀ n v, get s.t n = some v → ∃ u, a.tmps[n]? = some u ∧ SRep w g (get s.h) v u
  ob : ∀ d o, get s.h d = some o → ORep w g base d o
  lt : ∀ d o, get s.h d = some o → d < 1000000
  ap : ∃ own : Nat → Nat, ∀ d o x b, get s.h d = some o → o.live = true → Ids d o x → blk (g.v x) = some b → own b = x

theorem get_put {α : Type} : ∀ (l : List (Nat × α)) (d e : Nat) (v : α), get (put l d v) e = if d = e then some v else get l e
  | [], d, e, v => by simp [put, get]
  | (c, u) :: l, d, e, v => by
    simp only [put]
    split
    · rename_i h; subst h
      simp only [get]
      split <;> rfl
    · rename_i h
      split
      · simp only [get]
      · simp only [get, get_put l d e v]
        split
        · rename_i h1 h2
          subst h2
          rw [if_neg (fun e => h e.symm)]
        · rfl
theorem get_put_same {α : Type} (l : List (Nat × α)) (d : Nat) (v : α) : get (put l d v) d = some v := by rw [get_put, if_pos rfl]
theorem get_put_ne {α : Type} (l : List (Nat × α)) {d e : Nat} (h : d ≠ e) (v : α) : get (put l d v) e = get l e := by rw [get_put, if_neg h]

theorem putAll_append (h : List (Nat × Ob)) : ∀ (a b : List (Nat × Ob)), putAll h (a ++ b) = putAll (putAll h a) b
  | [], b => rfl
  | (d, o) :: a, b => putAll_append (put h d o) a b

theorem newId_none {h : List (Nat × Ob)} {d id : Nat} (e : newId h d = some id) : get h id = none := by
  unfold newId at e
  split at e
  · split at e
    · rename_i h1; simp at e; subst e; exact h1
    · split at e
      · rename_i h1; simp at e; subst e; exact h1
      · simp at e
  · simp at e
theorem newId_lt {h : List (Nat × Ob)} {d id : Nat} (e : newId h d = some id) : id < 1000000 := by
  unfold newId at e
  split at e
  · split at e
    · simp at e; omega
    · split at e
      · simp at e; omega
      · simp at e
  · simp at e
end Go.Proofs.Ytihgpnfkadldeaa.AM
