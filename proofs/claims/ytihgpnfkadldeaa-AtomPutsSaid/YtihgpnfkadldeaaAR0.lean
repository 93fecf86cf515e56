/- Running the small machine: words and equations that all functions use; bytes. No condition. -/
import Derived.Test.YtihgpnfkadldeaaAF1
import Derived.Test.YtihgpnfkadldeaaU2
import Derived.Laws.BitsLemmas
import Derived.Lib.Strings
namespace Go.Proofs.Ytihgpnfkadldeaa.AM
set_option linter.unusedSimpArgs false
set_option linter.unusedVariables false
open Go Go.Proofs.Ytihgpnfkadldeaa.U
/-- What is told by hand: strings.Builder, slices.Clone, utf.forms; and (where it is needed) the reference's Copy. -/
def extF (cp : List PV → Option Ret) (f : FuncId) (args : List PV) : Option Ret :=
  if f = 62 then (match args with | [] => some (.sb 1 78 5) | _ => none)
  else if f = 87 then (match args with | [] => some (.sb 3 78 5) | _ => none)
  else if f = 63 then (match args with | [] => some (.sb 2 78 5) | _ => none)
  else if f = 54 then (match args with
    | [.sl 2 l] => if (∀ c ∈ l, c.length = 2) ∧ l.length * 16 ≤ 140737488355328 then some (.own 45 2 l) else none
    | _ => none)
  else if f = 91 then (match args with
    | [] => some (.val (.st [pI .u8 128, pI .u8 0, pI .i32 0, pI .u8 224, pI .u8 192, pI .i32 128, pI .u8 240, pI .u8 224, pI .i32 2048, pI .u8 248, pI .u8 240, pI .i32 65536]))
    | _ => none)
  else if f = 17 then cp args
  else none
def isExtF (f : FuncId) : Bool := f == 62 || f == 87 || f == 63 || f == 54 || f == 91 || f == 17
def EX (cp : List PV → Option Ret) : Env := ⟨prg, extF cp, isExtF⟩
variable {cp : List PV → Option Ret}
@[simp] theorem run_ws : Run (EX cp) 62 [] = some (.sb 1 78 5) := by rw [Run_ext _ _ _ rfl]; rfl
@[simp] theorem run_wr : Run (EX cp) 87 [] = some (.sb 3 78 5) := by rw [Run_ext _ _ _ rfl]; rfl
@[simp] theorem run_str : Run (EX cp) 63 [] = some (.sb 2 78 5) := by rw [Run_ext _ _ _ rfl]; rfl
theorem run_clone (l : List (List PV)) (h : ∀ c ∈ l, c.length = 2) (hb : l.length * 16 ≤ 140737488355328) : Run (EX cp) 54 [.sl 2 l] = some (.own 45 2 l) := by
  rw [Run_ext _ _ _ rfl]
  show (if (∀ c ∈ l, c.length = 2) ∧ l.length * 16 ≤ 140737488355328 then some (Ret.own 45 2 l) else none) = _
  rw [if_pos ⟨h, hb⟩]
@[simp] theorem run_forms : Run (EX cp) 91 [] = some (.val (.st [pI .u8 128, pI .u8 0, pI .i32 0, pI .u8 224, pI .u8 192, pI .i32 128, pI .u8 240, pI .u8 224, pI .i32 2048, pI .u8 248, pI .u8 240, pI .i32 65536])) := by rw [Run_ext _ _ _ rfl]; rfl

/-! ### the machine's equations, one constructor at a time -/
noncomputable def seqC (E : Env) (b : ACode) : Option (Out × St) → Option (Out × St)
  | some (.nor, s) => Code E b s
  | r => r
def regC (keep : List Nat) : Option St → Option (Out × St)
  | some s => some (.nor, norm keep s)
  | none => none
noncomputable def iteC (E : Env) (a b : ACode) (s : St) : Option SV → Option (Out × St)
  | some (.p (.sc (.bool true))) => Code E a s
  | some (.p (.sc (.bool false))) => Code E b s
  | _ => none
def blkC (id : Nat) : Option (Out × St) → Option (Out × St)
  | some (.ex i, s) => if i = id then some (.nor, s) else some (.ex i, s)
  | r => r
def stepsC (call : Call) (os : List AOper) : Option St → Option St
  | some s => steps call os s
  | none => none
def effC (d : Option Nat) (s : St) : Option Eff → Option St
  | some e => some ⟨puts s.t d e.v, putAll s.h e.hs⟩
  | none => none
def grdC (call : Call) (d : Option Nat) (o : AOp) (w : Bool) (s : St) : Option SV → Option St
  | some (.p (.sc (.bool b))) => if b = w then effC d s (eff call s (d.getD 0) o) else some ⟨puts s.t d undefS, s.h⟩
  | some (.p (.sc (.tuple _))) => some ⟨puts s.t d undefS, s.h⟩
  | _ => none
def runC (fn : AFunc) : Option (Out × St) → Option Ret
  | some (.ex _, _) => none
  | some (_, s) => finish fn s
  | none => none
noncomputable def loopC (E : Env) (keep : List Nat) (a : ACode) : Option (Out × St) → Option (Out × St)
  | some (.nor, s) => Code E (.loop keep a) s
  | r => r
section
variable (E : Env) (a b : ACode) (s : St) (call : Call)
theorem k_seq : Code E (.seq a b) s = seqC E b (Code E a s) := by
  rw [Code_seq]; unfold seqC; rfl
theorem k_reg (ops : List AOper) (keep : List Nat) : Code E (.reg ops keep) s = regC keep (steps (Run E) ops s) := by
  rw [Code_reg]; unfold regC; rfl
theorem k_ite (x : X) : Code E (.ite x a b) s = iteC E a b s (x.ev s) := by
  rw [Code_ite]
  cases h : x.ev s with
  | none => rfl
  | some v =>
    cases v with
    | p y => cases y with
      | sc z => cases z with
        | bool c => cases c <;> rfl
        | _ => rfl
      | _ => rfl
    | _ => rfl
theorem k_blk (id : Nat) : Code E (.blk id a) s = blkC id (Code E a s) := by
  rw [Code_blk]; unfold blkC; rfl
theorem k_loop (keep : List Nat) : Code E (.loop keep a) s = loopC E keep a (Code E a (norm keep s)) := by
  rw [Code_loop]; unfold loopC; rfl
theorem k_steps (o : AOper) (os : List AOper) : steps call (o :: os) s = stepsC call os (step call o s) := by
  simp only [steps, stepsC]
  cases step call o s <;> rfl
theorem k_nil : steps call [] s = some s := rfl
theorem k_step0 (d : Option Nat) (o : AOp) : step call ⟨d, o, none⟩ s = effC d s (eff call s (d.getD 0) o) := by
  simp only [step, effC]
  cases eff call s (d.getD 0) o <;> rfl
theorem k_step1 (d : Option Nat) (o : AOp) (g : Nat) (w : Bool) : step call ⟨d, o, some (g, w)⟩ s = grdC call d o w s (get s.t g) := by
  simp only [step, grdC, effC]
  cases get s.t g with
  | none => rfl
  | some v =>
    cases v with
    | p y => cases y with
      | sc z => cases z with
        | bool c =>
          by_cases hc : c = w
          · simp only [hc, if_true]; cases eff call s (d.getD 0) o <;> rfl
          · simp only [hc, if_false]
        | _ => rfl
      | _ => rfl
    | _ => rfl
@[simp] theorem seqC_nor : seqC E b (some (.nor, s)) = Code E b s := rfl
@[simp] theorem seqC_ex (i : Nat) : seqC E b (some (.ex i, s)) = some (.ex i, s) := rfl
@[simp] theorem seqC_ret : seqC E b (some (.ret, s)) = some (.ret, s) := rfl
@[simp] theorem seqC_none : seqC E b none = none := rfl
@[simp] theorem regC_some (keep : List Nat) : regC keep (some s) = some (.nor, norm keep s) := rfl
@[simp] theorem regC_none (keep : List Nat) : regC keep none = none := rfl
@[simp] theorem iteC_t : iteC E a b s (some (.p (.sc (.bool true)))) = Code E a s := rfl
@[simp] theorem iteC_f : iteC E a b s (some (.p (.sc (.bool false)))) = Code E b s := rfl
@[simp] theorem blkC_ex (id i : Nat) : blkC id (some (.ex i, s)) = if i = id then some (.nor, s) else some (.ex i, s) := rfl
@[simp] theorem blkC_nor (id : Nat) : blkC id (some (.nor, s)) = some (.nor, s) := rfl
@[simp] theorem blkC_ret (id : Nat) : blkC id (some (.ret, s)) = some (.ret, s) := rfl
@[simp] theorem stepsC_some (os : List AOper) : stepsC call os (some s) = steps call os s := rfl
@[simp] theorem effC_some (d : Option Nat) (e : Eff) : effC d s (some e) = some ⟨puts s.t d e.v, putAll s.h e.hs⟩ := rfl
@[simp] theorem grdC_t (d : Option Nat) (o : AOp) : grdC call d o true s (some (.p (.sc (.bool true)))) = effC d s (eff call s (d.getD 0) o) := rfl
@[simp] theorem grdC_f (d : Option Nat) (o : AOp) : grdC call d o false s (some (.p (.sc (.bool false)))) = effC d s (eff call s (d.getD 0) o) := rfl
@[simp] theorem grdC_tf (d : Option Nat) (o : AOp) : grdC call d o true s (some (.p (.sc (.bool false)))) = some ⟨puts s.t d undefS, s.h⟩ := rfl
@[simp] theorem grdC_ft (d : Option Nat) (o : AOp) : grdC call d o false s (some (.p (.sc (.bool true)))) = some ⟨puts s.t d undefS, s.h⟩ := rfl
@[simp] theorem grdC_u (d : Option Nat) (o : AOp) (w : Bool) (l : Array Value) : grdC call d o w s (some (.p (.sc (.tuple l)))) = some ⟨puts s.t d undefS, s.h⟩ := rfl
@[simp] theorem runC_ret (fn : AFunc) : runC fn (some (.ret, s)) = finish fn s := rfl
@[simp] theorem runC_nor (fn : AFunc) : runC fn (some (.nor, s)) = finish fn s := rfl
@[simp] theorem loopC_nor (keep : List Nat) : loopC E keep a (some (.nor, s)) = Code E (.loop keep a) s := rfl
@[simp] theorem loopC_ex (keep : List Nat) (i : Nat) : loopC E keep a (some (.ex i, s)) = some (.ex i, s) := rfl
@[simp] theorem loopC_ret (keep : List Nat) : loopC E keep a (some (.ret, s)) = some (.ret, s) := rfl
end
/-- The first n parts of a code, and the rest. -/
def headN : Nat → ACode → ACode
  | 0, _ => .skip
  | n + 1, .seq a b => .seq a (headN n b)
  | _ + 1, c => c
def tailN : Nat → ACode → ACode
  | 0, c => c
  | n + 1, .seq _ b => tailN n b
  | _ + 1, _ => .skip
theorem split_code (E : Env) (n : Nat) : ∀ (c : ACode) (s s' : St), Code E (headN n c) s = some (.nor, s') → Code E c s = Code E (tailN n c) s' := by
  induction n with
  | zero =>
    intro c s s' h
    rw [headN, Code_skip] at h
    simp only [Option.some.injEq, Prod.mk.injEq, true_and] at h
    rw [h, tailN]
  | succ n ih =>
    intro c s s' h
    cases c
    case seq a b =>
      rw [headN, k_seq] at h
      rw [k_seq, tailN]
      cases ha : Code E a s with
      | none => rw [ha] at h; simp [seqC] at h
      | some q =>
        obtain ⟨o, s1⟩ := q
        rw [ha] at h
        cases o with
        | nor => rw [seqC_nor] at h ⊢; exact ih b s1 s' h
        | ex i => rw [seqC_ex] at h; simp at h
        | ret => rw [seqC_ret] at h; simp at h
    all_goals exact h.trans (Code_skip E s').symm
theorem run_fn (f : FuncId) (fn : AFunc) (a : List PV) (he : isExtF f = false) (hf : prg f = some fn) (ha : a.length = fn.np) :
    Run (EX cp) f a = runC fn (Code (EX cp) fn.body ⟨entry 0 a, []⟩) := by
  rw [Run_eq (EX cp) f fn a he hf ha]
  unfold runC; rfl

/-! ### whole numbers -/
theorem wrap_in (n : Int) (h0 : -9223372036854775808 ≤ n) (h1 : n ≤ 9223372036854775807) : IntKind.wrap .i64 n = n := by
  simp only [IntKind.wrap, IntKind.bits, IntKind.signed]
  simp
  split <;> omega
theorem wrap32_in (n : Int) (h0 : -2147483648 ≤ n) (h1 : n ≤ 2147483647) : IntKind.wrap .i32 n = n := by
  simp only [IntKind.wrap, IntKind.bits, IntKind.signed]
  simp
  split <;> omega
theorem wrap8_in (n : Int) (h0 : 0 ≤ n) (h1 : n ≤ 255) : IntKind.wrap .u8 n = n := by
  simp only [IntKind.wrap, IntKind.bits, IntKind.signed]
  simp
  omega
theorem if_yes {p : Prop} [Decidable p] {α : Type} (h : p) (a b : α) : (if p then a else b) = a := if_pos h
theorem if_no {p : Prop} [Decidable p] {α : Type} (h : ¬ p) (a b : α) : (if p then a else b) = b := if_neg h
theorem dec_yes {p : Prop} [Decidable p] (h : p) : decide p = true := decide_eq_true h
theorem dec_no {p : Prop} [Decidable p] (h : ¬ p) : decide p = false := decide_eq_false h
section
variable (k k' : IntKind) (a b : Int)
@[simp] theorem b_add : binS .add (.sc (.int k a)) (.sc (.int k' b)) = if k = k' then some (.sc (.int k (k.wrap (a + b)))) else none := rfl
@[simp] theorem b_sub : binS .sub (.sc (.int k a)) (.sc (.int k' b)) = if k = k' then some (.sc (.int k (k.wrap (a - b)))) else none := rfl
@[simp] theorem b_mul : binS .mul (.sc (.int k a)) (.sc (.int k' b)) = if k = k' then some (.sc (.int k (k.wrap (a * b)))) else none := rfl
@[simp] theorem b_quo : binS .quo (.sc (.int k a)) (.sc (.int k' b)) = if k = k' then (if b = 0 then none else some (.sc (.int k (k.wrap (a.tdiv b))))) else none := rfl
@[simp] theorem b_rem : binS .rem (.sc (.int k a)) (.sc (.int k' b)) = if k = k' then (if b = 0 then none else some (.sc (.int k (a.tmod b)))) else none := rfl
@[simp] theorem b_and : binS .and (.sc (.int k a)) (.sc (.int k' b)) = if k = k' then some (.sc (.int k (bits .and k a b))) else none := rfl
@[simp] theorem b_or : binS .or (.sc (.int k a)) (.sc (.int k' b)) = if k = k' then some (.sc (.int k (bits .or k a b))) else none := rfl
@[simp] theorem b_andNot : binS .andNot (.sc (.int k a)) (.sc (.int k' b)) = if k = k' then some (.sc (.int k (bits .andNot k a b))) else none := rfl
@[simp] theorem b_shl : binS .shl (.sc (.int k a)) (.sc (.int k' b)) = if b < 0 then none else some (.sc (.int k (k.wrap (a * 2 ^ (min b.toNat k.bits))))) := rfl
@[simp] theorem b_shr : binS .shr (.sc (.int k a)) (.sc (.int k' b)) = if b < 0 then none else some (.sc (.int k (a.fdiv (2 ^ (min b.toNat k.bits))))) := rfl
@[simp] theorem b_eql : binS .eql (.sc (.int k a)) (.sc (.int k' b)) = if k = k' then some (.sc (.bool (decide (a = b)))) else none := by
  show (if k = k' then some (PV.sc (.bool (a == b))) else none) = _
  rw [show (a == b) = decide (a = b) from by by_cases h : a = b <;> simp [h]]
@[simp] theorem b_neq : binS .neq (.sc (.int k a)) (.sc (.int k' b)) = if k = k' then some (.sc (.bool (decide (a ≠ b)))) else none := by
  show (if k = k' then some (PV.sc (.bool (a != b))) else none) = _
  rw [show (a != b) = decide (a ≠ b) from by by_cases h : a = b <;> simp [h]]
@[simp] theorem b_lss : binS .lss (.sc (.int k a)) (.sc (.int k' b)) = if k = k' then some (.sc (.bool (decide (a < b)))) else none := rfl
@[simp] theorem b_leq : binS .leq (.sc (.int k a)) (.sc (.int k' b)) = if k = k' then some (.sc (.bool (decide (a ≤ b)))) else none := rfl
@[simp] theorem b_gtr : binS .gtr (.sc (.int k a)) (.sc (.int k' b)) = if k = k' then some (.sc (.bool (decide (b < a)))) else none := rfl
@[simp] theorem b_geq : binS .geq (.sc (.int k a)) (.sc (.int k' b)) = if k = k' then some (.sc (.bool (decide (b ≤ a)))) else none := rfl
end
@[simp] theorem b_cat (a b : ByteArray) : binS .add (.sc (.string a)) (.sc (.string b)) = if ((a.size + b.size : Nat) : Int) ≤ 9223372036854775807 then some (.sc (.string (a ++ b))) else none := rfl
theorem toList_L (s : ByteArray) : s.toList = s.data.toList := Lib.toList_data s
theorem ba_eq {s t : ByteArray} : (s.toList = t.toList) ↔ s = t := by
  rw [toList_L, toList_L]
  constructor
  · intro h; cases s; cases t; simp only [ByteArray.mk.injEq]; exact Array.toList_inj.1 h
  · intro h; rw [h]
@[simp] theorem b_seq (a b : ByteArray) : binS .eql (.sc (.string a)) (.sc (.string b)) = some (.sc (.bool (decide (a = b)))) := by
  show some (PV.sc (.bool (a.toList == b.toList))) = _
  by_cases h : a = b
  · simp [h]
  · have : ¬ a.toList = b.toList := fun e => h (ba_eq.1 e)
    simp [h, this]
@[simp] theorem b_sne (a b : ByteArray) : binS .neq (.sc (.string a)) (.sc (.string b)) = some (.sc (.bool (decide (a ≠ b)))) := by
  show some (PV.sc (.bool (!(a.toList == b.toList)))) = _
  by_cases h : a = b
  · simp [h]
  · have : ¬ a.toList = b.toList := fun e => h (ba_eq.1 e)
    simp [h, this]
attribute [simp] k_seq k_reg k_ite k_blk Code_ex Code_ret Code_skip k_steps k_nil k_step0 k_step1 eff X.ev get put puts putAll uns sop1 sop2 norm keepT gc ren1 SV.id? natOf evs frzs ret1 frz newId unS SV.ref SV.ren Ob.isDp PV.cells cellAt List.filter_cons entry finish finish.one finish.many svLen natOr elems sbwE sbsE unRow sbRow sbAdd mnmxs mnmx fillP fillR undefS List.getElem?_cons_zero List.getElem?_cons_succ

/-! ### bytes -/
/-- A string's bytes. -/
def L (s : ByteArray) : List UInt8 := s.data.toList
theorem L_len (s : ByteArray) : (L s).length = s.size := by unfold L; rw [Array.length_toList]; rfl
theorem L_mk (l : List UInt8) : L ⟨l.toArray⟩ = l := by simp [L]
theorem L_inj {s t : ByteArray} (h : L s = L t) : s = t := by
  unfold L at h
  cases s; cases t
  simp only [ByteArray.mk.injEq]
  exact Array.toList_inj.1 h
theorem mk_L (s : ByteArray) : (⟨(L s).toArray⟩ : ByteArray) = s := L_inj (L_mk _)
theorem L_append (s t : ByteArray) : L (s ++ t) = L s ++ L t := by simp [L]
theorem L_extract (s : ByteArray) (i j : Nat) : L (s.extract i j) = ((L s).drop i).take (j - i) := by
  simp [L, ByteArray.extract, ByteArray.copySlice, List.extract_eq_take_drop]
theorem bt_at (s : ByteArray) (i : Nat) (a : UInt8) (t : List UInt8) (h : (L s).drop i = a :: t) : bt? s (i : Int) = some (bi a) ∧ i < s.size ∧ (L s).drop (i + 1) = t := by
  have hi : i < (L s).length := by
    rcases Nat.lt_or_ge i (L s).length with h' | h'
    · exact h'
    · rw [List.drop_eq_nil_of_le h'] at h; simp at h
  rw [List.drop_eq_getElem_cons hi] at h
  obtain ⟨h1, h2⟩ := List.cons.inj h
  rw [L_len] at hi
  refine ⟨?_, hi, h2⟩
  unfold bt?
  rw [if_pos (by omega), Int.toNat_natCast, getElem?_pos s i hi]
  rw [← h1]; rfl
theorem bt_atI (s : ByteArray) (i : Int) (n : Nat) (hn : i = n) (a : UInt8) (t : List UInt8) (h : (L s).drop n = a :: t) : bt? s i = some (bi a) := by rw [hn]; exact (bt_at s n a t h).1
theorem drop_at (s : ByteArray) (i : Nat) (h : i < s.size) : ∃ a t, (L s).drop i = a :: t := by
  have hi : i < (L s).length := by rw [L_len]; exact h
  exact ⟨_, _, List.drop_eq_getElem_cons hi⟩
theorem drop_end (s : ByteArray) (i : Nat) (h : s.size ≤ i) : (L s).drop i = [] := by rw [List.drop_eq_nil_iff, L_len]; exact h
theorem drop_len (s : ByteArray) (i : Nat) (l : List UInt8) (h : (L s).drop i = l) (hi : i ≤ s.size) : s.size = i + l.length := by
  have := congrArg List.length h
  rw [List.length_drop, L_len] at this
  omega
@[simp] theorem bRows_append (a b : List UInt8) : bRows a ++ bRows b = bRows (a ++ b) := by simp [bRows]
@[simp] theorem bRows_nil : bRows [] = [] := rfl
@[simp] theorem bRows_len (a : List UInt8) : (bRows a).length = a.length := by simp [bRows]
@[simp] theorem sbBytes_rows : ∀ l : List UInt8, sbBytes (bRows l) = some l
  | [] => rfl
  | b :: l => by
    have hb := b.toNat_lt
    show (if (0 : Int) ≤ (b.toNat : Int) ∧ (b.toNat : Int) < 256 then (sbBytes (bRows l)).map (UInt8.ofNat (b.toNat : Int).toNat :: ·) else none) = some (b :: l)
    rw [if_pos ⟨by omega, by omega⟩, sbBytes_rows l]
    simp
end Go.Proofs.Ytihgpnfkadldeaa.AM
