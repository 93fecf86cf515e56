/- The law EditOrder on the small machine. No condition. -/
import Derived.Test.YtihgpnfkadldeaaAR40
import Derived.Test.YtihgpnfkadldeaaAT1
namespace Go.Proofs.Ytihgpnfkadldeaa.AM.EOrder
set_option linter.unusedSimpArgs false
set_option linter.unusedVariables false
open Go Go.Proofs.Ytihgpnfkadldeaa.U Go.Proofs.Ytihgpnfkadldeaa.AM
/-- Atoms of one coming, all of them code points. -/
def Atx (rv gr rk : Int) (l : List At) : Prop := okTx l ∧ ∀ a ∈ l, a.rv = rv ∧ a.gr = gr ∧ a.rk = rk ∧ a.cuts = []
theorem atx_new (s : List UInt8) (rv gr rk : Int) : Atx rv gr rk (newAts s rv gr rk) :=
  ⟨newAts_ok s rv gr rk, fun a ha => by
    obtain ⟨q1, q2, q3, q4, _⟩ := newAts_cuts ha
    exact ⟨q2, q3, q4, q1⟩⟩
section
variable {rv gr rk : Int} {l : List At} (H : Atx rv gr rk l)
include H
theorem Atx.vis (rev : Int) (u : List Int) : ∀ a ∈ l, a.vis rev u = (decide (rv ≤ rev) && holdsF gr u) := by
  intro a ha
  obtain ⟨q1, q2, q3, q4⟩ := H.2 a ha
  unfold At.vis
  rw [q1, q2, q4]
  simp
theorem Atx.txt (rev : Int) (u : List Int) (h : (decide (rv ≤ rev) && holdsF gr u) = true) : txtF rev u l = tl l := tl_all rev u l fun a ha => by rw [H.vis rev u a ha, h]
theorem Atx.non (rev : Int) (u : List Int) (h : (decide (rv ≤ rev) && holdsF gr u) = false) : txtF rev u l = [] := txtF_none rev u l fun a ha => by rw [H.vis rev u a ha, h]
theorem Atx.take (k : Nat) : Atx rv gr rk (l.take k) := ⟨fun a ha => H.1 a (List.mem_of_mem_take ha), fun a ha => H.2 a (List.mem_of_mem_take ha)⟩
theorem Atx.drop (k : Nat) : Atx rv gr rk (l.drop k) := ⟨fun a ha => H.1 a (List.mem_of_mem_drop ha), fun a ha => H.2 a (List.mem_of_mem_drop ha)⟩
theorem Atx.small : ∀ a ∈ l, a.txt.size ≤ 4 ∧ a.cuts = [] := fun a ha => ⟨(H.1.size a ha).2, (H.2 a ha).2.2.2⟩
theorem Atx.skN0 (rev rank : Int) (h : rv ≤ rev) : skN rev rank l = 0 := skN_zero rev rank l fun a ha => by rw [(H.2 a ha).1]; exact h
theorem Atx.skN1 (rev rank : Int) (h : rev < rv) (h2 : rk ≤ rank) (m : List At) : skN rev rank (l ++ m) = l.length + skN rev rank m := by
  induction l with
  | nil => simp
  | cons a l ih =>
    obtain ⟨q1, q2, q3, q4⟩ := H.2 a (by simp)
    rw [List.cons_append, skN, if_pos (by rw [q1, q3]; exact ⟨h, h2⟩), ih ⟨fun b hb => H.1 b (by simp [hb]), fun b hb => H.2 b (by simp [hb])⟩, List.length_cons]
    omega
theorem Atx.skN2 (rev rank : Int) (h2 : rank < rk) (m : List At) (hl : l ≠ []) : skN rev rank (l ++ m) = 0 := by
  cases l with
  | nil => exact absurd rfl hl
  | cons a l =>
    obtain ⟨q1, q2, q3, q4⟩ := H.2 a (by simp)
    rw [List.cons_append, skN, if_neg (by rw [q3]; omega)]
end
theorem three1 : clean (L ⟨#[60, 49, 62]⟩) = [60, 49, 62] ∧ points (L ⟨#[60, 49, 62]⟩) = [60, 49, 62] ∧ valid (L ⟨#[60, 49, 62]⟩) = true := by
  have e : L ⟨#[60, 49, 62]⟩ = encs [60, 49, 62] := by decide
  have h : ∀ v ∈ ([60, 49, 62] : List Int), sc v := by decide
  rw [e]
  refine ⟨?_, points_encs' _ h, valid_encs' _ h⟩
  unfold clean
  rw [points_encs' _ h]; decide
theorem three2 : clean (L ⟨#[60, 50, 62]⟩) = [60, 50, 62] ∧ points (L ⟨#[60, 50, 62]⟩) = [60, 50, 62] ∧ valid (L ⟨#[60, 50, 62]⟩) = true := by
  have e : L ⟨#[60, 50, 62]⟩ = encs [60, 50, 62] := by decide
  have h : ∀ v ∈ ([60, 50, 62] : List Int), sc v := by decide
  rw [e]
  refine ⟨?_, points_encs' _ h, valid_encs' _ h⟩
  unfold clean
  rw [points_encs' _ h]; decide
abbrev A1 : ByteArray := ⟨#[60, 49, 62]⟩
abbrev A2 : ByteArray := ⟨#[60, 50, 62]⟩
/-- Few atoms, and short. -/
def Sm (l : List At) : Prop := l.length < 1000 ∧ ∀ a ∈ l, a.txt.size ≤ 4 ∧ a.cuts = []
theorem Sm.fit {l : List At} (h : Sm l) : Fit2 l := fit2_of l (by have := h.1; omega) (fun a ha => by have := (h.2 a ha).1; omega) fun a ha => by rw [(h.2 a ha).2]; simp
theorem Sm.cuts {l : List At} (h : Sm l) : ∀ a ∈ l, a.cuts.length < 1000000 := fun a ha => by rw [(h.2 a ha).2]; simp
set_option maxHeartbeats 1000000 in
theorem order_plain (s : ByteArray) (hv : valid (L s) = true) (hs : s.size ≤ 60) (p : Nat) (he : edge s (p : Int) = true) (x y : Int) :
    ∃ m o, uponF (newAts (L s) 1 0 0) 1 [] [⟨p, p, A1⟩] 2 1 x = m ∧ uponF m 1 [] [⟨p, p, A2⟩] 3 2 y = o ∧ Sm (newAts (L s) 1 0 0) ∧ Sm m ∧ Sm o ∧
      txtS 3 [] o = s.extract 0 p ++ (if x ≤ y then ⟨#[60, 49, 62, 60, 50, 62]⟩ else ⟨#[60, 50, 62, 60, 49, 62]⟩) ++ s.extract p s.size ∧ txtS 3 [1] o = s.extract 0 p ++ A2 ++ s.extract p s.size := by
  have hl := atx_new (L s) 1 0 0
  have htl := tl_new (L s) 1 0 0
  rw [clean_of_valid _ hv] at htl
  have hll : (newAts (L s) 1 0 0).length ≤ 60 := by
    have := points_le (L s); rw [L_len] at this; rw [newAts_len]; omega
  obtain ⟨e0, e1, e2, e3⟩ := edge_split he
  rw [Int.toNat_natCast] at e2 e3
  generalize newAts (L s) 1 0 0 = l at *
  have hvis : ∀ a ∈ l, a.vis 1 [] = true := fun a ha => by rw [hl.vis 1 [] a ha]; rfl
  have hts : txtS 1 [] l = s := by unfold txtS; rw [hl.txt 1 [] rfl, htl]; exact mk_L s
  obtain ⟨k1, k2, k3⟩ := spot_edge 1 [] x l hvis hl.1 p (by rw [hts]; exact he)
  rw [Int.toNat_natCast, htl] at k2 k3
  have c1 : chk (txtS 1 [] l) [⟨p, p, A1⟩] = 0 := by
    rw [hts]
    exact chk_one s _ hv e0 (Int.le_refl _) e1 he he three1.2.2 (by omega) (show A1.size ≤ 10000 by decide)
  have u1 := upon_one l 1 [] p A1 2 1 x c1 _ rfl
  generalize hk : spotF 1 [] x l (places 1 [] l) p = k at *
  have hl1 := hl.take k
  have hl2 := hl.drop k
  have hn1 := atx_new (L A1) 2 1 x
  have hn2 := atx_new (L A2) 3 2 y
  have t1 := tl_new (L A1) 2 1 x
  have t2 := tl_new (L A2) 3 2 y
  rw [three1.1] at t1
  rw [three2.1] at t2
  have len1 : (newAts (L A1) 2 1 x).length = 3 := by rw [newAts_len, three1.2.1]; rfl
  have len2 : (newAts (L A2) 3 2 y).length = 3 := by rw [newAts_len, three2.2.1]; rfl
  have g1 : (l.take k).length ≤ 60 := by rw [List.length_take]; omega
  have g2 : (l.drop k).length ≤ 60 := by rw [List.length_drop]; omega
  generalize newAts (L A1) 2 1 x = N1 at *
  generalize hN2 : newAts (L A2) 3 2 y = N2 at *
  generalize l.take k = l1 at *
  generalize l.drop k = l2 at *
  have n1 : N1 ≠ [] := fun e => by rw [e] at len1; simp at len1
  have hLm : txtF 1 [] (l1 ++ N1 ++ l2) = L s := by
    rw [txtF_append, txtF_append, hl1.txt 1 [] rfl, hn1.non 1 [] rfl, hl2.txt 1 [] rfl, List.append_nil, k2, k3, List.take_append_drop]
  have htm : txtS 1 [] (l1 ++ N1 ++ l2) = s := by unfold txtS; rw [hLm]; exact mk_L s
  have c2 : chk (txtS 1 [] (l1 ++ N1 ++ l2)) [⟨p, p, A2⟩] = 0 := by
    rw [htm]
    exact chk_one s _ hv e0 (Int.le_refl _) e1 he he three2.2.2 (by omega) (show A2.size ≤ 10000 by decide)
  have hsp : spotF 1 [] y (l1 ++ (N1 ++ l2)) (places 1 [] (l1 ++ (N1 ++ l2))) p = l1.length + skN 1 y (N1 ++ l2) :=
    spotF_split 1 [] y l1 (N1 ++ l2) (fun a ha => ⟨by rw [hl1.vis 1 [] a ha]; rfl, (hl1.1.size a ha).1⟩) p (by
      rw [hl1.txt 1 [] rfl, k2, List.length_take, L_len]; omega)
  rw [← List.append_assoc] at hsp
  have sm : ∀ z : List At, z.length < 1000 → (∀ a ∈ z, a ∈ l1 ∨ a ∈ l2 ∨ a ∈ N1 ∨ a ∈ N2) → Sm z := fun z h1 h2 => ⟨h1, fun a ha => by
    rcases h2 a ha with h | h | h | h
    · exact hl1.small a h
    · exact hl2.small a h
    · exact hn1.small a h
    · exact hn2.small a h⟩
  have m1 : Sm (l1 ++ N1 ++ l2) := sm _ (by simp only [List.length_append]; omega) (fun a ha => by
    simp only [List.mem_append] at ha
    rcases ha with (h | h) | h <;> simp [h])
  refine ⟨l1 ++ N1 ++ l2, uponF (l1 ++ N1 ++ l2) 1 [] [⟨p, p, A2⟩] 3 2 y, u1, rfl, ⟨by omega, hl.small⟩, m1, ?_⟩
  have q1 : L (s.extract 0 p) = (L s).take p := by rw [L_extract, List.drop_zero, Nat.sub_zero]
  have q2 : L (s.extract p s.size) = (L s).drop p := by rw [L_extract, List.take_of_length_le (by rw [List.length_drop, L_len]; exact Nat.le_refl _)]
  have a2 : L A2 = [60, 50, 62] := L_mk _
  by_cases hxy : x ≤ y
  · rw [hn1.skN1 1 y (by omega) hxy, hl2.skN0 1 y (Int.le_refl _), Nat.add_zero] at hsp
    have hlen : (l1 ++ N1).length = l1.length + N1.length := List.length_append
    have u2 := upon_one (l1 ++ N1 ++ l2) 1 [] p A2 3 2 y c2 _ hsp
    rw [← hlen, List.take_left, List.drop_left, hN2] at u2
    rw [u2, if_pos hxy]
    refine ⟨sm _ (by simp only [List.length_append]; omega) (fun a ha => by
      simp only [List.mem_append] at ha
      rcases ha with ((h | h) | h) | h <;> simp [h]), L_inj ?_, L_inj ?_⟩
    · rw [show L (txtS 3 [] _) = _ from L_mk _, L_append, L_append, q1, q2, txtF_append, txtF_append, txtF_append, hl1.txt 3 [] rfl, hn1.txt 3 [] rfl, hn2.txt 3 [] rfl, hl2.txt 3 [] rfl, t1, t2, k2, k3, L_mk ([60, 49, 62, 60, 50, 62] : List UInt8)]
      simp
    · rw [show L (txtS 3 [1] _) = _ from L_mk _, L_append, L_append, q1, q2, txtF_append, txtF_append, txtF_append, hl1.txt 3 [1] (by decide), hn1.non 3 [1] (by decide), hn2.txt 3 [1] (by decide), hl2.txt 3 [1] (by decide), t2, k2, k3, a2]
      simp
  · rw [hn1.skN2 1 y (by omega) _ n1, Nat.add_zero] at hsp
    have u2 := upon_one (l1 ++ N1 ++ l2) 1 [] p A2 3 2 y c2 _ hsp
    rw [List.append_assoc, List.take_left, List.drop_left, hN2] at u2
    rw [List.append_assoc, u2, if_neg hxy]
    refine ⟨sm _ (by simp only [List.length_append]; omega) (fun a ha => by
      simp only [List.mem_append] at ha
      rcases ha with (h | h) | h | h <;> simp [h]), L_inj ?_, L_inj ?_⟩
    · rw [show L (txtS 3 [] _) = _ from L_mk _, L_append, L_append, q1, q2, txtF_append, txtF_append, txtF_append, hl1.txt 3 [] rfl, hn1.txt 3 [] rfl, hn2.txt 3 [] rfl, hl2.txt 3 [] rfl, t1, t2, k2, k3, L_mk ([60, 50, 62, 60, 49, 62] : List UInt8)]
      simp
    · rw [show L (txtS 3 [1] _) = _ from L_mk _, L_append, L_append, q1, q2, txtF_append, txtF_append, txtF_append, hl1.txt 3 [1] (by decide), hn1.non 3 [1] (by decide), hn2.txt 3 [1] (by decide), hl2.txt 3 [1] (by decide), t2, k2, k3, a2]
      simp
end Go.Proofs.Ytihgpnfkadldeaa.AM.EOrder
namespace Go.Proofs.Ytihgpnfkadldeaa.editOrder
set_option linter.unusedSimpArgs false
set_option linter.unusedVariables false
open Go Go.Proofs.Ytihgpnfkadldeaa.U Go.Proofs.Ytihgpnfkadldeaa.AM Go.Proofs.Ytihgpnfkadldeaa.AM.EOrder
def shapes : List PSh := [.one (.tx), .one (.i .u8), .one (.i .u8), .one (.i .u8)]
/-- The law's rest, for any texts in the place of its own. -/
def Tail (C1 C2 C3 C4 : ByteArray) : ACode := .seq (.reg [⟨some 44, .mv (t 9), none⟩, ⟨some 45, .mv (t 10), none⟩, ⟨some 46, .mv (t 10), none⟩, ⟨some 47, .bld [pi 0, pi 0, pS #[]] [(0, 1, t 45), (1, 1, t 46), (2, 1, X.c (.p (.sc (.string C3))))], none⟩, ⟨some 48, .bsl 63 3 [[pi 0, pi 0, pS #[]]] [(0, t 47)], none⟩, ⟨some 49, .mv (t 11), none⟩, ⟨some 50, .cl 42 [t 44, I 1, X.c (.xs 1 []), t 48, I 2, I 1, t 49], none⟩, ⟨some 13, .mv (t 50), none⟩] [0, 10, 11, 12, 13]) (.seq (.reg [⟨some 51, .mv (t 13), none⟩, ⟨some 52, .mv (t 10), none⟩, ⟨some 53, .mv (t 10), none⟩, ⟨some 54, .bld [pi 0, pi 0, pS #[]] [(0, 1, t 52), (1, 1, t 53), (2, 1, X.c (.p (.sc (.string C4))))], none⟩, ⟨some 55, .bsl 63 3 [[pi 0, pi 0, pS #[]]] [(0, t 54)], none⟩, ⟨some 56, .mv (t 12), none⟩, ⟨some 57, .cl 42 [t 51, I 1, X.c (.xs 1 []), t 55, I 3, I 2, t 56], none⟩, ⟨some 14, .mv (t 57), none⟩] [0, 10, 11, 12, 14]) (.seq (.reg [⟨some 58, .mv (t 0), none⟩, ⟨some 59, .mv (t 10), none⟩, ⟨some 60, .sls (t 58) none (some (t 59)), none⟩, ⟨some 61, .s2 (.bin .add) (t 60) (X.c (.p (.sc (.string C1)))), none⟩, ⟨some 62, .mv (t 0), none⟩, ⟨some 63, .mv (t 10), none⟩, ⟨some 64, .sls (t 62) (some (t 63)) none, none⟩, ⟨some 65, .s2 (.bin .add) (t 61) (t 64), none⟩, ⟨some 15, .mv (t 65), none⟩] [0, 10, 11, 12, 14, 15]) (.seq (.seq (.reg [⟨some 66, .mv (t 11), none⟩, ⟨some 67, .mv (t 12), none⟩, ⟨some 68, .s2 (.bin .gtr) (t 66) (t 67), none⟩] [0, 10, 14, 15, 68]) (.ite (t 68) (.reg [⟨some 69, .mv (t 0), none⟩, ⟨some 70, .mv (t 10), none⟩, ⟨some 71, .sls (t 69) none (some (t 70)), none⟩, ⟨some 72, .s2 (.bin .add) (t 71) (X.c (.p (.sc (.string C2)))), none⟩, ⟨some 73, .mv (t 0), none⟩, ⟨some 74, .mv (t 10), none⟩, ⟨some 75, .sls (t 73) (some (t 74)) none, none⟩, ⟨some 76, .s2 (.bin .add) (t 72) (t 75), none⟩, ⟨some 15, .mv (t 76), none⟩] [0, 10, 14, 15]) .skip)) (.seq (.reg [⟨some 77, .mv (t 14), none⟩, ⟨some 78, .cl 28 [t 77, I 3, X.c (.xs 1 [])], none⟩, ⟨some 79, .mv (t 15), none⟩, ⟨some 80, .s2 (.bin .eql) (t 78) (t 79), none⟩, ⟨some 81, .mv (t 80), none⟩, ⟨some 82, .mv (t 14), some (81, true)⟩, ⟨some 83, .bsl 3 1 [[pi 0]] [(0, I 1)], some (81, true)⟩, ⟨some 84, .cl 28 [t 82, I 3, t 83], some (81, true)⟩, ⟨some 85, .mv (t 0), some (81, true)⟩, ⟨some 86, .mv (t 10), some (81, true)⟩, ⟨some 87, .sls (t 85) none (some (t 86)), some (81, true)⟩, ⟨some 88, .s2 (.bin .add) (t 87) (X.c (.p (.sc (.string C4)))), some (81, true)⟩, ⟨some 89, .mv (t 0), some (81, true)⟩, ⟨some 90, .mv (t 10), some (81, true)⟩, ⟨some 91, .sls (t 89) (some (t 90)) none, some (81, true)⟩, ⟨some 92, .s2 (.bin .add) (t 88) (t 91), some (81, true)⟩, ⟨some 93, .s2 (.bin .eql) (t 84) (t 92), some (81, true)⟩, ⟨some 94, .pick (t 81) (t 93) (B false), none⟩, ⟨some 8, .mv (t 94), none⟩] [8]) .ret))))
theorem tail_eq : tailN 7 A_law18_EditOrder.body = Tail ⟨#[60, 49, 62, 60, 50, 62]⟩ ⟨#[60, 50, 62, 60, 49, 62]⟩ ⟨#[60, 49, 62]⟩ ⟨#[60, 50, 62]⟩ := rfl
set_option maxHeartbeats 8000000 in
set_option maxRecDepth 10000 in
theorem tail (C1 C2 C3 C4 : ByteArray) (z1 : C1.size ≤ 6) (z2 : C2.size ≤ 6) (z3 : C4.size ≤ 6) (s : ByteArray) (c0 : s.size ≤ 60) (p : Nat) (hp : p ≤ s.size) (x y : Nat) (l m o : List At)
    (d4 : Run EW 42 [.sl 5 (ats l), pi 1, .sl 1 [], .sl 3 [[pi p, pi p, .sc (.string C3)]], pi 2, pi 1, pi x] = some (.own 31 5 (ats m)))
    (d5 : Run EW 42 [.sl 5 (ats m), pi 1, .sl 1 [], .sl 3 [[pi p, pi p, .sc (.string C4)]], pi 3, pi 2, pi y] = some (.own 31 5 (ats o)))
    (d6 : Run EW 28 [.sl 5 (ats o), pi 3, .sl 1 []] = some (.val (.sc (.string (s.extract 0 p ++ (if (x : Int) ≤ y then C1 else C2) ++ s.extract p s.size)))))
    (d7 : Run EW 28 [.sl 5 (ats o), pi 3, .sl 1 [[pi 1]]] = some (.val (.sc (.string (s.extract 0 p ++ C4 ++ s.extract p s.size)))))
    (v9 : SV) (h9 : List (Nat × Ob)) (h : (v9 = .p (.sl 5 []) ∧ h9 = [] ∧ l = []) ∨ (v9 = .ms 9 0 l.length ∧ h9 = [(9, .row 31 5 false (ats l))])) :
    runC A_law18_EditOrder (AM.Code EW (Tail C1 C2 C3 C4) ⟨[(0, .p (.sc (.string s))), (9, v9), (10, .p (pi p)), (11, .p (pi x)), (12, .p (pi y))], h9⟩) = some (.val (.sc (.bool true))) := by
  have tk0 := ats_take l
  have tk1 := ats_take m
  have tk2 := ats_take o
  have hfin : ∀ q : St, finish A_law18_EditOrder q = finish ⟨4, 95, [.t 8], .skip⟩ q := fun _ => rfl
  have hrun : ∀ q, runC A_law18_EditOrder q = runC ⟨4, 95, [.t 8], .skip⟩ q := fun q => by
    cases q with
    | none => rfl
    | some q => obtain ⟨a, b⟩ := q; cases a <;> rfl
  rw [hrun]
  rcases h with ⟨rfl, rfl, rfl⟩ | ⟨rfl, rfl⟩
  · rw [ats_nil] at d4
    by_cases hxy : (x : Int) ≤ y
    · rw [if_pos hxy] at d6
      simp (disch := omega) [Tail, c0, d4, d5, d6, d7, hp, tk1, tk2, if_yes, dec_yes, dec_no]
    · rw [if_neg hxy] at d6
      simp (disch := omega) [Tail, c0, d4, d5, d6, d7, hp, tk1, tk2, if_yes, dec_yes, dec_no]
  · by_cases hxy : (x : Int) ≤ y
    · rw [if_pos hxy] at d6
      simp (disch := omega) [Tail, c0, d4, d5, d6, d7, hp, tk0, tk1, tk2, if_yes, dec_yes, dec_no]
    · rw [if_neg hxy] at d6
      simp (disch := omega) [Tail, c0, d4, d5, d6, d7, hp, tk0, tk1, tk2, if_yes, dec_yes, dec_no]
set_option maxHeartbeats 8000000 in
set_option maxRecDepth 10000 in
theorem law (xs : List PV) (h : WTAs shapes xs) : Run EW 11 xs = some (.val (.sc (.bool true))) := by
  cases h with
  | cons h1 h => cases h with
  | cons h2 h => cases h with
  | cons h3 h => cases h with
  | cons h4 h =>
  cases h
  obtain ⟨s, rfl, hs⟩ := wt_str h1
  obtain ⟨w, rfl⟩ := wt_byte h2
  obtain ⟨a, rfl⟩ := wt_byte h3
  obtain ⟨b, rfl⟩ := wt_byte h4
  clear h1 h2 h3 h4
  have hk : Run EW 34 [] = some (.val (pb true)) := known18
  rw [show Run EW 11 [.sc (.string s), .sc (.int .u8 w.toNat), .sc (.int .u8 a.toNat), .sc (.int .u8 b.toNat)] = _ from run_fn _ A_law18_EditOrder _ rfl rfl rfl, ← show EW = EX cpF from rfl]
  by_cases c0 : s.size ≤ 60
  case neg => simp (disch := omega) [A_law18_EditOrder, hk, c0, dec_yes, dec_no]
  have d1 : Run EW 47 _ = _ := refValid (cp := cpF) s (by omega)
  by_cases c1 : valid (L s) = true
  case neg =>
    rw [Bool.not_eq_true] at c1
    rw [c1] at d1
    simp (disch := omega) [A_law18_EditOrder, hk, c0, d1, dec_yes, dec_no]
  rw [c1] at d1
  have d2 : Run EW 30 [.sl 5 [], pi 0, .sc (.string s), pi 1, pi 0, pi 0] = _ := refPut [] 0 s 1 0 0 (by simp) (by simp) (by omega)
  rw [putL_nil] at d2
  obtain ⟨p, hpd⟩ : ∃ p, p = w.toNat % (s.size + 1) := ⟨_, rfl⟩
  have hp : p ≤ s.size := by have : p < s.size + 1 := by rw [hpd]; exact Nat.mod_lt _ (by omega)
                             omega
  have htm : (w.toNat : Int).tmod ((s.size : Int) + 1) = (p : Int) := by
    have := tmod_nat w.toNat (s.size + 1)
    rw [← hpd] at this; exact this
  have hbb := w.toNat_lt
  have hw : IntKind.wrap .i64 (w.toNat : Int) = (w.toNat : Int) := wrap_in _ (by omega) (by omega)
  have hw2 : IntKind.wrap .i64 ((s.size : Int) + 1) = (s.size : Int) + 1 := wrap_in _ (by omega) (by omega)
  have hne : ¬ ((s.size : Int) + 1 = 0) := by omega
  have d3 : Run EW 48 _ = _ := refIsEdge (cp := cpF) s p (by omega)
  have mod4 : ∀ q : UInt8, ∃ y : Nat, y < 4 ∧ (q.toNat : Int).tmod 4 = (y : Int) ∧ IntKind.wrap .i64 (y : Int) = (y : Int) := fun q => by
    refine ⟨q.toNat % 4, Nat.mod_lt _ (by omega), tmod_nat _ 4, ?_⟩
    have := Nat.mod_lt q.toNat (show 0 < 4 by omega)
    exact wrap_in _ (by omega) (by omega)
  obtain ⟨x, x0, x1, x2⟩ := mod4 a
  obtain ⟨y, y0, y1, y2⟩ := mod4 b
  by_cases c2 : edge s p = true
  case neg =>
    rw [Bool.not_eq_true] at c2
    rw [c2] at d3
    by_cases e0 : newAts (L s) 1 0 0 = []
    · rw [e0, show putR [] = Ret.val (.sl 5 []) from rfl] at d2
      simp (disch := omega) [A_law18_EditOrder, hk, c0, d1, d2, d3, htm, hw, hw2, hne, dec_yes, dec_no]
    · rw [show putR (newAts (L s) 1 0 0) = Ret.own 31 5 (ats (newAts (L s) 1 0 0)) from if_neg e0] at d2
      simp (disch := omega) [A_law18_EditOrder, hk, c0, d1, d2, d3, htm, hw, hw2, hne, dec_yes, dec_no]
  rw [c2] at d3
  obtain ⟨m, o, u1, u2, s0, s1, s2, t1, t2⟩ := order_plain s c1 c0 p c2 x y
  have d4 : Run EW 42 [.sl 5 (ats (newAts (L s) 1 0 0)), pi 1, .sl 1 [], .sl 3 [[pi p, pi p, pS #[60, 49, 62]]], pi 2, pi 1, pi x] = _ := editUpon (cp := cpF) _ 1 [] [⟨p, p, A1⟩] 2 1 x s0.fit (by have := s0.1; omega) s0.cuts (by simp) (by simp) (fun c hc => by rw [List.mem_singleton] at hc; subst hc; exact (show A1.size < 1000000 by rw [show A1.size = 3 from rfl]; omega))
  rw [u1] at d4
  have d5 : Run EW 42 [.sl 5 (ats m), pi 1, .sl 1 [], .sl 3 [[pi p, pi p, pS #[60, 50, 62]]], pi 3, pi 2, pi y] = _ := editUpon (cp := cpF) _ 1 [] [⟨p, p, A2⟩] 3 2 y s1.fit (by have := s1.1; omega) s1.cuts (by simp) (by simp) (fun c hc => by rw [List.mem_singleton] at hc; subst hc; exact (show A2.size < 1000000 by rw [show A2.size = 3 from rfl]; omega))
  rw [u2] at d5
  have d6 : Run EW 28 [.sl 5 (ats o), pi 3, .sl 1 []] = _ := refText (cp := cpF) o 3 [] s2.fit.fit (by simp)
  have d7 : Run EW 28 [.sl 5 (ats o), pi 3, .sl 1 [[pi 1]]] = _ := refText (cp := cpF) o 3 [1] s2.fit.fit (by simp)
  rw [t1] at d6
  rw [t2] at d7
  have tl := tail ⟨#[60, 49, 62, 60, 50, 62]⟩ ⟨#[60, 50, 62, 60, 49, 62]⟩ ⟨#[60, 49, 62]⟩ ⟨#[60, 50, 62]⟩ (Nat.le_refl 6) (Nat.le_refl 6) (by rw [show (⟨#[60, 50, 62]⟩ : ByteArray).size = 3 from rfl]; omega) s c0 p hp x y (newAts (L s) 1 0 0) m o d4 d5 d6 d7
  rw [← tail_eq] at tl
  clear u1 u2 t1 t2 s0 s1 s2 d4 d5 d6 d7
  by_cases e0 : newAts (L s) 1 0 0 = []
  · have := tl _ _ (Or.inl ⟨rfl, rfl, e0⟩)
    rw [e0, show putR [] = Ret.val (.sl 5 []) from rfl] at d2
    rw [← this]
    congr 1
    refine split_code _ 7 _ _ _ ?_
    simp (disch := omega) [A_law18_EditOrder, headN, hk, c0, d1, d2, d3, htm, hw, hw2, hne, x1, x2, y1, y2, dec_yes, dec_no]
  · have := tl _ _ (Or.inr ⟨rfl, rfl⟩)
    rw [show putR (newAts (L s) 1 0 0) = Ret.own 31 5 (ats (newAts (L s) 1 0 0)) from if_neg e0] at d2
    rw [← this]
    congr 1
    refine split_code _ 7 _ _ _ ?_
    clear tl this
    generalize newAts (L s) 1 0 0 = l at *
    simp (disch := omega) [A_law18_EditOrder, headN, hk, c0, d1, d2, d3, htm, hw, hw2, hne, x1, x2, y1, y2, dec_yes, dec_no]
end Go.Proofs.Ytihgpnfkadldeaa.editOrder
