/- The law RopeEmpty on the small machine. No condition. -/
import Derived.Test.YtomnggbideepeaaQ10
import Derived.Test.YtomnggbideepeaaAT1
import Derived.Test.YtomnggbideepeaaRW
namespace Go.Proofs.Ytomnggbideepeaa.ropeEmpty
set_option linter.unusedSimpArgs false
set_option linter.unusedVariables false
open Go Go.Proofs.Ytomnggbideepeaa.U Go.Proofs.Ytomnggbideepeaa.AM
def shapes : List PSh := [.one (.i .i64)]
theorem clean_none : cleanS ⟨#[]⟩ = ⟨#[]⟩ := by
  unfold cleanS
  rw [show L ⟨#[]⟩ = [] from rfl]
  unfold clean
  rw [points_nil]; rfl
theorem clean_a : (cleanS ⟨#[97]⟩).size = 1 := by
  have e : L ⟨#[97]⟩ = encs [97] := by decide
  have h : ∀ v ∈ ([97] : List Int), sc v := by decide
  have : L (cleanS ⟨#[97]⟩) = clean (L ⟨#[97]⟩) := L_mk _
  rw [← L_len, this, e]
  unfold clean
  rw [points_encs' _ h]; decide
theorem edge_zero (k : Int) : edge ⟨#[]⟩ k = decide (k = 0) := by
  rw [edge_off (s := ⟨#[]⟩) valid_nil k (by rw [show ((⟨#[]⟩ : ByteArray).size : Int) = 0 from rfl]; omega)]
  rfl
set_option maxHeartbeats 4000000 in
theorem law (xs : List PV) (h : WTAs shapes xs) : Run EA 4 xs = some (.val (.sc (.bool true))) := by
  cases h with
  | cons h1 h =>
  cases h
  obtain ⟨n, rfl, _⟩ := wt_int h1
  clear h1
  have hk : Run EA 19 [] = some (.val (pb true)) := known4
  rw [show Run EA 4 [pi n] = _ from run_fn _ A_law4_RopeEmpty _ rfl rfl rfl, ← show EA = EX cpA from rfl]
  have hz : (⟨#[]⟩ : ByteArray).size = 0 := rfl
  rcases ropeNew (cp := cpA) ⟨#[]⟩ (by rw [hz]; omega) with ⟨h2, _⟩ | ⟨_, r, hr, d1⟩
  · rw [clean_none, hz] at h2; omega
  rw [clean_none] at hr
  have d2 := ropeByteNo (cp := cpA) hr n (by rw [hz]; omega)
  have hc0 : chkR ⟨#[]⟩ 0 0 = 0 := by
    unfold chkR
    rw [if_neg (by rw [hz]; omega), edge_zero, if_pos ⟨rfl, rfl⟩]
  obtain ⟨X, hX⟩ : ∃ X, X = replS ⟨#[]⟩ 0 0 ⟨#[97]⟩ := ⟨_, rfl⟩
  have hX1 : X.size = 1 := by
    have := replS_size (s := ⟨#[]⟩) (t := ⟨#[97]⟩) (a := 0) (b := 0) (by omega) (by omega) (by rw [hz]; omega)
    rw [clean_a, hz] at this
    rw [hX]; omega
  rcases ropeReplace (cp := cpA) hr (by rw [hz]; omega) 0 0 ⟨#[97]⟩ (by rw [show (⟨#[97]⟩ : ByteArray).size = 1 from rfl]; omega) with ⟨h3, _⟩ | ⟨_, h3, _⟩ | ⟨_, _, x, hx, d3⟩
  · exact absurd hc0 h3
  · rw [← hX, hX1] at h3; omega
  rw [← hX] at hx
  have he1 : edge X 1 = true := by
    rw [edge_off hx.val 1 (by rw [hX1]; omega), hX1]; rfl
  have hc1 : chkR X 1 1 = 0 := by
    unfold chkR
    rw [if_neg (by rw [hX1]; omega), if_pos ⟨he1, he1⟩]
  rcases ropeSlice (cp := cpA) hx 1 1 with ⟨h4, _⟩ | ⟨_, y, hy, d4⟩
  · exact absurd hc1 h4
  have hye : X.extract (1 : Int).toNat (1 : Int).toNat = ⟨#[]⟩ := by
    refine empty_eq ?_
    show (X.extract 1 1).size = 0
    rw [ByteArray.size_extract]; omega
  rw [hye] at hy
  have d5 := ropeSame cpA_all hy hr
  rw [decide_eq_true rfl] at d5
  have d6 := ropeSameNil (cp := cpA) hr
  rw [hz, decide_eq_true rfl] at d6
  have d7 := ropeSameNil (cp := cpA) hx
  rw [hX1, decide_eq_false (by omega)] at d7
  have d8 := ropeIsEdge (cp := cpA) hr n
  rw [edge_zero] at d8
  have d9 := ropeLen (cp := cpA) hr
  rw [hz, show ((0 : Nat) : Int) = 0 from rfl] at d9
  rw [show EX cpA = EA from rfl] at *
  by_cases c : n = 0
  · subst c
    rcases ropeSlice (cp := cpA) hr 0 0 with ⟨h4, _⟩ | ⟨_, z, hz2, d10⟩
    · exact absurd hc0 h4
    rw [show EX cpA = EA from rfl] at d10
    simp (disch := omega) [A_law4_RopeEmpty, hk, d1, d2, d3, d4, d5, d6, d7, d8, d9, d10]
  · have hc2 : chkR ⟨#[]⟩ n n = 10 := by
      unfold chkR
      rw [if_pos (by rw [hz]; omega)]
    rcases ropeSlice (cp := cpA) hr n n with ⟨_, d10⟩ | ⟨h4, _⟩
    · rw [hc2, show EX cpA = EA from rfl] at d10
      simp (disch := omega) [A_law4_RopeEmpty, hk, d1, d2, d3, d4, d5, d6, d7, d8, d9, d10, c]
    · rw [hc2] at h4; omega
end Go.Proofs.Ytomnggbideepeaa.ropeEmpty
