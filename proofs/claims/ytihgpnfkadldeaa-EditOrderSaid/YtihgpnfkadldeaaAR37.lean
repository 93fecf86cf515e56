/- What Upon makes: how much it is. Few atoms make little text. No condition. -/
import Derived.Test.YtihgpnfkadldeaaAR36
namespace Go.Proofs.Ytihgpnfkadldeaa.AM
set_option linter.unusedSimpArgs false
set_option linter.unusedVariables false
open Go Go.Proofs.Ytihgpnfkadldeaa.U
theorem mrg_mem (now gr rk : Int) (z : List At) : ∀ (sp : List Int) (c : List Ch) (k : Nat), ∀ a ∈ mrg now gr rk z sp c k, a ∈ z ∨ ∃ x ∈ c, a ∈ newAts (L x.s) now gr rk
  | [], c, k, a, h => by
    have : mrg now gr rk z [] c k = z.drop k := by cases c <;> rfl
    rw [this] at h; exact Or.inl (List.mem_of_mem_drop h)
  | s :: sp, [], k, a, h => Or.inl (List.mem_of_mem_drop h)
  | s :: sp, x :: c, k, a, h => by
    rw [mrg] at h
    simp only [List.mem_append] at h
    rcases h with (h | h) | h
    · exact Or.inl (List.mem_of_mem_drop (List.mem_of_mem_take h))
    · exact Or.inr ⟨x, by simp, h⟩
    · rcases mrg_mem now gr rk z sp c _ a h with h | ⟨y, hy, h⟩
      · exact Or.inl h
      · exact Or.inr ⟨y, by simp [hy], h⟩
theorem newAts_cuts {s : List UInt8} {rv gr rk : Int} {a : At} (h : a ∈ newAts s rv gr rk) : a.cuts = [] ∧ a.rv = rv ∧ a.gr = gr ∧ a.rk = rk ∧ 1 ≤ a.txt.size ∧ a.txt.size ≤ 4 := by
  obtain ⟨v, hv, rfl⟩ := List.mem_map.1 h
  have : (chS v).size = (enc v).length := size_mk _
  have h2 := enc_len v
  refine ⟨rfl, rfl, rfl, rfl, ?_, ?_⟩
  · show 1 ≤ (chS v).size; omega
  · show (chS v).size ≤ 4; omega
theorem uponF_bd (l : List At) (rev : Int) (u : List Int) (c : List Ch) (now gr rk : Int) (M m : Nat) (hc : ∀ a ∈ l, a.cuts.length < M) (hcs : ∀ x ∈ c, x.s.size ≤ m) :
    (uponF l rev u c now gr rk).length ≤ l.length + m * c.length ∧ ∀ a ∈ uponF l rev u c now gr rk, a.cuts.length < M + l.length + 1 := by
  have h2 := cutsF_mem l rev u c
  have hcn : (cutsF l rev u c).length ≤ l.length := by
    unfold cutsF
    split
    · exact cutsI_len rev u c l _ 0
    · simp
  have hup : Up l.length (spotsF l rev u c rk) 0 := by
    by_cases c0 : chk (txtS rev u l) c = 0
    · exact up_spotsF l rev u c rk c0
    · unfold spotsF; rw [if_neg c0]; exact Nat.zero_le _
  rw [uponF_eq]
  have h3 := cutIs_len now gr (cutsF l rev u c) l
  have h4 := cutIs_mem now gr (cutsF l rev u c) l M hc
  generalize cutIs now gr (cutsF l rev u c) l = z at *
  constructor
  · have := mrg_len now gr rk z m (spotsF l rev u c rk) c 0 hcs (by rw [h3]; exact hup)
    omega
  · intro a ha
    rcases mrg_mem now gr rk z _ c 0 a ha with h | ⟨x, hx, h⟩
    · have := h4 a h; omega
    · rw [(newAts_cuts h).1]; simp
theorem sumT_le (m : Nat) : ∀ z : List At, (∀ a ∈ z, a.txt.size ≤ m) → sumT z ≤ m * z.length := by
  intro z
  induction z with
  | nil => intro _; simp [sumT]
  | cons a z ih =>
    intro h
    rw [sumT_cons, List.length_cons, Nat.mul_succ]
    have h1 := h a (by simp)
    have h2 := ih fun b hb => h b (by simp [hb])
    omega
/-- Atoms that are few, and short. -/
theorem fit2_of (l : List At) (hl : l.length < 1000000) (ht : ∀ a ∈ l, a.txt.size ≤ 1000) (hc : ∀ a ∈ l, a.cuts.length < 1000000) : Fit2 l :=
  ⟨⟨by omega, by have := sumT_le 1000 l ht; omega, fun a ha => by have := hc a ha; omega⟩, by have := sumT_le 1000 l ht; omega⟩
end Go.Proofs.Ytihgpnfkadldeaa.AM
