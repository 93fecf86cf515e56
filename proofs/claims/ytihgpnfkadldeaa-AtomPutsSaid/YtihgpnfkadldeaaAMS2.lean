/- (*strings.Builder).String, walked over this program for the small machine. No condition. -/
import Derived.Test.YtihgpnfkadldeaaAM15
import Derived.Test.YtihgpnfkadldeaaProg
import Derived.WalkKit
import Derived.Shelf.RegionOpenPlain
import Derived.ProofKit
import Derived.Lib.Builder
import Derived.Lib.AppendStr
import Derived.Lib.UnsafeStr
import Derived.Lib.FrozenHead
namespace Go.Proofs.Ytihgpnfkadldeaa.AM
open Go.RowKit
set_option linter.unusedVariables false
set_option linter.unusedSimpArgs false


theorem frz_other (w : World) (g n k : Nat) (h : k ≠ g) : (w.freeze ⟨g, 0, none⟩ n).heap[k]? = w.heap[k]? := by
  unfold World.freeze
  split
  · rfl
  · simp [Array.getElem?_modify, Ne.symm h]
theorem sb_bytes1 : Try.prog.cellsOf 5 = 1 := by kernel_rfl
set_option maxHeartbeats 4000000 in
set_option maxRecDepth 100000 in
theorem sbString : SbString Try.prog 78 5 63 := by
  intro B b p v l w hB hBw hp hg hown hne
  have mixed : Try.prog.follows .mixedOrders = true := by kernel_rfl
  have hlt : b < w.heap.size := (Array.getElem?_eq_some_iff.1 hg).1
  rcases hown.2 with ⟨rfl, hz⟩ | ⟨g, cap, cur, rfl, hbg, hgg, hnc, hcm, hcs, htake⟩
  · have hl : l = [] := List.eq_nil_of_length_eq_zero hz
    subst hl
    have hUS : ∀ q W, (Builtin.unsafeString_ #[97, 3] 9 #[.pointer q, .int .i64 0]).run Try.prog W = .ok (.string .empty) W := fun q W => Lib.run_unsafeString_none W _ _ _ q
    have c1 : w.drew.cell? ⟨b, 1, none⟩ = some (.slice none 0 0) := by
      have : w.drew.heap[b]? = some (.cells #[p, .slice none 0 0] 78 (0, 0)) := hg
      rw [Lib.cell_of_heap this]; rfl
    have hSD : (Builtin.unsafeSliceData_ #[37] 97 #[.slice none 0 0]).run Try.prog w.drew = .ok (.pointer none) w.drew := rfl
    go_enter Try.func63, Try.ntmps63
    go_wp2
    go_region_o
    all_goals (go_wp2; go_ret; exact ⟨rfl, Below.drew (Below.refl B w), fun k _ _ => rfl⟩)
  · by_cases h0 : l = []
    · subst h0
      have hUS : ∀ q W, (Builtin.unsafeString_ #[97, 3] 9 #[.pointer q, .int .i64 0]).run Try.prog W = .ok (.string .empty) W := fun q W => Lib.run_unsafeString_none W _ _ _ q
      have c1 : w.drew.cell? ⟨b, 1, none⟩ = some (.slice (some ⟨g, 0, none⟩) 0 cap) := by
        have : w.drew.heap[b]? = some (.cells #[p, .slice (some ⟨g, 0, none⟩) 0 cap] 78 (0, 0)) := hg
        rw [Lib.cell_of_heap this]; rfl
      by_cases hc0 : cap = 0
      · subst hc0
        have hSD : (Builtin.unsafeSliceData_ #[37] 97 #[.slice (some ⟨g, 0, none⟩) 0 0]).run Try.prog w.drew = .ok (.pointer (some ⟨w.drew.heap.size, 0, none⟩)) (w.drew.alloc (.view ⟨g, 0, none⟩ 5)) :=
          Lib.run_unsafeSliceData_zero w.drew _ _ 5 Try.underlying97 ⟨g, 0, none⟩ 0 (5, cur.size) (by have hg' : w.drew.heap[g]? = some (.cells cur 5 (0, 0)) := hgg; simp [World.shape?, hg'])
        have c2 : (w.drew.alloc (.view ⟨g, 0, none⟩ 5)).cell? ⟨b, 1, none⟩ = some (.slice (some ⟨g, 0, none⟩) 0 0) := by
          have : (w.drew.alloc (.view ⟨g, 0, none⟩ 5)).heap[b]? = _ := (Lib.alloc_old w.drew _ b hlt).trans hg
          rw [Lib.cell_of_heap this]; rfl
        have c3 : (w.alloc (.view ⟨g, 0, none⟩ 5)).drew.cell? ⟨b, 1, none⟩ = some (.slice (some ⟨g, 0, none⟩) 0 0) := c2
        have c0 : w.cell? ⟨b, 1, none⟩ = some (.slice (some ⟨g, 0, none⟩) 0 0) := c1
        go_enter Try.func63, Try.ntmps63
        go_wp2
        go_region_o
        all_goals (go_wp2; go_ret; exact ⟨rfl, (Below.drew (Below.refl B w)).alloc hBw _, fun k hk _ => Lib.alloc_old _ _ k hk⟩)
      · have hSD : (Builtin.unsafeSliceData_ #[37] 97 #[.slice (some ⟨g, 0, none⟩) 0 cap]).run Try.prog w.drew = .ok (.pointer (some ⟨g, 0, none⟩)) w.drew :=
          Lib.run_unsafeSliceData_row _ _ _ _ _ _ hc0
        clear hc0
        go_enter Try.func63, Try.ntmps63
        go_wp2
        go_region_o
        all_goals (go_wp2; go_ret; exact ⟨rfl, Below.drew (Below.refl B w), fun k _ _ => rfl⟩)
    · have hl0 : l.length ≠ 0 := by simpa using h0
      have c1 : w.drew.cell? ⟨b, 1, none⟩ = some (.slice (some ⟨g, 0, none⟩) l.length cap) := by
        have : w.drew.heap[b]? = some (.cells #[p, .slice (some ⟨g, 0, none⟩) l.length cap] 78 (0, 0)) := hg
        rw [Lib.cell_of_heap this]; rfl
      have hSD : (Builtin.unsafeSliceData_ #[37] 97 #[.slice (some ⟨g, 0, none⟩) l.length cap]).run Try.prog w.drew = .ok (.pointer (some ⟨g, 0, none⟩)) w.drew :=
        Lib.run_unsafeSliceData_row _ _ _ _ _ _ (by omega)
      have hUS : (Builtin.unsafeString_ #[97, 3] 9 #[.pointer (some ⟨g, 0, none⟩), .int .i64 l.length]).run Try.prog w.drew = .ok (.string ⟨l.toArray⟩) (w.drew.freeze ⟨g, 0, none⟩ l.length) := by
        refine Lib.run_unsafeString_row w.drew 97 3 9 5 Try.underlying97 sb_bytes1 g cur.size (by have hg' : w.drew.heap[g]? = some (.cells cur 5 (0, 0)) := hgg; simp [World.shape?, hg']) l h0 (by omega) (by unfold maxLen at hcm; omega) ?_
        intro j x hx
        have h1 := cell_of_row w g j cur 5 (0, 0) hgg
        have h2 : cur[j]? = some (Value.int .u8 x.toNat) := by
          have h3 : (cur.toList.take (l.length * 1))[j]? = some (Value.int .u8 x.toNat) := by rw [htake]; simp [hx]
          rw [List.getElem?_take] at h3
          split at h3
          · simpa using h3
          · simp at h3
        rw [add_n, Nat.zero_add]
        exact h1.trans h2
      go_enter Try.func63, Try.ntmps63
      go_wp2
      go_region_o
      all_goals (go_wp2; go_ret; exact ⟨rfl, Lib.below_freeze (Below.drew (Below.refl B w)) (p := ⟨g, 0, none⟩) hbg _, fun k _ hk => frz_other _ g _ k fun e => hk (by rw [e]; rfl)⟩)
end Go.Proofs.Ytihgpnfkadldeaa.AM
