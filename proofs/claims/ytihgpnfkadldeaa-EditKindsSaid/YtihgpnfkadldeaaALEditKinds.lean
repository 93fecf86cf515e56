/- The law EditKinds on the small machine: counted out for each of the 32 kinds. No condition. -/
import Derived.Test.YtihgpnfkadldeaaAT1
import Derived.Test.YtihgpnfkadldeaaAR12
namespace Go.Proofs.Ytihgpnfkadldeaa.editKinds
set_option linter.unusedSimpArgs false
open Go Go.Proofs.Ytihgpnfkadldeaa.U Go.Proofs.Ytihgpnfkadldeaa.AM
def shapes : List PSh := [.one (.i .u8)]
def st (d : Int) : St := ⟨[(3, .p (.sc (.string ⟨#[97, 195, 169, 98]⟩))), (4, .ms 4 0 1), (5, .p (pi d)), (6, .p (pi 0))], [(4, .row 63 3 false [[pi 0, pi 1, .sc (.string ⟨#[120]⟩)]])]⟩
def fin (d : Int) : Bool := match code EW 300 (tailN 6 A_law18_EditKinds.body) (st d) with
  | some (.ret, s) => isT (finish A_law18_EditKinds s)
  | _ => false
set_option maxRecDepth 100000 in
theorem all : ∀ d : Fin 32, fin ((d.val : Nat) : Int) = true := by decide +kernel
theorem law (xs : List PV) (h : WTAs shapes xs) : Run EW 12 xs = some (.val (.sc (.bool true))) := by
  cases h with
  | cons h1 h =>
  cases h
  obtain ⟨b, rfl⟩ := wt_byte h1
  have hk : Run EW 34 [] = some (.val (pb true)) := known18
  have htm : ((b.toNat : Int).tmod 32) = ((b.toNat % 32 : Nat) : Int) := tmod_nat b.toNat 32
  have hlt : b.toNat % 32 < 32 := Nat.mod_lt _ (by omega)
  have ha := all ⟨b.toNat % 32, hlt⟩
  dsimp only at ha
  have hs : AM.Code EW A_law18_EditKinds.body ⟨entry 0 [.sc (.int .u8 b.toNat)], []⟩ = AM.Code EW (tailN 6 A_law18_EditKinds.body) (st ((b.toNat % 32 : Nat) : Int)) := by
    have hw : IntKind.wrap .i64 ((b.toNat % 32 : Nat) : Int) = ((b.toNat % 32 : Nat) : Int) := wrap_in _ (by omega) (by omega)
    generalize b.toNat % 32 = d at *
    refine split_code _ 6 _ _ _ ?_
    simp (disch := omega) [A_law18_EditKinds, headN, hk, htm, hw, st]
  have hr : Run EW 12 [.sc (.int .u8 b.toNat)] = runC A_law18_EditKinds (AM.Code EW A_law18_EditKinds.body ⟨entry 0 [.sc (.int .u8 b.toNat)], []⟩) := run_fn _ A_law18_EditKinds _ rfl rfl rfl
  rw [hr, hs]
  unfold fin at ha
  split at ha
  · rename_i s he
    rw [(Code_iff _ _ _ _).2 ⟨300, he⟩, runC_ret]
    exact isT_eq ha
  · simp at ha
end Go.Proofs.Ytihgpnfkadldeaa.editKinds
