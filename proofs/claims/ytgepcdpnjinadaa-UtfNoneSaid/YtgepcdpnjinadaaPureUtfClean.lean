/- UtfClean walked: what is clean is valid, stays, and is as long at least; what is valid was clean. No conditions. -/
import Derived.Test.YtgepcdpnjinadaaC1
import Derived.OpenShut
import Derived.Test.YtgepcdpnjinadaaPureUtfJoin
namespace Go.Proofs.Ytgepcdpnjinadaa.V
open Go.RowKit Go.Proofs.Ytgepcdpnjinadaa.PX Go.Proofs.YtgepcdpnjinadaaW.PrintWords Go.Proofs.YtgepcdpnjinadaaW.PrintLast Go.Proofs.YtgepcdpnjinadaaW.PrintMore Go.Proofs.Ytgepcdpnjinadaa.U Go.Lib
set_option linter.unusedVariables false
set_option linter.unusedSimpArgs false
theorem clean_same {a : ByteArray} (h : valid (L a) = true) : cleanS a = a := L_inj (by rw [L_clean]; exact clean_of_valid _ h)
theorem clean_other {a : ByteArray} (h : valid (L a) = false) : ((cleanS a).toList == a.toList) = false := by
  rw [beq_eq_false_iff_ne, toList_L, toList_L, L_clean]
  intro e
  rw [(valid_iff _).2 e] at h
  cases h
theorem clean_twice (a : ByteArray) : cleanS (cleanS a) = cleanS a := clean_same (by rw [L_clean]; exact clean_valid _)
theorem clean_both {a : ByteArray} (h : valid (L a) = true) (b : ByteArray) : cleanS (a ++ b) = a ++ cleanS b := by
  apply L_inj
  rw [L_clean, L_append, L_append, L_clean, clean_append h]
theorem clean_longer (a : ByteArray) : a.size ≤ (cleanS a).size := by rw [L_size, L_size (cleanS a), L_clean]; exact clean_len _
set_option maxHeartbeats 8000000 in
set_option maxRecDepth 100000 in
theorem clean_early (a b : ByteArray) (w : World) (c : (200 < a.size) ∨ (200 < b.size)) :
    Calls Try.prog 5 #[.string a, .string b] w fun e w' => e = .returned (.bool true) ∧ Below w.heap.size w w' := by
  by_cases c1 : 200 < a.size
  · have c1b : decide ((200 : Int) < (a.size : Int)) = true := decide_eq_true (by omega)
    have c1c : decide (200 < a.size) = true := decide_eq_true c1
    clear c
    go_enter Try.func5, Try.ntmps5
    go_wp2_with (first | (go_at_call 17; (with_reducible refine (cKnown1 _).mono ?_); rintro e w1 ⟨rfl, b1⟩))
    go_ret
    exact ⟨rfl, by repeat (first | assumption | refine below_step ?_ (by assumption))⟩
  have c1b : decide ((200 : Int) < (a.size : Int)) = false := decide_eq_false (by omega)
  have c1c : decide (200 < a.size) = false := decide_eq_false c1
  have c2 : 200 < b.size := by omega
  have c2b : decide ((200 : Int) < (b.size : Int)) = true := decide_eq_true (by omega)
  have c2c : decide (200 < b.size) = true := decide_eq_true c2
  clear c c1
  go_enter Try.func5, Try.ntmps5
  go_wp2_with (first | (go_at_call 17; (with_reducible refine (cKnown1 _).mono ?_); rintro e w1 ⟨rfl, b1⟩))
  go_ret
  exact ⟨rfl, by repeat (first | assumption | refine below_step ?_ (by assumption))⟩
set_option maxHeartbeats 8000000 in
set_option maxRecDepth 100000 in
theorem clean_main (a b : ByteArray) (w : World) (c1 : a.size ≤ 200) (c2 : b.size ≤ 200) :
    Calls Try.prog 5 #[.string a, .string b] w fun e w' => e = .returned (.bool true) ∧ Below w.heap.size w w' := by
  have c1b : decide ((200 : Int) < (a.size : Int)) = false := decide_eq_false (by omega)
  have c1c : decide (200 < a.size) = false := decide_eq_false (by omega)
  have c2b : decide ((200 : Int) < (b.size : Int)) = false := decide_eq_false (by omega)
  have c2c : decide (200 < b.size) = false := decide_eq_false (by omega)
  have z1 := cleanS_size a
  have z2 := cleanS_size b
  have z3 := size_append a b
  have z4 := clean_longer a
  have hca := cClean a (by omega)
  have hva := cValid a (by omega)
  by_cases v : valid (L a) = true
  · rw [clean_same v] at hca
    rw [v] at hva
    have hab := cClean (a ++ b) (by omega)
    rw [clean_both v] at hab
    have hcb := cClean b (by omega)
    have hl : a.size + (cleanS b).size ≤ maxLen := by unfold maxLen; omega
    have hl2 : a.size + (cleanS b).size ≤ 9223372036854775807 := by omega
    have hl3 : a.size + b.size ≤ maxLen := by unfold maxLen; omega
    have hl4 : a.size + b.size ≤ 9223372036854775807 := by omega
    clear z1 z2 z3 z4 v
    go_enter Try.func5, Try.ntmps5
    go_wp2_with (first | (go_at_call 17; (with_reducible refine (cKnown1 _).mono ?_); rintro e w1 ⟨rfl, b1⟩) | (go_at_call 26; (with_reducible refine (hca _).mono ?_); rintro e w2 ⟨rfl, b2⟩) | (go_at_call 26; (with_reducible refine (hab _).mono ?_); rintro e w3 ⟨rfl, b3⟩) | (go_at_call 26; (with_reducible refine (hcb _).mono ?_); rintro e w4 ⟨rfl, b4⟩) | (go_at_call 24; (with_reducible refine (hva _).mono ?_); rintro e w5 ⟨rfl, b5⟩))
    go_ret
    exact ⟨rfl, by repeat (first | assumption | refine below_step ?_ (by assumption))⟩
  · rw [Bool.not_eq_true] at v
    have hvs := cValid (cleanS a) (by omega)
    rw [L_clean, clean_valid] at hvs
    have hcs := cClean (cleanS a) (by omega)
    rw [clean_twice] at hcs
    have ho := clean_other v
    rw [v] at hva
    have z5 : decide ((a.size : Int) ≤ ((cleanS a).size : Int)) = true := decide_eq_true (by omega)
    have z6 : decide (a.size ≤ (cleanS a).size) = true := decide_eq_true (by omega)
    clear z1 z2 z3 z4 v
    go_enter Try.func5, Try.ntmps5
    go_wp2_with (first | (go_at_call 17; (with_reducible refine (cKnown1 _).mono ?_); rintro e w1 ⟨rfl, b1⟩) | (go_at_call 26; (with_reducible refine (hca _).mono ?_); rintro e w2 ⟨rfl, b2⟩) | (go_at_call 26; (with_reducible refine (hcs _).mono ?_); rintro e w3 ⟨rfl, b3⟩) | (go_at_call 24; (with_reducible refine (hva _).mono ?_); rintro e w5 ⟨rfl, b5⟩) | (go_at_call 24; (with_reducible refine (hvs _).mono ?_); rintro e w6 ⟨rfl, b6⟩))
    go_ret
    exact ⟨rfl, by repeat (first | assumption | refine below_step ?_ (by assumption))⟩

end Go.Proofs.Ytgepcdpnjinadaa.V
namespace Go.Proofs.Ytgepcdpnjinadaa
open Go.RowKit V U
theorem Pure.UtfClean : True := trivial
theorem PX.palinodelaw1_UtfClean.walk (_ : True) (a0 a1 : ByteArray) (w : World) (_ : a0.size ≤ 140737488351232) (_ : a1.size ≤ 140737488351232) :
    Calls Try.prog 5 #[.string a0, .string a1] w fun e w' => e = .returned (.bool true) ∧ Below w.heap.size w w' := by
  by_cases c1 : 200 < a0.size
  · exact clean_early a0 a1 w (.inl c1)
  by_cases c2 : 200 < a1.size
  · exact clean_early a0 a1 w (.inr c2)
  exact clean_main a0 a1 w (by omega) (by omega)
end Go.Proofs.Ytgepcdpnjinadaa
