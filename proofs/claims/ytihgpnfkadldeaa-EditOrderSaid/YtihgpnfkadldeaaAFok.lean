/- MADE BY af.py: each text stands for its function. -/
import Derived.Test.YtihgpnfkadldeaaAF1
import Derived.Test.YtihgpnfkadldeaaQ6
import Derived.Test.YtihgpnfkadldeaaProg
namespace Go.Proofs.Ytihgpnfkadldeaa.AM
open Go
theorem ok3 : okFunc Go.Proofs.Try.prog 3 A_law17_AtomTells = true := by decide +kernel
theorem ok4 : okFunc Go.Proofs.Try.prog 4 A_law17_AtomUndoes = true := by decide +kernel
theorem ok5 : okFunc Go.Proofs.Try.prog 5 A_law17_AtomPuts = true := by decide +kernel
theorem ok6 : okFunc Go.Proofs.Try.prog 6 A_law17_AtomPlaces = true := by decide +kernel
theorem ok7 : okFunc Go.Proofs.Try.prog 7 A_law17_AtomCopies = true := by decide +kernel
theorem ok8 : okFunc Go.Proofs.Try.prog 8 A_law18_EditTells = true := by decide +kernel
theorem ok9 : okFunc Go.Proofs.Try.prog 9 A_law18_EditSpots = true := by decide +kernel
theorem ok10 : okFunc Go.Proofs.Try.prog 10 A_law18_EditDoes = true := by decide +kernel
theorem ok11 : okFunc Go.Proofs.Try.prog 11 A_law18_EditOrder = true := by decide +kernel
theorem ok12 : okFunc Go.Proofs.Try.prog 12 A_law18_EditKinds = true := by decide +kernel
theorem ok13 : okFunc Go.Proofs.Try.prog 13 A_law18_EditApart = true := by decide +kernel
theorem ok14 : okFunc Go.Proofs.Try.prog 14 A_law18_EditHidden = true := by decide +kernel
theorem ok15 : okFunc Go.Proofs.Try.prog 15 A_law17_known = true := by decide +kernel
theorem ok16 : okFunc Go.Proofs.Try.prog 16 A_law17_few = true := by decide +kernel
theorem ok18 : okFunc Go.Proofs.Try.prog 18 A_atom_Places = true := by decide +kernel
theorem ok19 : okFunc Go.Proofs.Try.prog 19 A_ref17_Places = true := by decide +kernel
theorem ok20 : okFunc Go.Proofs.Try.prog 20 A_atom_Visible = true := by decide +kernel
theorem ok21 : okFunc Go.Proofs.Try.prog 21 A_ref17_Visible = true := by decide +kernel
theorem ok22 : okFunc Go.Proofs.Try.prog 22 A_atom_Copy = true := by decide +kernel
theorem ok23 : okFunc Go.Proofs.Try.prog 23 A_atom_Put = true := by decide +kernel
theorem ok24 : okFunc Go.Proofs.Try.prog 24 A_atom_Cut = true := by decide +kernel
theorem ok25 : okFunc Go.Proofs.Try.prog 25 A_atom_Is = true := by decide +kernel
theorem ok26 : okFunc Go.Proofs.Try.prog 26 A_ref17_Is = true := by decide +kernel
theorem ok27 : okFunc Go.Proofs.Try.prog 27 A_atom_Text = true := by decide +kernel
theorem ok28 : okFunc Go.Proofs.Try.prog 28 A_ref17_Text = true := by decide +kernel
theorem ok29 : okFunc Go.Proofs.Try.prog 29 A_ref17_Same = true := by decide +kernel
theorem ok30 : okFunc Go.Proofs.Try.prog 30 A_ref17_Put = true := by decide +kernel
theorem ok31 : okFunc Go.Proofs.Try.prog 31 A_ref17_Cut = true := by decide +kernel
theorem ok32 : okFunc Go.Proofs.Try.prog 32 A_ref1_Points = true := by decide +kernel
theorem ok33 : okFunc Go.Proofs.Try.prog 33 A_ref1_Clean = true := by decide +kernel
theorem ok34 : okFunc Go.Proofs.Try.prog 34 A_law18_known = true := by decide +kernel
theorem ok35 : okFunc Go.Proofs.Try.prog 35 A_law18_few = true := by decide +kernel
theorem ok36 : okFunc Go.Proofs.Try.prog 36 A_edit_Check = true := by decide +kernel
theorem ok37 : okFunc Go.Proofs.Try.prog 37 A_ref17_Check = true := by decide +kernel
theorem ok38 : okFunc Go.Proofs.Try.prog 38 A_edit_Do = true := by decide +kernel
theorem ok39 : okFunc Go.Proofs.Try.prog 39 A_ref17_Do = true := by decide +kernel
theorem ok40 : okFunc Go.Proofs.Try.prog 40 A_edit_Spots = true := by decide +kernel
theorem ok41 : okFunc Go.Proofs.Try.prog 41 A_edit_Cuts = true := by decide +kernel
theorem ok42 : okFunc Go.Proofs.Try.prog 42 A_edit_Upon = true := by decide +kernel
theorem ok43 : okFunc Go.Proofs.Try.prog 43 A_law18_same = true := by decide +kernel
theorem ok44 : okFunc Go.Proofs.Try.prog 44 A_ref17_Spots = true := by decide +kernel
theorem ok45 : okFunc Go.Proofs.Try.prog 45 A_ref17_Cuts = true := by decide +kernel
theorem ok46 : okFunc Go.Proofs.Try.prog 46 A_ref17_Upon = true := by decide +kernel
theorem ok47 : okFunc Go.Proofs.Try.prog 47 A_ref1_Valid = true := by decide +kernel
theorem ok48 : okFunc Go.Proofs.Try.prog 48 A_ref1_IsEdge = true := by decide +kernel
theorem ok49 : okFunc Go.Proofs.Try.prog 49 A_ref17_In = true := by decide +kernel
theorem ok50 : okFunc Go.Proofs.Try.prog 50 A_atom_holds = true := by decide +kernel
theorem ok51 : okFunc Go.Proofs.Try.prog 51 A_slices_ContainsFunc_api_Cut_api_Cut = true := by decide +kernel
theorem ok52 : okFunc Go.Proofs.Try.prog 52 A_atom_Visible_1 = true := by decide +kernel
theorem ok53 : okFunc Go.Proofs.Try.prog 53 A_ref17_Undone = true := by decide +kernel
theorem ok55 : okFunc Go.Proofs.Try.prog 55 A_utf_Clean = true := by decide +kernel
theorem ok56 : okFunc Go.Proofs.Try.prog 56 A_slices_ContainsFunc_api_Atom_api_Atom = true := by decide +kernel
theorem ok57 : okFunc Go.Proofs.Try.prog 57 A_atom_Is_1 = true := by decide +kernel
theorem ok58 : okFunc Go.Proofs.Try.prog 58 A_atom_is = true := by decide +kernel
theorem ok59 : okFunc Go.Proofs.Try.prog 59 A_ref1_Size = true := by decide +kernel
theorem ok60 : okFunc Go.Proofs.Try.prog 60 A_ref17_number = true := by decide +kernel
theorem ok61 : okFunc Go.Proofs.Try.prog 61 A_ref17_group = true := by decide +kernel
theorem ok64 : okFunc Go.Proofs.Try.prog 64 A_utf_Valid = true := by decide +kernel
theorem ok65 : okFunc Go.Proofs.Try.prog 65 A_edit_Check_1 = true := by decide +kernel
theorem ok66 : okFunc Go.Proofs.Try.prog 66 A_utf_IsEdge = true := by decide +kernel
theorem ok67 : okFunc Go.Proofs.Try.prog 67 A_edit_first = true := by decide +kernel
theorem ok68 : okFunc Go.Proofs.Try.prog 68 A_edit_Check_2 = true := by decide +kernel
theorem ok69 : okFunc Go.Proofs.Try.prog 69 A_edit_Check_3 = true := by decide +kernel
theorem ok70 : okFunc Go.Proofs.Try.prog 70 A_edit_order = true := by decide +kernel
theorem ok71 : okFunc Go.Proofs.Try.prog 71 A_edit_Check_4 = true := by decide +kernel
theorem ok72 : okFunc Go.Proofs.Try.prog 72 A_edit_long = true := by decide +kernel
theorem ok73 : okFunc Go.Proofs.Try.prog 73 A_ref11_Ordered = true := by decide +kernel
theorem ok74 : okFunc Go.Proofs.Try.prog 74 A_edit_spot = true := by decide +kernel
theorem ok75 : okFunc Go.Proofs.Try.prog 75 A_slices_Contains_int_int = true := by decide +kernel
theorem ok76 : okFunc Go.Proofs.Try.prog 76 A_slices_IndexFunc_api_Cut_api_Cut = true := by decide +kernel
theorem ok77 : okFunc Go.Proofs.Try.prog 77 A_utf_Make = true := by decide +kernel
theorem ok78 : okFunc Go.Proofs.Try.prog 78 A_utf_Points = true := by decide +kernel
theorem ok79 : okFunc Go.Proofs.Try.prog 79 A_slices_IndexFunc_api_Atom_api_Atom = true := by decide +kernel
theorem ok80 : okFunc Go.Proofs.Try.prog 80 A_utf_Size = true := by decide +kernel
theorem ok81 : okFunc Go.Proofs.Try.prog 81 A_atom_within = true := by decide +kernel
theorem ok82 : okFunc Go.Proofs.Try.prog 82 A_atom_isGroup = true := by decide +kernel
theorem ok83 : okFunc Go.Proofs.Try.prog 83 A_atom_is_1 = true := by decide +kernel
theorem ok85 : okFunc Go.Proofs.Try.prog 85 A_slices_Index_int_int = true := by decide +kernel
theorem ok86 : okFunc Go.Proofs.Try.prog 86 A_utf_isPoint = true := by decide +kernel
theorem ok88 : okFunc Go.Proofs.Try.prog 88 A_utf_point = true := by decide +kernel
theorem ok92 : okFunc Go.Proofs.Try.prog 92 A_utf_long = true := by decide +kernel
theorem okPrg : ∀ f fn, prg f = some fn → okFunc Go.Proofs.Try.prog f fn = true := by
  intro f fn h
  unfold prg at h
  split at h
  · obtain rfl := Option.some.inj h; exact ok3
  · obtain rfl := Option.some.inj h; exact ok4
  · obtain rfl := Option.some.inj h; exact ok5
  · obtain rfl := Option.some.inj h; exact ok6
  · obtain rfl := Option.some.inj h; exact ok7
  · obtain rfl := Option.some.inj h; exact ok8
  · obtain rfl := Option.some.inj h; exact ok9
  · obtain rfl := Option.some.inj h; exact ok10
  · obtain rfl := Option.some.inj h; exact ok11
  · obtain rfl := Option.some.inj h; exact ok12
  · obtain rfl := Option.some.inj h; exact ok13
  · obtain rfl := Option.some.inj h; exact ok14
  · obtain rfl := Option.some.inj h; exact ok15
  · obtain rfl := Option.some.inj h; exact ok16
  · obtain rfl := Option.some.inj h; exact ok18
  · obtain rfl := Option.some.inj h; exact ok19
  · obtain rfl := Option.some.inj h; exact ok20
  · obtain rfl := Option.some.inj h; exact ok21
  · obtain rfl := Option.some.inj h; exact ok22
  · obtain rfl := Option.some.inj h; exact ok23
  · obtain rfl := Option.some.inj h; exact ok24
  · obtain rfl := Option.some.inj h; exact ok25
  · obtain rfl := Option.some.inj h; exact ok26
  · obtain rfl := Option.some.inj h; exact ok27
  · obtain rfl := Option.some.inj h; exact ok28
  · obtain rfl := Option.some.inj h; exact ok29
  · obtain rfl := Option.some.inj h; exact ok30
  · obtain rfl := Option.some.inj h; exact ok31
  · obtain rfl := Option.some.inj h; exact ok32
  · obtain rfl := Option.some.inj h; exact ok33
  · obtain rfl := Option.some.inj h; exact ok34
  · obtain rfl := Option.some.inj h; exact ok35
  · obtain rfl := Option.some.inj h; exact ok36
  · obtain rfl := Option.some.inj h; exact ok37
  · obtain rfl := Option.some.inj h; exact ok38
  · obtain rfl := Option.some.inj h; exact ok39
  · obtain rfl := Option.some.inj h; exact ok40
  · obtain rfl := Option.some.inj h; exact ok41
  · obtain rfl := Option.some.inj h; exact ok42
  · obtain rfl := Option.some.inj h; exact ok43
  · obtain rfl := Option.some.inj h; exact ok44
  · obtain rfl := Option.some.inj h; exact ok45
  · obtain rfl := Option.some.inj h; exact ok46
  · obtain rfl := Option.some.inj h; exact ok47
  · obtain rfl := Option.some.inj h; exact ok48
  · obtain rfl := Option.some.inj h; exact ok49
  · obtain rfl := Option.some.inj h; exact ok50
  · obtain rfl := Option.some.inj h; exact ok51
  · obtain rfl := Option.some.inj h; exact ok52
  · obtain rfl := Option.some.inj h; exact ok53
  · obtain rfl := Option.some.inj h; exact ok55
  · obtain rfl := Option.some.inj h; exact ok56
  · obtain rfl := Option.some.inj h; exact ok57
  · obtain rfl := Option.some.inj h; exact ok58
  · obtain rfl := Option.some.inj h; exact ok59
  · obtain rfl := Option.some.inj h; exact ok60
  · obtain rfl := Option.some.inj h; exact ok61
  · obtain rfl := Option.some.inj h; exact ok64
  · obtain rfl := Option.some.inj h; exact ok65
  · obtain rfl := Option.some.inj h; exact ok66
  · obtain rfl := Option.some.inj h; exact ok67
  · obtain rfl := Option.some.inj h; exact ok68
  · obtain rfl := Option.some.inj h; exact ok69
  · obtain rfl := Option.some.inj h; exact ok70
  · obtain rfl := Option.some.inj h; exact ok71
  · obtain rfl := Option.some.inj h; exact ok72
  · obtain rfl := Option.some.inj h; exact ok73
  · obtain rfl := Option.some.inj h; exact ok74
  · obtain rfl := Option.some.inj h; exact ok75
  · obtain rfl := Option.some.inj h; exact ok76
  · obtain rfl := Option.some.inj h; exact ok77
  · obtain rfl := Option.some.inj h; exact ok78
  · obtain rfl := Option.some.inj h; exact ok79
  · obtain rfl := Option.some.inj h; exact ok80
  · obtain rfl := Option.some.inj h; exact ok81
  · obtain rfl := Option.some.inj h; exact ok82
  · obtain rfl := Option.some.inj h; exact ok83
  · obtain rfl := Option.some.inj h; exact ok85
  · obtain rfl := Option.some.inj h; exact ok86
  · obtain rfl := Option.some.inj h; exact ok88
  · obtain rfl := Option.some.inj h; exact ok92
  · cases h
theorem mixed : Go.Proofs.Try.prog.follows .mixedOrders = true := by kernel_rfl
end Go.Proofs.Ytihgpnfkadldeaa.AM
