/- MADE BY af.py: each text stands for its function. -/
import Derived.Test.YtomnggbideepeaaAF1
import Derived.Test.YtomnggbideepeaaQ6
import Derived.Test.YtomnggbideepeaaProg
namespace Go.Proofs.Ytomnggbideepeaa.AM
open Go
theorem ok3 : okFunc Go.Proofs.Try.prog 3 A_law4_RopeUndo = true := by decide +kernel
theorem ok4 : okFunc Go.Proofs.Try.prog 4 A_law4_RopeEmpty = true := by decide +kernel
theorem ok5 : okFunc Go.Proofs.Try.prog 5 A_law5_MetricBack = true := by decide +kernel
theorem ok6 : okFunc Go.Proofs.Try.prog 6 A_law5_MetricNone = true := by decide +kernel
theorem ok7 : okFunc Go.Proofs.Try.prog 7 A_law4_RopeSmall = true := by decide +kernel
theorem ok8 : okFunc Go.Proofs.Try.prog 8 A_law4_RopeCounts = true := by decide +kernel
theorem ok9 : okFunc Go.Proofs.Try.prog 9 A_law4_RopePlays = true := by decide +kernel
theorem ok10 : okFunc Go.Proofs.Try.prog 10 A_law4_RopeLong = true := by decide +kernel
theorem ok11 : okFunc Go.Proofs.Try.prog 11 A_law4_RopeParts = true := by decide +kernel
theorem ok12 : okFunc Go.Proofs.Try.prog 12 A_law5_MetricParts = true := by decide +kernel
theorem ok13 : okFunc Go.Proofs.Try.prog 13 A_law5_MetricTells = true := by decide +kernel
theorem ok14 : okFunc Go.Proofs.Try.prog 14 A_law6_LinesTell = true := by decide +kernel
theorem ok15 : okFunc Go.Proofs.Try.prog 15 A_law6_LinesJoin = true := by decide +kernel
theorem ok16 : okFunc Go.Proofs.Try.prog 16 A_law6_LinesPieces = true := by decide +kernel
theorem ok17 : okFunc Go.Proofs.Try.prog 17 A_law6_LinesFind = true := by decide +kernel
theorem ok18 : okFunc Go.Proofs.Try.prog 18 A_law6_LinesEdits = true := by decide +kernel
theorem ok19 : okFunc Go.Proofs.Try.prog 19 A_law4_known = true := by decide +kernel
theorem ok20 : okFunc Go.Proofs.Try.prog 20 A_ref1_Valid = true := by decide +kernel
theorem ok21 : okFunc Go.Proofs.Try.prog 21 A_rope_New = true := by decide +kernel
theorem ok22 : okFunc Go.Proofs.Try.prog 22 A_rope_Rope_IsEdge = true := by decide +kernel
theorem ok23 : okFunc Go.Proofs.Try.prog 23 A_rope_Rope_Replace = true := by decide +kernel
theorem ok24 : okFunc Go.Proofs.Try.prog 24 A_rope_Rope_Same = true := by decide +kernel
theorem ok25 : okFunc Go.Proofs.Try.prog 25 A_rope_Rope_Len = true := by decide +kernel
theorem ok26 : okFunc Go.Proofs.Try.prog 26 A_rope_Rope_String = true := by decide +kernel
theorem ok27 : okFunc Go.Proofs.Try.prog 27 A_rope_Rope_Byte = true := by decide +kernel
theorem ok28 : okFunc Go.Proofs.Try.prog 28 A_rope_Rope_Slice = true := by decide +kernel
theorem ok29 : okFunc Go.Proofs.Try.prog 29 A_law5_known = true := by decide +kernel
theorem ok30 : okFunc Go.Proofs.Try.prog 30 A_metric_Whole = true := by decide +kernel
theorem ok31 : okFunc Go.Proofs.Try.prog 31 A_metric_Convert = true := by decide +kernel
theorem ok32 : okFunc Go.Proofs.Try.prog 32 A_rope_Rope_Chunks = true := by decide +kernel
theorem ok33 : okFunc Go.Proofs.Try.prog 33 A_rope_Rope_Concat = true := by decide +kernel
theorem ok34 : okFunc Go.Proofs.Try.prog 34 A_rope_Rope_Counts = true := by decide +kernel
theorem ok35 : okFunc Go.Proofs.Try.prog 35 A_ref1_Clean = true := by decide +kernel
theorem ok36 : okFunc Go.Proofs.Try.prog 36 A_law4_step = true := by decide +kernel
theorem ok37 : okFunc Go.Proofs.Try.prog 37 A_law4_whole = true := by decide +kernel
theorem ok38 : okFunc Go.Proofs.Try.prog 38 A_ref1_IsEdge = true := by decide +kernel
theorem ok39 : okFunc Go.Proofs.Try.prog 39 A_metric_From = true := by decide +kernel
theorem ok40 : okFunc Go.Proofs.Try.prog 40 A_metric_To = true := by decide +kernel
theorem ok41 : okFunc Go.Proofs.Try.prog 41 A_ref2_To = true := by decide +kernel
theorem ok42 : okFunc Go.Proofs.Try.prog 42 A_ref2_From = true := by decide +kernel
theorem ok43 : okFunc Go.Proofs.Try.prog 43 A_ref2_Get = true := by decide +kernel
theorem ok44 : okFunc Go.Proofs.Try.prog 44 A_ref2_Of = true := by decide +kernel
theorem ok45 : okFunc Go.Proofs.Try.prog 45 A_law6_known = true := by decide +kernel
theorem ok46 : okFunc Go.Proofs.Try.prog 46 A_ref2_Lines = true := by decide +kernel
theorem ok47 : okFunc Go.Proofs.Try.prog 47 A_lines_Line = true := by decide +kernel
theorem ok48 : okFunc Go.Proofs.Try.prog 48 A_lines_Count = true := by decide +kernel
theorem ok49 : okFunc Go.Proofs.Try.prog 49 A_lines_At = true := by decide +kernel
theorem ok50 : okFunc Go.Proofs.Try.prog 50 A_ref1_Points = true := by decide +kernel
theorem ok51 : okFunc Go.Proofs.Try.prog 51 A_law6_parts = true := by decide +kernel
theorem ok52 : okFunc Go.Proofs.Try.prog 52 A_lines_Find = true := by decide +kernel
theorem ok53 : okFunc Go.Proofs.Try.prog 53 A_law6_find = true := by decide +kernel
theorem ok55 : okFunc Go.Proofs.Try.prog 55 A_ref1_Size = true := by decide +kernel
theorem ok56 : okFunc Go.Proofs.Try.prog 56 A_utf_Clean = true := by decide +kernel
theorem ok57 : okFunc Go.Proofs.Try.prog 57 A_rope_made = true := by decide +kernel
theorem ok58 : okFunc Go.Proofs.Try.prog 58 A_rope_Rope_check = true := by decide +kernel
theorem ok59 : okFunc Go.Proofs.Try.prog 59 A_rope_halves = true := by decide +kernel
theorem ok60 : okFunc Go.Proofs.Try.prog 60 A_rope_glued = true := by decide +kernel
theorem ok61 : okFunc Go.Proofs.Try.prog 61 A_tree_Seq_rope_piece_rope_counts_Sum = true := by decide +kernel
theorem ok65 : okFunc Go.Proofs.Try.prog 65 A_tree_Seq_rope_piece_rope_counts_Seek = true := by decide +kernel
theorem ok66 : okFunc Go.Proofs.Try.prog 66 A_rope_Rope_Byte_1 = true := by decide +kernel
theorem ok67 : okFunc Go.Proofs.Try.prog 67 A_tree_Seq_rope_piece_rope_counts_At = true := by decide +kernel
theorem ok69 : okFunc Go.Proofs.Try.prog 69 A_count_Is = true := by decide +kernel
theorem ok70 : okFunc Go.Proofs.Try.prog 70 A_rope_Rope_Upto = true := by decide +kernel
theorem ok71 : okFunc Go.Proofs.Try.prog 71 A_count_From = true := by decide +kernel
theorem ok72 : okFunc Go.Proofs.Try.prog 72 A_metric_told_int = true := by decide +kernel
theorem ok73 : okFunc Go.Proofs.Try.prog 73 A_count_To = true := by decide +kernel
theorem ok74 : okFunc Go.Proofs.Try.prog 74 A_ref2_Plus = true := by decide +kernel
theorem ok75 : okFunc Go.Proofs.Try.prog 75 A_ref2_one = true := by decide +kernel
theorem ok76 : okFunc Go.Proofs.Try.prog 76 A_lines_text = true := by decide +kernel
theorem ok77 : okFunc Go.Proofs.Try.prog 77 A_law6_pieces = true := by decide +kernel
theorem ok80 : okFunc Go.Proofs.Try.prog 80 A_utf_Valid = true := by decide +kernel
theorem ok81 : okFunc Go.Proofs.Try.prog 81 A_utf_Make = true := by decide +kernel
theorem ok82 : okFunc Go.Proofs.Try.prog 82 A_utf_Points = true := by decide +kernel
theorem ok83 : okFunc Go.Proofs.Try.prog 83 A_tree_Make_rope_piece_rope_counts = true := by decide +kernel
theorem ok84 : okFunc Go.Proofs.Try.prog 84 A_rope_halves_1 = true := by decide +kernel
theorem ok85 : okFunc Go.Proofs.Try.prog 85 A_tree_Seq_rope_piece_rope_counts_Split = true := by decide +kernel
theorem ok86 : okFunc Go.Proofs.Try.prog 86 A_tree_Seq_rope_piece_rope_counts_Len = true := by decide +kernel
theorem ok87 : okFunc Go.Proofs.Try.prog 87 A_tree_Seq_rope_piece_rope_counts_Join = true := by decide +kernel
theorem ok90 : okFunc Go.Proofs.Try.prog 90 A_rope_Rope_Upto_1 = true := by decide +kernel
theorem ok91 : okFunc Go.Proofs.Try.prog 91 A_utf_IsEdge = true := by decide +kernel
theorem ok92 : okFunc Go.Proofs.Try.prog 92 A_count_Of = true := by decide +kernel
theorem ok93 : okFunc Go.Proofs.Try.prog 93 A_count_Plus = true := by decide +kernel
theorem ok94 : okFunc Go.Proofs.Try.prog 94 A_count_of = true := by decide +kernel
theorem ok96 : okFunc Go.Proofs.Try.prog 96 A_utf_Size = true := by decide +kernel
theorem ok97 : okFunc Go.Proofs.Try.prog 97 A_utf_isPoint = true := by decide +kernel
theorem ok99 : okFunc Go.Proofs.Try.prog 99 A_utf_point = true := by decide +kernel
theorem ok100 : okFunc Go.Proofs.Try.prog 100 A_tree_spread_rope_piece_tree_node_rope_piece_rope_counts = true := by decide +kernel
theorem ok101 : okFunc Go.Proofs.Try.prog 101 A_tree_leaf_rope_piece_rope_counts = true := by decide +kernel
theorem ok102 : okFunc Go.Proofs.Try.prog 102 A_tree_spread_tree_node_rope_piece_rope_counts_tree_node_rope_piece_rope_counts = true := by decide +kernel
theorem ok103 : okFunc Go.Proofs.Try.prog 103 A_tree_inner_rope_piece_rope_counts = true := by decide +kernel
theorem ok104 : okFunc Go.Proofs.Try.prog 104 A_tree_node_rope_piece_rope_counts_split = true := by decide +kernel
theorem ok105 : okFunc Go.Proofs.Try.prog 105 A_tree_together_rope_piece_rope_counts = true := by decide +kernel
theorem ok106 : okFunc Go.Proofs.Try.prog 106 A_tree_join_rope_piece_rope_counts = true := by decide +kernel
theorem ok108 : okFunc Go.Proofs.Try.prog 108 A_count_units = true := by decide +kernel
theorem ok115 : okFunc Go.Proofs.Try.prog 115 A_utf_long = true := by decide +kernel
theorem ok116 : okFunc Go.Proofs.Try.prog 116 A_tree_packed_tree_node_rope_piece_rope_counts_tree_node_rope_piece_rope_counts = true := by decide +kernel
theorem ok117 : okFunc Go.Proofs.Try.prog 117 A_tree_short = true := by decide +kernel
theorem ok118 : okFunc Go.Proofs.Try.prog 118 A_tree_packed_rope_piece_tree_node_rope_piece_rope_counts = true := by decide +kernel
theorem ok139 : okFunc Go.Proofs.Try.prog 139 A_rope_counts_Plus = true := by decide +kernel
theorem ok140 : okFunc Go.Proofs.Try.prog 140 A_rope_piece_Sum = true := by decide +kernel
theorem okPrg : ∀ f fn, prg f = some fn → okFunc Go.Proofs.Try.prog f fn = true := by
  intro f fn h
  unfold prg at h
  split at h
  · obtain rfl := Option.some.inj h; exact ok3
  · obtain rfl := Option.some.inj h; exact ok4
  · obtain rfl := Option.some.inj h; exact ok5
  · obtain rfl := Option.some.inj h; exact ok6
  · obtain rfl := Option.some.inj h; exact ok7
  · obtain rfl := Option.some.inj h; exact ok8
  · obtain rfl := Option.some.inj h; exact ok9
  · obtain rfl := Option.some.inj h; exact ok10
  · obtain rfl := Option.some.inj h; exact ok11
  · obtain rfl := Option.some.inj h; exact ok12
  · obtain rfl := Option.some.inj h; exact ok13
  · obtain rfl := Option.some.inj h; exact ok14
  · obtain rfl := Option.some.inj h; exact ok15
  · obtain rfl := Option.some.inj h; exact ok16
  · obtain rfl := Option.some.inj h; exact ok17
  · obtain rfl := Option.some.inj h; exact ok18
  · obtain rfl := Option.some.inj h; exact ok19
  · obtain rfl := Option.some.inj h; exact ok20
  · obtain rfl := Option.some.inj h; exact ok21
  · obtain rfl := Option.some.inj h; exact ok22
  · obtain rfl := Option.some.inj h; exact ok23
  · obtain rfl := Option.some.inj h; exact ok24
  · obtain rfl := Option.some.inj h; exact ok25
  · obtain rfl := Option.some.inj h; exact ok26
  · obtain rfl := Option.some.inj h; exact ok27
  · obtain rfl := Option.some.inj h; exact ok28
  · obtain rfl := Option.some.inj h; exact ok29
  · obtain rfl := Option.some.inj h; exact ok30
  · obtain rfl := Option.some.inj h; exact ok31
  · obtain rfl := Option.some.inj h; exact ok32
  · obtain rfl := Option.some.inj h; exact ok33
  · obtain rfl := Option.some.inj h; exact ok34
  · obtain rfl := Option.some.inj h; exact ok35
  · obtain rfl := Option.some.inj h; exact ok36
  · obtain rfl := Option.some.inj h; exact ok37
  · obtain rfl := Option.some.inj h; exact ok38
  · obtain rfl := Option.some.inj h; exact ok39
  · obtain rfl := Option.some.inj h; exact ok40
  · obtain rfl := Option.some.inj h; exact ok41
  · obtain rfl := Option.some.inj h; exact ok42
  · obtain rfl := Option.some.inj h; exact ok43
  · obtain rfl := Option.some.inj h; exact ok44
  · obtain rfl := Option.some.inj h; exact ok45
  · obtain rfl := Option.some.inj h; exact ok46
  · obtain rfl := Option.some.inj h; exact ok47
  · obtain rfl := Option.some.inj h; exact ok48
  · obtain rfl := Option.some.inj h; exact ok49
  · obtain rfl := Option.some.inj h; exact ok50
  · obtain rfl := Option.some.inj h; exact ok51
  · obtain rfl := Option.some.inj h; exact ok52
  · obtain rfl := Option.some.inj h; exact ok53
  · obtain rfl := Option.some.inj h; exact ok55
  · obtain rfl := Option.some.inj h; exact ok56
  · obtain rfl := Option.some.inj h; exact ok57
  · obtain rfl := Option.some.inj h; exact ok58
  · obtain rfl := Option.some.inj h; exact ok59
  · obtain rfl := Option.some.inj h; exact ok60
  · obtain rfl := Option.some.inj h; exact ok61
  · obtain rfl := Option.some.inj h; exact ok65
  · obtain rfl := Option.some.inj h; exact ok66
  · obtain rfl := Option.some.inj h; exact ok67
  · obtain rfl := Option.some.inj h; exact ok69
  · obtain rfl := Option.some.inj h; exact ok70
  · obtain rfl := Option.some.inj h; exact ok71
  · obtain rfl := Option.some.inj h; exact ok72
  · obtain rfl := Option.some.inj h; exact ok73
  · obtain rfl := Option.some.inj h; exact ok74
  · obtain rfl := Option.some.inj h; exact ok75
  · obtain rfl := Option.some.inj h; exact ok76
  · obtain rfl := Option.some.inj h; exact ok77
  · obtain rfl := Option.some.inj h; exact ok80
  · obtain rfl := Option.some.inj h; exact ok81
  · obtain rfl := Option.some.inj h; exact ok82
  · obtain rfl := Option.some.inj h; exact ok83
  · obtain rfl := Option.some.inj h; exact ok84
  · obtain rfl := Option.some.inj h; exact ok85
  · obtain rfl := Option.some.inj h; exact ok86
  · obtain rfl := Option.some.inj h; exact ok87
  · obtain rfl := Option.some.inj h; exact ok90
  · obtain rfl := Option.some.inj h; exact ok91
  · obtain rfl := Option.some.inj h; exact ok92
  · obtain rfl := Option.some.inj h; exact ok93
  · obtain rfl := Option.some.inj h; exact ok94
  · obtain rfl := Option.some.inj h; exact ok96
  · obtain rfl := Option.some.inj h; exact ok97
  · obtain rfl := Option.some.inj h; exact ok99
  · obtain rfl := Option.some.inj h; exact ok100
  · obtain rfl := Option.some.inj h; exact ok101
  · obtain rfl := Option.some.inj h; exact ok102
  · obtain rfl := Option.some.inj h; exact ok103
  · obtain rfl := Option.some.inj h; exact ok104
  · obtain rfl := Option.some.inj h; exact ok105
  · obtain rfl := Option.some.inj h; exact ok106
  · obtain rfl := Option.some.inj h; exact ok108
  · obtain rfl := Option.some.inj h; exact ok115
  · obtain rfl := Option.some.inj h; exact ok116
  · obtain rfl := Option.some.inj h; exact ok117
  · obtain rfl := Option.some.inj h; exact ok118
  · obtain rfl := Option.some.inj h; exact ok139
  · obtain rfl := Option.some.inj h; exact ok140
  · cases h
theorem mixed : Go.Proofs.Try.prog.follows .mixedOrders = true := by kernel_rfl
end Go.Proofs.Ytomnggbideepeaa.AM
