/- Made by pack.py: AF1. No condition but what each says. -/
import Derived.Test.YtjpibniecllafaaGreatC8
set_option linter.unusedSimpArgs false
set_option linter.unusedVariables false
set_option maxHeartbeats 16000000
section
namespace Go.Proofs.YtjpibniecllafaaGreat.AM
open Go
def prg0:FuncId->Option AFunc:=fun n=>match n with
 | 4=>some A_top_WholeCarets
 | 12=>some A_top_known
 | 13=>some A_ref1_Valid
 | 14=>some A_view_New
 | 15=>some A_view_View_Do
 | 17=>some A_view_View_Head
 | 18=>some A_view_View_Text
 | 19=>some A_view_View_Selection
 | 20=>some A_engine_New
 | 21=>some A_engine_Engine_Edit
 | 26=>some A_engine_Engine_Head
 | 27=>some A_engine_Engine_Atoms
 | 31=>some A_view_View_Breaks
 | 40=>some A_ref1_Size
 | 41=>some A_view_View_told
 | 42=>some A_view_View_Copy
 | 44=>some A_view_View_edits
 | 45=>some A_view_View_follows
 | 46=>some A_view_View_marks
 | 48=>some A_rope_Rope_String
 | 49=>some A_view_copied_api_Region
 | 51=>some A_engine_Engine_Text
 | 52=>some A_edit_Check
 | 53=>some A_engine_Engine_Copy
 | 55=>some A_edit_Upon
 | 56=>some A_engine_Engine_UndoneAt
 | 57=>some A_engine_Engine_fits
 | 60=>some A_atom_Copy
 | 63=>some A_view_copied_int
 | 72=>some A_rope_New
 | 73=>some A_view_View_Spans
 | 74=>some A_carets_Type
 | 76=>some A_diff_Between
 | 77=>some A_region_Move
 | 78=>some A_spans_Edit
 | 79=>some A_breaks_Edit
 | 80=>some A_region_Make
 | _=>none
def prg1:FuncId->Option AFunc:=fun n=>match n with
 | 81=>some A_utf_IsEdge
 | 87=>some A_engine_Engine_Live
 | 88=>some A_atom_Text
 | 89=>some A_utf_Valid
 | 90=>some A_edit_Check_1
 | 91=>some A_edit_first
 | 92=>some A_edit_Check_2
 | 93=>some A_edit_Check_3
 | 94=>some A_edit_order
 | 95=>some A_edit_Check_4
 | 96=>some A_edit_long
 | 99=>some A_edit_Spots
 | 100=>some A_edit_Cuts
 | 101=>some A_atom_Put
 | 118=>some A_utf_Clean
 | 119=>some A_rope_made
 | 120=>some A_view_copied_api_Span
 | 121=>some A_region_Span
 | 124=>some A_delta_NewMaker
 | 125=>some A_diff_each
 | 126=>some A_diff_Between_1
 | 127=>some A_delta_Maker_Copy
 | 128=>some A_delta_Maker_Put
 | 129=>some A_delta_Maker_Delta
 | 130=>some A_delta_Is
 | 131=>some A_region_every_api_Region
 | 132=>some A_region_Move_1
 | 133=>some A_interval_Is
 | 134=>some A_region_count
 | 135=>some A_offset_Move
 | 136=>some A_region_apart
 | 137=>some A_spans_Is
 | 140=>some A_spans_told
 | _=>none
def prg2:FuncId->Option AFunc:=fun n=>match n with
 | 141=>some A_breaks_Is
 | 142=>some A_delta_Size
 | 143=>some A_region_inside
 | 144=>some A_region_edges
 | 152=>some A_atom_Visible
 | 153=>some A_utf_Size
 | 155=>some A_atom_Places
 | 156=>some A_edit_spot
 | 159=>some A_slices_Contains_int_int
 | 161=>some A_slices_ContainsFunc_api_Cut_api_Cut
 | 173=>some A_utf_Make
 | 174=>some A_utf_Points
 | 175=>some A_tree_Make_rope_piece_rope_counts
 | 176=>some A_delta_IsCopy
 | 177=>some A_delta_elem
 | 178=>some A_slices_ContainsFunc_api_Region_api_Region
 | 179=>some A_region_every_api_Region_1
 | 181=>some A_slices_SortStableFunc_api_Region_api_Region
 | 182=>some A_region_apart_1
 | 183=>some A_cmp_Or_int
 | 184=>some A_cmp_Compare_int
 | 185=>some A_interval_Folded_api_Region
 | 186=>some A_region_apart_2
 | 187=>some A_interval_Touch
 | 189=>some A_spans_row_int_sorted
 | 190=>some A_delta_sums
 | 191=>some A_region_inside_1
 | 192=>some A_region_edges_1
 | 198=>some A_atom_holds
 | 199=>some A_atom_Visible_1
 | 200=>some A_utf_point
 | 204=>some A_slices_Index_int_int
 | 205=>some A_slices_IndexFunc_api_Cut_api_Cut
 | 207=>some A_utf_isPoint
 | _=>none
def prg3:FuncId->Option AFunc:=fun n=>match n with
 | 209=>some A_tree_spread_rope_piece_tree_node_rope_piece_rope_counts
 | 210=>some A_tree_leaf_rope_piece_rope_counts
 | 211=>some A_tree_spread_tree_node_rope_piece_rope_counts_tree_node_rope_piece_rope_counts
 | 212=>some A_tree_inner_rope_piece_rope_counts
 | 213=>some A_slices_IndexFunc_api_Region_api_Region
 | 214=>some A_slices_stableCmpFunc_api_Region
 | 215=>some A_cmp_isNaN_int
 | 217=>some A_slices_SortStableFunc_spans_row_int_spans_run_int
 | 221=>some A_utf_long
 | 226=>some A_slices_insertionSortCmpFunc_api_Region
 | 228=>some A_slices_stableCmpFunc_spans_run_int
 | 235=>some A_slices_insertionSortCmpFunc_spans_run_int
 | 278=>some A_rope_piece_Sum
 | 279=>some A_count_Of
 | 280=>some A_count_Plus
 | 281=>some A_count_of
 | 282=>some A_count_units
 | 283=>some A_rope_counts_Plus
 | _=>none
def prg:FuncId->Option AFunc:=fun n=>if n<=80 then prg0 n else if n<=140 then prg1 n else if n<=207 then prg2 n else if n<=283 then prg3 n else none
end Go.Proofs.YtjpibniecllafaaGreat.AM
end
