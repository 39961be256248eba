/- Which function of the program each number stands for, and that the checked code is the program's. -/
import Derived.Test.YtljecilfdpgdbaaProg
import Derived.Test.YtljecilfdpgdbaaDenX
import Derived.Test.YtljecilfdpgdbaaFn30
import Derived.KernelRfl
namespace Go.Den
open Go Go.Proofs
set_option maxRecDepth 100000
def tab : Nat → Nat
  | 100 => 56
  | 102 => 33
  | 101 => 58
  | 104 => 54
  | 103 => 55
  | 106 => 32
  | 1 => 57
  | 107 => 34
  | 105 => 59
  | 108 => 35
  | 132 => 12
  | 12 => 19
  | 109 => 14
  | 134 => 15
  | 135 => 16
  | 113 => 95
  | 114 => 96
  | 115 => 97
  | 116 => 98
  | 117 => 99
  | 111 => 110
  | 118 => 100
  | 112 => 111
  | 119 => 101
  | 110 => 78
  | 120 => 50
  | 122 => 116
  | 121 => 117
  | 123 => 108
  | 124 => 93
  | 125 => 70
  | 129 => 44
  | 130 => 45
  | 5 => 71
  | 14 => 72
  | 10 => 73
  | 3 => 75
  | 13 => 74
  | 2 => 109
  | 4 => 94
  | 15 => 76
  | 21 => 46
  | 126 => 77
  | 128 => 48
  | 127 => 49
  | 131 => 47
  | 133 => 28
  | 141 => 10
  | 62 => 39
  | 47 => 84
  | 49 => 67
  | 50 => 81
  | 48 => 88
  | 51 => 82
  | 52 => 83
  | 58 => 60
  | 55 => 85
  | 54 => 86
  | 53 => 104
  | 56 => 87
  | 59 => 61
  | 57 => 66
  | 60 => 62
  | 61 => 63
  | 63 => 40
  | 88 => 24
  | 64 => 64
  | 65 => 65
  | 66 => 41
  | 87 => 25
  | 67 => 105
  | 68 => 106
  | 69 => 89
  | 75 => 68
  | 76 => 42
  | 90 => 26
  | 136 => 31
  | 142 => 11
  | 140 => 18
  | 137 => 38
  | 138 => 36
  | 139 => 37
  | 143 => 13
  | 154 => 3
  | 144 => 17
  | 155 => 4
  | 156 => 5
  | 146 => 20
  | 145 => 21
  | 157 => 6
  | 147 => 22
  | 148 => 23
  | 158 => 7
  | 71 => 90
  | 72 => 91
  | 70 => 107
  | 74 => 92
  | 73 => 69
  | 89 => 43
  | 151 => 27
  | 77 => 115
  | 78 => 118
  | 79 => 119
  | 82 => 113
  | 81 => 114
  | 80 => 103
  | 83 => 80
  | 84 => 112
  | 85 => 102
  | 86 => 79
  | 92 => 51
  | 149 => 52
  | 150 => 53
  | 152 => 29
  | 159 => 8
  | 153 => 30
  | 160 => 9
  | _ => 1000000
theorem chk_f_merge_states_1 : chkFunc Try.prog tab 56 f_merge_states_1 = true := by kernel_rfl
theorem chk_f_merge_states : chkFunc Try.prog tab 33 f_merge_states = true := by kernel_rfl
theorem chk_f_slices_IndexFunc_api_Line_api_Line : chkFunc Try.prog tab 58 f_slices_IndexFunc_api_Line_api_Line = true := by kernel_rfl
theorem chk_f_slices_ContainsFunc_api_Line_api_Line : chkFunc Try.prog tab 54 f_slices_ContainsFunc_api_Line_api_Line = true := by kernel_rfl
theorem chk_f_merge_fits_1 : chkFunc Try.prog tab 55 f_merge_fits_1 = true := by kernel_rfl
theorem chk_f_merge_fits : chkFunc Try.prog tab 32 f_merge_fits = true := by kernel_rfl
theorem chk_f_slices_Equal_api_Cell_api_Cell : chkFunc Try.prog tab 57 f_slices_Equal_api_Cell_api_Cell = true := by kernel_rfl
theorem chk_f_merge_equal : chkFunc Try.prog tab 34 f_merge_equal = true := by kernel_rfl
theorem chk_f_merge_fresh_1 : chkFunc Try.prog tab 59 f_merge_fresh_1 = true := by kernel_rfl
theorem chk_f_merge_fresh : chkFunc Try.prog tab 35 f_merge_fresh = true := by kernel_rfl
theorem chk_f_merge_Merge : chkFunc Try.prog tab 12 f_merge_Merge = true := by kernel_rfl
theorem chk_f_R06_SameRow : chkFunc Try.prog tab 19 f_R06_SameRow = true := by kernel_rfl
theorem chk_f_R27_SameTable : chkFunc Try.prog tab 14 f_R27_SameTable = true := by kernel_rfl
theorem chk_f_R30_SameLines : chkFunc Try.prog tab 15 f_R30_SameLines = true := by kernel_rfl
theorem chk_f_merge_Base : chkFunc Try.prog tab 16 f_merge_Base = true := by kernel_rfl
theorem chk_f_pred_Eval_1 : chkFunc Try.prog tab 95 f_pred_Eval_1 = true := by kernel_rfl
theorem chk_f_pred_some : chkFunc Try.prog tab 96 f_pred_some = true := by kernel_rfl
theorem chk_f_pred_isAtom : chkFunc Try.prog tab 97 f_pred_isAtom = true := by kernel_rfl
theorem chk_f_pred_get : chkFunc Try.prog tab 98 f_pred_get = true := by kernel_rfl
theorem chk_f_pred_truth : chkFunc Try.prog tab 99 f_pred_truth = true := by kernel_rfl
theorem chk_f_slices_Index_api_Value_api_Value : chkFunc Try.prog tab 110 f_slices_Index_api_Value_api_Value = true := by kernel_rfl
theorem chk_f_slices_Contains_api_Value_api_Value : chkFunc Try.prog tab 100 f_slices_Contains_api_Value_api_Value = true := by kernel_rfl
theorem chk_f_internal_stringslite_HasPrefix : chkFunc Try.prog tab 111 f_internal_stringslite_HasPrefix = true := by kernel_rfl
theorem chk_f_strings_HasPrefix : chkFunc Try.prog tab 101 f_strings_HasPrefix = true := by kernel_rfl
theorem chk_f_pred_Eval : chkFunc Try.prog tab 78 f_pred_Eval = true := by kernel_rfl
theorem chk_f_pred_Match : chkFunc Try.prog tab 50 f_pred_Match = true := by kernel_rfl
theorem chk_f_slices_IndexFunc_api_Cell_api_Cell : chkFunc Try.prog tab 116 f_slices_IndexFunc_api_Cell_api_Cell = true := by kernel_rfl
theorem chk_f_program_sum_1 : chkFunc Try.prog tab 117 f_program_sum_1 = true := by kernel_rfl
theorem chk_f_program_sum : chkFunc Try.prog tab 108 f_program_sum = true := by kernel_rfl
theorem chk_f_program_Check : chkFunc Try.prog tab 93 f_program_Check = true := by kernel_rfl
theorem chk_f_program_Run : chkFunc Try.prog tab 70 f_program_Run = true := by kernel_rfl
theorem chk_f_merge_run : chkFunc Try.prog tab 44 f_merge_run = true := by kernel_rfl
theorem chk_f_merge_Programs_1 : chkFunc Try.prog tab 45 f_merge_Programs_1 = true := by kernel_rfl
theorem chk_f_lineage_Valid : chkFunc Try.prog tab 71 f_lineage_Valid = true := by kernel_rfl
theorem chk_f_lineage_merge_api_Line_api_Line : chkFunc Try.prog tab 72 f_lineage_merge_api_Line_api_Line = true := by kernel_rfl
theorem chk_f_lineage_ofLine : chkFunc Try.prog tab 73 f_lineage_ofLine = true := by kernel_rfl
theorem chk_f_lineage_row : chkFunc Try.prog tab 75 f_lineage_row = true := by kernel_rfl
theorem chk_f_lineage_Feed_1 : chkFunc Try.prog tab 74 f_lineage_Feed_1 = true := by kernel_rfl
theorem chk_f_lineage_equal : chkFunc Try.prog tab 109 f_lineage_equal = true := by kernel_rfl
theorem chk_f_lineage_same : chkFunc Try.prog tab 94 f_lineage_same = true := by kernel_rfl
theorem chk_f_lineage_events : chkFunc Try.prog tab 76 f_lineage_events = true := by kernel_rfl
theorem chk_f_lineage_Feed : chkFunc Try.prog tab 46 f_lineage_Feed = true := by kernel_rfl
theorem chk_f_slices_IndexFunc_api_Event_api_Event : chkFunc Try.prog tab 77 f_slices_IndexFunc_api_Event_api_Event = true := by kernel_rfl
theorem chk_f_slices_ContainsFunc_api_Event_api_Event : chkFunc Try.prog tab 48 f_slices_ContainsFunc_api_Event_api_Event = true := by kernel_rfl
theorem chk_f_merge_Programs_2_1 : chkFunc Try.prog tab 49 f_merge_Programs_2_1 = true := by kernel_rfl
theorem chk_f_merge_Programs_2 : chkFunc Try.prog tab 47 f_merge_Programs_2 = true := by kernel_rfl
theorem chk_f_merge_Programs : chkFunc Try.prog tab 28 f_merge_Programs = true := by kernel_rfl
theorem chk_f_L30_sanity : chkFunc Try.prog tab 10 f_L30_sanity = true := by kernel_rfl
theorem chk_f_R06_New : chkFunc Try.prog tab 39 f_R06_New = true := by kernel_rfl
theorem chk_f_R06_Field : chkFunc Try.prog tab 84 f_R06_Field = true := by kernel_rfl
theorem chk_f_R06_group : chkFunc Try.prog tab 67 f_R06_group = true := by kernel_rfl
theorem chk_f_R06_depth : chkFunc Try.prog tab 81 f_R06_depth = true := by kernel_rfl
theorem chk_f_R06_Name : chkFunc Try.prog tab 88 f_R06_Name = true := by kernel_rfl
theorem chk_f_R06_taken : chkFunc Try.prog tab 82 f_R06_taken = true := by kernel_rfl
theorem chk_f_R06_plus : chkFunc Try.prog tab 83 f_R06_plus = true := by kernel_rfl
theorem chk_f_R06_add : chkFunc Try.prog tab 60 f_R06_add = true := by kernel_rfl
theorem chk_f_R06_without : chkFunc Try.prog tab 85 f_R06_without = true := by kernel_rfl
theorem chk_f_R06_with : chkFunc Try.prog tab 86 f_R06_with = true := by kernel_rfl
theorem chk_f_R06_inside : chkFunc Try.prog tab 104 f_R06_inside = true := by kernel_rfl
theorem chk_f_R06_move : chkFunc Try.prog tab 87 f_R06_move = true := by kernel_rfl
theorem chk_f_R06_one : chkFunc Try.prog tab 61 f_R06_one = true := by kernel_rfl
theorem chk_f_R06_sep : chkFunc Try.prog tab 66 f_R06_sep = true := by kernel_rfl
theorem chk_f_R06_split : chkFunc Try.prog tab 62 f_R06_split = true := by kernel_rfl
theorem chk_f_R06_join : chkFunc Try.prog tab 63 f_R06_join = true := by kernel_rfl
theorem chk_f_R06_Apply : chkFunc Try.prog tab 40 f_R06_Apply = true := by kernel_rfl
theorem chk_f_R06_After : chkFunc Try.prog tab 24 f_R06_After = true := by kernel_rfl
theorem chk_f_R06_mod : chkFunc Try.prog tab 64 f_R06_mod = true := by kernel_rfl
theorem chk_f_R06_name : chkFunc Try.prog tab 65 f_R06_name = true := by kernel_rfl
theorem chk_f_R06_Change : chkFunc Try.prog tab 41 f_R06_Change = true := by kernel_rfl
theorem chk_f_R06_Made : chkFunc Try.prog tab 25 f_R06_Made = true := by kernel_rfl
theorem chk_f_R05_Type : chkFunc Try.prog tab 105 f_R05_Type = true := by kernel_rfl
theorem chk_f_R05_Fit : chkFunc Try.prog tab 106 f_R05_Fit = true := by kernel_rfl
theorem chk_f_R05_Made : chkFunc Try.prog tab 89 f_R05_Made = true := by kernel_rfl
theorem chk_f_R06_Row : chkFunc Try.prog tab 68 f_R06_Row = true := by kernel_rfl
theorem chk_f_R06_Rows : chkFunc Try.prog tab 42 f_R06_Rows = true := by kernel_rfl
theorem chk_f_R27_Table : chkFunc Try.prog tab 26 f_R27_Table = true := by kernel_rfl
theorem chk_f_R30_Branch : chkFunc Try.prog tab 31 f_R30_Branch = true := by kernel_rfl
theorem chk_f_L30_made : chkFunc Try.prog tab 11 f_L30_made = true := by kernel_rfl
theorem chk_f_R30_Fresh : chkFunc Try.prog tab 18 f_R30_Fresh = true := by kernel_rfl
theorem chk_f_R30_find : chkFunc Try.prog tab 38 f_R30_find = true := by kernel_rfl
theorem chk_f_R30_fits : chkFunc Try.prog tab 36 f_R30_fits = true := by kernel_rfl
theorem chk_f_R30_same : chkFunc Try.prog tab 37 f_R30_same = true := by kernel_rfl
theorem chk_f_R30_Merge : chkFunc Try.prog tab 13 f_R30_Merge = true := by kernel_rfl
theorem chk_f_L30_MergeMatchesReference : chkFunc Try.prog tab 3 f_L30_MergeMatchesReference = true := by kernel_rfl
theorem chk_f_R30_Base : chkFunc Try.prog tab 17 f_R30_Base = true := by kernel_rfl
theorem chk_f_L30_MergeBaseMatchesReference : chkFunc Try.prog tab 4 f_L30_MergeBaseMatchesReference = true := by kernel_rfl
theorem chk_f_L30_MergeOneSide : chkFunc Try.prog tab 5 f_L30_MergeOneSide = true := by kernel_rfl
theorem chk_f_R30_Rows : chkFunc Try.prog tab 20 f_R30_Rows = true := by kernel_rfl
theorem chk_f_R30_Plain : chkFunc Try.prog tab 21 f_R30_Plain = true := by kernel_rfl
theorem chk_f_L30_MergeIsSymmetric : chkFunc Try.prog tab 6 f_L30_MergeIsSymmetric = true := by kernel_rfl
theorem chk_f_L30_row : chkFunc Try.prog tab 22 f_L30_row = true := by kernel_rfl
theorem chk_f_R27_ValidTable : chkFunc Try.prog tab 23 f_R27_ValidTable = true := by kernel_rfl
theorem chk_f_L30_MergeKeepsBoth : chkFunc Try.prog tab 7 f_L30_MergeKeepsBoth = true := by kernel_rfl
theorem chk_f_R06_Leaves : chkFunc Try.prog tab 90 f_R06_Leaves = true := by kernel_rfl
theorem chk_f_R09_mod : chkFunc Try.prog tab 91 f_R09_mod = true := by kernel_rfl
theorem chk_f_R05_Compare : chkFunc Try.prog tab 107 f_R05_Compare = true := by kernel_rfl
theorem chk_f_R09_set : chkFunc Try.prog tab 92 f_R09_set = true := by kernel_rfl
theorem chk_f_R09_Pred : chkFunc Try.prog tab 69 f_R09_Pred = true := by kernel_rfl
theorem chk_f_R27_Made : chkFunc Try.prog tab 43 f_R27_Made = true := by kernel_rfl
theorem chk_f_R27_MadeAll : chkFunc Try.prog tab 27 f_R27_MadeAll = true := by kernel_rfl
theorem chk_f_R08_truth : chkFunc Try.prog tab 115 f_R08_truth = true := by kernel_rfl
theorem chk_f_R08_within : chkFunc Try.prog tab 118 f_R08_within = true := by kernel_rfl
theorem chk_f_R08_begins : chkFunc Try.prog tab 119 f_R08_begins = true := by kernel_rfl
theorem chk_f_R08_simple : chkFunc Try.prog tab 113 f_R08_simple = true := by kernel_rfl
theorem chk_f_R08_Value : chkFunc Try.prog tab 114 f_R08_Value = true := by kernel_rfl
theorem chk_f_R08_Eval : chkFunc Try.prog tab 103 f_R08_Eval = true := by kernel_rfl
theorem chk_f_R08_Match : chkFunc Try.prog tab 80 f_R08_Match = true := by kernel_rfl
theorem chk_f_R06_Get : chkFunc Try.prog tab 112 f_R06_Get = true := by kernel_rfl
theorem chk_f_R27_Sum : chkFunc Try.prog tab 102 f_R27_Sum = true := by kernel_rfl
theorem chk_f_R27_Check : chkFunc Try.prog tab 79 f_R27_Check = true := by kernel_rfl
theorem chk_f_R27_Run : chkFunc Try.prog tab 51 f_R27_Run = true := by kernel_rfl
theorem chk_f_R30_Events : chkFunc Try.prog tab 52 f_R30_Events = true := by kernel_rfl
theorem chk_f_R30_Reads : chkFunc Try.prog tab 53 f_R30_Reads = true := by kernel_rfl
theorem chk_f_R30_Programs : chkFunc Try.prog tab 29 f_R30_Programs = true := by kernel_rfl
theorem chk_f_L30_MergeProgramsMatchesReference : chkFunc Try.prog tab 8 f_L30_MergeProgramsMatchesReference = true := by kernel_rfl
theorem chk_f_R27_Replay : chkFunc Try.prog tab 30 f_R27_Replay = true := by kernel_rfl
theorem chk_f_L30_MergeProgramsReplay : chkFunc Try.prog tab 9 f_L30_MergeProgramsReplay = true := by kernel_rfl
theorem link : Link Try.prog tab prog := ⟨by kernel_rfl, fun f F h => by
  unfold prog at h
  split at h
  · cases h; exact chk_f_merge_states_1
  · cases h; exact chk_f_merge_states
  · cases h; exact chk_f_slices_IndexFunc_api_Line_api_Line
  · cases h; exact chk_f_slices_ContainsFunc_api_Line_api_Line
  · cases h; exact chk_f_merge_fits_1
  · cases h; exact chk_f_merge_fits
  · cases h; exact chk_f_slices_Equal_api_Cell_api_Cell
  · cases h; exact chk_f_merge_equal
  · cases h; exact chk_f_merge_fresh_1
  · cases h; exact chk_f_merge_fresh
  · cases h; exact chk_f_merge_Merge
  · cases h; exact chk_f_R06_SameRow
  · cases h; exact chk_f_R27_SameTable
  · cases h; exact chk_f_R30_SameLines
  · cases h; exact chk_f_merge_Base
  · cases h; exact chk_f_pred_Eval_1
  · cases h; exact chk_f_pred_some
  · cases h; exact chk_f_pred_isAtom
  · cases h; exact chk_f_pred_get
  · cases h; exact chk_f_pred_truth
  · cases h; exact chk_f_slices_Index_api_Value_api_Value
  · cases h; exact chk_f_slices_Contains_api_Value_api_Value
  · cases h; exact chk_f_internal_stringslite_HasPrefix
  · cases h; exact chk_f_strings_HasPrefix
  · cases h; exact chk_f_pred_Eval
  · cases h; exact chk_f_pred_Match
  · cases h; exact chk_f_slices_IndexFunc_api_Cell_api_Cell
  · cases h; exact chk_f_program_sum_1
  · cases h; exact chk_f_program_sum
  · cases h; exact chk_f_program_Check
  · cases h; exact chk_f_program_Run
  · cases h; exact chk_f_merge_run
  · cases h; exact chk_f_merge_Programs_1
  · cases h; exact chk_f_lineage_Valid
  · cases h; exact chk_f_lineage_merge_api_Line_api_Line
  · cases h; exact chk_f_lineage_ofLine
  · cases h; exact chk_f_lineage_row
  · cases h; exact chk_f_lineage_Feed_1
  · cases h; exact chk_f_lineage_equal
  · cases h; exact chk_f_lineage_same
  · cases h; exact chk_f_lineage_events
  · cases h; exact chk_f_lineage_Feed
  · cases h; exact chk_f_slices_IndexFunc_api_Event_api_Event
  · cases h; exact chk_f_slices_ContainsFunc_api_Event_api_Event
  · cases h; exact chk_f_merge_Programs_2_1
  · cases h; exact chk_f_merge_Programs_2
  · cases h; exact chk_f_merge_Programs
  · cases h; exact chk_f_L30_sanity
  · cases h; exact chk_f_R06_New
  · cases h; exact chk_f_R06_Field
  · cases h; exact chk_f_R06_group
  · cases h; exact chk_f_R06_depth
  · cases h; exact chk_f_R06_Name
  · cases h; exact chk_f_R06_taken
  · cases h; exact chk_f_R06_plus
  · cases h; exact chk_f_R06_add
  · cases h; exact chk_f_R06_without
  · cases h; exact chk_f_R06_with
  · cases h; exact chk_f_R06_inside
  · cases h; exact chk_f_R06_move
  · cases h; exact chk_f_R06_one
  · cases h; exact chk_f_R06_sep
  · cases h; exact chk_f_R06_split
  · cases h; exact chk_f_R06_join
  · cases h; exact chk_f_R06_Apply
  · cases h; exact chk_f_R06_After
  · cases h; exact chk_f_R06_mod
  · cases h; exact chk_f_R06_name
  · cases h; exact chk_f_R06_Change
  · cases h; exact chk_f_R06_Made
  · cases h; exact chk_f_R05_Type
  · cases h; exact chk_f_R05_Fit
  · cases h; exact chk_f_R05_Made
  · cases h; exact chk_f_R06_Row
  · cases h; exact chk_f_R06_Rows
  · cases h; exact chk_f_R27_Table
  · cases h; exact chk_f_R30_Branch
  · cases h; exact chk_f_L30_made
  · cases h; exact chk_f_R30_Fresh
  · cases h; exact chk_f_R30_find
  · cases h; exact chk_f_R30_fits
  · cases h; exact chk_f_R30_same
  · cases h; exact chk_f_R30_Merge
  · cases h; exact chk_f_L30_MergeMatchesReference
  · cases h; exact chk_f_R30_Base
  · cases h; exact chk_f_L30_MergeBaseMatchesReference
  · cases h; exact chk_f_L30_MergeOneSide
  · cases h; exact chk_f_R30_Rows
  · cases h; exact chk_f_R30_Plain
  · cases h; exact chk_f_L30_MergeIsSymmetric
  · cases h; exact chk_f_L30_row
  · cases h; exact chk_f_R27_ValidTable
  · cases h; exact chk_f_L30_MergeKeepsBoth
  · cases h; exact chk_f_R06_Leaves
  · cases h; exact chk_f_R09_mod
  · cases h; exact chk_f_R05_Compare
  · cases h; exact chk_f_R09_set
  · cases h; exact chk_f_R09_Pred
  · cases h; exact chk_f_R27_Made
  · cases h; exact chk_f_R27_MadeAll
  · cases h; exact chk_f_R08_truth
  · cases h; exact chk_f_R08_within
  · cases h; exact chk_f_R08_begins
  · cases h; exact chk_f_R08_simple
  · cases h; exact chk_f_R08_Value
  · cases h; exact chk_f_R08_Eval
  · cases h; exact chk_f_R08_Match
  · cases h; exact chk_f_R06_Get
  · cases h; exact chk_f_R27_Sum
  · cases h; exact chk_f_R27_Check
  · cases h; exact chk_f_R27_Run
  · cases h; exact chk_f_R30_Events
  · cases h; exact chk_f_R30_Reads
  · cases h; exact chk_f_R30_Programs
  · cases h; exact chk_f_L30_MergeProgramsMatchesReference
  · cases h; exact chk_f_R27_Replay
  · cases h; exact chk_f_L30_MergeProgramsReplay
  · exact absurd h (by simp)⟩
#print axioms link
end Go.Den
