/- Which function of the program each number stands for, and that the checked code is the program's. -/
import Derived.Test.YtcbehobgahcdkaaProg
import Derived.Test.YtcbehobgahcdkaaDenX
import Derived.Test.YtcbehobgahcdkaaFnTp
import Derived.KernelRfl
namespace Go.Den
open Go Go.Proofs
set_option maxRecDepth 100000
def tab : Nat → Nat
  | 113 => 79
  | 114 => 80
  | 115 => 81
  | 116 => 82
  | 117 => 83
  | 111 => 97
  | 118 => 84
  | 112 => 98
  | 119 => 85
  | 110 => 54
  | 120 => 24
  | 122 => 77
  | 121 => 78
  | 123 => 53
  | 124 => 23
  | 125 => 7
  | 5 => 25
  | 14 => 26
  | 10 => 27
  | 3 => 29
  | 13 => 28
  | 1 => 61
  | 2 => 55
  | 4 => 36
  | 15 => 30
  | 21 => 8
  | 6 => 31
  | 9 => 32
  | 7 => 33
  | 11 => 34
  | 8 => 35
  | 17 => 9
  | 12 => 37
  | 109 => 13
  | 126 => 56
  | 128 => 41
  | 161 => 87
  | 162 => 86
  | 163 => 57
  | 164 => 43
  | 165 => 16
  | 100 => 60
  | 102 => 45
  | 101 => 62
  | 104 => 58
  | 103 => 59
  | 106 => 44
  | 107 => 46
  | 105 => 63
  | 108 => 47
  | 132 => 17
  | 166 => 5
  | 62 => 48
  | 47 => 74
  | 49 => 71
  | 50 => 88
  | 48 => 94
  | 51 => 89
  | 52 => 90
  | 58 => 64
  | 55 => 91
  | 54 => 92
  | 53 => 99
  | 56 => 93
  | 59 => 65
  | 57 => 70
  | 60 => 66
  | 61 => 67
  | 63 => 49
  | 88 => 18
  | 64 => 68
  | 65 => 69
  | 66 => 50
  | 87 => 19
  | 71 => 72
  | 72 => 73
  | 67 => 100
  | 68 => 101
  | 69 => 95
  | 70 => 96
  | 74 => 75
  | 73 => 51
  | 75 => 76
  | 76 => 52
  | 89 => 21
  | 151 => 20
  | 90 => 22
  | 167 => 6
  | 24 => 10
  | 169 => 11
  | 168 => 12
  | 134 => 14
  | 170 => 3
  | 129 => 38
  | 130 => 39
  | 127 => 42
  | 131 => 40
  | 133 => 15
  | 171 => 4
  | _ => 1000000
theorem chk_f_pred_Eval_1 : chkFunc Try.prog tab 79 f_pred_Eval_1 = true := by kernel_rfl
theorem chk_f_pred_some : chkFunc Try.prog tab 80 f_pred_some = true := by kernel_rfl
theorem chk_f_pred_isAtom : chkFunc Try.prog tab 81 f_pred_isAtom = true := by kernel_rfl
theorem chk_f_pred_get : chkFunc Try.prog tab 82 f_pred_get = true := by kernel_rfl
theorem chk_f_pred_truth : chkFunc Try.prog tab 83 f_pred_truth = true := by kernel_rfl
theorem chk_f_slices_Index_api_Value_api_Value : chkFunc Try.prog tab 97 f_slices_Index_api_Value_api_Value = true := by kernel_rfl
theorem chk_f_slices_Contains_api_Value_api_Value : chkFunc Try.prog tab 84 f_slices_Contains_api_Value_api_Value = true := by kernel_rfl
theorem chk_f_internal_stringslite_HasPrefix : chkFunc Try.prog tab 98 f_internal_stringslite_HasPrefix = true := by kernel_rfl
theorem chk_f_strings_HasPrefix : chkFunc Try.prog tab 85 f_strings_HasPrefix = true := by kernel_rfl
theorem chk_f_pred_Eval : chkFunc Try.prog tab 54 f_pred_Eval = true := by kernel_rfl
theorem chk_f_pred_Match : chkFunc Try.prog tab 24 f_pred_Match = true := by kernel_rfl
theorem chk_f_slices_IndexFunc_api_Cell_api_Cell : chkFunc Try.prog tab 77 f_slices_IndexFunc_api_Cell_api_Cell = true := by kernel_rfl
theorem chk_f_program_sum_1 : chkFunc Try.prog tab 78 f_program_sum_1 = true := by kernel_rfl
theorem chk_f_program_sum : chkFunc Try.prog tab 53 f_program_sum = true := by kernel_rfl
theorem chk_f_program_Check : chkFunc Try.prog tab 23 f_program_Check = true := by kernel_rfl
theorem chk_f_program_Run : chkFunc Try.prog tab 7 f_program_Run = true := by kernel_rfl
theorem chk_f_lineage_Valid : chkFunc Try.prog tab 25 f_lineage_Valid = true := by kernel_rfl
theorem chk_f_lineage_merge_api_Line_api_Line : chkFunc Try.prog tab 26 f_lineage_merge_api_Line_api_Line = true := by kernel_rfl
theorem chk_f_lineage_ofLine : chkFunc Try.prog tab 27 f_lineage_ofLine = true := by kernel_rfl
theorem chk_f_lineage_row : chkFunc Try.prog tab 29 f_lineage_row = true := by kernel_rfl
theorem chk_f_lineage_Feed_1 : chkFunc Try.prog tab 28 f_lineage_Feed_1 = true := by kernel_rfl
theorem chk_f_slices_Equal_api_Cell_api_Cell : chkFunc Try.prog tab 61 f_slices_Equal_api_Cell_api_Cell = true := by kernel_rfl
theorem chk_f_lineage_equal : chkFunc Try.prog tab 55 f_lineage_equal = true := by kernel_rfl
theorem chk_f_lineage_same : chkFunc Try.prog tab 36 f_lineage_same = true := by kernel_rfl
theorem chk_f_lineage_events : chkFunc Try.prog tab 30 f_lineage_events = true := by kernel_rfl
theorem chk_f_lineage_Feed : chkFunc Try.prog tab 8 f_lineage_Feed = true := by kernel_rfl
theorem chk_f_lineage_isFeed : chkFunc Try.prog tab 31 f_lineage_isFeed = true := by kernel_rfl
theorem chk_f_lineage_merge_api_Line_lineage_item : chkFunc Try.prog tab 32 f_lineage_merge_api_Line_lineage_item = true := by kernel_rfl
theorem chk_f_lineage_items : chkFunc Try.prog tab 33 f_lineage_items = true := by kernel_rfl
theorem chk_f_lineage_ofItem : chkFunc Try.prog tab 34 f_lineage_ofItem = true := by kernel_rfl
theorem chk_f_lineage_Apply_1 : chkFunc Try.prog tab 35 f_lineage_Apply_1 = true := by kernel_rfl
theorem chk_f_lineage_Apply : chkFunc Try.prog tab 9 f_lineage_Apply = true := by kernel_rfl
theorem chk_f_R06_SameRow : chkFunc Try.prog tab 37 f_R06_SameRow = true := by kernel_rfl
theorem chk_f_R27_SameTable : chkFunc Try.prog tab 13 f_R27_SameTable = true := by kernel_rfl
theorem chk_f_slices_IndexFunc_api_Event_api_Event : chkFunc Try.prog tab 56 f_slices_IndexFunc_api_Event_api_Event = true := by kernel_rfl
theorem chk_f_slices_ContainsFunc_api_Event_api_Event : chkFunc Try.prog tab 41 f_slices_ContainsFunc_api_Event_api_Event = true := by kernel_rfl
theorem chk_f_rebase_meets_1_1 : chkFunc Try.prog tab 87 f_rebase_meets_1_1 = true := by kernel_rfl
theorem chk_f_rebase_meets_1 : chkFunc Try.prog tab 86 f_rebase_meets_1 = true := by kernel_rfl
theorem chk_f_rebase_meets : chkFunc Try.prog tab 57 f_rebase_meets = true := by kernel_rfl
theorem chk_f_rebase_verdict : chkFunc Try.prog tab 43 f_rebase_verdict = true := by kernel_rfl
theorem chk_f_rebase_Rebase : chkFunc Try.prog tab 16 f_rebase_Rebase = true := by kernel_rfl
theorem chk_f_merge_states_1 : chkFunc Try.prog tab 60 f_merge_states_1 = true := by kernel_rfl
theorem chk_f_merge_states : chkFunc Try.prog tab 45 f_merge_states = true := by kernel_rfl
theorem chk_f_slices_IndexFunc_api_Line_api_Line : chkFunc Try.prog tab 62 f_slices_IndexFunc_api_Line_api_Line = true := by kernel_rfl
theorem chk_f_slices_ContainsFunc_api_Line_api_Line : chkFunc Try.prog tab 58 f_slices_ContainsFunc_api_Line_api_Line = true := by kernel_rfl
theorem chk_f_merge_fits_1 : chkFunc Try.prog tab 59 f_merge_fits_1 = true := by kernel_rfl
theorem chk_f_merge_fits : chkFunc Try.prog tab 44 f_merge_fits = true := by kernel_rfl
theorem chk_f_merge_equal : chkFunc Try.prog tab 46 f_merge_equal = true := by kernel_rfl
theorem chk_f_merge_fresh_1 : chkFunc Try.prog tab 63 f_merge_fresh_1 = true := by kernel_rfl
theorem chk_f_merge_fresh : chkFunc Try.prog tab 47 f_merge_fresh = true := by kernel_rfl
theorem chk_f_merge_Merge : chkFunc Try.prog tab 17 f_merge_Merge = true := by kernel_rfl
theorem chk_f_T_sanity32 : chkFunc Try.prog tab 5 f_T_sanity32 = true := by kernel_rfl
theorem chk_f_R06_New : chkFunc Try.prog tab 48 f_R06_New = true := by kernel_rfl
theorem chk_f_R06_Field : chkFunc Try.prog tab 74 f_R06_Field = true := by kernel_rfl
theorem chk_f_R06_group : chkFunc Try.prog tab 71 f_R06_group = true := by kernel_rfl
theorem chk_f_R06_depth : chkFunc Try.prog tab 88 f_R06_depth = true := by kernel_rfl
theorem chk_f_R06_Name : chkFunc Try.prog tab 94 f_R06_Name = true := by kernel_rfl
theorem chk_f_R06_taken : chkFunc Try.prog tab 89 f_R06_taken = true := by kernel_rfl
theorem chk_f_R06_plus : chkFunc Try.prog tab 90 f_R06_plus = true := by kernel_rfl
theorem chk_f_R06_add : chkFunc Try.prog tab 64 f_R06_add = true := by kernel_rfl
theorem chk_f_R06_without : chkFunc Try.prog tab 91 f_R06_without = true := by kernel_rfl
theorem chk_f_R06_with : chkFunc Try.prog tab 92 f_R06_with = true := by kernel_rfl
theorem chk_f_R06_inside : chkFunc Try.prog tab 99 f_R06_inside = true := by kernel_rfl
theorem chk_f_R06_move : chkFunc Try.prog tab 93 f_R06_move = true := by kernel_rfl
theorem chk_f_R06_one : chkFunc Try.prog tab 65 f_R06_one = true := by kernel_rfl
theorem chk_f_R06_sep : chkFunc Try.prog tab 70 f_R06_sep = true := by kernel_rfl
theorem chk_f_R06_split : chkFunc Try.prog tab 66 f_R06_split = true := by kernel_rfl
theorem chk_f_R06_join : chkFunc Try.prog tab 67 f_R06_join = true := by kernel_rfl
theorem chk_f_R06_Apply : chkFunc Try.prog tab 49 f_R06_Apply = true := by kernel_rfl
theorem chk_f_R06_After : chkFunc Try.prog tab 18 f_R06_After = true := by kernel_rfl
theorem chk_f_R06_mod : chkFunc Try.prog tab 68 f_R06_mod = true := by kernel_rfl
theorem chk_f_R06_name : chkFunc Try.prog tab 69 f_R06_name = true := by kernel_rfl
theorem chk_f_R06_Change : chkFunc Try.prog tab 50 f_R06_Change = true := by kernel_rfl
theorem chk_f_R06_Made : chkFunc Try.prog tab 19 f_R06_Made = true := by kernel_rfl
theorem chk_f_R06_Leaves : chkFunc Try.prog tab 72 f_R06_Leaves = true := by kernel_rfl
theorem chk_f_R09_mod : chkFunc Try.prog tab 73 f_R09_mod = true := by kernel_rfl
theorem chk_f_R05_Type : chkFunc Try.prog tab 100 f_R05_Type = true := by kernel_rfl
theorem chk_f_R05_Fit : chkFunc Try.prog tab 101 f_R05_Fit = true := by kernel_rfl
theorem chk_f_R05_Made : chkFunc Try.prog tab 95 f_R05_Made = true := by kernel_rfl
theorem chk_f_R05_Compare : chkFunc Try.prog tab 96 f_R05_Compare = true := by kernel_rfl
theorem chk_f_R09_set : chkFunc Try.prog tab 75 f_R09_set = true := by kernel_rfl
theorem chk_f_R09_Pred : chkFunc Try.prog tab 51 f_R09_Pred = true := by kernel_rfl
theorem chk_f_R06_Row : chkFunc Try.prog tab 76 f_R06_Row = true := by kernel_rfl
theorem chk_f_R06_Rows : chkFunc Try.prog tab 52 f_R06_Rows = true := by kernel_rfl
theorem chk_f_R27_Made : chkFunc Try.prog tab 21 f_R27_Made = true := by kernel_rfl
theorem chk_f_R27_MadeAll : chkFunc Try.prog tab 20 f_R27_MadeAll = true := by kernel_rfl
theorem chk_f_R27_Table : chkFunc Try.prog tab 22 f_R27_Table = true := by kernel_rfl
theorem chk_f_T_commits : chkFunc Try.prog tab 6 f_T_commits = true := by kernel_rfl
theorem chk_f_lineage_Invert : chkFunc Try.prog tab 10 f_lineage_Invert = true := by kernel_rfl
theorem chk_f_R27_SameEvents : chkFunc Try.prog tab 11 f_R27_SameEvents = true := by kernel_rfl
theorem chk_f_program_Touched : chkFunc Try.prog tab 12 f_program_Touched = true := by kernel_rfl
theorem chk_f_R30_SameLines : chkFunc Try.prog tab 14 f_R30_SameLines = true := by kernel_rfl
theorem chk_f_T_TopFeedsFollowPrograms : chkFunc Try.prog tab 3 f_T_TopFeedsFollowPrograms = true := by kernel_rfl
theorem chk_f_merge_run : chkFunc Try.prog tab 38 f_merge_run = true := by kernel_rfl
theorem chk_f_merge_Programs_1 : chkFunc Try.prog tab 39 f_merge_Programs_1 = true := by kernel_rfl
theorem chk_f_merge_Programs_2_1 : chkFunc Try.prog tab 42 f_merge_Programs_2_1 = true := by kernel_rfl
theorem chk_f_merge_Programs_2 : chkFunc Try.prog tab 40 f_merge_Programs_2 = true := by kernel_rfl
theorem chk_f_merge_Programs : chkFunc Try.prog tab 15 f_merge_Programs = true := by kernel_rfl
theorem chk_f_T_TopMergedProgramsAreCommits : chkFunc Try.prog tab 4 f_T_TopMergedProgramsAreCommits = true := by kernel_rfl
theorem link : Link Try.prog tab prog := ⟨by kernel_rfl, fun f F h => by
  unfold prog at h
  split at h
  · cases h; exact chk_f_pred_Eval_1
  · cases h; exact chk_f_pred_some
  · cases h; exact chk_f_pred_isAtom
  · cases h; exact chk_f_pred_get
  · cases h; exact chk_f_pred_truth
  · cases h; exact chk_f_slices_Index_api_Value_api_Value
  · cases h; exact chk_f_slices_Contains_api_Value_api_Value
  · cases h; exact chk_f_internal_stringslite_HasPrefix
  · cases h; exact chk_f_strings_HasPrefix
  · cases h; exact chk_f_pred_Eval
  · cases h; exact chk_f_pred_Match
  · cases h; exact chk_f_slices_IndexFunc_api_Cell_api_Cell
  · cases h; exact chk_f_program_sum_1
  · cases h; exact chk_f_program_sum
  · cases h; exact chk_f_program_Check
  · cases h; exact chk_f_program_Run
  · cases h; exact chk_f_lineage_Valid
  · cases h; exact chk_f_lineage_merge_api_Line_api_Line
  · cases h; exact chk_f_lineage_ofLine
  · cases h; exact chk_f_lineage_row
  · cases h; exact chk_f_lineage_Feed_1
  · cases h; exact chk_f_slices_Equal_api_Cell_api_Cell
  · cases h; exact chk_f_lineage_equal
  · cases h; exact chk_f_lineage_same
  · cases h; exact chk_f_lineage_events
  · cases h; exact chk_f_lineage_Feed
  · cases h; exact chk_f_lineage_isFeed
  · cases h; exact chk_f_lineage_merge_api_Line_lineage_item
  · cases h; exact chk_f_lineage_items
  · cases h; exact chk_f_lineage_ofItem
  · cases h; exact chk_f_lineage_Apply_1
  · cases h; exact chk_f_lineage_Apply
  · cases h; exact chk_f_R06_SameRow
  · cases h; exact chk_f_R27_SameTable
  · cases h; exact chk_f_slices_IndexFunc_api_Event_api_Event
  · cases h; exact chk_f_slices_ContainsFunc_api_Event_api_Event
  · cases h; exact chk_f_rebase_meets_1_1
  · cases h; exact chk_f_rebase_meets_1
  · cases h; exact chk_f_rebase_meets
  · cases h; exact chk_f_rebase_verdict
  · cases h; exact chk_f_rebase_Rebase
  · cases h; exact chk_f_merge_states_1
  · cases h; exact chk_f_merge_states
  · cases h; exact chk_f_slices_IndexFunc_api_Line_api_Line
  · cases h; exact chk_f_slices_ContainsFunc_api_Line_api_Line
  · cases h; exact chk_f_merge_fits_1
  · cases h; exact chk_f_merge_fits
  · cases h; exact chk_f_merge_equal
  · cases h; exact chk_f_merge_fresh_1
  · cases h; exact chk_f_merge_fresh
  · cases h; exact chk_f_merge_Merge
  · cases h; exact chk_f_T_sanity32
  · cases h; exact chk_f_R06_New
  · cases h; exact chk_f_R06_Field
  · cases h; exact chk_f_R06_group
  · cases h; exact chk_f_R06_depth
  · cases h; exact chk_f_R06_Name
  · cases h; exact chk_f_R06_taken
  · cases h; exact chk_f_R06_plus
  · cases h; exact chk_f_R06_add
  · cases h; exact chk_f_R06_without
  · cases h; exact chk_f_R06_with
  · cases h; exact chk_f_R06_inside
  · cases h; exact chk_f_R06_move
  · cases h; exact chk_f_R06_one
  · cases h; exact chk_f_R06_sep
  · cases h; exact chk_f_R06_split
  · cases h; exact chk_f_R06_join
  · cases h; exact chk_f_R06_Apply
  · cases h; exact chk_f_R06_After
  · cases h; exact chk_f_R06_mod
  · cases h; exact chk_f_R06_name
  · cases h; exact chk_f_R06_Change
  · cases h; exact chk_f_R06_Made
  · cases h; exact chk_f_R06_Leaves
  · cases h; exact chk_f_R09_mod
  · cases h; exact chk_f_R05_Type
  · cases h; exact chk_f_R05_Fit
  · cases h; exact chk_f_R05_Made
  · cases h; exact chk_f_R05_Compare
  · cases h; exact chk_f_R09_set
  · cases h; exact chk_f_R09_Pred
  · cases h; exact chk_f_R06_Row
  · cases h; exact chk_f_R06_Rows
  · cases h; exact chk_f_R27_Made
  · cases h; exact chk_f_R27_MadeAll
  · cases h; exact chk_f_R27_Table
  · cases h; exact chk_f_T_commits
  · cases h; exact chk_f_lineage_Invert
  · cases h; exact chk_f_R27_SameEvents
  · cases h; exact chk_f_program_Touched
  · cases h; exact chk_f_R30_SameLines
  · cases h; exact chk_f_T_TopFeedsFollowPrograms
  · cases h; exact chk_f_merge_run
  · cases h; exact chk_f_merge_Programs_1
  · cases h; exact chk_f_merge_Programs_2_1
  · cases h; exact chk_f_merge_Programs_2
  · cases h; exact chk_f_merge_Programs
  · cases h; exact chk_f_T_TopMergedProgramsAreCommits
  · exact absurd h (by simp)⟩
#print axioms link
end Go.Den
