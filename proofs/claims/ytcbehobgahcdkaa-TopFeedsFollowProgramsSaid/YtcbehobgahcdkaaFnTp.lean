/- The functions that the statements reach, as checked code: printed by gen.py out of Lean's own print of the translation. -/
import Derived.Test.YtcbehobgahcdkaaFnTpp0
namespace Go.Den
open Go
set_option maxRecDepth 100000
/-! fenland/fenlandtop.TopMergedProgramsAreCommits -/
def f_T_TopMergedProgramsAreCommits_l1u : ACode := .seq (.seq (.region [⟨some 79, .mov (.t 17), none⟩,
    ⟨some 80, .mov (.t 8), none⟩,
    ⟨some 81, .len false (.t 80), none⟩,
    ⟨some 82, .bin .lss .num (.t 79) (.t 81), none⟩] [3, 6, 7, 8, 9, 10, 11, 12, 16, 17, 82]) (.cond (.t 82) (.skip) (.exit 2))) (.seq (.block 3 (.seq (.dregion [⟨some 86, .mov (.t 8), none⟩,
    ⟨some 87, .mov (.t 17), none⟩,
    ⟨some 88, .idxa 16 (.t 86) (.t 87), none⟩,
    ⟨some 89, .load true 16 (.t 88), none⟩,
    ⟨some 90, .mov (.t 16), none⟩,
    ⟨some 91, .load true 2 (.t 12), none⟩,
    ⟨some 92, .call 0 165 [.t 89, .t 90, .t 91], none⟩,
    ⟨some 85, .mov (.t 92), none⟩,
    ⟨some 93, .extract (.t 85) 0, none⟩,
    ⟨some 94, .extract (.t 85) 1, none⟩,
    ⟨some 95, .extract (.t 85) 2, none⟩,
    ⟨some 19, .alloc [.int .i64 0, .nils] [], none⟩,
    ⟨some 18, .mov (.t 93), none⟩,
    ⟨none, .store 2 (.t 19) (.t 94), none⟩,
    ⟨some 20, .mov (.t 95), none⟩] [(6, 11)] [3, 6, 7, 8, 9, 10, 11, 12, 16, 17, 19, 20]) (.seq (.seq (.region [⟨some 96, .mov (.t 20), none⟩,
    ⟨some 97, .bin .neq .num (.t 96) (.c (.int .i64 0)), none⟩] [3, 6, 7, 8, 9, 10, 11, 12, 16, 17, 19, 20, 97]) (.cond (.t 97) (.seq (.region [⟨some 98, .mov (.t 3), none⟩,
    ⟨some 99, .mov (.t 98), none⟩,
    ⟨some 100, .mov (.t 10), some (99, true)⟩,
    ⟨some 101, .mov (.t 7), some (99, true)⟩,
    ⟨some 102, .len false (.t 101), some (99, true)⟩,
    ⟨some 103, .mov (.t 17), some (99, true)⟩,
    ⟨some 104, .bin .add .num (.t 102) (.t 103), some (99, true)⟩,
    ⟨some 105, .bin .eql .num (.t 100) (.t 104), some (99, true)⟩,
    ⟨some 106, .pick (.t 99) (.t 105) (.c (.bool false)), none⟩,
    ⟨some 107, .mov (.t 106), none⟩,
    ⟨some 108, .mov (.t 11), some (107, true)⟩,
    ⟨some 109, .mov (.t 20), some (107, true)⟩,
    ⟨some 110, .bin .eql .num (.t 108) (.t 109), some (107, true)⟩,
    ⟨some 111, .pick (.t 107) (.t 110) (.c (.bool false)), none⟩,
    ⟨some 2, .mov (.t 111), none⟩] [2]) (.ret)) (.skip))) (.region [⟨some 112, .load true 2 (.t 19), none⟩,
    ⟨none, .store 2 (.t 12) (.t 112), none⟩] [3, 6, 7, 8, 9, 10, 11, 12, 16, 17])))) (.region [⟨some 83, .mov (.t 17), none⟩,
    ⟨some 84, .bin .add .num (.t 83) (.c (.int .i64 1)), none⟩,
    ⟨some 17, .mov (.t 84), none⟩] [3, 6, 7, 8, 9, 10, 11, 12, 16, 17]))
def f_T_TopMergedProgramsAreCommits_l1 : ACode := f_T_TopMergedProgramsAreCommits_l1u
theorem f_T_TopMergedProgramsAreCommits_l1_eq (G : Nat → Option AFunc) (base : Nat) (e : Env) (s : St) : Run G base f_T_TopMergedProgramsAreCommits_l1 e s = Run G base f_T_TopMergedProgramsAreCommits_l1u e s := (rfl)
def f_T_TopMergedProgramsAreCommits_l0u : ACode := .seq (.seq (.region [⟨some 47, .mov (.t 13), none⟩,
    ⟨some 48, .mov (.t 7), none⟩,
    ⟨some 49, .len false (.t 48), none⟩,
    ⟨some 50, .bin .lss .num (.t 47) (.t 49), none⟩] [3, 5, 6, 7, 8, 9, 10, 11, 12, 13, 50]) (.cond (.t 50) (.skip) (.exit 0))) (.seq (.block 1 (.seq (.dregion [⟨some 54, .mov (.t 7), none⟩,
    ⟨some 55, .mov (.t 13), none⟩,
    ⟨some 56, .idxa 16 (.t 54) (.t 55), none⟩,
    ⟨some 57, .load true 16 (.t 56), none⟩,
    ⟨some 58, .load true 2 (.t 12), none⟩,
    ⟨some 59, .call 0 125 [.t 57, .t 58], none⟩,
    ⟨some 53, .mov (.t 59), none⟩,
    ⟨some 60, .extract (.t 53) 0, none⟩,
    ⟨some 61, .extract (.t 53) 1, none⟩,
    ⟨some 14, .alloc [.int .i64 0, .nils] [], none⟩,
    ⟨none, .store 2 (.t 14) (.t 60), none⟩,
    ⟨some 15, .mov (.t 61), none⟩] [(5, 9)] [3, 5, 6, 7, 8, 9, 10, 11, 12, 13, 14, 15]) (.seq (.seq (.region [⟨some 62, .mov (.t 15), none⟩,
    ⟨some 63, .bin .neq .num (.t 62) (.c (.int .i64 0)), none⟩] [3, 5, 6, 7, 8, 9, 10, 11, 12, 13, 14, 15, 63]) (.cond (.t 63) (.seq (.region [⟨some 64, .mov (.t 3), none⟩,
    ⟨some 65, .mov (.t 64), none⟩,
    ⟨some 66, .mov (.t 10), some (65, true)⟩,
    ⟨some 67, .mov (.t 13), some (65, true)⟩,
    ⟨some 68, .bin .eql .num (.t 66) (.t 67), some (65, true)⟩,
    ⟨some 69, .pick (.t 65) (.t 68) (.c (.bool false)), none⟩,
    ⟨some 70, .mov (.t 69), none⟩,
    ⟨some 71, .mov (.t 11), some (70, true)⟩,
    ⟨some 72, .mov (.t 15), some (70, true)⟩,
    ⟨some 73, .bin .eql .num (.t 71) (.t 72), some (70, true)⟩,
    ⟨some 74, .pick (.t 70) (.t 73) (.c (.bool false)), none⟩,
    ⟨some 2, .mov (.t 74), none⟩] [2]) (.ret)) (.skip))) (.region [⟨some 75, .load true 2 (.t 14), none⟩,
    ⟨none, .store 2 (.t 12) (.t 75), none⟩] [3, 5, 6, 7, 8, 9, 10, 11, 12, 13])))) (.region [⟨some 51, .mov (.t 13), none⟩,
    ⟨some 52, .bin .add .num (.t 51) (.c (.int .i64 1)), none⟩,
    ⟨some 13, .mov (.t 52), none⟩] [3, 5, 6, 7, 8, 9, 10, 11, 12, 13]))
def f_T_TopMergedProgramsAreCommits_l0 : ACode := f_T_TopMergedProgramsAreCommits_l0u
theorem f_T_TopMergedProgramsAreCommits_l0_eq (G : Nat → Option AFunc) (base : Nat) (e : Env) (s : St) : Run G base f_T_TopMergedProgramsAreCommits_l0 e s = Run G base f_T_TopMergedProgramsAreCommits_l0u e s := (rfl)
def f_T_TopMergedProgramsAreCommits : AFunc := ⟨1, .no, [.t 2],
  .seq (.region [⟨some 1, .box true 35 (.t 0), none⟩,
    ⟨some 2, .mov (.c (.bool false)), none⟩] [1]) (.seq (.region [⟨some 21, .call 0 166 [], none⟩,
    ⟨some 3, .mov (.t 21), none⟩] [1, 3]) (.seq (.region [⟨some 23, .load true 35 (.t 1), none⟩,
    ⟨some 24, .call 0 167 [.t 23], none⟩,
    ⟨some 22, .mov (.t 24), none⟩,
    ⟨some 25, .extract (.t 22) 0, none⟩,
    ⟨some 26, .extract (.t 22) 1, none⟩,
    ⟨some 27, .extract (.t 22) 2, none⟩,
    ⟨some 4, .alloc [.nils, .int .i64 0] [], none⟩,
    ⟨some 5, .alloc [.int .i64 0, .nils] [], none⟩,
    ⟨none, .store 2 (.t 4) (.t 25), none⟩,
    ⟨none, .store 2 (.t 5) (.t 26), none⟩,
    ⟨some 6, .mov (.t 27), none⟩] [3, 5, 6]) (.seq (.region [⟨some 28, .mov (.t 6), none⟩,
    ⟨some 29, .mov (.t 6), none⟩,
    ⟨some 30, .len false (.t 29), none⟩,
    ⟨some 31, .bin .sub .num (.t 30) (.c (.int .i64 2)), none⟩,
    ⟨some 32, .slice 16 (.t 28) none (some (.t 31)) none, none⟩,
    ⟨some 7, .mov (.t 32), none⟩] [3, 5, 6, 7]) (.seq (.region [⟨some 33, .mov (.t 6), none⟩,
    ⟨some 34, .mov (.t 6), none⟩,
    ⟨some 35, .len false (.t 34), none⟩,
    ⟨some 36, .bin .sub .num (.t 35) (.c (.int .i64 2)), none⟩,
    ⟨some 37, .slice 16 (.t 33) (some (.t 36)) none none, none⟩,
    ⟨some 8, .mov (.t 37), none⟩] [3, 5, 6, 7, 8]) (.seq (.region [⟨some 39, .load true 2 (.t 5), none⟩,
    ⟨some 40, .mov (.t 7), none⟩,
    ⟨some 41, .mov (.t 8), none⟩,
    ⟨some 42, .call 0 133 [.t 39, .t 40, .t 41], none⟩,
    ⟨some 38, .mov (.t 42), none⟩,
    ⟨some 43, .extract (.t 38) 0, none⟩,
    ⟨some 44, .extract (.t 38) 1, none⟩,
    ⟨some 45, .extract (.t 38) 2, none⟩,
    ⟨some 9, .alloc [.int .i64 0, .nils] [], none⟩,
    ⟨none, .store 2 (.t 9) (.t 43), none⟩,
    ⟨some 10, .mov (.t 44), none⟩,
    ⟨some 11, .mov (.t 45), none⟩] [3, 5, 6, 7, 8, 9, 10, 11]) (.seq (.region [⟨some 46, .load true 2 (.t 5), none⟩,
    ⟨some 12, .alloc [.int .i64 0, .nils] [], none⟩,
    ⟨none, .store 2 (.t 12) (.t 46), none⟩] [3, 5, 6, 7, 8, 9, 10, 11, 12]) (.seq (.seq (.region [⟨some 13, .mov (.c (.int .i64 0)), none⟩] [3, 5, 6, 7, 8, 9, 10, 11, 12, 13]) (.block 0 (.loop 4 [3, 5, 6, 7, 8, 9, 10, 11, 12, 13] f_T_TopMergedProgramsAreCommits_l0))) (.seq (.region [⟨some 76, .load true 2 (.t 5), none⟩,
    ⟨some 77, .load true 2 (.t 12), none⟩,
    ⟨some 78, .call 0 21 [.t 76, .t 77], none⟩,
    ⟨some 16, .mov (.t 78), none⟩] [3, 6, 7, 8, 9, 10, 11, 12, 16]) (.seq (.seq (.region [⟨some 17, .mov (.c (.int .i64 0)), none⟩] [3, 6, 7, 8, 9, 10, 11, 12, 16, 17]) (.block 2 (.loop 4 [3, 6, 7, 8, 9, 10, 11, 12, 16, 17] f_T_TopMergedProgramsAreCommits_l1))) (.seq (.region [⟨some 113, .mov (.t 3), none⟩,
    ⟨some 114, .mov (.t 113), none⟩,
    ⟨some 115, .mov (.t 10), some (114, true)⟩,
    ⟨some 116, .mov (.t 6), some (114, true)⟩,
    ⟨some 117, .len false (.t 116), some (114, true)⟩,
    ⟨some 118, .bin .eql .num (.t 115) (.t 117), some (114, true)⟩,
    ⟨some 119, .pick (.t 114) (.t 118) (.c (.bool false)), none⟩,
    ⟨some 120, .mov (.t 119), none⟩,
    ⟨some 121, .mov (.t 11), some (120, true)⟩,
    ⟨some 122, .bin .eql .num (.t 121) (.c (.int .i64 0)), some (120, true)⟩,
    ⟨some 123, .pick (.t 120) (.t 122) (.c (.bool false)), none⟩,
    ⟨some 124, .mov (.t 123), none⟩,
    ⟨some 125, .load true 2 (.t 9), some (124, true)⟩,
    ⟨some 126, .load true 2 (.t 12), some (124, true)⟩,
    ⟨some 127, .call 0 109 [.t 125, .t 126], some (124, true)⟩,
    ⟨some 128, .pick (.t 124) (.t 127) (.c (.bool false)), none⟩,
    ⟨some 2, .mov (.t 128), none⟩] [2]) (.ret)))))))))))⟩
def prog : Nat → Option AFunc
  | 113 => some f_pred_Eval_1
  | 114 => some f_pred_some
  | 115 => some f_pred_isAtom
  | 116 => some f_pred_get
  | 117 => some f_pred_truth
  | 111 => some f_slices_Index_api_Value_api_Value
  | 118 => some f_slices_Contains_api_Value_api_Value
  | 112 => some f_internal_stringslite_HasPrefix
  | 119 => some f_strings_HasPrefix
  | 110 => some f_pred_Eval
  | 120 => some f_pred_Match
  | 122 => some f_slices_IndexFunc_api_Cell_api_Cell
  | 121 => some f_program_sum_1
  | 123 => some f_program_sum
  | 124 => some f_program_Check
  | 125 => some f_program_Run
  | 5 => some f_lineage_Valid
  | 14 => some f_lineage_merge_api_Line_api_Line
  | 10 => some f_lineage_ofLine
  | 3 => some f_lineage_row
  | 13 => some f_lineage_Feed_1
  | 1 => some f_slices_Equal_api_Cell_api_Cell
  | 2 => some f_lineage_equal
  | 4 => some f_lineage_same
  | 15 => some f_lineage_events
  | 21 => some f_lineage_Feed
  | 6 => some f_lineage_isFeed
  | 9 => some f_lineage_merge_api_Line_lineage_item
  | 7 => some f_lineage_items
  | 11 => some f_lineage_ofItem
  | 8 => some f_lineage_Apply_1
  | 17 => some f_lineage_Apply
  | 12 => some f_R06_SameRow
  | 109 => some f_R27_SameTable
  | 126 => some f_slices_IndexFunc_api_Event_api_Event
  | 128 => some f_slices_ContainsFunc_api_Event_api_Event
  | 161 => some f_rebase_meets_1_1
  | 162 => some f_rebase_meets_1
  | 163 => some f_rebase_meets
  | 164 => some f_rebase_verdict
  | 165 => some f_rebase_Rebase
  | 100 => some f_merge_states_1
  | 102 => some f_merge_states
  | 101 => some f_slices_IndexFunc_api_Line_api_Line
  | 104 => some f_slices_ContainsFunc_api_Line_api_Line
  | 103 => some f_merge_fits_1
  | 106 => some f_merge_fits
  | 107 => some f_merge_equal
  | 105 => some f_merge_fresh_1
  | 108 => some f_merge_fresh
  | 132 => some f_merge_Merge
  | 166 => some f_T_sanity32
  | 62 => some f_R06_New
  | 47 => some f_R06_Field
  | 49 => some f_R06_group
  | 50 => some f_R06_depth
  | 48 => some f_R06_Name
  | 51 => some f_R06_taken
  | 52 => some f_R06_plus
  | 58 => some f_R06_add
  | 55 => some f_R06_without
  | 54 => some f_R06_with
  | 53 => some f_R06_inside
  | 56 => some f_R06_move
  | 59 => some f_R06_one
  | 57 => some f_R06_sep
  | 60 => some f_R06_split
  | 61 => some f_R06_join
  | 63 => some f_R06_Apply
  | 88 => some f_R06_After
  | 64 => some f_R06_mod
  | 65 => some f_R06_name
  | 66 => some f_R06_Change
  | 87 => some f_R06_Made
  | 71 => some f_R06_Leaves
  | 72 => some f_R09_mod
  | 67 => some f_R05_Type
  | 68 => some f_R05_Fit
  | 69 => some f_R05_Made
  | 70 => some f_R05_Compare
  | 74 => some f_R09_set
  | 73 => some f_R09_Pred
  | 75 => some f_R06_Row
  | 76 => some f_R06_Rows
  | 89 => some f_R27_Made
  | 151 => some f_R27_MadeAll
  | 90 => some f_R27_Table
  | 167 => some f_T_commits
  | 24 => some f_lineage_Invert
  | 169 => some f_R27_SameEvents
  | 168 => some f_program_Touched
  | 134 => some f_R30_SameLines
  | 170 => some f_T_TopFeedsFollowPrograms
  | 129 => some f_merge_run
  | 130 => some f_merge_Programs_1
  | 127 => some f_merge_Programs_2_1
  | 131 => some f_merge_Programs_2
  | 133 => some f_merge_Programs
  | 171 => some f_T_TopMergedProgramsAreCommits
  | _ => none
theorem pr_pred_Eval_1 : prog 113 = some f_pred_Eval_1 := rfl
theorem pr_pred_some : prog 114 = some f_pred_some := rfl
theorem pr_pred_isAtom : prog 115 = some f_pred_isAtom := rfl
theorem pr_pred_get : prog 116 = some f_pred_get := rfl
theorem pr_pred_truth : prog 117 = some f_pred_truth := rfl
theorem pr_slices_Index_api_Value_api_Value : prog 111 = some f_slices_Index_api_Value_api_Value := rfl
theorem pr_slices_Contains_api_Value_api_Value : prog 118 = some f_slices_Contains_api_Value_api_Value := rfl
theorem pr_internal_stringslite_HasPrefix : prog 112 = some f_internal_stringslite_HasPrefix := rfl
theorem pr_strings_HasPrefix : prog 119 = some f_strings_HasPrefix := rfl
theorem pr_pred_Eval : prog 110 = some f_pred_Eval := rfl
theorem pr_pred_Match : prog 120 = some f_pred_Match := rfl
theorem pr_slices_IndexFunc_api_Cell_api_Cell : prog 122 = some f_slices_IndexFunc_api_Cell_api_Cell := rfl
theorem pr_program_sum_1 : prog 121 = some f_program_sum_1 := rfl
theorem pr_program_sum : prog 123 = some f_program_sum := rfl
theorem pr_program_Check : prog 124 = some f_program_Check := rfl
theorem pr_program_Run : prog 125 = some f_program_Run := rfl
theorem pr_lineage_Valid : prog 5 = some f_lineage_Valid := rfl
theorem pr_lineage_merge_api_Line_api_Line : prog 14 = some f_lineage_merge_api_Line_api_Line := rfl
theorem pr_lineage_ofLine : prog 10 = some f_lineage_ofLine := rfl
theorem pr_lineage_row : prog 3 = some f_lineage_row := rfl
theorem pr_lineage_Feed_1 : prog 13 = some f_lineage_Feed_1 := rfl
theorem pr_slices_Equal_api_Cell_api_Cell : prog 1 = some f_slices_Equal_api_Cell_api_Cell := rfl
theorem pr_lineage_equal : prog 2 = some f_lineage_equal := rfl
theorem pr_lineage_same : prog 4 = some f_lineage_same := rfl
theorem pr_lineage_events : prog 15 = some f_lineage_events := rfl
theorem pr_lineage_Feed : prog 21 = some f_lineage_Feed := rfl
theorem pr_lineage_isFeed : prog 6 = some f_lineage_isFeed := rfl
theorem pr_lineage_merge_api_Line_lineage_item : prog 9 = some f_lineage_merge_api_Line_lineage_item := rfl
theorem pr_lineage_items : prog 7 = some f_lineage_items := rfl
theorem pr_lineage_ofItem : prog 11 = some f_lineage_ofItem := rfl
theorem pr_lineage_Apply_1 : prog 8 = some f_lineage_Apply_1 := rfl
theorem pr_lineage_Apply : prog 17 = some f_lineage_Apply := rfl
theorem pr_R06_SameRow : prog 12 = some f_R06_SameRow := rfl
theorem pr_R27_SameTable : prog 109 = some f_R27_SameTable := rfl
theorem pr_slices_IndexFunc_api_Event_api_Event : prog 126 = some f_slices_IndexFunc_api_Event_api_Event := rfl
theorem pr_slices_ContainsFunc_api_Event_api_Event : prog 128 = some f_slices_ContainsFunc_api_Event_api_Event := rfl
theorem pr_rebase_meets_1_1 : prog 161 = some f_rebase_meets_1_1 := rfl
theorem pr_rebase_meets_1 : prog 162 = some f_rebase_meets_1 := rfl
theorem pr_rebase_meets : prog 163 = some f_rebase_meets := rfl
theorem pr_rebase_verdict : prog 164 = some f_rebase_verdict := rfl
theorem pr_rebase_Rebase : prog 165 = some f_rebase_Rebase := rfl
theorem pr_merge_states_1 : prog 100 = some f_merge_states_1 := rfl
theorem pr_merge_states : prog 102 = some f_merge_states := rfl
theorem pr_slices_IndexFunc_api_Line_api_Line : prog 101 = some f_slices_IndexFunc_api_Line_api_Line := rfl
theorem pr_slices_ContainsFunc_api_Line_api_Line : prog 104 = some f_slices_ContainsFunc_api_Line_api_Line := rfl
theorem pr_merge_fits_1 : prog 103 = some f_merge_fits_1 := rfl
theorem pr_merge_fits : prog 106 = some f_merge_fits := rfl
theorem pr_merge_equal : prog 107 = some f_merge_equal := rfl
theorem pr_merge_fresh_1 : prog 105 = some f_merge_fresh_1 := rfl
theorem pr_merge_fresh : prog 108 = some f_merge_fresh := rfl
theorem pr_merge_Merge : prog 132 = some f_merge_Merge := rfl
theorem pr_T_sanity32 : prog 166 = some f_T_sanity32 := rfl
theorem pr_R06_New : prog 62 = some f_R06_New := rfl
theorem pr_R06_Field : prog 47 = some f_R06_Field := rfl
theorem pr_R06_group : prog 49 = some f_R06_group := rfl
theorem pr_R06_depth : prog 50 = some f_R06_depth := rfl
theorem pr_R06_Name : prog 48 = some f_R06_Name := rfl
theorem pr_R06_taken : prog 51 = some f_R06_taken := rfl
theorem pr_R06_plus : prog 52 = some f_R06_plus := rfl
theorem pr_R06_add : prog 58 = some f_R06_add := rfl
theorem pr_R06_without : prog 55 = some f_R06_without := rfl
theorem pr_R06_with : prog 54 = some f_R06_with := rfl
theorem pr_R06_inside : prog 53 = some f_R06_inside := rfl
theorem pr_R06_move : prog 56 = some f_R06_move := rfl
theorem pr_R06_one : prog 59 = some f_R06_one := rfl
theorem pr_R06_sep : prog 57 = some f_R06_sep := rfl
theorem pr_R06_split : prog 60 = some f_R06_split := rfl
theorem pr_R06_join : prog 61 = some f_R06_join := rfl
theorem pr_R06_Apply : prog 63 = some f_R06_Apply := rfl
theorem pr_R06_After : prog 88 = some f_R06_After := rfl
theorem pr_R06_mod : prog 64 = some f_R06_mod := rfl
theorem pr_R06_name : prog 65 = some f_R06_name := rfl
theorem pr_R06_Change : prog 66 = some f_R06_Change := rfl
theorem pr_R06_Made : prog 87 = some f_R06_Made := rfl
theorem pr_R06_Leaves : prog 71 = some f_R06_Leaves := rfl
theorem pr_R09_mod : prog 72 = some f_R09_mod := rfl
theorem pr_R05_Type : prog 67 = some f_R05_Type := rfl
theorem pr_R05_Fit : prog 68 = some f_R05_Fit := rfl
theorem pr_R05_Made : prog 69 = some f_R05_Made := rfl
theorem pr_R05_Compare : prog 70 = some f_R05_Compare := rfl
theorem pr_R09_set : prog 74 = some f_R09_set := rfl
theorem pr_R09_Pred : prog 73 = some f_R09_Pred := rfl
theorem pr_R06_Row : prog 75 = some f_R06_Row := rfl
theorem pr_R06_Rows : prog 76 = some f_R06_Rows := rfl
theorem pr_R27_Made : prog 89 = some f_R27_Made := rfl
theorem pr_R27_MadeAll : prog 151 = some f_R27_MadeAll := rfl
theorem pr_R27_Table : prog 90 = some f_R27_Table := rfl
theorem pr_T_commits : prog 167 = some f_T_commits := rfl
theorem pr_lineage_Invert : prog 24 = some f_lineage_Invert := rfl
theorem pr_R27_SameEvents : prog 169 = some f_R27_SameEvents := rfl
theorem pr_program_Touched : prog 168 = some f_program_Touched := rfl
theorem pr_R30_SameLines : prog 134 = some f_R30_SameLines := rfl
theorem pr_T_TopFeedsFollowPrograms : prog 170 = some f_T_TopFeedsFollowPrograms := rfl
theorem pr_merge_run : prog 129 = some f_merge_run := rfl
theorem pr_merge_Programs_1 : prog 130 = some f_merge_Programs_1 := rfl
theorem pr_merge_Programs_2_1 : prog 127 = some f_merge_Programs_2_1 := rfl
theorem pr_merge_Programs_2 : prog 131 = some f_merge_Programs_2 := rfl
theorem pr_merge_Programs : prog 133 = some f_merge_Programs := rfl
theorem pr_T_TopMergedProgramsAreCommits : prog 171 = some f_T_TopMergedProgramsAreCommits := rfl
end Go.Den
