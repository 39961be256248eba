/- Which function of the program each number stands for, and that the checked code is the program's. -/
import Derived.Test.YtjdnmifdkkohnaaProg
import Derived.Test.YtjdnmifdkkohnaaDenX
import Derived.Test.YtjdnmifdkkohnaaFn29
import Derived.KernelRfl
namespace Go.Den
open Go Go.Proofs
set_option maxRecDepth 100000
def tab : Nat → Nat
  | 5 => 15
  | 1 => 83
  | 2 => 67
  | 6 => 41
  | 9 => 42
  | 7 => 43
  | 10 => 44
  | 11 => 45
  | 3 => 47
  | 4 => 48
  | 8 => 46
  | 17 => 13
  | 12 => 31
  | 25 => 17
  | 14 => 53
  | 13 => 54
  | 15 => 55
  | 21 => 18
  | 16 => 29
  | 26 => 20
  | 28 => 21
  | 19 => 57
  | 18 => 58
  | 27 => 23
  | 24 => 25
  | 20 => 38
  | 22 => 39
  | 23 => 40
  | 36 => 10
  | 37 => 11
  | 38 => 12
  | 29 => 16
  | 30 => 49
  | 31 => 50
  | 32 => 51
  | 33 => 52
  | 35 => 14
  | 34 => 56
  | 39 => 19
  | 40 => 22
  | 93 => 3
  | 41 => 24
  | 42 => 26
  | 94 => 4
  | 44 => 27
  | 43 => 59
  | 45 => 28
  | 95 => 5
  | 96 => 6
  | 97 => 7
  | 46 => 30
  | 98 => 8
  | 62 => 60
  | 47 => 78
  | 49 => 75
  | 50 => 84
  | 48 => 90
  | 51 => 85
  | 52 => 86
  | 58 => 68
  | 55 => 87
  | 54 => 88
  | 53 => 97
  | 56 => 89
  | 59 => 69
  | 57 => 74
  | 60 => 70
  | 61 => 71
  | 63 => 61
  | 88 => 32
  | 64 => 72
  | 65 => 73
  | 66 => 62
  | 87 => 33
  | 71 => 76
  | 72 => 77
  | 67 => 98
  | 68 => 99
  | 69 => 91
  | 70 => 92
  | 74 => 79
  | 73 => 63
  | 75 => 80
  | 76 => 64
  | 89 => 34
  | 90 => 35
  | 77 => 95
  | 78 => 100
  | 79 => 101
  | 82 => 93
  | 81 => 94
  | 80 => 81
  | 83 => 65
  | 91 => 36
  | 84 => 96
  | 85 => 82
  | 86 => 66
  | 92 => 37
  | 99 => 9
  | _ => 1000000
theorem chk_f_lineage_Valid : chkFunc Try.prog tab 15 f_lineage_Valid = true := by kernel_rfl
theorem chk_f_slices_Equal_api_Cell_api_Cell : chkFunc Try.prog tab 83 f_slices_Equal_api_Cell_api_Cell = true := by kernel_rfl
theorem chk_f_lineage_equal : chkFunc Try.prog tab 67 f_lineage_equal = true := by kernel_rfl
theorem chk_f_lineage_isFeed : chkFunc Try.prog tab 41 f_lineage_isFeed = true := by kernel_rfl
theorem chk_f_lineage_merge_api_Line_lineage_item : chkFunc Try.prog tab 42 f_lineage_merge_api_Line_lineage_item = true := by kernel_rfl
theorem chk_f_lineage_items : chkFunc Try.prog tab 43 f_lineage_items = true := by kernel_rfl
theorem chk_f_lineage_ofLine : chkFunc Try.prog tab 44 f_lineage_ofLine = true := by kernel_rfl
theorem chk_f_lineage_ofItem : chkFunc Try.prog tab 45 f_lineage_ofItem = true := by kernel_rfl
theorem chk_f_lineage_row : chkFunc Try.prog tab 47 f_lineage_row = true := by kernel_rfl
theorem chk_f_lineage_same : chkFunc Try.prog tab 48 f_lineage_same = true := by kernel_rfl
theorem chk_f_lineage_Apply_1 : chkFunc Try.prog tab 46 f_lineage_Apply_1 = true := by kernel_rfl
theorem chk_f_lineage_Apply : chkFunc Try.prog tab 13 f_lineage_Apply = true := by kernel_rfl
theorem chk_f_R06_SameRow : chkFunc Try.prog tab 31 f_R06_SameRow = true := by kernel_rfl
theorem chk_f_R29_Events : chkFunc Try.prog tab 17 f_R29_Events = true := by kernel_rfl
theorem chk_f_lineage_merge_api_Line_api_Line : chkFunc Try.prog tab 53 f_lineage_merge_api_Line_api_Line = true := by kernel_rfl
theorem chk_f_lineage_Feed_1 : chkFunc Try.prog tab 54 f_lineage_Feed_1 = true := by kernel_rfl
theorem chk_f_lineage_events : chkFunc Try.prog tab 55 f_lineage_events = true := by kernel_rfl
theorem chk_f_lineage_Feed : chkFunc Try.prog tab 18 f_lineage_Feed = true := by kernel_rfl
theorem chk_f_R29_Lines : chkFunc Try.prog tab 29 f_R29_Lines = true := by kernel_rfl
theorem chk_f_R29_Same : chkFunc Try.prog tab 20 f_R29_Same = true := by kernel_rfl
theorem chk_f_lineage_Fits : chkFunc Try.prog tab 21 f_lineage_Fits = true := by kernel_rfl
theorem chk_f_lineage_merge_lineage_item_lineage_item : chkFunc Try.prog tab 57 f_lineage_merge_lineage_item_lineage_item = true := by kernel_rfl
theorem chk_f_lineage_Compose_1 : chkFunc Try.prog tab 58 f_lineage_Compose_1 = true := by kernel_rfl
theorem chk_f_lineage_Compose : chkFunc Try.prog tab 23 f_lineage_Compose = true := by kernel_rfl
theorem chk_f_lineage_Invert : chkFunc Try.prog tab 25 f_lineage_Invert = true := by kernel_rfl
theorem chk_f_L29_ln : chkFunc Try.prog tab 38 f_L29_ln = true := by kernel_rfl
theorem chk_f_L29_came : chkFunc Try.prog tab 39 f_L29_came = true := by kernel_rfl
theorem chk_f_L29_went : chkFunc Try.prog tab 40 f_L29_went = true := by kernel_rfl
theorem chk_f_L29_sanity : chkFunc Try.prog tab 10 f_L29_sanity = true := by kernel_rfl
theorem chk_f_R29_Light : chkFunc Try.prog tab 11 f_R29_Light = true := by kernel_rfl
theorem chk_f_R29_Of : chkFunc Try.prog tab 12 f_R29_Of = true := by kernel_rfl
theorem chk_f_R29_Valid : chkFunc Try.prog tab 16 f_R29_Valid = true := by kernel_rfl
theorem chk_f_R29_IsFeed : chkFunc Try.prog tab 49 f_R29_IsFeed = true := by kernel_rfl
theorem chk_f_R29_Items : chkFunc Try.prog tab 50 f_R29_Items = true := by kernel_rfl
theorem chk_f_R29_at : chkFunc Try.prog tab 51 f_R29_at = true := by kernel_rfl
theorem chk_f_R29_same : chkFunc Try.prog tab 52 f_R29_same = true := by kernel_rfl
theorem chk_f_R29_Apply : chkFunc Try.prog tab 14 f_R29_Apply = true := by kernel_rfl
theorem chk_f_R29_change : chkFunc Try.prog tab 56 f_R29_change = true := by kernel_rfl
theorem chk_f_R29_Feed : chkFunc Try.prog tab 19 f_R29_Feed = true := by kernel_rfl
theorem chk_f_R29_Fits : chkFunc Try.prog tab 22 f_R29_Fits = true := by kernel_rfl
theorem chk_f_L29_LineageMatchesReference : chkFunc Try.prog tab 3 f_L29_LineageMatchesReference = true := by kernel_rfl
theorem chk_f_R29_Compose : chkFunc Try.prog tab 24 f_R29_Compose = true := by kernel_rfl
theorem chk_f_R29_Invert : chkFunc Try.prog tab 26 f_R29_Invert = true := by kernel_rfl
theorem chk_f_L29_LineageFeedsMatchReference : chkFunc Try.prog tab 4 f_L29_LineageFeedsMatchReference = true := by kernel_rfl
theorem chk_f_L29_light : chkFunc Try.prog tab 27 f_L29_light = true := by kernel_rfl
theorem chk_f_R29_Made : chkFunc Try.prog tab 59 f_R29_Made = true := by kernel_rfl
theorem chk_f_L29_tables : chkFunc Try.prog tab 28 f_L29_tables = true := by kernel_rfl
theorem chk_f_L29_LineageFollows : chkFunc Try.prog tab 5 f_L29_LineageFollows = true := by kernel_rfl
theorem chk_f_L29_LineageComposes : chkFunc Try.prog tab 6 f_L29_LineageComposes = true := by kernel_rfl
theorem chk_f_L29_LineageInverts : chkFunc Try.prog tab 7 f_L29_LineageInverts = true := by kernel_rfl
theorem chk_f_L29_has : chkFunc Try.prog tab 30 f_L29_has = true := by kernel_rfl
theorem chk_f_L29_LineageGaps : chkFunc Try.prog tab 8 f_L29_LineageGaps = true := by kernel_rfl
theorem chk_f_R06_New : chkFunc Try.prog tab 60 f_R06_New = true := by kernel_rfl
theorem chk_f_R06_Field : chkFunc Try.prog tab 78 f_R06_Field = true := by kernel_rfl
theorem chk_f_R06_group : chkFunc Try.prog tab 75 f_R06_group = true := by kernel_rfl
theorem chk_f_R06_depth : chkFunc Try.prog tab 84 f_R06_depth = true := by kernel_rfl
theorem chk_f_R06_Name : chkFunc Try.prog tab 90 f_R06_Name = true := by kernel_rfl
theorem chk_f_R06_taken : chkFunc Try.prog tab 85 f_R06_taken = true := by kernel_rfl
theorem chk_f_R06_plus : chkFunc Try.prog tab 86 f_R06_plus = true := by kernel_rfl
theorem chk_f_R06_add : chkFunc Try.prog tab 68 f_R06_add = true := by kernel_rfl
theorem chk_f_R06_without : chkFunc Try.prog tab 87 f_R06_without = true := by kernel_rfl
theorem chk_f_R06_with : chkFunc Try.prog tab 88 f_R06_with = true := by kernel_rfl
theorem chk_f_R06_inside : chkFunc Try.prog tab 97 f_R06_inside = true := by kernel_rfl
theorem chk_f_R06_move : chkFunc Try.prog tab 89 f_R06_move = true := by kernel_rfl
theorem chk_f_R06_one : chkFunc Try.prog tab 69 f_R06_one = true := by kernel_rfl
theorem chk_f_R06_sep : chkFunc Try.prog tab 74 f_R06_sep = true := by kernel_rfl
theorem chk_f_R06_split : chkFunc Try.prog tab 70 f_R06_split = true := by kernel_rfl
theorem chk_f_R06_join : chkFunc Try.prog tab 71 f_R06_join = true := by kernel_rfl
theorem chk_f_R06_Apply : chkFunc Try.prog tab 61 f_R06_Apply = true := by kernel_rfl
theorem chk_f_R06_After : chkFunc Try.prog tab 32 f_R06_After = true := by kernel_rfl
theorem chk_f_R06_mod : chkFunc Try.prog tab 72 f_R06_mod = true := by kernel_rfl
theorem chk_f_R06_name : chkFunc Try.prog tab 73 f_R06_name = true := by kernel_rfl
theorem chk_f_R06_Change : chkFunc Try.prog tab 62 f_R06_Change = true := by kernel_rfl
theorem chk_f_R06_Made : chkFunc Try.prog tab 33 f_R06_Made = true := by kernel_rfl
theorem chk_f_R06_Leaves : chkFunc Try.prog tab 76 f_R06_Leaves = true := by kernel_rfl
theorem chk_f_R09_mod : chkFunc Try.prog tab 77 f_R09_mod = true := by kernel_rfl
theorem chk_f_R05_Type : chkFunc Try.prog tab 98 f_R05_Type = true := by kernel_rfl
theorem chk_f_R05_Fit : chkFunc Try.prog tab 99 f_R05_Fit = true := by kernel_rfl
theorem chk_f_R05_Made : chkFunc Try.prog tab 91 f_R05_Made = true := by kernel_rfl
theorem chk_f_R05_Compare : chkFunc Try.prog tab 92 f_R05_Compare = true := by kernel_rfl
theorem chk_f_R09_set : chkFunc Try.prog tab 79 f_R09_set = true := by kernel_rfl
theorem chk_f_R09_Pred : chkFunc Try.prog tab 63 f_R09_Pred = true := by kernel_rfl
theorem chk_f_R06_Row : chkFunc Try.prog tab 80 f_R06_Row = true := by kernel_rfl
theorem chk_f_R06_Rows : chkFunc Try.prog tab 64 f_R06_Rows = true := by kernel_rfl
theorem chk_f_R27_Made : chkFunc Try.prog tab 34 f_R27_Made = true := by kernel_rfl
theorem chk_f_R27_Table : chkFunc Try.prog tab 35 f_R27_Table = true := by kernel_rfl
theorem chk_f_R08_truth : chkFunc Try.prog tab 95 f_R08_truth = true := by kernel_rfl
theorem chk_f_R08_within : chkFunc Try.prog tab 100 f_R08_within = true := by kernel_rfl
theorem chk_f_R08_begins : chkFunc Try.prog tab 101 f_R08_begins = true := by kernel_rfl
theorem chk_f_R08_simple : chkFunc Try.prog tab 93 f_R08_simple = true := by kernel_rfl
theorem chk_f_R08_Value : chkFunc Try.prog tab 94 f_R08_Value = true := by kernel_rfl
theorem chk_f_R08_Eval : chkFunc Try.prog tab 81 f_R08_Eval = true := by kernel_rfl
theorem chk_f_R08_Match : chkFunc Try.prog tab 65 f_R08_Match = true := by kernel_rfl
theorem chk_f_R27_Touched : chkFunc Try.prog tab 36 f_R27_Touched = true := by kernel_rfl
theorem chk_f_R06_Get : chkFunc Try.prog tab 96 f_R06_Get = true := by kernel_rfl
theorem chk_f_R27_Sum : chkFunc Try.prog tab 82 f_R27_Sum = true := by kernel_rfl
theorem chk_f_R27_Check : chkFunc Try.prog tab 66 f_R27_Check = true := by kernel_rfl
theorem chk_f_R27_Run : chkFunc Try.prog tab 37 f_R27_Run = true := by kernel_rfl
theorem chk_f_L29_LineagePrograms : chkFunc Try.prog tab 9 f_L29_LineagePrograms = true := by kernel_rfl
theorem link : Link Try.prog tab prog := ⟨by kernel_rfl, fun f F h => by
  unfold prog at h
  split at h
  · cases h; exact chk_f_lineage_Valid
  · cases h; exact chk_f_slices_Equal_api_Cell_api_Cell
  · cases h; exact chk_f_lineage_equal
  · cases h; exact chk_f_lineage_isFeed
  · cases h; exact chk_f_lineage_merge_api_Line_lineage_item
  · cases h; exact chk_f_lineage_items
  · cases h; exact chk_f_lineage_ofLine
  · cases h; exact chk_f_lineage_ofItem
  · cases h; exact chk_f_lineage_row
  · cases h; exact chk_f_lineage_same
  · cases h; exact chk_f_lineage_Apply_1
  · cases h; exact chk_f_lineage_Apply
  · cases h; exact chk_f_R06_SameRow
  · cases h; exact chk_f_R29_Events
  · cases h; exact chk_f_lineage_merge_api_Line_api_Line
  · cases h; exact chk_f_lineage_Feed_1
  · cases h; exact chk_f_lineage_events
  · cases h; exact chk_f_lineage_Feed
  · cases h; exact chk_f_R29_Lines
  · cases h; exact chk_f_R29_Same
  · cases h; exact chk_f_lineage_Fits
  · cases h; exact chk_f_lineage_merge_lineage_item_lineage_item
  · cases h; exact chk_f_lineage_Compose_1
  · cases h; exact chk_f_lineage_Compose
  · cases h; exact chk_f_lineage_Invert
  · cases h; exact chk_f_L29_ln
  · cases h; exact chk_f_L29_came
  · cases h; exact chk_f_L29_went
  · cases h; exact chk_f_L29_sanity
  · cases h; exact chk_f_R29_Light
  · cases h; exact chk_f_R29_Of
  · cases h; exact chk_f_R29_Valid
  · cases h; exact chk_f_R29_IsFeed
  · cases h; exact chk_f_R29_Items
  · cases h; exact chk_f_R29_at
  · cases h; exact chk_f_R29_same
  · cases h; exact chk_f_R29_Apply
  · cases h; exact chk_f_R29_change
  · cases h; exact chk_f_R29_Feed
  · cases h; exact chk_f_R29_Fits
  · cases h; exact chk_f_L29_LineageMatchesReference
  · cases h; exact chk_f_R29_Compose
  · cases h; exact chk_f_R29_Invert
  · cases h; exact chk_f_L29_LineageFeedsMatchReference
  · cases h; exact chk_f_L29_light
  · cases h; exact chk_f_R29_Made
  · cases h; exact chk_f_L29_tables
  · cases h; exact chk_f_L29_LineageFollows
  · cases h; exact chk_f_L29_LineageComposes
  · cases h; exact chk_f_L29_LineageInverts
  · cases h; exact chk_f_L29_has
  · cases h; exact chk_f_L29_LineageGaps
  · cases h; exact chk_f_R06_New
  · cases h; exact chk_f_R06_Field
  · cases h; exact chk_f_R06_group
  · cases h; exact chk_f_R06_depth
  · cases h; exact chk_f_R06_Name
  · cases h; exact chk_f_R06_taken
  · cases h; exact chk_f_R06_plus
  · cases h; exact chk_f_R06_add
  · cases h; exact chk_f_R06_without
  · cases h; exact chk_f_R06_with
  · cases h; exact chk_f_R06_inside
  · cases h; exact chk_f_R06_move
  · cases h; exact chk_f_R06_one
  · cases h; exact chk_f_R06_sep
  · cases h; exact chk_f_R06_split
  · cases h; exact chk_f_R06_join
  · cases h; exact chk_f_R06_Apply
  · cases h; exact chk_f_R06_After
  · cases h; exact chk_f_R06_mod
  · cases h; exact chk_f_R06_name
  · cases h; exact chk_f_R06_Change
  · cases h; exact chk_f_R06_Made
  · cases h; exact chk_f_R06_Leaves
  · cases h; exact chk_f_R09_mod
  · cases h; exact chk_f_R05_Type
  · cases h; exact chk_f_R05_Fit
  · cases h; exact chk_f_R05_Made
  · cases h; exact chk_f_R05_Compare
  · cases h; exact chk_f_R09_set
  · cases h; exact chk_f_R09_Pred
  · cases h; exact chk_f_R06_Row
  · cases h; exact chk_f_R06_Rows
  · cases h; exact chk_f_R27_Made
  · cases h; exact chk_f_R27_Table
  · cases h; exact chk_f_R08_truth
  · cases h; exact chk_f_R08_within
  · cases h; exact chk_f_R08_begins
  · cases h; exact chk_f_R08_simple
  · cases h; exact chk_f_R08_Value
  · cases h; exact chk_f_R08_Eval
  · cases h; exact chk_f_R08_Match
  · cases h; exact chk_f_R27_Touched
  · cases h; exact chk_f_R06_Get
  · cases h; exact chk_f_R27_Sum
  · cases h; exact chk_f_R27_Check
  · cases h; exact chk_f_R27_Run
  · cases h; exact chk_f_L29_LineagePrograms
  · exact absurd h (by simp)⟩
#print axioms link
end Go.Den
