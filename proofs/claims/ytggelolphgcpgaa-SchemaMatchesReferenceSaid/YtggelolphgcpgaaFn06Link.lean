/- Which function of the program each number stands for, and that the checked code is the program's. -/
import Derived.Test.YtggelolphgcpgaaProg
import Derived.Test.YtggelolphgcpgaaDenO
import Derived.Test.YtggelolphgcpgaaFn06
import Derived.KernelRfl
namespace Go.Den
open Go Go.Proofs
set_option maxRecDepth 100000
def tab : Nat → Nat
  | 173 => 74
  | 172 => 75
  | 174 => 53
  | 175 => 25
  | 181 => 54
  | 182 => 56
  | 178 => 55
  | 180 => 60
  | 176 => 79
  | 177 => 63
  | 179 => 76
  | 183 => 57
  | 184 => 58
  | 185 => 59
  | 191 => 32
  | 188 => 61
  | 187 => 77
  | 186 => 78
  | 189 => 62
  | 192 => 33
  | 193 => 34
  | 194 => 35
  | 195 => 36
  | 190 => 64
  | 196 => 37
  | 197 => 38
  | 198 => 39
  | 200 => 12
  | 199 => 30
  | 205 => 10
  | 207 => 15
  | 201 => 16
  | 206 => 17
  | 202 => 67
  | 203 => 68
  | 204 => 47
  | 208 => 20
  | 209 => 29
  | 210 => 9
  | 64 => 40
  | 48 => 44
  | 65 => 41
  | 57 => 42
  | 47 => 26
  | 49 => 43
  | 66 => 13
  | 50 => 45
  | 51 => 69
  | 52 => 70
  | 58 => 49
  | 55 => 71
  | 54 => 72
  | 53 => 80
  | 56 => 73
  | 59 => 50
  | 60 => 51
  | 61 => 52
  | 63 => 22
  | 62 => 31
  | 87 => 11
  | 211 => 14
  | 217 => 3
  | 218 => 4
  | 219 => 5
  | 88 => 18
  | 67 => 65
  | 68 => 66
  | 69 => 46
  | 75 => 19
  | 212 => 48
  | 213 => 21
  | 220 => 6
  | 221 => 7
  | 215 => 23
  | 71 => 24
  | 214 => 27
  | 216 => 28
  | 222 => 8
  | _ => 1000000
theorem chk_f_slices_IndexFunc_api_Field_api_Field : chkFunc Try.prog tab 74 f_slices_IndexFunc_api_Field_api_Field = true := by kernel_rfl
theorem chk_f_schema_index_1 : chkFunc Try.prog tab 75 f_schema_index_1 = true := by kernel_rfl
theorem chk_f_schema_index : chkFunc Try.prog tab 53 f_schema_index = true := by kernel_rfl
theorem chk_f_schema_Field : chkFunc Try.prog tab 25 f_schema_Field = true := by kernel_rfl
theorem chk_f_schema_ancestors : chkFunc Try.prog tab 54 f_schema_ancestors = true := by kernel_rfl
theorem chk_f_schema_group : chkFunc Try.prog tab 56 f_schema_group = true := by kernel_rfl
theorem chk_f_schema_named : chkFunc Try.prog tab 55 f_schema_named = true := by kernel_rfl
theorem chk_f_slices_ContainsFunc_api_Field_api_Field : chkFunc Try.prog tab 60 f_slices_ContainsFunc_api_Field_api_Field = true := by kernel_rfl
theorem chk_f_slices_Index_int_int : chkFunc Try.prog tab 79 f_slices_Index_int_int = true := by kernel_rfl
theorem chk_f_slices_Contains_int_int : chkFunc Try.prog tab 63 f_slices_Contains_int_int = true := by kernel_rfl
theorem chk_f_schema_state_taken_1 : chkFunc Try.prog tab 76 f_schema_state_taken_1 = true := by kernel_rfl
theorem chk_f_schema_state_taken : chkFunc Try.prog tab 57 f_schema_state_taken = true := by kernel_rfl
theorem chk_f_schema_state_full : chkFunc Try.prog tab 58 f_schema_state_full = true := by kernel_rfl
theorem chk_f_schema_state_plus : chkFunc Try.prog tab 59 f_schema_state_plus = true := by kernel_rfl
theorem chk_f_schema_state_add : chkFunc Try.prog tab 32 f_schema_state_add = true := by kernel_rfl
theorem chk_f_schema_state_drop_1 : chkFunc Try.prog tab 61 f_schema_state_drop_1 = true := by kernel_rfl
theorem chk_f_slices_DeleteFunc_api_Field_api_Field : chkFunc Try.prog tab 77 f_slices_DeleteFunc_api_Field_api_Field = true := by kernel_rfl
theorem chk_f_schema_state_remove_1 : chkFunc Try.prog tab 78 f_schema_state_remove_1 = true := by kernel_rfl
theorem chk_f_schema_state_remove : chkFunc Try.prog tab 62 f_schema_state_remove = true := by kernel_rfl
theorem chk_f_schema_state_drop : chkFunc Try.prog tab 33 f_schema_state_drop = true := by kernel_rfl
theorem chk_f_schema_state_rename : chkFunc Try.prog tab 34 f_schema_state_rename = true := by kernel_rfl
theorem chk_f_schema_state_widen : chkFunc Try.prog tab 35 f_schema_state_widen = true := by kernel_rfl
theorem chk_f_schema_state_move : chkFunc Try.prog tab 36 f_schema_state_move = true := by kernel_rfl
theorem chk_f_schema_separates : chkFunc Try.prog tab 64 f_schema_separates = true := by kernel_rfl
theorem chk_f_schema_state_split : chkFunc Try.prog tab 37 f_schema_state_split = true := by kernel_rfl
theorem chk_f_schema_state_join : chkFunc Try.prog tab 38 f_schema_state_join = true := by kernel_rfl
theorem chk_f_slices_Clone_api_Field_api_Field : chkFunc Try.prog tab 39 f_slices_Clone_api_Field_api_Field = true := by kernel_rfl
theorem chk_f_schema_Apply : chkFunc Try.prog tab 12 f_schema_Apply = true := by kernel_rfl
theorem chk_f_schema_New : chkFunc Try.prog tab 30 f_schema_New = true := by kernel_rfl
theorem chk_f_schema_After : chkFunc Try.prog tab 10 f_schema_After = true := by kernel_rfl
theorem chk_f_R06_Same : chkFunc Try.prog tab 15 f_R06_Same = true := by kernel_rfl
theorem chk_f_schema_Path : chkFunc Try.prog tab 16 f_schema_Path = true := by kernel_rfl
theorem chk_f_schema_Find : chkFunc Try.prog tab 17 f_schema_Find = true := by kernel_rfl
theorem chk_f_value_isType : chkFunc Try.prog tab 67 f_value_isType = true := by kernel_rfl
theorem chk_f_value_limits : chkFunc Try.prog tab 68 f_value_limits = true := by kernel_rfl
theorem chk_f_value_Valid : chkFunc Try.prog tab 47 f_value_Valid = true := by kernel_rfl
theorem chk_f_schema_Fits : chkFunc Try.prog tab 20 f_schema_Fits = true := by kernel_rfl
theorem chk_f_schema_Valid : chkFunc Try.prog tab 29 f_schema_Valid = true := by kernel_rfl
theorem chk_f_L06_sanity : chkFunc Try.prog tab 9 f_L06_sanity = true := by kernel_rfl
theorem chk_f_R06_mod : chkFunc Try.prog tab 40 f_R06_mod = true := by kernel_rfl
theorem chk_f_R06_Name : chkFunc Try.prog tab 44 f_R06_Name = true := by kernel_rfl
theorem chk_f_R06_name : chkFunc Try.prog tab 41 f_R06_name = true := by kernel_rfl
theorem chk_f_R06_sep : chkFunc Try.prog tab 42 f_R06_sep = true := by kernel_rfl
theorem chk_f_R06_Field : chkFunc Try.prog tab 26 f_R06_Field = true := by kernel_rfl
theorem chk_f_R06_group : chkFunc Try.prog tab 43 f_R06_group = true := by kernel_rfl
theorem chk_f_R06_Change : chkFunc Try.prog tab 13 f_R06_Change = true := by kernel_rfl
theorem chk_f_R06_depth : chkFunc Try.prog tab 45 f_R06_depth = true := by kernel_rfl
theorem chk_f_R06_taken : chkFunc Try.prog tab 69 f_R06_taken = true := by kernel_rfl
theorem chk_f_R06_plus : chkFunc Try.prog tab 70 f_R06_plus = true := by kernel_rfl
theorem chk_f_R06_add : chkFunc Try.prog tab 49 f_R06_add = true := by kernel_rfl
theorem chk_f_R06_without : chkFunc Try.prog tab 71 f_R06_without = true := by kernel_rfl
theorem chk_f_R06_with : chkFunc Try.prog tab 72 f_R06_with = true := by kernel_rfl
theorem chk_f_R06_inside : chkFunc Try.prog tab 80 f_R06_inside = true := by kernel_rfl
theorem chk_f_R06_move : chkFunc Try.prog tab 73 f_R06_move = true := by kernel_rfl
theorem chk_f_R06_one : chkFunc Try.prog tab 50 f_R06_one = true := by kernel_rfl
theorem chk_f_R06_split : chkFunc Try.prog tab 51 f_R06_split = true := by kernel_rfl
theorem chk_f_R06_join : chkFunc Try.prog tab 52 f_R06_join = true := by kernel_rfl
theorem chk_f_R06_Apply : chkFunc Try.prog tab 22 f_R06_Apply = true := by kernel_rfl
theorem chk_f_R06_New : chkFunc Try.prog tab 31 f_R06_New = true := by kernel_rfl
theorem chk_f_R06_Made : chkFunc Try.prog tab 11 f_R06_Made = true := by kernel_rfl
theorem chk_f_R06_Valid : chkFunc Try.prog tab 14 f_R06_Valid = true := by kernel_rfl
theorem chk_f_L06_SchemaStaysValid : chkFunc Try.prog tab 3 f_L06_SchemaStaysValid = true := by kernel_rfl
theorem chk_f_L06_SchemaNumbersNeverReturn : chkFunc Try.prog tab 4 f_L06_SchemaNumbersNeverReturn = true := by kernel_rfl
theorem chk_f_L06_SchemaPathsIdentify : chkFunc Try.prog tab 5 f_L06_SchemaPathsIdentify = true := by kernel_rfl
theorem chk_f_R06_After : chkFunc Try.prog tab 18 f_R06_After = true := by kernel_rfl
theorem chk_f_R05_Type : chkFunc Try.prog tab 65 f_R05_Type = true := by kernel_rfl
theorem chk_f_R05_Fit : chkFunc Try.prog tab 66 f_R05_Fit = true := by kernel_rfl
theorem chk_f_R05_Made : chkFunc Try.prog tab 46 f_R05_Made = true := by kernel_rfl
theorem chk_f_R06_Row : chkFunc Try.prog tab 19 f_R06_Row = true := by kernel_rfl
theorem chk_f_R05_Valid : chkFunc Try.prog tab 48 f_R05_Valid = true := by kernel_rfl
theorem chk_f_R06_Fits : chkFunc Try.prog tab 21 f_R06_Fits = true := by kernel_rfl
theorem chk_f_L06_SchemaFitsMatchesReference : chkFunc Try.prog tab 6 f_L06_SchemaFitsMatchesReference = true := by kernel_rfl
theorem chk_f_L06_SchemaRowsKeepFitting : chkFunc Try.prog tab 7 f_L06_SchemaRowsKeepFitting = true := by kernel_rfl
theorem chk_f_schema_Leaves : chkFunc Try.prog tab 23 f_schema_Leaves = true := by kernel_rfl
theorem chk_f_R06_Leaves : chkFunc Try.prog tab 24 f_R06_Leaves = true := by kernel_rfl
theorem chk_f_R06_Path : chkFunc Try.prog tab 27 f_R06_Path = true := by kernel_rfl
theorem chk_f_R06_Find : chkFunc Try.prog tab 28 f_R06_Find = true := by kernel_rfl
theorem chk_f_L06_SchemaMatchesReference : chkFunc Try.prog tab 8 f_L06_SchemaMatchesReference = true := by kernel_rfl
theorem link : Link Try.prog tab prog := ⟨by kernel_rfl, fun f F h => by
  unfold prog at h
  split at h
  · cases h; exact chk_f_slices_IndexFunc_api_Field_api_Field
  · cases h; exact chk_f_schema_index_1
  · cases h; exact chk_f_schema_index
  · cases h; exact chk_f_schema_Field
  · cases h; exact chk_f_schema_ancestors
  · cases h; exact chk_f_schema_group
  · cases h; exact chk_f_schema_named
  · cases h; exact chk_f_slices_ContainsFunc_api_Field_api_Field
  · cases h; exact chk_f_slices_Index_int_int
  · cases h; exact chk_f_slices_Contains_int_int
  · cases h; exact chk_f_schema_state_taken_1
  · cases h; exact chk_f_schema_state_taken
  · cases h; exact chk_f_schema_state_full
  · cases h; exact chk_f_schema_state_plus
  · cases h; exact chk_f_schema_state_add
  · cases h; exact chk_f_schema_state_drop_1
  · cases h; exact chk_f_slices_DeleteFunc_api_Field_api_Field
  · cases h; exact chk_f_schema_state_remove_1
  · cases h; exact chk_f_schema_state_remove
  · cases h; exact chk_f_schema_state_drop
  · cases h; exact chk_f_schema_state_rename
  · cases h; exact chk_f_schema_state_widen
  · cases h; exact chk_f_schema_state_move
  · cases h; exact chk_f_schema_separates
  · cases h; exact chk_f_schema_state_split
  · cases h; exact chk_f_schema_state_join
  · cases h; exact chk_f_slices_Clone_api_Field_api_Field
  · cases h; exact chk_f_schema_Apply
  · cases h; exact chk_f_schema_New
  · cases h; exact chk_f_schema_After
  · cases h; exact chk_f_R06_Same
  · cases h; exact chk_f_schema_Path
  · cases h; exact chk_f_schema_Find
  · cases h; exact chk_f_value_isType
  · cases h; exact chk_f_value_limits
  · cases h; exact chk_f_value_Valid
  · cases h; exact chk_f_schema_Fits
  · cases h; exact chk_f_schema_Valid
  · cases h; exact chk_f_L06_sanity
  · cases h; exact chk_f_R06_mod
  · cases h; exact chk_f_R06_Name
  · cases h; exact chk_f_R06_name
  · cases h; exact chk_f_R06_sep
  · cases h; exact chk_f_R06_Field
  · cases h; exact chk_f_R06_group
  · cases h; exact chk_f_R06_Change
  · cases h; exact chk_f_R06_depth
  · cases h; exact chk_f_R06_taken
  · cases h; exact chk_f_R06_plus
  · cases h; exact chk_f_R06_add
  · cases h; exact chk_f_R06_without
  · cases h; exact chk_f_R06_with
  · cases h; exact chk_f_R06_inside
  · cases h; exact chk_f_R06_move
  · cases h; exact chk_f_R06_one
  · cases h; exact chk_f_R06_split
  · cases h; exact chk_f_R06_join
  · cases h; exact chk_f_R06_Apply
  · cases h; exact chk_f_R06_New
  · cases h; exact chk_f_R06_Made
  · cases h; exact chk_f_R06_Valid
  · cases h; exact chk_f_L06_SchemaStaysValid
  · cases h; exact chk_f_L06_SchemaNumbersNeverReturn
  · cases h; exact chk_f_L06_SchemaPathsIdentify
  · cases h; exact chk_f_R06_After
  · cases h; exact chk_f_R05_Type
  · cases h; exact chk_f_R05_Fit
  · cases h; exact chk_f_R05_Made
  · cases h; exact chk_f_R06_Row
  · cases h; exact chk_f_R05_Valid
  · cases h; exact chk_f_R06_Fits
  · cases h; exact chk_f_L06_SchemaFitsMatchesReference
  · cases h; exact chk_f_L06_SchemaRowsKeepFitting
  · cases h; exact chk_f_schema_Leaves
  · cases h; exact chk_f_R06_Leaves
  · cases h; exact chk_f_R06_Path
  · cases h; exact chk_f_R06_Find
  · cases h; exact chk_f_L06_SchemaMatchesReference
  · exact absurd h (by simp)⟩
#print axioms link
end Go.Den
