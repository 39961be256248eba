/- Which function of the program each number stands for, and that the checked code is the program's. -/
import Derived.Test.YtghipgdajgeoiabDoorProg
import Derived.Test.YtghipgdajgeoiabDoorDenO
import Derived.Test.YtghipgdajgeoiabDoorFn7B
import Derived.KernelRfl
import Derived.Test.YtghipgdajgeoiabDoorFn7BX
namespace Go.Den
open Go Go.Proofs
set_option maxRecDepth 100000
def tab : Nat → Nat
  | 173 => 85
  | 172 => 86
  | 174 => 66
  | 175 => 40
  | 181 => 61
  | 182 => 62
  | 180 => 67
  | 178 => 83
  | 176 => 89
  | 177 => 70
  | 179 => 84
  | 183 => 63
  | 184 => 64
  | 185 => 65
  | 191 => 32
  | 188 => 68
  | 187 => 87
  | 186 => 88
  | 189 => 69
  | 192 => 33
  | 193 => 34
  | 194 => 35
  | 195 => 36
  | 190 => 71
  | 196 => 37
  | 197 => 38
  | 198 => 39
  | 200 => 20
  | 202 => 72
  | 203 => 73
  | 204 => 41
  | 208 => 21
  | 223 => 58
  | 227 => 27
  | 224 => 49
  | 225 => 74
  | 239 => 42
  | 226 => 47
  | 228 => 75
  | 240 => 43
  | 233 => 93
  | 234 => 92
  | 235 => 90
  | 236 => 76
  | 237 => 45
  | 241 => 44
  | 238 => 48
  | 242 => 46
  | 243 => 50
  | 244 => 51
  | 245 => 22
  | 247 => 9
  | 248 => 11
  | 12 => 12
  | 199 => 26
  | 249 => 16
  | 246 => 17
  | 250 => 18
  | 251 => 6
  | 252 => 7
  | 64 => 28
  | 48 => 59
  | 65 => 29
  | 57 => 30
  | 47 => 60
  | 49 => 31
  | 66 => 19
  | 62 => 24
  | 50 => 77
  | 51 => 78
  | 52 => 79
  | 58 => 54
  | 55 => 80
  | 54 => 81
  | 53 => 91
  | 56 => 82
  | 59 => 55
  | 60 => 56
  | 61 => 57
  | 63 => 25
  | 87 => 13
  | 88 => 15
  | 253 => 8
  | 67 => 52
  | 68 => 53
  | 69 => 23
  | 75 => 10
  | 267 => 3
  | 254 => 14
  | 268 => 4
  | 269 => 5
  | _ => 1000000
theorem chk_f_slices_IndexFunc_api_Field_api_Field : chkFunc Tryd.prog tab 85 f_slices_IndexFunc_api_Field_api_Field = true := by kernel_rfl
theorem chk_f_schema_index_1 : chkFunc Tryd.prog tab 86 f_schema_index_1 = true := by kernel_rfl
theorem chk_f_schema_index : chkFunc Tryd.prog tab 66 f_schema_index = true := by kernel_rfl
theorem chk_f_schema_Field : chkFunc Tryd.prog tab 40 f_schema_Field = true := by kernel_rfl
theorem chk_f_schema_ancestors : chkFunc Tryd.prog tab 61 f_schema_ancestors = true := by kernel_rfl
theorem chk_f_schema_group : chkFunc Tryd.prog tab 62 f_schema_group = true := by kernel_rfl
theorem chk_f_slices_ContainsFunc_api_Field_api_Field : chkFunc Tryd.prog tab 67 f_slices_ContainsFunc_api_Field_api_Field = true := by kernel_rfl
theorem chk_f_schema_named : chkFunc Tryd.prog tab 83 f_schema_named = true := by kernel_rfl
theorem chk_f_slices_Index_int_int : chkFunc Tryd.prog tab 89 f_slices_Index_int_int = true := by kernel_rfl
theorem chk_f_slices_Contains_int_int : chkFunc Tryd.prog tab 70 f_slices_Contains_int_int = true := by kernel_rfl
theorem chk_f_schema_state_taken_1 : chkFunc Tryd.prog tab 84 f_schema_state_taken_1 = true := by kernel_rfl
theorem chk_f_schema_state_taken : chkFunc Tryd.prog tab 63 f_schema_state_taken = true := by kernel_rfl
theorem chk_f_schema_state_full : chkFunc Tryd.prog tab 64 f_schema_state_full = true := by kernel_rfl
theorem chk_f_schema_state_plus : chkFunc Tryd.prog tab 65 f_schema_state_plus = true := by kernel_rfl
theorem chk_f_schema_state_add : chkFunc Tryd.prog tab 32 f_schema_state_add = true := by kernel_rfl
theorem chk_f_schema_state_drop_1 : chkFunc Tryd.prog tab 68 f_schema_state_drop_1 = true := by kernel_rfl
theorem chk_f_slices_DeleteFunc_api_Field_api_Field : chkFunc Tryd.prog tab 87 f_slices_DeleteFunc_api_Field_api_Field = true := by kernel_rfl
theorem chk_f_schema_state_remove_1 : chkFunc Tryd.prog tab 88 f_schema_state_remove_1 = true := by kernel_rfl
theorem chk_f_schema_state_remove : chkFunc Tryd.prog tab 69 f_schema_state_remove = true := by kernel_rfl
theorem chk_f_schema_state_drop : chkFunc Tryd.prog tab 33 f_schema_state_drop = true := by kernel_rfl
theorem chk_f_schema_state_rename : chkFunc Tryd.prog tab 34 f_schema_state_rename = true := by kernel_rfl
theorem chk_f_schema_state_widen : chkFunc Tryd.prog tab 35 f_schema_state_widen = true := by kernel_rfl
theorem chk_f_schema_state_move : chkFunc Tryd.prog tab 36 f_schema_state_move = true := by kernel_rfl
theorem chk_f_schema_separates : chkFunc Tryd.prog tab 71 f_schema_separates = true := by kernel_rfl
theorem chk_f_schema_state_split : chkFunc Tryd.prog tab 37 f_schema_state_split = true := by kernel_rfl
theorem chk_f_schema_state_join : chkFunc Tryd.prog tab 38 f_schema_state_join = true := by kernel_rfl
theorem chk_f_slices_Clone_api_Field_api_Field : chkFunc Tryd.prog tab 39 f_slices_Clone_api_Field_api_Field = true := by kernel_rfl
theorem chk_f_schema_Apply : chkFunc Tryd.prog tab 20 f_schema_Apply = true := by kernel_rfl
theorem chk_f_value_isType : chkFunc Tryd.prog tab 72 f_value_isType = true := by kernel_rfl
theorem chk_f_value_limits : chkFunc Tryd.prog tab 73 f_value_limits = true := by kernel_rfl
theorem chk_f_value_Valid : chkFunc Tryd.prog tab 41 f_value_Valid = true := by kernel_rfl
theorem chk_f_schema_Fits : chkFunc Tryd.prog tab 21 f_schema_Fits = true := by kernel_rfl
theorem chk_f_slices_Clone_api_Cell_api_Cell : chkFunc Tryd.prog tab 58 f_slices_Clone_api_Cell_api_Cell = true := by kernel_rfl
theorem chk_f_lens_keep : chkFunc Tryd.prog tab 27 f_lens_keep = true := by kernel_rfl
theorem chk_f_lens_set : chkFunc Tryd.prog tab 49 f_lens_set = true := by kernel_rfl
theorem chk_f_lens_erase_1 : chkFunc Tryd.prog tab 74 f_lens_erase_1 = true := by kernel_rfl
theorem chk_f_lens_erase : chkFunc Tryd.prog tab 42 f_lens_erase = true := by kernel_rfl
theorem chk_f_lens_get : chkFunc Tryd.prog tab 47 f_lens_get = true := by kernel_rfl
theorem chk_f_lens_narrow_1 : chkFunc Tryd.prog tab 75 f_lens_narrow_1 = true := by kernel_rfl
theorem chk_f_lens_narrow : chkFunc Tryd.prog tab 43 f_lens_narrow = true := by kernel_rfl
theorem chk_f_internal_stringslite_Cut : chkFunc Tryd.prog tab 92 f_internal_stringslite_Cut = true := by kernel_rfl
theorem chk_f_strings_Cut : chkFunc Tryd.prog tab 90 f_strings_Cut = true := by kernel_rfl
theorem chk_f_lens_divide : chkFunc Tryd.prog tab 76 f_lens_divide = true := by kernel_rfl
theorem chk_f_lens_apart : chkFunc Tryd.prog tab 45 f_lens_apart = true := by kernel_rfl
theorem chk_f_lens_of_1 : chkFunc Tryd.prog tab 44 f_lens_of_1 = true := by kernel_rfl
theorem chk_f_lens_connect : chkFunc Tryd.prog tab 48 f_lens_connect = true := by kernel_rfl
theorem chk_f_lens_of_2 : chkFunc Tryd.prog tab 46 f_lens_of_2 = true := by kernel_rfl
theorem chk_f_lens_of_3 : chkFunc Tryd.prog tab 50 f_lens_of_3 = true := by kernel_rfl
theorem chk_f_lens_of_4 : chkFunc Tryd.prog tab 51 f_lens_of_4 = true := by kernel_rfl
theorem chk_f_lens_of : chkFunc Tryd.prog tab 22 f_lens_of = true := by kernel_rfl
theorem chk_f_lens_Forward : chkFunc Tryd.prog tab 9 f_lens_Forward = true := by kernel_rfl
theorem chk_f_lens_Back : chkFunc Tryd.prog tab 11 f_lens_Back = true := by kernel_rfl
theorem chk_f_R06_SameRow : chkFunc Tryd.prog tab 12 f_R06_SameRow = true := by kernel_rfl
theorem chk_f_schema_New : chkFunc Tryd.prog tab 26 f_schema_New = true := by kernel_rfl
theorem chk_f_lens_Translate : chkFunc Tryd.prog tab 16 f_lens_Translate = true := by kernel_rfl
theorem chk_f_L07_text : chkFunc Tryd.prog tab 17 f_L07_text = true := by kernel_rfl
theorem chk_f_lens_Lossless : chkFunc Tryd.prog tab 18 f_lens_Lossless = true := by kernel_rfl
theorem chk_f_L07_sanity : chkFunc Tryd.prog tab 6 f_L07_sanity = true := by kernel_rfl
theorem chk_f_L07_small : chkFunc Tryd.prog tab 7 f_L07_small = true := by kernel_rfl
theorem chk_f_R06_mod : chkFunc Tryd.prog tab 28 f_R06_mod = true := by kernel_rfl
theorem chk_f_R06_Name : chkFunc Tryd.prog tab 59 f_R06_Name = true := by kernel_rfl
theorem chk_f_R06_name : chkFunc Tryd.prog tab 29 f_R06_name = true := by kernel_rfl
theorem chk_f_R06_sep : chkFunc Tryd.prog tab 30 f_R06_sep = true := by kernel_rfl
theorem chk_f_R06_Field : chkFunc Tryd.prog tab 60 f_R06_Field = true := by kernel_rfl
theorem chk_f_R06_group : chkFunc Tryd.prog tab 31 f_R06_group = true := by kernel_rfl
theorem chk_f_R06_Change : chkFunc Tryd.prog tab 19 f_R06_Change = true := by kernel_rfl
theorem chk_f_R06_New : chkFunc Tryd.prog tab 24 f_R06_New = true := by kernel_rfl
theorem chk_f_R06_depth : chkFunc Tryd.prog tab 77 f_R06_depth = true := by kernel_rfl
theorem chk_f_R06_taken : chkFunc Tryd.prog tab 78 f_R06_taken = true := by kernel_rfl
theorem chk_f_R06_plus : chkFunc Tryd.prog tab 79 f_R06_plus = true := by kernel_rfl
theorem chk_f_R06_add : chkFunc Tryd.prog tab 54 f_R06_add = true := by kernel_rfl
theorem chk_f_R06_without : chkFunc Tryd.prog tab 80 f_R06_without = true := by kernel_rfl
theorem chk_f_R06_with : chkFunc Tryd.prog tab 81 f_R06_with = true := by kernel_rfl
theorem chk_f_R06_inside : chkFunc Tryd.prog tab 91 f_R06_inside = true := by kernel_rfl
theorem chk_f_R06_move : chkFunc Tryd.prog tab 82 f_R06_move = true := by kernel_rfl
theorem chk_f_R06_one : chkFunc Tryd.prog tab 55 f_R06_one = true := by kernel_rfl
theorem chk_f_R06_split : chkFunc Tryd.prog tab 56 f_R06_split = true := by kernel_rfl
theorem chk_f_R06_join : chkFunc Tryd.prog tab 57 f_R06_join = true := by kernel_rfl
theorem chk_f_R06_Apply : chkFunc Tryd.prog tab 25 f_R06_Apply = true := by kernel_rfl
theorem chk_f_R06_Made : chkFunc Tryd.prog tab 13 f_R06_Made = true := by kernel_rfl
theorem chk_f_R06_After : chkFunc Tryd.prog tab 15 f_R06_After = true := by kernel_rfl
theorem chk_f_L07_made : chkFunc Tryd.prog tab 8 f_L07_made = true := by kernel_rfl
theorem chk_f_R05_Type : chkFunc Tryd.prog tab 52 f_R05_Type = true := by kernel_rfl
theorem chk_f_R05_Fit : chkFunc Tryd.prog tab 53 f_R05_Fit = true := by kernel_rfl
theorem chk_f_R05_Made : chkFunc Tryd.prog tab 23 f_R05_Made = true := by kernel_rfl
theorem chk_f_R06_Row : chkFunc Tryd.prog tab 10 f_R06_Row = true := by kernel_rfl
theorem chk_f_L07_LensStable : chkFunc Tryd.prog tab 3 f_L07_LensStable = true := by kernel_rfl
theorem chk_f_L07_places : chkFunc Tryd.prog tab 14 f_L07_places = true := by kernel_rfl
theorem chk_f_L07_LensComposes : chkFunc Tryd.prog tab 4 f_L07_LensComposes = true := by kernel_rfl
theorem chk_f_L07_LensOwn : chkFunc Tryd.prog tab 5 f_L07_LensOwn = true := by kernel_rfl
theorem link : Link Tryd.prog tab prog := ⟨by kernel_rfl, fun f F h hx => by
  unfold prog at h
  split at h
  · cases h; exact chk_f_slices_IndexFunc_api_Field_api_Field
  · cases h; exact chk_f_schema_index_1
  · cases h; exact chk_f_schema_index
  · cases h; exact chk_f_schema_Field
  · cases h; exact chk_f_schema_ancestors
  · cases h; exact chk_f_schema_group
  · cases h; exact chk_f_slices_ContainsFunc_api_Field_api_Field
  · cases h; exact chk_f_schema_named
  · cases h; exact chk_f_slices_Index_int_int
  · cases h; exact chk_f_slices_Contains_int_int
  · cases h; exact chk_f_schema_state_taken_1
  · cases h; exact chk_f_schema_state_taken
  · cases h; exact chk_f_schema_state_full
  · cases h; exact chk_f_schema_state_plus
  · cases h; exact chk_f_schema_state_add
  · cases h; exact chk_f_schema_state_drop_1
  · cases h; exact chk_f_slices_DeleteFunc_api_Field_api_Field
  · cases h; exact chk_f_schema_state_remove_1
  · cases h; exact chk_f_schema_state_remove
  · cases h; exact chk_f_schema_state_drop
  · cases h; exact chk_f_schema_state_rename
  · cases h; exact chk_f_schema_state_widen
  · cases h; exact chk_f_schema_state_move
  · cases h; exact chk_f_schema_separates
  · cases h; exact chk_f_schema_state_split
  · cases h; exact chk_f_schema_state_join
  · cases h; exact chk_f_slices_Clone_api_Field_api_Field
  · cases h; exact chk_f_schema_Apply
  · cases h; exact chk_f_value_isType
  · cases h; exact chk_f_value_limits
  · cases h; exact chk_f_value_Valid
  · cases h; exact chk_f_schema_Fits
  · cases h; exact chk_f_slices_Clone_api_Cell_api_Cell
  · cases h; exact chk_f_lens_keep
  · cases h; exact chk_f_lens_set
  · cases h; exact chk_f_lens_erase_1
  · cases h; exact chk_f_lens_erase
  · cases h; exact chk_f_lens_get
  · cases h; exact chk_f_lens_narrow_1
  · cases h; exact chk_f_lens_narrow
  · cases h; exact nomatch (show some XName.index = none from hx)
  · cases h; exact chk_f_internal_stringslite_Cut
  · cases h; exact chk_f_strings_Cut
  · cases h; exact chk_f_lens_divide
  · cases h; exact chk_f_lens_apart
  · cases h; exact chk_f_lens_of_1
  · cases h; exact chk_f_lens_connect
  · cases h; exact chk_f_lens_of_2
  · cases h; exact chk_f_lens_of_3
  · cases h; exact chk_f_lens_of_4
  · cases h; exact chk_f_lens_of
  · cases h; exact chk_f_lens_Forward
  · cases h; exact chk_f_lens_Back
  · cases h; exact chk_f_R06_SameRow
  · cases h; exact chk_f_schema_New
  · cases h; exact chk_f_lens_Translate
  · cases h; exact chk_f_L07_text
  · cases h; exact chk_f_lens_Lossless
  · cases h; exact chk_f_L07_sanity
  · cases h; exact chk_f_L07_small
  · cases h; exact chk_f_R06_mod
  · cases h; exact chk_f_R06_Name
  · cases h; exact chk_f_R06_name
  · cases h; exact chk_f_R06_sep
  · cases h; exact chk_f_R06_Field
  · cases h; exact chk_f_R06_group
  · cases h; exact chk_f_R06_Change
  · cases h; exact chk_f_R06_New
  · cases h; exact chk_f_R06_depth
  · cases h; exact chk_f_R06_taken
  · cases h; exact chk_f_R06_plus
  · cases h; exact chk_f_R06_add
  · cases h; exact chk_f_R06_without
  · cases h; exact chk_f_R06_with
  · cases h; exact chk_f_R06_inside
  · cases h; exact chk_f_R06_move
  · cases h; exact chk_f_R06_one
  · cases h; exact chk_f_R06_split
  · cases h; exact chk_f_R06_join
  · cases h; exact chk_f_R06_Apply
  · cases h; exact chk_f_R06_Made
  · cases h; exact chk_f_R06_After
  · cases h; exact chk_f_L07_made
  · cases h; exact chk_f_R05_Type
  · cases h; exact chk_f_R05_Fit
  · cases h; exact chk_f_R05_Made
  · cases h; exact chk_f_R06_Row
  · cases h; exact chk_f_L07_LensStable
  · cases h; exact chk_f_L07_places
  · cases h; exact chk_f_L07_LensComposes
  · cases h; exact chk_f_L07_LensOwn
  · exact absurd h (by simp), fun f F x h hx => by
  unfold prog at h
  split at h
  · cases h; exact nomatch (show (none : Option XName) = some x from hx)
  · cases h; exact nomatch (show (none : Option XName) = some x from hx)
  · cases h; exact nomatch (show (none : Option XName) = some x from hx)
  · cases h; exact nomatch (show (none : Option XName) = some x from hx)
  · cases h; exact nomatch (show (none : Option XName) = some x from hx)
  · cases h; exact nomatch (show (none : Option XName) = some x from hx)
  · cases h; exact nomatch (show (none : Option XName) = some x from hx)
  · cases h; exact nomatch (show (none : Option XName) = some x from hx)
  · cases h; exact nomatch (show (none : Option XName) = some x from hx)
  · cases h; exact nomatch (show (none : Option XName) = some x from hx)
  · cases h; exact nomatch (show (none : Option XName) = some x from hx)
  · cases h; exact nomatch (show (none : Option XName) = some x from hx)
  · cases h; exact nomatch (show (none : Option XName) = some x from hx)
  · cases h; exact nomatch (show (none : Option XName) = some x from hx)
  · cases h; exact nomatch (show (none : Option XName) = some x from hx)
  · cases h; exact nomatch (show (none : Option XName) = some x from hx)
  · cases h; exact nomatch (show (none : Option XName) = some x from hx)
  · cases h; exact nomatch (show (none : Option XName) = some x from hx)
  · cases h; exact nomatch (show (none : Option XName) = some x from hx)
  · cases h; exact nomatch (show (none : Option XName) = some x from hx)
  · cases h; exact nomatch (show (none : Option XName) = some x from hx)
  · cases h; exact nomatch (show (none : Option XName) = some x from hx)
  · cases h; exact nomatch (show (none : Option XName) = some x from hx)
  · cases h; exact nomatch (show (none : Option XName) = some x from hx)
  · cases h; exact nomatch (show (none : Option XName) = some x from hx)
  · cases h; exact nomatch (show (none : Option XName) = some x from hx)
  · cases h; exact nomatch (show (none : Option XName) = some x from hx)
  · cases h; exact nomatch (show (none : Option XName) = some x from hx)
  · cases h; exact nomatch (show (none : Option XName) = some x from hx)
  · cases h; exact nomatch (show (none : Option XName) = some x from hx)
  · cases h; exact nomatch (show (none : Option XName) = some x from hx)
  · cases h; exact nomatch (show (none : Option XName) = some x from hx)
  · cases h; exact nomatch (show (none : Option XName) = some x from hx)
  · cases h; exact nomatch (show (none : Option XName) = some x from hx)
  · cases h; exact nomatch (show (none : Option XName) = some x from hx)
  · cases h; exact nomatch (show (none : Option XName) = some x from hx)
  · cases h; exact nomatch (show (none : Option XName) = some x from hx)
  · cases h; exact nomatch (show (none : Option XName) = some x from hx)
  · cases h; exact nomatch (show (none : Option XName) = some x from hx)
  · cases h; exact nomatch (show (none : Option XName) = some x from hx)
  · cases h; cases (show some XName.index = some x from hx); exact ⟨by kernel_rfl, ext_index tab⟩
  · cases h; exact nomatch (show (none : Option XName) = some x from hx)
  · cases h; exact nomatch (show (none : Option XName) = some x from hx)
  · cases h; exact nomatch (show (none : Option XName) = some x from hx)
  · cases h; exact nomatch (show (none : Option XName) = some x from hx)
  · cases h; exact nomatch (show (none : Option XName) = some x from hx)
  · cases h; exact nomatch (show (none : Option XName) = some x from hx)
  · cases h; exact nomatch (show (none : Option XName) = some x from hx)
  · cases h; exact nomatch (show (none : Option XName) = some x from hx)
  · cases h; exact nomatch (show (none : Option XName) = some x from hx)
  · cases h; exact nomatch (show (none : Option XName) = some x from hx)
  · cases h; exact nomatch (show (none : Option XName) = some x from hx)
  · cases h; exact nomatch (show (none : Option XName) = some x from hx)
  · cases h; exact nomatch (show (none : Option XName) = some x from hx)
  · cases h; exact nomatch (show (none : Option XName) = some x from hx)
  · cases h; exact nomatch (show (none : Option XName) = some x from hx)
  · cases h; exact nomatch (show (none : Option XName) = some x from hx)
  · cases h; exact nomatch (show (none : Option XName) = some x from hx)
  · cases h; exact nomatch (show (none : Option XName) = some x from hx)
  · cases h; exact nomatch (show (none : Option XName) = some x from hx)
  · cases h; exact nomatch (show (none : Option XName) = some x from hx)
  · cases h; exact nomatch (show (none : Option XName) = some x from hx)
  · cases h; exact nomatch (show (none : Option XName) = some x from hx)
  · cases h; exact nomatch (show (none : Option XName) = some x from hx)
  · cases h; exact nomatch (show (none : Option XName) = some x from hx)
  · cases h; exact nomatch (show (none : Option XName) = some x from hx)
  · cases h; exact nomatch (show (none : Option XName) = some x from hx)
  · cases h; exact nomatch (show (none : Option XName) = some x from hx)
  · cases h; exact nomatch (show (none : Option XName) = some x from hx)
  · cases h; exact nomatch (show (none : Option XName) = some x from hx)
  · cases h; exact nomatch (show (none : Option XName) = some x from hx)
  · cases h; exact nomatch (show (none : Option XName) = some x from hx)
  · cases h; exact nomatch (show (none : Option XName) = some x from hx)
  · cases h; exact nomatch (show (none : Option XName) = some x from hx)
  · cases h; exact nomatch (show (none : Option XName) = some x from hx)
  · cases h; exact nomatch (show (none : Option XName) = some x from hx)
  · cases h; exact nomatch (show (none : Option XName) = some x from hx)
  · cases h; exact nomatch (show (none : Option XName) = some x from hx)
  · cases h; exact nomatch (show (none : Option XName) = some x from hx)
  · cases h; exact nomatch (show (none : Option XName) = some x from hx)
  · cases h; exact nomatch (show (none : Option XName) = some x from hx)
  · cases h; exact nomatch (show (none : Option XName) = some x from hx)
  · cases h; exact nomatch (show (none : Option XName) = some x from hx)
  · cases h; exact nomatch (show (none : Option XName) = some x from hx)
  · cases h; exact nomatch (show (none : Option XName) = some x from hx)
  · cases h; exact nomatch (show (none : Option XName) = some x from hx)
  · cases h; exact nomatch (show (none : Option XName) = some x from hx)
  · cases h; exact nomatch (show (none : Option XName) = some x from hx)
  · cases h; exact nomatch (show (none : Option XName) = some x from hx)
  · cases h; exact nomatch (show (none : Option XName) = some x from hx)
  · cases h; exact nomatch (show (none : Option XName) = some x from hx)
  · exact absurd h (by simp)⟩
#print axioms link
end Go.Den
