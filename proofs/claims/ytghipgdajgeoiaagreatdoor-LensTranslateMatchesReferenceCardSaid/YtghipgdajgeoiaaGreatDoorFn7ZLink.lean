/- Which function of the program each number stands for, and that the checked code is the program's. -/
import Derived.Test.YtghipgdajgeoiaaGreatDoorProg
import Derived.Test.YtghipgdajgeoiaaGreatDoorDenO
import Derived.Test.YtghipgdajgeoiaaGreatDoorFn7Z
import Derived.KernelRfl
import Derived.Test.YtghipgdajgeoiaaGreatDoorFn7ZX
namespace Go.Den
open Go Go.Proofs
set_option maxRecDepth 100000
def tab : Nat → Nat
  | 12 => 10
  | 173 => 95
  | 172 => 96
  | 174 => 82
  | 175 => 61
  | 181 => 77
  | 182 => 78
  | 180 => 83
  | 178 => 93
  | 176 => 99
  | 177 => 86
  | 179 => 94
  | 183 => 79
  | 184 => 80
  | 185 => 81
  | 191 => 53
  | 188 => 84
  | 187 => 97
  | 186 => 98
  | 189 => 85
  | 192 => 54
  | 193 => 55
  | 194 => 56
  | 195 => 57
  | 190 => 87
  | 196 => 58
  | 197 => 59
  | 198 => 60
  | 200 => 28
  | 202 => 88
  | 203 => 89
  | 204 => 62
  | 208 => 29
  | 223 => 74
  | 227 => 39
  | 224 => 70
  | 225 => 90
  | 239 => 63
  | 226 => 68
  | 228 => 91
  | 240 => 64
  | 233 => 102
  | 234 => 101
  | 235 => 100
  | 236 => 92
  | 237 => 66
  | 241 => 65
  | 238 => 69
  | 242 => 67
  | 243 => 71
  | 244 => 72
  | 245 => 30
  | 247 => 11
  | 248 => 13
  | 250 => 15
  | 199 => 38
  | 249 => 18
  | 246 => 21
  | 251 => 5
  | 252 => 6
  | 47 => 47
  | 49 => 43
  | 50 => 44
  | 48 => 75
  | 51 => 45
  | 52 => 46
  | 58 => 23
  | 55 => 48
  | 54 => 49
  | 53 => 76
  | 56 => 50
  | 59 => 24
  | 57 => 42
  | 60 => 25
  | 61 => 26
  | 63 => 8
  | 64 => 40
  | 65 => 41
  | 66 => 22
  | 62 => 37
  | 87 => 17
  | 88 => 20
  | 253 => 7
  | 67 => 51
  | 68 => 52
  | 69 => 27
  | 75 => 9
  | 212 => 73
  | 213 => 31
  | 84 => 32
  | 258 => 33
  | 257 => 34
  | 259 => 35
  | 260 => 36
  | 261 => 12
  | 262 => 14
  | 263 => 16
  | 265 => 3
  | 264 => 19
  | 266 => 4
  | _ => 1000000
theorem chk_f_R06_SameRow : chkFunc Tryz.prog tab 10 f_R06_SameRow = true := by kernel_rfl
theorem chk_f_slices_IndexFunc_api_Field_api_Field : chkFunc Tryz.prog tab 95 f_slices_IndexFunc_api_Field_api_Field = true := by kernel_rfl
theorem chk_f_schema_index_1 : chkFunc Tryz.prog tab 96 f_schema_index_1 = true := by kernel_rfl
theorem chk_f_schema_index : chkFunc Tryz.prog tab 82 f_schema_index = true := by kernel_rfl
theorem chk_f_schema_Field : chkFunc Tryz.prog tab 61 f_schema_Field = true := by kernel_rfl
theorem chk_f_schema_ancestors : chkFunc Tryz.prog tab 77 f_schema_ancestors = true := by kernel_rfl
theorem chk_f_schema_group : chkFunc Tryz.prog tab 78 f_schema_group = true := by kernel_rfl
theorem chk_f_slices_ContainsFunc_api_Field_api_Field : chkFunc Tryz.prog tab 83 f_slices_ContainsFunc_api_Field_api_Field = true := by kernel_rfl
theorem chk_f_schema_named : chkFunc Tryz.prog tab 93 f_schema_named = true := by kernel_rfl
theorem chk_f_slices_Index_int_int : chkFunc Tryz.prog tab 99 f_slices_Index_int_int = true := by kernel_rfl
theorem chk_f_slices_Contains_int_int : chkFunc Tryz.prog tab 86 f_slices_Contains_int_int = true := by kernel_rfl
theorem chk_f_schema_state_taken_1 : chkFunc Tryz.prog tab 94 f_schema_state_taken_1 = true := by kernel_rfl
theorem chk_f_schema_state_taken : chkFunc Tryz.prog tab 79 f_schema_state_taken = true := by kernel_rfl
theorem chk_f_schema_state_full : chkFunc Tryz.prog tab 80 f_schema_state_full = true := by kernel_rfl
theorem chk_f_schema_state_plus : chkFunc Tryz.prog tab 81 f_schema_state_plus = true := by kernel_rfl
theorem chk_f_schema_state_add : chkFunc Tryz.prog tab 53 f_schema_state_add = true := by kernel_rfl
theorem chk_f_schema_state_drop_1 : chkFunc Tryz.prog tab 84 f_schema_state_drop_1 = true := by kernel_rfl
theorem chk_f_slices_DeleteFunc_api_Field_api_Field : chkFunc Tryz.prog tab 97 f_slices_DeleteFunc_api_Field_api_Field = true := by kernel_rfl
theorem chk_f_schema_state_remove_1 : chkFunc Tryz.prog tab 98 f_schema_state_remove_1 = true := by kernel_rfl
theorem chk_f_schema_state_remove : chkFunc Tryz.prog tab 85 f_schema_state_remove = true := by kernel_rfl
theorem chk_f_schema_state_drop : chkFunc Tryz.prog tab 54 f_schema_state_drop = true := by kernel_rfl
theorem chk_f_schema_state_rename : chkFunc Tryz.prog tab 55 f_schema_state_rename = true := by kernel_rfl
theorem chk_f_schema_state_widen : chkFunc Tryz.prog tab 56 f_schema_state_widen = true := by kernel_rfl
theorem chk_f_schema_state_move : chkFunc Tryz.prog tab 57 f_schema_state_move = true := by kernel_rfl
theorem chk_f_schema_separates : chkFunc Tryz.prog tab 87 f_schema_separates = true := by kernel_rfl
theorem chk_f_schema_state_split : chkFunc Tryz.prog tab 58 f_schema_state_split = true := by kernel_rfl
theorem chk_f_schema_state_join : chkFunc Tryz.prog tab 59 f_schema_state_join = true := by kernel_rfl
theorem chk_f_slices_Clone_api_Field_api_Field : chkFunc Tryz.prog tab 60 f_slices_Clone_api_Field_api_Field = true := by kernel_rfl
theorem chk_f_schema_Apply : chkFunc Tryz.prog tab 28 f_schema_Apply = true := by kernel_rfl
theorem chk_f_value_isType : chkFunc Tryz.prog tab 88 f_value_isType = true := by kernel_rfl
theorem chk_f_value_limits : chkFunc Tryz.prog tab 89 f_value_limits = true := by kernel_rfl
theorem chk_f_value_Valid : chkFunc Tryz.prog tab 62 f_value_Valid = true := by kernel_rfl
theorem chk_f_schema_Fits : chkFunc Tryz.prog tab 29 f_schema_Fits = true := by kernel_rfl
theorem chk_f_slices_Clone_api_Cell_api_Cell : chkFunc Tryz.prog tab 74 f_slices_Clone_api_Cell_api_Cell = true := by kernel_rfl
theorem chk_f_lens_keep : chkFunc Tryz.prog tab 39 f_lens_keep = true := by kernel_rfl
theorem chk_f_lens_set : chkFunc Tryz.prog tab 70 f_lens_set = true := by kernel_rfl
theorem chk_f_lens_erase_1 : chkFunc Tryz.prog tab 90 f_lens_erase_1 = true := by kernel_rfl
theorem chk_f_lens_erase : chkFunc Tryz.prog tab 63 f_lens_erase = true := by kernel_rfl
theorem chk_f_lens_get : chkFunc Tryz.prog tab 68 f_lens_get = true := by kernel_rfl
theorem chk_f_lens_narrow_1 : chkFunc Tryz.prog tab 91 f_lens_narrow_1 = true := by kernel_rfl
theorem chk_f_lens_narrow : chkFunc Tryz.prog tab 64 f_lens_narrow = true := by kernel_rfl
theorem chk_f_internal_stringslite_Cut : chkFunc Tryz.prog tab 101 f_internal_stringslite_Cut = true := by kernel_rfl
theorem chk_f_strings_Cut : chkFunc Tryz.prog tab 100 f_strings_Cut = true := by kernel_rfl
theorem chk_f_lens_divide : chkFunc Tryz.prog tab 92 f_lens_divide = true := by kernel_rfl
theorem chk_f_lens_apart : chkFunc Tryz.prog tab 66 f_lens_apart = true := by kernel_rfl
theorem chk_f_lens_of_1 : chkFunc Tryz.prog tab 65 f_lens_of_1 = true := by kernel_rfl
theorem chk_f_lens_connect : chkFunc Tryz.prog tab 69 f_lens_connect = true := by kernel_rfl
theorem chk_f_lens_of_2 : chkFunc Tryz.prog tab 67 f_lens_of_2 = true := by kernel_rfl
theorem chk_f_lens_of_3 : chkFunc Tryz.prog tab 71 f_lens_of_3 = true := by kernel_rfl
theorem chk_f_lens_of_4 : chkFunc Tryz.prog tab 72 f_lens_of_4 = true := by kernel_rfl
theorem chk_f_lens_of : chkFunc Tryz.prog tab 30 f_lens_of = true := by kernel_rfl
theorem chk_f_lens_Forward : chkFunc Tryz.prog tab 11 f_lens_Forward = true := by kernel_rfl
theorem chk_f_lens_Back : chkFunc Tryz.prog tab 13 f_lens_Back = true := by kernel_rfl
theorem chk_f_lens_Lossless : chkFunc Tryz.prog tab 15 f_lens_Lossless = true := by kernel_rfl
theorem chk_f_schema_New : chkFunc Tryz.prog tab 38 f_schema_New = true := by kernel_rfl
theorem chk_f_lens_Translate : chkFunc Tryz.prog tab 18 f_lens_Translate = true := by kernel_rfl
theorem chk_f_L07_text : chkFunc Tryz.prog tab 21 f_L07_text = true := by kernel_rfl
theorem chk_f_L07_sanity : chkFunc Tryz.prog tab 5 f_L07_sanity = true := by kernel_rfl
theorem chk_f_L07_small : chkFunc Tryz.prog tab 6 f_L07_small = true := by kernel_rfl
theorem chk_f_R06_Field : chkFunc Tryz.prog tab 47 f_R06_Field = true := by kernel_rfl
theorem chk_f_R06_group : chkFunc Tryz.prog tab 43 f_R06_group = true := by kernel_rfl
theorem chk_f_R06_depth : chkFunc Tryz.prog tab 44 f_R06_depth = true := by kernel_rfl
theorem chk_f_R06_Name : chkFunc Tryz.prog tab 75 f_R06_Name = true := by kernel_rfl
theorem chk_f_R06_taken : chkFunc Tryz.prog tab 45 f_R06_taken = true := by kernel_rfl
theorem chk_f_R06_plus : chkFunc Tryz.prog tab 46 f_R06_plus = true := by kernel_rfl
theorem chk_f_R06_add : chkFunc Tryz.prog tab 23 f_R06_add = true := by kernel_rfl
theorem chk_f_R06_without : chkFunc Tryz.prog tab 48 f_R06_without = true := by kernel_rfl
theorem chk_f_R06_with : chkFunc Tryz.prog tab 49 f_R06_with = true := by kernel_rfl
theorem chk_f_R06_inside : chkFunc Tryz.prog tab 76 f_R06_inside = true := by kernel_rfl
theorem chk_f_R06_move : chkFunc Tryz.prog tab 50 f_R06_move = true := by kernel_rfl
theorem chk_f_R06_one : chkFunc Tryz.prog tab 24 f_R06_one = true := by kernel_rfl
theorem chk_f_R06_sep : chkFunc Tryz.prog tab 42 f_R06_sep = true := by kernel_rfl
theorem chk_f_R06_split : chkFunc Tryz.prog tab 25 f_R06_split = true := by kernel_rfl
theorem chk_f_R06_join : chkFunc Tryz.prog tab 26 f_R06_join = true := by kernel_rfl
theorem chk_f_R06_Apply : chkFunc Tryz.prog tab 8 f_R06_Apply = true := by kernel_rfl
theorem chk_f_R06_mod : chkFunc Tryz.prog tab 40 f_R06_mod = true := by kernel_rfl
theorem chk_f_R06_name : chkFunc Tryz.prog tab 41 f_R06_name = true := by kernel_rfl
theorem chk_f_R06_Change : chkFunc Tryz.prog tab 22 f_R06_Change = true := by kernel_rfl
theorem chk_f_R06_New : chkFunc Tryz.prog tab 37 f_R06_New = true := by kernel_rfl
theorem chk_f_R06_Made : chkFunc Tryz.prog tab 17 f_R06_Made = true := by kernel_rfl
theorem chk_f_R06_After : chkFunc Tryz.prog tab 20 f_R06_After = true := by kernel_rfl
theorem chk_f_L07_made : chkFunc Tryz.prog tab 7 f_L07_made = true := by kernel_rfl
theorem chk_f_R05_Type : chkFunc Tryz.prog tab 51 f_R05_Type = true := by kernel_rfl
theorem chk_f_R05_Fit : chkFunc Tryz.prog tab 52 f_R05_Fit = true := by kernel_rfl
theorem chk_f_R05_Made : chkFunc Tryz.prog tab 27 f_R05_Made = true := by kernel_rfl
theorem chk_f_R06_Row : chkFunc Tryz.prog tab 9 f_R06_Row = true := by kernel_rfl
theorem chk_f_R05_Valid : chkFunc Tryz.prog tab 73 f_R05_Valid = true := by kernel_rfl
theorem chk_f_R06_Fits : chkFunc Tryz.prog tab 31 f_R06_Fits = true := by kernel_rfl
theorem chk_f_R06_Get : chkFunc Tryz.prog tab 32 f_R06_Get = true := by kernel_rfl
theorem chk_f_R07_Put : chkFunc Tryz.prog tab 33 f_R07_Put = true := by kernel_rfl
theorem chk_f_R07_null : chkFunc Tryz.prog tab 34 f_R07_null = true := by kernel_rfl
theorem chk_f_R07_Divide : chkFunc Tryz.prog tab 35 f_R07_Divide = true := by kernel_rfl
theorem chk_f_R07_Connect : chkFunc Tryz.prog tab 36 f_R07_Connect = true := by kernel_rfl
theorem chk_f_R07_Forward : chkFunc Tryz.prog tab 12 f_R07_Forward = true := by kernel_rfl
theorem chk_f_R07_Back : chkFunc Tryz.prog tab 14 f_R07_Back = true := by kernel_rfl
theorem chk_f_R07_Lossless : chkFunc Tryz.prog tab 16 f_R07_Lossless = true := by kernel_rfl
theorem chk_f_L07_LensMatchesReference : chkFunc Tryz.prog tab 3 f_L07_LensMatchesReference = true := by kernel_rfl
theorem chk_f_R07_Translate : chkFunc Tryz.prog tab 19 f_R07_Translate = true := by kernel_rfl
theorem chk_f_L07_LensTranslateMatchesReference : chkFunc Tryz.prog tab 4 f_L07_LensTranslateMatchesReference = true := by kernel_rfl
theorem link : Link Tryz.prog tab prog := ⟨by kernel_rfl, fun f F h hx => by
  unfold prog at h
  split at h
  · cases h; exact chk_f_R06_SameRow
  · cases h; exact chk_f_slices_IndexFunc_api_Field_api_Field
  · cases h; exact chk_f_schema_index_1
  · cases h; exact chk_f_schema_index
  · cases h; exact chk_f_schema_Field
  · cases h; exact chk_f_schema_ancestors
  · cases h; exact chk_f_schema_group
  · cases h; exact chk_f_slices_ContainsFunc_api_Field_api_Field
  · cases h; exact chk_f_schema_named
  · cases h; exact chk_f_slices_Index_int_int
  · cases h; exact chk_f_slices_Contains_int_int
  · cases h; exact chk_f_schema_state_taken_1
  · cases h; exact chk_f_schema_state_taken
  · cases h; exact chk_f_schema_state_full
  · cases h; exact chk_f_schema_state_plus
  · cases h; exact chk_f_schema_state_add
  · cases h; exact chk_f_schema_state_drop_1
  · cases h; exact chk_f_slices_DeleteFunc_api_Field_api_Field
  · cases h; exact chk_f_schema_state_remove_1
  · cases h; exact chk_f_schema_state_remove
  · cases h; exact chk_f_schema_state_drop
  · cases h; exact chk_f_schema_state_rename
  · cases h; exact chk_f_schema_state_widen
  · cases h; exact chk_f_schema_state_move
  · cases h; exact chk_f_schema_separates
  · cases h; exact chk_f_schema_state_split
  · cases h; exact chk_f_schema_state_join
  · cases h; exact chk_f_slices_Clone_api_Field_api_Field
  · cases h; exact chk_f_schema_Apply
  · cases h; exact chk_f_value_isType
  · cases h; exact chk_f_value_limits
  · cases h; exact chk_f_value_Valid
  · cases h; exact chk_f_schema_Fits
  · cases h; exact chk_f_slices_Clone_api_Cell_api_Cell
  · cases h; exact chk_f_lens_keep
  · cases h; exact chk_f_lens_set
  · cases h; exact chk_f_lens_erase_1
  · cases h; exact chk_f_lens_erase
  · cases h; exact chk_f_lens_get
  · cases h; exact chk_f_lens_narrow_1
  · cases h; exact chk_f_lens_narrow
  · cases h; exact nomatch (show some XName.index = none from hx)
  · cases h; exact chk_f_internal_stringslite_Cut
  · cases h; exact chk_f_strings_Cut
  · cases h; exact chk_f_lens_divide
  · cases h; exact chk_f_lens_apart
  · cases h; exact chk_f_lens_of_1
  · cases h; exact chk_f_lens_connect
  · cases h; exact chk_f_lens_of_2
  · cases h; exact chk_f_lens_of_3
  · cases h; exact chk_f_lens_of_4
  · cases h; exact chk_f_lens_of
  · cases h; exact chk_f_lens_Forward
  · cases h; exact chk_f_lens_Back
  · cases h; exact chk_f_lens_Lossless
  · cases h; exact chk_f_schema_New
  · cases h; exact chk_f_lens_Translate
  · cases h; exact chk_f_L07_text
  · cases h; exact chk_f_L07_sanity
  · cases h; exact chk_f_L07_small
  · cases h; exact chk_f_R06_Field
  · cases h; exact chk_f_R06_group
  · cases h; exact chk_f_R06_depth
  · cases h; exact chk_f_R06_Name
  · cases h; exact chk_f_R06_taken
  · cases h; exact chk_f_R06_plus
  · cases h; exact chk_f_R06_add
  · cases h; exact chk_f_R06_without
  · cases h; exact chk_f_R06_with
  · cases h; exact chk_f_R06_inside
  · cases h; exact chk_f_R06_move
  · cases h; exact chk_f_R06_one
  · cases h; exact chk_f_R06_sep
  · cases h; exact chk_f_R06_split
  · cases h; exact chk_f_R06_join
  · cases h; exact chk_f_R06_Apply
  · cases h; exact chk_f_R06_mod
  · cases h; exact chk_f_R06_name
  · cases h; exact chk_f_R06_Change
  · cases h; exact chk_f_R06_New
  · cases h; exact chk_f_R06_Made
  · cases h; exact chk_f_R06_After
  · cases h; exact chk_f_L07_made
  · cases h; exact chk_f_R05_Type
  · cases h; exact chk_f_R05_Fit
  · cases h; exact chk_f_R05_Made
  · cases h; exact chk_f_R06_Row
  · cases h; exact chk_f_R05_Valid
  · cases h; exact chk_f_R06_Fits
  · cases h; exact chk_f_R06_Get
  · cases h; exact chk_f_R07_Put
  · cases h; exact chk_f_R07_null
  · cases h; exact chk_f_R07_Divide
  · cases h; exact chk_f_R07_Connect
  · cases h; exact chk_f_R07_Forward
  · cases h; exact chk_f_R07_Back
  · cases h; exact chk_f_R07_Lossless
  · cases h; exact chk_f_L07_LensMatchesReference
  · cases h; exact chk_f_R07_Translate
  · cases h; exact chk_f_L07_LensTranslateMatchesReference
  · exact absurd h (by simp), fun f F x h hx => by
  unfold prog at h
  split at h
  · cases h; exact nomatch (show (none : Option XName) = some x from hx)
  · cases h; exact nomatch (show (none : Option XName) = some x from hx)
  · cases h; exact nomatch (show (none : Option XName) = some x from hx)
  · cases h; exact nomatch (show (none : Option XName) = some x from hx)
  · cases h; exact nomatch (show (none : Option XName) = some x from hx)
  · cases h; exact nomatch (show (none : Option XName) = some x from hx)
  · cases h; exact nomatch (show (none : Option XName) = some x from hx)
  · cases h; exact nomatch (show (none : Option XName) = some x from hx)
  · cases h; exact nomatch (show (none : Option XName) = some x from hx)
  · cases h; exact nomatch (show (none : Option XName) = some x from hx)
  · cases h; exact nomatch (show (none : Option XName) = some x from hx)
  · cases h; exact nomatch (show (none : Option XName) = some x from hx)
  · cases h; exact nomatch (show (none : Option XName) = some x from hx)
  · cases h; exact nomatch (show (none : Option XName) = some x from hx)
  · cases h; exact nomatch (show (none : Option XName) = some x from hx)
  · cases h; exact nomatch (show (none : Option XName) = some x from hx)
  · cases h; exact nomatch (show (none : Option XName) = some x from hx)
  · cases h; exact nomatch (show (none : Option XName) = some x from hx)
  · cases h; exact nomatch (show (none : Option XName) = some x from hx)
  · cases h; exact nomatch (show (none : Option XName) = some x from hx)
  · cases h; exact nomatch (show (none : Option XName) = some x from hx)
  · cases h; exact nomatch (show (none : Option XName) = some x from hx)
  · cases h; exact nomatch (show (none : Option XName) = some x from hx)
  · cases h; exact nomatch (show (none : Option XName) = some x from hx)
  · cases h; exact nomatch (show (none : Option XName) = some x from hx)
  · cases h; exact nomatch (show (none : Option XName) = some x from hx)
  · cases h; exact nomatch (show (none : Option XName) = some x from hx)
  · cases h; exact nomatch (show (none : Option XName) = some x from hx)
  · cases h; exact nomatch (show (none : Option XName) = some x from hx)
  · cases h; exact nomatch (show (none : Option XName) = some x from hx)
  · cases h; exact nomatch (show (none : Option XName) = some x from hx)
  · cases h; exact nomatch (show (none : Option XName) = some x from hx)
  · cases h; exact nomatch (show (none : Option XName) = some x from hx)
  · cases h; exact nomatch (show (none : Option XName) = some x from hx)
  · cases h; exact nomatch (show (none : Option XName) = some x from hx)
  · cases h; exact nomatch (show (none : Option XName) = some x from hx)
  · cases h; exact nomatch (show (none : Option XName) = some x from hx)
  · cases h; exact nomatch (show (none : Option XName) = some x from hx)
  · cases h; exact nomatch (show (none : Option XName) = some x from hx)
  · cases h; exact nomatch (show (none : Option XName) = some x from hx)
  · cases h; exact nomatch (show (none : Option XName) = some x from hx)
  · cases h; cases (show some XName.index = some x from hx); exact ⟨by kernel_rfl, ext_index tab⟩
  · cases h; exact nomatch (show (none : Option XName) = some x from hx)
  · cases h; exact nomatch (show (none : Option XName) = some x from hx)
  · cases h; exact nomatch (show (none : Option XName) = some x from hx)
  · cases h; exact nomatch (show (none : Option XName) = some x from hx)
  · cases h; exact nomatch (show (none : Option XName) = some x from hx)
  · cases h; exact nomatch (show (none : Option XName) = some x from hx)
  · cases h; exact nomatch (show (none : Option XName) = some x from hx)
  · cases h; exact nomatch (show (none : Option XName) = some x from hx)
  · cases h; exact nomatch (show (none : Option XName) = some x from hx)
  · cases h; exact nomatch (show (none : Option XName) = some x from hx)
  · cases h; exact nomatch (show (none : Option XName) = some x from hx)
  · cases h; exact nomatch (show (none : Option XName) = some x from hx)
  · cases h; exact nomatch (show (none : Option XName) = some x from hx)
  · cases h; exact nomatch (show (none : Option XName) = some x from hx)
  · cases h; exact nomatch (show (none : Option XName) = some x from hx)
  · cases h; exact nomatch (show (none : Option XName) = some x from hx)
  · cases h; exact nomatch (show (none : Option XName) = some x from hx)
  · cases h; exact nomatch (show (none : Option XName) = some x from hx)
  · cases h; exact nomatch (show (none : Option XName) = some x from hx)
  · cases h; exact nomatch (show (none : Option XName) = some x from hx)
  · cases h; exact nomatch (show (none : Option XName) = some x from hx)
  · cases h; exact nomatch (show (none : Option XName) = some x from hx)
  · cases h; exact nomatch (show (none : Option XName) = some x from hx)
  · cases h; exact nomatch (show (none : Option XName) = some x from hx)
  · cases h; exact nomatch (show (none : Option XName) = some x from hx)
  · cases h; exact nomatch (show (none : Option XName) = some x from hx)
  · cases h; exact nomatch (show (none : Option XName) = some x from hx)
  · cases h; exact nomatch (show (none : Option XName) = some x from hx)
  · cases h; exact nomatch (show (none : Option XName) = some x from hx)
  · cases h; exact nomatch (show (none : Option XName) = some x from hx)
  · cases h; exact nomatch (show (none : Option XName) = some x from hx)
  · cases h; exact nomatch (show (none : Option XName) = some x from hx)
  · cases h; exact nomatch (show (none : Option XName) = some x from hx)
  · cases h; exact nomatch (show (none : Option XName) = some x from hx)
  · cases h; exact nomatch (show (none : Option XName) = some x from hx)
  · cases h; exact nomatch (show (none : Option XName) = some x from hx)
  · cases h; exact nomatch (show (none : Option XName) = some x from hx)
  · cases h; exact nomatch (show (none : Option XName) = some x from hx)
  · cases h; exact nomatch (show (none : Option XName) = some x from hx)
  · cases h; exact nomatch (show (none : Option XName) = some x from hx)
  · cases h; exact nomatch (show (none : Option XName) = some x from hx)
  · cases h; exact nomatch (show (none : Option XName) = some x from hx)
  · cases h; exact nomatch (show (none : Option XName) = some x from hx)
  · cases h; exact nomatch (show (none : Option XName) = some x from hx)
  · cases h; exact nomatch (show (none : Option XName) = some x from hx)
  · cases h; exact nomatch (show (none : Option XName) = some x from hx)
  · cases h; exact nomatch (show (none : Option XName) = some x from hx)
  · cases h; exact nomatch (show (none : Option XName) = some x from hx)
  · cases h; exact nomatch (show (none : Option XName) = some x from hx)
  · cases h; exact nomatch (show (none : Option XName) = some x from hx)
  · cases h; exact nomatch (show (none : Option XName) = some x from hx)
  · cases h; exact nomatch (show (none : Option XName) = some x from hx)
  · cases h; exact nomatch (show (none : Option XName) = some x from hx)
  · cases h; exact nomatch (show (none : Option XName) = some x from hx)
  · cases h; exact nomatch (show (none : Option XName) = some x from hx)
  · cases h; exact nomatch (show (none : Option XName) = some x from hx)
  · cases h; exact nomatch (show (none : Option XName) = some x from hx)
  · cases h; exact nomatch (show (none : Option XName) = some x from hx)
  · exact absurd h (by simp)⟩
#print axioms link
end Go.Den
