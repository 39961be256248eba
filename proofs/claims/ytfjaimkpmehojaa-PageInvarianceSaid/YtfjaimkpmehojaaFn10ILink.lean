/- Which function of the program each number stands for, and that the checked code is the program's. -/
import Derived.Test.YtfjaimkpmehojaaProg
import Derived.Test.YtfjaimkpmehojaaDenO
import Derived.Test.YtfjaimkpmehojaaCmpS
import Derived.Test.YtfjaimkpmehojaaDenS
import Derived.Test.YtfjaimkpmehojaaFn10I
import Derived.KernelRfl
import Derived.Test.YtfjaimkpmehojaaFn10IX
namespace Go.Den
open Go Go.Proofs
set_option maxRecDepth 100000
def tab : Nat → Nat
  | 476 => 33
  | 477 => 31
  | 202 => 49
  | 203 => 50
  | 204 => 32
  | 508 => 72
  | 409 => 53
  | 410 => 55
  | 411 => 80
  | 414 => 77
  | 412 => 47
  | 415 => 78
  | 509 => 75
  | 516 => 73
  | 273 => 92
  | 537 => 85
  | 536 => 86
  | 538 => 87
  | 539 => 88
  | 281 => 95
  | 277 => 108
  | 279 => 96
  | 278 => 109
  | 280 => 97
  | 282 => 89
  | 540 => 90
  | 541 => 91
  | 542 => 83
  | 518 => 117
  | 413 => 124
  | 439 => 121
  | 520 => 119
  | 478 => 12
  | 479 => 34
  | 416 => 43
  | 417 => 52
  | 418 => 81
  | 419 => 82
  | 510 => 79
  | 511 => 76
  | 517 => 74
  | 522 => 84
  | 519 => 118
  | 420 => 125
  | 436 => 122
  | 512 => 127
  | 513 => 128
  | 514 => 126
  | 515 => 123
  | 521 => 120
  | 485 => 13
  | 489 => 14
  | 440 => 22
  | 483 => 15
  | 484 => 17
  | 480 => 44
  | 487 => 26
  | 481 => 54
  | 482 => 46
  | 486 => 28
  | 488 => 30
  | 491 => 9
  | 492 => 10
  | 67 => 41
  | 68 => 42
  | 69 => 24
  | 490 => 18
  | 493 => 11
  | 70 => 51
  | 495 => 36
  | 367 => 37
  | 496 => 19
  | 451 => 20
  | 452 => 38
  | 453 => 39
  | 497 => 21
  | 463 => 40
  | 466 => 23
  | 505 => 6
  | 498 => 25
  | 506 => 7
  | _ => 1000000
theorem chk_f_page_coderOf : chkFunc Try.prog tab 33 f_page_coderOf = true := by kernel_rfl
theorem chk_f_page_check : chkFunc Try.prog tab 31 f_page_check = true := by kernel_rfl
theorem chk_f_value_isType : chkFunc Try.prog tab 49 f_value_isType = true := by kernel_rfl
theorem chk_f_value_limits : chkFunc Try.prog tab 50 f_value_limits = true := by kernel_rfl
theorem chk_f_value_Valid : chkFunc Try.prog tab 32 f_value_Valid = true := by kernel_rfl
theorem chk_f_page_masked_mask : chkFunc Try.prog tab 72 f_page_masked_mask = true := by kernel_rfl
theorem chk_f_wire_room : chkFunc Try.prog tab 53 f_wire_room = true := by kernel_rfl
theorem chk_f_wire_number : chkFunc Try.prog tab 55 f_wire_number = true := by kernel_rfl
theorem chk_f_wire_sized_string : chkFunc Try.prog tab 80 f_wire_sized_string = true := by kernel_rfl
theorem chk_f_wire_Text : chkFunc Try.prog tab 77 f_wire_Text = true := by kernel_rfl
theorem chk_f_wire_U : chkFunc Try.prog tab 47 f_wire_U = true := by kernel_rfl
theorem chk_f_wire_S : chkFunc Try.prog tab 78 f_wire_S = true := by kernel_rfl
theorem chk_f_page_bare : chkFunc Try.prog tab 75 f_page_bare = true := by kernel_rfl
theorem chk_f_page_plain_encode : chkFunc Try.prog tab 73 f_page_plain_encode = true := by kernel_rfl
theorem chk_f_slices_IndexFunc_api_Value_api_Value : chkFunc Try.prog tab 92 f_slices_IndexFunc_api_Value_api_Value = true := by kernel_rfl
theorem chk_f_slices_DeleteFunc_api_Value_api_Value : chkFunc Try.prog tab 85 f_slices_DeleteFunc_api_Value_api_Value = true := by kernel_rfl
theorem chk_f_slices_Clone_api_Value_api_Value : chkFunc Try.prog tab 86 f_slices_Clone_api_Value_api_Value = true := by kernel_rfl
theorem chk_f_page_dict_encode_1 : chkFunc Try.prog tab 87 f_page_dict_encode_1 = true := by kernel_rfl
theorem chk_f_cmp_Or_int : chkFunc Try.prog tab 95 f_cmp_Or_int = true := by kernel_rfl
theorem chk_f_cmp_isNaN_int64 : chkFunc Try.prog tab 108 f_cmp_isNaN_int64 = true := by kernel_rfl
theorem chk_f_cmp_Compare_int64 : chkFunc Try.prog tab 96 f_cmp_Compare_int64 = true := by kernel_rfl
theorem chk_f_strings_Compare : chkFunc Try.prog tab 97 f_strings_Compare = true := by kernel_rfl
theorem chk_f_value_Compare : chkFunc Try.prog tab 89 f_value_Compare = true := by kernel_rfl
theorem chk_f_slices_Compact_api_Value_api_Value : chkFunc Try.prog tab 90 f_slices_Compact_api_Value_api_Value = true := by kernel_rfl
theorem chk_f_slices_BinarySearchFunc_api_Value_api_Value_api_Value : chkFunc Try.prog tab 91 f_slices_BinarySearchFunc_api_Value_api_Value_api_Value = true := by kernel_rfl
theorem chk_f_page_dict_encode : chkFunc Try.prog tab 83 f_page_dict_encode = true := by kernel_rfl
theorem chk_f_page_delta_encode : chkFunc Try.prog tab 117 f_page_delta_encode = true := by kernel_rfl
theorem chk_f_slices_Clone_byte_byte : chkFunc Try.prog tab 124 f_slices_Clone_byte_byte = true := by kernel_rfl
theorem chk_f_value_Encode : chkFunc Try.prog tab 121 f_value_Encode = true := by kernel_rfl
theorem chk_f_page_runs_encode : chkFunc Try.prog tab 119 f_page_runs_encode = true := by kernel_rfl
theorem chk_f_page_Encode : chkFunc Try.prog tab 12 f_page_Encode = true := by kernel_rfl
theorem chk_f_bytes_Equal : chkFunc Try.prog tab 34 f_bytes_Equal = true := by kernel_rfl
theorem chk_f_wire_ReadU : chkFunc Try.prog tab 43 f_wire_ReadU = true := by kernel_rfl
theorem chk_f_wire_span : chkFunc Try.prog tab 52 f_wire_span = true := by kernel_rfl
theorem chk_f_wire_ReadText : chkFunc Try.prog tab 81 f_wire_ReadText = true := by kernel_rfl
theorem chk_f_wire_ReadS : chkFunc Try.prog tab 82 f_wire_ReadS = true := by kernel_rfl
theorem chk_f_page_read : chkFunc Try.prog tab 79 f_page_read = true := by kernel_rfl
theorem chk_f_page_masked_values : chkFunc Try.prog tab 76 f_page_masked_values = true := by kernel_rfl
theorem chk_f_page_plain_parse : chkFunc Try.prog tab 74 f_page_plain_parse = true := by kernel_rfl
theorem chk_f_page_dict_parse : chkFunc Try.prog tab 84 f_page_dict_parse = true := by kernel_rfl
theorem chk_f_page_delta_parse : chkFunc Try.prog tab 118 f_page_delta_parse = true := by kernel_rfl
theorem chk_f_value_read : chkFunc Try.prog tab 125 f_value_read = true := by kernel_rfl
theorem chk_f_value_Decode : chkFunc Try.prog tab 122 f_value_Decode = true := by kernel_rfl
theorem chk_f_math_bits_Mul32 : chkFunc Try.prog tab 127 f_math_bits_Mul32 = true := by kernel_rfl
theorem chk_f_math_bits_Mul64 : chkFunc Try.prog tab 128 f_math_bits_Mul64 = true := by kernel_rfl
theorem chk_f_math_bits_Mul : chkFunc Try.prog tab 126 f_math_bits_Mul = true := by kernel_rfl
theorem chk_f_slices_Repeat_api_Value_api_Value : chkFunc Try.prog tab 123 f_slices_Repeat_api_Value_api_Value = true := by kernel_rfl
theorem chk_f_page_runs_parse : chkFunc Try.prog tab 120 f_page_runs_parse = true := by kernel_rfl
theorem chk_f_page_Decode : chkFunc Try.prog tab 13 f_page_Decode = true := by kernel_rfl
theorem chk_f_R10_SameValues : chkFunc Try.prog tab 14 f_R10_SameValues = true := by kernel_rfl
theorem chk_f_R01_Same : chkFunc Try.prog tab 22 f_R01_Same = true := by kernel_rfl
theorem chk_f_R10_Same : chkFunc Try.prog tab 15 f_R10_Same = true := by kernel_rfl
theorem chk_f_page_Best : chkFunc Try.prog tab 17 f_page_Best = true := by kernel_rfl
theorem chk_f_wire_ReadBytes : chkFunc Try.prog tab 44 f_wire_ReadBytes = true := by kernel_rfl
theorem chk_f_page_Get : chkFunc Try.prog tab 26 f_page_Get = true := by kernel_rfl
theorem chk_f_wire_sized_byte : chkFunc Try.prog tab 54 f_wire_sized_byte = true := by kernel_rfl
theorem chk_f_wire_Bytes : chkFunc Try.prog tab 46 f_wire_Bytes = true := by kernel_rfl
theorem chk_f_page_Put : chkFunc Try.prog tab 28 f_page_Put = true := by kernel_rfl
theorem chk_f_L10_equal : chkFunc Try.prog tab 30 f_L10_equal = true := by kernel_rfl
theorem chk_f_L10_sanity : chkFunc Try.prog tab 9 f_L10_sanity = true := by kernel_rfl
theorem chk_f_L10_small : chkFunc Try.prog tab 10 f_L10_small = true := by kernel_rfl
theorem chk_f_R05_Type : chkFunc Try.prog tab 41 f_R05_Type = true := by kernel_rfl
theorem chk_f_R05_Fit : chkFunc Try.prog tab 42 f_R05_Fit = true := by kernel_rfl
theorem chk_f_R05_Made : chkFunc Try.prog tab 24 f_R05_Made = true := by kernel_rfl
theorem chk_f_R10_Made : chkFunc Try.prog tab 18 f_R10_Made = true := by kernel_rfl
theorem chk_f_L10_made : chkFunc Try.prog tab 11 f_L10_made = true := by kernel_rfl
theorem chk_f_R05_Compare : chkFunc Try.prog tab 51 f_R05_Compare = true := by kernel_rfl
theorem chk_f_R10_place : chkFunc Try.prog tab 36 f_R10_place = true := by kernel_rfl
theorem chk_f_R05_Same : chkFunc Try.prog tab 37 f_R05_Same = true := by kernel_rfl
theorem chk_f_R10_Distinct : chkFunc Try.prog tab 19 f_R10_Distinct = true := by kernel_rfl
theorem chk_f_R01_U : chkFunc Try.prog tab 20 f_R01_U = true := by kernel_rfl
theorem chk_f_R01_Text : chkFunc Try.prog tab 38 f_R01_Text = true := by kernel_rfl
theorem chk_f_R01_S : chkFunc Try.prog tab 39 f_R01_S = true := by kernel_rfl
theorem chk_f_R10_Bare : chkFunc Try.prog tab 21 f_R10_Bare = true := by kernel_rfl
theorem chk_f_R01_ReadU : chkFunc Try.prog tab 40 f_R01_ReadU = true := by kernel_rfl
theorem chk_f_R01_ReadS : chkFunc Try.prog tab 23 f_R01_ReadS = true := by kernel_rfl
theorem chk_f_L10_PageInvariance : chkFunc Try.prog tab 6 f_L10_PageInvariance = true := by kernel_rfl
theorem chk_f_R01_Join : chkFunc Try.prog tab 25 f_R01_Join = true := by kernel_rfl
theorem chk_f_L10_PageGrowth : chkFunc Try.prog tab 7 f_L10_PageGrowth = true := by kernel_rfl
theorem linkC : Link Try.prog tab progC := ⟨by kernel_rfl, fun f F h hx => by
  unfold progC at h
  split at h
  · cases h; exact chk_f_cmp_isNaN_int64
  · cases h; exact nomatch (show some XName.cmpstr = none from hx)
  · cases h; exact chk_f_cmp_Compare_int64
  · cases h; exact chk_f_strings_Compare
  · cases h; exact chk_f_cmp_Or_int
  · cases h; exact chk_f_value_Compare
  · exact absurd h (by simp), fun f F x h hx => by
  unfold progC at h
  split at h
  · cases h; exact nomatch (show (none : Option XName) = some x from hx)
  · cases h; cases (show some XName.cmpstr = some x from hx); exact ⟨by kernel_rfl, ExtOk.x (ext_cmpstr tab)⟩
  · cases h; exact nomatch (show (none : Option XName) = some x from hx)
  · cases h; exact nomatch (show (none : Option XName) = some x from hx)
  · cases h; exact nomatch (show (none : Option XName) = some x from hx)
  · cases h; exact nomatch (show (none : Option XName) = some x from hx)
  · exact absurd h (by simp)⟩
theorem ext_sort : XOk Try.prog tab (tab 539) (.sort 282) := sort_ok (c := 282) rfl sortC linkC (fun x y => c_value_Compare x y)
theorem link : Link Try.prog tab prog := ⟨by kernel_rfl, fun f F h hx => by
  unfold prog at h
  split at h
  · cases h; exact chk_f_page_coderOf
  · cases h; exact chk_f_page_check
  · cases h; exact chk_f_value_isType
  · cases h; exact chk_f_value_limits
  · cases h; exact chk_f_value_Valid
  · cases h; exact chk_f_page_masked_mask
  · cases h; exact chk_f_wire_room
  · cases h; exact chk_f_wire_number
  · cases h; exact chk_f_wire_sized_string
  · cases h; exact chk_f_wire_Text
  · cases h; exact chk_f_wire_U
  · cases h; exact chk_f_wire_S
  · cases h; exact chk_f_page_bare
  · cases h; exact chk_f_page_plain_encode
  · cases h; exact chk_f_slices_IndexFunc_api_Value_api_Value
  · cases h; exact chk_f_slices_DeleteFunc_api_Value_api_Value
  · cases h; exact chk_f_slices_Clone_api_Value_api_Value
  · cases h; exact chk_f_page_dict_encode_1
  · cases h; exact nomatch (show some (XName.sort 282) = none from hx)
  · cases h; exact chk_f_cmp_Or_int
  · cases h; exact chk_f_cmp_isNaN_int64
  · cases h; exact chk_f_cmp_Compare_int64
  · cases h; exact nomatch (show some XName.cmpstr = none from hx)
  · cases h; exact chk_f_strings_Compare
  · cases h; exact chk_f_value_Compare
  · cases h; exact chk_f_slices_Compact_api_Value_api_Value
  · cases h; exact chk_f_slices_BinarySearchFunc_api_Value_api_Value_api_Value
  · cases h; exact chk_f_page_dict_encode
  · cases h; exact chk_f_page_delta_encode
  · cases h; exact chk_f_slices_Clone_byte_byte
  · cases h; exact chk_f_value_Encode
  · cases h; exact chk_f_page_runs_encode
  · cases h; exact chk_f_page_Encode
  · cases h; exact chk_f_bytes_Equal
  · cases h; exact chk_f_wire_ReadU
  · cases h; exact chk_f_wire_span
  · cases h; exact chk_f_wire_ReadText
  · cases h; exact chk_f_wire_ReadS
  · cases h; exact chk_f_page_read
  · cases h; exact chk_f_page_masked_values
  · cases h; exact chk_f_page_plain_parse
  · cases h; exact chk_f_page_dict_parse
  · cases h; exact chk_f_page_delta_parse
  · cases h; exact chk_f_value_read
  · cases h; exact chk_f_value_Decode
  · cases h; exact chk_f_math_bits_Mul32
  · cases h; exact chk_f_math_bits_Mul64
  · cases h; exact chk_f_math_bits_Mul
  · cases h; exact chk_f_slices_Repeat_api_Value_api_Value
  · cases h; exact chk_f_page_runs_parse
  · cases h; exact chk_f_page_Decode
  · cases h; exact chk_f_R10_SameValues
  · cases h; exact chk_f_R01_Same
  · cases h; exact chk_f_R10_Same
  · cases h; exact chk_f_page_Best
  · cases h; exact chk_f_wire_ReadBytes
  · cases h; exact chk_f_page_Get
  · cases h; exact chk_f_wire_sized_byte
  · cases h; exact chk_f_wire_Bytes
  · cases h; exact chk_f_page_Put
  · cases h; exact chk_f_L10_equal
  · cases h; exact chk_f_L10_sanity
  · cases h; exact chk_f_L10_small
  · cases h; exact chk_f_R05_Type
  · cases h; exact chk_f_R05_Fit
  · cases h; exact chk_f_R05_Made
  · cases h; exact chk_f_R10_Made
  · cases h; exact chk_f_L10_made
  · cases h; exact chk_f_R05_Compare
  · cases h; exact chk_f_R10_place
  · cases h; exact chk_f_R05_Same
  · cases h; exact chk_f_R10_Distinct
  · cases h; exact chk_f_R01_U
  · cases h; exact chk_f_R01_Text
  · cases h; exact chk_f_R01_S
  · cases h; exact chk_f_R10_Bare
  · cases h; exact chk_f_R01_ReadU
  · cases h; exact chk_f_R01_ReadS
  · cases h; exact chk_f_L10_PageInvariance
  · cases h; exact chk_f_R01_Join
  · cases h; exact chk_f_L10_PageGrowth
  · exact absurd h (by simp), fun f F x h hx => by
  unfold prog at h
  split at h
  · cases h; exact nomatch (show (none : Option XName) = some x from hx)
  · cases h; exact nomatch (show (none : Option XName) = some x from hx)
  · cases h; exact nomatch (show (none : Option XName) = some x from hx)
  · cases h; exact nomatch (show (none : Option XName) = some x from hx)
  · cases h; exact nomatch (show (none : Option XName) = some x from hx)
  · cases h; exact nomatch (show (none : Option XName) = some x from hx)
  · cases h; exact nomatch (show (none : Option XName) = some x from hx)
  · cases h; exact nomatch (show (none : Option XName) = some x from hx)
  · cases h; exact nomatch (show (none : Option XName) = some x from hx)
  · cases h; exact nomatch (show (none : Option XName) = some x from hx)
  · cases h; exact nomatch (show (none : Option XName) = some x from hx)
  · cases h; exact nomatch (show (none : Option XName) = some x from hx)
  · cases h; exact nomatch (show (none : Option XName) = some x from hx)
  · cases h; exact nomatch (show (none : Option XName) = some x from hx)
  · cases h; exact nomatch (show (none : Option XName) = some x from hx)
  · cases h; exact nomatch (show (none : Option XName) = some x from hx)
  · cases h; exact nomatch (show (none : Option XName) = some x from hx)
  · cases h; exact nomatch (show (none : Option XName) = some x from hx)
  · cases h; cases (show some (XName.sort 282) = some x from hx); exact ⟨by kernel_rfl, ext_sort⟩
  · cases h; exact nomatch (show (none : Option XName) = some x from hx)
  · cases h; exact nomatch (show (none : Option XName) = some x from hx)
  · cases h; exact nomatch (show (none : Option XName) = some x from hx)
  · cases h; cases (show some XName.cmpstr = some x from hx); exact ⟨by kernel_rfl, ExtOk.x (ext_cmpstr tab)⟩
  · cases h; exact nomatch (show (none : Option XName) = some x from hx)
  · cases h; exact nomatch (show (none : Option XName) = some x from hx)
  · cases h; exact nomatch (show (none : Option XName) = some x from hx)
  · cases h; exact nomatch (show (none : Option XName) = some x from hx)
  · cases h; exact nomatch (show (none : Option XName) = some x from hx)
  · cases h; exact nomatch (show (none : Option XName) = some x from hx)
  · cases h; exact nomatch (show (none : Option XName) = some x from hx)
  · cases h; exact nomatch (show (none : Option XName) = some x from hx)
  · cases h; exact nomatch (show (none : Option XName) = some x from hx)
  · cases h; exact nomatch (show (none : Option XName) = some x from hx)
  · cases h; exact nomatch (show (none : Option XName) = some x from hx)
  · cases h; exact nomatch (show (none : Option XName) = some x from hx)
  · cases h; exact nomatch (show (none : Option XName) = some x from hx)
  · cases h; exact nomatch (show (none : Option XName) = some x from hx)
  · cases h; exact nomatch (show (none : Option XName) = some x from hx)
  · cases h; exact nomatch (show (none : Option XName) = some x from hx)
  · cases h; exact nomatch (show (none : Option XName) = some x from hx)
  · cases h; exact nomatch (show (none : Option XName) = some x from hx)
  · cases h; exact nomatch (show (none : Option XName) = some x from hx)
  · cases h; exact nomatch (show (none : Option XName) = some x from hx)
  · cases h; exact nomatch (show (none : Option XName) = some x from hx)
  · cases h; exact nomatch (show (none : Option XName) = some x from hx)
  · cases h; exact nomatch (show (none : Option XName) = some x from hx)
  · cases h; exact nomatch (show (none : Option XName) = some x from hx)
  · cases h; exact nomatch (show (none : Option XName) = some x from hx)
  · cases h; exact nomatch (show (none : Option XName) = some x from hx)
  · cases h; exact nomatch (show (none : Option XName) = some x from hx)
  · cases h; exact nomatch (show (none : Option XName) = some x from hx)
  · cases h; exact nomatch (show (none : Option XName) = some x from hx)
  · cases h; exact nomatch (show (none : Option XName) = some x from hx)
  · cases h; exact nomatch (show (none : Option XName) = some x from hx)
  · cases h; exact nomatch (show (none : Option XName) = some x from hx)
  · cases h; exact nomatch (show (none : Option XName) = some x from hx)
  · cases h; exact nomatch (show (none : Option XName) = some x from hx)
  · cases h; exact nomatch (show (none : Option XName) = some x from hx)
  · cases h; exact nomatch (show (none : Option XName) = some x from hx)
  · cases h; exact nomatch (show (none : Option XName) = some x from hx)
  · cases h; exact nomatch (show (none : Option XName) = some x from hx)
  · cases h; exact nomatch (show (none : Option XName) = some x from hx)
  · cases h; exact nomatch (show (none : Option XName) = some x from hx)
  · cases h; exact nomatch (show (none : Option XName) = some x from hx)
  · cases h; exact nomatch (show (none : Option XName) = some x from hx)
  · cases h; exact nomatch (show (none : Option XName) = some x from hx)
  · cases h; exact nomatch (show (none : Option XName) = some x from hx)
  · cases h; exact nomatch (show (none : Option XName) = some x from hx)
  · cases h; exact nomatch (show (none : Option XName) = some x from hx)
  · cases h; exact nomatch (show (none : Option XName) = some x from hx)
  · cases h; exact nomatch (show (none : Option XName) = some x from hx)
  · cases h; exact nomatch (show (none : Option XName) = some x from hx)
  · cases h; exact nomatch (show (none : Option XName) = some x from hx)
  · cases h; exact nomatch (show (none : Option XName) = some x from hx)
  · cases h; exact nomatch (show (none : Option XName) = some x from hx)
  · cases h; exact nomatch (show (none : Option XName) = some x from hx)
  · cases h; exact nomatch (show (none : Option XName) = some x from hx)
  · cases h; exact nomatch (show (none : Option XName) = some x from hx)
  · cases h; exact nomatch (show (none : Option XName) = some x from hx)
  · cases h; exact nomatch (show (none : Option XName) = some x from hx)
  · cases h; exact nomatch (show (none : Option XName) = some x from hx)
  · exact absurd h (by simp)⟩
#print axioms link
end Go.Den
