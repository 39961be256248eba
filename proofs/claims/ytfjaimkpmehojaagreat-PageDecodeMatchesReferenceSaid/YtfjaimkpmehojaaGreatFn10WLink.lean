/- Which function of the program each number stands for, and that the checked code is the program's. -/
import Derived.Test.YtfjaimkpmehojaaGreatProg
import Derived.Test.YtfjaimkpmehojaaGreatDenO
import Derived.Test.YtfjaimkpmehojaaGreatCmpS
import Derived.Test.YtfjaimkpmehojaaGreatDenS
import Derived.Test.YtfjaimkpmehojaaGreatFn10W
import Derived.KernelRfl
import Derived.Test.YtfjaimkpmehojaaGreatFn10WX
namespace Go.Den
open Go Go.Proofs
set_option maxRecDepth 100000
def tab : Nat → Nat
 | 476 => 21
 | 477 => 19
 | 202 => 33
 | 203 => 34
 | 204 => 20
 | 508 => 79
 | 409 => 46
 | 410 => 48
 | 411 => 87
 | 414 => 84
 | 412 => 32
 | 415 => 85
 | 509 => 82
 | 516 => 80
 | 273 => 99
 | 537 => 92
 | 536 => 93
 | 538 => 94
 | 539 => 95
 | 281 => 102
 | 277 => 115
 | 279 => 103
 | 278 => 116
 | 280 => 104
 | 282 => 96
 | 540 => 97
 | 541 => 98
 | 542 => 90
 | 518 => 124
 | 413 => 131
 | 439 => 128
 | 520 => 126
 | 478 => 7
 | 484 => 9
 | 440 => 25
 | 483 => 11
 | 479 => 27
 | 416 => 29
 | 417 => 45
 | 418 => 88
 | 419 => 89
 | 510 => 86
 | 511 => 83
 | 517 => 81
 | 522 => 91
 | 519 => 125
 | 420 => 132
 | 436 => 129
 | 512 => 134
 | 513 => 135
 | 514 => 133
 | 515 => 130
 | 521 => 127
 | 485 => 13
 | 489 => 15
 | 480 => 30
 | 487 => 16
 | 481 => 47
 | 482 => 31
 | 486 => 17
 | 488 => 18
 | 491 => 5
 | 67 => 35
 | 546 => 22
 | 212 => 36
 | 494 => 23
 | 451 => 50
 | 452 => 54
 | 453 => 55
 | 497 => 40
 | 70 => 61
 | 495 => 51
 | 367 => 52
 | 496 => 49
 | 543 => 37
 | 461 => 53
 | 544 => 38
 | 545 => 39
 | 547 => 24
 | 548 => 8
 | 463 => 57
 | 464 => 62
 | 465 => 59
 | 466 => 60
 | 550 => 44
 | 551 => 42
 | 472 => 58
 | 552 => 43
 | 553 => 28
 | 554 => 14
 | 556 => 4
 | _ => 1000000
theorem chk_f_page_coderOf : chkFunc Tryz.prog tab 21 f_page_coderOf = true := by kernel_rfl
theorem chk_f_page_check : chkFunc Tryz.prog tab 19 f_page_check = true := by kernel_rfl
theorem chk_f_value_isType : chkFunc Tryz.prog tab 33 f_value_isType = true := by kernel_rfl
theorem chk_f_value_limits : chkFunc Tryz.prog tab 34 f_value_limits = true := by kernel_rfl
theorem chk_f_value_Valid : chkFunc Tryz.prog tab 20 f_value_Valid = true := by kernel_rfl
theorem chk_f_page_masked_mask : chkFunc Tryz.prog tab 79 f_page_masked_mask = true := by kernel_rfl
theorem chk_f_wire_room : chkFunc Tryz.prog tab 46 f_wire_room = true := by kernel_rfl
theorem chk_f_wire_number : chkFunc Tryz.prog tab 48 f_wire_number = true := by kernel_rfl
theorem chk_f_wire_sized_string : chkFunc Tryz.prog tab 87 f_wire_sized_string = true := by kernel_rfl
theorem chk_f_wire_Text : chkFunc Tryz.prog tab 84 f_wire_Text = true := by kernel_rfl
theorem chk_f_wire_U : chkFunc Tryz.prog tab 32 f_wire_U = true := by kernel_rfl
theorem chk_f_wire_S : chkFunc Tryz.prog tab 85 f_wire_S = true := by kernel_rfl
theorem chk_f_page_bare : chkFunc Tryz.prog tab 82 f_page_bare = true := by kernel_rfl
theorem chk_f_page_plain_encode : chkFunc Tryz.prog tab 80 f_page_plain_encode = true := by kernel_rfl
theorem chk_f_slices_IndexFunc_api_Value_api_Value : chkFunc Tryz.prog tab 99 f_slices_IndexFunc_api_Value_api_Value = true := by kernel_rfl
theorem chk_f_slices_DeleteFunc_api_Value_api_Value : chkFunc Tryz.prog tab 92 f_slices_DeleteFunc_api_Value_api_Value = true := by kernel_rfl
theorem chk_f_slices_Clone_api_Value_api_Value : chkFunc Tryz.prog tab 93 f_slices_Clone_api_Value_api_Value = true := by kernel_rfl
theorem chk_f_page_dict_encode_1 : chkFunc Tryz.prog tab 94 f_page_dict_encode_1 = true := by kernel_rfl
theorem chk_f_cmp_Or_int : chkFunc Tryz.prog tab 102 f_cmp_Or_int = true := by kernel_rfl
theorem chk_f_cmp_isNaN_int64 : chkFunc Tryz.prog tab 115 f_cmp_isNaN_int64 = true := by kernel_rfl
theorem chk_f_cmp_Compare_int64 : chkFunc Tryz.prog tab 103 f_cmp_Compare_int64 = true := by kernel_rfl
theorem chk_f_strings_Compare : chkFunc Tryz.prog tab 104 f_strings_Compare = true := by kernel_rfl
theorem chk_f_value_Compare : chkFunc Tryz.prog tab 96 f_value_Compare = true := by kernel_rfl
theorem chk_f_slices_Compact_api_Value_api_Value : chkFunc Tryz.prog tab 97 f_slices_Compact_api_Value_api_Value = true := by kernel_rfl
theorem chk_f_slices_BinarySearchFunc_api_Value_api_Value_api_Value : chkFunc Tryz.prog tab 98 f_slices_BinarySearchFunc_api_Value_api_Value_api_Value = true := by kernel_rfl
theorem chk_f_page_dict_encode : chkFunc Tryz.prog tab 90 f_page_dict_encode = true := by kernel_rfl
theorem chk_f_page_delta_encode : chkFunc Tryz.prog tab 124 f_page_delta_encode = true := by kernel_rfl
theorem chk_f_slices_Clone_byte_byte : chkFunc Tryz.prog tab 131 f_slices_Clone_byte_byte = true := by kernel_rfl
theorem chk_f_value_Encode : chkFunc Tryz.prog tab 128 f_value_Encode = true := by kernel_rfl
theorem chk_f_page_runs_encode : chkFunc Tryz.prog tab 126 f_page_runs_encode = true := by kernel_rfl
theorem chk_f_page_Encode : chkFunc Tryz.prog tab 7 f_page_Encode = true := by kernel_rfl
theorem chk_f_page_Best : chkFunc Tryz.prog tab 9 f_page_Best = true := by kernel_rfl
theorem chk_f_R01_Same : chkFunc Tryz.prog tab 25 f_R01_Same = true := by kernel_rfl
theorem chk_f_R10_Same : chkFunc Tryz.prog tab 11 f_R10_Same = true := by kernel_rfl
theorem chk_f_bytes_Equal : chkFunc Tryz.prog tab 27 f_bytes_Equal = true := by kernel_rfl
theorem chk_f_wire_ReadU : chkFunc Tryz.prog tab 29 f_wire_ReadU = true := by kernel_rfl
theorem chk_f_wire_span : chkFunc Tryz.prog tab 45 f_wire_span = true := by kernel_rfl
theorem chk_f_wire_ReadText : chkFunc Tryz.prog tab 88 f_wire_ReadText = true := by kernel_rfl
theorem chk_f_wire_ReadS : chkFunc Tryz.prog tab 89 f_wire_ReadS = true := by kernel_rfl
theorem chk_f_page_read : chkFunc Tryz.prog tab 86 f_page_read = true := by kernel_rfl
theorem chk_f_page_masked_values : chkFunc Tryz.prog tab 83 f_page_masked_values = true := by kernel_rfl
theorem chk_f_page_plain_parse : chkFunc Tryz.prog tab 81 f_page_plain_parse = true := by kernel_rfl
theorem chk_f_page_dict_parse : chkFunc Tryz.prog tab 91 f_page_dict_parse = true := by kernel_rfl
theorem chk_f_page_delta_parse : chkFunc Tryz.prog tab 125 f_page_delta_parse = true := by kernel_rfl
theorem chk_f_value_read : chkFunc Tryz.prog tab 132 f_value_read = true := by kernel_rfl
theorem chk_f_value_Decode : chkFunc Tryz.prog tab 129 f_value_Decode = true := by kernel_rfl
theorem chk_f_math_bits_Mul32 : chkFunc Tryz.prog tab 134 f_math_bits_Mul32 = true := by kernel_rfl
theorem chk_f_math_bits_Mul64 : chkFunc Tryz.prog tab 135 f_math_bits_Mul64 = true := by kernel_rfl
theorem chk_f_math_bits_Mul : chkFunc Tryz.prog tab 133 f_math_bits_Mul = true := by kernel_rfl
theorem chk_f_slices_Repeat_api_Value_api_Value : chkFunc Tryz.prog tab 130 f_slices_Repeat_api_Value_api_Value = true := by kernel_rfl
theorem chk_f_page_runs_parse : chkFunc Tryz.prog tab 127 f_page_runs_parse = true := by kernel_rfl
theorem chk_f_page_Decode : chkFunc Tryz.prog tab 13 f_page_Decode = true := by kernel_rfl
theorem chk_f_R10_SameValues : chkFunc Tryz.prog tab 15 f_R10_SameValues = true := by kernel_rfl
theorem chk_f_wire_ReadBytes : chkFunc Tryz.prog tab 30 f_wire_ReadBytes = true := by kernel_rfl
theorem chk_f_page_Get : chkFunc Tryz.prog tab 16 f_page_Get = true := by kernel_rfl
theorem chk_f_wire_sized_byte : chkFunc Tryz.prog tab 47 f_wire_sized_byte = true := by kernel_rfl
theorem chk_f_wire_Bytes : chkFunc Tryz.prog tab 31 f_wire_Bytes = true := by kernel_rfl
theorem chk_f_page_Put : chkFunc Tryz.prog tab 17 f_page_Put = true := by kernel_rfl
theorem chk_f_L10_equal : chkFunc Tryz.prog tab 18 f_L10_equal = true := by kernel_rfl
theorem chk_f_L10_sanity : chkFunc Tryz.prog tab 5 f_L10_sanity = true := by kernel_rfl
theorem chk_f_R05_Type : chkFunc Tryz.prog tab 35 f_R05_Type = true := by kernel_rfl
theorem chk_f_R10_numbers : chkFunc Tryz.prog tab 22 f_R10_numbers = true := by kernel_rfl
theorem chk_f_R05_Valid : chkFunc Tryz.prog tab 36 f_R05_Valid = true := by kernel_rfl
theorem chk_f_R10_Column : chkFunc Tryz.prog tab 23 f_R10_Column = true := by kernel_rfl
theorem chk_f_R01_U : chkFunc Tryz.prog tab 50 f_R01_U = true := by kernel_rfl
theorem chk_f_R01_Text : chkFunc Tryz.prog tab 54 f_R01_Text = true := by kernel_rfl
theorem chk_f_R01_S : chkFunc Tryz.prog tab 55 f_R01_S = true := by kernel_rfl
theorem chk_f_R10_Bare : chkFunc Tryz.prog tab 40 f_R10_Bare = true := by kernel_rfl
theorem chk_f_R05_Compare : chkFunc Tryz.prog tab 61 f_R05_Compare = true := by kernel_rfl
theorem chk_f_R10_place : chkFunc Tryz.prog tab 51 f_R10_place = true := by kernel_rfl
theorem chk_f_R05_Same : chkFunc Tryz.prog tab 52 f_R05_Same = true := by kernel_rfl
theorem chk_f_R10_Distinct : chkFunc Tryz.prog tab 49 f_R10_Distinct = true := by kernel_rfl
theorem chk_f_R10_dict : chkFunc Tryz.prog tab 37 f_R10_dict = true := by kernel_rfl
theorem chk_f_R05_Encode : chkFunc Tryz.prog tab 53 f_R05_Encode = true := by kernel_rfl
theorem chk_f_R10_runs : chkFunc Tryz.prog tab 38 f_R10_runs = true := by kernel_rfl
theorem chk_f_R10_Mask : chkFunc Tryz.prog tab 39 f_R10_Mask = true := by kernel_rfl
theorem chk_f_R10_content : chkFunc Tryz.prog tab 24 f_R10_content = true := by kernel_rfl
theorem chk_f_R10_Encode : chkFunc Tryz.prog tab 8 f_R10_Encode = true := by kernel_rfl
theorem chk_f_R01_ReadU : chkFunc Tryz.prog tab 57 f_R01_ReadU = true := by kernel_rfl
theorem chk_f_R01_ReadBytes : chkFunc Tryz.prog tab 62 f_R01_ReadBytes = true := by kernel_rfl
theorem chk_f_R01_ReadText : chkFunc Tryz.prog tab 59 f_R01_ReadText = true := by kernel_rfl
theorem chk_f_R01_ReadS : chkFunc Tryz.prog tab 60 f_R01_ReadS = true := by kernel_rfl
theorem chk_f_R10_read : chkFunc Tryz.prog tab 44 f_R10_read = true := by kernel_rfl
theorem chk_f_R10_parseDict : chkFunc Tryz.prog tab 42 f_R10_parseDict = true := by kernel_rfl
theorem chk_f_R05_Decode : chkFunc Tryz.prog tab 58 f_R05_Decode = true := by kernel_rfl
theorem chk_f_R10_parseRuns : chkFunc Tryz.prog tab 43 f_R10_parseRuns = true := by kernel_rfl
theorem chk_f_R10_parse : chkFunc Tryz.prog tab 28 f_R10_parse = true := by kernel_rfl
theorem chk_f_R10_Decode : chkFunc Tryz.prog tab 14 f_R10_Decode = true := by kernel_rfl
theorem chk_f_L10_PageDecodeMatchesReference : chkFunc Tryz.prog tab 4 f_L10_PageDecodeMatchesReference = true := by kernel_rfl
theorem linkC : Link Tryz.prog tab progC := ⟨by kernel_rfl, fun f F h hx => by
 unfold progC at h
 split at h
 ·cases h; exact chk_f_cmp_isNaN_int64
 ·cases h; exact nomatch (show some XName.cmpstr = none from hx)
 ·cases h; exact chk_f_cmp_Compare_int64
 ·cases h; exact chk_f_strings_Compare
 ·cases h; exact chk_f_cmp_Or_int
 ·cases h; exact chk_f_value_Compare
 ·exact absurd h (by simp), fun f F x h hx => by
 unfold progC at h
 split at h
 ·cases h; exact nomatch (show (none : Option XName) = some x from hx)
 ·cases h; cases (show some XName.cmpstr = some x from hx); exact ⟨by kernel_rfl, ExtOk.x (ext_cmpstr tab)⟩
 ·cases h; exact nomatch (show (none : Option XName) = some x from hx)
 ·cases h; exact nomatch (show (none : Option XName) = some x from hx)
 ·cases h; exact nomatch (show (none : Option XName) = some x from hx)
 ·cases h; exact nomatch (show (none : Option XName) = some x from hx)
 ·exact absurd h (by simp)⟩
theorem ext_sort : XOk Tryz.prog tab (tab 539) (.sort 282) := sort_ok (c := 282) rfl sortC linkC (fun x y => c_value_Compare x y)
theorem link : Link Tryz.prog tab prog := ⟨by kernel_rfl, fun f F h hx => by
 unfold prog at h
 split at h
 ·cases h; exact chk_f_page_coderOf
 ·cases h; exact chk_f_page_check
 ·cases h; exact chk_f_value_isType
 ·cases h; exact chk_f_value_limits
 ·cases h; exact chk_f_value_Valid
 ·cases h; exact chk_f_page_masked_mask
 ·cases h; exact chk_f_wire_room
 ·cases h; exact chk_f_wire_number
 ·cases h; exact chk_f_wire_sized_string
 ·cases h; exact chk_f_wire_Text
 ·cases h; exact chk_f_wire_U
 ·cases h; exact chk_f_wire_S
 ·cases h; exact chk_f_page_bare
 ·cases h; exact chk_f_page_plain_encode
 ·cases h; exact chk_f_slices_IndexFunc_api_Value_api_Value
 ·cases h; exact chk_f_slices_DeleteFunc_api_Value_api_Value
 ·cases h; exact chk_f_slices_Clone_api_Value_api_Value
 ·cases h; exact chk_f_page_dict_encode_1
 ·cases h; exact nomatch (show some (XName.sort 282) = none from hx)
 ·cases h; exact chk_f_cmp_Or_int
 ·cases h; exact chk_f_cmp_isNaN_int64
 ·cases h; exact chk_f_cmp_Compare_int64
 ·cases h; exact nomatch (show some XName.cmpstr = none from hx)
 ·cases h; exact chk_f_strings_Compare
 ·cases h; exact chk_f_value_Compare
 ·cases h; exact chk_f_slices_Compact_api_Value_api_Value
 ·cases h; exact chk_f_slices_BinarySearchFunc_api_Value_api_Value_api_Value
 ·cases h; exact chk_f_page_dict_encode
 ·cases h; exact chk_f_page_delta_encode
 ·cases h; exact chk_f_slices_Clone_byte_byte
 ·cases h; exact chk_f_value_Encode
 ·cases h; exact chk_f_page_runs_encode
 ·cases h; exact chk_f_page_Encode
 ·cases h; exact chk_f_page_Best
 ·cases h; exact chk_f_R01_Same
 ·cases h; exact chk_f_R10_Same
 ·cases h; exact chk_f_bytes_Equal
 ·cases h; exact chk_f_wire_ReadU
 ·cases h; exact chk_f_wire_span
 ·cases h; exact chk_f_wire_ReadText
 ·cases h; exact chk_f_wire_ReadS
 ·cases h; exact chk_f_page_read
 ·cases h; exact chk_f_page_masked_values
 ·cases h; exact chk_f_page_plain_parse
 ·cases h; exact chk_f_page_dict_parse
 ·cases h; exact chk_f_page_delta_parse
 ·cases h; exact chk_f_value_read
 ·cases h; exact chk_f_value_Decode
 ·cases h; exact chk_f_math_bits_Mul32
 ·cases h; exact chk_f_math_bits_Mul64
 ·cases h; exact chk_f_math_bits_Mul
 ·cases h; exact chk_f_slices_Repeat_api_Value_api_Value
 ·cases h; exact chk_f_page_runs_parse
 ·cases h; exact chk_f_page_Decode
 ·cases h; exact chk_f_R10_SameValues
 ·cases h; exact chk_f_wire_ReadBytes
 ·cases h; exact chk_f_page_Get
 ·cases h; exact chk_f_wire_sized_byte
 ·cases h; exact chk_f_wire_Bytes
 ·cases h; exact chk_f_page_Put
 ·cases h; exact chk_f_L10_equal
 ·cases h; exact chk_f_L10_sanity
 ·cases h; exact chk_f_R05_Type
 ·cases h; exact chk_f_R10_numbers
 ·cases h; exact chk_f_R05_Valid
 ·cases h; exact chk_f_R10_Column
 ·cases h; exact chk_f_R01_U
 ·cases h; exact chk_f_R01_Text
 ·cases h; exact chk_f_R01_S
 ·cases h; exact chk_f_R10_Bare
 ·cases h; exact chk_f_R05_Compare
 ·cases h; exact chk_f_R10_place
 ·cases h; exact chk_f_R05_Same
 ·cases h; exact chk_f_R10_Distinct
 ·cases h; exact chk_f_R10_dict
 ·cases h; exact chk_f_R05_Encode
 ·cases h; exact chk_f_R10_runs
 ·cases h; exact chk_f_R10_Mask
 ·cases h; exact chk_f_R10_content
 ·cases h; exact chk_f_R10_Encode
 ·cases h; exact chk_f_R01_ReadU
 ·cases h; exact chk_f_R01_ReadBytes
 ·cases h; exact chk_f_R01_ReadText
 ·cases h; exact chk_f_R01_ReadS
 ·cases h; exact chk_f_R10_read
 ·cases h; exact chk_f_R10_parseDict
 ·cases h; exact chk_f_R05_Decode
 ·cases h; exact chk_f_R10_parseRuns
 ·cases h; exact chk_f_R10_parse
 ·cases h; exact chk_f_R10_Decode
 ·cases h; exact chk_f_L10_PageDecodeMatchesReference
 ·exact absurd h (by simp), fun f F x h hx => by
 unfold prog at h
 split at h
 ·cases h; exact nomatch (show (none : Option XName) = some x from hx)
 ·cases h; exact nomatch (show (none : Option XName) = some x from hx)
 ·cases h; exact nomatch (show (none : Option XName) = some x from hx)
 ·cases h; exact nomatch (show (none : Option XName) = some x from hx)
 ·cases h; exact nomatch (show (none : Option XName) = some x from hx)
 ·cases h; exact nomatch (show (none : Option XName) = some x from hx)
 ·cases h; exact nomatch (show (none : Option XName) = some x from hx)
 ·cases h; exact nomatch (show (none : Option XName) = some x from hx)
 ·cases h; exact nomatch (show (none : Option XName) = some x from hx)
 ·cases h; exact nomatch (show (none : Option XName) = some x from hx)
 ·cases h; exact nomatch (show (none : Option XName) = some x from hx)
 ·cases h; exact nomatch (show (none : Option XName) = some x from hx)
 ·cases h; exact nomatch (show (none : Option XName) = some x from hx)
 ·cases h; exact nomatch (show (none : Option XName) = some x from hx)
 ·cases h; exact nomatch (show (none : Option XName) = some x from hx)
 ·cases h; exact nomatch (show (none : Option XName) = some x from hx)
 ·cases h; exact nomatch (show (none : Option XName) = some x from hx)
 ·cases h; exact nomatch (show (none : Option XName) = some x from hx)
 ·cases h; cases (show some (XName.sort 282) = some x from hx); exact ⟨by kernel_rfl, ext_sort⟩
 ·cases h; exact nomatch (show (none : Option XName) = some x from hx)
 ·cases h; exact nomatch (show (none : Option XName) = some x from hx)
 ·cases h; exact nomatch (show (none : Option XName) = some x from hx)
 ·cases h; cases (show some XName.cmpstr = some x from hx); exact ⟨by kernel_rfl, ExtOk.x (ext_cmpstr tab)⟩
 ·cases h; exact nomatch (show (none : Option XName) = some x from hx)
 ·cases h; exact nomatch (show (none : Option XName) = some x from hx)
 ·cases h; exact nomatch (show (none : Option XName) = some x from hx)
 ·cases h; exact nomatch (show (none : Option XName) = some x from hx)
 ·cases h; exact nomatch (show (none : Option XName) = some x from hx)
 ·cases h; exact nomatch (show (none : Option XName) = some x from hx)
 ·cases h; exact nomatch (show (none : Option XName) = some x from hx)
 ·cases h; exact nomatch (show (none : Option XName) = some x from hx)
 ·cases h; exact nomatch (show (none : Option XName) = some x from hx)
 ·cases h; exact nomatch (show (none : Option XName) = some x from hx)
 ·cases h; exact nomatch (show (none : Option XName) = some x from hx)
 ·cases h; exact nomatch (show (none : Option XName) = some x from hx)
 ·cases h; exact nomatch (show (none : Option XName) = some x from hx)
 ·cases h; exact nomatch (show (none : Option XName) = some x from hx)
 ·cases h; exact nomatch (show (none : Option XName) = some x from hx)
 ·cases h; exact nomatch (show (none : Option XName) = some x from hx)
 ·cases h; exact nomatch (show (none : Option XName) = some x from hx)
 ·cases h; exact nomatch (show (none : Option XName) = some x from hx)
 ·cases h; exact nomatch (show (none : Option XName) = some x from hx)
 ·cases h; exact nomatch (show (none : Option XName) = some x from hx)
 ·cases h; exact nomatch (show (none : Option XName) = some x from hx)
 ·cases h; exact nomatch (show (none : Option XName) = some x from hx)
 ·cases h; exact nomatch (show (none : Option XName) = some x from hx)
 ·cases h; exact nomatch (show (none : Option XName) = some x from hx)
 ·cases h; exact nomatch (show (none : Option XName) = some x from hx)
 ·cases h; exact nomatch (show (none : Option XName) = some x from hx)
 ·cases h; exact nomatch (show (none : Option XName) = some x from hx)
 ·cases h; exact nomatch (show (none : Option XName) = some x from hx)
 ·cases h; exact nomatch (show (none : Option XName) = some x from hx)
 ·cases h; exact nomatch (show (none : Option XName) = some x from hx)
 ·cases h; exact nomatch (show (none : Option XName) = some x from hx)
 ·cases h; exact nomatch (show (none : Option XName) = some x from hx)
 ·cases h; exact nomatch (show (none : Option XName) = some x from hx)
 ·cases h; exact nomatch (show (none : Option XName) = some x from hx)
 ·cases h; exact nomatch (show (none : Option XName) = some x from hx)
 ·cases h; exact nomatch (show (none : Option XName) = some x from hx)
 ·cases h; exact nomatch (show (none : Option XName) = some x from hx)
 ·cases h; exact nomatch (show (none : Option XName) = some x from hx)
 ·cases h; exact nomatch (show (none : Option XName) = some x from hx)
 ·cases h; exact nomatch (show (none : Option XName) = some x from hx)
 ·cases h; exact nomatch (show (none : Option XName) = some x from hx)
 ·cases h; exact nomatch (show (none : Option XName) = some x from hx)
 ·cases h; exact nomatch (show (none : Option XName) = some x from hx)
 ·cases h; exact nomatch (show (none : Option XName) = some x from hx)
 ·cases h; exact nomatch (show (none : Option XName) = some x from hx)
 ·cases h; exact nomatch (show (none : Option XName) = some x from hx)
 ·cases h; exact nomatch (show (none : Option XName) = some x from hx)
 ·cases h; exact nomatch (show (none : Option XName) = some x from hx)
 ·cases h; exact nomatch (show (none : Option XName) = some x from hx)
 ·cases h; exact nomatch (show (none : Option XName) = some x from hx)
 ·cases h; exact nomatch (show (none : Option XName) = some x from hx)
 ·cases h; exact nomatch (show (none : Option XName) = some x from hx)
 ·cases h; exact nomatch (show (none : Option XName) = some x from hx)
 ·cases h; exact nomatch (show (none : Option XName) = some x from hx)
 ·cases h; exact nomatch (show (none : Option XName) = some x from hx)
 ·cases h; exact nomatch (show (none : Option XName) = some x from hx)
 ·cases h; exact nomatch (show (none : Option XName) = some x from hx)
 ·cases h; exact nomatch (show (none : Option XName) = some x from hx)
 ·cases h; exact nomatch (show (none : Option XName) = some x from hx)
 ·cases h; exact nomatch (show (none : Option XName) = some x from hx)
 ·cases h; exact nomatch (show (none : Option XName) = some x from hx)
 ·cases h; exact nomatch (show (none : Option XName) = some x from hx)
 ·cases h; exact nomatch (show (none : Option XName) = some x from hx)
 ·cases h; exact nomatch (show (none : Option XName) = some x from hx)
 ·cases h; exact nomatch (show (none : Option XName) = some x from hx)
 ·cases h; exact nomatch (show (none : Option XName) = some x from hx)
 ·cases h; exact nomatch (show (none : Option XName) = some x from hx)
 ·cases h; exact nomatch (show (none : Option XName) = some x from hx)
 ·exact absurd h (by simp)⟩
#print axioms link
end Go.Den
