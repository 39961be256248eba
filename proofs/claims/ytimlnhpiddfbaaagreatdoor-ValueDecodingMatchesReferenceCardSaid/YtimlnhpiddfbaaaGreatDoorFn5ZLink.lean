/- Which function of the program each number stands for, and that the checked code is the program's. -/
import Derived.Test.YtimlnhpiddfbaaaGreatDoorProg
import Derived.Test.YtimlnhpiddfbaaaGreatDoorDenO
import Derived.Test.YtimlnhpiddfbaaaGreatDoorFn5Z
import Derived.KernelRfl
import Derived.Test.YtimlnhpiddfbaaaGreatDoorFn5ZX
namespace Go.Den
open Go Go.Proofs
set_option maxRecDepth 100000
def tab : Nat → Nat
  | 202 => 21
  | 203 => 22
  | 204 => 6
  | 440 => 8
  | 413 => 24
  | 410 => 75
  | 409 => 76
  | 411 => 50
  | 414 => 25
  | 412 => 51
  | 415 => 26
  | 439 => 9
  | 421 => 53
  | 425 => 29
  | 426 => 30
  | 422 => 58
  | 427 => 31
  | 423 => 33
  | 424 => 59
  | 428 => 32
  | 435 => 11
  | 416 => 88
  | 417 => 87
  | 418 => 63
  | 419 => 64
  | 420 => 38
  | 436 => 13
  | 429 => 55
  | 430 => 67
  | 433 => 41
  | 431 => 43
  | 432 => 68
  | 434 => 42
  | 437 => 15
  | 438 => 17
  | 441 => 18
  | 442 => 19
  | 281 => 47
  | 277 => 73
  | 279 => 48
  | 278 => 74
  | 280 => 49
  | 282 => 20
  | 443 => 5
  | 67 => 23
  | 212 => 7
  | 451 => 52
  | 452 => 27
  | 453 => 28
  | 461 => 10
  | 458 => 34
  | 454 => 86
  | 455 => 61
  | 456 => 62
  | 459 => 35
  | 457 => 37
  | 460 => 36
  | 462 => 12
  | 474 => 3
  | 463 => 66
  | 464 => 65
  | 465 => 39
  | 466 => 40
  | 472 => 14
  | 467 => 71
  | 470 => 44
  | 468 => 72
  | 469 => 46
  | 471 => 45
  | 473 => 16
  | 475 => 4
  | _ => 1000000
theorem chk_f_value_isType : chkFunc Tryz.prog tab 21 f_value_isType = true := by kernel_rfl
theorem chk_f_value_limits : chkFunc Tryz.prog tab 22 f_value_limits = true := by kernel_rfl
theorem chk_f_value_Valid : chkFunc Tryz.prog tab 6 f_value_Valid = true := by kernel_rfl
theorem chk_f_R01_Same : chkFunc Tryz.prog tab 8 f_R01_Same = true := by kernel_rfl
theorem chk_f_slices_Clone_byte_byte : chkFunc Tryz.prog tab 24 f_slices_Clone_byte_byte = true := by kernel_rfl
theorem chk_f_wire_number : chkFunc Tryz.prog tab 75 f_wire_number = true := by kernel_rfl
theorem chk_f_wire_room : chkFunc Tryz.prog tab 76 f_wire_room = true := by kernel_rfl
theorem chk_f_wire_sized_string : chkFunc Tryz.prog tab 50 f_wire_sized_string = true := by kernel_rfl
theorem chk_f_wire_Text : chkFunc Tryz.prog tab 25 f_wire_Text = true := by kernel_rfl
theorem chk_f_wire_U : chkFunc Tryz.prog tab 51 f_wire_U = true := by kernel_rfl
theorem chk_f_wire_S : chkFunc Tryz.prog tab 26 f_wire_S = true := by kernel_rfl
theorem chk_f_value_Encode : chkFunc Tryz.prog tab 9 f_value_Encode = true := by kernel_rfl
theorem chk_f_internal_strconv_FormatBool : chkFunc Tryz.prog tab 53 f_internal_strconv_FormatBool = true := by kernel_rfl
theorem chk_f_strconv_FormatBool : chkFunc Tryz.prog tab 29 f_strconv_FormatBool = true := by kernel_rfl
theorem chk_f_value_floor : chkFunc Tryz.prog tab 58 f_value_floor = true := by kernel_rfl
theorem chk_f_value_date : chkFunc Tryz.prog tab 31 f_value_date = true := by kernel_rfl
theorem chk_f_value_padded : chkFunc Tryz.prog tab 32 f_value_padded = true := by kernel_rfl
theorem chk_f_value_Show : chkFunc Tryz.prog tab 11 f_value_Show = true := by kernel_rfl
theorem chk_f_wire_ReadU : chkFunc Tryz.prog tab 88 f_wire_ReadU = true := by kernel_rfl
theorem chk_f_wire_span : chkFunc Tryz.prog tab 87 f_wire_span = true := by kernel_rfl
theorem chk_f_wire_ReadText : chkFunc Tryz.prog tab 63 f_wire_ReadText = true := by kernel_rfl
theorem chk_f_wire_ReadS : chkFunc Tryz.prog tab 64 f_wire_ReadS = true := by kernel_rfl
theorem chk_f_value_read : chkFunc Tryz.prog tab 38 f_value_read = true := by kernel_rfl
theorem chk_f_value_Decode : chkFunc Tryz.prog tab 13 f_value_Decode = true := by kernel_rfl
theorem chk_f_value_plain : chkFunc Tryz.prog tab 55 f_value_plain = true := by kernel_rfl
theorem chk_f_value_unquote : chkFunc Tryz.prog tab 41 f_value_unquote = true := by kernel_rfl
theorem chk_f_value_day : chkFunc Tryz.prog tab 68 f_value_day = true := by kernel_rfl
theorem chk_f_value_parseDay : chkFunc Tryz.prog tab 42 f_value_parseDay = true := by kernel_rfl
theorem chk_f_value_Parse : chkFunc Tryz.prog tab 15 f_value_Parse = true := by kernel_rfl
theorem chk_f_L05_null : chkFunc Tryz.prog tab 17 f_L05_null = true := by kernel_rfl
theorem chk_f_L05_num : chkFunc Tryz.prog tab 18 f_L05_num = true := by kernel_rfl
theorem chk_f_L05_text : chkFunc Tryz.prog tab 19 f_L05_text = true := by kernel_rfl
theorem chk_f_cmp_Or_int : chkFunc Tryz.prog tab 47 f_cmp_Or_int = true := by kernel_rfl
theorem chk_f_cmp_isNaN_int64 : chkFunc Tryz.prog tab 73 f_cmp_isNaN_int64 = true := by kernel_rfl
theorem chk_f_cmp_Compare_int64 : chkFunc Tryz.prog tab 48 f_cmp_Compare_int64 = true := by kernel_rfl
theorem chk_f_strings_Compare : chkFunc Tryz.prog tab 49 f_strings_Compare = true := by kernel_rfl
theorem chk_f_value_Compare : chkFunc Tryz.prog tab 20 f_value_Compare = true := by kernel_rfl
theorem chk_f_L05_sanity : chkFunc Tryz.prog tab 5 f_L05_sanity = true := by kernel_rfl
theorem chk_f_R05_Type : chkFunc Tryz.prog tab 23 f_R05_Type = true := by kernel_rfl
theorem chk_f_R05_Valid : chkFunc Tryz.prog tab 7 f_R05_Valid = true := by kernel_rfl
theorem chk_f_R01_U : chkFunc Tryz.prog tab 52 f_R01_U = true := by kernel_rfl
theorem chk_f_R01_Text : chkFunc Tryz.prog tab 27 f_R01_Text = true := by kernel_rfl
theorem chk_f_R01_S : chkFunc Tryz.prog tab 28 f_R01_S = true := by kernel_rfl
theorem chk_f_R05_Encode : chkFunc Tryz.prog tab 10 f_R05_Encode = true := by kernel_rfl
theorem chk_f_R05_quoted : chkFunc Tryz.prog tab 34 f_R05_quoted = true := by kernel_rfl
theorem chk_f_R05_leap : chkFunc Tryz.prog tab 86 f_R05_leap = true := by kernel_rfl
theorem chk_f_R05_length : chkFunc Tryz.prog tab 61 f_R05_length = true := by kernel_rfl
theorem chk_f_R05_month : chkFunc Tryz.prog tab 62 f_R05_month = true := by kernel_rfl
theorem chk_f_R05_date : chkFunc Tryz.prog tab 35 f_R05_date = true := by kernel_rfl
theorem chk_f_R05_decimal : chkFunc Tryz.prog tab 37 f_R05_decimal = true := by kernel_rfl
theorem chk_f_R05_signed : chkFunc Tryz.prog tab 36 f_R05_signed = true := by kernel_rfl
theorem chk_f_R05_Show : chkFunc Tryz.prog tab 12 f_R05_Show = true := by kernel_rfl
theorem chk_f_L05_ValueMatchesReference : chkFunc Tryz.prog tab 3 f_L05_ValueMatchesReference = true := by kernel_rfl
theorem chk_f_R01_ReadU : chkFunc Tryz.prog tab 66 f_R01_ReadU = true := by kernel_rfl
theorem chk_f_R01_ReadBytes : chkFunc Tryz.prog tab 65 f_R01_ReadBytes = true := by kernel_rfl
theorem chk_f_R01_ReadText : chkFunc Tryz.prog tab 39 f_R01_ReadText = true := by kernel_rfl
theorem chk_f_R01_ReadS : chkFunc Tryz.prog tab 40 f_R01_ReadS = true := by kernel_rfl
theorem chk_f_R05_Decode : chkFunc Tryz.prog tab 14 f_R05_Decode = true := by kernel_rfl
theorem chk_f_R05_digit : chkFunc Tryz.prog tab 71 f_R05_digit = true := by kernel_rfl
theorem chk_f_R05_guessText : chkFunc Tryz.prog tab 44 f_R05_guessText = true := by kernel_rfl
theorem chk_f_R05_number : chkFunc Tryz.prog tab 72 f_R05_number = true := by kernel_rfl
theorem chk_f_R05_guessInt : chkFunc Tryz.prog tab 46 f_R05_guessInt = true := by kernel_rfl
theorem chk_f_R05_guessDay : chkFunc Tryz.prog tab 45 f_R05_guessDay = true := by kernel_rfl
theorem chk_f_R05_Parse : chkFunc Tryz.prog tab 16 f_R05_Parse = true := by kernel_rfl
theorem chk_f_L05_ValueDecodingMatchesReference : chkFunc Tryz.prog tab 4 f_L05_ValueDecodingMatchesReference = true := by kernel_rfl
theorem link : Link Tryz.prog tab prog := ⟨by kernel_rfl, fun f F h hx => by
  unfold prog at h
  split at h
  · cases h; exact chk_f_value_isType
  · cases h; exact chk_f_value_limits
  · cases h; exact chk_f_value_Valid
  · cases h; exact chk_f_R01_Same
  · cases h; exact chk_f_slices_Clone_byte_byte
  · cases h; exact chk_f_wire_number
  · cases h; exact chk_f_wire_room
  · cases h; exact chk_f_wire_sized_string
  · cases h; exact chk_f_wire_Text
  · cases h; exact chk_f_wire_U
  · cases h; exact chk_f_wire_S
  · cases h; exact chk_f_value_Encode
  · cases h; exact chk_f_internal_strconv_FormatBool
  · cases h; exact chk_f_strconv_FormatBool
  · cases h; exact nomatch (show some XName.quote = none from hx)
  · cases h; exact chk_f_value_floor
  · cases h; exact chk_f_value_date
  · cases h; exact nomatch (show some XName.fmtint = none from hx)
  · cases h; exact nomatch (show some XName.rep = none from hx)
  · cases h; exact chk_f_value_padded
  · cases h; exact chk_f_value_Show
  · cases h; exact chk_f_wire_ReadU
  · cases h; exact chk_f_wire_span
  · cases h; exact chk_f_wire_ReadText
  · cases h; exact chk_f_wire_ReadS
  · cases h; exact chk_f_value_read
  · cases h; exact chk_f_value_Decode
  · cases h; exact chk_f_value_plain
  · cases h; exact nomatch (show some XName.idxbyte = none from hx)
  · cases h; exact chk_f_value_unquote
  · cases h; exact nomatch (show some (XName.parseint 118) = none from hx)
  · cases h; exact chk_f_value_day
  · cases h; exact chk_f_value_parseDay
  · cases h; exact chk_f_value_Parse
  · cases h; exact chk_f_L05_null
  · cases h; exact chk_f_L05_num
  · cases h; exact chk_f_L05_text
  · cases h; exact chk_f_cmp_Or_int
  · cases h; exact chk_f_cmp_isNaN_int64
  · cases h; exact chk_f_cmp_Compare_int64
  · cases h; exact nomatch (show some XName.cmpstr = none from hx)
  · cases h; exact chk_f_strings_Compare
  · cases h; exact chk_f_value_Compare
  · cases h; exact chk_f_L05_sanity
  · cases h; exact chk_f_R05_Type
  · cases h; exact chk_f_R05_Valid
  · cases h; exact chk_f_R01_U
  · cases h; exact chk_f_R01_Text
  · cases h; exact chk_f_R01_S
  · cases h; exact chk_f_R05_Encode
  · cases h; exact chk_f_R05_quoted
  · cases h; exact chk_f_R05_leap
  · cases h; exact chk_f_R05_length
  · cases h; exact chk_f_R05_month
  · cases h; exact chk_f_R05_date
  · cases h; exact chk_f_R05_decimal
  · cases h; exact chk_f_R05_signed
  · cases h; exact chk_f_R05_Show
  · cases h; exact chk_f_L05_ValueMatchesReference
  · cases h; exact chk_f_R01_ReadU
  · cases h; exact chk_f_R01_ReadBytes
  · cases h; exact chk_f_R01_ReadText
  · cases h; exact chk_f_R01_ReadS
  · cases h; exact chk_f_R05_Decode
  · cases h; exact chk_f_R05_digit
  · cases h; exact chk_f_R05_guessText
  · cases h; exact chk_f_R05_number
  · cases h; exact chk_f_R05_guessInt
  · cases h; exact chk_f_R05_guessDay
  · cases h; exact chk_f_R05_Parse
  · cases h; exact chk_f_L05_ValueDecodingMatchesReference
  · exact absurd h (by simp), fun f F x h hx => by
  unfold prog at h
  split at h
  · cases h; exact nomatch (show (none : Option XName) = some x from hx)
  · cases h; exact nomatch (show (none : Option XName) = some x from hx)
  · cases h; exact nomatch (show (none : Option XName) = some x from hx)
  · cases h; exact nomatch (show (none : Option XName) = some x from hx)
  · cases h; exact nomatch (show (none : Option XName) = some x from hx)
  · cases h; exact nomatch (show (none : Option XName) = some x from hx)
  · cases h; exact nomatch (show (none : Option XName) = some x from hx)
  · cases h; exact nomatch (show (none : Option XName) = some x from hx)
  · cases h; exact nomatch (show (none : Option XName) = some x from hx)
  · cases h; exact nomatch (show (none : Option XName) = some x from hx)
  · cases h; exact nomatch (show (none : Option XName) = some x from hx)
  · cases h; exact nomatch (show (none : Option XName) = some x from hx)
  · cases h; exact nomatch (show (none : Option XName) = some x from hx)
  · cases h; exact nomatch (show (none : Option XName) = some x from hx)
  · cases h; cases (show some XName.quote = some x from hx); exact ⟨by kernel_rfl, ext_quote tab⟩
  · cases h; exact nomatch (show (none : Option XName) = some x from hx)
  · cases h; exact nomatch (show (none : Option XName) = some x from hx)
  · cases h; cases (show some XName.fmtint = some x from hx); exact ⟨by kernel_rfl, ext_fmtint tab⟩
  · cases h; cases (show some XName.rep = some x from hx); exact ⟨by kernel_rfl, ext_rep tab⟩
  · cases h; exact nomatch (show (none : Option XName) = some x from hx)
  · cases h; exact nomatch (show (none : Option XName) = some x from hx)
  · cases h; exact nomatch (show (none : Option XName) = some x from hx)
  · cases h; exact nomatch (show (none : Option XName) = some x from hx)
  · cases h; exact nomatch (show (none : Option XName) = some x from hx)
  · cases h; exact nomatch (show (none : Option XName) = some x from hx)
  · cases h; exact nomatch (show (none : Option XName) = some x from hx)
  · cases h; exact nomatch (show (none : Option XName) = some x from hx)
  · cases h; exact nomatch (show (none : Option XName) = some x from hx)
  · cases h; cases (show some XName.idxbyte = some x from hx); exact ⟨by kernel_rfl, ext_idxbyte tab⟩
  · cases h; exact nomatch (show (none : Option XName) = some x from hx)
  · cases h; cases (show some (XName.parseint 118) = some x from hx); exact ⟨by kernel_rfl, ext_parseint tab⟩
  · cases h; exact nomatch (show (none : Option XName) = some x from hx)
  · cases h; exact nomatch (show (none : Option XName) = some x from hx)
  · cases h; exact nomatch (show (none : Option XName) = some x from hx)
  · cases h; exact nomatch (show (none : Option XName) = some x from hx)
  · cases h; exact nomatch (show (none : Option XName) = some x from hx)
  · cases h; exact nomatch (show (none : Option XName) = some x from hx)
  · cases h; exact nomatch (show (none : Option XName) = some x from hx)
  · cases h; exact nomatch (show (none : Option XName) = some x from hx)
  · cases h; exact nomatch (show (none : Option XName) = some x from hx)
  · cases h; cases (show some XName.cmpstr = some x from hx); exact ⟨by kernel_rfl, ext_cmpstr tab⟩
  · cases h; exact nomatch (show (none : Option XName) = some x from hx)
  · cases h; exact nomatch (show (none : Option XName) = some x from hx)
  · cases h; exact nomatch (show (none : Option XName) = some x from hx)
  · cases h; exact nomatch (show (none : Option XName) = some x from hx)
  · cases h; exact nomatch (show (none : Option XName) = some x from hx)
  · cases h; exact nomatch (show (none : Option XName) = some x from hx)
  · cases h; exact nomatch (show (none : Option XName) = some x from hx)
  · cases h; exact nomatch (show (none : Option XName) = some x from hx)
  · cases h; exact nomatch (show (none : Option XName) = some x from hx)
  · cases h; exact nomatch (show (none : Option XName) = some x from hx)
  · cases h; exact nomatch (show (none : Option XName) = some x from hx)
  · cases h; exact nomatch (show (none : Option XName) = some x from hx)
  · cases h; exact nomatch (show (none : Option XName) = some x from hx)
  · cases h; exact nomatch (show (none : Option XName) = some x from hx)
  · cases h; exact nomatch (show (none : Option XName) = some x from hx)
  · cases h; exact nomatch (show (none : Option XName) = some x from hx)
  · cases h; exact nomatch (show (none : Option XName) = some x from hx)
  · cases h; exact nomatch (show (none : Option XName) = some x from hx)
  · cases h; exact nomatch (show (none : Option XName) = some x from hx)
  · cases h; exact nomatch (show (none : Option XName) = some x from hx)
  · cases h; exact nomatch (show (none : Option XName) = some x from hx)
  · cases h; exact nomatch (show (none : Option XName) = some x from hx)
  · cases h; exact nomatch (show (none : Option XName) = some x from hx)
  · cases h; exact nomatch (show (none : Option XName) = some x from hx)
  · cases h; exact nomatch (show (none : Option XName) = some x from hx)
  · cases h; exact nomatch (show (none : Option XName) = some x from hx)
  · cases h; exact nomatch (show (none : Option XName) = some x from hx)
  · cases h; exact nomatch (show (none : Option XName) = some x from hx)
  · cases h; exact nomatch (show (none : Option XName) = some x from hx)
  · cases h; exact nomatch (show (none : Option XName) = some x from hx)
  · exact absurd h (by simp)⟩
#print axioms link
end Go.Den
