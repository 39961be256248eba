/- Which function of the program each number stands for, and that the checked code is the program's. -/
import Derived.Test.YtimlnhpiddfbaaaDoorProg
import Derived.Test.YtimlnhpiddfbaaaDoorDenO
import Derived.Test.YtimlnhpiddfbaaaDoorFn5D
import Derived.KernelRfl
import Derived.Test.YtimlnhpiddfbaaaDoorFn5DX
namespace Go.Den
open Go Go.Proofs
set_option maxRecDepth 100000
def tab : Nat → Nat
  | 202 => 26
  | 203 => 35
  | 204 => 14
  | 413 => 22
  | 410 => 57
  | 409 => 58
  | 411 => 39
  | 414 => 23
  | 412 => 40
  | 415 => 24
  | 439 => 10
  | 416 => 60
  | 417 => 59
  | 418 => 41
  | 419 => 42
  | 420 => 25
  | 436 => 11
  | 421 => 48
  | 425 => 30
  | 426 => 31
  | 422 => 52
  | 427 => 32
  | 423 => 34
  | 424 => 53
  | 428 => 33
  | 435 => 13
  | 429 => 43
  | 430 => 44
  | 433 => 27
  | 431 => 29
  | 432 => 45
  | 434 => 28
  | 437 => 12
  | 440 => 15
  | 441 => 16
  | 281 => 36
  | 277 => 55
  | 279 => 37
  | 278 => 56
  | 280 => 38
  | 282 => 18
  | 438 => 20
  | 442 => 21
  | 443 => 8
  | 68 => 9
  | 446 => 3
  | 447 => 4
  | 448 => 5
  | 444 => 17
  | 449 => 6
  | 445 => 19
  | 450 => 7
  | _ => 1000000
theorem chk_f_value_isType : chkFunc Tryd.prog tab 26 f_value_isType = true := by kernel_rfl
theorem chk_f_value_limits : chkFunc Tryd.prog tab 35 f_value_limits = true := by kernel_rfl
theorem chk_f_value_Valid : chkFunc Tryd.prog tab 14 f_value_Valid = true := by kernel_rfl
theorem chk_f_slices_Clone_byte_byte : chkFunc Tryd.prog tab 22 f_slices_Clone_byte_byte = true := by kernel_rfl
theorem chk_f_wire_number : chkFunc Tryd.prog tab 57 f_wire_number = true := by kernel_rfl
theorem chk_f_wire_room : chkFunc Tryd.prog tab 58 f_wire_room = true := by kernel_rfl
theorem chk_f_wire_sized_string : chkFunc Tryd.prog tab 39 f_wire_sized_string = true := by kernel_rfl
theorem chk_f_wire_Text : chkFunc Tryd.prog tab 23 f_wire_Text = true := by kernel_rfl
theorem chk_f_wire_U : chkFunc Tryd.prog tab 40 f_wire_U = true := by kernel_rfl
theorem chk_f_wire_S : chkFunc Tryd.prog tab 24 f_wire_S = true := by kernel_rfl
theorem chk_f_value_Encode : chkFunc Tryd.prog tab 10 f_value_Encode = true := by kernel_rfl
theorem chk_f_wire_ReadU : chkFunc Tryd.prog tab 60 f_wire_ReadU = true := by kernel_rfl
theorem chk_f_wire_span : chkFunc Tryd.prog tab 59 f_wire_span = true := by kernel_rfl
theorem chk_f_wire_ReadText : chkFunc Tryd.prog tab 41 f_wire_ReadText = true := by kernel_rfl
theorem chk_f_wire_ReadS : chkFunc Tryd.prog tab 42 f_wire_ReadS = true := by kernel_rfl
theorem chk_f_value_read : chkFunc Tryd.prog tab 25 f_value_read = true := by kernel_rfl
theorem chk_f_value_Decode : chkFunc Tryd.prog tab 11 f_value_Decode = true := by kernel_rfl
theorem chk_f_internal_strconv_FormatBool : chkFunc Tryd.prog tab 48 f_internal_strconv_FormatBool = true := by kernel_rfl
theorem chk_f_strconv_FormatBool : chkFunc Tryd.prog tab 30 f_strconv_FormatBool = true := by kernel_rfl
theorem chk_f_value_floor : chkFunc Tryd.prog tab 52 f_value_floor = true := by kernel_rfl
theorem chk_f_value_date : chkFunc Tryd.prog tab 32 f_value_date = true := by kernel_rfl
theorem chk_f_value_padded : chkFunc Tryd.prog tab 33 f_value_padded = true := by kernel_rfl
theorem chk_f_value_Show : chkFunc Tryd.prog tab 13 f_value_Show = true := by kernel_rfl
theorem chk_f_value_plain : chkFunc Tryd.prog tab 43 f_value_plain = true := by kernel_rfl
theorem chk_f_value_unquote : chkFunc Tryd.prog tab 27 f_value_unquote = true := by kernel_rfl
theorem chk_f_value_day : chkFunc Tryd.prog tab 45 f_value_day = true := by kernel_rfl
theorem chk_f_value_parseDay : chkFunc Tryd.prog tab 28 f_value_parseDay = true := by kernel_rfl
theorem chk_f_value_Parse : chkFunc Tryd.prog tab 12 f_value_Parse = true := by kernel_rfl
theorem chk_f_R01_Same : chkFunc Tryd.prog tab 15 f_R01_Same = true := by kernel_rfl
theorem chk_f_L05_num : chkFunc Tryd.prog tab 16 f_L05_num = true := by kernel_rfl
theorem chk_f_cmp_Or_int : chkFunc Tryd.prog tab 36 f_cmp_Or_int = true := by kernel_rfl
theorem chk_f_cmp_isNaN_int64 : chkFunc Tryd.prog tab 55 f_cmp_isNaN_int64 = true := by kernel_rfl
theorem chk_f_cmp_Compare_int64 : chkFunc Tryd.prog tab 37 f_cmp_Compare_int64 = true := by kernel_rfl
theorem chk_f_strings_Compare : chkFunc Tryd.prog tab 38 f_strings_Compare = true := by kernel_rfl
theorem chk_f_value_Compare : chkFunc Tryd.prog tab 18 f_value_Compare = true := by kernel_rfl
theorem chk_f_L05_null : chkFunc Tryd.prog tab 20 f_L05_null = true := by kernel_rfl
theorem chk_f_L05_text : chkFunc Tryd.prog tab 21 f_L05_text = true := by kernel_rfl
theorem chk_f_L05_sanity : chkFunc Tryd.prog tab 8 f_L05_sanity = true := by kernel_rfl
theorem chk_f_R05_Fit : chkFunc Tryd.prog tab 9 f_R05_Fit = true := by kernel_rfl
theorem chk_f_L05_ValueRoundTrip : chkFunc Tryd.prog tab 3 f_L05_ValueRoundTrip = true := by kernel_rfl
theorem chk_f_L05_ValueCanonical : chkFunc Tryd.prog tab 4 f_L05_ValueCanonical = true := by kernel_rfl
theorem chk_f_L05_ValueDistinct : chkFunc Tryd.prog tab 5 f_L05_ValueDistinct = true := by kernel_rfl
theorem chk_f_L05_two : chkFunc Tryd.prog tab 17 f_L05_two = true := by kernel_rfl
theorem chk_f_L05_ValueDays : chkFunc Tryd.prog tab 6 f_L05_ValueDays = true := by kernel_rfl
theorem chk_f_value_Same : chkFunc Tryd.prog tab 19 f_value_Same = true := by kernel_rfl
theorem chk_f_L05_ValueOrder : chkFunc Tryd.prog tab 7 f_L05_ValueOrder = true := by kernel_rfl
theorem link : Link Tryd.prog tab prog := ⟨by kernel_rfl, fun f F h hx => by
  unfold prog at h
  split at h
  · cases h; exact chk_f_value_isType
  · cases h; exact chk_f_value_limits
  · cases h; exact chk_f_value_Valid
  · cases h; exact chk_f_slices_Clone_byte_byte
  · cases h; exact chk_f_wire_number
  · cases h; exact chk_f_wire_room
  · cases h; exact chk_f_wire_sized_string
  · cases h; exact chk_f_wire_Text
  · cases h; exact chk_f_wire_U
  · cases h; exact chk_f_wire_S
  · cases h; exact chk_f_value_Encode
  · cases h; exact chk_f_wire_ReadU
  · cases h; exact chk_f_wire_span
  · cases h; exact chk_f_wire_ReadText
  · cases h; exact chk_f_wire_ReadS
  · cases h; exact chk_f_value_read
  · cases h; exact chk_f_value_Decode
  · cases h; exact chk_f_internal_strconv_FormatBool
  · cases h; exact chk_f_strconv_FormatBool
  · cases h; exact nomatch (show some XName.quote = none from hx)
  · cases h; exact chk_f_value_floor
  · cases h; exact chk_f_value_date
  · cases h; exact nomatch (show some XName.fmtint = none from hx)
  · cases h; exact nomatch (show some XName.rep = none from hx)
  · cases h; exact chk_f_value_padded
  · cases h; exact chk_f_value_Show
  · cases h; exact chk_f_value_plain
  · cases h; exact nomatch (show some XName.idxbyte = none from hx)
  · cases h; exact chk_f_value_unquote
  · cases h; exact nomatch (show some (XName.parseint 101) = none from hx)
  · cases h; exact chk_f_value_day
  · cases h; exact chk_f_value_parseDay
  · cases h; exact chk_f_value_Parse
  · cases h; exact chk_f_R01_Same
  · cases h; exact chk_f_L05_num
  · cases h; exact chk_f_cmp_Or_int
  · cases h; exact chk_f_cmp_isNaN_int64
  · cases h; exact chk_f_cmp_Compare_int64
  · cases h; exact nomatch (show some XName.cmpstr = none from hx)
  · cases h; exact chk_f_strings_Compare
  · cases h; exact chk_f_value_Compare
  · cases h; exact chk_f_L05_null
  · cases h; exact chk_f_L05_text
  · cases h; exact chk_f_L05_sanity
  · cases h; exact chk_f_R05_Fit
  · cases h; exact chk_f_L05_ValueRoundTrip
  · cases h; exact chk_f_L05_ValueCanonical
  · cases h; exact chk_f_L05_ValueDistinct
  · cases h; exact chk_f_L05_two
  · cases h; exact chk_f_L05_ValueDays
  · cases h; exact chk_f_value_Same
  · cases h; exact chk_f_L05_ValueOrder
  · exact absurd h (by simp), fun f F x h hx => by
  unfold prog at h
  split at h
  · cases h; exact nomatch (show (none : Option XName) = some x from hx)
  · cases h; exact nomatch (show (none : Option XName) = some x from hx)
  · cases h; exact nomatch (show (none : Option XName) = some x from hx)
  · cases h; exact nomatch (show (none : Option XName) = some x from hx)
  · cases h; exact nomatch (show (none : Option XName) = some x from hx)
  · cases h; exact nomatch (show (none : Option XName) = some x from hx)
  · cases h; exact nomatch (show (none : Option XName) = some x from hx)
  · cases h; exact nomatch (show (none : Option XName) = some x from hx)
  · cases h; exact nomatch (show (none : Option XName) = some x from hx)
  · cases h; exact nomatch (show (none : Option XName) = some x from hx)
  · cases h; exact nomatch (show (none : Option XName) = some x from hx)
  · cases h; exact nomatch (show (none : Option XName) = some x from hx)
  · cases h; exact nomatch (show (none : Option XName) = some x from hx)
  · cases h; exact nomatch (show (none : Option XName) = some x from hx)
  · cases h; exact nomatch (show (none : Option XName) = some x from hx)
  · cases h; exact nomatch (show (none : Option XName) = some x from hx)
  · cases h; exact nomatch (show (none : Option XName) = some x from hx)
  · cases h; exact nomatch (show (none : Option XName) = some x from hx)
  · cases h; exact nomatch (show (none : Option XName) = some x from hx)
  · cases h; cases (show some XName.quote = some x from hx); exact ⟨by kernel_rfl, ext_quote tab⟩
  · cases h; exact nomatch (show (none : Option XName) = some x from hx)
  · cases h; exact nomatch (show (none : Option XName) = some x from hx)
  · cases h; cases (show some XName.fmtint = some x from hx); exact ⟨by kernel_rfl, ext_fmtint tab⟩
  · cases h; cases (show some XName.rep = some x from hx); exact ⟨by kernel_rfl, ext_rep tab⟩
  · cases h; exact nomatch (show (none : Option XName) = some x from hx)
  · cases h; exact nomatch (show (none : Option XName) = some x from hx)
  · cases h; exact nomatch (show (none : Option XName) = some x from hx)
  · cases h; cases (show some XName.idxbyte = some x from hx); exact ⟨by kernel_rfl, ext_idxbyte tab⟩
  · cases h; exact nomatch (show (none : Option XName) = some x from hx)
  · cases h; cases (show some (XName.parseint 101) = some x from hx); exact ⟨by kernel_rfl, ext_parseint tab⟩
  · cases h; exact nomatch (show (none : Option XName) = some x from hx)
  · cases h; exact nomatch (show (none : Option XName) = some x from hx)
  · cases h; exact nomatch (show (none : Option XName) = some x from hx)
  · cases h; exact nomatch (show (none : Option XName) = some x from hx)
  · cases h; exact nomatch (show (none : Option XName) = some x from hx)
  · cases h; exact nomatch (show (none : Option XName) = some x from hx)
  · cases h; exact nomatch (show (none : Option XName) = some x from hx)
  · cases h; exact nomatch (show (none : Option XName) = some x from hx)
  · cases h; cases (show some XName.cmpstr = some x from hx); exact ⟨by kernel_rfl, ext_cmpstr tab⟩
  · cases h; exact nomatch (show (none : Option XName) = some x from hx)
  · cases h; exact nomatch (show (none : Option XName) = some x from hx)
  · cases h; exact nomatch (show (none : Option XName) = some x from hx)
  · cases h; exact nomatch (show (none : Option XName) = some x from hx)
  · cases h; exact nomatch (show (none : Option XName) = some x from hx)
  · cases h; exact nomatch (show (none : Option XName) = some x from hx)
  · cases h; exact nomatch (show (none : Option XName) = some x from hx)
  · cases h; exact nomatch (show (none : Option XName) = some x from hx)
  · cases h; exact nomatch (show (none : Option XName) = some x from hx)
  · cases h; exact nomatch (show (none : Option XName) = some x from hx)
  · cases h; exact nomatch (show (none : Option XName) = some x from hx)
  · cases h; exact nomatch (show (none : Option XName) = some x from hx)
  · cases h; exact nomatch (show (none : Option XName) = some x from hx)
  · exact absurd h (by simp)⟩
#print axioms link
end Go.Den
