/- The functions that the statements reach, as checked code: printed by gen.py out of Lean's own print of the translation. -/
import Derived.Test.YtghipgdajgeoiaaGreatDoorFn7Zp0
namespace Go.Den
open Go
set_option maxRecDepth 100000
/-! fenland/fenlandref07.Translate -/
def f_R07_Translate_l1u : ACode := .seq (.seq (.region [⟨some 99, .mov (.t 16), none⟩,
    ⟨some 100, .idxarr 2 1 (.t 5) (.c (.int .i64 1)), none⟩,
    ⟨some 101, .load false 1 (.t 100), none⟩,
    ⟨some 102, .bin .gtr .num (.t 99) (.t 101), none⟩] [0, 5, 6, 11, 14, 16, 102]) (.cond (.t 102) (.skip) (.exit 2))) (.seq (.block 3 (.seq (.region [⟨some 106, .mov (.t 0), none⟩,
    ⟨some 107, .mov (.t 16), none⟩,
    ⟨some 108, .bin .sub .num (.t 107) (.c (.int .i64 1)), none⟩,
    ⟨some 109, .slice 8 (.t 106) none (some (.t 108)) none, none⟩,
    ⟨some 110, .call 0 88 [.t 109], none⟩,
    ⟨some 105, .mov (.t 110), none⟩,
    ⟨some 111, .extract (.t 105) 0, none⟩,
    ⟨some 112, .extract (.t 105) 1, none⟩,
    ⟨some 113, .extract (.t 105) 2, none⟩,
    ⟨none, .store 2 (.t 11) (.t 111), none⟩] [0, 5, 6, 11, 14, 16]) (.region [⟨some 114, .load true 2 (.t 11), none⟩,
    ⟨some 115, .mov (.t 0), none⟩,
    ⟨some 116, .mov (.t 16), none⟩,
    ⟨some 117, .bin .sub .num (.t 116) (.c (.int .i64 1)), none⟩,
    ⟨some 118, .idxa 8 (.t 115) (.t 117), none⟩,
    ⟨some 119, .load true 8 (.t 118), none⟩,
    ⟨some 120, .load true 1 (.t 14), none⟩,
    ⟨some 121, .call 0 262 [.t 114, .t 119, .t 120], none⟩,
    ⟨none, .store 1 (.t 14) (.t 121), none⟩] [0, 5, 6, 11, 14, 16]))) (.region [⟨some 103, .mov (.t 16), none⟩,
    ⟨some 104, .bin .sub .num (.t 103) (.c (.int .i64 1)), none⟩,
    ⟨some 16, .mov (.t 104), none⟩] [0, 5, 6, 11, 14, 16]))
def f_R07_Translate_l1 : ACode := f_R07_Translate_l1u
theorem f_R07_Translate_l1_eq (G : Nat → Option AFunc) (base : Nat) (e : Env) (s : St) : Run G base f_R07_Translate_l1 e s = Run G base f_R07_Translate_l1u e s := (rfl)
def f_R07_Translate_l0u : ACode := .seq (.seq (.region [⟨some 75, .mov (.t 15), none⟩,
    ⟨some 76, .idxarr 2 1 (.t 5) (.c (.int .i64 1)), none⟩,
    ⟨some 77, .load false 1 (.t 76), none⟩,
    ⟨some 78, .bin .lss .num (.t 75) (.t 77), none⟩] [0, 5, 6, 11, 14, 15, 78]) (.cond (.t 78) (.skip) (.exit 0))) (.seq (.block 1 (.seq (.region [⟨some 81, .load true 2 (.t 11), none⟩,
    ⟨some 82, .mov (.t 0), none⟩,
    ⟨some 83, .mov (.t 15), none⟩,
    ⟨some 84, .idxa 8 (.t 82) (.t 83), none⟩,
    ⟨some 85, .load true 8 (.t 84), none⟩,
    ⟨some 86, .load true 1 (.t 14), none⟩,
    ⟨some 87, .call 0 261 [.t 81, .t 85, .t 86], none⟩,
    ⟨none, .store 1 (.t 14) (.t 87), none⟩] [0, 5, 6, 11, 14, 15]) (.region [⟨some 89, .load true 2 (.t 11), none⟩,
    ⟨some 90, .mov (.t 0), none⟩,
    ⟨some 91, .mov (.t 15), none⟩,
    ⟨some 92, .idxa 8 (.t 90) (.t 91), none⟩,
    ⟨some 93, .load true 8 (.t 92), none⟩,
    ⟨some 94, .call 0 63 [.t 89, .t 93], none⟩,
    ⟨some 88, .mov (.t 94), none⟩,
    ⟨some 95, .extract (.t 88) 0, none⟩,
    ⟨some 96, .extract (.t 88) 1, none⟩,
    ⟨none, .store 2 (.t 11) (.t 95), none⟩] [0, 5, 6, 11, 14, 15]))) (.region [⟨some 79, .mov (.t 15), none⟩,
    ⟨some 80, .bin .add .num (.t 79) (.c (.int .i64 1)), none⟩,
    ⟨some 15, .mov (.t 80), none⟩] [0, 5, 6, 11, 14, 15]))
def f_R07_Translate_l0 : ACode := f_R07_Translate_l0u
theorem f_R07_Translate_l0_eq (G : Nat → Option AFunc) (base : Nat) (e : Env) (s : St) : Run G base f_R07_Translate_l0 e s = Run G base f_R07_Translate_l0u e s := (rfl)
def f_R07_Translate : AFunc := ⟨3, .no, [.cell 6 true 1, .t 7],
  .seq (.region [⟨some 4, .box true 1 (.t 1), none⟩,
    ⟨some 5, .box true 2 (.t 2), none⟩,
    ⟨some 6, .alloc [.nils] [], none⟩,
    ⟨some 7, .mov (.c (.int .i64 0)), none⟩] [0, 4, 5, 6]) (.seq (.seq (.region [⟨some 17, .idxarr 2 1 (.t 5) (.c (.int .i64 0)), none⟩,
    ⟨some 18, .load false 1 (.t 17), none⟩,
    ⟨some 19, .bin .lss .num (.t 18) (.c (.int .i64 0)), none⟩,
    ⟨some 20, .mov (.t 19), none⟩,
    ⟨some 21, .idxarr 2 1 (.t 5) (.c (.int .i64 0)), some (20, false)⟩,
    ⟨some 22, .load false 1 (.t 21), some (20, false)⟩,
    ⟨some 23, .mov (.t 0), some (20, false)⟩,
    ⟨some 24, .len false (.t 23), some (20, false)⟩,
    ⟨some 25, .bin .gtr .num (.t 22) (.t 24), some (20, false)⟩,
    ⟨some 26, .pick (.t 20) (.c (.bool true)) (.t 25), none⟩,
    ⟨some 27, .mov (.t 26), none⟩,
    ⟨some 28, .idxarr 2 1 (.t 5) (.c (.int .i64 1)), some (27, false)⟩,
    ⟨some 29, .load false 1 (.t 28), some (27, false)⟩,
    ⟨some 30, .bin .lss .num (.t 29) (.c (.int .i64 0)), some (27, false)⟩,
    ⟨some 31, .pick (.t 27) (.c (.bool true)) (.t 30), none⟩,
    ⟨some 32, .mov (.t 31), none⟩,
    ⟨some 33, .idxarr 2 1 (.t 5) (.c (.int .i64 1)), some (32, false)⟩,
    ⟨some 34, .load false 1 (.t 33), some (32, false)⟩,
    ⟨some 35, .mov (.t 0), some (32, false)⟩,
    ⟨some 36, .len false (.t 35), some (32, false)⟩,
    ⟨some 37, .bin .gtr .num (.t 34) (.t 36), some (32, false)⟩,
    ⟨some 38, .pick (.t 32) (.c (.bool true)) (.t 37), none⟩] [0, 4, 5, 6, 38]) (.cond (.t 38) (.seq (.region [⟨some 39, .build [.nils] [], none⟩,
    ⟨none, .store 1 (.t 6) (.t 39), none⟩,
    ⟨some 7, .mov (.c (.int .i64 1)), none⟩] [6, 7]) (.ret)) (.skip))) (.seq (.region [⟨some 41, .mov (.t 0), none⟩,
    ⟨some 42, .idxarr 2 1 (.t 5) (.c (.int .i64 0)), none⟩,
    ⟨some 43, .load false 1 (.t 42), none⟩,
    ⟨some 44, .idxarr 2 1 (.t 5) (.c (.int .i64 1)), none⟩,
    ⟨some 45, .load false 1 (.t 44), none⟩,
    ⟨some 46, .max (.t 43) (.t 45), none⟩,
    ⟨some 47, .slice 8 (.t 41) none (some (.t 46)) none, none⟩,
    ⟨some 48, .call 0 88 [.t 47], none⟩,
    ⟨some 40, .mov (.t 48), none⟩,
    ⟨some 49, .extract (.t 40) 0, none⟩,
    ⟨some 50, .extract (.t 40) 1, none⟩,
    ⟨some 51, .extract (.t 40) 2, none⟩,
    ⟨some 8, .alloc [.nils, .int .i64 0] [], none⟩,
    ⟨none, .store 2 (.t 8) (.t 49), none⟩,
    ⟨some 9, .mov (.t 50), none⟩,
    ⟨some 10, .mov (.t 51), none⟩] [0, 4, 5, 6, 10]) (.seq (.seq (.region [⟨some 52, .mov (.t 10), none⟩,
    ⟨some 53, .bin .neq .num (.t 52) (.c (.int .i64 0)), none⟩] [0, 4, 5, 6, 10, 53]) (.cond (.t 53) (.seq (.region [⟨some 54, .build [.nils] [], none⟩,
    ⟨some 55, .mov (.t 10), none⟩,
    ⟨none, .store 1 (.t 6) (.t 54), none⟩,
    ⟨some 7, .mov (.t 55), none⟩] [6, 7]) (.ret)) (.skip))) (.seq (.region [⟨some 57, .mov (.t 0), none⟩,
    ⟨some 58, .idxarr 2 1 (.t 5) (.c (.int .i64 0)), none⟩,
    ⟨some 59, .load false 1 (.t 58), none⟩,
    ⟨some 60, .slice 8 (.t 57) none (some (.t 59)) none, none⟩,
    ⟨some 61, .call 0 88 [.t 60], none⟩,
    ⟨some 56, .mov (.t 61), none⟩,
    ⟨some 62, .extract (.t 56) 0, none⟩,
    ⟨some 63, .extract (.t 56) 1, none⟩,
    ⟨some 64, .extract (.t 56) 2, none⟩,
    ⟨some 11, .alloc [.nils, .int .i64 0] [], none⟩,
    ⟨none, .store 2 (.t 11) (.t 62), none⟩,
    ⟨some 12, .mov (.t 63), none⟩,
    ⟨some 13, .mov (.t 64), none⟩] [0, 4, 5, 6, 11]) (.seq (.seq (.region [⟨some 65, .load true 2 (.t 11), none⟩,
    ⟨some 66, .load true 1 (.t 4), none⟩,
    ⟨some 67, .call 3 213 [.t 65, .t 66], none⟩,
    ⟨some 68, .not (.t 67), none⟩] [0, 4, 5, 6, 11, 68]) (.cond (.t 68) (.seq (.region [⟨some 69, .build [.nils] [], none⟩,
    ⟨none, .store 1 (.t 6) (.t 69), none⟩,
    ⟨some 7, .mov (.c (.int .i64 7)), none⟩] [6, 7]) (.ret)) (.skip))) (.seq (.dregion [⟨some 70, .load true 1 (.t 4), none⟩,
    ⟨some 71, .call 0 257 [], none⟩,
    ⟨some 72, .call 0 258 [.t 70, .c (.int .i64 0), .t 71], none⟩,
    ⟨some 14, .alloc [.nils] [], none⟩,
    ⟨none, .store 1 (.t 14) (.t 72), none⟩] [(0, 1), (1, 3), (2, 3)] [0, 5, 6, 11, 14]) (.seq (.seq (.region [⟨some 73, .idxarr 2 1 (.t 5) (.c (.int .i64 0)), none⟩,
    ⟨some 74, .load false 1 (.t 73), none⟩,
    ⟨some 15, .mov (.t 74), none⟩] [0, 5, 6, 11, 14, 15]) (.block 0 (.loop 4 [0, 5, 6, 11, 14, 15] f_R07_Translate_l0))) (.seq (.seq (.region [⟨some 97, .idxarr 2 1 (.t 5) (.c (.int .i64 0)), none⟩,
    ⟨some 98, .load false 1 (.t 97), none⟩,
    ⟨some 16, .mov (.t 98), none⟩] [0, 5, 6, 11, 14, 16]) (.block 2 (.loop 4 [0, 5, 6, 11, 14, 16] f_R07_Translate_l1))) (.seq (.region [⟨some 122, .load true 1 (.t 14), none⟩,
    ⟨none, .store 1 (.t 6) (.t 122), none⟩,
    ⟨some 7, .mov (.c (.int .i64 0)), none⟩] [6, 7]) (.ret))))))))))⟩
/-! fenland/fenlandlaw07.LensTranslateMatchesReference -/
def f_L07_LensTranslateMatchesReference : AFunc := ⟨3, .no, [.t 6],
  .seq (.region [⟨some 3, .box true 10 (.t 0), none⟩,
    ⟨some 4, .box true 1 (.t 1), none⟩,
    ⟨some 5, .box true 2 (.t 2), none⟩,
    ⟨some 6, .mov (.c (.bool false)), none⟩] [3, 4, 5]) (.seq (.region [⟨some 25, .call 0 251 [], none⟩,
    ⟨some 7, .mov (.t 25), none⟩] [3, 4, 5, 7]) (.seq (.seq (.region [⟨some 26, .load true 10 (.t 3), none⟩,
    ⟨some 27, .call 0 252 [.t 26], none⟩,
    ⟨some 28, .not (.t 27), none⟩,
    ⟨some 29, .mov (.t 28), none⟩,
    ⟨some 30, .fld 0 (.t 3), some (29, false)⟩,
    ⟨some 31, .load false 1 (.t 30), some (29, false)⟩,
    ⟨some 32, .len false (.t 31), some (29, false)⟩,
    ⟨some 33, .bin .gtr .num (.t 32) (.c (.int .i64 20)), some (29, false)⟩,
    ⟨some 34, .pick (.t 29) (.c (.bool true)) (.t 33), none⟩,
    ⟨some 35, .mov (.t 34), none⟩,
    ⟨some 36, .fld 0 (.t 4), some (35, false)⟩,
    ⟨some 37, .load false 1 (.t 36), some (35, false)⟩,
    ⟨some 38, .len false (.t 37), some (35, false)⟩,
    ⟨some 39, .bin .gtr .num (.t 38) (.c (.int .i64 200)), some (35, false)⟩,
    ⟨some 40, .pick (.t 35) (.c (.bool true)) (.t 39), none⟩] [3, 4, 5, 7, 40]) (.cond (.t 40) (.seq (.region [⟨some 41, .mov (.t 7), none⟩,
    ⟨some 6, .mov (.t 41), none⟩] [6]) (.ret)) (.skip))) (.seq (.region [⟨some 42, .fld 0 (.t 3), none⟩,
    ⟨some 43, .load false 1 (.t 42), none⟩,
    ⟨some 44, .call 0 87 [.t 43, .c (.int .i64 20)], none⟩,
    ⟨some 8, .mov (.t 44), none⟩] [3, 4, 5, 7, 8]) (.seq (.region [⟨some 46, .fld 0 (.t 3), none⟩,
    ⟨some 47, .load false 1 (.t 46), none⟩,
    ⟨some 48, .load true 1 (.t 4), none⟩,
    ⟨some 49, .load true 2 (.t 5), none⟩,
    ⟨some 50, .call 0 249 [.t 47, .t 48, .t 49], none⟩,
    ⟨some 45, .mov (.t 50), none⟩,
    ⟨some 51, .extract (.t 45) 0, none⟩,
    ⟨some 52, .extract (.t 45) 1, none⟩,
    ⟨some 9, .alloc [.nils] [], none⟩,
    ⟨none, .store 1 (.t 9) (.t 51), none⟩,
    ⟨some 10, .mov (.t 52), none⟩] [3, 4, 5, 7, 8, 9, 10]) (.seq (.region [⟨some 54, .fld 0 (.t 3), none⟩,
    ⟨some 55, .load false 1 (.t 54), none⟩,
    ⟨some 56, .load true 1 (.t 4), none⟩,
    ⟨some 57, .load true 2 (.t 5), none⟩,
    ⟨some 58, .call 0 264 [.t 55, .t 56, .t 57], none⟩,
    ⟨some 53, .mov (.t 58), none⟩,
    ⟨some 59, .extract (.t 53) 0, none⟩,
    ⟨some 60, .extract (.t 53) 1, none⟩,
    ⟨some 11, .alloc [.nils] [], none⟩,
    ⟨none, .store 1 (.t 11) (.t 59), none⟩,
    ⟨some 12, .mov (.t 60), none⟩] [3, 4, 5, 7, 8, 9, 10, 11, 12]) (.seq (.region [⟨some 62, .mov (.t 8), none⟩,
    ⟨some 63, .load true 1 (.t 4), none⟩,
    ⟨some 64, .load true 2 (.t 5), none⟩,
    ⟨some 65, .call 0 249 [.t 62, .t 63, .t 64], none⟩,
    ⟨some 61, .mov (.t 65), none⟩,
    ⟨some 66, .extract (.t 61) 0, none⟩,
    ⟨some 67, .extract (.t 61) 1, none⟩,
    ⟨some 13, .alloc [.nils] [], none⟩,
    ⟨none, .store 1 (.t 13) (.t 66), none⟩,
    ⟨some 14, .mov (.t 67), none⟩] [3, 4, 5, 7, 8, 9, 10, 11, 12, 13, 14]) (.seq (.region [⟨some 69, .mov (.t 8), none⟩,
    ⟨some 70, .load true 1 (.t 4), none⟩,
    ⟨some 71, .load true 2 (.t 5), none⟩,
    ⟨some 72, .call 0 264 [.t 69, .t 70, .t 71], none⟩,
    ⟨some 68, .mov (.t 72), none⟩,
    ⟨some 73, .extract (.t 68) 0, none⟩,
    ⟨some 74, .extract (.t 68) 1, none⟩,
    ⟨some 15, .alloc [.nils] [], none⟩,
    ⟨none, .store 1 (.t 15) (.t 73), none⟩,
    ⟨some 16, .mov (.t 74), none⟩] [3, 5, 7, 8, 9, 10, 11, 12, 13, 14, 15, 16]) (.seq (.seq (.region [⟨some 75, .load true 1 (.t 9), none⟩,
    ⟨some 76, .load true 1 (.t 11), none⟩,
    ⟨some 77, .call 0 12 [.t 75, .t 76], none⟩,
    ⟨some 78, .not (.t 77), none⟩,
    ⟨some 79, .mov (.t 78), none⟩,
    ⟨some 80, .mov (.t 10), some (79, false)⟩,
    ⟨some 81, .mov (.t 12), some (79, false)⟩,
    ⟨some 82, .bin .neq .num (.t 80) (.t 81), some (79, false)⟩,
    ⟨some 83, .pick (.t 79) (.c (.bool true)) (.t 82), none⟩,
    ⟨some 84, .mov (.t 83), none⟩,
    ⟨some 85, .load true 1 (.t 13), some (84, false)⟩,
    ⟨some 86, .load true 1 (.t 15), some (84, false)⟩,
    ⟨some 87, .call 0 12 [.t 85, .t 86], some (84, false)⟩,
    ⟨some 88, .not (.t 87), some (84, false)⟩,
    ⟨some 89, .pick (.t 84) (.c (.bool true)) (.t 88), none⟩,
    ⟨some 90, .mov (.t 89), none⟩,
    ⟨some 91, .mov (.t 14), some (90, false)⟩,
    ⟨some 92, .mov (.t 16), some (90, false)⟩,
    ⟨some 93, .bin .neq .num (.t 91) (.t 92), some (90, false)⟩,
    ⟨some 94, .pick (.t 90) (.c (.bool true)) (.t 93), none⟩] [3, 5, 7, 8, 14, 94]) (.cond (.t 94) (.seq (.region [⟨some 6, .mov (.c (.bool false)), none⟩] [6]) (.ret)) (.skip))) (.seq (.seq (.region [⟨some 95, .idxarr 2 1 (.t 5) (.c (.int .i64 0)), none⟩,
    ⟨some 96, .load false 1 (.t 95), none⟩,
    ⟨some 97, .bin .lss .num (.t 96) (.c (.int .i64 0)), none⟩,
    ⟨some 98, .mov (.t 97), none⟩,
    ⟨some 99, .idxarr 2 1 (.t 5) (.c (.int .i64 0)), some (98, false)⟩,
    ⟨some 100, .load false 1 (.t 99), some (98, false)⟩,
    ⟨some 101, .mov (.t 8), some (98, false)⟩,
    ⟨some 102, .len false (.t 101), some (98, false)⟩,
    ⟨some 103, .bin .gtr .num (.t 100) (.t 102), some (98, false)⟩,
    ⟨some 104, .pick (.t 98) (.c (.bool true)) (.t 103), none⟩] [3, 5, 7, 8, 14, 104]) (.cond (.t 104) (.seq (.region [⟨some 105, .mov (.t 14), none⟩,
    ⟨some 106, .bin .eql .num (.t 105) (.c (.int .i64 1)), none⟩,
    ⟨some 107, .mov (.t 106), none⟩,
    ⟨some 108, .mov (.t 7), some (107, true)⟩,
    ⟨some 109, .pick (.t 107) (.t 108) (.c (.bool false)), none⟩,
    ⟨some 6, .mov (.t 109), none⟩] [6]) (.ret)) (.skip))) (.seq (.region [⟨some 111, .mov (.t 8), none⟩,
    ⟨some 112, .idxarr 2 1 (.t 5) (.c (.int .i64 0)), none⟩,
    ⟨some 113, .load false 1 (.t 112), none⟩,
    ⟨some 114, .slice 8 (.t 111) none (some (.t 113)) none, none⟩,
    ⟨some 115, .call 0 88 [.t 114], none⟩,
    ⟨some 110, .mov (.t 115), none⟩,
    ⟨some 116, .extract (.t 110) 0, none⟩,
    ⟨some 117, .extract (.t 110) 1, none⟩,
    ⟨some 118, .extract (.t 110) 2, none⟩,
    ⟨some 17, .alloc [.nils, .int .i64 0] [], none⟩,
    ⟨none, .store 2 (.t 17) (.t 116), none⟩,
    ⟨some 18, .mov (.t 117), none⟩,
    ⟨some 19, .mov (.t 118), none⟩] [3, 5, 7, 8, 17]) (.seq (.region [⟨some 119, .load true 2 (.t 17), none⟩,
    ⟨some 120, .fld 9 (.t 3), none⟩,
    ⟨some 121, .load false 1 (.t 120), none⟩,
    ⟨some 122, .call 0 75 [.t 119, .t 121], none⟩,
    ⟨some 20, .alloc [.nils] [], none⟩,
    ⟨none, .store 1 (.t 20) (.t 122), none⟩] [5, 7, 8, 20]) (.seq (.region [⟨some 124, .mov (.t 8), none⟩,
    ⟨some 125, .load true 1 (.t 20), none⟩,
    ⟨some 126, .load true 2 (.t 5), none⟩,
    ⟨some 127, .call 0 249 [.t 124, .t 125, .t 126], none⟩,
    ⟨some 123, .mov (.t 127), none⟩,
    ⟨some 128, .extract (.t 123) 0, none⟩,
    ⟨some 129, .extract (.t 123) 1, none⟩,
    ⟨some 21, .alloc [.nils] [], none⟩,
    ⟨none, .store 1 (.t 21) (.t 128), none⟩,
    ⟨some 22, .mov (.t 129), none⟩] [5, 7, 8, 20, 21, 22]) (.seq (.region [⟨some 131, .mov (.t 8), none⟩,
    ⟨some 132, .load true 1 (.t 20), none⟩,
    ⟨some 133, .load true 2 (.t 5), none⟩,
    ⟨some 134, .call 0 264 [.t 131, .t 132, .t 133], none⟩,
    ⟨some 130, .mov (.t 134), none⟩,
    ⟨some 135, .extract (.t 130) 0, none⟩,
    ⟨some 136, .extract (.t 130) 1, none⟩,
    ⟨some 23, .alloc [.nils] [], none⟩,
    ⟨none, .store 1 (.t 23) (.t 135), none⟩,
    ⟨some 24, .mov (.t 136), none⟩] [7, 21, 22, 23, 24]) (.seq (.region [⟨some 137, .load true 1 (.t 21), none⟩,
    ⟨some 138, .load true 1 (.t 23), none⟩,
    ⟨some 139, .call 0 12 [.t 137, .t 138], none⟩,
    ⟨some 140, .mov (.t 139), none⟩,
    ⟨some 141, .mov (.t 22), some (140, true)⟩,
    ⟨some 142, .mov (.t 24), some (140, true)⟩,
    ⟨some 143, .bin .eql .num (.t 141) (.t 142), some (140, true)⟩,
    ⟨some 144, .pick (.t 140) (.t 143) (.c (.bool false)), none⟩,
    ⟨some 145, .mov (.t 144), none⟩,
    ⟨some 146, .mov (.t 7), some (145, true)⟩,
    ⟨some 147, .pick (.t 145) (.t 146) (.c (.bool false)), none⟩,
    ⟨some 6, .mov (.t 147), none⟩] [6]) (.ret)))))))))))))))⟩
def prog : Nat → Option AFunc
  | 12 => some f_R06_SameRow
  | 173 => some f_slices_IndexFunc_api_Field_api_Field
  | 172 => some f_schema_index_1
  | 174 => some f_schema_index
  | 175 => some f_schema_Field
  | 181 => some f_schema_ancestors
  | 182 => some f_schema_group
  | 180 => some f_slices_ContainsFunc_api_Field_api_Field
  | 178 => some f_schema_named
  | 176 => some f_slices_Index_int_int
  | 177 => some f_slices_Contains_int_int
  | 179 => some f_schema_state_taken_1
  | 183 => some f_schema_state_taken
  | 184 => some f_schema_state_full
  | 185 => some f_schema_state_plus
  | 191 => some f_schema_state_add
  | 188 => some f_schema_state_drop_1
  | 187 => some f_slices_DeleteFunc_api_Field_api_Field
  | 186 => some f_schema_state_remove_1
  | 189 => some f_schema_state_remove
  | 192 => some f_schema_state_drop
  | 193 => some f_schema_state_rename
  | 194 => some f_schema_state_widen
  | 195 => some f_schema_state_move
  | 190 => some f_schema_separates
  | 196 => some f_schema_state_split
  | 197 => some f_schema_state_join
  | 198 => some f_slices_Clone_api_Field_api_Field
  | 200 => some f_schema_Apply
  | 202 => some f_value_isType
  | 203 => some f_value_limits
  | 204 => some f_value_Valid
  | 208 => some f_schema_Fits
  | 223 => some f_slices_Clone_api_Cell_api_Cell
  | 227 => some f_lens_keep
  | 224 => some f_lens_set
  | 225 => some f_lens_erase_1
  | 239 => some f_lens_erase
  | 226 => some f_lens_get
  | 228 => some f_lens_narrow_1
  | 240 => some f_lens_narrow
  | 233 => some f_internal_stringslite_Index
  | 234 => some f_internal_stringslite_Cut
  | 235 => some f_strings_Cut
  | 236 => some f_lens_divide
  | 237 => some f_lens_apart
  | 241 => some f_lens_of_1
  | 238 => some f_lens_connect
  | 242 => some f_lens_of_2
  | 243 => some f_lens_of_3
  | 244 => some f_lens_of_4
  | 245 => some f_lens_of
  | 247 => some f_lens_Forward
  | 248 => some f_lens_Back
  | 250 => some f_lens_Lossless
  | 199 => some f_schema_New
  | 249 => some f_lens_Translate
  | 246 => some f_L07_text
  | 251 => some f_L07_sanity
  | 252 => some f_L07_small
  | 47 => some f_R06_Field
  | 49 => some f_R06_group
  | 50 => some f_R06_depth
  | 48 => some f_R06_Name
  | 51 => some f_R06_taken
  | 52 => some f_R06_plus
  | 58 => some f_R06_add
  | 55 => some f_R06_without
  | 54 => some f_R06_with
  | 53 => some f_R06_inside
  | 56 => some f_R06_move
  | 59 => some f_R06_one
  | 57 => some f_R06_sep
  | 60 => some f_R06_split
  | 61 => some f_R06_join
  | 63 => some f_R06_Apply
  | 64 => some f_R06_mod
  | 65 => some f_R06_name
  | 66 => some f_R06_Change
  | 62 => some f_R06_New
  | 87 => some f_R06_Made
  | 88 => some f_R06_After
  | 253 => some f_L07_made
  | 67 => some f_R05_Type
  | 68 => some f_R05_Fit
  | 69 => some f_R05_Made
  | 75 => some f_R06_Row
  | 212 => some f_R05_Valid
  | 213 => some f_R06_Fits
  | 84 => some f_R06_Get
  | 258 => some f_R07_Put
  | 257 => some f_R07_null
  | 259 => some f_R07_Divide
  | 260 => some f_R07_Connect
  | 261 => some f_R07_Forward
  | 262 => some f_R07_Back
  | 263 => some f_R07_Lossless
  | 265 => some f_L07_LensMatchesReference
  | 264 => some f_R07_Translate
  | 266 => some f_L07_LensTranslateMatchesReference
  | _ => none
theorem pr_R06_SameRow : prog 12 = some f_R06_SameRow := rfl
theorem pr_slices_IndexFunc_api_Field_api_Field : prog 173 = some f_slices_IndexFunc_api_Field_api_Field := rfl
theorem pr_schema_index_1 : prog 172 = some f_schema_index_1 := rfl
theorem pr_schema_index : prog 174 = some f_schema_index := rfl
theorem pr_schema_Field : prog 175 = some f_schema_Field := rfl
theorem pr_schema_ancestors : prog 181 = some f_schema_ancestors := rfl
theorem pr_schema_group : prog 182 = some f_schema_group := rfl
theorem pr_slices_ContainsFunc_api_Field_api_Field : prog 180 = some f_slices_ContainsFunc_api_Field_api_Field := rfl
theorem pr_schema_named : prog 178 = some f_schema_named := rfl
theorem pr_slices_Index_int_int : prog 176 = some f_slices_Index_int_int := rfl
theorem pr_slices_Contains_int_int : prog 177 = some f_slices_Contains_int_int := rfl
theorem pr_schema_state_taken_1 : prog 179 = some f_schema_state_taken_1 := rfl
theorem pr_schema_state_taken : prog 183 = some f_schema_state_taken := rfl
theorem pr_schema_state_full : prog 184 = some f_schema_state_full := rfl
theorem pr_schema_state_plus : prog 185 = some f_schema_state_plus := rfl
theorem pr_schema_state_add : prog 191 = some f_schema_state_add := rfl
theorem pr_schema_state_drop_1 : prog 188 = some f_schema_state_drop_1 := rfl
theorem pr_slices_DeleteFunc_api_Field_api_Field : prog 187 = some f_slices_DeleteFunc_api_Field_api_Field := rfl
theorem pr_schema_state_remove_1 : prog 186 = some f_schema_state_remove_1 := rfl
theorem pr_schema_state_remove : prog 189 = some f_schema_state_remove := rfl
theorem pr_schema_state_drop : prog 192 = some f_schema_state_drop := rfl
theorem pr_schema_state_rename : prog 193 = some f_schema_state_rename := rfl
theorem pr_schema_state_widen : prog 194 = some f_schema_state_widen := rfl
theorem pr_schema_state_move : prog 195 = some f_schema_state_move := rfl
theorem pr_schema_separates : prog 190 = some f_schema_separates := rfl
theorem pr_schema_state_split : prog 196 = some f_schema_state_split := rfl
theorem pr_schema_state_join : prog 197 = some f_schema_state_join := rfl
theorem pr_slices_Clone_api_Field_api_Field : prog 198 = some f_slices_Clone_api_Field_api_Field := rfl
theorem pr_schema_Apply : prog 200 = some f_schema_Apply := rfl
theorem pr_value_isType : prog 202 = some f_value_isType := rfl
theorem pr_value_limits : prog 203 = some f_value_limits := rfl
theorem pr_value_Valid : prog 204 = some f_value_Valid := rfl
theorem pr_schema_Fits : prog 208 = some f_schema_Fits := rfl
theorem pr_slices_Clone_api_Cell_api_Cell : prog 223 = some f_slices_Clone_api_Cell_api_Cell := rfl
theorem pr_lens_keep : prog 227 = some f_lens_keep := rfl
theorem pr_lens_set : prog 224 = some f_lens_set := rfl
theorem pr_lens_erase_1 : prog 225 = some f_lens_erase_1 := rfl
theorem pr_lens_erase : prog 239 = some f_lens_erase := rfl
theorem pr_lens_get : prog 226 = some f_lens_get := rfl
theorem pr_lens_narrow_1 : prog 228 = some f_lens_narrow_1 := rfl
theorem pr_lens_narrow : prog 240 = some f_lens_narrow := rfl
theorem pr_internal_stringslite_Index : prog 233 = some f_internal_stringslite_Index := rfl
theorem pr_internal_stringslite_Cut : prog 234 = some f_internal_stringslite_Cut := rfl
theorem pr_strings_Cut : prog 235 = some f_strings_Cut := rfl
theorem pr_lens_divide : prog 236 = some f_lens_divide := rfl
theorem pr_lens_apart : prog 237 = some f_lens_apart := rfl
theorem pr_lens_of_1 : prog 241 = some f_lens_of_1 := rfl
theorem pr_lens_connect : prog 238 = some f_lens_connect := rfl
theorem pr_lens_of_2 : prog 242 = some f_lens_of_2 := rfl
theorem pr_lens_of_3 : prog 243 = some f_lens_of_3 := rfl
theorem pr_lens_of_4 : prog 244 = some f_lens_of_4 := rfl
theorem pr_lens_of : prog 245 = some f_lens_of := rfl
theorem pr_lens_Forward : prog 247 = some f_lens_Forward := rfl
theorem pr_lens_Back : prog 248 = some f_lens_Back := rfl
theorem pr_lens_Lossless : prog 250 = some f_lens_Lossless := rfl
theorem pr_schema_New : prog 199 = some f_schema_New := rfl
theorem pr_lens_Translate : prog 249 = some f_lens_Translate := rfl
theorem pr_L07_text : prog 246 = some f_L07_text := rfl
theorem pr_L07_sanity : prog 251 = some f_L07_sanity := rfl
theorem pr_L07_small : prog 252 = some f_L07_small := rfl
theorem pr_R06_Field : prog 47 = some f_R06_Field := rfl
theorem pr_R06_group : prog 49 = some f_R06_group := rfl
theorem pr_R06_depth : prog 50 = some f_R06_depth := rfl
theorem pr_R06_Name : prog 48 = some f_R06_Name := rfl
theorem pr_R06_taken : prog 51 = some f_R06_taken := rfl
theorem pr_R06_plus : prog 52 = some f_R06_plus := rfl
theorem pr_R06_add : prog 58 = some f_R06_add := rfl
theorem pr_R06_without : prog 55 = some f_R06_without := rfl
theorem pr_R06_with : prog 54 = some f_R06_with := rfl
theorem pr_R06_inside : prog 53 = some f_R06_inside := rfl
theorem pr_R06_move : prog 56 = some f_R06_move := rfl
theorem pr_R06_one : prog 59 = some f_R06_one := rfl
theorem pr_R06_sep : prog 57 = some f_R06_sep := rfl
theorem pr_R06_split : prog 60 = some f_R06_split := rfl
theorem pr_R06_join : prog 61 = some f_R06_join := rfl
theorem pr_R06_Apply : prog 63 = some f_R06_Apply := rfl
theorem pr_R06_mod : prog 64 = some f_R06_mod := rfl
theorem pr_R06_name : prog 65 = some f_R06_name := rfl
theorem pr_R06_Change : prog 66 = some f_R06_Change := rfl
theorem pr_R06_New : prog 62 = some f_R06_New := rfl
theorem pr_R06_Made : prog 87 = some f_R06_Made := rfl
theorem pr_R06_After : prog 88 = some f_R06_After := rfl
theorem pr_L07_made : prog 253 = some f_L07_made := rfl
theorem pr_R05_Type : prog 67 = some f_R05_Type := rfl
theorem pr_R05_Fit : prog 68 = some f_R05_Fit := rfl
theorem pr_R05_Made : prog 69 = some f_R05_Made := rfl
theorem pr_R06_Row : prog 75 = some f_R06_Row := rfl
theorem pr_R05_Valid : prog 212 = some f_R05_Valid := rfl
theorem pr_R06_Fits : prog 213 = some f_R06_Fits := rfl
theorem pr_R06_Get : prog 84 = some f_R06_Get := rfl
theorem pr_R07_Put : prog 258 = some f_R07_Put := rfl
theorem pr_R07_null : prog 257 = some f_R07_null := rfl
theorem pr_R07_Divide : prog 259 = some f_R07_Divide := rfl
theorem pr_R07_Connect : prog 260 = some f_R07_Connect := rfl
theorem pr_R07_Forward : prog 261 = some f_R07_Forward := rfl
theorem pr_R07_Back : prog 262 = some f_R07_Back := rfl
theorem pr_R07_Lossless : prog 263 = some f_R07_Lossless := rfl
theorem pr_L07_LensMatchesReference : prog 265 = some f_L07_LensMatchesReference := rfl
theorem pr_R07_Translate : prog 264 = some f_R07_Translate := rfl
theorem pr_L07_LensTranslateMatchesReference : prog 266 = some f_L07_LensTranslateMatchesReference := rfl
end Go.Den
