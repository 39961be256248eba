/- The functions that the statements reach, as checked code: printed by gen.py out of Lean's own print of the translation. -/
import Derived.Test.YtljecilfdpgdbaaFn30p0
namespace Go.Den
open Go
set_option maxRecDepth 100000
/-! fenland/fenlandlaw30.MergeKeepsBoth -/
def f_L30_MergeKeepsBoth_l1u : ACode := .seq (.seq (.region [⟨some 185, .mov (.t 21), none⟩,
    ⟨some 186, .mov (.t 20), none⟩,
    ⟨some 187, .len false (.t 186), none⟩,
    ⟨some 188, .bin .lss .num (.t 185) (.t 187), none⟩] [3, 4, 5, 6, 7, 10, 20, 21, 188]) (.cond (.t 188) (.skip) (.exit 2))) (.seq (.block 3 (.seq (.region [⟨some 191, .fld 1 (.t 7), none⟩,
    ⟨some 192, .load false 1 (.t 191), none⟩,
    ⟨some 193, .mov (.t 10), none⟩,
    ⟨some 194, .mov (.t 21), none⟩,
    ⟨some 195, .bin .add .num (.t 193) (.t 194), none⟩,
    ⟨some 196, .idxa 2 (.t 192) (.t 195), none⟩,
    ⟨some 197, .fld 1 (.t 196), none⟩,
    ⟨some 198, .load true 1 (.t 197), none⟩,
    ⟨some 199, .mov (.t 20), none⟩,
    ⟨some 200, .mov (.t 21), none⟩,
    ⟨some 201, .idxa 2 (.t 199) (.t 200), none⟩,
    ⟨some 202, .fld 1 (.t 201), none⟩,
    ⟨some 203, .load true 1 (.t 202), none⟩,
    ⟨some 204, .call 0 12 [.t 198, .t 203], none⟩,
    ⟨some 205, .not (.t 204), none⟩] [3, 4, 5, 6, 7, 10, 20, 21, 205]) (.cond (.t 205) (.seq (.region [⟨some 2, .mov (.c (.bool false)), none⟩] [2]) (.ret)) (.skip)))) (.region [⟨some 189, .mov (.t 21), none⟩,
    ⟨some 190, .bin .add .num (.t 189) (.c (.int .i64 1)), none⟩,
    ⟨some 21, .mov (.t 190), none⟩] [3, 4, 5, 6, 7, 10, 20, 21]))
def f_L30_MergeKeepsBoth_l1 : ACode := f_L30_MergeKeepsBoth_l1u
theorem f_L30_MergeKeepsBoth_l1_eq (G : Nat → Option AFunc) (base : Nat) (e : Env) (s : St) : Run G base f_L30_MergeKeepsBoth_l1 e s = Run G base f_L30_MergeKeepsBoth_l1u e s := (rfl)
def f_L30_MergeKeepsBoth_l0u : ACode := .seq (.seq (.region [⟨some 44, .mov (.t 11), none⟩,
    ⟨some 45, .fld 1 (.t 4), none⟩,
    ⟨some 46, .load false 1 (.t 45), none⟩,
    ⟨some 47, .len false (.t 46), none⟩,
    ⟨some 48, .bin .lss .num (.t 44) (.t 47), none⟩] [3, 4, 5, 6, 7, 10, 11, 48]) (.cond (.t 48) (.skip) (.exit 0))) (.seq (.block 1 (.seq (.dregion [⟨some 52, .load true 2 (.t 7), none⟩,
    ⟨some 53, .fld 1 (.t 4), none⟩,
    ⟨some 54, .load false 1 (.t 53), none⟩,
    ⟨some 55, .mov (.t 11), none⟩,
    ⟨some 56, .idxa 2 (.t 54) (.t 55), none⟩,
    ⟨some 57, .fld 0 (.t 56), none⟩,
    ⟨some 58, .load false 1 (.t 57), none⟩,
    ⟨some 59, .call 0 147 [.t 52, .t 58], none⟩,
    ⟨some 51, .mov (.t 59), none⟩,
    ⟨some 60, .extract (.t 51) 0, none⟩,
    ⟨some 61, .extract (.t 51) 1, none⟩,
    ⟨some 12, .alloc [.nils] [], none⟩,
    ⟨none, .store 1 (.t 12) (.t 60), none⟩,
    ⟨some 13, .mov (.t 61), none⟩] [(7, 11)] [3, 4, 5, 6, 7, 10, 11, 12, 13]) (.seq (.dregion [⟨some 63, .load true 2 (.t 5), none⟩,
    ⟨some 64, .fld 1 (.t 4), none⟩,
    ⟨some 65, .load false 1 (.t 64), none⟩,
    ⟨some 66, .mov (.t 11), none⟩,
    ⟨some 67, .idxa 2 (.t 65) (.t 66), none⟩,
    ⟨some 68, .fld 0 (.t 67), none⟩,
    ⟨some 69, .load false 1 (.t 68), none⟩,
    ⟨some 70, .call 0 147 [.t 63, .t 69], none⟩,
    ⟨some 62, .mov (.t 70), none⟩,
    ⟨some 71, .extract (.t 62) 0, none⟩,
    ⟨some 72, .extract (.t 62) 1, none⟩,
    ⟨some 14, .alloc [.nils] [], none⟩,
    ⟨none, .store 1 (.t 14) (.t 71), none⟩,
    ⟨some 15, .mov (.t 72), none⟩] [(7, 11)] [3, 4, 5, 6, 7, 10, 11, 12, 13, 14, 15]) (.seq (.dregion [⟨some 74, .load true 2 (.t 6), none⟩,
    ⟨some 75, .fld 1 (.t 4), none⟩,
    ⟨some 76, .load false 1 (.t 75), none⟩,
    ⟨some 77, .mov (.t 11), none⟩,
    ⟨some 78, .idxa 2 (.t 76) (.t 77), none⟩,
    ⟨some 79, .fld 0 (.t 78), none⟩,
    ⟨some 80, .load false 1 (.t 79), none⟩,
    ⟨some 81, .call 0 147 [.t 74, .t 80], none⟩,
    ⟨some 73, .mov (.t 81), none⟩,
    ⟨some 82, .extract (.t 73) 0, none⟩,
    ⟨some 83, .extract (.t 73) 1, none⟩,
    ⟨some 16, .alloc [.nils] [], none⟩,
    ⟨none, .store 1 (.t 16) (.t 82), none⟩,
    ⟨some 17, .mov (.t 83), none⟩] [(7, 11)] [3, 4, 5, 6, 7, 10, 11, 12, 13, 14, 15, 16, 17]) (.seq (.region [⟨some 84, .mov (.t 15), none⟩,
    ⟨some 85, .mov (.t 84), none⟩,
    ⟨some 86, .load true 1 (.t 14), some (85, true)⟩,
    ⟨some 87, .fld 1 (.t 4), some (85, true)⟩,
    ⟨some 88, .load false 1 (.t 87), some (85, true)⟩,
    ⟨some 89, .mov (.t 11), some (85, true)⟩,
    ⟨some 90, .idxa 2 (.t 88) (.t 89), some (85, true)⟩,
    ⟨some 91, .fld 1 (.t 90), some (85, true)⟩,
    ⟨some 92, .load true 1 (.t 91), some (85, true)⟩,
    ⟨some 93, .call 0 12 [.t 86, .t 92], some (85, true)⟩,
    ⟨some 94, .pick (.t 85) (.t 93) (.c (.bool false)), none⟩,
    ⟨some 18, .mov (.t 94), none⟩] [3, 4, 5, 6, 7, 10, 11, 12, 13, 14, 15, 16, 17, 18]) (.seq (.region [⟨some 95, .mov (.t 17), none⟩,
    ⟨some 96, .mov (.t 95), none⟩,
    ⟨some 97, .load true 1 (.t 16), some (96, true)⟩,
    ⟨some 98, .fld 1 (.t 4), some (96, true)⟩,
    ⟨some 99, .load false 1 (.t 98), some (96, true)⟩,
    ⟨some 100, .mov (.t 11), some (96, true)⟩,
    ⟨some 101, .idxa 2 (.t 99) (.t 100), some (96, true)⟩,
    ⟨some 102, .fld 1 (.t 101), some (96, true)⟩,
    ⟨some 103, .load true 1 (.t 102), some (96, true)⟩,
    ⟨some 104, .call 0 12 [.t 97, .t 103], some (96, true)⟩,
    ⟨some 105, .pick (.t 96) (.t 104) (.c (.bool false)), none⟩,
    ⟨some 19, .mov (.t 105), none⟩] [3, 4, 5, 6, 7, 10, 11, 12, 13, 14, 15, 16, 17, 18, 19]) (.seq (.seq (.region [⟨some 106, .mov (.t 18), none⟩,
    ⟨some 107, .mov (.t 106), none⟩,
    ⟨some 108, .mov (.t 19), some (107, true)⟩,
    ⟨some 109, .pick (.t 107) (.t 108) (.c (.bool false)), none⟩,
    ⟨some 110, .mov (.t 109), none⟩,
    ⟨some 111, .mov (.t 13), some (110, true)⟩,
    ⟨some 112, .not (.t 111), some (110, true)⟩,
    ⟨some 113, .mov (.t 112), some (110, true)⟩,
    ⟨some 114, .load true 1 (.t 12), some (113, false)⟩,
    ⟨some 115, .fld 1 (.t 4), some (113, false)⟩,
    ⟨some 116, .load false 1 (.t 115), some (113, false)⟩,
    ⟨some 117, .mov (.t 11), some (113, false)⟩,
    ⟨some 118, .idxa 2 (.t 116) (.t 117), some (113, false)⟩,
    ⟨some 119, .fld 1 (.t 118), some (113, false)⟩,
    ⟨some 120, .load true 1 (.t 119), some (113, false)⟩,
    ⟨some 121, .call 0 12 [.t 114, .t 120], some (113, false)⟩,
    ⟨some 122, .not (.t 121), some (113, false)⟩,
    ⟨some 123, .pick (.t 113) (.c (.bool true)) (.t 122), some (110, true)⟩,
    ⟨some 124, .pick (.t 110) (.t 123) (.c (.bool false)), none⟩] [3, 4, 5, 6, 7, 10, 11, 12, 13, 14, 15, 16, 17, 18, 19, 124]) (.cond (.t 124) (.seq (.region [⟨some 2, .mov (.c (.bool false)), none⟩] [2]) (.ret)) (.skip))) (.seq (.seq (.region [⟨some 125, .mov (.t 18), none⟩,
    ⟨some 126, .not (.t 125), none⟩,
    ⟨some 127, .mov (.t 126), none⟩,
    ⟨some 128, .mov (.t 13), some (127, true)⟩,
    ⟨some 129, .mov (.t 15), some (127, true)⟩,
    ⟨some 130, .bin .neq .bool (.t 128) (.t 129), some (127, true)⟩,
    ⟨some 131, .mov (.t 130), some (127, true)⟩,
    ⟨some 132, .mov (.t 13), some (131, false)⟩,
    ⟨some 133, .mov (.t 132), some (131, false)⟩,
    ⟨some 134, .load true 1 (.t 12), some (133, true)⟩,
    ⟨some 135, .load true 1 (.t 14), some (133, true)⟩,
    ⟨some 136, .call 0 12 [.t 134, .t 135], some (133, true)⟩,
    ⟨some 137, .not (.t 136), some (133, true)⟩,
    ⟨some 138, .pick (.t 133) (.t 137) (.c (.bool false)), some (131, false)⟩,
    ⟨some 139, .pick (.t 131) (.c (.bool true)) (.t 138), some (127, true)⟩,
    ⟨some 140, .pick (.t 127) (.t 139) (.c (.bool false)), none⟩,
    ⟨some 141, .mov (.t 140), none⟩,
    ⟨some 142, .mov (.t 19), some (141, false)⟩,
    ⟨some 143, .not (.t 142), some (141, false)⟩,
    ⟨some 144, .mov (.t 143), some (141, false)⟩,
    ⟨some 145, .mov (.t 13), some (144, true)⟩,
    ⟨some 146, .mov (.t 17), some (144, true)⟩,
    ⟨some 147, .bin .neq .bool (.t 145) (.t 146), some (144, true)⟩,
    ⟨some 148, .mov (.t 147), some (144, true)⟩,
    ⟨some 149, .mov (.t 13), some (148, false)⟩,
    ⟨some 150, .mov (.t 149), some (148, false)⟩,
    ⟨some 151, .load true 1 (.t 12), some (150, true)⟩,
    ⟨some 152, .load true 1 (.t 16), some (150, true)⟩,
    ⟨some 153, .call 0 12 [.t 151, .t 152], some (150, true)⟩,
    ⟨some 154, .not (.t 153), some (150, true)⟩,
    ⟨some 155, .pick (.t 150) (.t 154) (.c (.bool false)), some (148, false)⟩,
    ⟨some 156, .pick (.t 148) (.c (.bool true)) (.t 155), some (144, true)⟩,
    ⟨some 157, .pick (.t 144) (.t 156) (.c (.bool false)), some (141, false)⟩,
    ⟨some 158, .pick (.t 141) (.c (.bool true)) (.t 157), none⟩] [3, 4, 5, 6, 7, 10, 11, 13, 158]) (.cond (.t 158) (.seq (.region [⟨some 2, .mov (.c (.bool false)), none⟩] [2]) (.ret)) (.skip))) (.seq (.region [⟨some 159, .mov (.t 13), none⟩] [3, 4, 5, 6, 7, 10, 11, 159]) (.cond (.t 159) (.region [⟨some 160, .mov (.t 10), none⟩,
    ⟨some 161, .bin .add .num (.t 160) (.c (.int .i64 1)), none⟩,
    ⟨some 10, .mov (.t 161), none⟩] [3, 4, 5, 6, 7, 10, 11]) (.skip))))))))))) (.region [⟨some 49, .mov (.t 11), none⟩,
    ⟨some 50, .bin .add .num (.t 49) (.c (.int .i64 1)), none⟩,
    ⟨some 11, .mov (.t 50), none⟩] [3, 4, 5, 6, 7, 10, 11]))
def f_L30_MergeKeepsBoth_l0 : ACode := f_L30_MergeKeepsBoth_l0u
theorem f_L30_MergeKeepsBoth_l0_eq (G : Nat → Option AFunc) (base : Nat) (e : Env) (s : St) : Run G base f_L30_MergeKeepsBoth_l0 e s = Run G base f_L30_MergeKeepsBoth_l0u e s := (rfl)
def f_L30_MergeKeepsBoth : AFunc := ⟨1, .no, [.t 2],
  .seq (.region [⟨some 1, .box true 10 (.t 0), none⟩,
    ⟨some 2, .mov (.c (.bool false)), none⟩] [1]) (.seq (.region [⟨some 22, .call 0 141 [], none⟩,
    ⟨some 3, .mov (.t 22), none⟩] [1, 3]) (.seq (.region [⟨some 24, .load true 10 (.t 1), none⟩,
    ⟨some 25, .call 0 142 [.t 24], none⟩,
    ⟨some 23, .mov (.t 25), none⟩,
    ⟨some 26, .extract (.t 23) 0, none⟩,
    ⟨some 27, .extract (.t 23) 1, none⟩,
    ⟨some 28, .extract (.t 23) 2, none⟩,
    ⟨some 4, .alloc [.int .i64 0, .nils] [], none⟩,
    ⟨some 5, .alloc [.int .i64 0, .nils] [], none⟩,
    ⟨some 6, .alloc [.int .i64 0, .nils] [], none⟩,
    ⟨none, .store 2 (.t 4) (.t 26), none⟩,
    ⟨none, .store 2 (.t 5) (.t 27), none⟩,
    ⟨none, .store 2 (.t 6) (.t 28), none⟩] [3, 4, 5, 6]) (.seq (.region [⟨some 30, .load true 2 (.t 4), none⟩,
    ⟨some 31, .load true 2 (.t 5), none⟩,
    ⟨some 32, .load true 2 (.t 6), none⟩,
    ⟨some 33, .call 0 132 [.t 30, .t 31, .t 32], none⟩,
    ⟨some 29, .mov (.t 33), none⟩,
    ⟨some 34, .extract (.t 29) 0, none⟩,
    ⟨some 35, .extract (.t 29) 1, none⟩,
    ⟨some 36, .extract (.t 29) 2, none⟩,
    ⟨some 7, .alloc [.int .i64 0, .nils] [], none⟩,
    ⟨none, .store 2 (.t 7) (.t 34), none⟩,
    ⟨some 8, .mov (.t 35), none⟩,
    ⟨some 9, .mov (.t 36), none⟩] [3, 4, 5, 6, 7, 9]) (.seq (.seq (.region [⟨some 37, .mov (.t 9), none⟩,
    ⟨some 38, .bin .neq .num (.t 37) (.c (.int .i64 0)), none⟩] [3, 4, 5, 6, 7, 9, 38]) (.cond (.t 38) (.seq (.region [⟨some 39, .mov (.t 3), none⟩,
    ⟨some 40, .mov (.t 39), none⟩,
    ⟨some 41, .mov (.t 9), some (40, true)⟩,
    ⟨some 42, .bin .eql .num (.t 41) (.c (.int .i64 280)), some (40, true)⟩,
    ⟨some 43, .pick (.t 40) (.t 42) (.c (.bool false)), none⟩,
    ⟨some 2, .mov (.t 43), none⟩] [2]) (.ret)) (.skip))) (.seq (.region [⟨some 10, .mov (.c (.int .i64 0)), none⟩] [3, 4, 5, 6, 7, 10]) (.seq (.seq (.region [⟨some 11, .mov (.c (.int .i64 0)), none⟩] [3, 4, 5, 6, 7, 10, 11]) (.block 0 (.loop 4 [3, 4, 5, 6, 7, 10, 11] f_L30_MergeKeepsBoth_l0))) (.seq (.region [⟨some 162, .lit false 2 [.int .i64 0, .nils] 0 [], none⟩,
    ⟨some 163, .load true 2 (.t 4), none⟩,
    ⟨some 164, .load true 2 (.t 5), none⟩,
    ⟨some 165, .call 0 140 [.t 163, .t 164], none⟩,
    ⟨some 166, .append true 2 32 (.t 162) (.t 165), none⟩,
    ⟨some 20, .mov (.t 166), none⟩] [3, 4, 5, 6, 7, 10, 20]) (.seq (.region [⟨some 167, .mov (.t 20), none⟩,
    ⟨some 168, .load true 2 (.t 4), none⟩,
    ⟨some 169, .load true 2 (.t 6), none⟩,
    ⟨some 170, .call 0 140 [.t 168, .t 169], none⟩,
    ⟨some 171, .append true 2 32 (.t 167) (.t 170), none⟩,
    ⟨some 20, .mov (.t 171), none⟩] [3, 4, 5, 6, 7, 10, 20]) (.seq (.seq (.region [⟨some 172, .fld 1 (.t 7), none⟩,
    ⟨some 173, .load false 1 (.t 172), none⟩,
    ⟨some 174, .len false (.t 173), none⟩,
    ⟨some 175, .mov (.t 10), none⟩,
    ⟨some 176, .mov (.t 20), none⟩,
    ⟨some 177, .len false (.t 176), none⟩,
    ⟨some 178, .bin .add .num (.t 175) (.t 177), none⟩,
    ⟨some 179, .bin .neq .num (.t 174) (.t 178), none⟩,
    ⟨some 180, .mov (.t 179), none⟩,
    ⟨some 181, .load true 2 (.t 7), some (180, false)⟩,
    ⟨some 182, .call 0 148 [.t 181], some (180, false)⟩,
    ⟨some 183, .not (.t 182), some (180, false)⟩,
    ⟨some 184, .pick (.t 180) (.c (.bool true)) (.t 183), none⟩] [3, 4, 5, 6, 7, 10, 20, 184]) (.cond (.t 184) (.seq (.region [⟨some 2, .mov (.c (.bool false)), none⟩] [2]) (.ret)) (.skip))) (.seq (.seq (.region [⟨some 21, .mov (.c (.int .i64 0)), none⟩] [3, 4, 5, 6, 7, 10, 20, 21]) (.block 2 (.loop 5 [3, 4, 5, 6, 7, 10, 20, 21] f_L30_MergeKeepsBoth_l1))) (.seq (.dregion [⟨some 206, .mov (.t 3), none⟩,
    ⟨some 207, .mov (.t 206), none⟩,
    ⟨some 208, .fld 0 (.t 7), some (207, true)⟩,
    ⟨some 209, .load false 1 (.t 208), some (207, true)⟩,
    ⟨some 210, .fld 0 (.t 5), some (207, true)⟩,
    ⟨some 211, .load false 1 (.t 210), some (207, true)⟩,
    ⟨some 212, .load true 2 (.t 4), some (207, true)⟩,
    ⟨some 213, .load true 2 (.t 6), some (207, true)⟩,
    ⟨some 214, .call 0 140 [.t 212, .t 213], some (207, true)⟩,
    ⟨some 215, .len false (.t 214), some (207, true)⟩,
    ⟨some 216, .bin .add .num (.t 211) (.t 215), some (207, true)⟩,
    ⟨some 217, .bin .eql .num (.t 209) (.t 216), some (207, true)⟩,
    ⟨some 218, .pick (.t 207) (.t 217) (.c (.bool false)), none⟩,
    ⟨some 2, .mov (.t 218), none⟩] [(3, 8), (5, 8)] [2]) (.ret))))))))))))⟩
/-! fenland/fenlandref06.Leaves -/
def f_R06_Leaves_l0u : ACode := .seq (.seq (.region [⟨some 6, .mov (.t 4), none⟩,
    ⟨some 7, .fld 0 (.t 1), none⟩,
    ⟨some 8, .load false 1 (.t 7), none⟩,
    ⟨some 9, .len false (.t 8), none⟩,
    ⟨some 10, .bin .lss .num (.t 6) (.t 9), none⟩] [1, 3, 4, 10]) (.cond (.t 10) (.skip) (.exit 0))) (.seq (.block 1 (.seq (.region [⟨some 13, .fld 0 (.t 1), none⟩,
    ⟨some 14, .load false 1 (.t 13), none⟩,
    ⟨some 15, .mov (.t 4), none⟩,
    ⟨some 16, .idxa 4 (.t 14) (.t 15), none⟩,
    ⟨some 17, .fld 2 (.t 16), none⟩,
    ⟨some 18, .load false 1 (.t 17), none⟩,
    ⟨some 19, .bin .neq .num (.t 18) (.c (.int .i64 6)), none⟩] [1, 3, 4, 19]) (.cond (.t 19) (.region [⟨some 20, .mov (.t 3), none⟩,
    ⟨some 21, .fld 0 (.t 1), none⟩,
    ⟨some 22, .load false 1 (.t 21), none⟩,
    ⟨some 23, .mov (.t 4), none⟩,
    ⟨some 24, .idxa 4 (.t 22) (.t 23), none⟩,
    ⟨some 25, .fld 0 (.t 24), none⟩,
    ⟨some 26, .load false 1 (.t 25), none⟩,
    ⟨some 27, .lit false 1 [.int .i64 0] 1 [(0, .t 26)], none⟩,
    ⟨some 28, .append true 1 8 (.t 20) (.t 27), none⟩,
    ⟨some 3, .mov (.t 28), none⟩] [1, 3, 4]) (.skip)))) (.region [⟨some 11, .mov (.t 4), none⟩,
    ⟨some 12, .bin .add .num (.t 11) (.c (.int .i64 1)), none⟩,
    ⟨some 4, .mov (.t 12), none⟩] [1, 3, 4]))
def f_R06_Leaves_l0 : ACode := f_R06_Leaves_l0u
theorem f_R06_Leaves_l0_eq (G : Nat → Option AFunc) (base : Nat) (e : Env) (s : St) : Run G base f_R06_Leaves_l0 e s = Run G base f_R06_Leaves_l0u e s := (rfl)
def f_R06_Leaves : AFunc := ⟨1, .no, [.t 2],
  .seq (.region [⟨some 1, .box true 2 (.t 0), none⟩,
    ⟨some 2, .mov (.c .nils), none⟩] [1]) (.seq (.region [⟨some 5, .lit true 1 [.int .i64 0] 0 [], none⟩,
    ⟨some 3, .mov (.t 5), none⟩] [1, 3]) (.seq (.seq (.region [⟨some 4, .mov (.c (.int .i64 0)), none⟩] [1, 3, 4]) (.block 0 (.loop 1 [1, 3, 4] f_R06_Leaves_l0))) (.seq (.region [⟨some 29, .mov (.t 3), none⟩,
    ⟨some 2, .mov (.t 29), none⟩] [2]) (.ret))))⟩
/-! fenland/fenlandref09.mod -/
def f_R09_mod : AFunc := ⟨2, .no, [.t 4],
  .seq (.region [⟨some 4, .mov (.c (.int .i64 0)), none⟩] [0, 1]) (.seq (.region [⟨some 5, .mov (.t 0), none⟩,
    ⟨some 6, .mov (.t 1), none⟩,
    ⟨some 7, .bin .rem .num (.t 5) (.t 6), none⟩,
    ⟨some 8, .mov (.t 1), none⟩,
    ⟨some 9, .bin .add .num (.t 7) (.t 8), none⟩,
    ⟨some 10, .mov (.t 1), none⟩,
    ⟨some 11, .bin .rem .num (.t 9) (.t 10), none⟩,
    ⟨some 4, .mov (.t 11), none⟩] [4]) (.ret))⟩
/-! fenland/fenlandref05.Compare -/
def f_R05_Compare_l0u : ACode := .seq (.seq (.region [⟨some 34, .mov (.t 5), none⟩,
    ⟨some 35, .fld 2 (.t 2), none⟩,
    ⟨some 36, .load false 1 (.t 35), none⟩,
    ⟨some 37, .len true (.t 36), none⟩,
    ⟨some 38, .bin .lss .num (.t 34) (.t 37), none⟩,
    ⟨some 39, .mov (.t 38), none⟩,
    ⟨some 40, .mov (.t 5), some (39, true)⟩,
    ⟨some 41, .fld 2 (.t 3), some (39, true)⟩,
    ⟨some 42, .load false 1 (.t 41), some (39, true)⟩,
    ⟨some 43, .len true (.t 42), some (39, true)⟩,
    ⟨some 44, .bin .lss .num (.t 40) (.t 43), some (39, true)⟩,
    ⟨some 45, .pick (.t 39) (.t 44) (.c (.bool false)), none⟩] [2, 3, 5, 45]) (.cond (.t 45) (.skip) (.exit 1))) (.seq (.block 2 (.seq (.seq (.region [⟨some 48, .fld 2 (.t 2), none⟩,
    ⟨some 49, .load false 1 (.t 48), none⟩,
    ⟨some 50, .mov (.t 5), none⟩,
    ⟨some 51, .index (.t 49) (.t 50), none⟩,
    ⟨some 52, .fld 2 (.t 3), none⟩,
    ⟨some 53, .load false 1 (.t 52), none⟩,
    ⟨some 54, .mov (.t 5), none⟩,
    ⟨some 55, .index (.t 53) (.t 54), none⟩,
    ⟨some 56, .bin .lss .num (.t 51) (.t 55), none⟩] [2, 3, 5, 56]) (.cond (.t 56) (.seq (.region [⟨some 4, .mov (.c (.int .i64 (-1))), none⟩] [4]) (.ret)) (.skip))) (.seq (.region [⟨some 57, .fld 2 (.t 2), none⟩,
    ⟨some 58, .load false 1 (.t 57), none⟩,
    ⟨some 59, .mov (.t 5), none⟩,
    ⟨some 60, .index (.t 58) (.t 59), none⟩,
    ⟨some 61, .fld 2 (.t 3), none⟩,
    ⟨some 62, .load false 1 (.t 61), none⟩,
    ⟨some 63, .mov (.t 5), none⟩,
    ⟨some 64, .index (.t 62) (.t 63), none⟩,
    ⟨some 65, .bin .gtr .num (.t 60) (.t 64), none⟩] [2, 3, 5, 65]) (.cond (.t 65) (.seq (.region [⟨some 4, .mov (.c (.int .i64 1)), none⟩] [4]) (.ret)) (.skip))))) (.region [⟨some 46, .mov (.t 5), none⟩,
    ⟨some 47, .bin .add .num (.t 46) (.c (.int .i64 1)), none⟩,
    ⟨some 5, .mov (.t 47), none⟩] [2, 3, 5]))
def f_R05_Compare_l0 : ACode := f_R05_Compare_l0u
theorem f_R05_Compare_l0_eq (G : Nat → Option AFunc) (base : Nat) (e : Env) (s : St) : Run G base f_R05_Compare_l0 e s = Run G base f_R05_Compare_l0u e s := (rfl)
def f_R05_Compare : AFunc := ⟨2, .no, [.t 4],
  .seq (.region [⟨some 2, .box true 3 (.t 0), none⟩,
    ⟨some 3, .box true 3 (.t 1), none⟩,
    ⟨some 4, .mov (.c (.int .i64 0)), none⟩] [2, 3]) (.seq (.block 0 (.seq (.region [⟨some 7, .fld 0 (.t 2), none⟩,
    ⟨some 8, .load false 1 (.t 7), none⟩,
    ⟨some 9, .mov (.t 8), none⟩,
    ⟨some 10, .fld 0 (.t 3), some (9, true)⟩,
    ⟨some 11, .load false 1 (.t 10), some (9, true)⟩,
    ⟨some 12, .not (.t 11), some (9, true)⟩,
    ⟨some 13, .pick (.t 9) (.t 12) (.c (.bool false)), none⟩,
    ⟨some 6, .mov (.t 13), none⟩] [2, 3, 6]) (.cond (.t 6) (.seq (.region [⟨some 4, .mov (.c (.int .i64 (-1))), none⟩] [4]) (.ret)) (.seq (.region [⟨some 15, .fld 0 (.t 2), none⟩,
    ⟨some 16, .load false 1 (.t 15), none⟩,
    ⟨some 17, .not (.t 16), none⟩,
    ⟨some 18, .mov (.t 17), none⟩,
    ⟨some 19, .fld 0 (.t 3), some (18, true)⟩,
    ⟨some 20, .load false 1 (.t 19), some (18, true)⟩,
    ⟨some 21, .pick (.t 18) (.t 20) (.c (.bool false)), none⟩,
    ⟨some 14, .mov (.t 21), none⟩] [2, 3, 14]) (.cond (.t 14) (.seq (.region [⟨some 4, .mov (.c (.int .i64 1)), none⟩] [4]) (.ret)) (.seq (.region [⟨some 23, .fld 1 (.t 2), none⟩,
    ⟨some 24, .load false 1 (.t 23), none⟩,
    ⟨some 25, .fld 1 (.t 3), none⟩,
    ⟨some 26, .load false 1 (.t 25), none⟩,
    ⟨some 27, .bin .lss .num (.t 24) (.t 26), none⟩,
    ⟨some 22, .mov (.t 27), none⟩] [2, 3, 22]) (.cond (.t 22) (.seq (.region [⟨some 4, .mov (.c (.int .i64 (-1))), none⟩] [4]) (.ret)) (.seq (.region [⟨some 29, .fld 1 (.t 2), none⟩,
    ⟨some 30, .load false 1 (.t 29), none⟩,
    ⟨some 31, .fld 1 (.t 3), none⟩,
    ⟨some 32, .load false 1 (.t 31), none⟩,
    ⟨some 33, .bin .gtr .num (.t 30) (.t 32), none⟩,
    ⟨some 28, .mov (.t 33), none⟩] [2, 3, 28]) (.cond (.t 28) (.seq (.region [⟨some 4, .mov (.c (.int .i64 1)), none⟩] [4]) (.ret)) (.skip)))))))))) (.seq (.seq (.region [⟨some 5, .mov (.c (.int .i64 0)), none⟩] [2, 3, 5]) (.block 1 (.loop 0 [2, 3, 5] f_R05_Compare_l0))) (.seq (.seq (.region [⟨some 66, .fld 2 (.t 2), none⟩,
    ⟨some 67, .load false 1 (.t 66), none⟩,
    ⟨some 68, .len true (.t 67), none⟩,
    ⟨some 69, .fld 2 (.t 3), none⟩,
    ⟨some 70, .load false 1 (.t 69), none⟩,
    ⟨some 71, .len true (.t 70), none⟩,
    ⟨some 72, .bin .lss .num (.t 68) (.t 71), none⟩] [2, 3, 72]) (.cond (.t 72) (.seq (.region [⟨some 4, .mov (.c (.int .i64 (-1))), none⟩] [4]) (.ret)) (.skip))) (.seq (.seq (.region [⟨some 73, .fld 2 (.t 2), none⟩,
    ⟨some 74, .load false 1 (.t 73), none⟩,
    ⟨some 75, .len true (.t 74), none⟩,
    ⟨some 76, .fld 2 (.t 3), none⟩,
    ⟨some 77, .load false 1 (.t 76), none⟩,
    ⟨some 78, .len true (.t 77), none⟩,
    ⟨some 79, .bin .gtr .num (.t 75) (.t 78), none⟩] [79]) (.cond (.t 79) (.seq (.region [⟨some 4, .mov (.c (.int .i64 1)), none⟩] [4]) (.ret)) (.skip))) (.seq (.region [⟨some 4, .mov (.c (.int .i64 0)), none⟩] [4]) (.ret))))))⟩
/-! fenland/fenlandref09.set -/
def f_R09_set_l1u : ACode := .seq (.seq (.region [⟨some 27, .mov (.t 8), none⟩,
    ⟨some 28, .mov (.t 5), none⟩,
    ⟨some 29, .len false (.t 28), none⟩,
    ⟨some 30, .bin .lss .num (.t 27) (.t 29), none⟩,
    ⟨some 31, .mov (.t 30), none⟩,
    ⟨some 32, .mov (.t 5), some (31, true)⟩,
    ⟨some 33, .mov (.t 8), some (31, true)⟩,
    ⟨some 34, .idxa 3 (.t 32) (.t 33), some (31, true)⟩,
    ⟨some 35, .load true 3 (.t 34), some (31, true)⟩,
    ⟨some 36, .load true 3 (.t 7), some (31, true)⟩,
    ⟨some 37, .call 0 70 [.t 35, .t 36], some (31, true)⟩,
    ⟨some 38, .bin .lss .num (.t 37) (.c (.int .i64 0)), some (31, true)⟩,
    ⟨some 39, .pick (.t 31) (.t 38) (.c (.bool false)), none⟩] [0, 1, 5, 6, 7, 8, 39]) (.cond (.t 39) (.skip) (.exit 2))) (.block 3 (.region [⟨some 40, .mov (.t 8), none⟩,
    ⟨some 41, .bin .add .num (.t 40) (.c (.int .i64 1)), none⟩,
    ⟨some 8, .mov (.t 41), none⟩] [0, 1, 5, 6, 7, 8]))
def f_R09_set_l1 : ACode := f_R09_set_l1u
theorem f_R09_set_l1_eq (G : Nat → Option AFunc) (base : Nat) (e : Env) (s : St) : Run G base f_R09_set_l1 e s = Run G base f_R09_set_l1u e s := (rfl)
def f_R09_set_l0u : ACode := .seq (.seq (.region [⟨some 11, .mov (.t 6), none⟩,
    ⟨some 12, .mov (.t 0), none⟩,
    ⟨some 13, .len false (.t 12), none⟩,
    ⟨some 14, .bin .lss .num (.t 11) (.t 13), none⟩,
    ⟨some 15, .mov (.t 14), none⟩,
    ⟨some 16, .mov (.t 6), some (15, true)⟩,
    ⟨some 17, .bin .lss .num (.t 16) (.c (.int .i64 4)), some (15, true)⟩,
    ⟨some 18, .pick (.t 15) (.t 17) (.c (.bool false)), none⟩] [0, 1, 5, 6, 18]) (.cond (.t 18) (.skip) (.exit 0))) (.seq (.block 1 (.seq (.region [⟨some 21, .mov (.t 0), none⟩,
    ⟨some 22, .mov (.t 6), none⟩,
    ⟨some 23, .idxa 3 (.t 21) (.t 22), none⟩,
    ⟨some 24, .load true 3 (.t 23), none⟩,
    ⟨some 25, .mov (.t 1), none⟩,
    ⟨some 26, .call 0 69 [.t 24, .t 25], none⟩,
    ⟨some 7, .alloc [.bool false, .int .i64 0, .str ⟨#[]⟩] [], none⟩,
    ⟨none, .store 3 (.t 7) (.t 26), none⟩] [0, 1, 5, 6, 7]) (.seq (.region [⟨some 8, .mov (.c (.int .i64 0)), none⟩] [0, 1, 5, 6, 7, 8]) (.seq (.block 2 (.loop 1 [0, 1, 5, 6, 7, 8] f_R09_set_l1)) (.seq (.seq (.region [⟨some 42, .fld 0 (.t 7), none⟩,
    ⟨some 43, .load false 1 (.t 42), none⟩,
    ⟨some 44, .mov (.t 43), none⟩,
    ⟨some 45, .mov (.t 8), some (44, false)⟩,
    ⟨some 46, .mov (.t 5), some (44, false)⟩,
    ⟨some 47, .len false (.t 46), some (44, false)⟩,
    ⟨some 48, .bin .lss .num (.t 45) (.t 47), some (44, false)⟩,
    ⟨some 49, .mov (.t 48), some (44, false)⟩,
    ⟨some 50, .mov (.t 5), some (49, true)⟩,
    ⟨some 51, .mov (.t 8), some (49, true)⟩,
    ⟨some 52, .idxa 3 (.t 50) (.t 51), some (49, true)⟩,
    ⟨some 53, .load true 3 (.t 52), some (49, true)⟩,
    ⟨some 54, .load true 3 (.t 7), some (49, true)⟩,
    ⟨some 55, .bin .eql (.agg [.b, .i, .s]) (.t 53) (.t 54), some (49, true)⟩,
    ⟨some 56, .pick (.t 49) (.t 55) (.c (.bool false)), some (44, false)⟩,
    ⟨some 57, .pick (.t 44) (.c (.bool true)) (.t 56), none⟩] [0, 1, 5, 6, 7, 8, 57]) (.cond (.t 57) (.exit 1) (.skip))) (.seq (.region [⟨some 58, .lit false 3 [.bool false, .int .i64 0, .str ⟨#[]⟩] 0 [], none⟩,
    ⟨some 59, .mov (.t 5), none⟩,
    ⟨some 60, .mov (.t 8), none⟩,
    ⟨some 61, .slice 3 (.t 59) none (some (.t 60)) none, none⟩,
    ⟨some 62, .append true 3 32 (.t 58) (.t 61), none⟩,
    ⟨some 9, .mov (.t 62), none⟩] [0, 1, 5, 6, 7, 8, 9]) (.seq (.region [⟨some 63, .mov (.t 9), none⟩,
    ⟨some 64, .load true 3 (.t 7), none⟩,
    ⟨some 65, .lit false 3 [.bool false, .int .i64 0, .str ⟨#[]⟩] 1 [(0, .t 64)], none⟩,
    ⟨some 66, .append true 3 32 (.t 63) (.t 65), none⟩,
    ⟨some 9, .mov (.t 66), none⟩] [0, 1, 5, 6, 8, 9]) (.region [⟨some 67, .mov (.t 9), none⟩,
    ⟨some 68, .mov (.t 5), none⟩,
    ⟨some 69, .mov (.t 8), none⟩,
    ⟨some 70, .slice 3 (.t 68) (some (.t 69)) none none, none⟩,
    ⟨some 71, .append true 3 32 (.t 67) (.t 70), none⟩,
    ⟨some 5, .movf (.t 71), none⟩] [0, 1, 5, 6])))))))) (.region [⟨some 19, .mov (.t 6), none⟩,
    ⟨some 20, .bin .add .num (.t 19) (.c (.int .i64 1)), none⟩,
    ⟨some 6, .mov (.t 20), none⟩] [0, 1, 5, 6]))
def f_R09_set_l0 : ACode := f_R09_set_l0u
theorem f_R09_set_l0_eq (G : Nat → Option AFunc) (base : Nat) (e : Env) (s : St) : Run G base f_R09_set_l0 e s = Run G base f_R09_set_l0u e s := (rfl)
def f_R09_set : AFunc := ⟨2, .no, [.t 4],
  .seq (.region [⟨some 4, .mov (.c .nils), none⟩] [0, 1]) (.seq (.region [⟨some 10, .lit false 3 [.bool false, .int .i64 0, .str ⟨#[]⟩] 0 [], none⟩,
    ⟨some 5, .movf (.t 10), none⟩] [0, 1, 5]) (.seq (.seq (.region [⟨some 6, .mov (.c (.int .i64 0)), none⟩] [0, 1, 5, 6]) (.block 0 (.loop 0 [0, 1, 5, 6] f_R09_set_l0))) (.seq (.region [⟨some 72, .mov (.t 5), none⟩,
    ⟨some 4, .mov (.t 72), none⟩] [4]) (.ret))))⟩
/-! fenland/fenlandref09.Pred -/
def f_R09_Pred_l0u : ACode := .seq (.seq (.region [⟨some 28, .mov (.t 10), none⟩,
    ⟨some 29, .fld 6 (.t 4), none⟩,
    ⟨some 30, .load false 1 (.t 29), none⟩,
    ⟨some 31, .len false (.t 30), none⟩,
    ⟨some 32, .bin .lss .num (.t 28) (.t 31), none⟩,
    ⟨some 33, .mov (.t 32), none⟩,
    ⟨some 34, .mov (.t 10), some (33, true)⟩,
    ⟨some 35, .bin .lss .num (.t 34) (.c (.int .i64 3)), some (33, true)⟩,
    ⟨some 36, .pick (.t 33) (.t 35) (.c (.bool false)), none⟩] [2, 3, 4, 6, 8, 9, 10, 36]) (.cond (.t 36) (.skip) (.exit 0))) (.seq (.block 1 (.dregion [⟨some 39, .fld 6 (.t 9), none⟩,
    ⟨some 40, .load false 1 (.t 39), none⟩,
    ⟨some 41, .load true 2 (.t 3), none⟩,
    ⟨some 42, .fld 6 (.t 4), none⟩,
    ⟨some 43, .load false 1 (.t 42), none⟩,
    ⟨some 44, .mov (.t 10), none⟩,
    ⟨some 45, .idxa 7 (.t 43) (.t 44), none⟩,
    ⟨some 46, .load true 7 (.t 45), none⟩,
    ⟨some 47, .mov (.t 2), none⟩,
    ⟨some 48, .bin .sub .num (.t 47) (.c (.int .i64 1)), none⟩,
    ⟨some 49, .call 0 73 [.t 41, .t 46, .t 48], none⟩,
    ⟨some 50, .lit false 7 [.int .i64 0, .int .i64 0, .int .i64 0, .int .i64 0, .nils, .str ⟨#[]⟩, .nils] 1 [(0, .t 49)], none⟩,
    ⟨some 51, .append true 7 96 (.t 40) (.t 50), none⟩,
    ⟨some 52, .fld 6 (.t 9), none⟩,
    ⟨none, .store 1 (.t 52) (.t 51), none⟩] [(1, 10)] [2, 3, 4, 6, 8, 9, 10])) (.region [⟨some 37, .mov (.t 10), none⟩,
    ⟨some 38, .bin .add .num (.t 37) (.c (.int .i64 1)), none⟩,
    ⟨some 10, .mov (.t 38), none⟩] [2, 3, 4, 6, 8, 9, 10]))
def f_R09_Pred_l0 : ACode := f_R09_Pred_l0u
theorem f_R09_Pred_l0_eq (G : Nat → Option AFunc) (base : Nat) (e : Env) (s : St) : Run G base f_R09_Pred_l0 e s = Run G base f_R09_Pred_l0u e s := (rfl)
def f_R09_Pred : AFunc := ⟨3, .no, [.cell 6 true 7],
  .seq (.region [⟨some 3, .box true 2 (.t 0), none⟩,
    ⟨some 4, .box true 7 (.t 1), none⟩,
    ⟨some 6, .alloc [.int .i64 0, .int .i64 0, .int .i64 0, .int .i64 0, .nils, .str ⟨#[]⟩, .nils] [], none⟩] [2, 3, 4, 6]) (.seq (.region [⟨some 15, .load true 2 (.t 3), none⟩,
    ⟨some 16, .call 0 71 [.t 15], none⟩,
    ⟨some 7, .mov (.t 16), none⟩] [2, 3, 4, 6, 7]) (.seq (.region [⟨some 17, .fld 0 (.t 4), none⟩,
    ⟨some 18, .load false 1 (.t 17), none⟩,
    ⟨some 19, .call 0 72 [.t 18, .c (.int .i64 8)], none⟩,
    ⟨some 8, .mov (.t 19), none⟩] [2, 3, 4, 6, 7, 8]) (.seq (.seq (.region [⟨some 20, .mov (.t 8), none⟩,
    ⟨some 21, .bin .geq .num (.t 20) (.c (.int .i64 5)), none⟩,
    ⟨some 22, .mov (.t 21), none⟩,
    ⟨some 23, .mov (.t 2), some (22, true)⟩,
    ⟨some 24, .bin .gtr .num (.t 23) (.c (.int .i64 0)), some (22, true)⟩,
    ⟨some 25, .pick (.t 22) (.t 24) (.c (.bool false)), none⟩] [2, 3, 4, 6, 7, 8, 25]) (.cond (.t 25) (.seq (.region [⟨some 26, .mov (.t 8), none⟩,
    ⟨some 27, .build [.int .i64 0, .int .i64 0, .int .i64 0, .int .i64 0, .nils, .str ⟨#[]⟩, .nils] [(0, 1, .t 26)], none⟩,
    ⟨some 9, .alloc [.int .i64 0, .int .i64 0, .int .i64 0, .int .i64 0, .nils, .str ⟨#[]⟩, .nils] [], none⟩,
    ⟨none, .storep 7 (.t 9) (.t 27) [(6, 7)], none⟩] [2, 3, 4, 6, 8, 9]) (.seq (.seq (.region [⟨some 10, .mov (.c (.int .i64 0)), none⟩] [2, 3, 4, 6, 8, 9, 10]) (.block 0 (.loop 3 [2, 3, 4, 6, 8, 9, 10] f_R09_Pred_l0))) (.seq (.seq (.region [⟨some 53, .mov (.t 8), none⟩,
    ⟨some 54, .bin .eql .num (.t 53) (.c (.int .i64 7)), none⟩] [6, 9, 54]) (.cond (.t 54) (.seq (.seq (.region [⟨some 55, .fld 6 (.t 9), none⟩,
    ⟨some 56, .load false 1 (.t 55), none⟩,
    ⟨some 57, .len false (.t 56), none⟩,
    ⟨some 58, .bin .eql .num (.t 57) (.c (.int .i64 0)), none⟩] [6, 9, 58]) (.cond (.t 58) (.region [⟨some 59, .build [.int .i64 0, .int .i64 0, .int .i64 0, .int .i64 0, .nils, .str ⟨#[]⟩, .nils] [], none⟩,
    ⟨some 60, .lit false 7 [.int .i64 0, .int .i64 0, .int .i64 0, .int .i64 0, .nils, .str ⟨#[]⟩, .nils] 1 [(0, .t 59)], none⟩,
    ⟨some 61, .fld 6 (.t 9), none⟩,
    ⟨none, .store 1 (.t 61) (.t 60), none⟩] [6, 9]) (.skip))) (.region [⟨some 62, .fld 6 (.t 9), none⟩,
    ⟨some 63, .load false 1 (.t 62), none⟩,
    ⟨some 64, .slice 7 (.t 63) none (some (.c (.int .i64 1))) none, none⟩,
    ⟨some 65, .fld 6 (.t 9), none⟩,
    ⟨none, .store 1 (.t 65) (.t 64), none⟩] [6, 9])) (.skip))) (.seq (.region [⟨some 66, .load true 7 (.t 9), none⟩,
    ⟨none, .store 7 (.t 6) (.t 66), none⟩] [6]) (.ret))))) (.skip))) (.seq (.seq (.region [⟨some 67, .mov (.t 7), none⟩,
    ⟨some 68, .len false (.t 67), none⟩,
    ⟨some 69, .bin .eql .num (.t 68) (.c (.int .i64 0)), none⟩,
    ⟨some 70, .mov (.t 69), none⟩,
    ⟨some 71, .mov (.t 8), some (70, false)⟩,
    ⟨some 72, .bin .eql .num (.t 71) (.c (.int .i64 0)), some (70, false)⟩,
    ⟨some 73, .pick (.t 70) (.c (.bool true)) (.t 72), none⟩] [3, 4, 6, 7, 8, 73]) (.cond (.t 73) (.seq (.region [⟨some 74, .build [.int .i64 0, .int .i64 0, .int .i64 0, .int .i64 0, .nils, .str ⟨#[]⟩, .nils] [], none⟩,
    ⟨none, .store 7 (.t 6) (.t 74), none⟩] [6]) (.ret)) (.skip))) (.seq (.region [⟨some 75, .mov (.t 7), none⟩,
    ⟨some 76, .fld 1 (.t 4), none⟩,
    ⟨some 77, .load false 1 (.t 76), none⟩,
    ⟨some 78, .mov (.t 7), none⟩,
    ⟨some 79, .len false (.t 78), none⟩,
    ⟨some 80, .call 0 72 [.t 77, .t 79], none⟩,
    ⟨some 81, .idxa 1 (.t 75) (.t 80), none⟩,
    ⟨some 82, .load false 1 (.t 81), none⟩,
    ⟨some 11, .mov (.t 82), none⟩] [3, 4, 6, 8, 11]) (.seq (.region [⟨some 84, .load true 2 (.t 3), none⟩,
    ⟨some 85, .mov (.t 11), none⟩,
    ⟨some 86, .call 0 47 [.t 84, .t 85], none⟩,
    ⟨some 83, .mov (.t 86), none⟩,
    ⟨some 87, .extract (.t 83) 0, none⟩,
    ⟨some 88, .extract (.t 83) 1, none⟩,
    ⟨some 12, .alloc [.int .i64 0, .str ⟨#[]⟩, .int .i64 0, .int .i64 0] [], none⟩,
    ⟨none, .store 4 (.t 12) (.t 87), none⟩,
    ⟨some 13, .mov (.t 88), none⟩] [4, 6, 8, 11, 12]) (.seq (.seq (.region [⟨some 89, .mov (.t 8), none⟩,
    ⟨some 90, .bin .eql .num (.t 89) (.c (.int .i64 4)), none⟩] [4, 6, 8, 11, 12, 90]) (.cond (.t 90) (.seq (.region [⟨some 91, .mov (.t 11), none⟩,
    ⟨some 92, .build [.int .i64 0, .int .i64 0, .int .i64 0, .int .i64 0, .nils, .str ⟨#[]⟩, .nils] [(0, 1, .c (.int .i64 4)), (1, 1, .t 91)], none⟩,
    ⟨none, .store 7 (.t 6) (.t 92), none⟩] [6]) (.ret)) (.skip))) (.seq (.region [⟨some 93, .fld 4 (.t 4), none⟩,
    ⟨some 94, .load false 1 (.t 93), none⟩,
    ⟨some 95, .fld 2 (.t 12), none⟩,
    ⟨some 96, .load false 1 (.t 95), none⟩,
    ⟨some 97, .call 0 74 [.t 94, .t 96], none⟩,
    ⟨some 14, .mov (.t 97), none⟩] [4, 6, 8, 11, 12, 14]) (.seq (.seq (.region [⟨some 98, .mov (.t 8), none⟩,
    ⟨some 99, .bin .eql .num (.t 98) (.c (.int .i64 2)), none⟩,
    ⟨some 100, .mov (.t 99), none⟩,
    ⟨some 101, .mov (.t 14), some (100, true)⟩,
    ⟨some 102, .len false (.t 101), some (100, true)⟩,
    ⟨some 103, .bin .gtr .num (.t 102) (.c (.int .i64 0)), some (100, true)⟩,
    ⟨some 104, .pick (.t 100) (.t 103) (.c (.bool false)), none⟩] [4, 6, 11, 12, 14, 104]) (.cond (.t 104) (.seq (.region [⟨some 105, .mov (.t 11), none⟩,
    ⟨some 106, .mov (.t 14), none⟩,
    ⟨some 107, .build [.int .i64 0, .int .i64 0, .int .i64 0, .int .i64 0, .nils, .str ⟨#[]⟩, .nils] [(0, 1, .c (.int .i64 2)), (1, 1, .t 105), (4, 1, .t 106)], none⟩,
    ⟨none, .store 7 (.t 6) (.t 107), none⟩] [6]) (.ret)) (.skip))) (.seq (.seq (.region [⟨some 108, .fld 2 (.t 12), none⟩,
    ⟨some 109, .load false 1 (.t 108), none⟩,
    ⟨some 110, .bin .eql .num (.t 109) (.c (.int .i64 4)), none⟩] [4, 6, 11, 110]) (.cond (.t 110) (.seq (.region [⟨some 111, .mov (.t 11), none⟩,
    ⟨some 112, .fld 5 (.t 4), none⟩,
    ⟨some 113, .load false 1 (.t 112), none⟩,
    ⟨some 114, .fld 5 (.t 4), none⟩,
    ⟨some 115, .load false 1 (.t 114), none⟩,
    ⟨some 116, .len true (.t 115), none⟩,
    ⟨some 117, .min (.t 116) (.c (.int .i64 3)), none⟩,
    ⟨some 118, .sstr (.t 113) none (some (.t 117)), none⟩,
    ⟨some 119, .build [.int .i64 0, .int .i64 0, .int .i64 0, .int .i64 0, .nils, .str ⟨#[]⟩, .nils] [(0, 1, .c (.int .i64 3)), (1, 1, .t 111), (5, 1, .t 118)], none⟩,
    ⟨none, .store 7 (.t 6) (.t 119), none⟩] [6]) (.ret)) (.skip))) (.seq (.region [⟨some 120, .mov (.t 11), none⟩,
    ⟨some 121, .fld 2 (.t 4), none⟩,
    ⟨some 122, .load false 1 (.t 121), none⟩,
    ⟨some 123, .fld 3 (.t 4), none⟩,
    ⟨some 124, .load false 1 (.t 123), none⟩,
    ⟨some 125, .min (.t 122) (.t 124), none⟩,
    ⟨some 126, .fld 2 (.t 4), none⟩,
    ⟨some 127, .load false 1 (.t 126), none⟩,
    ⟨some 128, .fld 3 (.t 4), none⟩,
    ⟨some 129, .load false 1 (.t 128), none⟩,
    ⟨some 130, .max (.t 127) (.t 129), none⟩,
    ⟨some 131, .build [.int .i64 0, .int .i64 0, .int .i64 0, .int .i64 0, .nils, .str ⟨#[]⟩, .nils] [(0, 1, .c (.int .i64 1)), (1, 1, .t 120), (2, 1, .t 125), (3, 1, .t 130)], none⟩,
    ⟨none, .store 7 (.t 6) (.t 131), none⟩] [6]) (.ret))))))))))))⟩
/-! fenland/fenlandref27.Made -/
def f_R27_Made_l1u : ACode := .seq (.seq (.region [⟨some 56, .mov (.t 8), none⟩,
    ⟨some 57, .fld 15 (.t 3), none⟩,
    ⟨some 58, .load false 1 (.t 57), none⟩,
    ⟨some 59, .len false (.t 58), none⟩,
    ⟨some 60, .bin .lss .num (.t 56) (.t 59), none⟩,
    ⟨some 61, .mov (.t 60), none⟩,
    ⟨some 62, .mov (.t 8), some (61, true)⟩,
    ⟨some 63, .bin .lss .num (.t 62) (.c (.int .i64 3)), some (61, true)⟩,
    ⟨some 64, .pick (.t 61) (.t 63) (.c (.bool false)), none⟩,
    ⟨some 65, .mov (.t 64), none⟩,
    ⟨some 66, .mov (.t 6), some (65, true)⟩,
    ⟨some 67, .len false (.t 66), some (65, true)⟩,
    ⟨some 68, .bin .gtr .num (.t 67) (.c (.int .i64 0)), some (65, true)⟩,
    ⟨some 69, .pick (.t 65) (.t 68) (.c (.bool false)), none⟩] [2, 3, 4, 5, 6, 8, 69]) (.cond (.t 69) (.skip) (.exit 2))) (.seq (.block 3 (.seq (.region [⟨some 72, .fld 15 (.t 3), none⟩,
    ⟨some 73, .load false 1 (.t 72), none⟩,
    ⟨some 74, .mov (.t 8), none⟩,
    ⟨some 75, .idxa 10 (.t 73) (.t 74), none⟩,
    ⟨some 76, .load true 10 (.t 75), none⟩,
    ⟨some 9, .alloc [.int .i64 0, .int .i64 0, .int .i64 0, .int .i64 0, .nils, .str ⟨#[]⟩, .nils, .int .i64 0, .int .i64 0, .int .i64 0] [], none⟩,
    ⟨none, .store 10 (.t 9) (.t 76), none⟩] [2, 3, 4, 5, 6, 8, 9]) (.seq (.region [⟨some 77, .load true 2 (.t 2), none⟩,
    ⟨some 78, .fld 0 (.t 9), none⟩,
    ⟨some 79, .load true 7 (.t 78), none⟩,
    ⟨some 80, .call 0 73 [.t 77, .t 79, .c (.int .i64 1)], none⟩,
    ⟨some 81, .fld 0 (.t 9), none⟩,
    ⟨none, .store 7 (.t 81) (.t 80), none⟩] [2, 3, 4, 5, 6, 8, 9]) (.seq (.region [⟨some 82, .mov (.t 6), none⟩,
    ⟨some 83, .fld 7 (.t 9), none⟩,
    ⟨some 84, .load false 1 (.t 83), none⟩,
    ⟨some 85, .mov (.t 6), none⟩,
    ⟨some 86, .len false (.t 85), none⟩,
    ⟨some 87, .bin .rem .num (.t 84) (.t 86), none⟩,
    ⟨some 88, .mov (.t 6), none⟩,
    ⟨some 89, .len false (.t 88), none⟩,
    ⟨some 90, .bin .add .num (.t 87) (.t 89), none⟩,
    ⟨some 91, .mov (.t 6), none⟩,
    ⟨some 92, .len false (.t 91), none⟩,
    ⟨some 93, .bin .rem .num (.t 90) (.t 92), none⟩,
    ⟨some 94, .idxa 1 (.t 82) (.t 93), none⟩,
    ⟨some 95, .load false 1 (.t 94), none⟩,
    ⟨some 96, .fld 7 (.t 9), none⟩,
    ⟨none, .store 1 (.t 96) (.t 95), none⟩] [2, 3, 4, 5, 6, 8, 9]) (.region [⟨some 97, .fld 15 (.t 5), none⟩,
    ⟨some 98, .load false 1 (.t 97), none⟩,
    ⟨some 99, .load true 10 (.t 9), none⟩,
    ⟨some 100, .lit false 10 [.int .i64 0, .int .i64 0, .int .i64 0, .int .i64 0, .nils, .str ⟨#[]⟩, .nils, .int .i64 0, .int .i64 0, .int .i64 0] 1 [(0, .t 99)], none⟩,
    ⟨some 101, .append true 10 120 (.t 98) (.t 100), none⟩,
    ⟨some 102, .fld 15 (.t 5), none⟩,
    ⟨none, .store 1 (.t 102) (.t 101), none⟩] [2, 3, 4, 5, 6, 8]))))) (.region [⟨some 70, .mov (.t 8), none⟩,
    ⟨some 71, .bin .add .num (.t 70) (.c (.int .i64 1)), none⟩,
    ⟨some 8, .mov (.t 71), none⟩] [2, 3, 4, 5, 6, 8]))
def f_R27_Made_l1 : ACode := f_R27_Made_l1u
theorem f_R27_Made_l1_eq (G : Nat → Option AFunc) (base : Nat) (e : Env) (s : St) : Run G base f_R27_Made_l1 e s = Run G base f_R27_Made_l1u e s := (rfl)
def f_R27_Made_l0u : ACode := .seq (.seq (.region [⟨some 24, .mov (.t 7), none⟩,
    ⟨some 25, .fld 0 (.t 2), none⟩,
    ⟨some 26, .load false 1 (.t 25), none⟩,
    ⟨some 27, .len false (.t 26), none⟩,
    ⟨some 28, .bin .lss .num (.t 24) (.t 27), none⟩] [2, 3, 4, 5, 6, 7, 28]) (.cond (.t 28) (.skip) (.exit 0))) (.seq (.block 1 (.seq (.region [⟨some 31, .fld 0 (.t 2), none⟩,
    ⟨some 32, .load false 1 (.t 31), none⟩,
    ⟨some 33, .mov (.t 7), none⟩,
    ⟨some 34, .idxa 4 (.t 32) (.t 33), none⟩,
    ⟨some 35, .fld 2 (.t 34), none⟩,
    ⟨some 36, .load false 1 (.t 35), none⟩,
    ⟨some 37, .bin .neq .num (.t 36) (.c (.int .i64 4)), none⟩,
    ⟨some 38, .mov (.t 37), none⟩,
    ⟨some 39, .fld 0 (.t 2), some (38, true)⟩,
    ⟨some 40, .load false 1 (.t 39), some (38, true)⟩,
    ⟨some 41, .mov (.t 7), some (38, true)⟩,
    ⟨some 42, .idxa 4 (.t 40) (.t 41), some (38, true)⟩,
    ⟨some 43, .fld 2 (.t 42), some (38, true)⟩,
    ⟨some 44, .load false 1 (.t 43), some (38, true)⟩,
    ⟨some 45, .bin .neq .num (.t 44) (.c (.int .i64 6)), some (38, true)⟩,
    ⟨some 46, .pick (.t 38) (.t 45) (.c (.bool false)), none⟩] [2, 3, 4, 5, 6, 7, 46]) (.cond (.t 46) (.region [⟨some 47, .mov (.t 6), none⟩,
    ⟨some 48, .fld 0 (.t 2), none⟩,
    ⟨some 49, .load false 1 (.t 48), none⟩,
    ⟨some 50, .mov (.t 7), none⟩,
    ⟨some 51, .idxa 4 (.t 49) (.t 50), none⟩,
    ⟨some 52, .fld 0 (.t 51), none⟩,
    ⟨some 53, .load false 1 (.t 52), none⟩,
    ⟨some 54, .lit false 1 [.int .i64 0] 1 [(0, .t 53)], none⟩,
    ⟨some 55, .append true 1 8 (.t 47) (.t 54), none⟩,
    ⟨some 6, .mov (.t 55), none⟩] [2, 3, 4, 5, 6, 7]) (.skip)))) (.region [⟨some 29, .mov (.t 7), none⟩,
    ⟨some 30, .bin .add .num (.t 29) (.c (.int .i64 1)), none⟩,
    ⟨some 7, .mov (.t 30), none⟩] [2, 3, 4, 5, 6, 7]))
def f_R27_Made_l0 : ACode := f_R27_Made_l0u
theorem f_R27_Made_l0_eq (G : Nat → Option AFunc) (base : Nat) (e : Env) (s : St) : Run G base f_R27_Made_l0 e s = Run G base f_R27_Made_l0u e s := (rfl)
def f_R27_Made : AFunc := ⟨2, .no, [.cell 4 true 16],
  .seq (.region [⟨some 2, .box true 2 (.t 0), none⟩,
    ⟨some 3, .box true 16 (.t 1), none⟩,
    ⟨some 4, .alloc [.int .i64 0, .int .i64 0, .int .i64 0, .int .i64 0, .nils, .str ⟨#[]⟩, .nils, .int .i64 0, .int .i64 0, .int .i64 0, .int .i64 0, .nils, .str ⟨#[]⟩, .nils, .nils, .nils] [], none⟩] [2, 3, 4]) (.seq (.dregion [⟨some 10, .load true 2 (.t 2), none⟩,
    ⟨some 11, .fld 0 (.t 3), none⟩,
    ⟨some 12, .load true 7 (.t 11), none⟩,
    ⟨some 13, .call 0 73 [.t 10, .t 12, .c (.int .i64 2)], none⟩,
    ⟨some 14, .load true 2 (.t 2), none⟩,
    ⟨some 15, .fld 7 (.t 3), none⟩,
    ⟨some 16, .load true 7 (.t 15), none⟩,
    ⟨some 17, .call 0 73 [.t 14, .t 16, .c (.int .i64 2)], none⟩,
    ⟨some 18, .load true 2 (.t 2), none⟩,
    ⟨some 19, .fld 14 (.t 3), none⟩,
    ⟨some 20, .load false 1 (.t 19), none⟩,
    ⟨some 21, .call 0 76 [.t 18, .t 20, .c (.int .i64 4)], none⟩,
    ⟨some 22, .build [.int .i64 0, .int .i64 0, .int .i64 0, .int .i64 0, .nils, .str ⟨#[]⟩, .nils, .int .i64 0, .int .i64 0, .int .i64 0, .int .i64 0, .nils, .str ⟨#[]⟩, .nils, .nils, .nils] [(0, 7, .t 13), (7, 7, .t 17), (14, 1, .t 21)], none⟩,
    ⟨some 5, .alloc [.int .i64 0, .int .i64 0, .int .i64 0, .int .i64 0, .nils, .str ⟨#[]⟩, .nils, .int .i64 0, .int .i64 0, .int .i64 0, .int .i64 0, .nils, .str ⟨#[]⟩, .nils, .nils, .nils] [], none⟩,
    ⟨none, .storep 16 (.t 5) (.t 22) [(15, 10)], none⟩] [(3, 4), (3, 6), (3, 8), (7, 8), (3, 10), (7, 10), (3, 13), (7, 13), (11, 13)] [2, 3, 4, 5]) (.seq (.region [⟨some 23, .lit true 1 [.int .i64 0] 0 [], none⟩,
    ⟨some 6, .mov (.t 23), none⟩] [2, 3, 4, 5, 6]) (.seq (.seq (.region [⟨some 7, .mov (.c (.int .i64 0)), none⟩] [2, 3, 4, 5, 6, 7]) (.block 0 (.loop 4 [2, 3, 4, 5, 6, 7] f_R27_Made_l0))) (.seq (.seq (.region [⟨some 8, .mov (.c (.int .i64 0)), none⟩] [2, 3, 4, 5, 6, 8]) (.block 2 (.loop 4 [2, 3, 4, 5, 6, 8] f_R27_Made_l1))) (.seq (.region [⟨some 103, .load true 16 (.t 5), none⟩,
    ⟨none, .store 16 (.t 4) (.t 103), none⟩] [4]) (.ret))))))⟩
/-! fenland/fenlandref27.MadeAll -/
def f_R27_MadeAll_l0u : ACode := .seq (.seq (.region [⟨some 10, .mov (.t 8), none⟩,
    ⟨some 11, .mov (.t 1), none⟩,
    ⟨some 12, .len false (.t 11), none⟩,
    ⟨some 13, .bin .lss .num (.t 10) (.t 12), none⟩,
    ⟨some 14, .mov (.t 13), none⟩,
    ⟨some 15, .mov (.t 8), some (14, true)⟩,
    ⟨some 16, .mov (.t 2), some (14, true)⟩,
    ⟨some 17, .bin .lss .num (.t 15) (.t 16), some (14, true)⟩,
    ⟨some 18, .pick (.t 14) (.t 17) (.c (.bool false)), none⟩] [1, 2, 3, 7, 8, 18]) (.cond (.t 18) (.skip) (.exit 0))) (.seq (.block 1 (.region [⟨some 21, .mov (.t 7), none⟩,
    ⟨some 22, .load true 2 (.t 3), none⟩,
    ⟨some 23, .mov (.t 1), none⟩,
    ⟨some 24, .mov (.t 8), none⟩,
    ⟨some 25, .idxa 16 (.t 23) (.t 24), none⟩,
    ⟨some 26, .load true 16 (.t 25), none⟩,
    ⟨some 27, .call 0 89 [.t 22, .t 26], none⟩,
    ⟨some 28, .lit false 16 [.int .i64 0, .int .i64 0, .int .i64 0, .int .i64 0, .nils, .str ⟨#[]⟩, .nils, .int .i64 0, .int .i64 0, .int .i64 0, .int .i64 0, .nils, .str ⟨#[]⟩, .nils, .nils, .nils] 1 [(0, .t 27)], none⟩,
    ⟨some 29, .append true 16 240 (.t 21) (.t 28), none⟩,
    ⟨some 7, .mov (.t 29), none⟩] [1, 2, 3, 7, 8])) (.region [⟨some 19, .mov (.t 8), none⟩,
    ⟨some 20, .bin .add .num (.t 19) (.c (.int .i64 1)), none⟩,
    ⟨some 8, .mov (.t 20), none⟩] [1, 2, 3, 7, 8]))
def f_R27_MadeAll_l0 : ACode := f_R27_MadeAll_l0u
theorem f_R27_MadeAll_l0_eq (G : Nat → Option AFunc) (base : Nat) (e : Env) (s : St) : Run G base f_R27_MadeAll_l0 e s = Run G base f_R27_MadeAll_l0u e s := (rfl)
def f_R27_MadeAll : AFunc := ⟨3, .no, [.t 6],
  .seq (.region [⟨some 3, .box true 2 (.t 0), none⟩,
    ⟨some 6, .mov (.c .nils), none⟩] [1, 2, 3]) (.seq (.region [⟨some 9, .lit true 16 [.int .i64 0, .int .i64 0, .int .i64 0, .int .i64 0, .nils, .str ⟨#[]⟩, .nils, .int .i64 0, .int .i64 0, .int .i64 0, .int .i64 0, .nils, .str ⟨#[]⟩, .nils, .nils, .nils] 0 [], none⟩,
    ⟨some 7, .mov (.t 9), none⟩] [1, 2, 3, 7]) (.seq (.seq (.region [⟨some 8, .mov (.c (.int .i64 0)), none⟩] [1, 2, 3, 7, 8]) (.block 0 (.loop 1 [1, 2, 3, 7, 8] f_R27_MadeAll_l0))) (.seq (.region [⟨some 30, .mov (.t 7), none⟩,
    ⟨some 6, .mov (.t 30), none⟩] [6]) (.ret))))⟩
/-! fenland/fenlandref08.truth -/
def f_R08_truth : AFunc := ⟨1, .no, [.t 2],
  .seq (.region [⟨some 2, .mov (.c (.int .i64 0)), none⟩] [0]) (.seq (.seq (.region [⟨some 3, .mov (.t 0), none⟩] [3]) (.cond (.t 3) (.seq (.region [⟨some 2, .mov (.c (.int .i64 1)), none⟩] [2]) (.ret)) (.skip))) (.seq (.region [⟨some 2, .mov (.c (.int .i64 0)), none⟩] [2]) (.ret)))⟩
/-! fenland/fenlandref08.within -/
def f_R08_within_l0u : ACode := .seq (.seq (.region [⟨some 6, .mov (.t 5), none⟩,
    ⟨some 7, .mov (.t 1), none⟩,
    ⟨some 8, .len false (.t 7), none⟩,
    ⟨some 9, .bin .lss .num (.t 6) (.t 8), none⟩] [1, 2, 5, 9]) (.cond (.t 9) (.skip) (.exit 0))) (.seq (.block 1 (.seq (.region [⟨some 12, .mov (.t 1), none⟩,
    ⟨some 13, .mov (.t 5), none⟩,
    ⟨some 14, .idxa 3 (.t 12) (.t 13), none⟩,
    ⟨some 15, .fld 0 (.t 14), none⟩,
    ⟨some 16, .load false 1 (.t 15), none⟩,
    ⟨some 17, .not (.t 16), none⟩,
    ⟨some 18, .mov (.t 17), none⟩,
    ⟨some 19, .mov (.t 1), some (18, true)⟩,
    ⟨some 20, .mov (.t 5), some (18, true)⟩,
    ⟨some 21, .idxa 3 (.t 19) (.t 20), some (18, true)⟩,
    ⟨some 22, .fld 1 (.t 21), some (18, true)⟩,
    ⟨some 23, .load false 1 (.t 22), some (18, true)⟩,
    ⟨some 24, .fld 1 (.t 2), some (18, true)⟩,
    ⟨some 25, .load false 1 (.t 24), some (18, true)⟩,
    ⟨some 26, .bin .eql .num (.t 23) (.t 25), some (18, true)⟩,
    ⟨some 27, .pick (.t 18) (.t 26) (.c (.bool false)), none⟩,
    ⟨some 28, .mov (.t 27), none⟩,
    ⟨some 29, .mov (.t 1), some (28, true)⟩,
    ⟨some 30, .mov (.t 5), some (28, true)⟩,
    ⟨some 31, .idxa 3 (.t 29) (.t 30), some (28, true)⟩,
    ⟨some 32, .fld 2 (.t 31), some (28, true)⟩,
    ⟨some 33, .load false 1 (.t 32), some (28, true)⟩,
    ⟨some 34, .fld 2 (.t 2), some (28, true)⟩,
    ⟨some 35, .load false 1 (.t 34), some (28, true)⟩,
    ⟨some 36, .bin .eql .num (.t 33) (.t 35), some (28, true)⟩,
    ⟨some 37, .pick (.t 28) (.t 36) (.c (.bool false)), none⟩] [1, 2, 5, 37]) (.cond (.t 37) (.seq (.region [⟨some 4, .mov (.c (.bool true)), none⟩] [4]) (.ret)) (.skip)))) (.region [⟨some 10, .mov (.t 5), none⟩,
    ⟨some 11, .bin .add .num (.t 10) (.c (.int .i64 1)), none⟩,
    ⟨some 5, .mov (.t 11), none⟩] [1, 2, 5]))
def f_R08_within_l0 : ACode := f_R08_within_l0u
theorem f_R08_within_l0_eq (G : Nat → Option AFunc) (base : Nat) (e : Env) (s : St) : Run G base f_R08_within_l0 e s = Run G base f_R08_within_l0u e s := (rfl)
def f_R08_within : AFunc := ⟨2, .no, [.t 4],
  .seq (.region [⟨some 2, .box true 3 (.t 0), none⟩,
    ⟨some 4, .mov (.c (.bool false)), none⟩] [1, 2]) (.seq (.seq (.region [⟨some 5, .mov (.c (.int .i64 0)), none⟩] [1, 2, 5]) (.block 0 (.loop 0 [1, 2, 5] f_R08_within_l0))) (.seq (.region [⟨some 4, .mov (.c (.bool false)), none⟩] [4]) (.ret)))⟩
/-! fenland/fenlandref08.begins -/
def f_R08_begins : AFunc := ⟨2, .no, [.t 4],
  .seq (.region [⟨some 4, .mov (.c (.bool false)), none⟩] [0, 1]) (.seq (.region [⟨some 5, .mov (.t 0), none⟩,
    ⟨some 6, .len true (.t 5), none⟩,
    ⟨some 7, .mov (.t 1), none⟩,
    ⟨some 8, .len true (.t 7), none⟩,
    ⟨some 9, .bin .geq .num (.t 6) (.t 8), none⟩,
    ⟨some 10, .mov (.t 9), none⟩,
    ⟨some 11, .mov (.t 0), some (10, true)⟩,
    ⟨some 12, .mov (.t 1), some (10, true)⟩,
    ⟨some 13, .len true (.t 12), some (10, true)⟩,
    ⟨some 14, .sstr (.t 11) none (some (.t 13)), some (10, true)⟩,
    ⟨some 15, .mov (.t 1), some (10, true)⟩,
    ⟨some 16, .bin .eql .num (.t 14) (.t 15), some (10, true)⟩,
    ⟨some 17, .pick (.t 10) (.t 16) (.c (.bool false)), none⟩,
    ⟨some 4, .mov (.t 17), none⟩] [4]) (.ret))⟩
/-! fenland/fenlandref08.simple -/
def f_R08_simple : AFunc := ⟨2, .no, [.t 4],
  .seq (.region [⟨some 2, .box true 7 (.t 0), none⟩,
    ⟨some 3, .box true 3 (.t 1), none⟩,
    ⟨some 4, .mov (.c (.int .i64 0)), none⟩] [2, 3]) (.seq (.block 0 (.seq (.region [⟨some 6, .fld 0 (.t 2), none⟩,
    ⟨some 7, .load false 1 (.t 6), none⟩,
    ⟨some 8, .bin .eql .num (.t 7) (.c (.int .i64 4)), none⟩,
    ⟨some 5, .mov (.t 8), none⟩] [2, 3, 5]) (.cond (.t 5) (.seq (.region [⟨some 9, .fld 0 (.t 3), none⟩,
    ⟨some 10, .load false 1 (.t 9), none⟩,
    ⟨some 11, .call 0 77 [.t 10], none⟩,
    ⟨some 4, .mov (.t 11), none⟩] [4]) (.ret)) (.seq (.region [⟨some 13, .fld 0 (.t 3), none⟩,
    ⟨some 14, .load false 1 (.t 13), none⟩,
    ⟨some 12, .mov (.t 14), none⟩] [2, 3, 12]) (.cond (.t 12) (.seq (.region [⟨some 4, .mov (.c (.int .i64 2)), none⟩] [4]) (.ret)) (.seq (.region [⟨some 16, .fld 0 (.t 2), none⟩,
    ⟨some 17, .load false 1 (.t 16), none⟩,
    ⟨some 18, .bin .eql .num (.t 17) (.c (.int .i64 1)), none⟩,
    ⟨some 15, .mov (.t 18), none⟩] [2, 3, 15]) (.cond (.t 15) (.seq (.region [⟨some 19, .fld 1 (.t 3), none⟩,
    ⟨some 20, .load false 1 (.t 19), none⟩,
    ⟨some 21, .fld 2 (.t 2), none⟩,
    ⟨some 22, .load false 1 (.t 21), none⟩,
    ⟨some 23, .bin .geq .num (.t 20) (.t 22), none⟩,
    ⟨some 24, .mov (.t 23), none⟩,
    ⟨some 25, .fld 1 (.t 3), some (24, true)⟩,
    ⟨some 26, .load false 1 (.t 25), some (24, true)⟩,
    ⟨some 27, .fld 3 (.t 2), some (24, true)⟩,
    ⟨some 28, .load false 1 (.t 27), some (24, true)⟩,
    ⟨some 29, .bin .leq .num (.t 26) (.t 28), some (24, true)⟩,
    ⟨some 30, .pick (.t 24) (.t 29) (.c (.bool false)), none⟩,
    ⟨some 31, .call 0 77 [.t 30], none⟩,
    ⟨some 4, .mov (.t 31), none⟩] [4]) (.ret)) (.seq (.region [⟨some 33, .fld 0 (.t 2), none⟩,
    ⟨some 34, .load false 1 (.t 33), none⟩,
    ⟨some 35, .bin .eql .num (.t 34) (.c (.int .i64 2)), none⟩,
    ⟨some 32, .mov (.t 35), none⟩] [2, 3, 32]) (.cond (.t 32) (.seq (.region [⟨some 36, .load true 3 (.t 3), none⟩,
    ⟨some 37, .fld 4 (.t 2), none⟩,
    ⟨some 38, .load false 1 (.t 37), none⟩,
    ⟨some 39, .call 0 78 [.t 36, .t 38], none⟩,
    ⟨some 40, .call 0 77 [.t 39], none⟩,
    ⟨some 4, .mov (.t 40), none⟩] [4]) (.ret)) (.skip)))))))))) (.seq (.region [⟨some 41, .fld 2 (.t 3), none⟩,
    ⟨some 42, .load false 1 (.t 41), none⟩,
    ⟨some 43, .fld 5 (.t 2), none⟩,
    ⟨some 44, .load false 1 (.t 43), none⟩,
    ⟨some 45, .call 0 79 [.t 42, .t 44], none⟩,
    ⟨some 46, .call 0 77 [.t 45], none⟩,
    ⟨some 4, .mov (.t 46), none⟩] [4]) (.ret)))⟩
/-! fenland/fenlandref08.Value -/
def f_R08_Value_l0u : ACode := .seq (.seq (.region [⟨some 6, .mov (.t 5), none⟩,
    ⟨some 7, .fld 0 (.t 2), none⟩,
    ⟨some 8, .load false 1 (.t 7), none⟩,
    ⟨some 9, .len false (.t 8), none⟩,
    ⟨some 10, .bin .lss .num (.t 6) (.t 9), none⟩] [1, 2, 4, 5, 10]) (.cond (.t 10) (.skip) (.exit 0))) (.seq (.block 1 (.seq (.region [⟨some 13, .fld 0 (.t 2), none⟩,
    ⟨some 14, .load false 1 (.t 13), none⟩,
    ⟨some 15, .mov (.t 5), none⟩,
    ⟨some 16, .idxa 4 (.t 14) (.t 15), none⟩,
    ⟨some 17, .fld 0 (.t 16), none⟩,
    ⟨some 18, .load false 1 (.t 17), none⟩,
    ⟨some 19, .mov (.t 1), none⟩,
    ⟨some 20, .bin .eql .num (.t 18) (.t 19), none⟩] [1, 2, 4, 5, 20]) (.cond (.t 20) (.seq (.region [⟨some 21, .fld 0 (.t 2), none⟩,
    ⟨some 22, .load false 1 (.t 21), none⟩,
    ⟨some 23, .mov (.t 5), none⟩,
    ⟨some 24, .idxa 4 (.t 22) (.t 23), none⟩,
    ⟨some 25, .fld 1 (.t 24), none⟩,
    ⟨some 26, .load true 3 (.t 25), none⟩,
    ⟨none, .store 3 (.t 4) (.t 26), none⟩] [4]) (.ret)) (.skip)))) (.region [⟨some 11, .mov (.t 5), none⟩,
    ⟨some 12, .bin .add .num (.t 11) (.c (.int .i64 1)), none⟩,
    ⟨some 5, .mov (.t 12), none⟩] [1, 2, 4, 5]))
def f_R08_Value_l0 : ACode := f_R08_Value_l0u
theorem f_R08_Value_l0_eq (G : Nat → Option AFunc) (base : Nat) (e : Env) (s : St) : Run G base f_R08_Value_l0 e s = Run G base f_R08_Value_l0u e s := (rfl)
def f_R08_Value : AFunc := ⟨2, .no, [.cell 4 true 3],
  .seq (.region [⟨some 2, .box true 1 (.t 0), none⟩,
    ⟨some 4, .alloc [.bool false, .int .i64 0, .str ⟨#[]⟩] [], none⟩] [1, 2, 4]) (.seq (.seq (.region [⟨some 5, .mov (.c (.int .i64 0)), none⟩] [1, 2, 4, 5]) (.block 0 (.loop 1 [1, 2, 4, 5] f_R08_Value_l0))) (.seq (.region [⟨some 27, .build [.bool false, .int .i64 0, .str ⟨#[]⟩] [(0, 1, .c (.bool true))], none⟩,
    ⟨none, .store 3 (.t 4) (.t 27), none⟩] [4]) (.ret)))⟩
/-! fenland/fenlandref08.Eval -/
def f_R08_Eval_l0u : ACode := .seq (.seq (.region [⟨some 9, .mov (.t 7), none⟩,
    ⟨some 10, .fld 6 (.t 2), none⟩,
    ⟨some 11, .load false 1 (.t 10), none⟩,
    ⟨some 12, .len false (.t 11), none⟩,
    ⟨some 13, .bin .lss .num (.t 9) (.t 12), none⟩] [2, 3, 5, 6, 7, 13]) (.cond (.t 13) (.skip) (.exit 0))) (.seq (.block 1 (.seq (.region [⟨some 16, .fld 6 (.t 2), none⟩,
    ⟨some 17, .load false 1 (.t 16), none⟩,
    ⟨some 18, .mov (.t 7), none⟩,
    ⟨some 19, .idxa 7 (.t 17) (.t 18), none⟩,
    ⟨some 20, .load true 7 (.t 19), none⟩,
    ⟨some 21, .load true 1 (.t 3), none⟩,
    ⟨some 22, .call 0 80 [.t 20, .t 21], none⟩] [2, 3, 5, 6, 7, 22]) (.block 2 (.seq (.region [⟨some 24, .bin .eql .num (.t 22) (.c (.int .i64 1)), none⟩,
    ⟨some 23, .mov (.t 24), none⟩] [2, 3, 5, 6, 7, 22, 23]) (.cond (.t 23) (.region [⟨some 25, .mov (.t 5), none⟩,
    ⟨some 26, .bin .add .num (.t 25) (.c (.int .i64 1)), none⟩,
    ⟨some 5, .mov (.t 26), none⟩] [2, 3, 5, 6, 7]) (.seq (.region [⟨some 28, .bin .eql .num (.t 22) (.c (.int .i64 0)), none⟩,
    ⟨some 27, .mov (.t 28), none⟩] [2, 3, 5, 6, 7, 27]) (.cond (.t 27) (.region [⟨some 29, .mov (.t 6), none⟩,
    ⟨some 30, .bin .add .num (.t 29) (.c (.int .i64 1)), none⟩,
    ⟨some 6, .mov (.t 30), none⟩] [2, 3, 5, 6, 7]) (.skip)))))))) (.region [⟨some 14, .mov (.t 7), none⟩,
    ⟨some 15, .bin .add .num (.t 14) (.c (.int .i64 1)), none⟩,
    ⟨some 7, .mov (.t 15), none⟩] [2, 3, 5, 6, 7]))
def f_R08_Eval_l0 : ACode := f_R08_Eval_l0u
theorem f_R08_Eval_l0_eq (G : Nat → Option AFunc) (base : Nat) (e : Env) (s : St) : Run G base f_R08_Eval_l0 e s = Run G base f_R08_Eval_l0u e s := (rfl)
def f_R08_Eval : AFunc := ⟨2, .no, [.t 4],
  .seq (.region [⟨some 2, .box true 7 (.t 0), none⟩,
    ⟨some 3, .box true 1 (.t 1), none⟩,
    ⟨some 4, .mov (.c (.int .i64 0)), none⟩] [2, 3]) (.seq (.region [⟨some 5, .mov (.c (.int .i64 0)), none⟩,
    ⟨some 6, .mov (.c (.int .i64 0)), none⟩] [2, 3, 5, 6]) (.seq (.seq (.region [⟨some 7, .mov (.c (.int .i64 0)), none⟩] [2, 3, 5, 6, 7]) (.block 0 (.loop 0 [2, 3, 5, 6, 7] f_R08_Eval_l0))) (.seq (.region [⟨some 31, .fld 6 (.t 2), none⟩,
    ⟨some 32, .load false 1 (.t 31), none⟩,
    ⟨some 33, .len false (.t 32), none⟩,
    ⟨some 8, .mov (.t 33), none⟩] [2, 3, 5, 6, 8]) (.seq (.seq (.region [⟨some 34, .fld 0 (.t 2), none⟩,
    ⟨some 35, .load false 1 (.t 34), none⟩] [2, 3, 5, 6, 8, 35]) (.block 3 (.seq (.region [⟨some 37, .bin .eql .num (.t 35) (.c (.int .i64 0)), none⟩,
    ⟨some 36, .mov (.t 37), none⟩] [2, 3, 5, 6, 8, 35, 36]) (.cond (.t 36) (.seq (.region [⟨some 4, .mov (.c (.int .i64 1)), none⟩] [4]) (.ret)) (.seq (.seq (.region [⟨some 39, .bin .eql .num (.t 35) (.c (.int .i64 1)), none⟩,
    ⟨some 38, .mov (.t 39), none⟩] [2, 3, 5, 6, 8, 35, 38]) (.cond (.t 38) (.skip) (.seq (.region [⟨some 40, .bin .eql .num (.t 35) (.c (.int .i64 2)), none⟩,
    ⟨some 38, .mov (.t 40), none⟩] [2, 3, 5, 6, 8, 35, 38]) (.cond (.t 38) (.skip) (.seq (.region [⟨some 41, .bin .eql .num (.t 35) (.c (.int .i64 3)), none⟩,
    ⟨some 38, .mov (.t 41), none⟩] [2, 3, 5, 6, 8, 35, 38]) (.cond (.t 38) (.skip) (.region [⟨some 42, .bin .eql .num (.t 35) (.c (.int .i64 4)), none⟩,
    ⟨some 38, .mov (.t 42), none⟩] [2, 3, 5, 6, 8, 35, 38]))))))) (.cond (.t 38) (.seq (.dregion [⟨some 43, .load true 7 (.t 2), none⟩,
    ⟨some 44, .load true 1 (.t 3), none⟩,
    ⟨some 45, .fld 1 (.t 2), none⟩,
    ⟨some 46, .load false 1 (.t 45), none⟩,
    ⟨some 47, .call 0 81 [.t 44, .t 46], none⟩,
    ⟨some 48, .call 0 82 [.t 43, .t 47], none⟩,
    ⟨some 4, .mov (.t 48), none⟩] [(0, 4)] [4]) (.ret)) (.seq (.region [⟨some 50, .bin .eql .num (.t 35) (.c (.int .i64 5)), none⟩,
    ⟨some 49, .mov (.t 50), none⟩] [5, 6, 8, 35, 49]) (.cond (.t 49) (.seq (.region [⟨some 51, .mov (.t 6), none⟩,
    ⟨some 52, .bin .gtr .num (.t 51) (.c (.int .i64 0)), none⟩,
    ⟨some 53, .mov (.t 52), none⟩,
    ⟨some 54, .mov (.t 5), some (53, false)⟩,
    ⟨some 55, .mov (.t 8), some (53, false)⟩,
    ⟨some 56, .bin .eql .num (.t 54) (.t 55), some (53, false)⟩,
    ⟨some 57, .pick (.t 53) (.c (.bool true)) (.t 56), none⟩] [6, 57]) (.cond (.t 57) (.seq (.region [⟨some 58, .mov (.t 6), none⟩,
    ⟨some 59, .bin .eql .num (.t 58) (.c (.int .i64 0)), none⟩,
    ⟨some 60, .call 0 77 [.t 59], none⟩,
    ⟨some 4, .mov (.t 60), none⟩] [4]) (.ret)) (.skip))) (.seq (.region [⟨some 62, .bin .eql .num (.t 35) (.c (.int .i64 6)), none⟩,
    ⟨some 61, .mov (.t 62), none⟩] [5, 6, 8, 35, 61]) (.cond (.t 61) (.seq (.region [⟨some 63, .mov (.t 5), none⟩,
    ⟨some 64, .bin .gtr .num (.t 63) (.c (.int .i64 0)), none⟩,
    ⟨some 65, .mov (.t 64), none⟩,
    ⟨some 66, .mov (.t 6), some (65, false)⟩,
    ⟨some 67, .mov (.t 8), some (65, false)⟩,
    ⟨some 68, .bin .eql .num (.t 66) (.t 67), some (65, false)⟩,
    ⟨some 69, .pick (.t 65) (.c (.bool true)) (.t 68), none⟩] [5, 69]) (.cond (.t 69) (.seq (.region [⟨some 70, .mov (.t 5), none⟩,
    ⟨some 71, .bin .gtr .num (.t 70) (.c (.int .i64 0)), none⟩,
    ⟨some 72, .call 0 77 [.t 71], none⟩,
    ⟨some 4, .mov (.t 72), none⟩] [4]) (.ret)) (.skip))) (.seq (.region [⟨some 74, .bin .eql .num (.t 35) (.c (.int .i64 7)), none⟩,
    ⟨some 73, .mov (.t 74), none⟩] [5, 6, 8, 73]) (.cond (.t 73) (.seq (.region [⟨some 75, .mov (.t 8), none⟩,
    ⟨some 76, .bin .eql .num (.t 75) (.c (.int .i64 1)), none⟩,
    ⟨some 77, .mov (.t 76), none⟩,
    ⟨some 78, .mov (.t 5), some (77, true)⟩,
    ⟨some 79, .mov (.t 6), some (77, true)⟩,
    ⟨some 80, .bin .add .num (.t 78) (.t 79), some (77, true)⟩,
    ⟨some 81, .bin .eql .num (.t 80) (.c (.int .i64 1)), some (77, true)⟩,
    ⟨some 82, .pick (.t 77) (.t 81) (.c (.bool false)), none⟩] [6, 82]) (.cond (.t 82) (.seq (.region [⟨some 83, .mov (.t 6), none⟩,
    ⟨some 84, .bin .eql .num (.t 83) (.c (.int .i64 1)), none⟩,
    ⟨some 85, .call 0 77 [.t 84], none⟩,
    ⟨some 4, .mov (.t 85), none⟩] [4]) (.ret)) (.skip))) (.skip))))))))))))) (.seq (.region [⟨some 4, .mov (.c (.int .i64 2)), none⟩] [4]) (.ret))))))⟩
/-! fenland/fenlandref08.Match -/
def f_R08_Match : AFunc := ⟨2, .no, [.t 4],
  .seq (.region [⟨some 2, .box true 7 (.t 0), none⟩,
    ⟨some 3, .box true 1 (.t 1), none⟩,
    ⟨some 4, .mov (.c (.bool false)), none⟩] [2, 3]) (.seq (.region [⟨some 5, .load true 7 (.t 2), none⟩,
    ⟨some 6, .load true 1 (.t 3), none⟩,
    ⟨some 7, .call 0 80 [.t 5, .t 6], none⟩,
    ⟨some 8, .bin .eql .num (.t 7) (.c (.int .i64 1)), none⟩,
    ⟨some 4, .mov (.t 8), none⟩] [4]) (.ret))⟩
/-! fenland/fenlandref06.Get -/
def f_R06_Get_l0u : ACode := .seq (.seq (.region [⟨some 6, .mov (.t 5), none⟩,
    ⟨some 7, .fld 0 (.t 2), none⟩,
    ⟨some 8, .load false 1 (.t 7), none⟩,
    ⟨some 9, .len false (.t 8), none⟩,
    ⟨some 10, .bin .lss .num (.t 6) (.t 9), none⟩] [1, 2, 4, 5, 10]) (.cond (.t 10) (.skip) (.exit 0))) (.seq (.block 1 (.seq (.region [⟨some 13, .fld 0 (.t 2), none⟩,
    ⟨some 14, .load false 1 (.t 13), none⟩,
    ⟨some 15, .mov (.t 5), none⟩,
    ⟨some 16, .idxa 4 (.t 14) (.t 15), none⟩,
    ⟨some 17, .fld 0 (.t 16), none⟩,
    ⟨some 18, .load false 1 (.t 17), none⟩,
    ⟨some 19, .mov (.t 1), none⟩,
    ⟨some 20, .bin .eql .num (.t 18) (.t 19), none⟩] [1, 2, 4, 5, 20]) (.cond (.t 20) (.seq (.region [⟨some 21, .fld 0 (.t 2), none⟩,
    ⟨some 22, .load false 1 (.t 21), none⟩,
    ⟨some 23, .mov (.t 5), none⟩,
    ⟨some 24, .idxa 4 (.t 22) (.t 23), none⟩,
    ⟨some 25, .fld 1 (.t 24), none⟩,
    ⟨some 26, .load true 3 (.t 25), none⟩,
    ⟨none, .store 3 (.t 4) (.t 26), none⟩] [4]) (.ret)) (.skip)))) (.region [⟨some 11, .mov (.t 5), none⟩,
    ⟨some 12, .bin .add .num (.t 11) (.c (.int .i64 1)), none⟩,
    ⟨some 5, .mov (.t 12), none⟩] [1, 2, 4, 5]))
def f_R06_Get_l0 : ACode := f_R06_Get_l0u
theorem f_R06_Get_l0_eq (G : Nat → Option AFunc) (base : Nat) (e : Env) (s : St) : Run G base f_R06_Get_l0 e s = Run G base f_R06_Get_l0u e s := (rfl)
def f_R06_Get : AFunc := ⟨2, .no, [.cell 4 true 3],
  .seq (.region [⟨some 2, .box true 1 (.t 0), none⟩,
    ⟨some 4, .alloc [.bool false, .int .i64 0, .str ⟨#[]⟩] [], none⟩] [1, 2, 4]) (.seq (.seq (.region [⟨some 5, .mov (.c (.int .i64 0)), none⟩] [1, 2, 4, 5]) (.block 0 (.loop 1 [1, 2, 4, 5] f_R06_Get_l0))) (.seq (.region [⟨some 27, .build [.bool false, .int .i64 0, .str ⟨#[]⟩] [(0, 1, .c (.bool true))], none⟩,
    ⟨none, .store 3 (.t 4) (.t 27), none⟩] [4]) (.ret)))⟩
/-! fenland/fenlandref27.Sum -/
def f_R27_Sum_l0u : ACode := .seq (.seq (.region [⟨some 8, .mov (.t 6), none⟩,
    ⟨some 9, .fld 1 (.t 3), none⟩,
    ⟨some 10, .load false 1 (.t 9), none⟩,
    ⟨some 11, .len false (.t 10), none⟩,
    ⟨some 12, .bin .lss .num (.t 8) (.t 11), none⟩] [2, 3, 5, 6, 12]) (.cond (.t 12) (.skip) (.exit 0))) (.seq (.block 1 (.seq (.dregion [⟨some 15, .fld 1 (.t 3), none⟩,
    ⟨some 16, .load false 1 (.t 15), none⟩,
    ⟨some 17, .mov (.t 6), none⟩,
    ⟨some 18, .idxa 2 (.t 16) (.t 17), none⟩,
    ⟨some 19, .fld 1 (.t 18), none⟩,
    ⟨some 20, .load true 1 (.t 19), none⟩,
    ⟨some 21, .fld 7 (.t 2), none⟩,
    ⟨some 22, .load false 1 (.t 21), none⟩,
    ⟨some 23, .call 0 84 [.t 20, .t 22], none⟩,
    ⟨some 7, .alloc [.bool false, .int .i64 0, .str ⟨#[]⟩] [], none⟩,
    ⟨none, .store 3 (.t 7) (.t 23), none⟩] [(8, 9)] [2, 3, 5, 6, 7]) (.seq (.region [⟨some 24, .fld 0 (.t 2), none⟩,
    ⟨some 25, .load true 7 (.t 24), none⟩,
    ⟨some 26, .fld 1 (.t 3), none⟩,
    ⟨some 27, .load false 1 (.t 26), none⟩,
    ⟨some 28, .mov (.t 6), none⟩,
    ⟨some 29, .idxa 2 (.t 27) (.t 28), none⟩,
    ⟨some 30, .fld 1 (.t 29), none⟩,
    ⟨some 31, .load true 1 (.t 30), none⟩,
    ⟨some 32, .call 0 83 [.t 25, .t 31], none⟩,
    ⟨some 33, .mov (.t 32), none⟩,
    ⟨some 34, .fld 0 (.t 7), some (33, true)⟩,
    ⟨some 35, .load false 1 (.t 34), some (33, true)⟩,
    ⟨some 36, .not (.t 35), some (33, true)⟩,
    ⟨some 37, .pick (.t 33) (.t 36) (.c (.bool false)), none⟩] [2, 3, 5, 6, 7, 37]) (.cond (.t 37) (.region [⟨some 38, .mov (.t 5), none⟩,
    ⟨some 39, .fld 1 (.t 7), none⟩,
    ⟨some 40, .load false 1 (.t 39), none⟩,
    ⟨some 41, .bin .add .num (.t 38) (.t 40), none⟩,
    ⟨some 5, .mov (.t 41), none⟩] [2, 3, 5, 6]) (.skip))))) (.region [⟨some 13, .mov (.t 6), none⟩,
    ⟨some 14, .bin .add .num (.t 13) (.c (.int .i64 1)), none⟩,
    ⟨some 6, .mov (.t 14), none⟩] [2, 3, 5, 6]))
def f_R27_Sum_l0 : ACode := f_R27_Sum_l0u
theorem f_R27_Sum_l0_eq (G : Nat → Option AFunc) (base : Nat) (e : Env) (s : St) : Run G base f_R27_Sum_l0 e s = Run G base f_R27_Sum_l0u e s := (rfl)
def f_R27_Sum : AFunc := ⟨2, .no, [.t 4],
  .seq (.region [⟨some 2, .box true 10 (.t 0), none⟩,
    ⟨some 3, .box true 2 (.t 1), none⟩,
    ⟨some 4, .mov (.c (.int .i64 0)), none⟩] [2, 3]) (.seq (.region [⟨some 5, .mov (.c (.int .i64 0)), none⟩] [2, 3, 5]) (.seq (.seq (.region [⟨some 6, .mov (.c (.int .i64 0)), none⟩] [2, 3, 5, 6]) (.block 0 (.loop 0 [2, 3, 5, 6] f_R27_Sum_l0))) (.seq (.region [⟨some 42, .mov (.t 5), none⟩,
    ⟨some 4, .mov (.t 42), none⟩] [4]) (.ret))))⟩
/-! fenland/fenlandref27.Check -/
def f_R27_Check_l0u : ACode := .seq (.seq (.region [⟨some 8, .mov (.t 6), none⟩,
    ⟨some 9, .fld 15 (.t 2), none⟩,
    ⟨some 10, .load false 1 (.t 9), none⟩,
    ⟨some 11, .len false (.t 10), none⟩,
    ⟨some 12, .bin .lss .num (.t 8) (.t 11), none⟩] [2, 3, 6, 12]) (.cond (.t 12) (.skip) (.exit 0))) (.seq (.block 1 (.seq (.region [⟨some 15, .fld 15 (.t 2), none⟩,
    ⟨some 16, .load false 1 (.t 15), none⟩,
    ⟨some 17, .mov (.t 6), none⟩,
    ⟨some 18, .idxa 10 (.t 16) (.t 17), none⟩,
    ⟨some 19, .load true 10 (.t 18), none⟩,
    ⟨some 20, .load true 2 (.t 3), none⟩,
    ⟨some 21, .call 0 85 [.t 19, .t 20], none⟩,
    ⟨some 7, .mov (.t 21), none⟩] [2, 3, 6, 7]) (.seq (.region [⟨some 22, .mov (.t 7), none⟩,
    ⟨some 23, .fld 15 (.t 2), none⟩,
    ⟨some 24, .load false 1 (.t 23), none⟩,
    ⟨some 25, .mov (.t 6), none⟩,
    ⟨some 26, .idxa 10 (.t 24) (.t 25), none⟩,
    ⟨some 27, .fld 8 (.t 26), none⟩,
    ⟨some 28, .load false 1 (.t 27), none⟩,
    ⟨some 29, .bin .lss .num (.t 22) (.t 28), none⟩,
    ⟨some 30, .mov (.t 29), none⟩,
    ⟨some 31, .mov (.t 7), some (30, false)⟩,
    ⟨some 32, .fld 15 (.t 2), some (30, false)⟩,
    ⟨some 33, .load false 1 (.t 32), some (30, false)⟩,
    ⟨some 34, .mov (.t 6), some (30, false)⟩,
    ⟨some 35, .idxa 10 (.t 33) (.t 34), some (30, false)⟩,
    ⟨some 36, .fld 9 (.t 35), some (30, false)⟩,
    ⟨some 37, .load false 1 (.t 36), some (30, false)⟩,
    ⟨some 38, .bin .gtr .num (.t 31) (.t 37), some (30, false)⟩,
    ⟨some 39, .pick (.t 30) (.c (.bool true)) (.t 38), none⟩] [2, 3, 6, 39]) (.cond (.t 39) (.seq (.region [⟨some 40, .mov (.t 6), none⟩,
    ⟨some 4, .mov (.t 40), none⟩,
    ⟨some 5, .mov (.c (.int .i64 270)), none⟩] [4, 5]) (.ret)) (.skip))))) (.region [⟨some 13, .mov (.t 6), none⟩,
    ⟨some 14, .bin .add .num (.t 13) (.c (.int .i64 1)), none⟩,
    ⟨some 6, .mov (.t 14), none⟩] [2, 3, 6]))
def f_R27_Check_l0 : ACode := f_R27_Check_l0u
theorem f_R27_Check_l0_eq (G : Nat → Option AFunc) (base : Nat) (e : Env) (s : St) : Run G base f_R27_Check_l0 e s = Run G base f_R27_Check_l0u e s := (rfl)
def f_R27_Check : AFunc := ⟨2, .no, [.t 4, .t 5],
  .seq (.region [⟨some 2, .box true 16 (.t 0), none⟩,
    ⟨some 3, .box true 2 (.t 1), none⟩,
    ⟨some 4, .mov (.c (.int .i64 0)), none⟩,
    ⟨some 5, .mov (.c (.int .i64 0)), none⟩] [2, 3]) (.seq (.seq (.region [⟨some 6, .mov (.c (.int .i64 0)), none⟩] [2, 3, 6]) (.block 0 (.loop 0 [2, 3, 6] f_R27_Check_l0))) (.seq (.region [⟨some 41, .fld 15 (.t 2), none⟩,
    ⟨some 42, .load false 1 (.t 41), none⟩,
    ⟨some 43, .len false (.t 42), none⟩,
    ⟨some 4, .mov (.t 43), none⟩,
    ⟨some 5, .mov (.c (.int .i64 0)), none⟩] [4, 5]) (.ret)))⟩
/-! fenland/fenlandref27.Run -/
def f_R27_Run_l1u : ACode := .seq (.seq (.region [⟨some 51, .mov (.t 10), none⟩,
    ⟨some 52, .fld 14 (.t 2), none⟩,
    ⟨some 53, .load false 1 (.t 52), none⟩,
    ⟨some 54, .len false (.t 53), none⟩,
    ⟨some 55, .bin .lss .num (.t 51) (.t 54), none⟩] [2, 4, 8, 10, 55]) (.cond (.t 55) (.skip) (.exit 2))) (.seq (.block 3 (.seq (.region [⟨some 58, .fld 1 (.t 8), none⟩,
    ⟨some 59, .load false 1 (.t 58), none⟩,
    ⟨some 60, .fld 0 (.t 8), none⟩,
    ⟨some 61, .load false 1 (.t 60), none⟩,
    ⟨some 62, .fld 14 (.t 2), none⟩,
    ⟨some 63, .load false 1 (.t 62), none⟩,
    ⟨some 64, .mov (.t 10), none⟩,
    ⟨some 65, .idxa 1 (.t 63) (.t 64), none⟩,
    ⟨some 66, .load true 1 (.t 65), none⟩,
    ⟨some 67, .build [.int .i64 0, .nils] [(0, 1, .t 61), (1, 1, .t 66)], none⟩,
    ⟨some 68, .lit false 2 [.int .i64 0, .nils] 1 [(0, .t 67)], none⟩,
    ⟨some 69, .append true 2 32 (.t 59) (.t 68), none⟩,
    ⟨some 70, .fld 1 (.t 8), none⟩,
    ⟨none, .store 1 (.t 70) (.t 69), none⟩] [2, 4, 8, 10]) (.region [⟨some 71, .fld 0 (.t 8), none⟩,
    ⟨some 72, .load false 1 (.t 71), none⟩,
    ⟨some 73, .bin .add .num (.t 72) (.c (.int .i64 1)), none⟩,
    ⟨some 74, .fld 0 (.t 8), none⟩,
    ⟨none, .store 1 (.t 74) (.t 73), none⟩] [2, 4, 8, 10]))) (.region [⟨some 56, .mov (.t 10), none⟩,
    ⟨some 57, .bin .add .num (.t 56) (.c (.int .i64 1)), none⟩,
    ⟨some 10, .mov (.t 57), none⟩] [2, 4, 8, 10]))
def f_R27_Run_l1 : ACode := f_R27_Run_l1u
theorem f_R27_Run_l1_eq (G : Nat → Option AFunc) (base : Nat) (e : Env) (s : St) : Run G base f_R27_Run_l1 e s = Run G base f_R27_Run_l1u e s := (rfl)
def f_R27_Run_l0u : ACode := .seq (.seq (.region [⟨some 24, .mov (.t 9), none⟩,
    ⟨some 25, .fld 1 (.t 3), none⟩,
    ⟨some 26, .load false 1 (.t 25), none⟩,
    ⟨some 27, .len false (.t 26), none⟩,
    ⟨some 28, .bin .lss .num (.t 24) (.t 27), none⟩] [2, 3, 4, 8, 9, 28]) (.cond (.t 28) (.skip) (.exit 0))) (.seq (.block 1 (.seq (.region [⟨some 31, .fld 7 (.t 2), none⟩,
    ⟨some 32, .load true 7 (.t 31), none⟩,
    ⟨some 33, .fld 1 (.t 3), none⟩,
    ⟨some 34, .load false 1 (.t 33), none⟩,
    ⟨some 35, .mov (.t 9), none⟩,
    ⟨some 36, .idxa 2 (.t 34) (.t 35), none⟩,
    ⟨some 37, .fld 1 (.t 36), none⟩,
    ⟨some 38, .load true 1 (.t 37), none⟩,
    ⟨some 39, .call 0 83 [.t 32, .t 38], none⟩,
    ⟨some 40, .not (.t 39), none⟩] [2, 3, 4, 8, 9, 40]) (.cond (.t 40) (.region [⟨some 41, .fld 1 (.t 8), none⟩,
    ⟨some 42, .load false 1 (.t 41), none⟩,
    ⟨some 43, .fld 1 (.t 3), none⟩,
    ⟨some 44, .load false 1 (.t 43), none⟩,
    ⟨some 45, .mov (.t 9), none⟩,
    ⟨some 46, .idxa 2 (.t 44) (.t 45), none⟩,
    ⟨some 47, .load true 2 (.t 46), none⟩,
    ⟨some 48, .lit false 2 [.int .i64 0, .nils] 1 [(0, .t 47)], none⟩,
    ⟨some 49, .append true 2 32 (.t 42) (.t 48), none⟩,
    ⟨some 50, .fld 1 (.t 8), none⟩,
    ⟨none, .store 1 (.t 50) (.t 49), none⟩] [2, 3, 4, 8, 9]) (.skip)))) (.region [⟨some 29, .mov (.t 9), none⟩,
    ⟨some 30, .bin .add .num (.t 29) (.c (.int .i64 1)), none⟩,
    ⟨some 9, .mov (.t 30), none⟩] [2, 3, 4, 8, 9]))
def f_R27_Run_l0 : ACode := f_R27_Run_l0u
theorem f_R27_Run_l0_eq (G : Nat → Option AFunc) (base : Nat) (e : Env) (s : St) : Run G base f_R27_Run_l0 e s = Run G base f_R27_Run_l0u e s := (rfl)
def f_R27_Run : AFunc := ⟨2, .no, [.cell 4 true 2, .t 5],
  .seq (.region [⟨some 2, .box true 16 (.t 0), none⟩,
    ⟨some 3, .box true 2 (.t 1), none⟩,
    ⟨some 4, .alloc [.int .i64 0, .nils] [], none⟩,
    ⟨some 5, .mov (.c (.int .i64 0)), none⟩] [2, 3, 4]) (.seq (.region [⟨some 12, .load true 16 (.t 2), none⟩,
    ⟨some 13, .load true 2 (.t 3), none⟩,
    ⟨some 14, .call 0 86 [.t 12, .t 13], none⟩,
    ⟨some 11, .mov (.t 14), none⟩,
    ⟨some 15, .extract (.t 11) 0, none⟩,
    ⟨some 16, .extract (.t 11) 1, none⟩,
    ⟨some 6, .mov (.t 15), none⟩,
    ⟨some 7, .mov (.t 16), none⟩] [2, 3, 4, 7]) (.seq (.seq (.region [⟨some 17, .mov (.t 7), none⟩,
    ⟨some 18, .bin .neq .num (.t 17) (.c (.int .i64 0)), none⟩] [2, 3, 4, 7, 18]) (.cond (.t 18) (.seq (.region [⟨some 19, .build [.int .i64 0, .nils] [], none⟩,
    ⟨some 20, .mov (.t 7), none⟩,
    ⟨none, .store 2 (.t 4) (.t 19), none⟩,
    ⟨some 5, .mov (.t 20), none⟩] [4, 5]) (.ret)) (.skip))) (.seq (.region [⟨some 21, .fld 0 (.t 3), none⟩,
    ⟨some 22, .load false 1 (.t 21), none⟩,
    ⟨some 23, .buildp [.int .i64 0, .nils] [(0, 1, .t 22)] [(1, 2)], none⟩,
    ⟨some 8, .alloc [.int .i64 0, .nils] [], none⟩,
    ⟨none, .store 2 (.t 8) (.t 23), none⟩] [2, 3, 4, 8]) (.seq (.seq (.region [⟨some 9, .mov (.c (.int .i64 0)), none⟩] [2, 3, 4, 8, 9]) (.block 0 (.loop 3 [2, 3, 4, 8, 9] f_R27_Run_l0))) (.seq (.seq (.region [⟨some 10, .mov (.c (.int .i64 0)), none⟩] [2, 4, 8, 10]) (.block 2 (.loop 3 [2, 4, 8, 10] f_R27_Run_l1))) (.seq (.seq (.region [⟨some 75, .fld 1 (.t 8), none⟩,
    ⟨some 76, .load false 1 (.t 75), none⟩,
    ⟨some 77, .len false (.t 76), none⟩,
    ⟨some 78, .bin .gtr .num (.t 77) (.c (.int .i64 4096)), none⟩,
    ⟨some 79, .mov (.t 78), none⟩,
    ⟨some 80, .fld 0 (.t 8), some (79, false)⟩,
    ⟨some 81, .load false 1 (.t 80), some (79, false)⟩,
    ⟨some 82, .bin .gtr .num (.t 81) (.c (.int .i64 4611686018427387904)), some (79, false)⟩,
    ⟨some 83, .pick (.t 79) (.c (.bool true)) (.t 82), none⟩] [4, 8, 83]) (.cond (.t 83) (.seq (.region [⟨some 84, .build [.int .i64 0, .nils] [], none⟩,
    ⟨none, .store 2 (.t 4) (.t 84), none⟩,
    ⟨some 5, .mov (.c (.int .i64 2)), none⟩] [4, 5]) (.ret)) (.skip))) (.seq (.region [⟨some 85, .load true 2 (.t 8), none⟩,
    ⟨none, .store 2 (.t 4) (.t 85), none⟩,
    ⟨some 5, .mov (.c (.int .i64 0)), none⟩] [4, 5]) (.ret))))))))⟩
/-! fenland/fenlandref30.Events -/
def f_R30_Events_l1u : ACode := .seq (.seq (.region [⟨some 34, .mov (.t 7), none⟩,
    ⟨some 35, .fld 1 (.t 3), none⟩,
    ⟨some 36, .load false 1 (.t 35), none⟩,
    ⟨some 37, .len false (.t 36), none⟩,
    ⟨some 38, .bin .lss .num (.t 34) (.t 37), none⟩] [2, 3, 5, 7, 38]) (.cond (.t 38) (.skip) (.exit 2))) (.seq (.block 3 (.seq (.region [⟨some 41, .load true 2 (.t 2), none⟩,
    ⟨some 42, .load true 2 (.t 3), none⟩,
    ⟨some 43, .fld 1 (.t 3), none⟩,
    ⟨some 44, .load false 1 (.t 43), none⟩,
    ⟨some 45, .mov (.t 7), none⟩,
    ⟨some 46, .idxa 2 (.t 44) (.t 45), none⟩,
    ⟨some 47, .fld 0 (.t 46), none⟩,
    ⟨some 48, .load false 1 (.t 47), none⟩,
    ⟨some 49, .call 0 139 [.t 41, .t 42, .t 48], none⟩,
    ⟨some 50, .not (.t 49), none⟩] [2, 3, 5, 7, 50]) (.cond (.t 50) (.region [⟨some 51, .mov (.t 5), none⟩,
    ⟨some 52, .fld 1 (.t 3), none⟩,
    ⟨some 53, .load false 1 (.t 52), none⟩,
    ⟨some 54, .mov (.t 7), none⟩,
    ⟨some 55, .idxa 2 (.t 53) (.t 54), none⟩,
    ⟨some 56, .load true 2 (.t 55), none⟩,
    ⟨some 57, .lit false 2 [.int .i64 0, .nils] 1 [(0, .t 56)], none⟩,
    ⟨some 58, .append true 2 32 (.t 51) (.t 57), none⟩,
    ⟨some 5, .mov (.t 58), none⟩] [2, 3, 5, 7]) (.skip)))) (.region [⟨some 39, .mov (.t 7), none⟩,
    ⟨some 40, .bin .add .num (.t 39) (.c (.int .i64 1)), none⟩,
    ⟨some 7, .mov (.t 40), none⟩] [2, 3, 5, 7]))
def f_R30_Events_l1 : ACode := f_R30_Events_l1u
theorem f_R30_Events_l1_eq (G : Nat → Option AFunc) (base : Nat) (e : Env) (s : St) : Run G base f_R30_Events_l1 e s = Run G base f_R30_Events_l1u e s := (rfl)
def f_R30_Events_l0u : ACode := .seq (.seq (.region [⟨some 9, .mov (.t 6), none⟩,
    ⟨some 10, .fld 1 (.t 2), none⟩,
    ⟨some 11, .load false 1 (.t 10), none⟩,
    ⟨some 12, .len false (.t 11), none⟩,
    ⟨some 13, .bin .lss .num (.t 9) (.t 12), none⟩] [2, 3, 5, 6, 13]) (.cond (.t 13) (.skip) (.exit 0))) (.seq (.block 1 (.seq (.region [⟨some 16, .load true 2 (.t 2), none⟩,
    ⟨some 17, .load true 2 (.t 3), none⟩,
    ⟨some 18, .fld 1 (.t 2), none⟩,
    ⟨some 19, .load false 1 (.t 18), none⟩,
    ⟨some 20, .mov (.t 6), none⟩,
    ⟨some 21, .idxa 2 (.t 19) (.t 20), none⟩,
    ⟨some 22, .fld 0 (.t 21), none⟩,
    ⟨some 23, .load false 1 (.t 22), none⟩,
    ⟨some 24, .call 0 139 [.t 16, .t 17, .t 23], none⟩,
    ⟨some 25, .not (.t 24), none⟩] [2, 3, 5, 6, 25]) (.cond (.t 25) (.region [⟨some 26, .mov (.t 5), none⟩,
    ⟨some 27, .fld 1 (.t 2), none⟩,
    ⟨some 28, .load false 1 (.t 27), none⟩,
    ⟨some 29, .mov (.t 6), none⟩,
    ⟨some 30, .idxa 2 (.t 28) (.t 29), none⟩,
    ⟨some 31, .load true 2 (.t 30), none⟩,
    ⟨some 32, .lit false 2 [.int .i64 0, .nils] 1 [(0, .t 31)], none⟩,
    ⟨some 33, .append true 2 32 (.t 26) (.t 32), none⟩,
    ⟨some 5, .mov (.t 33), none⟩] [2, 3, 5, 6]) (.skip)))) (.region [⟨some 14, .mov (.t 6), none⟩,
    ⟨some 15, .bin .add .num (.t 14) (.c (.int .i64 1)), none⟩,
    ⟨some 6, .mov (.t 15), none⟩] [2, 3, 5, 6]))
def f_R30_Events_l0 : ACode := f_R30_Events_l0u
theorem f_R30_Events_l0_eq (G : Nat → Option AFunc) (base : Nat) (e : Env) (s : St) : Run G base f_R30_Events_l0 e s = Run G base f_R30_Events_l0u e s := (rfl)
def f_R30_Events : AFunc := ⟨2, .no, [.t 4],
  .seq (.region [⟨some 2, .box true 2 (.t 0), none⟩,
    ⟨some 3, .box true 2 (.t 1), none⟩,
    ⟨some 4, .mov (.c .nils), none⟩] [2, 3]) (.seq (.region [⟨some 8, .lit true 2 [.int .i64 0, .nils] 0 [], none⟩,
    ⟨some 5, .mov (.t 8), none⟩] [2, 3, 5]) (.seq (.seq (.region [⟨some 6, .mov (.c (.int .i64 0)), none⟩] [2, 3, 5, 6]) (.block 0 (.loop 1 [2, 3, 5, 6] f_R30_Events_l0))) (.seq (.seq (.region [⟨some 7, .mov (.c (.int .i64 0)), none⟩] [2, 3, 5, 7]) (.block 2 (.loop 1 [2, 3, 5, 7] f_R30_Events_l1))) (.seq (.region [⟨some 59, .mov (.t 5), none⟩,
    ⟨some 4, .mov (.t 59), none⟩] [4]) (.ret)))))⟩
/-! fenland/fenlandref30.Reads -/
def f_R30_Reads_l0u : ACode := .seq (.seq (.region [⟨some 6, .mov (.t 5), none⟩,
    ⟨some 7, .mov (.t 1), none⟩,
    ⟨some 8, .len false (.t 7), none⟩,
    ⟨some 9, .bin .lss .num (.t 6) (.t 8), none⟩] [1, 2, 5, 9]) (.cond (.t 9) (.skip) (.exit 0))) (.seq (.block 1 (.seq (.region [⟨some 12, .fld 0 (.t 2), none⟩,
    ⟨some 13, .load true 7 (.t 12), none⟩,
    ⟨some 14, .mov (.t 1), none⟩,
    ⟨some 15, .mov (.t 5), none⟩,
    ⟨some 16, .idxa 2 (.t 14) (.t 15), none⟩,
    ⟨some 17, .fld 1 (.t 16), none⟩,
    ⟨some 18, .load true 1 (.t 17), none⟩,
    ⟨some 19, .call 0 83 [.t 13, .t 18], none⟩] [1, 2, 5, 19]) (.cond (.t 19) (.seq (.region [⟨some 4, .mov (.c (.bool true)), none⟩] [4]) (.ret)) (.skip)))) (.region [⟨some 10, .mov (.t 5), none⟩,
    ⟨some 11, .bin .add .num (.t 10) (.c (.int .i64 1)), none⟩,
    ⟨some 5, .mov (.t 11), none⟩] [1, 2, 5]))
def f_R30_Reads_l0 : ACode := f_R30_Reads_l0u
theorem f_R30_Reads_l0_eq (G : Nat → Option AFunc) (base : Nat) (e : Env) (s : St) : Run G base f_R30_Reads_l0 e s = Run G base f_R30_Reads_l0u e s := (rfl)
def f_R30_Reads : AFunc := ⟨2, .no, [.t 4],
  .seq (.region [⟨some 2, .box true 16 (.t 0), none⟩,
    ⟨some 4, .mov (.c (.bool false)), none⟩] [1, 2]) (.seq (.seq (.region [⟨some 5, .mov (.c (.int .i64 0)), none⟩] [1, 2, 5]) (.block 0 (.loop 0 [1, 2, 5] f_R30_Reads_l0))) (.seq (.region [⟨some 4, .mov (.c (.bool false)), none⟩] [4]) (.ret)))⟩
/-! fenland/fenlandref30.Programs -/
def f_R30_Programs_l1u : ACode := .seq (.seq (.region [⟨some 43, .mov (.t 14), none⟩,
    ⟨some 44, .mov (.t 2), none⟩,
    ⟨some 45, .len false (.t 44), none⟩,
    ⟨some 46, .bin .lss .num (.t 43) (.t 45), none⟩] [1, 2, 6, 9, 13, 14, 46]) (.cond (.t 46) (.skip) (.exit 2))) (.seq (.block 3 (.seq (.region [⟨some 49, .mov (.t 2), none⟩,
    ⟨some 50, .mov (.t 14), none⟩,
    ⟨some 51, .idxa 16 (.t 49) (.t 50), none⟩,
    ⟨some 52, .load true 16 (.t 51), none⟩,
    ⟨some 53, .mov (.t 13), none⟩,
    ⟨some 54, .call 0 150 [.t 52, .t 53], none⟩,
    ⟨some 15, .mov (.t 54), none⟩] [1, 2, 6, 9, 13, 14, 15]) (.seq (.seq (.region [⟨some 55, .mov (.t 15), none⟩] [1, 2, 6, 9, 13, 14, 55]) (.cond (.t 55) (.seq (.region [⟨some 56, .build [.int .i64 0, .nils] [], none⟩,
    ⟨some 57, .mov (.t 1), none⟩,
    ⟨some 58, .len false (.t 57), none⟩,
    ⟨some 59, .mov (.t 14), none⟩,
    ⟨some 60, .bin .add .num (.t 58) (.t 59), none⟩,
    ⟨none, .store 2 (.t 6) (.t 56), none⟩,
    ⟨some 7, .mov (.t 60), none⟩,
    ⟨some 8, .mov (.c (.int .i64 280)), none⟩] [6, 7, 8]) (.ret)) (.skip))) (.seq (.dregion [⟨some 62, .mov (.t 2), none⟩,
    ⟨some 63, .mov (.t 14), none⟩,
    ⟨some 64, .idxa 16 (.t 62) (.t 63), none⟩,
    ⟨some 65, .load true 16 (.t 64), none⟩,
    ⟨some 66, .load true 2 (.t 9), none⟩,
    ⟨some 67, .call 0 92 [.t 65, .t 66], none⟩,
    ⟨some 61, .mov (.t 67), none⟩,
    ⟨some 68, .extract (.t 61) 0, none⟩,
    ⟨some 69, .extract (.t 61) 1, none⟩,
    ⟨some 16, .alloc [.int .i64 0, .nils] [], none⟩,
    ⟨none, .store 2 (.t 16) (.t 68), none⟩,
    ⟨some 17, .mov (.t 69), none⟩] [(5, 9)] [1, 2, 6, 9, 13, 14, 16, 17]) (.seq (.seq (.region [⟨some 70, .mov (.t 17), none⟩,
    ⟨some 71, .bin .neq .num (.t 70) (.c (.int .i64 0)), none⟩] [1, 2, 6, 9, 13, 14, 16, 17, 71]) (.cond (.t 71) (.seq (.region [⟨some 72, .build [.int .i64 0, .nils] [], none⟩,
    ⟨some 73, .mov (.t 1), none⟩,
    ⟨some 74, .len false (.t 73), none⟩,
    ⟨some 75, .mov (.t 14), none⟩,
    ⟨some 76, .bin .add .num (.t 74) (.t 75), none⟩,
    ⟨some 77, .mov (.t 17), none⟩,
    ⟨none, .store 2 (.t 6) (.t 72), none⟩,
    ⟨some 7, .mov (.t 76), none⟩,
    ⟨some 8, .mov (.t 77), none⟩] [6, 7, 8]) (.ret)) (.skip))) (.region [⟨some 78, .load true 2 (.t 16), none⟩,
    ⟨none, .store 2 (.t 9) (.t 78), none⟩] [1, 2, 6, 9, 13, 14])))))) (.region [⟨some 47, .mov (.t 14), none⟩,
    ⟨some 48, .bin .add .num (.t 47) (.c (.int .i64 1)), none⟩,
    ⟨some 14, .mov (.t 48), none⟩] [1, 2, 6, 9, 13, 14]))
def f_R30_Programs_l1 : ACode := f_R30_Programs_l1u
theorem f_R30_Programs_l1_eq (G : Nat → Option AFunc) (base : Nat) (e : Env) (s : St) : Run G base f_R30_Programs_l1 e s = Run G base f_R30_Programs_l1u e s := (rfl)
def f_R30_Programs_l0u : ACode := .seq (.seq (.region [⟨some 19, .mov (.t 10), none⟩,
    ⟨some 20, .mov (.t 1), none⟩,
    ⟨some 21, .len false (.t 20), none⟩,
    ⟨some 22, .bin .lss .num (.t 19) (.t 21), none⟩] [1, 2, 3, 6, 9, 10, 22]) (.cond (.t 22) (.skip) (.exit 0))) (.seq (.block 1 (.seq (.dregion [⟨some 26, .mov (.t 1), none⟩,
    ⟨some 27, .mov (.t 10), none⟩,
    ⟨some 28, .idxa 16 (.t 26) (.t 27), none⟩,
    ⟨some 29, .load true 16 (.t 28), none⟩,
    ⟨some 30, .load true 2 (.t 9), none⟩,
    ⟨some 31, .call 0 92 [.t 29, .t 30], none⟩,
    ⟨some 25, .mov (.t 31), none⟩,
    ⟨some 32, .extract (.t 25) 0, none⟩,
    ⟨some 33, .extract (.t 25) 1, none⟩,
    ⟨some 11, .alloc [.int .i64 0, .nils] [], none⟩,
    ⟨none, .store 2 (.t 11) (.t 32), none⟩,
    ⟨some 12, .mov (.t 33), none⟩] [(5, 9)] [1, 2, 3, 6, 9, 10, 11, 12]) (.seq (.seq (.region [⟨some 34, .mov (.t 12), none⟩,
    ⟨some 35, .bin .neq .num (.t 34) (.c (.int .i64 0)), none⟩] [1, 2, 3, 6, 9, 10, 11, 12, 35]) (.cond (.t 35) (.seq (.region [⟨some 36, .build [.int .i64 0, .nils] [], none⟩,
    ⟨some 37, .mov (.t 10), none⟩,
    ⟨some 38, .mov (.t 12), none⟩,
    ⟨none, .store 2 (.t 6) (.t 36), none⟩,
    ⟨some 7, .mov (.t 37), none⟩,
    ⟨some 8, .mov (.t 38), none⟩] [6, 7, 8]) (.ret)) (.skip))) (.region [⟨some 39, .load true 2 (.t 11), none⟩,
    ⟨none, .store 2 (.t 9) (.t 39), none⟩] [1, 2, 3, 6, 9, 10])))) (.region [⟨some 23, .mov (.t 10), none⟩,
    ⟨some 24, .bin .add .num (.t 23) (.c (.int .i64 1)), none⟩,
    ⟨some 10, .mov (.t 24), none⟩] [1, 2, 3, 6, 9, 10]))
def f_R30_Programs_l0 : ACode := f_R30_Programs_l0u
theorem f_R30_Programs_l0_eq (G : Nat → Option AFunc) (base : Nat) (e : Env) (s : St) : Run G base f_R30_Programs_l0 e s = Run G base f_R30_Programs_l0u e s := (rfl)
def f_R30_Programs : AFunc := ⟨3, .no, [.cell 6 true 2, .t 7, .t 8],
  .seq (.region [⟨some 3, .box true 2 (.t 0), none⟩,
    ⟨some 6, .alloc [.int .i64 0, .nils] [], none⟩,
    ⟨some 7, .mov (.c (.int .i64 0)), none⟩,
    ⟨some 8, .mov (.c (.int .i64 0)), none⟩] [1, 2, 3, 6]) (.seq (.region [⟨some 18, .load true 2 (.t 3), none⟩,
    ⟨some 9, .alloc [.int .i64 0, .nils] [], none⟩,
    ⟨none, .store 2 (.t 9) (.t 18), none⟩] [1, 2, 3, 6, 9]) (.seq (.seq (.region [⟨some 10, .mov (.c (.int .i64 0)), none⟩] [1, 2, 3, 6, 9, 10]) (.block 0 (.loop 2 [1, 2, 3, 6, 9, 10] f_R30_Programs_l0))) (.seq (.region [⟨some 40, .load true 2 (.t 3), none⟩,
    ⟨some 41, .load true 2 (.t 9), none⟩,
    ⟨some 42, .call 0 149 [.t 40, .t 41], none⟩,
    ⟨some 13, .mov (.t 42), none⟩] [1, 2, 6, 9, 13]) (.seq (.seq (.region [⟨some 14, .mov (.c (.int .i64 0)), none⟩] [1, 2, 6, 9, 13, 14]) (.block 2 (.loop 2 [1, 2, 6, 9, 13, 14] f_R30_Programs_l1))) (.seq (.region [⟨some 79, .load true 2 (.t 9), none⟩,
    ⟨some 80, .mov (.t 1), none⟩,
    ⟨some 81, .len false (.t 80), none⟩,
    ⟨some 82, .mov (.t 2), none⟩,
    ⟨some 83, .len false (.t 82), none⟩,
    ⟨some 84, .bin .add .num (.t 81) (.t 83), none⟩,
    ⟨none, .store 2 (.t 6) (.t 79), none⟩,
    ⟨some 7, .mov (.t 84), none⟩,
    ⟨some 8, .mov (.c (.int .i64 0)), none⟩] [6, 7, 8]) (.ret))))))⟩
/-! fenland/fenlandlaw30.MergeProgramsMatchesReference -/
def f_L30_MergeProgramsMatchesReference : AFunc := ⟨1, .no, [.t 2],
  .seq (.region [⟨some 1, .box true 4 (.t 0), none⟩,
    ⟨some 2, .mov (.c (.bool false)), none⟩] [1]) (.seq (.region [⟨some 16, .call 0 141 [], none⟩,
    ⟨some 3, .mov (.t 16), none⟩] [1, 3]) (.seq (.region [⟨some 18, .fld 0 (.t 1), none⟩,
    ⟨some 19, .load false 1 (.t 18), none⟩,
    ⟨some 20, .call 0 87 [.t 19, .c (.int .i64 8)], none⟩,
    ⟨some 21, .call 0 88 [.t 20], none⟩,
    ⟨some 17, .mov (.t 21), none⟩,
    ⟨some 22, .extract (.t 17) 0, none⟩,
    ⟨some 23, .extract (.t 17) 1, none⟩,
    ⟨some 24, .extract (.t 17) 2, none⟩,
    ⟨some 4, .alloc [.nils, .int .i64 0] [], none⟩,
    ⟨none, .store 2 (.t 4) (.t 22), none⟩,
    ⟨some 5, .mov (.t 23), none⟩,
    ⟨some 6, .mov (.t 24), none⟩] [1, 3, 4]) (.seq (.region [⟨some 25, .load true 2 (.t 4), none⟩,
    ⟨some 26, .fld 1 (.t 1), none⟩,
    ⟨some 27, .load false 1 (.t 26), none⟩,
    ⟨some 28, .call 0 90 [.t 25, .t 27, .c (.int .i64 20)], none⟩,
    ⟨some 7, .alloc [.int .i64 0, .nils] [], none⟩,
    ⟨none, .store 2 (.t 7) (.t 28), none⟩] [1, 3, 4, 7]) (.seq (.region [⟨some 29, .load true 2 (.t 4), none⟩,
    ⟨some 30, .fld 2 (.t 1), none⟩,
    ⟨some 31, .load false 1 (.t 30), none⟩,
    ⟨some 32, .call 0 151 [.t 29, .t 31, .c (.int .i64 4)], none⟩,
    ⟨some 8, .mov (.t 32), none⟩] [1, 3, 4, 7, 8]) (.seq (.region [⟨some 33, .load true 2 (.t 4), none⟩,
    ⟨some 34, .fld 3 (.t 1), none⟩,
    ⟨some 35, .load false 1 (.t 34), none⟩,
    ⟨some 36, .call 0 151 [.t 33, .t 35, .c (.int .i64 4)], none⟩,
    ⟨some 9, .mov (.t 36), none⟩] [3, 7, 8, 9]) (.seq (.region [⟨some 38, .load true 2 (.t 7), none⟩,
    ⟨some 39, .mov (.t 8), none⟩,
    ⟨some 40, .mov (.t 9), none⟩,
    ⟨some 41, .call 0 133 [.t 38, .t 39, .t 40], none⟩,
    ⟨some 37, .mov (.t 41), none⟩,
    ⟨some 42, .extract (.t 37) 0, none⟩,
    ⟨some 43, .extract (.t 37) 1, none⟩,
    ⟨some 44, .extract (.t 37) 2, none⟩,
    ⟨some 10, .alloc [.int .i64 0, .nils] [], none⟩,
    ⟨none, .store 2 (.t 10) (.t 42), none⟩,
    ⟨some 11, .mov (.t 43), none⟩,
    ⟨some 12, .mov (.t 44), none⟩] [3, 7, 8, 9, 10, 11, 12]) (.seq (.region [⟨some 46, .load true 2 (.t 7), none⟩,
    ⟨some 47, .mov (.t 8), none⟩,
    ⟨some 48, .mov (.t 9), none⟩,
    ⟨some 49, .call 0 152 [.t 46, .t 47, .t 48], none⟩,
    ⟨some 45, .mov (.t 49), none⟩,
    ⟨some 50, .extract (.t 45) 0, none⟩,
    ⟨some 51, .extract (.t 45) 1, none⟩,
    ⟨some 52, .extract (.t 45) 2, none⟩,
    ⟨some 13, .alloc [.int .i64 0, .nils] [], none⟩,
    ⟨none, .store 2 (.t 13) (.t 50), none⟩,
    ⟨some 14, .mov (.t 51), none⟩,
    ⟨some 15, .mov (.t 52), none⟩] [3, 10, 11, 12, 13, 14, 15]) (.seq (.region [⟨some 53, .mov (.t 3), none⟩,
    ⟨some 54, .mov (.t 53), none⟩,
    ⟨some 55, .load true 2 (.t 10), some (54, true)⟩,
    ⟨some 56, .load true 2 (.t 13), some (54, true)⟩,
    ⟨some 57, .call 0 109 [.t 55, .t 56], some (54, true)⟩,
    ⟨some 58, .pick (.t 54) (.t 57) (.c (.bool false)), none⟩,
    ⟨some 59, .mov (.t 58), none⟩,
    ⟨some 60, .mov (.t 11), some (59, true)⟩,
    ⟨some 61, .mov (.t 14), some (59, true)⟩,
    ⟨some 62, .bin .eql .num (.t 60) (.t 61), some (59, true)⟩,
    ⟨some 63, .pick (.t 59) (.t 62) (.c (.bool false)), none⟩,
    ⟨some 64, .mov (.t 63), none⟩,
    ⟨some 65, .mov (.t 12), some (64, true)⟩,
    ⟨some 66, .mov (.t 15), some (64, true)⟩,
    ⟨some 67, .bin .eql .num (.t 65) (.t 66), some (64, true)⟩,
    ⟨some 68, .pick (.t 64) (.t 67) (.c (.bool false)), none⟩,
    ⟨some 2, .mov (.t 68), none⟩] [2]) (.ret)))))))))⟩
/-! fenland/fenlandref27.Replay -/
def f_R27_Replay_l0u : ACode := .seq (.seq (.region [⟨some 11, .mov (.t 7), none⟩,
    ⟨some 12, .mov (.t 0), none⟩,
    ⟨some 13, .len false (.t 12), none⟩,
    ⟨some 14, .bin .lss .num (.t 11) (.t 13), none⟩] [0, 3, 4, 6, 7, 14]) (.cond (.t 14) (.skip) (.exit 0))) (.seq (.block 1 (.seq (.dregion [⟨some 18, .mov (.t 0), none⟩,
    ⟨some 19, .mov (.t 7), none⟩,
    ⟨some 20, .idxa 16 (.t 18) (.t 19), none⟩,
    ⟨some 21, .load true 16 (.t 20), none⟩,
    ⟨some 22, .load true 2 (.t 3), none⟩,
    ⟨some 23, .call 0 92 [.t 21, .t 22], none⟩,
    ⟨some 17, .mov (.t 23), none⟩,
    ⟨some 24, .extract (.t 17) 0, none⟩,
    ⟨some 25, .extract (.t 17) 1, none⟩,
    ⟨some 8, .alloc [.int .i64 0, .nils] [], none⟩,
    ⟨none, .store 2 (.t 8) (.t 24), none⟩,
    ⟨some 9, .mov (.t 25), none⟩] [(5, 9)] [0, 3, 4, 6, 7, 8, 9]) (.seq (.seq (.region [⟨some 26, .mov (.t 9), none⟩,
    ⟨some 27, .bin .eql .num (.t 26) (.c (.int .i64 0)), none⟩] [0, 3, 4, 6, 7, 8, 9, 27]) (.cond (.t 27) (.region [⟨some 28, .load true 2 (.t 8), none⟩,
    ⟨none, .store 2 (.t 3) (.t 28), none⟩] [0, 3, 4, 6, 7, 9]) (.skip))) (.region [⟨some 29, .mov (.t 6), none⟩,
    ⟨some 30, .mov (.t 9), none⟩,
    ⟨some 31, .lit false 1 [.int .i64 0] 1 [(0, .t 30)], none⟩,
    ⟨some 32, .append true 1 8 (.t 29) (.t 31), none⟩,
    ⟨some 6, .mov (.t 32), none⟩] [0, 3, 4, 6, 7])))) (.region [⟨some 15, .mov (.t 7), none⟩,
    ⟨some 16, .bin .add .num (.t 15) (.c (.int .i64 1)), none⟩,
    ⟨some 7, .mov (.t 16), none⟩] [0, 3, 4, 6, 7]))
def f_R27_Replay_l0 : ACode := f_R27_Replay_l0u
theorem f_R27_Replay_l0_eq (G : Nat → Option AFunc) (base : Nat) (e : Env) (s : St) : Run G base f_R27_Replay_l0 e s = Run G base f_R27_Replay_l0u e s := (rfl)
def f_R27_Replay : AFunc := ⟨2, .no, [.cell 4 true 2, .t 5],
  .seq (.region [⟨some 3, .box false 2 (.t 1), none⟩,
    ⟨some 4, .alloc [.int .i64 0, .nils] [], none⟩,
    ⟨some 5, .mov (.c .nils), none⟩] [0, 3, 4]) (.seq (.region [⟨some 10, .lit true 1 [.int .i64 0] 0 [], none⟩,
    ⟨some 6, .mov (.t 10), none⟩] [0, 3, 4, 6]) (.seq (.seq (.region [⟨some 7, .mov (.c (.int .i64 0)), none⟩] [0, 3, 4, 6, 7]) (.block 0 (.loop 3 [0, 3, 4, 6, 7] f_R27_Replay_l0))) (.seq (.region [⟨some 33, .load true 2 (.t 3), none⟩,
    ⟨some 34, .mov (.t 6), none⟩,
    ⟨none, .store 2 (.t 4) (.t 33), none⟩,
    ⟨some 5, .mov (.t 34), none⟩] [4, 5]) (.ret))))⟩
/-! fenland/fenlandlaw30.MergeProgramsReplay -/
def f_L30_MergeProgramsReplay_l1u : ACode := .seq (.seq (.region [⟨some 125, .mov (.t 22), none⟩,
    ⟨some 126, .mov (.t 21), none⟩,
    ⟨some 127, .len false (.t 126), none⟩,
    ⟨some 128, .bin .lss .num (.t 125) (.t 127), none⟩] [3, 7, 8, 11, 12, 19, 20, 21, 22, 128]) (.cond (.t 128) (.skip) (.exit 2))) (.seq (.block 3 (.region [⟨some 131, .mov (.t 21), none⟩,
    ⟨some 132, .mov (.t 22), none⟩,
    ⟨some 133, .build [.int .i64 0, .int .i64 0, .int .i64 0, .int .i64 0, .nils, .str ⟨#[]⟩, .nils] [(0, 1, .c (.int .i64 6))], none⟩,
    ⟨some 134, .idxa 16 (.t 131) (.t 132), none⟩,
    ⟨some 135, .fld 0 (.t 134), none⟩,
    ⟨none, .store 7 (.t 135) (.t 133), none⟩] [3, 7, 8, 11, 12, 19, 20, 21, 22])) (.region [⟨some 129, .mov (.t 22), none⟩,
    ⟨some 130, .bin .add .num (.t 129) (.c (.int .i64 1)), none⟩,
    ⟨some 22, .mov (.t 130), none⟩] [3, 7, 8, 11, 12, 19, 20, 21, 22]))
def f_L30_MergeProgramsReplay_l1 : ACode := f_L30_MergeProgramsReplay_l1u
theorem f_L30_MergeProgramsReplay_l1_eq (G : Nat → Option AFunc) (base : Nat) (e : Env) (s : St) : Run G base f_L30_MergeProgramsReplay_l1 e s = Run G base f_L30_MergeProgramsReplay_l1u e s := (rfl)
def f_L30_MergeProgramsReplay_l0u : ACode := .seq (.seq (.region [⟨some 85, .mov (.t 16), none⟩,
    ⟨some 86, .mov (.t 15), none⟩,
    ⟨some 87, .len false (.t 86), none⟩,
    ⟨some 88, .bin .lss .num (.t 85) (.t 87), none⟩] [3, 11, 14, 15, 16, 88]) (.cond (.t 88) (.skip) (.exit 0))) (.seq (.block 1 (.seq (.region [⟨some 91, .mov (.t 15), none⟩,
    ⟨some 92, .mov (.t 16), none⟩,
    ⟨some 93, .idxa 1 (.t 91) (.t 92), none⟩,
    ⟨some 94, .load false 1 (.t 93), none⟩,
    ⟨some 95, .bin .neq .num (.t 94) (.c (.int .i64 0)), none⟩] [3, 11, 14, 15, 16, 95]) (.cond (.t 95) (.seq (.region [⟨some 2, .mov (.c (.bool false)), none⟩] [2]) (.ret)) (.skip)))) (.region [⟨some 89, .mov (.t 16), none⟩,
    ⟨some 90, .bin .add .num (.t 89) (.c (.int .i64 1)), none⟩,
    ⟨some 16, .mov (.t 90), none⟩] [3, 11, 14, 15, 16]))
def f_L30_MergeProgramsReplay_l0 : ACode := f_L30_MergeProgramsReplay_l0u
theorem f_L30_MergeProgramsReplay_l0_eq (G : Nat → Option AFunc) (base : Nat) (e : Env) (s : St) : Run G base f_L30_MergeProgramsReplay_l0 e s = Run G base f_L30_MergeProgramsReplay_l0u e s := (rfl)
def f_L30_MergeProgramsReplay : AFunc := ⟨1, .no, [.t 2],
  .seq (.region [⟨some 1, .box true 4 (.t 0), none⟩,
    ⟨some 2, .mov (.c (.bool false)), none⟩] [1]) (.seq (.region [⟨some 26, .call 0 141 [], none⟩,
    ⟨some 3, .mov (.t 26), none⟩] [1, 3]) (.seq (.region [⟨some 28, .fld 0 (.t 1), none⟩,
    ⟨some 29, .load false 1 (.t 28), none⟩,
    ⟨some 30, .call 0 87 [.t 29, .c (.int .i64 8)], none⟩,
    ⟨some 31, .call 0 88 [.t 30], none⟩,
    ⟨some 27, .mov (.t 31), none⟩,
    ⟨some 32, .extract (.t 27) 0, none⟩,
    ⟨some 33, .extract (.t 27) 1, none⟩,
    ⟨some 34, .extract (.t 27) 2, none⟩,
    ⟨some 4, .alloc [.nils, .int .i64 0] [], none⟩,
    ⟨none, .store 2 (.t 4) (.t 32), none⟩,
    ⟨some 5, .mov (.t 33), none⟩,
    ⟨some 6, .mov (.t 34), none⟩] [1, 3, 4]) (.seq (.region [⟨some 35, .load true 2 (.t 4), none⟩,
    ⟨some 36, .fld 1 (.t 1), none⟩,
    ⟨some 37, .load false 1 (.t 36), none⟩,
    ⟨some 38, .call 0 90 [.t 35, .t 37, .c (.int .i64 20)], none⟩,
    ⟨some 7, .alloc [.int .i64 0, .nils] [], none⟩,
    ⟨none, .store 2 (.t 7) (.t 38), none⟩] [1, 3, 4, 7]) (.seq (.region [⟨some 39, .load true 2 (.t 4), none⟩,
    ⟨some 40, .fld 2 (.t 1), none⟩,
    ⟨some 41, .load false 1 (.t 40), none⟩,
    ⟨some 42, .call 0 151 [.t 39, .t 41, .c (.int .i64 4)], none⟩,
    ⟨some 8, .mov (.t 42), none⟩] [1, 3, 4, 7, 8]) (.seq (.region [⟨some 43, .load true 2 (.t 4), none⟩,
    ⟨some 44, .fld 3 (.t 1), none⟩,
    ⟨some 45, .load false 1 (.t 44), none⟩,
    ⟨some 46, .call 0 151 [.t 43, .t 45, .c (.int .i64 4)], none⟩,
    ⟨some 9, .mov (.t 46), none⟩] [3, 7, 8, 9]) (.seq (.region [⟨some 47, .lit false 16 [.int .i64 0, .int .i64 0, .int .i64 0, .int .i64 0, .nils, .str ⟨#[]⟩, .nils, .int .i64 0, .int .i64 0, .int .i64 0, .int .i64 0, .nils, .str ⟨#[]⟩, .nils, .nils, .nils] 0 [], none⟩,
    ⟨some 48, .mov (.t 8), none⟩,
    ⟨some 49, .append true 16 240 (.t 47) (.t 48), none⟩,
    ⟨some 50, .mov (.t 9), none⟩,
    ⟨some 51, .append true 16 240 (.t 49) (.t 50), none⟩,
    ⟨some 10, .movf (.t 51), none⟩] [3, 7, 8, 9, 10]) (.seq (.region [⟨some 53, .load true 2 (.t 7), none⟩,
    ⟨some 54, .mov (.t 8), none⟩,
    ⟨some 55, .mov (.t 9), none⟩,
    ⟨some 56, .call 0 133 [.t 53, .t 54, .t 55], none⟩,
    ⟨some 52, .mov (.t 56), none⟩,
    ⟨some 57, .extract (.t 52) 0, none⟩,
    ⟨some 58, .extract (.t 52) 1, none⟩,
    ⟨some 59, .extract (.t 52) 2, none⟩,
    ⟨some 11, .alloc [.int .i64 0, .nils] [], none⟩,
    ⟨none, .store 2 (.t 11) (.t 57), none⟩,
    ⟨some 12, .mov (.t 58), none⟩,
    ⟨some 13, .mov (.t 59), none⟩] [3, 7, 8, 9, 10, 11, 12, 13]) (.seq (.seq (.region [⟨some 60, .mov (.t 12), none⟩,
    ⟨some 61, .bin .lss .num (.t 60) (.c (.int .i64 0)), none⟩,
    ⟨some 62, .mov (.t 61), none⟩,
    ⟨some 63, .mov (.t 12), some (62, false)⟩,
    ⟨some 64, .mov (.t 10), some (62, false)⟩,
    ⟨some 65, .len false (.t 64), some (62, false)⟩,
    ⟨some 66, .bin .gtr .num (.t 63) (.t 65), some (62, false)⟩,
    ⟨some 67, .pick (.t 62) (.c (.bool true)) (.t 66), none⟩,
    ⟨some 68, .mov (.t 67), none⟩,
    ⟨some 69, .mov (.t 13), some (68, false)⟩,
    ⟨some 70, .bin .eql .num (.t 69) (.c (.int .i64 0)), some (68, false)⟩,
    ⟨some 71, .mov (.t 12), some (68, false)⟩,
    ⟨some 72, .mov (.t 10), some (68, false)⟩,
    ⟨some 73, .len false (.t 72), some (68, false)⟩,
    ⟨some 74, .bin .eql .num (.t 71) (.t 73), some (68, false)⟩,
    ⟨some 75, .bin .neq .bool (.t 70) (.t 74), some (68, false)⟩,
    ⟨some 76, .pick (.t 68) (.c (.bool true)) (.t 75), none⟩] [3, 7, 8, 9, 10, 11, 12, 13, 76]) (.cond (.t 76) (.seq (.region [⟨some 2, .mov (.c (.bool false)), none⟩] [2]) (.ret)) (.skip))) (.seq (.seq (.region [⟨some 77, .mov (.t 13), none⟩,
    ⟨some 78, .bin .eql .num (.t 77) (.c (.int .i64 0)), none⟩] [3, 7, 8, 9, 10, 11, 12, 78]) (.cond (.t 78) (.seq (.region [⟨some 80, .mov (.t 10), none⟩,
    ⟨some 81, .load true 2 (.t 7), none⟩,
    ⟨some 82, .call 0 153 [.t 80, .t 81], none⟩,
    ⟨some 79, .mov (.t 82), none⟩,
    ⟨some 83, .extract (.t 79) 0, none⟩,
    ⟨some 84, .extract (.t 79) 1, none⟩,
    ⟨some 14, .alloc [.int .i64 0, .nils] [], none⟩,
    ⟨none, .store 2 (.t 14) (.t 83), none⟩,
    ⟨some 15, .mov (.t 84), none⟩] [3, 11, 14, 15]) (.seq (.seq (.region [⟨some 16, .mov (.c (.int .i64 0)), none⟩] [3, 11, 14, 15, 16]) (.block 0 (.loop 5 [3, 11, 14, 15, 16] f_L30_MergeProgramsReplay_l0))) (.seq (.region [⟨some 96, .mov (.t 3), none⟩,
    ⟨some 97, .mov (.t 96), none⟩,
    ⟨some 98, .load true 2 (.t 11), some (97, true)⟩,
    ⟨some 99, .load true 2 (.t 14), some (97, true)⟩,
    ⟨some 100, .call 0 109 [.t 98, .t 99], some (97, true)⟩,
    ⟨some 101, .pick (.t 97) (.t 100) (.c (.bool false)), none⟩,
    ⟨some 2, .mov (.t 101), none⟩] [2]) (.ret)))) (.skip))) (.seq (.region [⟨some 102, .mov (.t 12), none⟩,
    ⟨some 103, .mov (.t 8), none⟩,
    ⟨some 104, .len false (.t 103), none⟩,
    ⟨some 105, .min (.t 102) (.t 104), none⟩,
    ⟨some 17, .mov (.t 105), none⟩] [3, 7, 8, 9, 11, 12, 17]) (.seq (.dregion [⟨some 107, .load true 2 (.t 7), none⟩,
    ⟨some 108, .mov (.t 8), none⟩,
    ⟨some 109, .mov (.t 17), none⟩,
    ⟨some 110, .slice 16 (.t 108) none (some (.t 109)) none, none⟩,
    ⟨some 111, .mov (.t 9), none⟩,
    ⟨some 112, .mov (.t 12), none⟩,
    ⟨some 113, .mov (.t 8), none⟩,
    ⟨some 114, .len false (.t 113), none⟩,
    ⟨some 115, .bin .sub .num (.t 112) (.t 114), none⟩,
    ⟨some 116, .max (.t 115) (.c (.int .i64 0)), none⟩,
    ⟨some 117, .slice 16 (.t 111) none (some (.t 116)) none, none⟩,
    ⟨some 118, .call 0 133 [.t 107, .t 110, .t 117], none⟩,
    ⟨some 106, .mov (.t 118), none⟩,
    ⟨some 119, .extract (.t 106) 0, none⟩,
    ⟨some 120, .extract (.t 106) 1, none⟩,
    ⟨some 121, .extract (.t 106) 2, none⟩,
    ⟨some 18, .alloc [.int .i64 0, .nils] [], none⟩,
    ⟨none, .store 2 (.t 18) (.t 119), none⟩,
    ⟨some 19, .mov (.t 120), none⟩,
    ⟨some 20, .mov (.t 121), none⟩] [(0, 3), (3, 7), (0, 10), (3, 10), (3, 16), (10, 16), (11, 16)] [3, 7, 8, 9, 11, 12, 19, 20]) (.seq (.region [⟨some 122, .lit false 16 [.int .i64 0, .int .i64 0, .int .i64 0, .int .i64 0, .nils, .str ⟨#[]⟩, .nils, .int .i64 0, .int .i64 0, .int .i64 0, .int .i64 0, .nils, .str ⟨#[]⟩, .nils, .nils, .nils] 0 [], none⟩,
    ⟨some 123, .mov (.t 9), none⟩,
    ⟨some 124, .append true 16 240 (.t 122) (.t 123), none⟩,
    ⟨some 21, .mov (.t 124), none⟩] [3, 7, 8, 11, 12, 19, 20, 21]) (.seq (.seq (.region [⟨some 22, .mov (.c (.int .i64 0)), none⟩] [3, 7, 8, 11, 12, 19, 20, 21, 22]) (.block 2 (.loop 7 [3, 7, 8, 11, 12, 19, 20, 21, 22] f_L30_MergeProgramsReplay_l1))) (.seq (.region [⟨some 137, .load true 2 (.t 7), none⟩,
    ⟨some 138, .mov (.t 8), none⟩,
    ⟨some 139, .mov (.t 21), none⟩,
    ⟨some 140, .call 2 133 [.t 137, .t 138, .t 139], none⟩,
    ⟨some 136, .mov (.t 140), none⟩,
    ⟨some 141, .extract (.t 136) 0, none⟩,
    ⟨some 142, .extract (.t 136) 1, none⟩,
    ⟨some 143, .extract (.t 136) 2, none⟩,
    ⟨some 23, .alloc [.int .i64 0, .nils] [], none⟩,
    ⟨none, .store 2 (.t 23) (.t 141), none⟩,
    ⟨some 24, .mov (.t 142), none⟩,
    ⟨some 25, .mov (.t 143), none⟩] [3, 11, 12, 19, 20, 25]) (.seq (.region [⟨some 144, .mov (.t 3), none⟩,
    ⟨some 145, .mov (.t 144), none⟩,
    ⟨some 146, .mov (.t 19), some (145, true)⟩,
    ⟨some 147, .mov (.t 12), some (145, true)⟩,
    ⟨some 148, .bin .eql .num (.t 146) (.t 147), some (145, true)⟩,
    ⟨some 149, .pick (.t 145) (.t 148) (.c (.bool false)), none⟩,
    ⟨some 150, .mov (.t 149), none⟩,
    ⟨some 151, .mov (.t 20), some (150, true)⟩,
    ⟨some 152, .bin .eql .num (.t 151) (.c (.int .i64 0)), some (150, true)⟩,
    ⟨some 153, .pick (.t 150) (.t 152) (.c (.bool false)), none⟩,
    ⟨some 154, .mov (.t 153), none⟩,
    ⟨some 155, .mov (.t 25), some (154, true)⟩,
    ⟨some 156, .bin .neq .num (.t 155) (.c (.int .i64 280)), some (154, true)⟩,
    ⟨some 157, .pick (.t 154) (.t 156) (.c (.bool false)), none⟩,
    ⟨some 158, .mov (.t 157), none⟩,
    ⟨some 159, .load true 2 (.t 11), some (158, true)⟩,
    ⟨some 160, .build [.int .i64 0, .nils] [], some (158, true)⟩,
    ⟨some 161, .call 0 109 [.t 159, .t 160], some (158, true)⟩,
    ⟨some 162, .pick (.t 158) (.t 161) (.c (.bool false)), none⟩,
    ⟨some 2, .mov (.t 162), none⟩] [2]) (.ret))))))))))))))))⟩
def prog : Nat → Option AFunc
  | 100 => some f_merge_states_1
  | 102 => some f_merge_states
  | 101 => some f_slices_IndexFunc_api_Line_api_Line
  | 104 => some f_slices_ContainsFunc_api_Line_api_Line
  | 103 => some f_merge_fits_1
  | 106 => some f_merge_fits
  | 1 => some f_slices_Equal_api_Cell_api_Cell
  | 107 => some f_merge_equal
  | 105 => some f_merge_fresh_1
  | 108 => some f_merge_fresh
  | 132 => some f_merge_Merge
  | 12 => some f_R06_SameRow
  | 109 => some f_R27_SameTable
  | 134 => some f_R30_SameLines
  | 135 => some f_merge_Base
  | 113 => some f_pred_Eval_1
  | 114 => some f_pred_some
  | 115 => some f_pred_isAtom
  | 116 => some f_pred_get
  | 117 => some f_pred_truth
  | 111 => some f_slices_Index_api_Value_api_Value
  | 118 => some f_slices_Contains_api_Value_api_Value
  | 112 => some f_internal_stringslite_HasPrefix
  | 119 => some f_strings_HasPrefix
  | 110 => some f_pred_Eval
  | 120 => some f_pred_Match
  | 122 => some f_slices_IndexFunc_api_Cell_api_Cell
  | 121 => some f_program_sum_1
  | 123 => some f_program_sum
  | 124 => some f_program_Check
  | 125 => some f_program_Run
  | 129 => some f_merge_run
  | 130 => some f_merge_Programs_1
  | 5 => some f_lineage_Valid
  | 14 => some f_lineage_merge_api_Line_api_Line
  | 10 => some f_lineage_ofLine
  | 3 => some f_lineage_row
  | 13 => some f_lineage_Feed_1
  | 2 => some f_lineage_equal
  | 4 => some f_lineage_same
  | 15 => some f_lineage_events
  | 21 => some f_lineage_Feed
  | 126 => some f_slices_IndexFunc_api_Event_api_Event
  | 128 => some f_slices_ContainsFunc_api_Event_api_Event
  | 127 => some f_merge_Programs_2_1
  | 131 => some f_merge_Programs_2
  | 133 => some f_merge_Programs
  | 141 => some f_L30_sanity
  | 62 => some f_R06_New
  | 47 => some f_R06_Field
  | 49 => some f_R06_group
  | 50 => some f_R06_depth
  | 48 => some f_R06_Name
  | 51 => some f_R06_taken
  | 52 => some f_R06_plus
  | 58 => some f_R06_add
  | 55 => some f_R06_without
  | 54 => some f_R06_with
  | 53 => some f_R06_inside
  | 56 => some f_R06_move
  | 59 => some f_R06_one
  | 57 => some f_R06_sep
  | 60 => some f_R06_split
  | 61 => some f_R06_join
  | 63 => some f_R06_Apply
  | 88 => some f_R06_After
  | 64 => some f_R06_mod
  | 65 => some f_R06_name
  | 66 => some f_R06_Change
  | 87 => some f_R06_Made
  | 67 => some f_R05_Type
  | 68 => some f_R05_Fit
  | 69 => some f_R05_Made
  | 75 => some f_R06_Row
  | 76 => some f_R06_Rows
  | 90 => some f_R27_Table
  | 136 => some f_R30_Branch
  | 142 => some f_L30_made
  | 140 => some f_R30_Fresh
  | 137 => some f_R30_find
  | 138 => some f_R30_fits
  | 139 => some f_R30_same
  | 143 => some f_R30_Merge
  | 154 => some f_L30_MergeMatchesReference
  | 144 => some f_R30_Base
  | 155 => some f_L30_MergeBaseMatchesReference
  | 156 => some f_L30_MergeOneSide
  | 146 => some f_R30_Rows
  | 145 => some f_R30_Plain
  | 157 => some f_L30_MergeIsSymmetric
  | 147 => some f_L30_row
  | 148 => some f_R27_ValidTable
  | 158 => some f_L30_MergeKeepsBoth
  | 71 => some f_R06_Leaves
  | 72 => some f_R09_mod
  | 70 => some f_R05_Compare
  | 74 => some f_R09_set
  | 73 => some f_R09_Pred
  | 89 => some f_R27_Made
  | 151 => some f_R27_MadeAll
  | 77 => some f_R08_truth
  | 78 => some f_R08_within
  | 79 => some f_R08_begins
  | 82 => some f_R08_simple
  | 81 => some f_R08_Value
  | 80 => some f_R08_Eval
  | 83 => some f_R08_Match
  | 84 => some f_R06_Get
  | 85 => some f_R27_Sum
  | 86 => some f_R27_Check
  | 92 => some f_R27_Run
  | 149 => some f_R30_Events
  | 150 => some f_R30_Reads
  | 152 => some f_R30_Programs
  | 159 => some f_L30_MergeProgramsMatchesReference
  | 153 => some f_R27_Replay
  | 160 => some f_L30_MergeProgramsReplay
  | _ => none
theorem pr_merge_states_1 : prog 100 = some f_merge_states_1 := rfl
theorem pr_merge_states : prog 102 = some f_merge_states := rfl
theorem pr_slices_IndexFunc_api_Line_api_Line : prog 101 = some f_slices_IndexFunc_api_Line_api_Line := rfl
theorem pr_slices_ContainsFunc_api_Line_api_Line : prog 104 = some f_slices_ContainsFunc_api_Line_api_Line := rfl
theorem pr_merge_fits_1 : prog 103 = some f_merge_fits_1 := rfl
theorem pr_merge_fits : prog 106 = some f_merge_fits := rfl
theorem pr_slices_Equal_api_Cell_api_Cell : prog 1 = some f_slices_Equal_api_Cell_api_Cell := rfl
theorem pr_merge_equal : prog 107 = some f_merge_equal := rfl
theorem pr_merge_fresh_1 : prog 105 = some f_merge_fresh_1 := rfl
theorem pr_merge_fresh : prog 108 = some f_merge_fresh := rfl
theorem pr_merge_Merge : prog 132 = some f_merge_Merge := rfl
theorem pr_R06_SameRow : prog 12 = some f_R06_SameRow := rfl
theorem pr_R27_SameTable : prog 109 = some f_R27_SameTable := rfl
theorem pr_R30_SameLines : prog 134 = some f_R30_SameLines := rfl
theorem pr_merge_Base : prog 135 = some f_merge_Base := rfl
theorem pr_pred_Eval_1 : prog 113 = some f_pred_Eval_1 := rfl
theorem pr_pred_some : prog 114 = some f_pred_some := rfl
theorem pr_pred_isAtom : prog 115 = some f_pred_isAtom := rfl
theorem pr_pred_get : prog 116 = some f_pred_get := rfl
theorem pr_pred_truth : prog 117 = some f_pred_truth := rfl
theorem pr_slices_Index_api_Value_api_Value : prog 111 = some f_slices_Index_api_Value_api_Value := rfl
theorem pr_slices_Contains_api_Value_api_Value : prog 118 = some f_slices_Contains_api_Value_api_Value := rfl
theorem pr_internal_stringslite_HasPrefix : prog 112 = some f_internal_stringslite_HasPrefix := rfl
theorem pr_strings_HasPrefix : prog 119 = some f_strings_HasPrefix := rfl
theorem pr_pred_Eval : prog 110 = some f_pred_Eval := rfl
theorem pr_pred_Match : prog 120 = some f_pred_Match := rfl
theorem pr_slices_IndexFunc_api_Cell_api_Cell : prog 122 = some f_slices_IndexFunc_api_Cell_api_Cell := rfl
theorem pr_program_sum_1 : prog 121 = some f_program_sum_1 := rfl
theorem pr_program_sum : prog 123 = some f_program_sum := rfl
theorem pr_program_Check : prog 124 = some f_program_Check := rfl
theorem pr_program_Run : prog 125 = some f_program_Run := rfl
theorem pr_merge_run : prog 129 = some f_merge_run := rfl
theorem pr_merge_Programs_1 : prog 130 = some f_merge_Programs_1 := rfl
theorem pr_lineage_Valid : prog 5 = some f_lineage_Valid := rfl
theorem pr_lineage_merge_api_Line_api_Line : prog 14 = some f_lineage_merge_api_Line_api_Line := rfl
theorem pr_lineage_ofLine : prog 10 = some f_lineage_ofLine := rfl
theorem pr_lineage_row : prog 3 = some f_lineage_row := rfl
theorem pr_lineage_Feed_1 : prog 13 = some f_lineage_Feed_1 := rfl
theorem pr_lineage_equal : prog 2 = some f_lineage_equal := rfl
theorem pr_lineage_same : prog 4 = some f_lineage_same := rfl
theorem pr_lineage_events : prog 15 = some f_lineage_events := rfl
theorem pr_lineage_Feed : prog 21 = some f_lineage_Feed := rfl
theorem pr_slices_IndexFunc_api_Event_api_Event : prog 126 = some f_slices_IndexFunc_api_Event_api_Event := rfl
theorem pr_slices_ContainsFunc_api_Event_api_Event : prog 128 = some f_slices_ContainsFunc_api_Event_api_Event := rfl
theorem pr_merge_Programs_2_1 : prog 127 = some f_merge_Programs_2_1 := rfl
theorem pr_merge_Programs_2 : prog 131 = some f_merge_Programs_2 := rfl
theorem pr_merge_Programs : prog 133 = some f_merge_Programs := rfl
theorem pr_L30_sanity : prog 141 = some f_L30_sanity := rfl
theorem pr_R06_New : prog 62 = some f_R06_New := rfl
theorem pr_R06_Field : prog 47 = some f_R06_Field := rfl
theorem pr_R06_group : prog 49 = some f_R06_group := rfl
theorem pr_R06_depth : prog 50 = some f_R06_depth := rfl
theorem pr_R06_Name : prog 48 = some f_R06_Name := rfl
theorem pr_R06_taken : prog 51 = some f_R06_taken := rfl
theorem pr_R06_plus : prog 52 = some f_R06_plus := rfl
theorem pr_R06_add : prog 58 = some f_R06_add := rfl
theorem pr_R06_without : prog 55 = some f_R06_without := rfl
theorem pr_R06_with : prog 54 = some f_R06_with := rfl
theorem pr_R06_inside : prog 53 = some f_R06_inside := rfl
theorem pr_R06_move : prog 56 = some f_R06_move := rfl
theorem pr_R06_one : prog 59 = some f_R06_one := rfl
theorem pr_R06_sep : prog 57 = some f_R06_sep := rfl
theorem pr_R06_split : prog 60 = some f_R06_split := rfl
theorem pr_R06_join : prog 61 = some f_R06_join := rfl
theorem pr_R06_Apply : prog 63 = some f_R06_Apply := rfl
theorem pr_R06_After : prog 88 = some f_R06_After := rfl
theorem pr_R06_mod : prog 64 = some f_R06_mod := rfl
theorem pr_R06_name : prog 65 = some f_R06_name := rfl
theorem pr_R06_Change : prog 66 = some f_R06_Change := rfl
theorem pr_R06_Made : prog 87 = some f_R06_Made := rfl
theorem pr_R05_Type : prog 67 = some f_R05_Type := rfl
theorem pr_R05_Fit : prog 68 = some f_R05_Fit := rfl
theorem pr_R05_Made : prog 69 = some f_R05_Made := rfl
theorem pr_R06_Row : prog 75 = some f_R06_Row := rfl
theorem pr_R06_Rows : prog 76 = some f_R06_Rows := rfl
theorem pr_R27_Table : prog 90 = some f_R27_Table := rfl
theorem pr_R30_Branch : prog 136 = some f_R30_Branch := rfl
theorem pr_L30_made : prog 142 = some f_L30_made := rfl
theorem pr_R30_Fresh : prog 140 = some f_R30_Fresh := rfl
theorem pr_R30_find : prog 137 = some f_R30_find := rfl
theorem pr_R30_fits : prog 138 = some f_R30_fits := rfl
theorem pr_R30_same : prog 139 = some f_R30_same := rfl
theorem pr_R30_Merge : prog 143 = some f_R30_Merge := rfl
theorem pr_L30_MergeMatchesReference : prog 154 = some f_L30_MergeMatchesReference := rfl
theorem pr_R30_Base : prog 144 = some f_R30_Base := rfl
theorem pr_L30_MergeBaseMatchesReference : prog 155 = some f_L30_MergeBaseMatchesReference := rfl
theorem pr_L30_MergeOneSide : prog 156 = some f_L30_MergeOneSide := rfl
theorem pr_R30_Rows : prog 146 = some f_R30_Rows := rfl
theorem pr_R30_Plain : prog 145 = some f_R30_Plain := rfl
theorem pr_L30_MergeIsSymmetric : prog 157 = some f_L30_MergeIsSymmetric := rfl
theorem pr_L30_row : prog 147 = some f_L30_row := rfl
theorem pr_R27_ValidTable : prog 148 = some f_R27_ValidTable := rfl
theorem pr_L30_MergeKeepsBoth : prog 158 = some f_L30_MergeKeepsBoth := rfl
theorem pr_R06_Leaves : prog 71 = some f_R06_Leaves := rfl
theorem pr_R09_mod : prog 72 = some f_R09_mod := rfl
theorem pr_R05_Compare : prog 70 = some f_R05_Compare := rfl
theorem pr_R09_set : prog 74 = some f_R09_set := rfl
theorem pr_R09_Pred : prog 73 = some f_R09_Pred := rfl
theorem pr_R27_Made : prog 89 = some f_R27_Made := rfl
theorem pr_R27_MadeAll : prog 151 = some f_R27_MadeAll := rfl
theorem pr_R08_truth : prog 77 = some f_R08_truth := rfl
theorem pr_R08_within : prog 78 = some f_R08_within := rfl
theorem pr_R08_begins : prog 79 = some f_R08_begins := rfl
theorem pr_R08_simple : prog 82 = some f_R08_simple := rfl
theorem pr_R08_Value : prog 81 = some f_R08_Value := rfl
theorem pr_R08_Eval : prog 80 = some f_R08_Eval := rfl
theorem pr_R08_Match : prog 83 = some f_R08_Match := rfl
theorem pr_R06_Get : prog 84 = some f_R06_Get := rfl
theorem pr_R27_Sum : prog 85 = some f_R27_Sum := rfl
theorem pr_R27_Check : prog 86 = some f_R27_Check := rfl
theorem pr_R27_Run : prog 92 = some f_R27_Run := rfl
theorem pr_R30_Events : prog 149 = some f_R30_Events := rfl
theorem pr_R30_Reads : prog 150 = some f_R30_Reads := rfl
theorem pr_R30_Programs : prog 152 = some f_R30_Programs := rfl
theorem pr_L30_MergeProgramsMatchesReference : prog 159 = some f_L30_MergeProgramsMatchesReference := rfl
theorem pr_R27_Replay : prog 153 = some f_R27_Replay := rfl
theorem pr_L30_MergeProgramsReplay : prog 160 = some f_L30_MergeProgramsReplay := rfl
end Go.Den
