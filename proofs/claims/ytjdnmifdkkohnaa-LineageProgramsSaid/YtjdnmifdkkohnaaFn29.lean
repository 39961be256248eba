/- The functions that the statements reach, as checked code: printed by gen.py out of Lean's own print of the translation. -/
import Derived.Test.YtjdnmifdkkohnaaFn29p0
namespace Go.Den
open Go
set_option maxRecDepth 100000
/-! fenland/fenlandref27.Made -/
def f_R27_Made_l1u : ACode := .seq (.seq (.region [⟨some 56, .mov (.t 8), none⟩,
    ⟨some 57, .fld 15 (.t 3), none⟩,
    ⟨some 58, .load false 1 (.t 57), none⟩,
    ⟨some 59, .len false (.t 58), none⟩,
    ⟨some 60, .bin .lss .num (.t 56) (.t 59), none⟩,
    ⟨some 61, .mov (.t 60), none⟩,
    ⟨some 62, .mov (.t 8), some (61, true)⟩,
    ⟨some 63, .bin .lss .num (.t 62) (.c (.int .i64 3)), some (61, true)⟩,
    ⟨some 64, .pick (.t 61) (.t 63) (.c (.bool false)), none⟩,
    ⟨some 65, .mov (.t 64), none⟩,
    ⟨some 66, .mov (.t 6), some (65, true)⟩,
    ⟨some 67, .len false (.t 66), some (65, true)⟩,
    ⟨some 68, .bin .gtr .num (.t 67) (.c (.int .i64 0)), some (65, true)⟩,
    ⟨some 69, .pick (.t 65) (.t 68) (.c (.bool false)), none⟩] [2, 3, 4, 5, 6, 8, 69]) (.cond (.t 69) (.skip) (.exit 2))) (.seq (.block 3 (.seq (.region [⟨some 72, .fld 15 (.t 3), none⟩,
    ⟨some 73, .load false 1 (.t 72), none⟩,
    ⟨some 74, .mov (.t 8), none⟩,
    ⟨some 75, .idxa 10 (.t 73) (.t 74), none⟩,
    ⟨some 76, .load true 10 (.t 75), none⟩,
    ⟨some 9, .alloc [.int .i64 0, .int .i64 0, .int .i64 0, .int .i64 0, .nils, .str ⟨#[]⟩, .nils, .int .i64 0, .int .i64 0, .int .i64 0] [], none⟩,
    ⟨none, .store 10 (.t 9) (.t 76), none⟩] [2, 3, 4, 5, 6, 8, 9]) (.seq (.region [⟨some 77, .load true 2 (.t 2), none⟩,
    ⟨some 78, .fld 0 (.t 9), none⟩,
    ⟨some 79, .load true 7 (.t 78), none⟩,
    ⟨some 80, .call 0 73 [.t 77, .t 79, .c (.int .i64 1)], none⟩,
    ⟨some 81, .fld 0 (.t 9), none⟩,
    ⟨none, .store 7 (.t 81) (.t 80), none⟩] [2, 3, 4, 5, 6, 8, 9]) (.seq (.region [⟨some 82, .mov (.t 6), none⟩,
    ⟨some 83, .fld 7 (.t 9), none⟩,
    ⟨some 84, .load false 1 (.t 83), none⟩,
    ⟨some 85, .mov (.t 6), none⟩,
    ⟨some 86, .len false (.t 85), none⟩,
    ⟨some 87, .bin .rem .num (.t 84) (.t 86), none⟩,
    ⟨some 88, .mov (.t 6), none⟩,
    ⟨some 89, .len false (.t 88), none⟩,
    ⟨some 90, .bin .add .num (.t 87) (.t 89), none⟩,
    ⟨some 91, .mov (.t 6), none⟩,
    ⟨some 92, .len false (.t 91), none⟩,
    ⟨some 93, .bin .rem .num (.t 90) (.t 92), none⟩,
    ⟨some 94, .idxa 1 (.t 82) (.t 93), none⟩,
    ⟨some 95, .load false 1 (.t 94), none⟩,
    ⟨some 96, .fld 7 (.t 9), none⟩,
    ⟨none, .store 1 (.t 96) (.t 95), none⟩] [2, 3, 4, 5, 6, 8, 9]) (.region [⟨some 97, .fld 15 (.t 5), none⟩,
    ⟨some 98, .load false 1 (.t 97), none⟩,
    ⟨some 99, .load true 10 (.t 9), none⟩,
    ⟨some 100, .lit false 10 [.int .i64 0, .int .i64 0, .int .i64 0, .int .i64 0, .nils, .str ⟨#[]⟩, .nils, .int .i64 0, .int .i64 0, .int .i64 0] 1 [(0, .t 99)], none⟩,
    ⟨some 101, .append true 10 120 (.t 98) (.t 100), none⟩,
    ⟨some 102, .fld 15 (.t 5), none⟩,
    ⟨none, .store 1 (.t 102) (.t 101), none⟩] [2, 3, 4, 5, 6, 8]))))) (.region [⟨some 70, .mov (.t 8), none⟩,
    ⟨some 71, .bin .add .num (.t 70) (.c (.int .i64 1)), none⟩,
    ⟨some 8, .mov (.t 71), none⟩] [2, 3, 4, 5, 6, 8]))
def f_R27_Made_l1 : ACode := f_R27_Made_l1u
theorem f_R27_Made_l1_eq (G : Nat → Option AFunc) (base : Nat) (e : Env) (s : St) : Run G base f_R27_Made_l1 e s = Run G base f_R27_Made_l1u e s := (rfl)
def f_R27_Made_l0u : ACode := .seq (.seq (.region [⟨some 24, .mov (.t 7), none⟩,
    ⟨some 25, .fld 0 (.t 2), none⟩,
    ⟨some 26, .load false 1 (.t 25), none⟩,
    ⟨some 27, .len false (.t 26), none⟩,
    ⟨some 28, .bin .lss .num (.t 24) (.t 27), none⟩] [2, 3, 4, 5, 6, 7, 28]) (.cond (.t 28) (.skip) (.exit 0))) (.seq (.block 1 (.seq (.region [⟨some 31, .fld 0 (.t 2), none⟩,
    ⟨some 32, .load false 1 (.t 31), none⟩,
    ⟨some 33, .mov (.t 7), none⟩,
    ⟨some 34, .idxa 4 (.t 32) (.t 33), none⟩,
    ⟨some 35, .fld 2 (.t 34), none⟩,
    ⟨some 36, .load false 1 (.t 35), none⟩,
    ⟨some 37, .bin .neq .num (.t 36) (.c (.int .i64 4)), none⟩,
    ⟨some 38, .mov (.t 37), none⟩,
    ⟨some 39, .fld 0 (.t 2), some (38, true)⟩,
    ⟨some 40, .load false 1 (.t 39), some (38, true)⟩,
    ⟨some 41, .mov (.t 7), some (38, true)⟩,
    ⟨some 42, .idxa 4 (.t 40) (.t 41), some (38, true)⟩,
    ⟨some 43, .fld 2 (.t 42), some (38, true)⟩,
    ⟨some 44, .load false 1 (.t 43), some (38, true)⟩,
    ⟨some 45, .bin .neq .num (.t 44) (.c (.int .i64 6)), some (38, true)⟩,
    ⟨some 46, .pick (.t 38) (.t 45) (.c (.bool false)), none⟩] [2, 3, 4, 5, 6, 7, 46]) (.cond (.t 46) (.region [⟨some 47, .mov (.t 6), none⟩,
    ⟨some 48, .fld 0 (.t 2), none⟩,
    ⟨some 49, .load false 1 (.t 48), none⟩,
    ⟨some 50, .mov (.t 7), none⟩,
    ⟨some 51, .idxa 4 (.t 49) (.t 50), none⟩,
    ⟨some 52, .fld 0 (.t 51), none⟩,
    ⟨some 53, .load false 1 (.t 52), none⟩,
    ⟨some 54, .lit false 1 [.int .i64 0] 1 [(0, .t 53)], none⟩,
    ⟨some 55, .append true 1 8 (.t 47) (.t 54), none⟩,
    ⟨some 6, .mov (.t 55), none⟩] [2, 3, 4, 5, 6, 7]) (.skip)))) (.region [⟨some 29, .mov (.t 7), none⟩,
    ⟨some 30, .bin .add .num (.t 29) (.c (.int .i64 1)), none⟩,
    ⟨some 7, .mov (.t 30), none⟩] [2, 3, 4, 5, 6, 7]))
def f_R27_Made_l0 : ACode := f_R27_Made_l0u
theorem f_R27_Made_l0_eq (G : Nat → Option AFunc) (base : Nat) (e : Env) (s : St) : Run G base f_R27_Made_l0 e s = Run G base f_R27_Made_l0u e s := (rfl)
def f_R27_Made : AFunc := ⟨2, false, [.cell 4 true 16],
  .seq (.region [⟨some 2, .box true 2 (.t 0), none⟩,
    ⟨some 3, .box true 16 (.t 1), none⟩,
    ⟨some 4, .alloc [.int .i64 0, .int .i64 0, .int .i64 0, .int .i64 0, .nils, .str ⟨#[]⟩, .nils, .int .i64 0, .int .i64 0, .int .i64 0, .int .i64 0, .nils, .str ⟨#[]⟩, .nils, .nils, .nils] [], none⟩] [2, 3, 4]) (.seq (.dregion [⟨some 10, .load true 2 (.t 2), none⟩,
    ⟨some 11, .fld 0 (.t 3), none⟩,
    ⟨some 12, .load true 7 (.t 11), none⟩,
    ⟨some 13, .call 0 73 [.t 10, .t 12, .c (.int .i64 2)], none⟩,
    ⟨some 14, .load true 2 (.t 2), none⟩,
    ⟨some 15, .fld 7 (.t 3), none⟩,
    ⟨some 16, .load true 7 (.t 15), none⟩,
    ⟨some 17, .call 0 73 [.t 14, .t 16, .c (.int .i64 2)], none⟩,
    ⟨some 18, .load true 2 (.t 2), none⟩,
    ⟨some 19, .fld 14 (.t 3), none⟩,
    ⟨some 20, .load false 1 (.t 19), none⟩,
    ⟨some 21, .call 0 76 [.t 18, .t 20, .c (.int .i64 4)], none⟩,
    ⟨some 22, .build [.int .i64 0, .int .i64 0, .int .i64 0, .int .i64 0, .nils, .str ⟨#[]⟩, .nils, .int .i64 0, .int .i64 0, .int .i64 0, .int .i64 0, .nils, .str ⟨#[]⟩, .nils, .nils, .nils] [(0, 7, .t 13), (7, 7, .t 17), (14, 1, .t 21)], none⟩,
    ⟨some 5, .alloc [.int .i64 0, .int .i64 0, .int .i64 0, .int .i64 0, .nils, .str ⟨#[]⟩, .nils, .int .i64 0, .int .i64 0, .int .i64 0, .int .i64 0, .nils, .str ⟨#[]⟩, .nils, .nils, .nils] [], none⟩,
    ⟨none, .storep 16 (.t 5) (.t 22) [(15, 10)], none⟩] [(3, 4), (3, 6), (3, 8), (7, 8), (3, 10), (7, 10), (3, 13), (7, 13), (11, 13)] [2, 3, 4, 5]) (.seq (.region [⟨some 23, .lit true 1 [.int .i64 0] 0 [], none⟩,
    ⟨some 6, .mov (.t 23), none⟩] [2, 3, 4, 5, 6]) (.seq (.seq (.region [⟨some 7, .mov (.c (.int .i64 0)), none⟩] [2, 3, 4, 5, 6, 7]) (.block 0 (.loop 4 [2, 3, 4, 5, 6, 7] f_R27_Made_l0))) (.seq (.seq (.region [⟨some 8, .mov (.c (.int .i64 0)), none⟩] [2, 3, 4, 5, 6, 8]) (.block 2 (.loop 4 [2, 3, 4, 5, 6, 8] f_R27_Made_l1))) (.seq (.region [⟨some 103, .load true 16 (.t 5), none⟩,
    ⟨none, .store 16 (.t 4) (.t 103), none⟩] [4]) (.ret))))))⟩
/-! fenland/fenlandref27.Table -/
def f_R27_Table_l0u : ACode := .seq (.seq (.region [⟨some 15, .mov (.t 9), none⟩,
    ⟨some 16, .mov (.t 7), none⟩,
    ⟨some 17, .len false (.t 16), none⟩,
    ⟨some 18, .bin .lss .num (.t 15) (.t 17), none⟩] [6, 7, 8, 9, 18]) (.cond (.t 18) (.skip) (.exit 0))) (.seq (.block 1 (.seq (.seq (.region [⟨some 21, .fld 0 (.t 8), none⟩,
    ⟨some 22, .load false 1 (.t 21), none⟩,
    ⟨some 23, .bin .rem .num (.t 22) (.c (.int .i64 3)), none⟩,
    ⟨some 24, .bin .eql .num (.t 23) (.c (.int .i64 2)), none⟩] [6, 7, 8, 9, 24]) (.cond (.t 24) (.region [⟨some 25, .fld 0 (.t 8), none⟩,
    ⟨some 26, .load false 1 (.t 25), none⟩,
    ⟨some 27, .bin .add .num (.t 26) (.c (.int .i64 1)), none⟩,
    ⟨some 28, .fld 0 (.t 8), none⟩,
    ⟨none, .store 1 (.t 28) (.t 27), none⟩] [6, 7, 8, 9]) (.skip))) (.seq (.region [⟨some 29, .fld 1 (.t 8), none⟩,
    ⟨some 30, .load false 1 (.t 29), none⟩,
    ⟨some 31, .fld 0 (.t 8), none⟩,
    ⟨some 32, .load false 1 (.t 31), none⟩,
    ⟨some 33, .mov (.t 7), none⟩,
    ⟨some 34, .mov (.t 9), none⟩,
    ⟨some 35, .idxa 1 (.t 33) (.t 34), none⟩,
    ⟨some 36, .load true 1 (.t 35), none⟩,
    ⟨some 37, .build [.int .i64 0, .nils] [(0, 1, .t 32), (1, 1, .t 36)], none⟩,
    ⟨some 38, .lit false 2 [.int .i64 0, .nils] 1 [(0, .t 37)], none⟩,
    ⟨some 39, .append true 2 32 (.t 30) (.t 38), none⟩,
    ⟨some 40, .fld 1 (.t 8), none⟩,
    ⟨none, .store 1 (.t 40) (.t 39), none⟩] [6, 7, 8, 9]) (.region [⟨some 41, .fld 0 (.t 8), none⟩,
    ⟨some 42, .load false 1 (.t 41), none⟩,
    ⟨some 43, .bin .add .num (.t 42) (.c (.int .i64 1)), none⟩,
    ⟨some 44, .fld 0 (.t 8), none⟩,
    ⟨none, .store 1 (.t 44) (.t 43), none⟩] [6, 7, 8, 9])))) (.region [⟨some 19, .mov (.t 9), none⟩,
    ⟨some 20, .bin .add .num (.t 19) (.c (.int .i64 1)), none⟩,
    ⟨some 9, .mov (.t 20), none⟩] [6, 7, 8, 9]))
def f_R27_Table_l0 : ACode := f_R27_Table_l0u
theorem f_R27_Table_l0_eq (G : Nat → Option AFunc) (base : Nat) (e : Env) (s : St) : Run G base f_R27_Table_l0 e s = Run G base f_R27_Table_l0u e s := (rfl)
def f_R27_Table : AFunc := ⟨3, false, [.cell 6 true 2],
  .seq (.region [⟨some 3, .box true 2 (.t 0), none⟩,
    ⟨some 6, .alloc [.int .i64 0, .nils] [], none⟩] [1, 2, 3, 6]) (.seq (.region [⟨some 10, .load true 2 (.t 3), none⟩,
    ⟨some 11, .mov (.t 1), none⟩,
    ⟨some 12, .mov (.t 2), none⟩,
    ⟨some 13, .call 0 76 [.t 10, .t 11, .t 12], none⟩,
    ⟨some 7, .mov (.t 13), none⟩] [6, 7]) (.seq (.region [⟨some 14, .buildp [.int .i64 0, .nils] [] [(1, 2)], none⟩,
    ⟨some 8, .alloc [.int .i64 0, .nils] [], none⟩,
    ⟨none, .store 2 (.t 8) (.t 14), none⟩] [6, 7, 8]) (.seq (.seq (.region [⟨some 9, .mov (.c (.int .i64 0)), none⟩] [6, 7, 8, 9]) (.block 0 (.loop 3 [6, 7, 8, 9] f_R27_Table_l0))) (.seq (.region [⟨some 45, .load true 2 (.t 8), none⟩,
    ⟨none, .store 2 (.t 6) (.t 45), none⟩] [6]) (.ret)))))⟩
/-! fenland/fenlandref08.truth -/
def f_R08_truth : AFunc := ⟨1, false, [.t 2],
  .seq (.region [⟨some 2, .mov (.c (.int .i64 0)), none⟩] [0]) (.seq (.seq (.region [⟨some 3, .mov (.t 0), none⟩] [3]) (.cond (.t 3) (.seq (.region [⟨some 2, .mov (.c (.int .i64 1)), none⟩] [2]) (.ret)) (.skip))) (.seq (.region [⟨some 2, .mov (.c (.int .i64 0)), none⟩] [2]) (.ret)))⟩
/-! fenland/fenlandref08.within -/
def f_R08_within_l0u : ACode := .seq (.seq (.region [⟨some 6, .mov (.t 5), none⟩,
    ⟨some 7, .mov (.t 1), none⟩,
    ⟨some 8, .len false (.t 7), none⟩,
    ⟨some 9, .bin .lss .num (.t 6) (.t 8), none⟩] [1, 2, 5, 9]) (.cond (.t 9) (.skip) (.exit 0))) (.seq (.block 1 (.seq (.region [⟨some 12, .mov (.t 1), none⟩,
    ⟨some 13, .mov (.t 5), none⟩,
    ⟨some 14, .idxa 3 (.t 12) (.t 13), none⟩,
    ⟨some 15, .fld 0 (.t 14), none⟩,
    ⟨some 16, .load false 1 (.t 15), none⟩,
    ⟨some 17, .not (.t 16), none⟩,
    ⟨some 18, .mov (.t 17), none⟩,
    ⟨some 19, .mov (.t 1), some (18, true)⟩,
    ⟨some 20, .mov (.t 5), some (18, true)⟩,
    ⟨some 21, .idxa 3 (.t 19) (.t 20), some (18, true)⟩,
    ⟨some 22, .fld 1 (.t 21), some (18, true)⟩,
    ⟨some 23, .load false 1 (.t 22), some (18, true)⟩,
    ⟨some 24, .fld 1 (.t 2), some (18, true)⟩,
    ⟨some 25, .load false 1 (.t 24), some (18, true)⟩,
    ⟨some 26, .bin .eql .num (.t 23) (.t 25), some (18, true)⟩,
    ⟨some 27, .pick (.t 18) (.t 26) (.c (.bool false)), none⟩,
    ⟨some 28, .mov (.t 27), none⟩,
    ⟨some 29, .mov (.t 1), some (28, true)⟩,
    ⟨some 30, .mov (.t 5), some (28, true)⟩,
    ⟨some 31, .idxa 3 (.t 29) (.t 30), some (28, true)⟩,
    ⟨some 32, .fld 2 (.t 31), some (28, true)⟩,
    ⟨some 33, .load false 1 (.t 32), some (28, true)⟩,
    ⟨some 34, .fld 2 (.t 2), some (28, true)⟩,
    ⟨some 35, .load false 1 (.t 34), some (28, true)⟩,
    ⟨some 36, .bin .eql .num (.t 33) (.t 35), some (28, true)⟩,
    ⟨some 37, .pick (.t 28) (.t 36) (.c (.bool false)), none⟩] [1, 2, 5, 37]) (.cond (.t 37) (.seq (.region [⟨some 4, .mov (.c (.bool true)), none⟩] [4]) (.ret)) (.skip)))) (.region [⟨some 10, .mov (.t 5), none⟩,
    ⟨some 11, .bin .add .num (.t 10) (.c (.int .i64 1)), none⟩,
    ⟨some 5, .mov (.t 11), none⟩] [1, 2, 5]))
def f_R08_within_l0 : ACode := f_R08_within_l0u
theorem f_R08_within_l0_eq (G : Nat → Option AFunc) (base : Nat) (e : Env) (s : St) : Run G base f_R08_within_l0 e s = Run G base f_R08_within_l0u e s := (rfl)
def f_R08_within : AFunc := ⟨2, false, [.t 4],
  .seq (.region [⟨some 2, .box true 3 (.t 0), none⟩,
    ⟨some 4, .mov (.c (.bool false)), none⟩] [1, 2]) (.seq (.seq (.region [⟨some 5, .mov (.c (.int .i64 0)), none⟩] [1, 2, 5]) (.block 0 (.loop 0 [1, 2, 5] f_R08_within_l0))) (.seq (.region [⟨some 4, .mov (.c (.bool false)), none⟩] [4]) (.ret)))⟩
/-! fenland/fenlandref08.begins -/
def f_R08_begins : AFunc := ⟨2, false, [.t 4],
  .seq (.region [⟨some 4, .mov (.c (.bool false)), none⟩] [0, 1]) (.seq (.region [⟨some 5, .mov (.t 0), none⟩,
    ⟨some 6, .len true (.t 5), none⟩,
    ⟨some 7, .mov (.t 1), none⟩,
    ⟨some 8, .len true (.t 7), none⟩,
    ⟨some 9, .bin .geq .num (.t 6) (.t 8), none⟩,
    ⟨some 10, .mov (.t 9), none⟩,
    ⟨some 11, .mov (.t 0), some (10, true)⟩,
    ⟨some 12, .mov (.t 1), some (10, true)⟩,
    ⟨some 13, .len true (.t 12), some (10, true)⟩,
    ⟨some 14, .sstr (.t 11) none (some (.t 13)), some (10, true)⟩,
    ⟨some 15, .mov (.t 1), some (10, true)⟩,
    ⟨some 16, .bin .eql .num (.t 14) (.t 15), some (10, true)⟩,
    ⟨some 17, .pick (.t 10) (.t 16) (.c (.bool false)), none⟩,
    ⟨some 4, .mov (.t 17), none⟩] [4]) (.ret))⟩
/-! fenland/fenlandref08.simple -/
def f_R08_simple : AFunc := ⟨2, false, [.t 4],
  .seq (.region [⟨some 2, .box true 7 (.t 0), none⟩,
    ⟨some 3, .box true 3 (.t 1), none⟩,
    ⟨some 4, .mov (.c (.int .i64 0)), none⟩] [2, 3]) (.seq (.block 0 (.seq (.region [⟨some 6, .fld 0 (.t 2), none⟩,
    ⟨some 7, .load false 1 (.t 6), none⟩,
    ⟨some 8, .bin .eql .num (.t 7) (.c (.int .i64 4)), none⟩,
    ⟨some 5, .mov (.t 8), none⟩] [2, 3, 5]) (.cond (.t 5) (.seq (.region [⟨some 9, .fld 0 (.t 3), none⟩,
    ⟨some 10, .load false 1 (.t 9), none⟩,
    ⟨some 11, .call 0 77 [.t 10], none⟩,
    ⟨some 4, .mov (.t 11), none⟩] [4]) (.ret)) (.seq (.region [⟨some 13, .fld 0 (.t 3), none⟩,
    ⟨some 14, .load false 1 (.t 13), none⟩,
    ⟨some 12, .mov (.t 14), none⟩] [2, 3, 12]) (.cond (.t 12) (.seq (.region [⟨some 4, .mov (.c (.int .i64 2)), none⟩] [4]) (.ret)) (.seq (.region [⟨some 16, .fld 0 (.t 2), none⟩,
    ⟨some 17, .load false 1 (.t 16), none⟩,
    ⟨some 18, .bin .eql .num (.t 17) (.c (.int .i64 1)), none⟩,
    ⟨some 15, .mov (.t 18), none⟩] [2, 3, 15]) (.cond (.t 15) (.seq (.region [⟨some 19, .fld 1 (.t 3), none⟩,
    ⟨some 20, .load false 1 (.t 19), none⟩,
    ⟨some 21, .fld 2 (.t 2), none⟩,
    ⟨some 22, .load false 1 (.t 21), none⟩,
    ⟨some 23, .bin .geq .num (.t 20) (.t 22), none⟩,
    ⟨some 24, .mov (.t 23), none⟩,
    ⟨some 25, .fld 1 (.t 3), some (24, true)⟩,
    ⟨some 26, .load false 1 (.t 25), some (24, true)⟩,
    ⟨some 27, .fld 3 (.t 2), some (24, true)⟩,
    ⟨some 28, .load false 1 (.t 27), some (24, true)⟩,
    ⟨some 29, .bin .leq .num (.t 26) (.t 28), some (24, true)⟩,
    ⟨some 30, .pick (.t 24) (.t 29) (.c (.bool false)), none⟩,
    ⟨some 31, .call 0 77 [.t 30], none⟩,
    ⟨some 4, .mov (.t 31), none⟩] [4]) (.ret)) (.seq (.region [⟨some 33, .fld 0 (.t 2), none⟩,
    ⟨some 34, .load false 1 (.t 33), none⟩,
    ⟨some 35, .bin .eql .num (.t 34) (.c (.int .i64 2)), none⟩,
    ⟨some 32, .mov (.t 35), none⟩] [2, 3, 32]) (.cond (.t 32) (.seq (.region [⟨some 36, .load true 3 (.t 3), none⟩,
    ⟨some 37, .fld 4 (.t 2), none⟩,
    ⟨some 38, .load false 1 (.t 37), none⟩,
    ⟨some 39, .call 0 78 [.t 36, .t 38], none⟩,
    ⟨some 40, .call 0 77 [.t 39], none⟩,
    ⟨some 4, .mov (.t 40), none⟩] [4]) (.ret)) (.skip)))))))))) (.seq (.region [⟨some 41, .fld 2 (.t 3), none⟩,
    ⟨some 42, .load false 1 (.t 41), none⟩,
    ⟨some 43, .fld 5 (.t 2), none⟩,
    ⟨some 44, .load false 1 (.t 43), none⟩,
    ⟨some 45, .call 0 79 [.t 42, .t 44], none⟩,
    ⟨some 46, .call 0 77 [.t 45], none⟩,
    ⟨some 4, .mov (.t 46), none⟩] [4]) (.ret)))⟩
/-! fenland/fenlandref08.Value -/
def f_R08_Value_l0u : ACode := .seq (.seq (.region [⟨some 6, .mov (.t 5), none⟩,
    ⟨some 7, .fld 0 (.t 2), none⟩,
    ⟨some 8, .load false 1 (.t 7), none⟩,
    ⟨some 9, .len false (.t 8), none⟩,
    ⟨some 10, .bin .lss .num (.t 6) (.t 9), none⟩] [1, 2, 4, 5, 10]) (.cond (.t 10) (.skip) (.exit 0))) (.seq (.block 1 (.seq (.region [⟨some 13, .fld 0 (.t 2), none⟩,
    ⟨some 14, .load false 1 (.t 13), none⟩,
    ⟨some 15, .mov (.t 5), none⟩,
    ⟨some 16, .idxa 4 (.t 14) (.t 15), none⟩,
    ⟨some 17, .fld 0 (.t 16), none⟩,
    ⟨some 18, .load false 1 (.t 17), none⟩,
    ⟨some 19, .mov (.t 1), none⟩,
    ⟨some 20, .bin .eql .num (.t 18) (.t 19), none⟩] [1, 2, 4, 5, 20]) (.cond (.t 20) (.seq (.region [⟨some 21, .fld 0 (.t 2), none⟩,
    ⟨some 22, .load false 1 (.t 21), none⟩,
    ⟨some 23, .mov (.t 5), none⟩,
    ⟨some 24, .idxa 4 (.t 22) (.t 23), none⟩,
    ⟨some 25, .fld 1 (.t 24), none⟩,
    ⟨some 26, .load true 3 (.t 25), none⟩,
    ⟨none, .store 3 (.t 4) (.t 26), none⟩] [4]) (.ret)) (.skip)))) (.region [⟨some 11, .mov (.t 5), none⟩,
    ⟨some 12, .bin .add .num (.t 11) (.c (.int .i64 1)), none⟩,
    ⟨some 5, .mov (.t 12), none⟩] [1, 2, 4, 5]))
def f_R08_Value_l0 : ACode := f_R08_Value_l0u
theorem f_R08_Value_l0_eq (G : Nat → Option AFunc) (base : Nat) (e : Env) (s : St) : Run G base f_R08_Value_l0 e s = Run G base f_R08_Value_l0u e s := (rfl)
def f_R08_Value : AFunc := ⟨2, false, [.cell 4 true 3],
  .seq (.region [⟨some 2, .box true 1 (.t 0), none⟩,
    ⟨some 4, .alloc [.bool false, .int .i64 0, .str ⟨#[]⟩] [], none⟩] [1, 2, 4]) (.seq (.seq (.region [⟨some 5, .mov (.c (.int .i64 0)), none⟩] [1, 2, 4, 5]) (.block 0 (.loop 1 [1, 2, 4, 5] f_R08_Value_l0))) (.seq (.region [⟨some 27, .build [.bool false, .int .i64 0, .str ⟨#[]⟩] [(0, 1, .c (.bool true))], none⟩,
    ⟨none, .store 3 (.t 4) (.t 27), none⟩] [4]) (.ret)))⟩
/-! fenland/fenlandref08.Eval -/
def f_R08_Eval_l0u : ACode := .seq (.seq (.region [⟨some 9, .mov (.t 7), none⟩,
    ⟨some 10, .fld 6 (.t 2), none⟩,
    ⟨some 11, .load false 1 (.t 10), none⟩,
    ⟨some 12, .len false (.t 11), none⟩,
    ⟨some 13, .bin .lss .num (.t 9) (.t 12), none⟩] [2, 3, 5, 6, 7, 13]) (.cond (.t 13) (.skip) (.exit 0))) (.seq (.block 1 (.seq (.region [⟨some 16, .fld 6 (.t 2), none⟩,
    ⟨some 17, .load false 1 (.t 16), none⟩,
    ⟨some 18, .mov (.t 7), none⟩,
    ⟨some 19, .idxa 7 (.t 17) (.t 18), none⟩,
    ⟨some 20, .load true 7 (.t 19), none⟩,
    ⟨some 21, .load true 1 (.t 3), none⟩,
    ⟨some 22, .call 0 80 [.t 20, .t 21], none⟩] [2, 3, 5, 6, 7, 22]) (.block 2 (.seq (.region [⟨some 24, .bin .eql .num (.t 22) (.c (.int .i64 1)), none⟩,
    ⟨some 23, .mov (.t 24), none⟩] [2, 3, 5, 6, 7, 22, 23]) (.cond (.t 23) (.region [⟨some 25, .mov (.t 5), none⟩,
    ⟨some 26, .bin .add .num (.t 25) (.c (.int .i64 1)), none⟩,
    ⟨some 5, .mov (.t 26), none⟩] [2, 3, 5, 6, 7]) (.seq (.region [⟨some 28, .bin .eql .num (.t 22) (.c (.int .i64 0)), none⟩,
    ⟨some 27, .mov (.t 28), none⟩] [2, 3, 5, 6, 7, 27]) (.cond (.t 27) (.region [⟨some 29, .mov (.t 6), none⟩,
    ⟨some 30, .bin .add .num (.t 29) (.c (.int .i64 1)), none⟩,
    ⟨some 6, .mov (.t 30), none⟩] [2, 3, 5, 6, 7]) (.skip)))))))) (.region [⟨some 14, .mov (.t 7), none⟩,
    ⟨some 15, .bin .add .num (.t 14) (.c (.int .i64 1)), none⟩,
    ⟨some 7, .mov (.t 15), none⟩] [2, 3, 5, 6, 7]))
def f_R08_Eval_l0 : ACode := f_R08_Eval_l0u
theorem f_R08_Eval_l0_eq (G : Nat → Option AFunc) (base : Nat) (e : Env) (s : St) : Run G base f_R08_Eval_l0 e s = Run G base f_R08_Eval_l0u e s := (rfl)
def f_R08_Eval : AFunc := ⟨2, false, [.t 4],
  .seq (.region [⟨some 2, .box true 7 (.t 0), none⟩,
    ⟨some 3, .box true 1 (.t 1), none⟩,
    ⟨some 4, .mov (.c (.int .i64 0)), none⟩] [2, 3]) (.seq (.region [⟨some 5, .mov (.c (.int .i64 0)), none⟩,
    ⟨some 6, .mov (.c (.int .i64 0)), none⟩] [2, 3, 5, 6]) (.seq (.seq (.region [⟨some 7, .mov (.c (.int .i64 0)), none⟩] [2, 3, 5, 6, 7]) (.block 0 (.loop 0 [2, 3, 5, 6, 7] f_R08_Eval_l0))) (.seq (.region [⟨some 31, .fld 6 (.t 2), none⟩,
    ⟨some 32, .load false 1 (.t 31), none⟩,
    ⟨some 33, .len false (.t 32), none⟩,
    ⟨some 8, .mov (.t 33), none⟩] [2, 3, 5, 6, 8]) (.seq (.seq (.region [⟨some 34, .fld 0 (.t 2), none⟩,
    ⟨some 35, .load false 1 (.t 34), none⟩] [2, 3, 5, 6, 8, 35]) (.block 3 (.seq (.region [⟨some 37, .bin .eql .num (.t 35) (.c (.int .i64 0)), none⟩,
    ⟨some 36, .mov (.t 37), none⟩] [2, 3, 5, 6, 8, 35, 36]) (.cond (.t 36) (.seq (.region [⟨some 4, .mov (.c (.int .i64 1)), none⟩] [4]) (.ret)) (.seq (.seq (.region [⟨some 39, .bin .eql .num (.t 35) (.c (.int .i64 1)), none⟩,
    ⟨some 38, .mov (.t 39), none⟩] [2, 3, 5, 6, 8, 35, 38]) (.cond (.t 38) (.skip) (.seq (.region [⟨some 40, .bin .eql .num (.t 35) (.c (.int .i64 2)), none⟩,
    ⟨some 38, .mov (.t 40), none⟩] [2, 3, 5, 6, 8, 35, 38]) (.cond (.t 38) (.skip) (.seq (.region [⟨some 41, .bin .eql .num (.t 35) (.c (.int .i64 3)), none⟩,
    ⟨some 38, .mov (.t 41), none⟩] [2, 3, 5, 6, 8, 35, 38]) (.cond (.t 38) (.skip) (.region [⟨some 42, .bin .eql .num (.t 35) (.c (.int .i64 4)), none⟩,
    ⟨some 38, .mov (.t 42), none⟩] [2, 3, 5, 6, 8, 35, 38]))))))) (.cond (.t 38) (.seq (.dregion [⟨some 43, .load true 7 (.t 2), none⟩,
    ⟨some 44, .load true 1 (.t 3), none⟩,
    ⟨some 45, .fld 1 (.t 2), none⟩,
    ⟨some 46, .load false 1 (.t 45), none⟩,
    ⟨some 47, .call 0 81 [.t 44, .t 46], none⟩,
    ⟨some 48, .call 0 82 [.t 43, .t 47], none⟩,
    ⟨some 4, .mov (.t 48), none⟩] [(0, 4)] [4]) (.ret)) (.seq (.region [⟨some 50, .bin .eql .num (.t 35) (.c (.int .i64 5)), none⟩,
    ⟨some 49, .mov (.t 50), none⟩] [5, 6, 8, 35, 49]) (.cond (.t 49) (.seq (.region [⟨some 51, .mov (.t 6), none⟩,
    ⟨some 52, .bin .gtr .num (.t 51) (.c (.int .i64 0)), none⟩,
    ⟨some 53, .mov (.t 52), none⟩,
    ⟨some 54, .mov (.t 5), some (53, false)⟩,
    ⟨some 55, .mov (.t 8), some (53, false)⟩,
    ⟨some 56, .bin .eql .num (.t 54) (.t 55), some (53, false)⟩,
    ⟨some 57, .pick (.t 53) (.c (.bool true)) (.t 56), none⟩] [6, 57]) (.cond (.t 57) (.seq (.region [⟨some 58, .mov (.t 6), none⟩,
    ⟨some 59, .bin .eql .num (.t 58) (.c (.int .i64 0)), none⟩,
    ⟨some 60, .call 0 77 [.t 59], none⟩,
    ⟨some 4, .mov (.t 60), none⟩] [4]) (.ret)) (.skip))) (.seq (.region [⟨some 62, .bin .eql .num (.t 35) (.c (.int .i64 6)), none⟩,
    ⟨some 61, .mov (.t 62), none⟩] [5, 6, 8, 35, 61]) (.cond (.t 61) (.seq (.region [⟨some 63, .mov (.t 5), none⟩,
    ⟨some 64, .bin .gtr .num (.t 63) (.c (.int .i64 0)), none⟩,
    ⟨some 65, .mov (.t 64), none⟩,
    ⟨some 66, .mov (.t 6), some (65, false)⟩,
    ⟨some 67, .mov (.t 8), some (65, false)⟩,
    ⟨some 68, .bin .eql .num (.t 66) (.t 67), some (65, false)⟩,
    ⟨some 69, .pick (.t 65) (.c (.bool true)) (.t 68), none⟩] [5, 69]) (.cond (.t 69) (.seq (.region [⟨some 70, .mov (.t 5), none⟩,
    ⟨some 71, .bin .gtr .num (.t 70) (.c (.int .i64 0)), none⟩,
    ⟨some 72, .call 0 77 [.t 71], none⟩,
    ⟨some 4, .mov (.t 72), none⟩] [4]) (.ret)) (.skip))) (.seq (.region [⟨some 74, .bin .eql .num (.t 35) (.c (.int .i64 7)), none⟩,
    ⟨some 73, .mov (.t 74), none⟩] [5, 6, 8, 73]) (.cond (.t 73) (.seq (.region [⟨some 75, .mov (.t 8), none⟩,
    ⟨some 76, .bin .eql .num (.t 75) (.c (.int .i64 1)), none⟩,
    ⟨some 77, .mov (.t 76), none⟩,
    ⟨some 78, .mov (.t 5), some (77, true)⟩,
    ⟨some 79, .mov (.t 6), some (77, true)⟩,
    ⟨some 80, .bin .add .num (.t 78) (.t 79), some (77, true)⟩,
    ⟨some 81, .bin .eql .num (.t 80) (.c (.int .i64 1)), some (77, true)⟩,
    ⟨some 82, .pick (.t 77) (.t 81) (.c (.bool false)), none⟩] [6, 82]) (.cond (.t 82) (.seq (.region [⟨some 83, .mov (.t 6), none⟩,
    ⟨some 84, .bin .eql .num (.t 83) (.c (.int .i64 1)), none⟩,
    ⟨some 85, .call 0 77 [.t 84], none⟩,
    ⟨some 4, .mov (.t 85), none⟩] [4]) (.ret)) (.skip))) (.skip))))))))))))) (.seq (.region [⟨some 4, .mov (.c (.int .i64 2)), none⟩] [4]) (.ret))))))⟩
/-! fenland/fenlandref08.Match -/
def f_R08_Match : AFunc := ⟨2, false, [.t 4],
  .seq (.region [⟨some 2, .box true 7 (.t 0), none⟩,
    ⟨some 3, .box true 1 (.t 1), none⟩,
    ⟨some 4, .mov (.c (.bool false)), none⟩] [2, 3]) (.seq (.region [⟨some 5, .load true 7 (.t 2), none⟩,
    ⟨some 6, .load true 1 (.t 3), none⟩,
    ⟨some 7, .call 0 80 [.t 5, .t 6], none⟩,
    ⟨some 8, .bin .eql .num (.t 7) (.c (.int .i64 1)), none⟩,
    ⟨some 4, .mov (.t 8), none⟩] [4]) (.ret))⟩
/-! fenland/fenlandref27.Touched -/
def f_R27_Touched_l1u : ACode := .seq (.seq (.region [⟨some 34, .mov (.t 7), none⟩,
    ⟨some 35, .fld 14 (.t 2), none⟩,
    ⟨some 36, .load false 1 (.t 35), none⟩,
    ⟨some 37, .len false (.t 36), none⟩,
    ⟨some 38, .bin .lss .num (.t 34) (.t 37), none⟩] [2, 3, 5, 7, 38]) (.cond (.t 38) (.skip) (.exit 2))) (.seq (.block 3 (.region [⟨some 41, .mov (.t 5), none⟩,
    ⟨some 42, .fld 0 (.t 3), none⟩,
    ⟨some 43, .load false 1 (.t 42), none⟩,
    ⟨some 44, .mov (.t 7), none⟩,
    ⟨some 45, .bin .add .num (.t 43) (.t 44), none⟩,
    ⟨some 46, .fld 14 (.t 2), none⟩,
    ⟨some 47, .load false 1 (.t 46), none⟩,
    ⟨some 48, .mov (.t 7), none⟩,
    ⟨some 49, .idxa 1 (.t 47) (.t 48), none⟩,
    ⟨some 50, .load true 1 (.t 49), none⟩,
    ⟨some 51, .build [.int .i64 0, .nils] [(0, 1, .t 45), (1, 1, .t 50)], none⟩,
    ⟨some 52, .build [.int .i64 0, .int .i64 0, .nils] [(0, 1, .c (.int .i64 1)), (1, 2, .t 51)], none⟩,
    ⟨some 53, .lit false 3 [.int .i64 0, .int .i64 0, .nils] 1 [(0, .t 52)], none⟩,
    ⟨some 54, .append true 3 40 (.t 41) (.t 53), none⟩,
    ⟨some 5, .mov (.t 54), none⟩] [2, 3, 5, 7])) (.region [⟨some 39, .mov (.t 7), none⟩,
    ⟨some 40, .bin .add .num (.t 39) (.c (.int .i64 1)), none⟩,
    ⟨some 7, .mov (.t 40), none⟩] [2, 3, 5, 7]))
def f_R27_Touched_l1 : ACode := f_R27_Touched_l1u
theorem f_R27_Touched_l1_eq (G : Nat → Option AFunc) (base : Nat) (e : Env) (s : St) : Run G base f_R27_Touched_l1 e s = Run G base f_R27_Touched_l1u e s := (rfl)
def f_R27_Touched_l0u : ACode := .seq (.seq (.region [⟨some 9, .mov (.t 6), none⟩,
    ⟨some 10, .fld 1 (.t 3), none⟩,
    ⟨some 11, .load false 1 (.t 10), none⟩,
    ⟨some 12, .len false (.t 11), none⟩,
    ⟨some 13, .bin .lss .num (.t 9) (.t 12), none⟩] [2, 3, 5, 6, 13]) (.cond (.t 13) (.skip) (.exit 0))) (.seq (.block 1 (.seq (.region [⟨some 16, .fld 7 (.t 2), none⟩,
    ⟨some 17, .load true 7 (.t 16), none⟩,
    ⟨some 18, .fld 1 (.t 3), none⟩,
    ⟨some 19, .load false 1 (.t 18), none⟩,
    ⟨some 20, .mov (.t 6), none⟩,
    ⟨some 21, .idxa 2 (.t 19) (.t 20), none⟩,
    ⟨some 22, .fld 1 (.t 21), none⟩,
    ⟨some 23, .load true 1 (.t 22), none⟩,
    ⟨some 24, .call 0 83 [.t 17, .t 23], none⟩] [2, 3, 5, 6, 24]) (.cond (.t 24) (.region [⟨some 25, .mov (.t 5), none⟩,
    ⟨some 26, .fld 1 (.t 3), none⟩,
    ⟨some 27, .load false 1 (.t 26), none⟩,
    ⟨some 28, .mov (.t 6), none⟩,
    ⟨some 29, .idxa 2 (.t 27) (.t 28), none⟩,
    ⟨some 30, .load true 2 (.t 29), none⟩,
    ⟨some 31, .build [.int .i64 0, .int .i64 0, .nils] [(0, 1, .c (.int .i64 2)), (1, 2, .t 30)], none⟩,
    ⟨some 32, .lit false 3 [.int .i64 0, .int .i64 0, .nils] 1 [(0, .t 31)], none⟩,
    ⟨some 33, .append true 3 40 (.t 25) (.t 32), none⟩,
    ⟨some 5, .mov (.t 33), none⟩] [2, 3, 5, 6]) (.skip)))) (.region [⟨some 14, .mov (.t 6), none⟩,
    ⟨some 15, .bin .add .num (.t 14) (.c (.int .i64 1)), none⟩,
    ⟨some 6, .mov (.t 15), none⟩] [2, 3, 5, 6]))
def f_R27_Touched_l0 : ACode := f_R27_Touched_l0u
theorem f_R27_Touched_l0_eq (G : Nat → Option AFunc) (base : Nat) (e : Env) (s : St) : Run G base f_R27_Touched_l0 e s = Run G base f_R27_Touched_l0u e s := (rfl)
def f_R27_Touched : AFunc := ⟨2, false, [.t 4],
  .seq (.region [⟨some 2, .box true 16 (.t 0), none⟩,
    ⟨some 3, .box true 2 (.t 1), none⟩,
    ⟨some 4, .mov (.c .nils), none⟩] [2, 3]) (.seq (.region [⟨some 8, .lit true 3 [.int .i64 0, .int .i64 0, .nils] 0 [], none⟩,
    ⟨some 5, .mov (.t 8), none⟩] [2, 3, 5]) (.seq (.seq (.region [⟨some 6, .mov (.c (.int .i64 0)), none⟩] [2, 3, 5, 6]) (.block 0 (.loop 1 [2, 3, 5, 6] f_R27_Touched_l0))) (.seq (.seq (.region [⟨some 7, .mov (.c (.int .i64 0)), none⟩] [2, 3, 5, 7]) (.block 2 (.loop 1 [2, 3, 5, 7] f_R27_Touched_l1))) (.seq (.region [⟨some 55, .mov (.t 5), none⟩,
    ⟨some 4, .mov (.t 55), none⟩] [4]) (.ret)))))⟩
/-! fenland/fenlandref06.Get -/
def f_R06_Get_l0u : ACode := .seq (.seq (.region [⟨some 6, .mov (.t 5), none⟩,
    ⟨some 7, .fld 0 (.t 2), none⟩,
    ⟨some 8, .load false 1 (.t 7), none⟩,
    ⟨some 9, .len false (.t 8), none⟩,
    ⟨some 10, .bin .lss .num (.t 6) (.t 9), none⟩] [1, 2, 4, 5, 10]) (.cond (.t 10) (.skip) (.exit 0))) (.seq (.block 1 (.seq (.region [⟨some 13, .fld 0 (.t 2), none⟩,
    ⟨some 14, .load false 1 (.t 13), none⟩,
    ⟨some 15, .mov (.t 5), none⟩,
    ⟨some 16, .idxa 4 (.t 14) (.t 15), none⟩,
    ⟨some 17, .fld 0 (.t 16), none⟩,
    ⟨some 18, .load false 1 (.t 17), none⟩,
    ⟨some 19, .mov (.t 1), none⟩,
    ⟨some 20, .bin .eql .num (.t 18) (.t 19), none⟩] [1, 2, 4, 5, 20]) (.cond (.t 20) (.seq (.region [⟨some 21, .fld 0 (.t 2), none⟩,
    ⟨some 22, .load false 1 (.t 21), none⟩,
    ⟨some 23, .mov (.t 5), none⟩,
    ⟨some 24, .idxa 4 (.t 22) (.t 23), none⟩,
    ⟨some 25, .fld 1 (.t 24), none⟩,
    ⟨some 26, .load true 3 (.t 25), none⟩,
    ⟨none, .store 3 (.t 4) (.t 26), none⟩] [4]) (.ret)) (.skip)))) (.region [⟨some 11, .mov (.t 5), none⟩,
    ⟨some 12, .bin .add .num (.t 11) (.c (.int .i64 1)), none⟩,
    ⟨some 5, .mov (.t 12), none⟩] [1, 2, 4, 5]))
def f_R06_Get_l0 : ACode := f_R06_Get_l0u
theorem f_R06_Get_l0_eq (G : Nat → Option AFunc) (base : Nat) (e : Env) (s : St) : Run G base f_R06_Get_l0 e s = Run G base f_R06_Get_l0u e s := (rfl)
def f_R06_Get : AFunc := ⟨2, false, [.cell 4 true 3],
  .seq (.region [⟨some 2, .box true 1 (.t 0), none⟩,
    ⟨some 4, .alloc [.bool false, .int .i64 0, .str ⟨#[]⟩] [], none⟩] [1, 2, 4]) (.seq (.seq (.region [⟨some 5, .mov (.c (.int .i64 0)), none⟩] [1, 2, 4, 5]) (.block 0 (.loop 1 [1, 2, 4, 5] f_R06_Get_l0))) (.seq (.region [⟨some 27, .build [.bool false, .int .i64 0, .str ⟨#[]⟩] [(0, 1, .c (.bool true))], none⟩,
    ⟨none, .store 3 (.t 4) (.t 27), none⟩] [4]) (.ret)))⟩
/-! fenland/fenlandref27.Sum -/
def f_R27_Sum_l0u : ACode := .seq (.seq (.region [⟨some 8, .mov (.t 6), none⟩,
    ⟨some 9, .fld 1 (.t 3), none⟩,
    ⟨some 10, .load false 1 (.t 9), none⟩,
    ⟨some 11, .len false (.t 10), none⟩,
    ⟨some 12, .bin .lss .num (.t 8) (.t 11), none⟩] [2, 3, 5, 6, 12]) (.cond (.t 12) (.skip) (.exit 0))) (.seq (.block 1 (.seq (.dregion [⟨some 15, .fld 1 (.t 3), none⟩,
    ⟨some 16, .load false 1 (.t 15), none⟩,
    ⟨some 17, .mov (.t 6), none⟩,
    ⟨some 18, .idxa 2 (.t 16) (.t 17), none⟩,
    ⟨some 19, .fld 1 (.t 18), none⟩,
    ⟨some 20, .load true 1 (.t 19), none⟩,
    ⟨some 21, .fld 7 (.t 2), none⟩,
    ⟨some 22, .load false 1 (.t 21), none⟩,
    ⟨some 23, .call 0 84 [.t 20, .t 22], none⟩,
    ⟨some 7, .alloc [.bool false, .int .i64 0, .str ⟨#[]⟩] [], none⟩,
    ⟨none, .store 3 (.t 7) (.t 23), none⟩] [(8, 9)] [2, 3, 5, 6, 7]) (.seq (.region [⟨some 24, .fld 0 (.t 2), none⟩,
    ⟨some 25, .load true 7 (.t 24), none⟩,
    ⟨some 26, .fld 1 (.t 3), none⟩,
    ⟨some 27, .load false 1 (.t 26), none⟩,
    ⟨some 28, .mov (.t 6), none⟩,
    ⟨some 29, .idxa 2 (.t 27) (.t 28), none⟩,
    ⟨some 30, .fld 1 (.t 29), none⟩,
    ⟨some 31, .load true 1 (.t 30), none⟩,
    ⟨some 32, .call 0 83 [.t 25, .t 31], none⟩,
    ⟨some 33, .mov (.t 32), none⟩,
    ⟨some 34, .fld 0 (.t 7), some (33, true)⟩,
    ⟨some 35, .load false 1 (.t 34), some (33, true)⟩,
    ⟨some 36, .not (.t 35), some (33, true)⟩,
    ⟨some 37, .pick (.t 33) (.t 36) (.c (.bool false)), none⟩] [2, 3, 5, 6, 7, 37]) (.cond (.t 37) (.region [⟨some 38, .mov (.t 5), none⟩,
    ⟨some 39, .fld 1 (.t 7), none⟩,
    ⟨some 40, .load false 1 (.t 39), none⟩,
    ⟨some 41, .bin .add .num (.t 38) (.t 40), none⟩,
    ⟨some 5, .mov (.t 41), none⟩] [2, 3, 5, 6]) (.skip))))) (.region [⟨some 13, .mov (.t 6), none⟩,
    ⟨some 14, .bin .add .num (.t 13) (.c (.int .i64 1)), none⟩,
    ⟨some 6, .mov (.t 14), none⟩] [2, 3, 5, 6]))
def f_R27_Sum_l0 : ACode := f_R27_Sum_l0u
theorem f_R27_Sum_l0_eq (G : Nat → Option AFunc) (base : Nat) (e : Env) (s : St) : Run G base f_R27_Sum_l0 e s = Run G base f_R27_Sum_l0u e s := (rfl)
def f_R27_Sum : AFunc := ⟨2, false, [.t 4],
  .seq (.region [⟨some 2, .box true 10 (.t 0), none⟩,
    ⟨some 3, .box true 2 (.t 1), none⟩,
    ⟨some 4, .mov (.c (.int .i64 0)), none⟩] [2, 3]) (.seq (.region [⟨some 5, .mov (.c (.int .i64 0)), none⟩] [2, 3, 5]) (.seq (.seq (.region [⟨some 6, .mov (.c (.int .i64 0)), none⟩] [2, 3, 5, 6]) (.block 0 (.loop 0 [2, 3, 5, 6] f_R27_Sum_l0))) (.seq (.region [⟨some 42, .mov (.t 5), none⟩,
    ⟨some 4, .mov (.t 42), none⟩] [4]) (.ret))))⟩
/-! fenland/fenlandref27.Check -/
def f_R27_Check_l0u : ACode := .seq (.seq (.region [⟨some 8, .mov (.t 6), none⟩,
    ⟨some 9, .fld 15 (.t 2), none⟩,
    ⟨some 10, .load false 1 (.t 9), none⟩,
    ⟨some 11, .len false (.t 10), none⟩,
    ⟨some 12, .bin .lss .num (.t 8) (.t 11), none⟩] [2, 3, 6, 12]) (.cond (.t 12) (.skip) (.exit 0))) (.seq (.block 1 (.seq (.region [⟨some 15, .fld 15 (.t 2), none⟩,
    ⟨some 16, .load false 1 (.t 15), none⟩,
    ⟨some 17, .mov (.t 6), none⟩,
    ⟨some 18, .idxa 10 (.t 16) (.t 17), none⟩,
    ⟨some 19, .load true 10 (.t 18), none⟩,
    ⟨some 20, .load true 2 (.t 3), none⟩,
    ⟨some 21, .call 0 85 [.t 19, .t 20], none⟩,
    ⟨some 7, .mov (.t 21), none⟩] [2, 3, 6, 7]) (.seq (.region [⟨some 22, .mov (.t 7), none⟩,
    ⟨some 23, .fld 15 (.t 2), none⟩,
    ⟨some 24, .load false 1 (.t 23), none⟩,
    ⟨some 25, .mov (.t 6), none⟩,
    ⟨some 26, .idxa 10 (.t 24) (.t 25), none⟩,
    ⟨some 27, .fld 8 (.t 26), none⟩,
    ⟨some 28, .load false 1 (.t 27), none⟩,
    ⟨some 29, .bin .lss .num (.t 22) (.t 28), none⟩,
    ⟨some 30, .mov (.t 29), none⟩,
    ⟨some 31, .mov (.t 7), some (30, false)⟩,
    ⟨some 32, .fld 15 (.t 2), some (30, false)⟩,
    ⟨some 33, .load false 1 (.t 32), some (30, false)⟩,
    ⟨some 34, .mov (.t 6), some (30, false)⟩,
    ⟨some 35, .idxa 10 (.t 33) (.t 34), some (30, false)⟩,
    ⟨some 36, .fld 9 (.t 35), some (30, false)⟩,
    ⟨some 37, .load false 1 (.t 36), some (30, false)⟩,
    ⟨some 38, .bin .gtr .num (.t 31) (.t 37), some (30, false)⟩,
    ⟨some 39, .pick (.t 30) (.c (.bool true)) (.t 38), none⟩] [2, 3, 6, 39]) (.cond (.t 39) (.seq (.region [⟨some 40, .mov (.t 6), none⟩,
    ⟨some 4, .mov (.t 40), none⟩,
    ⟨some 5, .mov (.c (.int .i64 270)), none⟩] [4, 5]) (.ret)) (.skip))))) (.region [⟨some 13, .mov (.t 6), none⟩,
    ⟨some 14, .bin .add .num (.t 13) (.c (.int .i64 1)), none⟩,
    ⟨some 6, .mov (.t 14), none⟩] [2, 3, 6]))
def f_R27_Check_l0 : ACode := f_R27_Check_l0u
theorem f_R27_Check_l0_eq (G : Nat → Option AFunc) (base : Nat) (e : Env) (s : St) : Run G base f_R27_Check_l0 e s = Run G base f_R27_Check_l0u e s := (rfl)
def f_R27_Check : AFunc := ⟨2, false, [.t 4, .t 5],
  .seq (.region [⟨some 2, .box true 16 (.t 0), none⟩,
    ⟨some 3, .box true 2 (.t 1), none⟩,
    ⟨some 4, .mov (.c (.int .i64 0)), none⟩,
    ⟨some 5, .mov (.c (.int .i64 0)), none⟩] [2, 3]) (.seq (.seq (.region [⟨some 6, .mov (.c (.int .i64 0)), none⟩] [2, 3, 6]) (.block 0 (.loop 0 [2, 3, 6] f_R27_Check_l0))) (.seq (.region [⟨some 41, .fld 15 (.t 2), none⟩,
    ⟨some 42, .load false 1 (.t 41), none⟩,
    ⟨some 43, .len false (.t 42), none⟩,
    ⟨some 4, .mov (.t 43), none⟩,
    ⟨some 5, .mov (.c (.int .i64 0)), none⟩] [4, 5]) (.ret)))⟩
/-! fenland/fenlandref27.Run -/
def f_R27_Run_l1u : ACode := .seq (.seq (.region [⟨some 51, .mov (.t 10), none⟩,
    ⟨some 52, .fld 14 (.t 2), none⟩,
    ⟨some 53, .load false 1 (.t 52), none⟩,
    ⟨some 54, .len false (.t 53), none⟩,
    ⟨some 55, .bin .lss .num (.t 51) (.t 54), none⟩] [2, 4, 8, 10, 55]) (.cond (.t 55) (.skip) (.exit 2))) (.seq (.block 3 (.seq (.region [⟨some 58, .fld 1 (.t 8), none⟩,
    ⟨some 59, .load false 1 (.t 58), none⟩,
    ⟨some 60, .fld 0 (.t 8), none⟩,
    ⟨some 61, .load false 1 (.t 60), none⟩,
    ⟨some 62, .fld 14 (.t 2), none⟩,
    ⟨some 63, .load false 1 (.t 62), none⟩,
    ⟨some 64, .mov (.t 10), none⟩,
    ⟨some 65, .idxa 1 (.t 63) (.t 64), none⟩,
    ⟨some 66, .load true 1 (.t 65), none⟩,
    ⟨some 67, .build [.int .i64 0, .nils] [(0, 1, .t 61), (1, 1, .t 66)], none⟩,
    ⟨some 68, .lit false 2 [.int .i64 0, .nils] 1 [(0, .t 67)], none⟩,
    ⟨some 69, .append true 2 32 (.t 59) (.t 68), none⟩,
    ⟨some 70, .fld 1 (.t 8), none⟩,
    ⟨none, .store 1 (.t 70) (.t 69), none⟩] [2, 4, 8, 10]) (.region [⟨some 71, .fld 0 (.t 8), none⟩,
    ⟨some 72, .load false 1 (.t 71), none⟩,
    ⟨some 73, .bin .add .num (.t 72) (.c (.int .i64 1)), none⟩,
    ⟨some 74, .fld 0 (.t 8), none⟩,
    ⟨none, .store 1 (.t 74) (.t 73), none⟩] [2, 4, 8, 10]))) (.region [⟨some 56, .mov (.t 10), none⟩,
    ⟨some 57, .bin .add .num (.t 56) (.c (.int .i64 1)), none⟩,
    ⟨some 10, .mov (.t 57), none⟩] [2, 4, 8, 10]))
def f_R27_Run_l1 : ACode := f_R27_Run_l1u
theorem f_R27_Run_l1_eq (G : Nat → Option AFunc) (base : Nat) (e : Env) (s : St) : Run G base f_R27_Run_l1 e s = Run G base f_R27_Run_l1u e s := (rfl)
def f_R27_Run_l0u : ACode := .seq (.seq (.region [⟨some 24, .mov (.t 9), none⟩,
    ⟨some 25, .fld 1 (.t 3), none⟩,
    ⟨some 26, .load false 1 (.t 25), none⟩,
    ⟨some 27, .len false (.t 26), none⟩,
    ⟨some 28, .bin .lss .num (.t 24) (.t 27), none⟩] [2, 3, 4, 8, 9, 28]) (.cond (.t 28) (.skip) (.exit 0))) (.seq (.block 1 (.seq (.region [⟨some 31, .fld 7 (.t 2), none⟩,
    ⟨some 32, .load true 7 (.t 31), none⟩,
    ⟨some 33, .fld 1 (.t 3), none⟩,
    ⟨some 34, .load false 1 (.t 33), none⟩,
    ⟨some 35, .mov (.t 9), none⟩,
    ⟨some 36, .idxa 2 (.t 34) (.t 35), none⟩,
    ⟨some 37, .fld 1 (.t 36), none⟩,
    ⟨some 38, .load true 1 (.t 37), none⟩,
    ⟨some 39, .call 0 83 [.t 32, .t 38], none⟩,
    ⟨some 40, .not (.t 39), none⟩] [2, 3, 4, 8, 9, 40]) (.cond (.t 40) (.region [⟨some 41, .fld 1 (.t 8), none⟩,
    ⟨some 42, .load false 1 (.t 41), none⟩,
    ⟨some 43, .fld 1 (.t 3), none⟩,
    ⟨some 44, .load false 1 (.t 43), none⟩,
    ⟨some 45, .mov (.t 9), none⟩,
    ⟨some 46, .idxa 2 (.t 44) (.t 45), none⟩,
    ⟨some 47, .load true 2 (.t 46), none⟩,
    ⟨some 48, .lit false 2 [.int .i64 0, .nils] 1 [(0, .t 47)], none⟩,
    ⟨some 49, .append true 2 32 (.t 42) (.t 48), none⟩,
    ⟨some 50, .fld 1 (.t 8), none⟩,
    ⟨none, .store 1 (.t 50) (.t 49), none⟩] [2, 3, 4, 8, 9]) (.skip)))) (.region [⟨some 29, .mov (.t 9), none⟩,
    ⟨some 30, .bin .add .num (.t 29) (.c (.int .i64 1)), none⟩,
    ⟨some 9, .mov (.t 30), none⟩] [2, 3, 4, 8, 9]))
def f_R27_Run_l0 : ACode := f_R27_Run_l0u
theorem f_R27_Run_l0_eq (G : Nat → Option AFunc) (base : Nat) (e : Env) (s : St) : Run G base f_R27_Run_l0 e s = Run G base f_R27_Run_l0u e s := (rfl)
def f_R27_Run : AFunc := ⟨2, false, [.cell 4 true 2, .t 5],
  .seq (.region [⟨some 2, .box true 16 (.t 0), none⟩,
    ⟨some 3, .box true 2 (.t 1), none⟩,
    ⟨some 4, .alloc [.int .i64 0, .nils] [], none⟩,
    ⟨some 5, .mov (.c (.int .i64 0)), none⟩] [2, 3, 4]) (.seq (.region [⟨some 12, .load true 16 (.t 2), none⟩,
    ⟨some 13, .load true 2 (.t 3), none⟩,
    ⟨some 14, .call 0 86 [.t 12, .t 13], none⟩,
    ⟨some 11, .mov (.t 14), none⟩,
    ⟨some 15, .extract (.t 11) 0, none⟩,
    ⟨some 16, .extract (.t 11) 1, none⟩,
    ⟨some 6, .mov (.t 15), none⟩,
    ⟨some 7, .mov (.t 16), none⟩] [2, 3, 4, 7]) (.seq (.seq (.region [⟨some 17, .mov (.t 7), none⟩,
    ⟨some 18, .bin .neq .num (.t 17) (.c (.int .i64 0)), none⟩] [2, 3, 4, 7, 18]) (.cond (.t 18) (.seq (.region [⟨some 19, .build [.int .i64 0, .nils] [], none⟩,
    ⟨some 20, .mov (.t 7), none⟩,
    ⟨none, .store 2 (.t 4) (.t 19), none⟩,
    ⟨some 5, .mov (.t 20), none⟩] [4, 5]) (.ret)) (.skip))) (.seq (.region [⟨some 21, .fld 0 (.t 3), none⟩,
    ⟨some 22, .load false 1 (.t 21), none⟩,
    ⟨some 23, .buildp [.int .i64 0, .nils] [(0, 1, .t 22)] [(1, 2)], none⟩,
    ⟨some 8, .alloc [.int .i64 0, .nils] [], none⟩,
    ⟨none, .store 2 (.t 8) (.t 23), none⟩] [2, 3, 4, 8]) (.seq (.seq (.region [⟨some 9, .mov (.c (.int .i64 0)), none⟩] [2, 3, 4, 8, 9]) (.block 0 (.loop 3 [2, 3, 4, 8, 9] f_R27_Run_l0))) (.seq (.seq (.region [⟨some 10, .mov (.c (.int .i64 0)), none⟩] [2, 4, 8, 10]) (.block 2 (.loop 3 [2, 4, 8, 10] f_R27_Run_l1))) (.seq (.seq (.region [⟨some 75, .fld 1 (.t 8), none⟩,
    ⟨some 76, .load false 1 (.t 75), none⟩,
    ⟨some 77, .len false (.t 76), none⟩,
    ⟨some 78, .bin .gtr .num (.t 77) (.c (.int .i64 4096)), none⟩,
    ⟨some 79, .mov (.t 78), none⟩,
    ⟨some 80, .fld 0 (.t 8), some (79, false)⟩,
    ⟨some 81, .load false 1 (.t 80), some (79, false)⟩,
    ⟨some 82, .bin .gtr .num (.t 81) (.c (.int .i64 4611686018427387904)), some (79, false)⟩,
    ⟨some 83, .pick (.t 79) (.c (.bool true)) (.t 82), none⟩] [4, 8, 83]) (.cond (.t 83) (.seq (.region [⟨some 84, .build [.int .i64 0, .nils] [], none⟩,
    ⟨none, .store 2 (.t 4) (.t 84), none⟩,
    ⟨some 5, .mov (.c (.int .i64 2)), none⟩] [4, 5]) (.ret)) (.skip))) (.seq (.region [⟨some 85, .load true 2 (.t 8), none⟩,
    ⟨none, .store 2 (.t 4) (.t 85), none⟩,
    ⟨some 5, .mov (.c (.int .i64 0)), none⟩] [4, 5]) (.ret))))))))⟩
/-! fenland/fenlandlaw29.LineagePrograms -/
def f_L29_LineagePrograms : AFunc := ⟨1, false, [.t 2],
  .seq (.region [⟨some 1, .box true 18 (.t 0), none⟩,
    ⟨some 2, .mov (.c (.bool false)), none⟩] [1]) (.seq (.region [⟨some 16, .call 0 36 [], none⟩,
    ⟨some 3, .mov (.t 16), none⟩] [1, 3]) (.seq (.region [⟨some 18, .fld 0 (.t 1), none⟩,
    ⟨some 19, .load false 1 (.t 18), none⟩,
    ⟨some 20, .call 0 87 [.t 19, .c (.int .i64 20)], none⟩,
    ⟨some 21, .call 0 88 [.t 20], none⟩,
    ⟨some 17, .mov (.t 21), none⟩,
    ⟨some 22, .extract (.t 17) 0, none⟩,
    ⟨some 23, .extract (.t 17) 1, none⟩,
    ⟨some 24, .extract (.t 17) 2, none⟩,
    ⟨some 4, .alloc [.nils, .int .i64 0] [], none⟩,
    ⟨none, .store 2 (.t 4) (.t 22), none⟩,
    ⟨some 5, .mov (.t 23), none⟩,
    ⟨some 6, .mov (.t 24), none⟩] [1, 3, 4]) (.seq (.xregion 2 [⟨some 25, .load true 2 (.t 4), none⟩,
    ⟨some 26, .fld 2 (.t 1), none⟩,
    ⟨some 27, .load true 16 (.t 26), none⟩,
    ⟨some 28, .call 0 89 [.t 25, .t 27], none⟩,
    ⟨some 29, .load true 2 (.t 4), none⟩,
    ⟨some 30, .fld 1 (.t 1), none⟩,
    ⟨some 31, .load false 1 (.t 30), none⟩,
    ⟨some 32, .call 0 90 [.t 29, .t 31, .c (.int .i64 40)], none⟩,
    ⟨some 7, .slot 2 (.alloc [.int .i64 0, .int .i64 0, .int .i64 0, .int .i64 0, .nils, .str ⟨#[]⟩, .nils, .int .i64 0, .int .i64 0, .int .i64 0, .int .i64 0, .nils, .str ⟨#[]⟩, .nils, .nils, .nils] []), none⟩,
    ⟨some 8, .slot 1 (.alloc [.int .i64 0, .nils] []), none⟩,
    ⟨none, .store 16 (.t 7) (.t 28), none⟩,
    ⟨none, .store 2 (.t 8) (.t 32), none⟩] [(3, 4), (3, 6), (0, 8), (2, 8), (3, 8), (4, 8), (6, 8), (7, 8), (0, 9), (2, 9), (3, 9), (4, 9), (6, 9), (7, 9), (8, 9)] [3, 7, 8]) (.seq (.region [⟨some 33, .fld 15 (.t 7), none⟩,
    ⟨none, .store 1 (.t 33) (.c .nils), none⟩] [3, 7, 8]) (.seq (.region [⟨some 34, .load true 16 (.t 7), none⟩,
    ⟨some 35, .load true 2 (.t 8), none⟩,
    ⟨some 36, .call 0 91 [.t 34, .t 35], none⟩,
    ⟨some 9, .mov (.t 36), none⟩] [3, 7, 8, 9]) (.seq (.region [⟨some 38, .load true 16 (.t 7), none⟩,
    ⟨some 39, .load true 2 (.t 8), none⟩,
    ⟨some 40, .call 0 92 [.t 38, .t 39], none⟩,
    ⟨some 37, .mov (.t 40), none⟩,
    ⟨some 41, .extract (.t 37) 0, none⟩,
    ⟨some 42, .extract (.t 37) 1, none⟩,
    ⟨some 10, .alloc [.int .i64 0, .nils] [], none⟩,
    ⟨none, .store 2 (.t 10) (.t 41), none⟩,
    ⟨some 11, .mov (.t 42), none⟩] [3, 8, 9, 10, 11]) (.seq (.region [⟨some 44, .load true 2 (.t 8), none⟩,
    ⟨some 45, .mov (.t 9), none⟩,
    ⟨some 46, .call 0 17 [.t 44, .t 45], none⟩,
    ⟨some 43, .mov (.t 46), none⟩,
    ⟨some 47, .extract (.t 43) 0, none⟩,
    ⟨some 48, .extract (.t 43) 1, none⟩,
    ⟨some 12, .alloc [.int .i64 0, .nils] [], none⟩,
    ⟨none, .store 2 (.t 12) (.t 47), none⟩,
    ⟨some 13, .mov (.t 48), none⟩] [3, 8, 9, 10, 11, 12, 13]) (.seq (.xregion 1 [⟨some 50, .load true 2 (.t 12), none⟩,
    ⟨some 51, .mov (.t 9), none⟩,
    ⟨some 52, .call 0 24 [.t 51], none⟩,
    ⟨some 53, .call 0 17 [.t 50, .t 52], none⟩,
    ⟨some 49, .mov (.t 53), none⟩,
    ⟨some 54, .extract (.t 49) 0, none⟩,
    ⟨some 55, .extract (.t 49) 1, none⟩,
    ⟨some 14, .slot 1 (.alloc [.int .i64 0, .nils] []), none⟩,
    ⟨none, .store 2 (.t 14) (.t 54), none⟩,
    ⟨some 15, .mov (.t 55), none⟩] [(0, 2), (0, 7), (2, 7), (3, 7)] [3, 8, 9, 10, 11, 12, 13, 14, 15]) (.seq (.region [⟨some 56, .mov (.t 11), none⟩,
    ⟨some 57, .bin .eql .num (.t 56) (.c (.int .i64 0)), none⟩,
    ⟨some 58, .mov (.t 57), none⟩,
    ⟨some 59, .mov (.t 13), some (58, true)⟩,
    ⟨some 60, .bin .eql .num (.t 59) (.c (.int .i64 0)), some (58, true)⟩,
    ⟨some 61, .pick (.t 58) (.t 60) (.c (.bool false)), none⟩,
    ⟨some 62, .mov (.t 61), none⟩,
    ⟨some 63, .mov (.t 15), some (62, true)⟩,
    ⟨some 64, .bin .eql .num (.t 63) (.c (.int .i64 0)), some (62, true)⟩,
    ⟨some 65, .pick (.t 62) (.t 64) (.c (.bool false)), none⟩,
    ⟨some 66, .mov (.t 65), none⟩,
    ⟨some 67, .load true 2 (.t 10), some (66, true)⟩,
    ⟨some 68, .load true 2 (.t 12), some (66, true)⟩,
    ⟨some 69, .call 0 26 [.t 67, .t 68], some (66, true)⟩,
    ⟨some 70, .pick (.t 66) (.t 69) (.c (.bool false)), none⟩,
    ⟨some 71, .mov (.t 70), none⟩,
    ⟨some 72, .fld 1 (.t 14), some (71, true)⟩,
    ⟨some 73, .load false 1 (.t 72), some (71, true)⟩,
    ⟨some 74, .fld 1 (.t 8), some (71, true)⟩,
    ⟨some 75, .load false 1 (.t 74), some (71, true)⟩,
    ⟨some 76, .call 0 16 [.t 73, .t 75], some (71, true)⟩,
    ⟨some 77, .pick (.t 71) (.t 76) (.c (.bool false)), none⟩,
    ⟨some 78, .mov (.t 77), none⟩,
    ⟨some 79, .load true 2 (.t 8), some (78, true)⟩,
    ⟨some 80, .load true 2 (.t 10), some (78, true)⟩,
    ⟨some 81, .call 0 21 [.t 79, .t 80], some (78, true)⟩,
    ⟨some 82, .mov (.t 9), some (78, true)⟩,
    ⟨some 83, .call 0 25 [.t 81, .t 82], some (78, true)⟩,
    ⟨some 84, .pick (.t 78) (.t 83) (.c (.bool false)), none⟩,
    ⟨some 85, .mov (.t 84), none⟩,
    ⟨some 86, .mov (.t 3), some (85, true)⟩,
    ⟨some 87, .pick (.t 85) (.t 86) (.c (.bool false)), none⟩,
    ⟨some 2, .mov (.t 87), none⟩] [2]) (.ret))))))))))⟩
def prog : Nat → Option AFunc
  | 5 => some f_lineage_Valid
  | 1 => some f_slices_Equal_api_Cell_api_Cell
  | 2 => some f_lineage_equal
  | 6 => some f_lineage_isFeed
  | 9 => some f_lineage_merge_api_Line_lineage_item
  | 7 => some f_lineage_items
  | 10 => some f_lineage_ofLine
  | 11 => some f_lineage_ofItem
  | 3 => some f_lineage_row
  | 4 => some f_lineage_same
  | 8 => some f_lineage_Apply_1
  | 17 => some f_lineage_Apply
  | 12 => some f_R06_SameRow
  | 25 => some f_R29_Events
  | 14 => some f_lineage_merge_api_Line_api_Line
  | 13 => some f_lineage_Feed_1
  | 15 => some f_lineage_events
  | 21 => some f_lineage_Feed
  | 16 => some f_R29_Lines
  | 26 => some f_R29_Same
  | 28 => some f_lineage_Fits
  | 19 => some f_lineage_merge_lineage_item_lineage_item
  | 18 => some f_lineage_Compose_1
  | 27 => some f_lineage_Compose
  | 24 => some f_lineage_Invert
  | 20 => some f_L29_ln
  | 22 => some f_L29_came
  | 23 => some f_L29_went
  | 36 => some f_L29_sanity
  | 37 => some f_R29_Light
  | 38 => some f_R29_Of
  | 29 => some f_R29_Valid
  | 30 => some f_R29_IsFeed
  | 31 => some f_R29_Items
  | 32 => some f_R29_at
  | 33 => some f_R29_same
  | 35 => some f_R29_Apply
  | 34 => some f_R29_change
  | 39 => some f_R29_Feed
  | 40 => some f_R29_Fits
  | 93 => some f_L29_LineageMatchesReference
  | 41 => some f_R29_Compose
  | 42 => some f_R29_Invert
  | 94 => some f_L29_LineageFeedsMatchReference
  | 44 => some f_L29_light
  | 43 => some f_R29_Made
  | 45 => some f_L29_tables
  | 95 => some f_L29_LineageFollows
  | 96 => some f_L29_LineageComposes
  | 97 => some f_L29_LineageInverts
  | 46 => some f_L29_has
  | 98 => some f_L29_LineageGaps
  | 62 => some f_R06_New
  | 47 => some f_R06_Field
  | 49 => some f_R06_group
  | 50 => some f_R06_depth
  | 48 => some f_R06_Name
  | 51 => some f_R06_taken
  | 52 => some f_R06_plus
  | 58 => some f_R06_add
  | 55 => some f_R06_without
  | 54 => some f_R06_with
  | 53 => some f_R06_inside
  | 56 => some f_R06_move
  | 59 => some f_R06_one
  | 57 => some f_R06_sep
  | 60 => some f_R06_split
  | 61 => some f_R06_join
  | 63 => some f_R06_Apply
  | 88 => some f_R06_After
  | 64 => some f_R06_mod
  | 65 => some f_R06_name
  | 66 => some f_R06_Change
  | 87 => some f_R06_Made
  | 71 => some f_R06_Leaves
  | 72 => some f_R09_mod
  | 67 => some f_R05_Type
  | 68 => some f_R05_Fit
  | 69 => some f_R05_Made
  | 70 => some f_R05_Compare
  | 74 => some f_R09_set
  | 73 => some f_R09_Pred
  | 75 => some f_R06_Row
  | 76 => some f_R06_Rows
  | 89 => some f_R27_Made
  | 90 => some f_R27_Table
  | 77 => some f_R08_truth
  | 78 => some f_R08_within
  | 79 => some f_R08_begins
  | 82 => some f_R08_simple
  | 81 => some f_R08_Value
  | 80 => some f_R08_Eval
  | 83 => some f_R08_Match
  | 91 => some f_R27_Touched
  | 84 => some f_R06_Get
  | 85 => some f_R27_Sum
  | 86 => some f_R27_Check
  | 92 => some f_R27_Run
  | 99 => some f_L29_LineagePrograms
  | _ => none
theorem pr_lineage_Valid : prog 5 = some f_lineage_Valid := rfl
theorem pr_slices_Equal_api_Cell_api_Cell : prog 1 = some f_slices_Equal_api_Cell_api_Cell := rfl
theorem pr_lineage_equal : prog 2 = some f_lineage_equal := rfl
theorem pr_lineage_isFeed : prog 6 = some f_lineage_isFeed := rfl
theorem pr_lineage_merge_api_Line_lineage_item : prog 9 = some f_lineage_merge_api_Line_lineage_item := rfl
theorem pr_lineage_items : prog 7 = some f_lineage_items := rfl
theorem pr_lineage_ofLine : prog 10 = some f_lineage_ofLine := rfl
theorem pr_lineage_ofItem : prog 11 = some f_lineage_ofItem := rfl
theorem pr_lineage_row : prog 3 = some f_lineage_row := rfl
theorem pr_lineage_same : prog 4 = some f_lineage_same := rfl
theorem pr_lineage_Apply_1 : prog 8 = some f_lineage_Apply_1 := rfl
theorem pr_lineage_Apply : prog 17 = some f_lineage_Apply := rfl
theorem pr_R06_SameRow : prog 12 = some f_R06_SameRow := rfl
theorem pr_R29_Events : prog 25 = some f_R29_Events := rfl
theorem pr_lineage_merge_api_Line_api_Line : prog 14 = some f_lineage_merge_api_Line_api_Line := rfl
theorem pr_lineage_Feed_1 : prog 13 = some f_lineage_Feed_1 := rfl
theorem pr_lineage_events : prog 15 = some f_lineage_events := rfl
theorem pr_lineage_Feed : prog 21 = some f_lineage_Feed := rfl
theorem pr_R29_Lines : prog 16 = some f_R29_Lines := rfl
theorem pr_R29_Same : prog 26 = some f_R29_Same := rfl
theorem pr_lineage_Fits : prog 28 = some f_lineage_Fits := rfl
theorem pr_lineage_merge_lineage_item_lineage_item : prog 19 = some f_lineage_merge_lineage_item_lineage_item := rfl
theorem pr_lineage_Compose_1 : prog 18 = some f_lineage_Compose_1 := rfl
theorem pr_lineage_Compose : prog 27 = some f_lineage_Compose := rfl
theorem pr_lineage_Invert : prog 24 = some f_lineage_Invert := rfl
theorem pr_L29_ln : prog 20 = some f_L29_ln := rfl
theorem pr_L29_came : prog 22 = some f_L29_came := rfl
theorem pr_L29_went : prog 23 = some f_L29_went := rfl
theorem pr_L29_sanity : prog 36 = some f_L29_sanity := rfl
theorem pr_R29_Light : prog 37 = some f_R29_Light := rfl
theorem pr_R29_Of : prog 38 = some f_R29_Of := rfl
theorem pr_R29_Valid : prog 29 = some f_R29_Valid := rfl
theorem pr_R29_IsFeed : prog 30 = some f_R29_IsFeed := rfl
theorem pr_R29_Items : prog 31 = some f_R29_Items := rfl
theorem pr_R29_at : prog 32 = some f_R29_at := rfl
theorem pr_R29_same : prog 33 = some f_R29_same := rfl
theorem pr_R29_Apply : prog 35 = some f_R29_Apply := rfl
theorem pr_R29_change : prog 34 = some f_R29_change := rfl
theorem pr_R29_Feed : prog 39 = some f_R29_Feed := rfl
theorem pr_R29_Fits : prog 40 = some f_R29_Fits := rfl
theorem pr_L29_LineageMatchesReference : prog 93 = some f_L29_LineageMatchesReference := rfl
theorem pr_R29_Compose : prog 41 = some f_R29_Compose := rfl
theorem pr_R29_Invert : prog 42 = some f_R29_Invert := rfl
theorem pr_L29_LineageFeedsMatchReference : prog 94 = some f_L29_LineageFeedsMatchReference := rfl
theorem pr_L29_light : prog 44 = some f_L29_light := rfl
theorem pr_R29_Made : prog 43 = some f_R29_Made := rfl
theorem pr_L29_tables : prog 45 = some f_L29_tables := rfl
theorem pr_L29_LineageFollows : prog 95 = some f_L29_LineageFollows := rfl
theorem pr_L29_LineageComposes : prog 96 = some f_L29_LineageComposes := rfl
theorem pr_L29_LineageInverts : prog 97 = some f_L29_LineageInverts := rfl
theorem pr_L29_has : prog 46 = some f_L29_has := rfl
theorem pr_L29_LineageGaps : prog 98 = some f_L29_LineageGaps := rfl
theorem pr_R06_New : prog 62 = some f_R06_New := rfl
theorem pr_R06_Field : prog 47 = some f_R06_Field := rfl
theorem pr_R06_group : prog 49 = some f_R06_group := rfl
theorem pr_R06_depth : prog 50 = some f_R06_depth := rfl
theorem pr_R06_Name : prog 48 = some f_R06_Name := rfl
theorem pr_R06_taken : prog 51 = some f_R06_taken := rfl
theorem pr_R06_plus : prog 52 = some f_R06_plus := rfl
theorem pr_R06_add : prog 58 = some f_R06_add := rfl
theorem pr_R06_without : prog 55 = some f_R06_without := rfl
theorem pr_R06_with : prog 54 = some f_R06_with := rfl
theorem pr_R06_inside : prog 53 = some f_R06_inside := rfl
theorem pr_R06_move : prog 56 = some f_R06_move := rfl
theorem pr_R06_one : prog 59 = some f_R06_one := rfl
theorem pr_R06_sep : prog 57 = some f_R06_sep := rfl
theorem pr_R06_split : prog 60 = some f_R06_split := rfl
theorem pr_R06_join : prog 61 = some f_R06_join := rfl
theorem pr_R06_Apply : prog 63 = some f_R06_Apply := rfl
theorem pr_R06_After : prog 88 = some f_R06_After := rfl
theorem pr_R06_mod : prog 64 = some f_R06_mod := rfl
theorem pr_R06_name : prog 65 = some f_R06_name := rfl
theorem pr_R06_Change : prog 66 = some f_R06_Change := rfl
theorem pr_R06_Made : prog 87 = some f_R06_Made := rfl
theorem pr_R06_Leaves : prog 71 = some f_R06_Leaves := rfl
theorem pr_R09_mod : prog 72 = some f_R09_mod := rfl
theorem pr_R05_Type : prog 67 = some f_R05_Type := rfl
theorem pr_R05_Fit : prog 68 = some f_R05_Fit := rfl
theorem pr_R05_Made : prog 69 = some f_R05_Made := rfl
theorem pr_R05_Compare : prog 70 = some f_R05_Compare := rfl
theorem pr_R09_set : prog 74 = some f_R09_set := rfl
theorem pr_R09_Pred : prog 73 = some f_R09_Pred := rfl
theorem pr_R06_Row : prog 75 = some f_R06_Row := rfl
theorem pr_R06_Rows : prog 76 = some f_R06_Rows := rfl
theorem pr_R27_Made : prog 89 = some f_R27_Made := rfl
theorem pr_R27_Table : prog 90 = some f_R27_Table := rfl
theorem pr_R08_truth : prog 77 = some f_R08_truth := rfl
theorem pr_R08_within : prog 78 = some f_R08_within := rfl
theorem pr_R08_begins : prog 79 = some f_R08_begins := rfl
theorem pr_R08_simple : prog 82 = some f_R08_simple := rfl
theorem pr_R08_Value : prog 81 = some f_R08_Value := rfl
theorem pr_R08_Eval : prog 80 = some f_R08_Eval := rfl
theorem pr_R08_Match : prog 83 = some f_R08_Match := rfl
theorem pr_R27_Touched : prog 91 = some f_R27_Touched := rfl
theorem pr_R06_Get : prog 84 = some f_R06_Get := rfl
theorem pr_R27_Sum : prog 85 = some f_R27_Sum := rfl
theorem pr_R27_Check : prog 86 = some f_R27_Check := rfl
theorem pr_R27_Run : prog 92 = some f_R27_Run := rfl
theorem pr_L29_LineagePrograms : prog 99 = some f_L29_LineagePrograms := rfl
end Go.Den
