/- The contract of internal/stringslite.Index, laid at this dump (by the kit's tool; mkx.py). -/
import Derived.Shelf.Strings.Search2
import Derived.Test.YtghipgdajgeoiabDoorProg
import Derived.Test.YtghipgdajgeoiabDoorDenO
namespace Go.Proofs
open Go.Shelf
def Tryd.lays219_ren : Go.Shelf.Ren := ⟨fun | 219 => 93 | 217 => 94 | 225 => 95 | 224 => 96 | 267 => 97 | 266 => 98 | 314 => 99 | n => n, fun | 9 => 9 | 3 => 3 | 4 => 4 | 5 => 5 | 46 => 122 | 146 => 124 | 51 => 123 | n => n, fun | 1 => 1 | n => n⟩
theorem Tryd.lays219 : Go.Proofs.Lays.n219 Tryd.prog Tryd.lays219_ren := {
  mixed := by kernel_rfl
  f217 := Tryd.func94.trans (congrArg some (by kernel_rfl))
  f219 := Tryd.func93.trans (congrArg some (by kernel_rfl))
  f224 := Tryd.func96.trans (congrArg some (by kernel_rfl))
  f225 := Tryd.func95.trans (congrArg some (by kernel_rfl))
  f266 := Tryd.func98.trans (congrArg some (by kernel_rfl))
  f267 := Tryd.func97.trans (congrArg some (by kernel_rfl))
  f314 := Tryd.func99.trans (congrArg some (by kernel_rfl))
  t3 := Tryd.underlying3
  a3 := Tryd.isAgg3
  z3 := Tryd.sizeOf3
  v3 := Tryd.zeroValue3
  t4 := Tryd.underlying4
  a4 := Tryd.isAgg4
  z4 := Tryd.sizeOf4
  v4 := Tryd.zeroValue4
  t5 := Tryd.underlying5
  a5 := Tryd.isAgg5
  z5 := Tryd.sizeOf5
  v5 := Tryd.zeroValue5
  t9 := Tryd.underlying9
  a9 := Tryd.isAgg9
  z9 := Tryd.sizeOf9
  v9 := Tryd.zeroValue9
  t46 := Tryd.underlying122
  a46 := Tryd.isAgg122
  z46 := Tryd.sizeOf122
  v46 := Tryd.zeroValue122
  t51 := Tryd.underlying123
  a51 := Tryd.isAgg123
  z51 := Tryd.sizeOf123
  v51 := Tryd.zeroValue123
  t146 := Tryd.underlying124
  a146 := Tryd.isAgg124
  z146 := Tryd.sizeOf124
  v146 := Tryd.zeroValue124
  g1 := by kernel_rfl }
end Go.Proofs
namespace Go.Den
open Go Go.Proofs
theorem ext_index (tab : Nat → Nat) : ExtOk Tryd.prog tab 93 .index := by
  intro args r h w F σ γ vals I A
  unfold xsem at h
  split at h
  · rename_i s t _
    split at h
    · rename_i hs
      cases h
      obtain ⟨m, hm⟩ := ((I.gl 1).2 .i64 rfl).2
      obtain ⟨hl, hA⟩ := A
      match vals, hl, hA with
      | [u, v], _, hA =>
        have h1 := hA 0 _ _ rfl rfl
        have h2 := hA 1 _ _ rfl rfl
        cases h1 with | fz _ _ h1 => cases h1; cases h2 with | fz _ _ h2 =>
          cases h2
          refine (Any.stringslite_Index Tryd.lays219 s t m w hs hm).mono ?_
          rintro e w' ⟨rfl, rfl⟩
          exact ⟨_, γ, rfl, Step.refl _ γ (Nat.le_refl _), I, .fz _ _ (.int _ _), Fr.refl _ _⟩
    · exact absurd h (by simp)
  · exact absurd h (by simp)
end Go.Den
