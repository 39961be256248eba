/- The contract of internal/stringslite.Index, laid at this dump (by the kit's tool; mkx.py). -/
import Derived.Shelf.Strings.Search2
import Derived.Test.YtghipgdajgeoiaaGreatDoorProg
import Derived.Test.YtghipgdajgeoiaaGreatDoorDenO
namespace Go.Proofs
open Go.Shelf
def Tryz.lays219_ren : Go.Shelf.Ren := ⟨fun | 219 => 102 | 217 => 103 | 225 => 104 | 224 => 105 | 267 => 106 | 266 => 107 | 314 => 108 | n => n, fun | 9 => 9 | 3 => 3 | 4 => 4 | 5 => 5 | 46 => 121 | 146 => 123 | 51 => 122 | n => n, fun | 1 => 1 | n => n⟩
theorem Tryz.lays219 : Go.Proofs.Lays.n219 Tryz.prog Tryz.lays219_ren := {
  mixed := by kernel_rfl
  f217 := Tryz.func103.trans (congrArg some (by kernel_rfl))
  f219 := Tryz.func102.trans (congrArg some (by kernel_rfl))
  f224 := Tryz.func105.trans (congrArg some (by kernel_rfl))
  f225 := Tryz.func104.trans (congrArg some (by kernel_rfl))
  f266 := Tryz.func107.trans (congrArg some (by kernel_rfl))
  f267 := Tryz.func106.trans (congrArg some (by kernel_rfl))
  f314 := Tryz.func108.trans (congrArg some (by kernel_rfl))
  t3 := Tryz.underlying3
  a3 := Tryz.isAgg3
  z3 := Tryz.sizeOf3
  v3 := Tryz.zeroValue3
  t4 := Tryz.underlying4
  a4 := Tryz.isAgg4
  z4 := Tryz.sizeOf4
  v4 := Tryz.zeroValue4
  t5 := Tryz.underlying5
  a5 := Tryz.isAgg5
  z5 := Tryz.sizeOf5
  v5 := Tryz.zeroValue5
  t9 := Tryz.underlying9
  a9 := Tryz.isAgg9
  z9 := Tryz.sizeOf9
  v9 := Tryz.zeroValue9
  t46 := Tryz.underlying121
  a46 := Tryz.isAgg121
  z46 := Tryz.sizeOf121
  v46 := Tryz.zeroValue121
  t51 := Tryz.underlying122
  a51 := Tryz.isAgg122
  z51 := Tryz.sizeOf122
  v51 := Tryz.zeroValue122
  t146 := Tryz.underlying123
  a146 := Tryz.isAgg123
  z146 := Tryz.sizeOf123
  v146 := Tryz.zeroValue123
  g1 := by kernel_rfl }
end Go.Proofs
namespace Go.Den
open Go Go.Proofs
theorem ext_index (tab : Nat → Nat) : ExtOk Tryz.prog tab 102 .index := by
  intro args r h w F σ γ vals I A
  unfold xsem at h
  split at h
  · rename_i s t _
    split at h
    · rename_i hs
      cases h
      obtain ⟨m, hm⟩ := ((I.gl 1).2 .i64 rfl).2
      obtain ⟨hl, hA⟩ := A
      match vals, hl, hA with
      | [u, v], _, hA =>
        have h1 := hA 0 _ _ rfl rfl
        have h2 := hA 1 _ _ rfl rfl
        cases h1 with | fz _ _ h1 => cases h1; cases h2 with | fz _ _ h2 =>
          cases h2
          refine (Any.stringslite_Index Tryz.lays219 s t m w hs hm).mono ?_
          rintro e w' ⟨rfl, rfl⟩
          exact ⟨_, γ, rfl, Step.refl _ γ (Nat.le_refl _), I, .fz _ _ (.int _ _), Fr.refl _ _⟩
    · exact absurd h (by simp)
  · exact absurd h (by simp)
end Go.Den
