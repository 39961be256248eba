/- The contracts of the functions that are not walked, laid at this dump (by the kit's tool; mkx.py). -/
import Derived.Shelf.SlSortCmp.NoneTotal
import Derived.Shelf.Small.Strs
import Derived.Test.YtfjaimkpmehojaaGreatDenS
import Derived.Test.YtfjaimkpmehojaaGreatProg
import Derived.Test.YtfjaimkpmehojaaGreatDenO
set_option linter.unusedSimpArgs false
set_option linter.unusedVariables false
namespace Go.Proofs
open Go.Shelf
def Tryz.lays213_ren : Go.Shelf.Ren := ⟨fun | 213 => 116 | 265 => 122 | n => n, fun | 9 => 9 | 3 => 3 | n => n, fun | n => n⟩
theorem Tryz.lays213 : Go.Proofs.Lays.n213 Tryz.prog Tryz.lays213_ren := {
 mixed := by kernel_rfl
 f213 := Tryz.func116.trans (congrArg some (by kernel_rfl))
 f265 := Tryz.func122.trans (congrArg some (by kernel_rfl))
 t3 := Tryz.underlying3
 a3 := Tryz.isAgg3
 z3 := Tryz.sizeOf3
 v3 := Tryz.zeroValue3
 t9 := Tryz.underlying9
 a9 := Tryz.isAgg9
 z9 := Tryz.sizeOf9
 v9 := Tryz.zeroValue9 }
def Tryz.sortVal_ren : Go.Shelf.Ren := ⟨fun | 6 => 95 | 15 => 101 | 14 => 100 | 28 => 113 | 29 => 114 | 20 => 105 | 21 => 106 | 22 => 107 | 23 => 108 | 24 => 109 | 25 => 110 | 26 => 111 | 27 => 112 | 46 => 117 | 47 => 118 | 48 => 119 | 49 => 120 | 50 => 121 | 57 => 123 | n => n, fun | 22 => 22 | 24 => 43 | 25 => 99 | 3 => 3 | 39 => 98 | 0 => 0 | 53 => 107 | 55 => 64 | 4 => 4 | 46 => 131 | 45 => 130 | 50 => 121 | 5 => 5 | 9 => 9 | 66 => 139 | 70 => 143 | 76 => 145 | 77 => 146 | n => n, fun | n => n⟩
theorem Tryz.sortVal : Go.Proofs.SlLaysF0.n6 Tryz.prog Tryz.sortVal_ren := {
 mixed := by kernel_rfl
 f6 := ⟨Tryz.f95.name, by decide, Tryz.func95.trans (congrArg some (by kernel_rfl))⟩
 f14 := ⟨Tryz.f100.name, by decide, Tryz.func100.trans (congrArg some (by kernel_rfl))⟩
 f15 := Tryz.func101.trans (congrArg some (by kernel_rfl))
 f20 := ⟨Tryz.f105.name, by decide, Tryz.func105.trans (congrArg some (by kernel_rfl))⟩
 f21 := ⟨Tryz.f106.name, by decide, Tryz.func106.trans (congrArg some (by kernel_rfl))⟩
 f22 := ⟨Tryz.f107.name, by decide, Tryz.func107.trans (congrArg some (by kernel_rfl))⟩
 f23 := ⟨Tryz.f108.name, by decide, Tryz.func108.trans (congrArg some (by kernel_rfl))⟩
 f24 := ⟨Tryz.f109.name, by decide, Tryz.func109.trans (congrArg some (by kernel_rfl))⟩
 f25 := ⟨Tryz.f110.name, by decide, Tryz.func110.trans (congrArg some (by kernel_rfl))⟩
 f26 := ⟨Tryz.f111.name, by decide, Tryz.func111.trans (congrArg some (by kernel_rfl))⟩
 f27 := ⟨Tryz.f112.name, by decide, Tryz.func112.trans (congrArg some (by kernel_rfl))⟩
 f28 := Tryz.func113.trans (congrArg some (by kernel_rfl))
 f29 := Tryz.func114.trans (congrArg some (by kernel_rfl))
 f46 := ⟨Tryz.f117.name, by decide, Tryz.func117.trans (congrArg some (by kernel_rfl))⟩
 f47 := Tryz.func118.trans (congrArg some (by kernel_rfl))
 f48 := Tryz.func119.trans (congrArg some (by kernel_rfl))
 f49 := ⟨Tryz.f120.name, by decide, Tryz.func120.trans (congrArg some (by kernel_rfl))⟩
 f50 := ⟨Tryz.f121.name, by decide, Tryz.func121.trans (congrArg some (by kernel_rfl))⟩
 f57 := ⟨Tryz.f123.name, by decide, Tryz.func123.trans (congrArg some (by kernel_rfl))⟩
 t0 := Tryz.underlying0
 a0 := Tryz.isAgg0
 z0 := Tryz.sizeOf0
 v0 := Tryz.zeroValue0
 t3 := Tryz.underlying3
 a3 := Tryz.isAgg3
 z3 := Tryz.sizeOf3
 v3 := Tryz.zeroValue3
 t4 := Tryz.underlying4
 a4 := Tryz.isAgg4
 z4 := Tryz.sizeOf4
 v4 := Tryz.zeroValue4
 t5 := Tryz.underlying5
 a5 := Tryz.isAgg5
 z5 := Tryz.sizeOf5
 v5 := Tryz.zeroValue5
 t9 := Tryz.underlying9
 a9 := Tryz.isAgg9
 z9 := Tryz.sizeOf9
 v9 := Tryz.zeroValue9
 t22 := Tryz.underlying22
 a22 := Tryz.isAgg22
 z22 := Tryz.sizeOf22
 v22 := Tryz.zeroValue22
 t25 := Tryz.underlying99
 a25 := Tryz.isAgg99
 z25 := Tryz.sizeOf99
 v25 := Tryz.zeroValue99
 t39 := Tryz.underlying98
 a39 := Tryz.isAgg98
 z39 := Tryz.sizeOf98
 v39 := Tryz.zeroValue98
 t45 := Tryz.underlying130
 a45 := Tryz.isAgg130
 z45 := Tryz.sizeOf130
 v45 := Tryz.zeroValue130
 t46 := Tryz.underlying131
 a46 := Tryz.isAgg131
 z46 := Tryz.sizeOf131
 v46 := Tryz.zeroValue131
 t50 := Tryz.underlying121
 a50 := Tryz.isAgg121
 z50 := Tryz.sizeOf121
 v50 := Tryz.zeroValue121
 t53 := Tryz.underlying107
 a53 := Tryz.isAgg107
 z53 := Tryz.sizeOf107
 v53 := Tryz.zeroValue107
 t55 := Tryz.underlying64
 a55 := Tryz.isAgg64
 z55 := Tryz.sizeOf64
 v55 := Tryz.zeroValue64
 t66 := Tryz.underlying139
 a66 := Tryz.isAgg139
 z66 := Tryz.sizeOf139
 v66 := Tryz.zeroValue139
 t70 := Tryz.underlying143
 a70 := Tryz.isAgg143
 z70 := Tryz.sizeOf143
 v70 := Tryz.zeroValue143
 t76 := Tryz.underlying145
 a76 := Tryz.isAgg145
 z76 := Tryz.sizeOf145
 v76 := Tryz.zeroValue145
 t77 := Tryz.underlying146
 a77 := Tryz.isAgg146
 z77 := Tryz.sizeOf146
 v77 := Tryz.zeroValue146 }
end Go.Proofs
namespace Go.Den
open Go Go.Proofs Go.RowKit
theorem ext_cmpstr (tab : Nat → Nat) : ExtOk Tryz.prog tab 116 XName.cmpstr := by
 intro args r h w F σ γ vals I A
 obtain ⟨s, t, rfl, rfl⟩ : ∃ s t, args = [.str s, .str t] ∧ r = .int .i64 (Lib.compareBytes s.data.toList t.data.toList) := by
  have h : xCmpstr args = some r := h
  unfold xCmpstr at h
  split at h
  ·cases h; exact ⟨_, _, rfl, rfl⟩
  ·cases h
 obtain ⟨hl, hA⟩ := A
 match vals, hl, hA with
 | [u, v], _, hA =>
  have h1 := hA 0 _ _ rfl rfl
  have h2 := hA 1 _ _ rfl rfl
  cases h1 with | fz _ _ h1 => cases h1; cases h2 with | fz _ _ h2 =>
   cases h2
   refine (Any.bytealg_CompareString Tryz.lays213 s t w).mono ?_
   rintro e w' ⟨rfl, rfl⟩
   exact ⟨_, γ, rfl, Step.refl _ γ (Nat.le_refl _), I, .fz _ _ (.int _ _), Fr.refl _ _⟩
open Go.Sort in
theorem sortC : SortC Tryz.prog 95 96 := by
 have eg : ∀ args w, (callFunc 96 args).run Tryz.prog w = .ok (.enter 96 args) w := enters_of Tryz.func96 (by kernel_rfl) rfl
 refine ⟨fun vs blk B cap w hcmp hH hblk hsz => ?_, fun p cap w => AnyF.slices_SortFunc_none Tryz.sortVal p cap _ w⟩
 have h := AnyQ.slices_SortFunc_total Tryz.sortVal 3 Tryz.isAgg43 Tryz.sizeOf43 encV3 (fun _ => rfl) (fun x v hv => by simp [encV3] at hv; rcases hv with rfl | rfl | rfl <;> rfl) cmpV swo_cmpV 96 #[] blk B cap vs.toArray w eg hcmp hH hblk hsz tot_cmpV
 refine h.mono ?_
 rintro e w' ⟨he, n, os, hw⟩
 have em : vs.toArray.toList.mergeSort (fun x y => !(ltOf cmpV) y x) = sortV vs := merge_sortV vs
 rw [em] at hw
 exact ⟨he, n, os, hw⟩
end Go.Den
