/- The contracts of the functions that are not walked, laid at this dump (by the kit's tool; mkx.py). -/
import Derived.Shelf.SlSortCmp.NoneTotal
import Derived.Shelf.Small.Strs
import Derived.Test.YtfjaimkpmehojaaDenS
import Derived.Test.YtfjaimkpmehojaaProg
import Derived.Test.YtfjaimkpmehojaaDenO
set_option linter.unusedSimpArgs false
set_option linter.unusedVariables false
namespace Go.Proofs
open Go.Shelf
def Try.lays213_ren : Go.Shelf.Ren := ⟨fun | 213 => 109 | 265 => 115 | n => n, fun | 9 => 9 | 3 => 3 | n => n, fun | n => n⟩
theorem Try.lays213 : Go.Proofs.Lays.n213 Try.prog Try.lays213_ren := {
  mixed := by kernel_rfl
  f213 := Try.func109.trans (congrArg some (by kernel_rfl))
  f265 := Try.func115.trans (congrArg some (by kernel_rfl))
  t3 := Try.underlying3
  a3 := Try.isAgg3
  z3 := Try.sizeOf3
  v3 := Try.zeroValue3
  t9 := Try.underlying9
  a9 := Try.isAgg9
  z9 := Try.sizeOf9
  v9 := Try.zeroValue9 }
def Try.sortVal_ren : Go.Shelf.Ren := ⟨fun | 6 => 88 | 15 => 94 | 14 => 93 | 28 => 106 | 29 => 107 | 20 => 98 | 21 => 99 | 22 => 100 | 23 => 101 | 24 => 102 | 25 => 103 | 26 => 104 | 27 => 105 | 46 => 110 | 47 => 111 | 48 => 112 | 49 => 113 | 50 => 114 | 57 => 116 | n => n, fun | 22 => 22 | 24 => 46 | 25 => 91 | 3 => 3 | 39 => 95 | 0 => 0 | 53 => 103 | 55 => 49 | 4 => 4 | 46 => 130 | 45 => 129 | 50 => 120 | 5 => 5 | 9 => 9 | 66 => 138 | 70 => 142 | 76 => 144 | 77 => 145 | n => n, fun | n => n⟩
theorem Try.sortVal : Go.Proofs.SlLaysF0.n6 Try.prog Try.sortVal_ren := {
  mixed := by kernel_rfl
  f6 := ⟨Try.f88.name, by decide, Try.func88.trans (congrArg some (by kernel_rfl))⟩
  f14 := ⟨Try.f93.name, by decide, Try.func93.trans (congrArg some (by kernel_rfl))⟩
  f15 := Try.func94.trans (congrArg some (by kernel_rfl))
  f20 := ⟨Try.f98.name, by decide, Try.func98.trans (congrArg some (by kernel_rfl))⟩
  f21 := ⟨Try.f99.name, by decide, Try.func99.trans (congrArg some (by kernel_rfl))⟩
  f22 := ⟨Try.f100.name, by decide, Try.func100.trans (congrArg some (by kernel_rfl))⟩
  f23 := ⟨Try.f101.name, by decide, Try.func101.trans (congrArg some (by kernel_rfl))⟩
  f24 := ⟨Try.f102.name, by decide, Try.func102.trans (congrArg some (by kernel_rfl))⟩
  f25 := ⟨Try.f103.name, by decide, Try.func103.trans (congrArg some (by kernel_rfl))⟩
  f26 := ⟨Try.f104.name, by decide, Try.func104.trans (congrArg some (by kernel_rfl))⟩
  f27 := ⟨Try.f105.name, by decide, Try.func105.trans (congrArg some (by kernel_rfl))⟩
  f28 := Try.func106.trans (congrArg some (by kernel_rfl))
  f29 := Try.func107.trans (congrArg some (by kernel_rfl))
  f46 := ⟨Try.f110.name, by decide, Try.func110.trans (congrArg some (by kernel_rfl))⟩
  f47 := Try.func111.trans (congrArg some (by kernel_rfl))
  f48 := Try.func112.trans (congrArg some (by kernel_rfl))
  f49 := ⟨Try.f113.name, by decide, Try.func113.trans (congrArg some (by kernel_rfl))⟩
  f50 := ⟨Try.f114.name, by decide, Try.func114.trans (congrArg some (by kernel_rfl))⟩
  f57 := ⟨Try.f116.name, by decide, Try.func116.trans (congrArg some (by kernel_rfl))⟩
  t0 := Try.underlying0
  a0 := Try.isAgg0
  z0 := Try.sizeOf0
  v0 := Try.zeroValue0
  t3 := Try.underlying3
  a3 := Try.isAgg3
  z3 := Try.sizeOf3
  v3 := Try.zeroValue3
  t4 := Try.underlying4
  a4 := Try.isAgg4
  z4 := Try.sizeOf4
  v4 := Try.zeroValue4
  t5 := Try.underlying5
  a5 := Try.isAgg5
  z5 := Try.sizeOf5
  v5 := Try.zeroValue5
  t9 := Try.underlying9
  a9 := Try.isAgg9
  z9 := Try.sizeOf9
  v9 := Try.zeroValue9
  t22 := Try.underlying22
  a22 := Try.isAgg22
  z22 := Try.sizeOf22
  v22 := Try.zeroValue22
  t25 := Try.underlying91
  a25 := Try.isAgg91
  z25 := Try.sizeOf91
  v25 := Try.zeroValue91
  t39 := Try.underlying95
  a39 := Try.isAgg95
  z39 := Try.sizeOf95
  v39 := Try.zeroValue95
  t45 := Try.underlying129
  a45 := Try.isAgg129
  z45 := Try.sizeOf129
  v45 := Try.zeroValue129
  t46 := Try.underlying130
  a46 := Try.isAgg130
  z46 := Try.sizeOf130
  v46 := Try.zeroValue130
  t50 := Try.underlying120
  a50 := Try.isAgg120
  z50 := Try.sizeOf120
  v50 := Try.zeroValue120
  t53 := Try.underlying103
  a53 := Try.isAgg103
  z53 := Try.sizeOf103
  v53 := Try.zeroValue103
  t55 := Try.underlying49
  a55 := Try.isAgg49
  z55 := Try.sizeOf49
  v55 := Try.zeroValue49
  t66 := Try.underlying138
  a66 := Try.isAgg138
  z66 := Try.sizeOf138
  v66 := Try.zeroValue138
  t70 := Try.underlying142
  a70 := Try.isAgg142
  z70 := Try.sizeOf142
  v70 := Try.zeroValue142
  t76 := Try.underlying144
  a76 := Try.isAgg144
  z76 := Try.sizeOf144
  v76 := Try.zeroValue144
  t77 := Try.underlying145
  a77 := Try.isAgg145
  z77 := Try.sizeOf145
  v77 := Try.zeroValue145 }
end Go.Proofs
namespace Go.Den
open Go Go.Proofs Go.RowKit
theorem ext_cmpstr (tab : Nat → Nat) : ExtOk Try.prog tab 109 XName.cmpstr := by
  intro args r h w F σ γ vals I A
  obtain ⟨s, t, rfl, rfl⟩ : ∃ s t, args = [.str s, .str t] ∧ r = .int .i64 (Lib.compareBytes s.data.toList t.data.toList) := by
    have h : xCmpstr args = some r := h
    unfold xCmpstr at h
    split at h
    · cases h; exact ⟨_, _, rfl, rfl⟩
    · cases h
  obtain ⟨hl, hA⟩ := A
  match vals, hl, hA with
  | [u, v], _, hA =>
    have h1 := hA 0 _ _ rfl rfl
    have h2 := hA 1 _ _ rfl rfl
    cases h1 with | fz _ _ h1 => cases h1; cases h2 with | fz _ _ h2 =>
      cases h2
      refine (Any.bytealg_CompareString Try.lays213 s t w).mono ?_
      rintro e w' ⟨rfl, rfl⟩
      exact ⟨_, γ, rfl, Step.refl _ γ (Nat.le_refl _), I, .fz _ _ (.int _ _), Fr.refl _ _⟩
open Go.Sort in
theorem sortC : SortC Try.prog 88 89 := by
  have eg : ∀ args w, (callFunc 89 args).run Try.prog w = .ok (.enter 89 args) w := enters_of Try.func89 (by kernel_rfl) rfl
  refine ⟨fun vs blk B cap w hcmp hH hblk hsz => ?_, fun p cap w => AnyF.slices_SortFunc_none Try.sortVal p cap _ w⟩
  have h := AnyQ.slices_SortFunc_total Try.sortVal 3 Try.isAgg46 Try.sizeOf46 encV3 (fun _ => rfl) (fun x v hv => by simp [encV3] at hv; rcases hv with rfl | rfl | rfl <;> rfl) cmpV swo_cmpV 89 #[] blk B cap vs.toArray w eg hcmp hH hblk hsz tot_cmpV
  refine h.mono ?_
  rintro e w' ⟨he, n, os, hw⟩
  have em : vs.toArray.toList.mergeSort (fun x y => !(ltOf cmpV) y x) = sortV vs := merge_sortV vs
  rw [em] at hw
  exact ⟨he, n, os, hw⟩
end Go.Den
