
/- SchemaStaysValid. -/
import Derived.Test.YtghipgdajgeoiaaGreatDoorS06N
import Derived.Test.YtghipgdajgeoiaaGreatDoorS06L
namespace Go.Den
open Go Go.Proofs
set_option linter.unusedSimpArgs false
set_option linter.unusedVariables false
set_option maxRecDepth 100000
set_option maxHeartbeats 1000000
theorem afterS_sv : ∀ (L : List Chg) {fs : List Fld} {next i : Int}, (∀ c ∈ L, COK c) → SV fs next → SV (afterS fs next i L).fs (afterS fs next i L).next
  | [], fs, next, i, _, s => s
  | c :: r, fs, next, i, h, s => by
    rw [afterS]
    cases d : decide ((applyC fs next c).e = 0) with
    | true => rw [cond_true]; exact afterS_sv r (fun x hx => h x (by simp [hx])) (applyC_sv s (h c (by simp)) (by simpa using d))
    | false => exact s
theorem applyC_zr (fs : List Fld) (next : Int) (c : Chg) : Zr (applyC fs next c) := by
  unfold applyC
  split
  · exact addS_zr fs next c
  · split
    · exact oneS_zr fs next c
    · split
      · exact splitS_zr fs next c
      · split
        · exact joinS_zr fs next c
        · exact Zr_bad _
end Go.Den
