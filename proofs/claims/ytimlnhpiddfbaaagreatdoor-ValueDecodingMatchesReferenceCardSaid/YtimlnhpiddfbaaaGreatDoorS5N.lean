/- Ch. 05: ValueDecodingMatchesReference. -/
import Derived.Test.YtimlnhpiddfbaaaGreatDoorS5VR
import Derived.Test.YtimlnhpiddfbaaaGreatDoorS5I
import Derived.Test.YtimlnhpiddfbaaaGreatDoorSan05
import Derived.Test.YtimlnhpiddfbaaaGreatDoorShB
namespace Go.Den
open Go Go.Proofs
set_option linter.unusedSimpArgs false
set_option linter.unusedVariables false
set_option maxRecDepth 100000
set_option maxHeartbeats 1000000
theorem law_VDM (l : List UInt8) (a t : Int) : Den prog 475 [.sl (l.map bcell), .int .i64 a, .int .i64 t] [] = some (.bool true, []) := by
  rw [Den_ofK [] pr_L05_ValueDecodingMatchesReference rfl]
  have hsan := sanity05
  cases g1 : decide ((400 : Int) < (l.length : Int)) with
  | true => simp only [f_L05_ValueDecodingMatchesReference, hsan, g1, go_sem]
  | false =>
    have hl : l.length ≤ 400 := by simp at g1; omega
    have h1 := value_Decode l a t (by omega)
    have h2 := R05_Decode l a t (by omega)
    obtain ⟨v, e, h3, p3⟩ := value_Parse l (by omega) t
    obtain ⟨w, f, h4, p4⟩ := R05_Parse l (by omega) t
    obtain ⟨rfl, rfl⟩ := parR_fun p3 p4
    generalize decV l a t = r at *
    obtain ⟨⟨nu, n, s⟩, nx, er⟩ := r
    simp only [V3, Val.cells] at h1 h2
    obtain ⟨vn, vi, vs⟩ := v
    simp only [] at h3 h4
    have hba : ({ data := l.toArray } : ByteArray) = ba l := rfl
    simp only [f_L05_ValueDecodingMatchesReference, hsan, g1, h1, h2, h3, h4, hba, srcOf_osl, beq_self_eq_true, go_sem]
theorem row_VDM (xs : List AV) (h : Args Tryz.prog [22, 3, 3] xs) : Den prog 475 xs [] = some (.bool true, []) := by
  obtain ⟨n, x, ys, rfl, h1, h⟩ := h.one
  obtain ⟨n2, x2, ys2, rfl, h2, h⟩ := h.one
  obtain ⟨n3, x3, ys3, rfl, h3, h⟩ := h.one
  cases h.none
  obtain ⟨L, rfl, hL⟩ := sh_bytes h1
  obtain ⟨a, rfl, ha⟩ := sh_int h2
  obtain ⟨t, rfl, ht⟩ := sh_int h3
  simp only [avOf, Tryz.underlying22, Tryz.underlying3]
  exact law_VDM L a t
end Go.Den
