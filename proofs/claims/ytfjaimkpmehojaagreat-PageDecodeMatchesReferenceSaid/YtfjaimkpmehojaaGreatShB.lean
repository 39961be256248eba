/- Typed arguments: bytes and values with their bounds. -/
import Derived.Test.YtfjaimkpmehojaaGreatShA
import Derived.Test.YtfjaimkpmehojaaGreatS06T
import Derived.Test.YtfjaimkpmehojaaGreatSBy
namespace Go.Den
open Go Go.Proofs
set_option linter.unusedSimpArgs false
set_option linter.unusedVariables false
set_option maxRecDepth 100000
set_option maxHeartbeats 1000000
theorem i64_bnd {i : Int} (h : (Lit.int .i64 i).wf = true) : -9223372036854775808 ≤ i ∧ i ≤ 9223372036854775807 := by
  have h1 : IntKind.i64.min = -9223372036854775808 := by decide
  have h2 : IntKind.i64.max = 9223372036854775807 := by decide
  simp [Lit.wf, h1, h2] at h
  exact ⟨by omega, by omega⟩
theorem u8_bnd {i : Int} (h : (Lit.int .u8 i).wf = true) : 0 ≤ i ∧ i ≤ 255 := by
  have h1 : IntKind.u8.min = 0 := by decide
  have h2 : IntKind.u8.max = 255 := by decide
  simp [Lit.wf, h1, h2] at h
  exact ⟨by omega, by omega⟩
theorem sh_byte {n : Nat} {xs : List AV} (h : Sh Tryz.prog n 5 xs) : ∃ c : UInt8, xs = bcell c ∧ True := by
  obtain ⟨i, rfl, hi⟩ := h.int Tryz.underlying5
  have hb := u8_bnd hi
  refine ⟨UInt8.ofNat i.toNat, ?_, trivial⟩
  have e : (UInt8.ofNat i.toNat).toNat = i.toNat := by
    rw [UInt8.toNat_ofNat']; omega
  show _ = [AV.int .u8 ((UInt8.ofNat i.toNat).toNat : Int)]
  rw [e, Int.toNat_of_nonneg hb.1]
theorem sh_bytes {n : Nat} {xs : List AV} (h : Sh Tryz.prog n 27 xs) : ∃ L : List UInt8, xs = [.sl (L.map bcell)] ∧ L.length ≤ 140737488351232 := by
  obtain ⟨es, k, rfl, hb, he⟩ := h.slice Tryz.underlying27
  obtain ⟨L, rfl, _⟩ := list_typed fun y hy => sh_byte (he y hy)
  have e : Tryz.prog.bytesOf 5 = 1 := by kernel_rfl
  rw [e] at hb
  exact ⟨L, rfl, by simpa using hb⟩
theorem sh_valb {n : Nat} {xs : List AV} (h : Sh Tryz.prog n 43 xs) : ∃ (b : Bool) (j : Int) (s : ByteArray), xs = [.bool b, .int .i64 j, .str s] ∧ (-9223372036854775808 ≤ j ∧ j ≤ 9223372036854775807) ∧ s.size ≤ 140737488351232 := by
  obtain ⟨ps, m, rfl, hp⟩ := h.struct Tryz.underlying43
  obtain ⟨p, q, r, rfl, h1, h2, h3⟩ := hp.p3
  obtain ⟨b, rfl⟩ := h1.bool Tryz.underlying4
  obtain ⟨j, rfl, hj⟩ := Sh.int h2 Tryz.underlying2
  obtain ⟨s, rfl, hs⟩ := Sh.str h3 Tryz.underlying9
  exact ⟨b, j, s, rfl, i64_bnd hj, hs⟩
theorem sh_int {n : Nat} {xs : List AV} (h : Sh Tryz.prog n 3 xs) : ∃ j : Int, xs = [.int .i64 j] ∧ -9223372036854775808 ≤ j ∧ j ≤ 9223372036854775807 := by
  obtain ⟨j, rfl, hj⟩ := Sh.int h Tryz.underlying3
  exact ⟨j, rfl, i64_bnd hj⟩
theorem sh_u8 {n : Nat} {xs : List AV} (h : Sh Tryz.prog n 5 xs) : ∃ j : Int, xs = [.int .u8 j] ∧ 0 ≤ j ∧ j ≤ 255 := by
  obtain ⟨j, rfl, hj⟩ := Sh.int h Tryz.underlying5
  exact ⟨j, rfl, u8_bnd hj⟩
end Go.Den
