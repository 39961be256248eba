/- Valid values, plainly. -/
import Derived.Test.YtfjaimkpmehojaaGreatS5E
namespace Go.Den
open Go
set_option linter.unusedSimpArgs false
set_option linter.unusedVariables false
set_option maxRecDepth 100000
set_option maxHeartbeats 1000000
def ba (l : List UInt8) : ByteArray := ⟨l.toArray⟩
theorem ba_data (l : List UInt8) : (ba l).data.toList = l := by simp [ba]
theorem ba_size (l : List UInt8) : (ba l).size = l.length := by simp [ba, ByteArray.size]
theorem ba_of (s : ByteArray) : s = ba s.data.toList := by
  apply ByteArray.ext
  simp [ba]
def InB (v : Val) : Prop := -9223372036854775808 ≤ v.n ∧ v.n ≤ 9223372036854775807
theorem okV5_text {v : Val} (h : okV v 4 = true) (hn : v.null = false) : v.n = 0 ∧ v.s.size ≤ 200 := by
  unfold okV at h
  rw [hn] at h
  simp at h
  exact ⟨h.1, by omega⟩
theorem okV5_num {v : Val} {t : Int} (h : okV v t = true) (hn : v.null = false) (ht : t ≠ 4) : v.s = ⟨#[]⟩ := by
  unfold okV at h
  rw [hn] at h
  rw [decide_eq_false ht] at h
  by_cases h3 : t = 3
  · simp [h3] at h; exact h
  · rw [decide_eq_false h3] at h; simp at h; exact h.1.1
theorem okV5_null {v : Val} {t : Int} (h : okV v t = true) (hn : v.null = true) : v = ⟨true, 0, ⟨#[]⟩⟩ := by
  obtain ⟨b, n, s⟩ := v
  simp only [] at hn
  subst hn
  unfold okV at h
  simp at h
  rw [h.1, h.2]
end Go.Den
