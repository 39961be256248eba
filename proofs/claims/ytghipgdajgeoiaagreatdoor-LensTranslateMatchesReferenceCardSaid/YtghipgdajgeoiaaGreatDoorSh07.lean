/- Ch. 07: typed arguments. -/
import Derived.Test.YtghipgdajgeoiaaGreatDoorSh06
import Derived.Test.YtghipgdajgeoiaaGreatDoorS07G
namespace Go.Den
open Go Go.Proofs
set_option linter.unusedSimpArgs false
set_option linter.unusedVariables false
set_option maxRecDepth 100000
set_option maxHeartbeats 1000000
structure CaseOk (L : List Chg) (c : Chg) (V : List Val) : Prop where
  l : L.length < 1000000000000000
  v : V.length < 1000000000000000
  lc : ∀ c ∈ L, COK2 c
  c : COK2 c
  vb : ∀ v ∈ V, i64B v.n
theorem sh_case {n : Nat} {xs : List AV} (h : Sh Tryz.prog n 27 xs) : ∃ L c V, AV.agg xs = caseC L c V ∧ CaseOk L c V := by
  obtain ⟨ps, m, rfl, hp⟩ := h.struct Tryz.underlying27
  obtain ⟨p, q, r, rfl, h1, h2, h3⟩ := hp.p3
  obtain ⟨L, rfl, hL, hc⟩ := sh_chgs h1
  obtain ⟨c, rfl, hcc⟩ := sh_chg h2
  obtain ⟨V, rfl, hV, hv⟩ := sh_vals h3
  exact ⟨L, c, V, rfl, by omega, by omega, hc, hcc, fun v hv' => (hv v hv').2⟩
theorem sh_row7 {n : Nat} {xs : List AV} (h : Sh Tryz.prog n 30 xs) : ∃ r : List Cell, xs = [.sl (r.map Cell.cells)] ∧ r.length < 1000000000000000 ∧ RB r := by
  obtain ⟨ps, m, rfl, hp⟩ := h.struct Tryz.underlying30
  obtain ⟨p, rfl, h1⟩ := hp.p1
  obtain ⟨es, k, rfl, hb, he⟩ := h1.slice Tryz.underlying28
  obtain ⟨L, rfl, hL⟩ := list_typed (f := Cell.cells) fun y hy => sh_cell (he y hy)
  have e : Tryz.prog.bytesOf 62 = 40 := by kernel_rfl
  rw [e] at hb
  refine ⟨L, rfl, ?_, fun c hc => (hL c hc).2⟩
  have : L.length * 40 ≤ 140737488351232 := by simpa using hb
  omega
end Go.Den
