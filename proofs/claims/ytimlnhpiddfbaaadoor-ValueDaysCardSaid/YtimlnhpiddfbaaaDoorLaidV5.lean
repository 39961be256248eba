/- What the listed variables hold when a call begins (ch. 05): the powers of ten, strconv's errors. -/
import Derived.Test.YtimlnhpiddfbaaaDoorRows
import Derived.Test.YtimlnhpiddfbaaaDoorDenY
import Derived.Handed
import Derived.Shelf.Vars
import Derived.MakeChecks
import Derived.Deep.Strs
import Derived.Lib.LaidTab
import Derived.Lib.ItoaNum
import Derived.Stop.LaidErr
import Derived.LaidLaws
import Derived.Test.YtimlnhpiddfbaaaDoorFn5D
import Derived.Test.YtimlnhpiddfbaaaDoorLaidW
namespace Go.Den
open Go Go.Proofs Go.Deep
set_option maxRecDepth 100000
theorem ifc_var {P : Program} {n nm : String} {d : DataW Unit} {r : List (String × DataW Unit)} {W : World} {g : Nat} {ti : TypeId} {ms : Array (String × TypeId)} (h : laidMet P ((n, .iface nm d) :: r) W)
    (hg : P.globalNamed n = some g) (ht : (P.globals[g]?).map (·.type) = some ti) (hi : P.underlying ti = some (.interface ms)) : ∃ u v, W.cell? ⟨g, 0, none⟩ = some (.iface u v) := by
  obtain ⟨ps, ⟨g0, t0, cs0, f0, p0, q0, hg0, ht0, hv0, hd0, _, e0⟩, _, hrows⟩ := h
  obtain rfl := Option.some.inj (hg.symm.trans hg0)
  obtain rfl := Option.some.inj (ht.symm.trans ht0)
  obtain ⟨l0⟩ := cs0
  obtain ⟨u, v, hc⟩ : ∃ u v, l0 = [.iface u v] := by
    obtain ⟨_, u, v, e, _⟩ := iface_of_trod hi hd0
    exact ⟨u, v, e⟩
  subst hc
  exact ⟨u, v, by simpa using World.var?_cell hg0 hv0 0⟩
abbrev laid5 : List (String × DataW Unit) := [("math/bits.deBruijn32tab", YtimlnhpiddfbaaaDoor.Rows.laid_math_bits_deBruijn32tab), ("math/bits.deBruijn64tab", YtimlnhpiddfbaaaDoor.Rows.laid_math_bits_deBruijn64tab), ("internal/strconv.uint64pow10", YtimlnhpiddfbaaaDoor.Rows.laid_internal_strconv_uint64pow10), ("strconv.ErrRange", YtimlnhpiddfbaaaDoor.Rows.laid_strconv_ErrRange), ("strconv.ErrSyntax", YtimlnhpiddfbaaaDoor.Rows.laid_strconv_ErrSyntax)]
theorem gok (tab : Nat → Nat) {W : World} (h : laidMetH Tryd.prog laid5 W) (hs : W.ShapedOpen Tryd.prog) : GOk tab W (fun b => b < W.heap.size) := by
  rw [MakeChecks.laidMetH_plain _ _ _ (by kernel_rfl)] at h
  have h3 := h.tail.tail
  have hp : Lib.TabIs Tryd.prog W "internal/strconv.uint64pow10" .u64 Lib.pow10Tab := by
    refine Lib.tabIs_of_head (g := 3) (t := 130) (e := 72) (n := 20) (rest := [("strconv.ErrRange", YtimlnhpiddfbaaaDoor.Rows.laid_strconv_ErrRange), ("strconv.ErrSyntax", YtimlnhpiddfbaaaDoor.Rows.laid_strconv_ErrSyntax)]) (by kernel_rfl) (by kernel_rfl) Tryd.underlying130 Tryd.underlying72 (by kernel_rfl) (by kernel_rfl) ?_
    have e : (Lib.tabData .u64 Lib.pow10Tab : DataW Unit) = YtimlnhpiddfbaaaDoor.Rows.laid_internal_strconv_uint64pow10 := by kernel_rfl
    rw [e]
    exact h3
  obtain ⟨ur, vr, hr⟩ := ifc_var (g := 2) (ti := 58) h3.tail (by kernel_rfl) (by kernel_rfl) Tryd.underlying58
  obtain ⟨us, vs, hsx⟩ := ifc_var (g := 1) (ti := 58) h3.tail.tail (by kernel_rfl) (by kernel_rfl) Tryd.underlying58
  obtain ⟨m, hm⟩ := maxLen_some hs
  have hlt : ∀ {b : Nat} {v : Value}, W.cell? ⟨b, 0, none⟩ = some v → b < W.heap.size := by
    intro b v h
    unfold World.cell? at h
    split at h
    · rename_i hh; exact (Array.getElem?_eq_some_iff.1 hh).1
    · exact absurd h (by simp)
  have hg : Tryd.prog.globalNamed "internal/strconv.uint64pow10" = some 3 := by kernel_rfl
  obtain ⟨ty, fr, hh⟩ : ∃ ty fr, W.heap[3]? = some (.cells (Lib.pow10Tab.map fun z => Value.int .u64 z).toArray ty fr) := by
    unfold Lib.TabIs World.var? at hp
    rw [hg] at hp
    simp only [Option.bind_some] at hp
    split at hp
    · rename_i cs ty fr hh
      simp only [Option.some.injEq] at hp
      rw [hp] at hh
      exact ⟨ty, fr, hh⟩
    · exact absurd hp (by simp)
  intro g
  refine ⟨fun gs hgs => ?_, fun k hk => ?_, fun hk => ?_⟩
  · unfold globs at hgs
    split at hgs
    · have hlen : gs.length = 20 := by rw [← Option.some.inj hgs]; rfl
      have hgv : gs.map GC.val = Lib.pow10Tab.map fun z => Value.int .u64 z := by rw [← Option.some.inj hgs]; kernel_rfl
      have hvl : (gs.map GC.val).toArray.size = gs.length := by simp
      rw [← hgv] at hh
      refine ⟨glob_rf hh (Array.getElem?_eq_some_iff.1 hh).1, (Array.getElem?_eq_some_iff.1 hh).1, _, ty, fr, hh, hvl⟩
    · exact absurd hgs (by simp)
  · unfold gints at hk
    split at hk
    · cases hk; exact ⟨hlt hm, m, hm⟩
    · exact absurd hk (by simp)
  · unfold gifs at hk
    split at hk
    · exact ⟨hlt hsx, _, _, hsx⟩
    · exact ⟨hlt hr, _, _, hr⟩
    · exact absurd hk (by simp)
end Go.Den
