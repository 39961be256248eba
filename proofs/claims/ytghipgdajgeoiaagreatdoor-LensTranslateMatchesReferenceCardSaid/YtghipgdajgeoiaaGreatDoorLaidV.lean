/- What the listed variables hold when a call begins; the wrap that keeps both. -/
import Derived.Test.YtghipgdajgeoiaaGreatDoorRows
import Derived.Test.YtghipgdajgeoiaaGreatDoorDenY
import Derived.Handed
import Derived.Shelf.Vars
import Derived.MakeChecks
import Derived.Deep.Strs
import Derived.Test.YtghipgdajgeoiaaGreatDoorFn7Z
namespace Go
variable {H : Type} {enc : TypeId × Value → H}
/-- A call's contract, with what the listed variables hold and the world's shape. -/
theorem returnsInHanded_laid_shaped {a : Assume} {C : Checked} {os : Os} {f : FuncId} {fn : Func} {s : ChangeSpec} {conds : List PathCond} {apart fresh handsOn again : Bool} {X : World → Array Value → Prop}
    (hX : ∀ (w w' : World) (args : Array Value), w.heap = w'.heap → X w args → X w' args)
    (own : ownKnob C.prog.godebug = none) (started : os.Started) (noInit : C.prog.inits.idxOf? f = none) (hfn : C.prog.funcs[f]? = some fn)
    (witness : ∃ (w : World) (tape : Tape) (i : Input), w.os = os ∧ (w.forCall tape i).Shaped C.prog ∧ i.vars = [] ∧ Input.okWide C.prog (w.forCall tape i) .any w.heap.size f i ∧
      ((s.pre enc C.prog fn conds apart (w.forCall tape i).memory i.args ∧ X (w.forCall tape i).memory i.args) ∧ sizedMet enc C.prog fn (OpenSpec.ofChange s) apart (w.forCall tape i).memory i.args) ∧ a.holds C.prog (lone (Frame.enter C.prog f i.args .normal) [] (w.forCall tape i)))
    (contract : ∀ (W : World) (base : Nat) (args : Array Value) (ds gs : List (DataW H)) (before : List MemPlace),
      (∀ (j : Nat) t v, fn.params[j]? = some t → args[j]? = some v → Value.okWide C.prog W .any base t v) →
      DataW.Whole enc C.prog fn.params.toList s.vars apart W args.toList ds gs before →
      conds.all (PathCond.test C.prog ⟨fn.params.toList, ds, s.plain.varTypes C.prog, gs⟩) = true →
      (DataW.weightsEach C.prog (fn.params.toList ++ s.plain.varTypes C.prog) (ds ++ gs)).all (· ≤ reachBytes) = true → X W args → W.ShapedOpen C.prog →
      a.holds C.prog (lone (Frame.enter C.prog f args .normal) [] W) →
      Calls C.prog f args W fun e W' => ∃ v, e = .returned v ∧ s.post enc C.prog fn apart fresh handsOn again W args v W') :
    ReturnsInHanded a C os f .any (fun w args => (s.pre enc C.prog fn conds apart w args ∧ X w args) ∧ sizedMet enc C.prog fn (OpenSpec.ofChange s) apart w args) (s.post enc C.prog fn apart fresh handsOn again) := by
  refine returnsInHanded_of_calls own started noInit witness ?_
  intro w tape i _ hsh _ hok hpre hholds
  obtain ⟨_, _, _, fn', hfn', _, _, _, _, hval⟩ := hok
  have e : fn' = fn := Option.some.inj (hfn'.symm.trans hfn)
  subst e
  obtain ⟨⟨⟨ds, gs, before, hw, hc⟩, hx⟩, hz⟩ := hpre
  have hw' := DataW.Whole.of_heap (w' := w.forCall tape i) (by rfl) hw
  refine (contract (w.forCall tape i) w.heap.size i.args ds gs before hval hw' hc (hz.weights hw) (hX _ _ _ (by rfl) hx) hsh hholds).mono fun e W' ⟨v, he, hp⟩ => ?_
  subst he
  exact ChangeSpec.post_blind hp
end Go
namespace Go.Den
open Go Go.Proofs Go.Deep
set_option maxRecDepth 100000
/-- The listed variable's cells. -/
theorem null_var {W : World} (h : laidMetH Tryz.prog [("fenland/lens.null", YtghipgdajgeoiaaGreatDoor.Rows.laid_fenland_lens_null)] W) : W.var? Tryz.prog "fenland/lens.null" = some #[.bool true, .int .i64 0, .string ⟨#[]⟩] := by
  rw [MakeChecks.laidMetH_plain _ _ _ (by kernel_rfl)] at h
  obtain ⟨ps, ⟨g, t, cs, fuel, p, q, hg, ht, hv, hd, _, _⟩, _, _⟩ := h
  obtain rfl := Option.some.inj ((show Tryz.prog.globalNamed "fenland/lens.null" = some 0 by kernel_rfl).symm.trans hg)
  obtain rfl := Option.some.inj ((show (Tryz.prog.globals[0]?).map (·.type) = some 58 by kernel_rfl).symm.trans ht)
  have c1 : Tryz.prog.cellsOf 4 = 1 := by kernel_rfl
  have c2 : Tryz.prog.cellsOf 2 = 1 := by kernel_rfl
  have c3 : Tryz.prog.cellsOf 9 = 1 := by kernel_rfl
  have c4 : Tryz.prog.cellsOf 58 = 3 := by kernel_rfl
  obtain ⟨y0, y1, y2, n, ex, hlen, h0, h1, h2⟩ := trod_struct3 Tryz.underlying58 hd
  rw [c4] at hlen
  obtain ⟨l⟩ := cs
  match l, hlen with
  | [a, b, c], _ =>
    have e := (Prod.mk.inj ex).1
    unfold YtghipgdajgeoiaaGreatDoor.Rows.laid_fenland_lens_null at e
    have e3 := DataW.agg.inj e
    simp only [List.cons.injEq, and_true] at e3
    obtain ⟨e0, e1, e2⟩ := e3
    simp only [c1, c2, c3, List.drop_zero, List.drop_succ_cons, List.take_succ_cons, List.take_zero] at h0 h1 h2
    cases n with
    | zero => simp [DataW.trod] at h0
    | succ n =>
      unfold DataW.trod at h0 h1 h2
      rw [Tryz.underlying4] at h0
      rw [Tryz.underlying2] at h1
      rw [Tryz.underlying9] at h2
      have k0 : a = .bool true := by
        cases a <;> simp only [] at h0 <;> first | (simp at h0; done) | skip
        simp at h0
        rw [← h0] at e0
        simp at e0
        rw [← e0]
      have k1 : b = .int .i64 0 := by
        cases b <;> simp only [] at h1 <;> first | (simp at h1; done) | skip
        split at h1
        · rename_i hk
          simp at h1
          rw [← h1] at e1
          simp at e1
          rw [hk.1, ← e1]
        · exact absurd h1 (by simp)
      have k2 : c = .string ⟨#[]⟩ := by
        obtain ⟨s, rfl⟩ : ∃ s, c = .string s := by cases c <;> first | exact ⟨_, rfl⟩ | (simp at h2)
        simp only [] at h2
        split at h2
        · simp at h2
          rw [← h2] at e2
          simp at e2
          have hs : s.data = #[] := e2
          obtain ⟨d⟩ := s
          rw [show d = #[] from hs]
        · exact absurd h2 (by simp)
      rw [hv, k0, k1, k2]
theorem maxLen_some {W : World} (h : W.ShapedOpen Tryz.prog) : ∃ m, W.cell? ⟨1, 0, none⟩ = some (.int .i64 m) :=
  cell_of_shapedOpen_int (zero := #[.int .i64 0]) (t := 3) h (of_decide_eq_true (by kernel_rfl)) (by kernel_rfl) rfl (by kernel_rfl) (by kernel_rfl) Tryz.underlying3
theorem gok (tab : Nat → Nat) {W : World} (h : laidMetH Tryz.prog [("fenland/lens.null", YtghipgdajgeoiaaGreatDoor.Rows.laid_fenland_lens_null)] W) (hs : W.ShapedOpen Tryz.prog) : GOk tab W (fun b => b < W.heap.size) := by
  have hv := null_var h
  obtain ⟨m, hm⟩ := maxLen_some hs
  have hg : Tryz.prog.globalNamed "fenland/lens.null" = some 0 := by kernel_rfl
  obtain ⟨ty, fr, hh⟩ : ∃ ty fr, W.heap[0]? = some (.cells #[.bool true, .int .i64 0, .string ⟨#[]⟩] ty fr) := by
    unfold World.var? at hv
    rw [hg] at hv
    simp only [Option.bind_some] at hv
    split at hv
    · rename_i cs ty fr hh
      simp at hv; subst hv
      exact ⟨ty, fr, hh⟩
    · exact absurd hv (by simp)
  have hlt : ∀ {b : Nat} {o : Obj}, W.heap[b]? = some o → b < W.heap.size := fun h => (Array.getElem?_eq_some_iff.1 h).1
  intro g
  refine ⟨fun gs hgs => ?_, fun k hk => ?_⟩
  · unfold globs at hgs
    split at hgs
    · cases hgs
      refine .rptr 0 0 _ (fun j => (#[Value.bool true, .int .i64 0, .string ⟨#[]⟩] : Array Value).getD j (.bool false)) (hlt hh) ?_ ?_ ?_
      · intro j x hx
        have hj : j < 3 := by have := lt_of_get hx; simpa using this
        simp only [World.cell?, hh, Nat.zero_add]
        match j, hj with
        | 0, _ => rfl
        | 1, _ => rfl
        | 2, _ => rfl
      · intro j x hx
        have hj : j < 3 := by have := lt_of_get hx; simpa using this
        match j, hj with
        | 0, _ => cases hx; rfl
        | 1, _ => cases hx; rfl
        | 2, _ => cases hx; rfl
      · intro j x hx
        have hj : j < 3 := by have := lt_of_get hx; simpa using this
        match j, hj with
        | 0, _ => cases hx; exact .bool true
        | 1, _ => cases hx; exact .int .i64 0
        | 2, _ => cases hx; exact .str ⟨#[]⟩
    · exact absurd hgs (by simp)
  · unfold gints at hk
    split at hk
    · cases hk
      refine ⟨?_, m, hm⟩
      unfold World.cell? at hm
      split at hm
      · rename_i hh; exact hlt hh
      · exact absurd hm (by simp)
    · exact absurd hk (by simp)
end Go.Den
