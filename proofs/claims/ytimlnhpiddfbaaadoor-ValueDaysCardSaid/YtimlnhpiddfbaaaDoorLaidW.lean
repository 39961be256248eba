/- The wrap that keeps what the listed variables hold and the shape; a variable of library code. -/
import Derived.Test.YtimlnhpiddfbaaaDoorRows
import Derived.Test.YtimlnhpiddfbaaaDoorDenY
import Derived.Handed
import Derived.Shelf.Vars
import Derived.MakeChecks
import Derived.Deep.Strs
import Derived.Test.YtimlnhpiddfbaaaDoorFn5D
namespace Go
variable {H : Type} {enc : TypeId × Value → H}
/-- A call's contract, with what the listed variables hold and the world's shape. -/
theorem returnsInHanded_laid_shaped {a : Assume} {C : Checked} {os : Os} {f : FuncId} {fn : Func} {s : ChangeSpec} {conds : List PathCond} {apart fresh handsOn again : Bool} {X : World → Array Value → Prop}
    (hX : ∀ (w w' : World) (args : Array Value), w.heap = w'.heap → X w args → X w' args)
    (own : ownKnob C.prog.godebug = none) (started : os.Started) (noInit : C.prog.inits.idxOf? f = none) (hfn : C.prog.funcs[f]? = some fn)
    (witness : ∃ (w : World) (tape : Tape) (i : Input), w.os = os ∧ (w.forCall tape i).Shaped C.prog ∧ i.vars = [] ∧ Input.okWide C.prog (w.forCall tape i) .any w.heap.size f i ∧
      ((s.pre enc C.prog fn conds apart (w.forCall tape i).memory i.args ∧ X (w.forCall tape i).memory i.args) ∧ sizedMet enc C.prog fn (OpenSpec.ofChange s) apart (w.forCall tape i).memory i.args) ∧ a.holds C.prog (lone (Frame.enter C.prog f i.args .normal) [] (w.forCall tape i)))
    (contract : ∀ (W : World) (base : Nat) (args : Array Value) (ds gs : List (DataW H)) (before : List MemPlace),
      (∀ (j : Nat) t v, fn.params[j]? = some t → args[j]? = some v → Value.okWide C.prog W .any base t v) →
      DataW.Whole enc C.prog fn.params.toList s.vars apart W args.toList ds gs before →
      conds.all (PathCond.test C.prog ⟨fn.params.toList, ds, s.plain.varTypes C.prog, gs⟩) = true →
      (DataW.weightsEach C.prog (fn.params.toList ++ s.plain.varTypes C.prog) (ds ++ gs)).all (· ≤ reachBytes) = true → X W args → W.ShapedOpen C.prog →
      a.holds C.prog (lone (Frame.enter C.prog f args .normal) [] W) →
      Calls C.prog f args W fun e W' => ∃ v, e = .returned v ∧ s.post enc C.prog fn apart fresh handsOn again W args v W') :
    ReturnsInHanded a C os f .any (fun w args => (s.pre enc C.prog fn conds apart w args ∧ X w args) ∧ sizedMet enc C.prog fn (OpenSpec.ofChange s) apart w args) (s.post enc C.prog fn apart fresh handsOn again) := by
  refine returnsInHanded_of_calls own started noInit witness ?_
  intro w tape i _ hsh _ hok hpre hholds
  obtain ⟨_, _, _, fn', hfn', _, _, _, _, hval⟩ := hok
  have e : fn' = fn := Option.some.inj (hfn'.symm.trans hfn)
  subst e
  obtain ⟨⟨⟨ds, gs, before, hw, hc⟩, hx⟩, hz⟩ := hpre
  have hw' := DataW.Whole.of_heap (w' := w.forCall tape i) (by rfl) hw
  refine (contract (w.forCall tape i) w.heap.size i.args ds gs before hval hw' hc (hz.weights hw) (hX _ _ _ (by rfl) hx) hsh hholds).mono fun e W' ⟨v, he, hp⟩ => ?_
  subst he
  exact ChangeSpec.post_blind hp
end Go
namespace Go.Den
open Go Go.Proofs Go.Deep
set_option maxRecDepth 100000
theorem maxLen_some {W : World} (h : W.ShapedOpen Tryd.prog) : ∃ m, W.cell? ⟨0, 0, none⟩ = some (.int .i64 m) :=
  cell_of_shapedOpen_int (zero := #[.int .i64 0]) (t := 3) h (of_decide_eq_true (by kernel_rfl)) (by kernel_rfl) rfl (by kernel_rfl) (by kernel_rfl) Tryd.underlying3
/-- A laid variable's cells read. -/
theorem glob_rf {tab : Nat → Nat} {W : World} {S : Nat → Prop} {g : Nat} {gs : List GC} {ty : TypeId} {fr : Nat × Nat} (h : W.heap[g]? = some (.cells (gs.map GC.val).toArray ty fr)) (hS : S g) : RF tab W S (.rptr (gs.map GC.av)) (.pointer (some ⟨g, 0, none⟩)) := by
  refine .rptr g 0 _ (fun j => ((gs.map GC.val)[j]?).getD undef) hS ?_ ?_ ?_
  · intro j x hx
    rw [List.getElem?_map] at hx
    cases hj : gs[j]? with
    | none => simp [hj] at hx
    | some y =>
      simp only [World.cell?, h, Nat.zero_add]
      simp [hj]
  · intro j x hx
    rw [List.getElem?_map] at hx
    cases hj : gs[j]? with
    | none => simp [hj] at hx
    | some y => simp [hj] at hx; subst hx; cases y <;> rfl
  · intro j x hx
    rw [List.getElem?_map] at hx
    cases hj : gs[j]? with
    | none => simp [hj] at hx
    | some y =>
      simp [hj] at hx; subst hx
      simp only [List.getElem?_map, hj, Option.map_some, Option.getD_some]
      cases y with
      | i k n => exact .int k n
      | b v => exact .bool v
      | s v => exact .str v
end Go.Den
