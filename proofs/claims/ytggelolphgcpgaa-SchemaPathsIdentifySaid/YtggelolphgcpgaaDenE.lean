/- Operations held against the machine's. -/
import Derived.Test.YtggelolphgcpgaaDenD
import Derived.Calls
import Derived.Laws.Entries
namespace Go.Den
open Go

/-! The look at an operation. -/
section
variable (P : Program) (tab : Nat → Nat)
def constB : Value → AV → Bool
  | .agg vs, .agg cs => go vs.toList cs
  | v, x => scal v x
where
  scal : Value → AV → Bool
    | .int k n, .int k' n' => k == k' && n == n'
    | .bool b, .bool b' => b == b'
    | .string s, .str s' => s.data == s'.data
    | .pointer none, .nilp => true
    | .slice none 0 0, .nils => true
    | .slice none 0 0, .nil0 => true
    | .map none, .nilmap => true
    | .nilFunc, .nilfn => true
    | .nilIface, .nilif => true
    | _, _ => false
  go : List Value → List AV → Bool
    | [], [] => true
    | v :: vs, x :: xs => scal v x && go vs xs
    | _, _ => false
def chkOpd : Operand → Opd → Bool
  | .tmp t, .t t' => t == t'
  | .const v, .c x => constB v x
  | .func f, .c (.fn s []) => tab s == f
  | _, _ => false
def chkOpds : List Operand → List Opd → Bool
  | [], [] => true
  | x :: xs, y :: ys => chkOpd tab x y && chkOpds xs ys
  | _, _ => false
def szB (t : TypeId) (n : Nat) : Bool := match P.info? t with
  | some i => i.size == n
  | none => false
def aggB (t : TypeId) (b : Bool) : Bool := match P.underlying t with
  | some (.struct _) | some (.array _ _) => b
  | some _ => !b
  | none => false
def zeroB (t : TypeId) (zs : List AV) : Bool := match P.info? t with
  | some i => match i.zero with
    | some z => constB.go z.cells.toList zs
    | none => false
  | none => false
def elemB (t : TypeId) : Option TypeId := match P.underlying t with
  | some (.slice e) => some e
  | _ => none

theorem constB_scal {w : World} {S : Nat → Prop} {v : Value} {x : AV} (h : constB.scal v x = true) : RF tab w S x v ∧ x.scalar = true := by
  unfold constB.scal at h
  split at h <;> simp at h
  · obtain ⟨rfl, rfl⟩ := h; exact ⟨.int _ _, rfl⟩
  · subst h; exact ⟨.bool _, rfl⟩
  · rename_i s s'
    obtain ⟨d⟩ := s; obtain ⟨d'⟩ := s'
    simp at h; subst h; exact ⟨.str _, rfl⟩
  · exact ⟨.nilp, rfl⟩
  · exact ⟨.nils _, rfl⟩
  · exact ⟨.nil0 _, rfl⟩
  · exact ⟨.nilmap, rfl⟩
  · exact ⟨.nilfn, rfl⟩
  · exact ⟨.nilif, rfl⟩
theorem constB_go {w : World} {S : Nat → Prop} : ∀ {vs : List Value} {cs : List AV}, constB.go vs cs = true → vs.length = cs.length ∧ (∀ (j : Nat) (x : AV), cs[j]? = some x → x.scalar = true) ∧
    ∀ (j : Nat) (x : AV) (v : Value), cs[j]? = some x → vs[j]? = some v → RF tab w S x v
  | [], [], _ => ⟨rfl, by simp, by simp⟩
  | [], _ :: _, h => by simp [constB.go] at h
  | _ :: _, [], h => by simp [constB.go] at h
  | v :: vs, x :: xs, h => by
    simp only [constB.go, Bool.and_eq_true] at h
    obtain ⟨h1, h2⟩ := h
    obtain ⟨e, s, r⟩ := constB_go (w := w) (S := S) h2
    obtain ⟨q1, q2⟩ := constB_scal tab (w := w) (S := S) h1
    refine ⟨by simp [e], fun j y hy => ?_, fun j y u hy hu => ?_⟩
    · cases j with
      | zero => simp at hy; exact hy ▸ q2
      | succ j => exact s j y (by simpa using hy)
    · cases j with
      | zero => simp at hy hu; exact hy ▸ hu ▸ q1
      | succ j => exact r j y u (by simpa using hy) (by simpa using hu)
theorem constB_ok {w : World} {S : Nat → Prop} {v : Value} {x : AV} (h : constB v x = true) : RF tab w S x v := by
  unfold constB at h
  split at h
  · rename_i vs cs
    obtain ⟨e, s, r⟩ := constB_go tab (w := w) (S := S) h
    have := RF.agg (tab := tab) (w := w) (S := S) cs vs.toList e s r
    simpa using this
  · exact (constB_scal tab h).1
end

/-- The slots read as the environment says. -/
def EnvOk (tab : Nat → Nat) (w : World) (F : Nat → Prop) (σ : St) (γ : List Gh) (env : Env) (tmps : Array Value) : Prop := ∀ t, RS tab w F σ γ (env.get t) (tmps.getD t undef)
def FrameOk (b : Nat) (σ : St) : Prop := ∀ (o : Nat) (x : Ob), o < b → σ[o]? = some x → x.under b = true
/-- What is outside a frame leads to nothing inside. -/
def Fr (base : Nat) (σ σ' : St) : Prop := ∀ b, b ≤ base → FrameOk b σ → FrameOk b σ'
theorem Fr.refl (base : Nat) (σ : St) : Fr base σ σ := fun _ _ h => h
theorem Fr.trans {base : Nat} {σ σ1 σ2 : St} (a : Fr base σ σ1) (b : Fr base σ1 σ2) : Fr base σ σ2 := fun k hk h => b k hk (a k hk h)
theorem Fr.push {base : Nat} {σ : St} (h : base ≤ σ.length) (τ : St) : Fr base σ (σ ++ τ) := fun b hb hf o x ho hx => by
  rw [List.getElem?_append_left (by omega)] at hx
  exact hf o x ho hx
theorem Fr.set {base : Nat} {σ : St} {o : Nat} {x : Ob} (h : ∀ b, o < b → b ≤ base → FrameOk b σ → x.under b = true) : Fr base σ (σ.set o x) := fun b hb hf o' y ho hy => by
  rw [List.getElem?_set] at hy
  split at hy
  · rename_i e; subst e
    split at hy
    · simp at hy; subst hy; exact h b ho hb hf
    · exact absurd hy (by simp)
  · exact hf o' y ho hy

section
variable {P : Program} {tab : Nat → Nat}
theorem opd_ok {w : World} {F : Nat → Prop} {σ : St} {γ : List Gh} {env : Env} {a : Act} (E : EnvOk tab w F σ γ env a.tmps) {x : Operand} {y : Opd} (h : chkOpd tab x y = true) : RS tab w F σ γ (ev env y) (a.eval x) := by
  unfold chkOpd at h
  split at h
  · simp at h; subst h; exact E _
  · exact .fz _ _ (constB_ok tab h)
  · rename_i f s
    simp at h; subst h
    exact .fz _ _ (.fn s [] [] rfl (by simp) (by simp))
  · exact absurd h (by simp)
theorem cells_ok {w : World} {S : Nat → Prop} {σ : St} {γ : List Gh} {x : AV} {v : Value} (h : RV tab w S σ γ x v) (hs : ∀ (j : Nat) (y : AV), x.cellsOf[j]? = some y → y.scalar = true) :
    v.cells.size = x.cellsOf.length ∧ (∀ (j : Nat) (y : AV) (u : Value), x.cellsOf[j]? = some y → v.cells[j]? = some u → RV tab w S σ γ y u) := by
  have one : ∀ {x : AV} {v : Value}, RV tab w S σ γ x v → x.cellsOf = [x] → v.cells = #[v] → v.cells.size = x.cellsOf.length ∧ (∀ (j : Nat) (y : AV) (u : Value), x.cellsOf[j]? = some y → v.cells[j]? = some u → RV tab w S σ γ y u) := by
    intro x v h e1 e2
    rw [e1, e2]
    refine ⟨rfl, fun j y u hy hu => ?_⟩
    cases j with
    | zero => simp at hy hu; exact hy ▸ hu ▸ h
    | succ j => simp at hy
  cases h with
  | fz _ _ h0 =>
    cases h0 with
    | agg cs vs hl hs0 hr => exact ⟨by simpa [Value.cells, AV.cellsOf] using hl, fun j y u hy hu => .fz _ _ (hr j y u hy (by simpa [Value.cells] using hu))⟩
    | tup cs vs hl hr => exact absurd (hs 0 _ rfl) (by simp [AV.scalar])
    | _ => exact one (.fz _ _ (by constructor <;> assumption)) rfl rfl
  | agg cs vs hl hs0 hr => exact ⟨by simpa [Value.cells, AV.cellsOf] using hl, fun j y u hy hu => hr j y u hy (by simpa [Value.cells] using hu)⟩
  | tup cs vs hl hr => exact absurd (hs 0 _ rfl) (by simp [AV.scalar])
  | dead => exact absurd (hs 0 _ rfl) (by simp [AV.scalar])
  | ref o off g cs h1 h2 => exact one (.ref o off g cs h1 h2) rfl rfl
  | mapr o g es h1 h2 => exact one (.mapr o g es h1 h2) rfl rfl
  | osl o ver n off len _ hv h => obtain ⟨p, l, c, rfl⟩ := hv; exact one (.osl o ver n off len _ ⟨p, l, c, rfl⟩ h) rfl rfl
  | eref o ver n i off _ hv h => obtain ⟨p, rfl⟩ := hv; exact one (.eref o ver n i off _ ⟨p, rfl⟩ h) rfl rfl
  | fn f caps vs hl hs0 hr => exact one (.fn f caps vs hl hs0 hr) rfl rfl
  | iface t x v hr => exact one (.iface t x v hr) rfl rfl
theorem one_ok {w : World} {S : Nat → Prop} {σ : St} {γ : List Gh} {x : AV} {v : Value} (h : RV tab w S σ γ x v) (hs : x.scalar = true) : v.oneCell' = true := by
  cases h with
  | fz _ _ h0 => cases h0 <;> first | rfl | exact absurd hs (by simp [AV.scalar])
  | agg | tup | dead => exact absurd hs (by simp [AV.scalar])
  | osl o ver n off len _ hv h => obtain ⟨p, l, c, rfl⟩ := hv; rfl
  | eref o ver n i off _ hv h => obtain ⟨p, rfl⟩ := hv; rfl
  | _ => rfl
end
end Go.Den
