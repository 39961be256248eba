/- What an abstract value stands for in a world; the objects that a run owns; what stays. -/
import Derived.Test.YtggelolphgcpgaaDenB
import Derived.Below
namespace Go.Den
open Go

section
variable (tab : Nat → Nat)
/-- x reads as v, in memory that nothing writes any more. -/
inductive RF (w : World) (S : Nat → Prop) : AV → Value → Prop
  | int (k : IntKind) (n : Int) : RF w S (.int k n) (.int k n)
  | bool (b : Bool) : RF w S (.bool b) (.bool b)
  | str (s : ByteArray) : RF w S (.str s) (.string s)
  | nilp : RF w S .nilp (.pointer none)
  | rptr (b off : Nat) (cs : List AV) (vs : Nat → Value) (hb : S b) (hc : ∀ (j : Nat) (x : AV), cs[j]? = some x → w.cell? ⟨b, off + j, none⟩ = some (vs j))
      (hs : ∀ (j : Nat) (x : AV), cs[j]? = some x → AV.scalar x = true) (hr : ∀ (j : Nat) (x : AV), cs[j]? = some x → RF w S x (vs j)) : RF w S (.rptr cs) (.pointer (some ⟨b, off, none⟩))
  | nils (a : Option Addr) : RF w S .nils (.slice a 0 0)
  | sl0 (a : Option Addr) (c : Nat) : RF w S (.sl []) (.slice a 0 c)
  | sl (b off sz cap : Nat) (es : List (List AV)) (vs : Nat → Nat → Value) (hb : S b) (hz : ∀ e ∈ es, e.length = sz) (hl : es.length ≤ cap)
      (hc : ∀ (i : Nat) (e : List AV), es[i]? = some e → ∀ (j : Nat) (x : AV), e[j]? = some x → w.cell? ⟨b, off + i * sz + j, none⟩ = some (vs i j))
      (hs : ∀ (i : Nat) (e : List AV), es[i]? = some e → ∀ (j : Nat) (x : AV), e[j]? = some x → AV.scalar x = true)
      (hr : ∀ (i : Nat) (e : List AV), es[i]? = some e → ∀ (j : Nat) (x : AV), e[j]? = some x → RF w S x (vs i j)) : RF w S (.sl es) (.slice (some ⟨b, off, none⟩) es.length cap)
  | fn (f : Nat) (caps : List AV) (vs : List Value) (hl : vs.length = caps.length) (hs : ∀ (j : Nat) (x : AV), caps[j]? = some x → AV.scalar x = true)
      (hr : ∀ (j : Nat) (x : AV) (v : Value), caps[j]? = some x → vs[j]? = some v → RF w S x v) : RF w S (.fn f caps) (.func (.func (tab f)) #[] vs.toArray)
  | nilfn : RF w S .nilfn .nilFunc
  | agg (cs : List AV) (vs : List Value) (hl : vs.length = cs.length) (hs : ∀ (j : Nat) (x : AV), cs[j]? = some x → AV.scalar x = true)
      (hr : ∀ (j : Nat) (x : AV) (v : Value), cs[j]? = some x → vs[j]? = some v → RF w S x v) : RF w S (.agg cs) (.agg vs.toArray)
  | tup (cs : List AV) (vs : List Value) (hl : vs.length = cs.length)
      (hr : ∀ (j : Nat) (x : AV) (v : Value), cs[j]? = some x → vs[j]? = some v → RF w S x v) : RF w S (.tup cs) (.tuple vs.toArray)
  | nilmap : RF w S .nilmap (.map none)
  | fmap (b : Nat) (es : List (AV × AV)) (ms : Array MapEntry) (clock : Nat) (hb : S b) (hh : w.heap[b]? = some (.map ms clock)) (hl : ms.size = es.length) (hk : ∀ (j : Nat) (p : AV × AV) (m : MapEntry), es[j]? = some p → ms[j]? = some m → RF w S p.1 m.key)
      (hr : ∀ (j : Nat) (p : AV × AV) (m : MapEntry), es[j]? = some p → ms[j]? = some m → RF w S p.2 m.val) : RF w S (.fmap es) (.map (some b))
  | iface (t : Nat) (x : AV) (v : Value) (hr : RF w S x v) : RF w S (.iface t x) (.iface t v)
  | nilif : RF w S .nilif .nilIface
  | nil0 (c : Nat) : RF w S .nil0 (.slice none 0 c)
  | nne (a : Addr) (c : Nat) : RF w S .nne (.slice (some a) 0 c)

/-- Where an object lies: block, first cell, capacity (of a row). -/
structure Gh where
  b : Nat
  base : Nat
  cap : Nat

def OslOk (σ : St) (γ : List Gh) (o ver n off len : Nat) (v : Value) : Prop :=
  ∃ x g, σ[o]? = some x ∧ γ[o]? = some g ∧ match x with
    | .dead => True
    | .arr ver' sz es => (ver < ver' ∨ ver = ver' ∧ n ≤ es.length) ∧ (ver = ver' → n = es.length → off + len ≤ n →
        ∃ a, v = .slice a len (g.cap - off) ∧ (0 < g.cap - off → a = some ⟨g.b, g.base + off * sz, none⟩))
    | _ => False
def ErefOk (σ : St) (γ : List Gh) (o ver n i off : Nat) (v : Value) : Prop :=
  ∃ x g, σ[o]? = some x ∧ γ[o]? = some g ∧ match x with
    | .dead => True
    | .arr ver' sz es => (ver < ver' ∨ ver = ver' ∧ n ≤ es.length) ∧ (ver = ver' → n = es.length → i < n → v = .pointer (some ⟨g.b, g.base + i * sz + off, none⟩))
    | _ => False
/-- x reads as v; it may lead to objects. -/
inductive RV (w : World) (S : Nat → Prop) (σ : St) (γ : List Gh) : AV → Value → Prop
  | fz (x : AV) (v : Value) (h : RF tab w S x v) : RV w S σ γ x v
  | dead (v : Value) : RV w S σ γ .dead v
  | ref (o off : Nat) (g : Gh) (cs : List AV) (hs : σ[o]? = some (.cells cs)) (hg : γ[o]? = some g) : RV w S σ γ (.ref o off) (.pointer (some ⟨g.b, off, none⟩))
  | mapr (o : Nat) (g : Gh) (es : List (AV × AV)) (hs : σ[o]? = some (.map es)) (hg : γ[o]? = some g) : RV w S σ γ (.mapr o) (.map (some g.b))
  | osl (o ver n off len : Nat) (v : Value) (hv : ∃ a l c, v = .slice a l c) (h : OslOk σ γ o ver n off len v) : RV w S σ γ (.osl o ver n off len) v
  | eref (o ver n i off : Nat) (v : Value) (hv : ∃ p, v = .pointer (some p)) (h : ErefOk σ γ o ver n i off v) : RV w S σ γ (.eref o ver n i off) v
  | fn (f : Nat) (caps : List AV) (vs : List Value) (hl : vs.length = caps.length) (hs : ∀ (j : Nat) (x : AV), caps[j]? = some x → AV.scalar x = true)
      (hr : ∀ (j : Nat) (x : AV) (v : Value), caps[j]? = some x → vs[j]? = some v → RV w S σ γ x v) : RV w S σ γ (.fn f caps) (.func (.func (tab f)) #[] vs.toArray)
  | agg (cs : List AV) (vs : List Value) (hl : vs.length = cs.length) (hs : ∀ (j : Nat) (x : AV), cs[j]? = some x → AV.scalar x = true)
      (hr : ∀ (j : Nat) (x : AV) (v : Value), cs[j]? = some x → vs[j]? = some v → RV w S σ γ x v) : RV w S σ γ (.agg cs) (.agg vs.toArray)
  | tup (cs : List AV) (vs : List Value) (hl : vs.length = cs.length)
      (hr : ∀ (j : Nat) (x : AV) (v : Value), cs[j]? = some x → vs[j]? = some v → RV w S σ γ x v) : RV w S σ γ (.tup cs) (.tuple vs.toArray)
  | iface (t : Nat) (x : AV) (v : Value) (hr : RV w S σ γ x v) : RV w S σ γ (.iface t x) (.iface t v)

def owns : Ob → Gh → Bool
  | .dead, _ => false
  | .res, _ => false
  | .arr _ _ _, g => decide (0 < g.cap)
  | _, _ => true
def Owned (σ : St) (γ : List Gh) (b : Nat) : Prop := ∃ (o : Nat) (x : Ob) (g : Gh), σ[o]? = some x ∧ γ[o]? = some g ∧ owns x g = true ∧ g.b = b
/-- Blocks that nothing writes any more. -/
def Stab (w : World) (F : Nat → Prop) (σ : St) (γ : List Gh) (b : Nat) : Prop := b < w.heap.size ∧ ¬ F b ∧ ¬ Owned σ γ b
abbrev RS (w : World) (F : Nat → Prop) (σ : St) (γ : List Gh) (x : AV) (v : Value) : Prop := RV tab w (Stab w F σ γ) σ γ x v

/-- An object as it lies in memory. -/
def ObOk (w : World) (S : Nat → Prop) (σ : St) (γ : List Gh) : Ob → Gh → Prop
  | .dead, _ => True
  | .res, _ => True
  | .cells cs, g => ∃ vs ty, w.heap[g.b]? = some (.cells vs ty (0, 0)) ∧ vs.size = cs.length ∧ (∀ (j : Nat) (x : AV), cs[j]? = some x → AV.scalar x = true) ∧
      ∀ (j : Nat) (x : AV) (v : Value), cs[j]? = some x → vs[j]? = some v → RV tab w S σ γ x v
  | .arr _ sz es, g => 0 < sz ∧ es.length ≤ g.cap ∧ (∀ e ∈ es, e.length = sz) ∧ (0 < g.cap → ∃ vs ty, w.heap[g.b]? = some (.cells vs ty (0, 0)) ∧ g.base + g.cap * sz ≤ vs.size ∧
      ∀ (i : Nat) (e : List AV), es[i]? = some e → ∀ (j : Nat) (x : AV), e[j]? = some x → ∃ v, vs[g.base + i * sz + j]? = some v ∧ AV.scalar x = true ∧ RF tab w S x v)
  | .map es, g => ∃ ms clock, w.heap[g.b]? = some (.map ms clock) ∧ ms.size = es.length ∧ ∀ (j : Nat) (p : AV × AV) (m : MapEntry), es[j]? = some p → ms[j]? = some m → RF tab w S p.1 m.key ∧ RV tab w S σ γ p.2 m.val
structure Inv (w : World) (F : Nat → Prop) (σ : St) (γ : List Gh) : Prop where
  len : γ.length = σ.length
  fsz : ∀ b, F b → b < w.heap.size
  ok : ∀ (o : Nat) (x : Ob) (g : Gh), σ[o]? = some x → γ[o]? = some g → ObOk tab w (Stab w F σ γ) σ γ x g
  own : ∀ (o : Nat) (x : Ob) (g : Gh), σ[o]? = some x → γ[o]? = some g → owns x g = true → g.b < w.heap.size ∧ ¬ F g.b
  inj : ∀ (o o' : Nat) (x x' : Ob) (g g' : Gh), σ[o]? = some x → γ[o]? = some g → owns x g = true → σ[o']? = some x' → γ[o']? = some g' → owns x' g' = true → g.b = g'.b → o = o'
end

inductive ObStep : Ob → Gh → Ob → Gh → Prop
  | res (g g' : Gh) (x : Ob) : ObStep .res g x g'
  | dead (g g' : Gh) : ObStep .dead g .dead g'
  | kill (v sz : Nat) (es : List (List AV)) (g g' : Gh) : ObStep (.arr v sz es) g .dead g'
  | cells (cs cs' : List AV) (g : Gh) : ObStep (.cells cs) g (.cells cs') g
  | map (es es' : List (AV × AV)) (g : Gh) : ObStep (.map es) g (.map es') g
  | same (v sz : Nat) (es es' : List (List AV)) (g : Gh) (h : es'.length = es.length) : ObStep (.arr v sz es) g (.arr v sz es') g
  | more (v sz : Nat) (es es' : List (List AV)) (g g' : Gh) (h : es.length < es'.length) : ObStep (.arr v sz es) g (.arr v sz es') g'
  | anew (v v' sz : Nat) (es es' : List (List AV)) (g g' : Gh) (h : v < v') : ObStep (.arr v sz es) g (.arr v' sz es') g'
theorem ObStep.refl (x : Ob) (g : Gh) : ObStep x g x g := by
  cases x with
  | cells cs => exact .cells cs cs g
  | arr v sz es => exact .same v sz es es g rfl
  | map es => exact .map es es g
  | dead => exact .dead g g
  | res => exact .res g g .res
theorem ObStep.trans {x y z : Ob} {g h k : Gh} (a : ObStep x g y h) (b : ObStep y h z k) : ObStep x g z k := by
  cases b with
  | res g g' y =>
    cases a with
    | res => exact .res _ _ _
  | dead g g' =>
    cases a with
    | res => exact .res _ _ _
    | dead => exact .dead _ _
    | kill => exact .kill _ _ _ _ _
  | kill v sz es g g' =>
    cases a with
    | res => exact .res _ _ _
    | same => exact .kill _ _ _ _ _
    | more => exact .kill _ _ _ _ _
    | anew => exact .kill _ _ _ _ _
  | cells cs cs' =>
    cases a with
    | res => exact .res _ _ _
    | cells cs0 => exact .cells _ _ _
  | map es es' =>
    cases a with
    | res => exact .res _ _ _
    | map es0 => exact .map _ _ _
  | same v sz es es' g hl =>
    cases a with
    | res => exact .res _ _ _
    | same _ _ es0 _ _ h0 => exact .same _ _ _ _ _ (by omega)
    | more _ _ es0 _ g0 _ h0 => exact .more _ _ _ _ _ _ (by omega)
    | anew v0 _ _ es0 _ g0 _ h0 => exact .anew _ _ _ _ _ _ _ h0
  | more v sz es es' g g' hl =>
    cases a with
    | res => exact .res _ _ _
    | same _ _ es0 _ _ h0 => exact .more _ _ _ _ _ _ (by omega)
    | more _ _ es0 _ g0 _ h0 => exact .more _ _ _ _ _ _ (by omega)
    | anew v0 _ _ es0 _ g0 _ h0 => exact .anew _ _ _ _ _ _ _ h0
  | anew v v' sz es es' g g' hl =>
    cases a with
    | res => exact .res _ _ _
    | same _ _ es0 _ _ h0 => exact .anew _ _ _ _ _ _ _ hl
    | more _ _ es0 _ g0 _ h0 => exact .anew _ _ _ _ _ _ _ hl
    | anew v0 _ _ es0 _ g0 _ h0 => exact .anew _ _ _ _ _ _ _ (by omega)

/-- From one state to a later one: what is not owned stays; of the first m objects each goes on. -/
structure Step (m : Nat) (w : World) (σ : St) (γ : List Gh) (w' : World) (σ' : St) (γ' : List Gh) : Prop where
  os : w'.os = w.os
  tape : w'.tape = w.tape
  output : w'.output = w.output
  size : w.heap.size ≤ w'.heap.size
  keep : ∀ b, b < w.heap.size → ¬ Owned σ γ b → w'.heap[b]? = w.heap[b]? ∧ ¬ Owned σ' γ' b
  l1 : m ≤ σ.length
  l2 : m ≤ σ'.length
  obj : ∀ (o : Nat) (x : Ob) (g : Gh), o < m → σ[o]? = some x → γ[o]? = some g → ∃ x' g', σ'[o]? = some x' ∧ γ'[o]? = some g' ∧ ObStep x g x' g'
theorem Step.refl {m : Nat} (w : World) {σ : St} (γ : List Gh) (h : m ≤ σ.length) : Step m w σ γ w σ γ :=
  ⟨rfl, rfl, rfl, Nat.le_refl _, fun _ _ hn => ⟨rfl, hn⟩, h, h, fun _ x g _ hx hg => ⟨x, g, hx, hg, ObStep.refl x g⟩⟩
theorem Step.trans {m : Nat} {w w1 w2 : World} {σ σ1 σ2 : St} {γ γ1 γ2 : List Gh} (a : Step m w σ γ w1 σ1 γ1) (b : Step m w1 σ1 γ1 w2 σ2 γ2) : Step m w σ γ w2 σ2 γ2 :=
  ⟨b.os.trans a.os, b.tape.trans a.tape, b.output.trans a.output, Nat.le_trans a.size b.size,
   fun k hk hn => by
     obtain ⟨h1, h2⟩ := a.keep k hk hn
     obtain ⟨h3, h4⟩ := b.keep k (Nat.lt_of_lt_of_le hk a.size) h2
     exact ⟨h3.trans h1, h4⟩,
   a.l1, b.l2,
   fun o x g ho hx hg => by
     obtain ⟨x1, g1, hx1, hg1, s1⟩ := a.obj o x g ho hx hg
     obtain ⟨x2, g2, hx2, hg2, s2⟩ := b.obj o x1 g1 ho hx1 hg1
     exact ⟨x2, g2, hx2, hg2, s1.trans s2⟩⟩
theorem Step.mono {m k : Nat} {w w1 : World} {σ σ1 : St} {γ γ1 : List Gh} (a : Step m w σ γ w1 σ1 γ1) (h : k ≤ m) : Step k w σ γ w1 σ1 γ1 :=
  ⟨a.os, a.tape, a.output, a.size, a.keep, Nat.le_trans h a.l1, Nat.le_trans h a.l2, fun o x g ho => a.obj o x g (Nat.lt_of_lt_of_le ho h)⟩
theorem Step.stab {m : Nat} {w w1 : World} {σ σ1 : St} {γ γ1 : List Gh} (a : Step m w σ γ w1 σ1 γ1) {F : Nat → Prop} {b : Nat} (h : Stab w F σ γ b) : Stab w1 F σ1 γ1 b ∧ w1.heap[b]? = w.heap[b]? := by
  obtain ⟨h1, h2, h3⟩ := h
  obtain ⟨e, n⟩ := a.keep b h1 h3
  exact ⟨⟨Nat.lt_of_lt_of_le h1 a.size, h2, n⟩, e⟩

section
variable {tab : Nat → Nat}
theorem cell_eq {w w' : World} {b : Nat} (h : w'.heap[b]? = w.heap[b]?) (j : Nat) : w'.cell? ⟨b, j, none⟩ = w.cell? ⟨b, j, none⟩ := by
  simp only [World.cell?, h]
theorem RF.mono {w w' : World} {S S' : Nat → Prop} (hS : ∀ b, S b → S' b ∧ w'.heap[b]? = w.heap[b]?) {x : AV} {v : Value} (h : RF tab w S x v) : RF tab w' S' x v := by
  induction h with
  | int k n => exact .int k n
  | bool b => exact .bool b
  | str s => exact .str s
  | nilp => exact .nilp
  | rptr b off cs vs hb hc hs hr ih => exact .rptr b off cs vs (hS b hb).1 (fun j x hx => by rw [cell_eq (hS b hb).2]; exact hc j x hx) hs ih
  | nils a => exact .nils a
  | sl0 a c => exact .sl0 a c
  | sl b off sz cap es vs hb hz hl hc hs hr ih => exact .sl b off sz cap es vs (hS b hb).1 hz hl (fun i e he j x hx => by rw [cell_eq (hS b hb).2]; exact hc i e he j x hx) hs ih
  | fn f caps vs hl hs hr ih => exact .fn f caps vs hl hs ih
  | nilfn => exact .nilfn
  | agg cs vs hl hs hr ih => exact .agg cs vs hl hs ih
  | tup cs vs hl hr ih => exact .tup cs vs hl ih
  | nilmap => exact .nilmap
  | fmap b es ms clock hb hh hl hk hr ihk ihr => exact .fmap b es ms clock (hS b hb).1 (by rw [(hS b hb).2]; exact hh) hl ihk ihr
  | iface t x v hr ih => exact .iface t x v ih
  | nilif => exact .nilif
  | nil0 c => exact .nil0 c
  | nne a c => exact .nne a c

theorem norefs_iff (l : List AV) : norefs l = true ↔ ∀ (j : Nat) (x : AV), l[j]? = some x → x.noref = true := by
  induction l with
  | nil => simp [norefs, AV.noref.norefs]
  | cons a r ih =>
    simp only [norefs, AV.noref.norefs, Bool.and_eq_true] at ih ⊢
    rw [ih]
    constructor
    · rintro ⟨h1, h2⟩ j x hx
      cases j with
      | zero => simp at hx; exact hx ▸ h1
      | succ j => exact h2 j x (by simpa using hx)
    · intro h
      exact ⟨h 0 a rfl, fun j x hx => h (j + 1) x (by simpa using hx)⟩
theorem unders_iff (m : Nat) (l : List AV) : unders m l = true ↔ ∀ (j : Nat) (x : AV), l[j]? = some x → x.under m = true := by
  induction l with
  | nil => simp [unders, AV.under.unders]
  | cons a r ih =>
    simp only [unders, AV.under.unders, Bool.and_eq_true] at ih ⊢
    rw [ih]
    constructor
    · rintro ⟨h1, h2⟩ j x hx
      cases j with
      | zero => simp at hx; exact hx ▸ h1
      | succ j => exact h2 j x (by simpa using hx)
    · intro h
      exact ⟨h 0 a rfl, fun j x hx => h (j + 1) x (by simpa using hx)⟩
theorem get_of_len {α β : Type} {l : List α} {l' : List β} (h : l'.length = l.length) {j : Nat} {x : α} (hx : l[j]? = some x) : ∃ v, l'[j]? = some v := by
  have hj : j < l.length := by
    rcases Nat.lt_or_ge j l.length with h | h
    · exact h
    · rw [List.getElem?_eq_none h] at hx; exact absurd hx (by simp)
  exact ⟨l'[j]'(by omega), List.getElem?_eq_getElem (by omega)⟩
theorem lt_of_get {α : Type} {l : List α} {j : Nat} {x : α} (hx : l[j]? = some x) : j < l.length := by
  rcases Nat.lt_or_ge j l.length with h | h
  · exact h
  · rw [List.getElem?_eq_none h] at hx; exact absurd hx (by simp)
theorem RF.noref {w : World} {S : Nat → Prop} {x : AV} {v : Value} (h : RF tab w S x v) : x.noref = true := by
  induction h with
  | fn f caps vs hl hs hr ih =>
    simp only [AV.noref]
    rw [norefs_iff]
    intro j x hx
    obtain ⟨v, hv⟩ := get_of_len hl hx
    exact ih j x v hx hv
  | agg cs vs hl hs hr ih =>
    simp only [AV.noref]
    rw [norefs_iff]
    intro j x hx
    obtain ⟨v, hv⟩ := get_of_len hl hx
    exact ih j x v hx hv
  | tup cs vs hl hr ih =>
    simp only [AV.noref]
    rw [norefs_iff]
    intro j x hx
    obtain ⟨v, hv⟩ := get_of_len hl hx
    exact ih j x v hx hv
  | iface t x v hr ih => exact ih
  | _ => rfl
theorem RV.frozen {w : World} {S : Nat → Prop} {σ : St} {γ : List Gh} {x : AV} {v : Value} (h : RV tab w S σ γ x v) (hn : x.noref = true) : RF tab w S x v := by
  induction h with
  | fz x v h => exact h
  | dead | ref | mapr | osl | eref => exact absurd hn (by simp [AV.noref])
  | fn f caps vs hl hs hr ih =>
    simp only [AV.noref] at hn
    rw [norefs_iff] at hn
    exact .fn f caps vs hl hs fun j x v hx hv => ih j x v hx hv (hn j x hx)
  | agg cs vs hl hs hr ih =>
    simp only [AV.noref] at hn
    rw [norefs_iff] at hn
    exact .agg cs vs hl hs fun j x v hx hv => ih j x v hx hv (hn j x hx)
  | tup cs vs hl hr ih =>
    simp only [AV.noref] at hn
    rw [norefs_iff] at hn
    exact .tup cs vs hl fun j x v hx hv => ih j x v hx hv (hn j x hx)
  | iface t x v hr ih => exact .iface t x v (ih hn)
theorem noref_under (m : Nat) {x : AV} (h : x.noref = true) : x.under m = true := by
  cases x with
  | fn f caps => exact go caps h
  | agg cs => exact go cs h
  | tup cs => exact go cs h
  | iface t v => exact noref_under m (x := v) h
  | ref | eref | osl | mapr | dead => exact absurd h (by simp [AV.noref])
  | _ => rfl
where go : ∀ l : List AV, norefs l = true → unders m l = true
  | [], _ => rfl
  | a :: r, h => by
    simp only [norefs, AV.noref.norefs, Bool.and_eq_true] at h
    simp only [unders, AV.under.unders, Bool.and_eq_true]
    exact ⟨noref_under m h.1, go r h.2⟩
theorem RV.under {w : World} {S : Nat → Prop} {σ : St} {γ : List Gh} {x : AV} {v : Value} (h : RV tab w S σ γ x v) : x.under σ.length = true := by
  induction h with
  | fz x v h => exact noref_under _ h.noref
  | dead => rfl
  | ref o off g cs hs hg => simp [AV.under, lt_of_get hs]
  | mapr o g es hs hg => simp [AV.under, lt_of_get hs]
  | osl o ver n off len v hv h => obtain ⟨x, g, hs, _⟩ := h; simp [AV.under, lt_of_get hs]
  | eref o ver n i off v hv h => obtain ⟨x, g, hs, _⟩ := h; simp [AV.under, lt_of_get hs]
  | fn f caps vs hl hs hr ih =>
    simp only [AV.under]
    rw [unders_iff]
    intro j x hx
    obtain ⟨v, hv⟩ := get_of_len hl hx
    exact ih j x v hx hv
  | agg cs vs hl hs hr ih =>
    simp only [AV.under]
    rw [unders_iff]
    intro j x hx
    obtain ⟨v, hv⟩ := get_of_len hl hx
    exact ih j x v hx hv
  | tup cs vs hl hr ih =>
    simp only [AV.under]
    rw [unders_iff]
    intro j x hx
    obtain ⟨v, hv⟩ := get_of_len hl hx
    exact ih j x v hx hv
  | iface t x v hr ih => exact ih

theorem OslOk.step {m : Nat} {w w1 : World} {σ σ1 : St} {γ γ1 : List Gh} (a : Step m w σ γ w1 σ1 γ1) {o ver n off len : Nat} {v : Value} (ho : o < m) (h : OslOk σ γ o ver n off len v) : OslOk σ1 γ1 o ver n off len v := by
  obtain ⟨x, g, hx, hg, h⟩ := h
  obtain ⟨x', g', hx', hg', s⟩ := a.obj o x g ho hx hg
  refine ⟨x', g', hx', hg', ?_⟩
  cases s with
  | res => exact False.elim h
  | dead => trivial
  | kill => trivial
  | cells => exact h
  | map => exact h
  | same v' sz es es' g hl =>
    obtain ⟨h1, h2⟩ := h
    exact ⟨by omega, fun e1 e2 => h2 e1 (by omega)⟩
  | more v' sz es es' g g' hl =>
    obtain ⟨h1, h2⟩ := h
    exact ⟨by omega, fun e1 e2 => by omega⟩
  | anew v' v'' sz es es' g g' hl =>
    obtain ⟨h1, h2⟩ := h
    exact ⟨by omega, fun e1 e2 => by omega⟩
theorem ErefOk.step {m : Nat} {w w1 : World} {σ σ1 : St} {γ γ1 : List Gh} (a : Step m w σ γ w1 σ1 γ1) {o ver n i off : Nat} {v : Value} (ho : o < m) (h : ErefOk σ γ o ver n i off v) : ErefOk σ1 γ1 o ver n i off v := by
  obtain ⟨x, g, hx, hg, h⟩ := h
  obtain ⟨x', g', hx', hg', s⟩ := a.obj o x g ho hx hg
  refine ⟨x', g', hx', hg', ?_⟩
  cases s with
  | res => exact False.elim h
  | dead => trivial
  | kill => trivial
  | cells => exact h
  | map => exact h
  | same v' sz es es' g hl =>
    obtain ⟨h1, h2⟩ := h
    exact ⟨by omega, fun e1 e2 => h2 e1 (by omega)⟩
  | more v' sz es es' g g' hl =>
    obtain ⟨h1, h2⟩ := h
    exact ⟨by omega, fun e1 e2 => by omega⟩
  | anew v' v'' sz es es' g g' hl =>
    obtain ⟨h1, h2⟩ := h
    exact ⟨by omega, fun e1 e2 => by omega⟩
/-- A value goes on reading as it did. -/
theorem RV.step {m : Nat} {w w1 : World} {σ σ1 : St} {γ γ1 : List Gh} (a : Step m w σ γ w1 σ1 γ1) {F : Nat → Prop} {x : AV} {v : Value} (h : RS tab w F σ γ x v) (hu : x.under m = true) : RS tab w1 F σ1 γ1 x v := by
  unfold RS at h ⊢
  induction h with
  | fz x v h => exact .fz x v (h.mono fun b hb => a.stab hb)
  | dead v => exact .dead v
  | ref o off g cs hs hg =>
    simp [AV.under] at hu
    obtain ⟨x', g', hx', hg', s⟩ := a.obj o _ g hu hs hg
    cases s with
    | cells cs cs' g => exact .ref o off g cs' hx' hg'
  | mapr o g es hs hg =>
    simp [AV.under] at hu
    obtain ⟨x', g', hx', hg', s⟩ := a.obj o _ g hu hs hg
    cases s with
    | map es es' g => exact .mapr o g es' hx' hg'
  | osl o ver n off len v hv h => exact .osl o ver n off len v hv (h.step a (by simpa [AV.under] using hu))
  | eref o ver n i off v hv h => exact .eref o ver n i off v hv (h.step a (by simpa [AV.under] using hu))
  | fn f caps vs hl hs hr ih =>
    simp only [AV.under] at hu
    rw [unders_iff] at hu
    exact .fn f caps vs hl hs fun j x v hx hv => ih j x v hx hv (hu j x hx)
  | agg cs vs hl hs hr ih =>
    simp only [AV.under] at hu
    rw [unders_iff] at hu
    exact .agg cs vs hl hs fun j x v hx hv => ih j x v hx hv (hu j x hx)
  | tup cs vs hl hr ih =>
    simp only [AV.under] at hu
    rw [unders_iff] at hu
    exact .tup cs vs hl fun j x v hx hv => ih j x v hx hv (hu j x hx)
  | iface t x v hr ih => exact .iface t x v (ih hu)
end
end Go.Den
