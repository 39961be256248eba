import Derived.Test.YtfjaimkpmehojaaGreatDenA
import Derived.Laws.AppendOwn
import Derived.MapKept
import Derived.Laws.MakeOwn
import Derived.Laws.IdiomStrings
namespace Go.Den
open Go

section
variable {P : Program} {tab : Nat → Nat}
theorem growBy_le (need : Nat) : ∀ (r c : Nat), 256 ≤ c → c < 2 * need → Builtin.growBy need r c < 2 * need ∨ Builtin.growBy need r c ≤ 2 * need
 | 0, c, _, h => .inl h
 | r + 1, c, h1, h2 => by
  simp only [Builtin.growBy]
  split
  ·exact .inl h2
  ·rename_i hlt
   exact growBy_le need r _ (by omega) (by omega)
theorem nextcap_le (need cap : Nat) (h : cap < need) : Builtin.nextslicecap need cap ≤ 2 * need := by
 unfold Builtin.nextslicecap
 split
 ·omega
 ·split
  ·omega
  ·rcases growBy_le need 4 cap (by omega) (by omega) with h' | h' <;> omega

structure Src (P : Program) (tab : Nat → Nat) (w : World) (S : Nat → Prop) (sz : Nat) (v : Value) (ys : List (List AV)) : Prop where
 len : (Builtin.lenOf v).run P w = .ok ys.length w
 cells : ∃ A : Array Value, A.size = ys.length * sz ∧ (∀ d, (Builtin.firstCells sz ys.length v).run P { w with drawn := d } = .ok A { w with drawn := d }) ∧
  ∀ (i : Nat) (e : List AV), ys[i]? = some e → ∀ (j : Nat) (x : AV), e[j]? = some x → ∃ u, A[i * sz + j]? = some u ∧ x.scalar = true ∧ RF tab w S x u
def SrcC (P : Program) (tab : Nat → Nat) (w : World) (S : Nat → Prop) (sz : Nat) (v : Value) (ys : List (List AV)) : Prop :=
 ∃ A : Array Value, A.size = ys.length * sz ∧ (∀ d, (Builtin.firstCells sz ys.length v).run P { w with drawn := d } = .ok A { w with drawn := d }) ∧
  ∀ (i : Nat) (e : List AV), ys[i]? = some e → ∀ (j : Nat) (x : AV), e[j]? = some x → ∃ u, A[i * sz + j]? = some u ∧ x.scalar = true ∧ RF tab w S x u
theorem split_idx {sz p n : Nat} (h0 : 0 < sz) (h : p < n * sz) : p / sz < n ∧ p % sz < sz ∧ p / sz * sz + p % sz = p :=
 ⟨Nat.div_lt_of_lt_mul (by rw [Nat.mul_comm]; exact h), Nat.mod_lt _ h0, Nat.div_add_mod' p sz⟩
theorem src_elems {w : World} {F : Nat → Prop} {σ : St} {γ : List Gh} (I : Inv tab w F σ γ) {x : AV} {v : Value} (hx : RS tab w F σ γ x v) {ys : List (List AV)} {t : Bool} (he : elems σ x = some (ys, t)) {sz : Nat} (h0 : 0 < sz) (hz : szOK sz ys) :
  Src P tab w (Stab w F σ γ) sz v ys := by
 obtain ⟨a, cap, rfl, hcap, hor⟩ := elems_ok I hx he
 refine ⟨by simp [Builtin.lenOf], ?_⟩
 rcases hor with rfl | ⟨b, off, sz', rfl, hz', hc⟩
 ·refine ⟨#[], by simp, fun d => ?_, by simp⟩
  cases a with
  | none => simp [Builtin.firstCells]
  | some p => simp [Builtin.firstCells, loadCells, loadCellsFrom]
 ·by_cases hy : ys = []
  ·subst hy
   exact ⟨#[], by simp, fun d => by simp [Builtin.firstCells, loadCells, loadCellsFrom], by simp⟩
  ·have hss : sz' = sz := by
    obtain ⟨e, r, rfl⟩ := List.exists_cons_of_ne_nil hy
    rw [← hz' e (by simp), ← hz e (by simp)]
   subst hss
   have hcell : ∀ p, p < ys.length * sz' → ∃ u e x, ys[p / sz']? = some e ∧ e[p % sz']? = some x ∧ w.cell? ⟨b, off + p, none⟩ = some u ∧ RF tab w (Stab w F σ γ) x u ∧ x.scalar = true := by
    intro p hp
    obtain ⟨k1, k2, k3⟩ := split_idx h0 hp
    have hel := hz (ys[p / sz']) (List.getElem_mem k1)
    obtain ⟨u, u1, u2, u3⟩ := hc (p / sz') _ (List.getElem?_eq_getElem k1) (p % sz') _ (List.getElem?_eq_getElem (by omega))
    exact ⟨u, _, _, List.getElem?_eq_getElem k1, List.getElem?_eq_getElem (by omega), by rw [← u1]; congr 2; omega, u2, u3⟩
   refine ⟨((List.range (ys.length * sz')).map fun p => (w.cell? ⟨b, off + p, none⟩).getD undef).toArray, by simp, fun d => ?_, fun i e hi j x hj => ?_⟩
   ·simp only [Builtin.firstCells]
    have := run_loadCells (P := P) { w with drawn := d } ⟨b, off, none⟩ (ys.length * sz') (fun p => (w.cell? ⟨b, off + p, none⟩).getD undef) (fun p hp => by
     obtain ⟨u, e, x, _, _, hu, _⟩ := hcell p hp
     rw [add_none]
     show w.cell? ⟨b, off + p, none⟩ = _
     rw [hu]; rfl)
    rw [this]
   ·obtain ⟨u, u1, u2, u3⟩ := hc i e hi j x hj
    have hil := lt_of_get hi
    have hjl : j < sz' := by have := lt_of_get hj; have := hz e (List.mem_of_getElem? hi); omega
    have hlt : i * sz' + j < ys.length * sz' := by
     have : (i + 1) * sz' ≤ ys.length * sz' := Nat.mul_le_mul_right _ hil
     rw [Nat.add_mul] at this; omega
    refine ⟨u, ?_, u3, u2⟩
    simp [hlt]
    rw [show off + (i * sz' + j) = off + i * sz' + j by omega, u1]; rfl
theorem take_elems {w : World} {F : Nat → Prop} {σ : St} {γ : List Gh} (I : Inv tab w F σ γ) {x : AV} {v : Value} (hx : RS tab w F σ γ x v) {ys : List (List AV)} {t : Bool} (he : elems σ x = some (ys, t)) {sz : Nat} (h0 : 0 < sz) (hz : szOK sz ys) (m : Nat) :
  SrcC P tab w (Stab w F σ γ) sz v (ys.take m) := by
 obtain ⟨a, cap, rfl, hcap, hor⟩ := elems_ok I hx he
 have hzt : szOK sz (ys.take m) := fun e he => hz e (List.mem_of_mem_take he)
 have hsub : ∀ (i : Nat) (e : List AV), (ys.take m)[i]? = some e → ys[i]? = some e := by
  intro i e hi
  have := lt_of_get hi
  simp only [List.length_take] at this
  rw [List.getElem?_take_of_lt (by omega)] at hi
  exact hi
 rcases hor with rfl | ⟨b, off, sz', rfl, hz', hc⟩
 ·refine ⟨#[], by simp, fun d => ?_, by simp⟩
  cases a with
  | none => simp [Builtin.firstCells]
  | some p => simp [Builtin.firstCells, loadCells, loadCellsFrom]
 ·by_cases hy : ys = []
  ·subst hy
   exact ⟨#[], by simp, fun d => by simp [Builtin.firstCells, loadCells, loadCellsFrom], by simp⟩
  ·have hss : sz' = sz := by
    obtain ⟨e, r, rfl⟩ := List.exists_cons_of_ne_nil hy
    rw [← hz' e (by simp), ← hz e (by simp)]
   subst hss
   have hcell : ∀ p, p < (ys.take m).length * sz' → ∃ u e x, (ys.take m)[p / sz']? = some e ∧ e[p % sz']? = some x ∧ w.cell? ⟨b, off + p, none⟩ = some u ∧ RF tab w (Stab w F σ γ) x u ∧ x.scalar = true := by
    intro p hp
    obtain ⟨k1, k2, k3⟩ := split_idx h0 hp
    have hel := hzt ((ys.take m)[p / sz']) (List.getElem_mem k1)
    obtain ⟨u, u1, u2, u3⟩ := hc (p / sz') _ (hsub _ _ (List.getElem?_eq_getElem k1)) (p % sz') _ (List.getElem?_eq_getElem (by omega))
    exact ⟨u, _, _, List.getElem?_eq_getElem k1, List.getElem?_eq_getElem (by omega), by rw [← u1]; congr 2; omega, u2, u3⟩
   refine ⟨((List.range ((ys.take m).length * sz')).map fun p => (w.cell? ⟨b, off + p, none⟩).getD undef).toArray, by simp, fun d => ?_, fun i e hi j x hj => ?_⟩
   ·simp only [Builtin.firstCells]
    have := run_loadCells (P := P) { w with drawn := d } ⟨b, off, none⟩ ((ys.take m).length * sz') (fun p => (w.cell? ⟨b, off + p, none⟩).getD undef) (fun p hp => by
     obtain ⟨u, e, x, _, _, hu, _⟩ := hcell p hp
     rw [add_none]
     show w.cell? ⟨b, off + p, none⟩ = _
     rw [hu]; rfl)
    rw [this]
   ·obtain ⟨u, u1, u2, u3⟩ := hc i e (hsub i e hi) j x hj
    have hil := lt_of_get hi
    have hjl : j < sz' := by have := lt_of_get hj; have := hzt e (List.mem_of_getElem? hi); omega
    have hlt : i * sz' + j < (ys.take m).length * sz' := by
     have : (i + 1) * sz' ≤ (ys.take m).length * sz' := Nat.mul_le_mul_right _ hil
     rw [Nat.add_mul] at this; omega
    refine ⟨u, ?_, u3, u2⟩
    rw [List.getElem?_toArray, List.getElem?_map, List.getElem?_range hlt]
    simp only [Option.map_some]
    rw [show off + (i * sz' + j) = off + i * sz' + j by omega, u1]; rfl
theorem take_str {w : World} {S : Nat → Prop} (s : ByteArray) (m : Nat) (hm : m ≤ s.size) : SrcC P tab w S 1 (.string s) ((s.data.toList.map fun b => [AV.int .u8 b.toNat]).take m) := by
 have hsz : s.data.size = s.size := rfl
 have hl : ((s.data.toList.map fun b => [AV.int .u8 b.toNat]).take m).length = m := by simp; omega
 have hd : (s.extract 0 m).data = s.data.extract 0 m := by simp
 refine ⟨(s.data.extract 0 m).map (fun b => .int .u8 b.toNat), by rw [hl]; simp; omega, fun d => ?_, fun i e hi j x hj => ?_⟩
 ·rw [hl]
  show Result.ok ((s.extract 0 m).data.map fun b => Value.int .u8 b.toNat) _ = _
  rw [hd]
 ·have hil := lt_of_get hi
  rw [hl] at hil
  rw [List.getElem?_take_of_lt hil] at hi
  simp at hi
  obtain ⟨b, hb, rfl⟩ := hi
  cases j with
  | zero =>
   simp at hj; subst hj
   refine ⟨.int .u8 b.toNat, ?_, rfl, .int _ _⟩
   have hq : (s.data.extract 0 m)[i]? = s.data[i]? := by
    rw [Array.getElem?_extract]
    simp; omega
   rw [Nat.mul_one, Nat.add_zero, Array.getElem?_map, hq, hb]; rfl
  | succ j => simp at hj
theorem src_str {w : World} {S : Nat → Prop} (s : ByteArray) : Src P tab w S 1 (.string s) (s.data.toList.map fun b => [AV.int .u8 b.toNat]) := by
 have hs : s.size = (s.data.toList.map fun b => [AV.int .u8 b.toNat]).length := by rw [List.length_map, Array.length_toList]; rfl
 have hx : (s.extract 0 s.size).data = s.data := by
  have : s.extract 0 s.size = s := by simp
  rw [this]
 refine ⟨?_, s.data.map (fun b => .int .u8 b.toNat), by simp, fun d => ?_, fun i e hi j x hj => ?_⟩
 ·rw [← hs]; rfl
 ·rw [← hs]
  show Result.ok ((s.extract 0 s.size).data.map fun b => Value.int .u8 b.toNat) _ = _
  rw [hx]
 ·simp at hi
  obtain ⟨b, hb, rfl⟩ := hi
  cases j with
  | zero => simp at hj; subst hj; exact ⟨.int .u8 b.toNat, by simp [hb], rfl, .int _ _⟩
  | succ j => simp at hj
theorem Src.one {w : World} {S : Nat → Prop} {sz : Nat} {ys : List (List AV)} {A : Array Value} (h0 : 0 < sz) (hz : szOK sz ys) (hs : A.size = ys.length * sz)
  (hr : ∀ (i : Nat) (e : List AV), ys[i]? = some e → ∀ (j : Nat) (x : AV), e[j]? = some x → ∃ u, A[i * sz + j]? = some u ∧ x.scalar = true ∧ RF tab w S x u) : ∀ u ∈ A.toList, u.oneCell' = true := by
 intro u hu
 obtain ⟨p, hp, e⟩ := List.getElem_of_mem hu
 simp at hp
 obtain ⟨k1, k2, k3⟩ := split_idx h0 (by rw [← hs]; exact hp)
 have hel := hz (ys[p / sz]) (List.getElem_mem k1)
 obtain ⟨u', u1, u2, u3⟩ := hr (p / sz) _ (List.getElem?_eq_getElem k1) (p % sz) _ (List.getElem?_eq_getElem (by omega))
 rw [k3] at u1
 have : u = u' := by
  rw [Array.getElem?_eq_getElem hp] at u1
  simp at u1 e
  rw [← e, ← u1]
 rw [this]
 exact one_ok (σ := []) (γ := []) (.fz _ _ u3) u2
def appB (P : Program) (s y : TypeId) (sz bytes : Nat) : Bool := match elemB P s with
 | some e => szB P e sz && (match P.info? e with
  | some i => i.bytes == bytes && i.bytes != 0
  | none => false) && (match P.underlying y with
  | some (.slice _) | some .string => true
  | _ => false) && (match P.info? e with
  | some i => match i.zero with
   | some z => z.cells.size == sz
   | none => false
  | none => false)
 | none => false
theorem appB_ok {s y : TypeId} {sz bytes : Nat} (h : appB P s y sz bytes = true) : ∃ e z i, P.underlying s = some (.slice e) ∧ szB P e sz = true ∧ P.info? e = some i ∧ i.bytes = bytes ∧ bytes ≠ 0 ∧ i.zero = some z ∧ z.cells.size = sz ∧
  ((∃ e', P.underlying y = some (.slice e')) ∨ P.underlying y = some .string) := by
 unfold appB at h
 split at h
 ·rename_i e he
  simp only [Bool.and_eq_true] at h
  obtain ⟨⟨⟨h1, h2⟩, h3⟩, h4⟩ := h
  cases hi : P.info? e with
  | none => simp [hi] at h2
  | some i =>
   simp [hi] at h2 h4
   cases hz : i.zero with
   | none => simp [hz] at h4
   | some z =>
    simp [hz] at h4
    refine ⟨e, z, i, elemB_ok he, h1, hi, h2.1, by omega, hz, h4, ?_⟩
    cases hu : P.underlying y with
    | none => simp [hu] at h3
    | some d => cases d <;> simp [hu] at h3 ⊢
 ·exact absurd h (by simp)
theorem run_append {w : World} {S : Nat → Prop} {s y ty : TypeId} {sz bytes : Nat} (hB : appB P s y sz bytes = true) {base : Option Addr} {len cap : Nat} {v : Value} {ys : List (List AV)} (hsrc : Src P tab w S sz v ys)
  (hb : (len + ys.length) * bytes ≤ 140737488355328) {xs : List (List AV)} (hxs : Src P tab w S sz (.slice base len cap) xs) (hl : xs.length = len) :
  ∃ A : Array Value, A.size = ys.length * sz ∧ (∀ (i : Nat) (e : List AV), ys[i]? = some e → ∀ (j : Nat) (x : AV), e[j]? = some x → ∃ u, A[i * sz + j]? = some u ∧ x.scalar = true ∧ RF tab w S x u) ∧
   (len + ys.length ≤ cap → (Builtin.append_ #[s, y] ty #[.slice base len cap, v]).run P w = ((match base with
    | some a => storeCells (a.add (len * sz)) A.toList
    | none => pure () : Sem Unit).run P w).andThen fun _ w' => .ok (.slice base (len + ys.length) cap) w') ∧
   (¬ len + ys.length ≤ cap → ∃ newCap e D, len + ys.length ≤ newCap ∧ D.size = newCap * sz ∧ (Builtin.append_ #[s, y] ty #[.slice base len cap, v]).run P w = .ok (.slice (some ⟨w.heap.size, 0, none⟩) (len + ys.length) newCap) { w with heap := w.heap.push (.cells D e), drawn := w.drawn + 1 } ∧
    ∀ (i : Nat) (e : List AV), (xs ++ ys)[i]? = some e → ∀ (j : Nat) (x : AV), e[j]? = some x → j < sz → ∃ u, D[i * sz + j]? = some u ∧ x.scalar = true ∧ RF tab w S x u) := by
 obtain ⟨e, z, i, hu, hs, hi, hby, hby0, hz, hzs, hd⟩ := appB_ok hB
 obtain ⟨hlen, A, hA1, hA2, hA3⟩ := hsrc
 obtain ⟨_, B, hB1, hB2, hB3⟩ := hxs
 have hA2' := hA2 w.drawn
 have hs' := run_sz (P := P) (w := w) hs
 have hsz : i.size = sz := by unfold szB at hs; rw [hi] at hs; simpa using hs
 subst hsz
 refine ⟨A, hA1, hA3, ?_, ?_⟩
 ·intro hle
  cases base with
  | none => rcases hd with ⟨e', hd⟩ | hd <;> simp [Builtin.append_, run_underlying hu, run_underlying hd, sizeOf, typeInfo, hi, hlen, hle, hA2']
  | some a =>
   rcases hd with ⟨e', hd⟩ | hd <;> (simp [Builtin.append_, run_underlying hu, run_underlying hd, sizeOf, typeInfo, hi, hlen, hle, hA2'])
 ·intro hle
  have hcap : Builtin.nextslicecap (len + ys.length) cap ≤ 2 * (len + ys.length) := nextcap_le _ _ (by omega)
  have h48 : ¬ ((Builtin.nextslicecap (len + ys.length) cap * i.bytes : Nat) : Int) > 281474976710656 := by
   have : Builtin.nextslicecap (len + ys.length) cap * i.bytes ≤ 2 * (len + ys.length) * i.bytes := Nat.mul_le_mul_right _ hcap
   rw [hby] at this ⊢
   rw [Nat.mul_assoc] at this
   omega
  have h48' : ¬ 281474976710656 < Builtin.nextslicecap (len + ys.length) cap * i.bytes := by omega
  have hby1 : ¬ i.bytes = 0 := by omega
  have hA3' : (Builtin.firstCells i.size ys.length v).run P w.drew = .ok A w.drew := hA2 (w.drawn + 1)
  have hB3' : (Builtin.firstCells i.size xs.length (.slice base len cap)).run P w.drew = .ok B w.drew := hB2 (w.drawn + 1)
  rw [hl] at hB3'
  have hf : ∀ n, (Question.appendCap n cap e).forced = false := fun n => rfl
  let nc := (Question.appendCap (len + ys.length) cap e).cut (w.tape w.drawn (.appendCap (len + ys.length) cap e))
  have hnc : len + ys.length ≤ nc := by simp [nc, Question.cut]
  let D := B ++ A ++ Builtin.zeroCells z.cells (nc - (len + ys.length))
  have hD : D.size = nc * i.size := by
   simp only [D, Array.size_append, size_zeroCells, hB1, hA1, hl, hzs]
   rw [← Nat.add_mul, ← Nat.add_mul]
   congr 1; omega
  refine ⟨nc, e, D, hnc, hD, ?_, ?_⟩
  ·rcases hd with ⟨e', hd⟩ | hd <;>
    (simp [Builtin.append_, run_underlying hu, run_underlying hd, sizeOf, typeInfo, zeroValue, hi, hz, hlen, hle, hA3', hB3', hf, h48', hby1, newRow, nc, D]; rfl)
  ·intro j el hj k x hx hk
   rcases Nat.lt_or_ge j xs.length with h1 | h1
   ·rw [List.getElem?_append_left h1] at hj
    obtain ⟨u, u1, u2, u3⟩ := hB3 j el hj k x hx
    exact ⟨u, by
     have := (Array.getElem?_eq_some_iff.1 u1).1
     simp only [D]
     rw [Array.getElem?_append_left (by simp; omega), Array.getElem?_append_left this]; exact u1, u2, u3⟩
   ·rw [List.getElem?_append_right h1] at hj
    obtain ⟨u, u1, u2, u3⟩ := hA3 _ el hj k x hx
    have hlt := (Array.getElem?_eq_some_iff.1 u1).1
    have e1 : j * i.size = xs.length * i.size + (j - xs.length) * i.size := by rw [← Nat.add_mul]; congr 1; omega
    exact ⟨u, by
     simp only [D]
     rw [Array.getElem?_append_left (by simp [hB1]; omega), Array.getElem?_append_right (by omega), ← u1]
     congr 1; omega, u2, u3⟩
end
end Go.Den

namespace Go.Den
open Go

section
variable {P : Program} {tab : Nat → Nat}
theorem src_mono {w : World} {S : Nat → Prop} {sz : Nat} (a : Option Addr) : Src P tab w S sz (.slice a 0 0) [] :=
 ⟨rfl, #[], by simp, fun d => by cases a <;> simp [Builtin.firstCells, loadCells, loadCellsFrom], by simp⟩
theorem append_nils {w : World} {F : Nat → Prop} {base : Nat} {σ : St} {γ : List Gh} {s y ty : TypeId} {sz bytes : Nat} {v u : Value} {ys : List (List AV)} (I : Inv tab w F σ γ) (hB : appB P s y sz bytes = true) (hx : RS tab w F σ γ .nils u)
  (hsrc : Src P tab w (Stab w F σ γ) sz v ys) (h0 : 0 < sz) (hz : szOK sz ys) (hb : ys.length * bytes ≤ 140737488355328) :
  Done tab F base w σ γ ((val (Builtin.append_ #[s, y] ty #[u, v])).run P w) (.sl ys) σ ∧
  (base ≤ σ.length → Done tab F base w σ γ ((val (Builtin.append_ #[s, y] ty #[u, v])).run P w) (.osl σ.length 0 ys.length 0 ys.length) (σ ++ [.arr 0 sz ys])) := by
 cases hx.frozen rfl with
 | nils a =>
  obtain ⟨A, hA1, hA3, r1, r2⟩ := run_append (ty := ty) hB hsrc (by simpa using hb) (src_mono a) rfl
  simp only [Nat.zero_add, List.nil_append, Nat.le_zero] at r1 r2
  by_cases hy : ys = []
  ·subst hy
   have hA : A = #[] := by simpa using hA1
   subst hA
   have r1 : (Builtin.append_ #[s, y] ty #[.slice a 0 0, v]).run P w = .ok (.slice a 0 0) w := by
    rw [r1 rfl]; cases a <;> simp [storeCells]
   refine ⟨done_same I (val_run r1) (.fz _ _ (.sl0 a 0)), fun hbase => ?_⟩
   have hn : σ[σ.length]? = none := List.getElem?_eq_none (Nat.le_refl _)
   have e1 : (σ ++ [Ob.arr 0 sz []])[σ.length]? = some (.arr 0 sz []) := by simp
   have e2 : (γ ++ [(⟨0, 0, 0⟩ : Gh)])[σ.length]? = some ⟨0, 0, 0⟩ := by rw [← I.len]; simp
   obtain ⟨h1, h2⟩ := change (w1 := w) (σ1 := σ ++ [.arr 0 sz []]) (γ1 := γ ++ [⟨0, 0, 0⟩]) σ.length I rfl rfl rfl (Nat.le_refl _)
    (fun k hk => by
     have hl := I.len
     rcases Nat.lt_or_ge k σ.length with h | h
     ·exact ⟨List.getElem?_append_left h, List.getElem?_append_left (by omega)⟩
     ·rw [List.getElem?_eq_none (by simp; omega), List.getElem?_eq_none h, List.getElem?_eq_none (by simp; omega), List.getElem?_eq_none (by omega)]; exact ⟨rfl, rfl⟩)
    (by simp) (by simp [I.len]) (fun b hb => .inl rfl)
    (fun z g hz hg ho => by rw [e1] at hz; rw [e2] at hg; simp at hz hg; subst hz; subst hg; simp [owns] at ho)
    (fun z g hz => by rw [hn] at hz; exact absurd hz (by simp))
   refine ⟨_, w, _, .inl (val_run r1), h1, h2 fun z g hz hg => ?_, .osl _ _ _ _ _ _ ⟨_, _, _, rfl⟩ ⟨_, _, e1, e2, .inr ⟨rfl, by simp⟩, fun _ _ _ => ⟨a, rfl, fun h => by simp at h⟩⟩, Fr.push hbase _⟩
   rw [e1] at hz; rw [e2] at hg; simp at hz hg; subst hz; subst hg
   exact ⟨h0, by simp, by simp, by simp⟩
  ·obtain ⟨nc, e, D, hnc, hD, hrun, hr⟩ := r2 (by simp; exact hy)
   have st0 : Step σ.length w σ γ { w with drawn := w.drawn + 1 } σ γ ∧ Inv tab { w with drawn := w.drawn + 1 } F σ γ := still I rfl rfl rfl (Nat.le_refl _) (fun _ _ => rfl)
   have hlen : ∀ (i : Nat) (e : List AV), ys[i]? = some e → ∀ (j : Nat) (x : AV), e[j]? = some x → j < sz := fun i e hi j x hj => by
    have := lt_of_get hj; have := hz e (List.mem_of_getElem? hi); omega
   constructor
   ·obtain ⟨h1, h2⟩ := free_push st0.2 (.cells D e)
    refine ⟨_, _, γ, .inl (val_run hrun), st0.1.trans h1, h2, .fz _ _ ?_, Fr.refl _ _⟩
    refine row_sl (D := D) (sz := sz) (free_stab st0.2 _) ⟨e, (0, 0), Array.getElem?_push_size⟩ hz hnc (fun i el hi j x hx => ?_)
    obtain ⟨k, k1, k2, k3⟩ := hr i el hi j x hx (hlen i el hi j x hx)
    exact ⟨k, k1, k2, k3.mono fun b hb => (st0.1.trans h1).stab hb⟩
   ·intro hbase
    obtain ⟨h1, h2, h3⟩ := new_push st0.2 hbase (.cells D e) (.arr 0 sz ys) nc fun st =>
     arr_obj (D := D) (ty := e) (g := ⟨w.heap.size, 0, nc⟩) (st0.1.trans st) h0 hnc hz (fun _ => ⟨Array.getElem?_push_size, by simp [hD]⟩) (fun i el hi j x hx => by simpa using hr i el hi j x hx (hlen i el hi j x hx))
    refine ⟨_, _, _, .inl (val_run hrun), st0.1.trans h1, h2, .osl _ _ _ _ _ _ ⟨_, _, _, rfl⟩ ⟨.arr 0 sz ys, ⟨w.heap.size, 0, nc⟩, by simp, by rw [← I.len]; simp, .inr ⟨rfl, by simp⟩, fun _ _ _ => ⟨_, rfl, fun _ => by simp⟩⟩, h3⟩

theorem append_osl {w : World} {F : Nat → Prop} {base : Nat} {σ : St} {γ : List Gh} {s y ty : TypeId} {sz bytes o ver ver' n off len : Nat} {v u : Value} {ys es es' : List (List AV)} (I : Inv tab w F σ γ) (hB : appB P s y sz bytes = true)
  (hx : RS tab w F σ γ (.osl o ver n off len) u) (ho : σ[o]? = some (.arr ver sz es)) (hn : es.length = n) (hle : off + len ≤ n)
  (hsrc : Src P tab w (Stab w F σ γ) sz v ys) (hz : szOK sz ys) (hb : (len + ys.length) * bytes ≤ 140737488355328)
  (hes : es' = (es.drop off).take len ++ ys) (hv : (off = 0 ∧ len = n ∧ ver' = ver) ∨ ver' = ver + 1) :
  Done tab F base w σ γ ((val (Builtin.append_ #[s, y] ty #[u, v])).run P w) (.osl o ver' (len + ys.length) 0 (len + ys.length)) (σ.set o (.arr ver' sz es')) := by
 have hxs : elems σ (.osl o ver n off len) = some ((es.drop off).take len, true) := by simp [elems, ho, hn, hle]
 cases hx with
 | fz _ _ h => exact absurd h.noref (by simp [AV.noref])
 | osl _ _ _ _ _ _ hv0 h =>
  have hx : RS tab w F σ γ (.osl o ver n off len) u := .osl _ _ _ _ _ _ hv0 h
  obtain ⟨x, g, h1, hg, h3⟩ := h
  rw [ho] at h1; simp at h1; subst h1
  obtain ⟨a, rfl, ha⟩ := h3.2 rfl hn.symm hle
  obtain ⟨k1, k2, k3, k4⟩ := I.ok o _ g ho hg
  have hol := lt_of_get ho
  have hgl := lt_of_get hg
  have hxl : ((es.drop off).take len).length = len := by simp; omega
  have hxz : szOK sz ((es.drop off).take len) := fun e he => k3 e (List.mem_of_mem_drop (List.mem_of_mem_take he))
  have hesl : es'.length = len + ys.length := by rw [hes, List.length_append, hxl]
  have hesz : szOK sz es' := fun e he => by
   rw [hes] at he
   rcases List.mem_append.1 he with h | h
   ·exact hxz e h
   ·exact hz e h
  have hlen : ∀ (i : Nat) (e : List AV), es'[i]? = some e → ∀ (j : Nat) (x : AV), e[j]? = some x → j < sz := fun i e hi j x hj => by
   have := lt_of_get hj; have := hesz e (List.mem_of_getElem? hi); omega
  have hsx := src_elems (P := P) I hx hxs k1 hxz
  obtain ⟨A, hA1, hA3, r1, r2⟩ := run_append (ty := ty) hB hsrc hb hsx hxl
  have hFr : Fr base σ (σ.set o (.arr ver' sz es')) := Fr.set fun b _ _ _ => rfl
  by_cases hroom : len + ys.length ≤ g.cap - off
  ·have r1 := r1 hroom
   clear r2
   have hst : ∀ (g' : Gh), (off = 0 ∧ len = n ∧ ver' = ver → g' = g ∨ es.length < es'.length) → ObStep (.arr ver sz es) g (.arr ver' sz es') g' := by
    intro g' hg'
    rcases hv with ⟨rfl, rfl, rfl⟩ | rfl
    ·rcases hg' ⟨rfl, rfl, rfl⟩ with rfl | h
     ·by_cases h0 : ys = []
      ·exact .same _ _ _ _ _ (by rw [hesl, h0]; simp; omega)
      ·exact .more _ _ _ _ _ _ (by rw [hesl]; have := List.length_pos_iff.2 h0; omega)
     ·exact .more _ _ _ _ _ _ h
    ·exact .anew _ _ _ _ _ _ _ (by omega)
   let g' : Gh := ⟨g.b, g.base + off * sz, g.cap - off⟩
   have hgg : off = 0 ∧ len = n ∧ ver' = ver → g' = g ∨ es.length < es'.length := by
    rintro ⟨rfl, _, _⟩; left; simp [g']
   have e1 : (σ.set o (.arr ver' sz es'))[o]? = some (.arr ver' sz es') := by simp [hol]
   have e2 : (γ.set o g')[o]? = some g' := by simp [hgl]
   have hoslok : ∀ w1, RS tab w1 F (σ.set o (.arr ver' sz es')) (γ.set o g') (.osl o ver' (len + ys.length) 0 (len + ys.length)) (.slice a (len + ys.length) (g.cap - off)) := fun w1 =>
    .osl _ _ _ _ _ _ ⟨_, _, _, rfl⟩ ⟨_, g', e1, e2, .inr ⟨rfl, by omega⟩, fun _ _ _ => ⟨a, rfl, fun hc => by rw [ha (by simpa [g'] using hc)]; simp [g']⟩⟩
   by_cases hc : 0 < g.cap - off
   ·have := ha hc; subst this
    obtain ⟨vs, ty', q1, q2, q3⟩ := k4 (by omega)
    have hsz : off * sz + (g.cap - off) * sz = g.cap * sz := by rw [← Nat.add_mul]; congr 1; omega
    have hls : (len + ys.length) * sz ≤ (g.cap - off) * sz := Nat.mul_le_mul_right _ hroom
    rw [Nat.add_mul] at hls
    have hfit : g.base + off * sz + len * sz + A.toList.length ≤ vs.size := by simp [hA1]; omega
    have hone := Src.one (tab := tab) (w := w) (S := Stab w F σ γ) k1 hz hA1 hA3
    have hrun := run_storeCells_at (P := P) g.b (g.base + off * sz + len * sz) ty' A.toList 0 vs w q1 (by simpa using hfit) hone
    simp only [Nat.add_zero] at hrun
    simp only [add_none] at r1
    rw [hrun] at r1
    simp only [Result.andThen_ok] at r1
    have hcapg : es'.length ≤ g'.cap := by simp only [g', hesl]; exact hroom
    have hfitg : g'.base + g'.cap * sz ≤ ((vs.toList.take (g.base + off * sz + len * sz) ++ A.toList ++ vs.toList.drop (g.base + off * sz + len * sz + A.toList.length)).toArray).size := by
     rw [overV_size _ _ _ hfit]; simp only [g']; omega
    have howng : owns (.arr ver sz es) g = true := by simp [owns]; omega
    obtain ⟨s1, s2⟩ := change (w1 := w.setRow g.b (vs.toList.take (g.base + off * sz + len * sz) ++ A.toList ++ vs.toList.drop (g.base + off * sz + len * sz + A.toList.length)).toArray) (σ1 := σ.set o (.arr ver' sz es')) (γ1 := γ.set o g') o I rfl rfl rfl (by simp)
     (fun k hk => ⟨by rw [List.getElem?_set]; simp [Ne.symm hk], by rw [List.getElem?_set]; simp [Ne.symm hk]⟩) (by simp) (by simp [I.len])
     (fun b hb' => by
      by_cases e : b = g.b
      ·exact .inr ⟨_, g, ho, hg, howng, e.symm⟩
      ·exact .inl (setRow_other w g.b b _ e))
     (fun z g2 hz hg2 _ => by
      rw [e2] at hg2; simp at hg2; subst hg2
      exact .inr ⟨_, g, ho, hg, howng, rfl⟩)
     (fun z g2 hz hg2 => by
      rw [ho] at hz; rw [hg] at hg2; simp at hz hg2; subst hz; subst hg2
      exact ⟨_, g', e1, e2, hst g' hgg⟩)
    refine ⟨_, _, _, .inl (val_run r1), s1, s2 fun z g2 hz hg2 => ?_, hoslok _, hFr⟩
    rw [e1] at hz; rw [e2] at hg2; simp at hz hg2; subst hz; subst hg2
    refine arr_obj (ty := ty') (D := (vs.toList.take (g.base + off * sz + len * sz) ++ A.toList ++ vs.toList.drop (g.base + off * sz + len * sz + A.toList.length)).toArray) s1 k1 hcapg hesz
     (fun _ => ⟨setRow_heap w g.b vs _ ty' _ q1, hfitg⟩) (fun i e hi j x hx => ?_)
    have hj := hlen i e hi j x hx
    rw [overV_get _ _ _ _ hfit]
    rw [hes] at hi
    rcases Nat.lt_or_ge i len with hil | hil
    ·rw [List.getElem?_append_left (by omega), List.getElem?_take_of_lt hil, List.getElem?_drop] at hi
     obtain ⟨t, t1, t2, t3⟩ := q3 _ e hi j x hx
     have : (i + 1) * sz ≤ len * sz := Nat.mul_le_mul_right _ hil
     rw [Nat.add_mul] at this
     refine ⟨t, ?_, t2, t3⟩
     rw [if_neg (by simp [g']; omega), ← t1]
     congr 1; simp only [g']; rw [Nat.add_mul]; omega
    ·rw [List.getElem?_append_right (by omega), hxl] at hi
     obtain ⟨t, t1, t2, t3⟩ := hA3 _ e hi j x hx
     have hlt := (Array.getElem?_eq_some_iff.1 t1).1
     have e3 : i * sz = len * sz + (i - len) * sz := by rw [← Nat.add_mul]; congr 1; omega
     refine ⟨t, ?_, t2, t3⟩
     rw [if_pos (by simp [g']; omega)]
     rw [show g'.base + i * sz + j - (g.base + off * sz + len * sz) = (i - len) * sz + j by simp only [g']; omega]
     simpa using t1
   ·have hl0 : len = 0 := by omega
    have hy0 : ys = [] := List.eq_nil_of_length_eq_zero (by omega)
    subst hl0; subst hy0
    have hA0 : A = #[] := by simpa using hA1
    subst hA0
    have r1 : (Builtin.append_ #[s, y] ty #[.slice a 0 (g.cap - off), v]).run P w = .ok (.slice a 0 (g.cap - off)) w := by
     rw [r1]; cases a <;> simp [storeCells]
    obtain ⟨s1, s2⟩ := change (w1 := w) (σ1 := σ.set o (.arr ver' sz es')) (γ1 := γ.set o g') o I rfl rfl rfl (Nat.le_refl _)
     (fun k hk => ⟨by rw [List.getElem?_set]; simp [Ne.symm hk], by rw [List.getElem?_set]; simp [Ne.symm hk]⟩) (by simp) (by simp [I.len])
     (fun b _ => .inl rfl)
     (fun z g2 hz hg2 hown => by
      rw [e1] at hz; rw [e2] at hg2; simp at hz hg2; subst hz; subst hg2
      simp [owns, g'] at hown; omega)
     (fun z g2 hz hg2 => by
      rw [ho] at hz; rw [hg] at hg2; simp at hz hg2; subst hz; subst hg2
      exact ⟨_, g', e1, e2, hst g' hgg⟩)
    refine ⟨_, _, _, .inl (val_run r1), s1, s2 fun z g2 hz hg2 => ?_, hoslok _, hFr⟩
    rw [e1] at hz; rw [e2] at hg2; simp at hz hg2; subst hz; subst hg2
    exact ⟨k1, by simp [hesl], hesz, fun hcc => by simp [g'] at hcc; omega⟩
  ·obtain ⟨nc, e, D, hnc, hD, hrun, hr⟩ := r2 hroom
   have st0 : Step σ.length w σ γ { w with drawn := w.drawn + 1 } σ γ ∧ Inv tab { w with drawn := w.drawn + 1 } F σ γ := still I rfl rfl rfl (Nat.le_refl _) (fun _ _ => rfl)
   let g' : Gh := ⟨w.heap.size, 0, nc⟩
   have e1 : (σ.set o (.arr ver' sz es'))[o]? = some (.arr ver' sz es') := by simp [hol]
   have e2 : (γ.set o g')[o]? = some g' := by simp [hgl]
   obtain ⟨s1, s2⟩ := change (w1 := { w with heap := w.heap.push (.cells D e), drawn := w.drawn + 1 }) (σ1 := σ.set o (.arr ver' sz es')) (γ1 := γ.set o g') o I rfl rfl rfl (by simp)
    (fun k hk => ⟨by rw [List.getElem?_set]; simp [Ne.symm hk], by rw [List.getElem?_set]; simp [Ne.symm hk]⟩) (by simp) (by simp [I.len])
    (fun b hb' => .inl (push_lt w _ b hb'))
    (fun z g2 hz hg2 hown => by
     rw [e2] at hg2; simp at hg2; subst hg2
     exact .inl ⟨Nat.le_refl _, by simp [g']⟩)
    (fun z g2 hz hg2 => by
     rw [ho] at hz; rw [hg] at hg2; simp at hz hg2; subst hz; subst hg2
     refine ⟨_, g', e1, e2, ?_⟩
     rcases hv with ⟨rfl, rfl, rfl⟩ | rfl
     ·exact .more _ _ _ _ _ _ (by omega)
     ·exact .anew _ _ _ _ _ _ _ (by omega))
   refine ⟨_, _, _, .inl (val_run hrun), s1, s2 fun z g2 hz hg2 => ?_, .osl _ _ _ _ _ _ ⟨_, _, _, rfl⟩ ⟨_, g', e1, e2, .inr ⟨rfl, by omega⟩, fun _ _ _ => ⟨_, rfl, fun _ => by simp [g']⟩⟩, hFr⟩
   rw [e1] at hz; rw [e2] at hg2; simp at hz hg2; subst hz; subst hg2
   refine arr_obj (ty := e) (D := D) s1 k1 (by simp [g', hesl]; omega) hesz (fun _ => ⟨Array.getElem?_push_size, by simp [g', hD]⟩) (fun i el hi j x hx => ?_)
   rw [hes] at hi
   simpa [g'] using hr i el hi j x hx (hlen i el (by rw [hes]; exact hi) j x hx)
end
end Go.Den

namespace Go.Den
open Go

section
variable {P : Program} {tab : Nat → Nat}
theorem int_eq {w : World} {S : Nat → Prop} {σ : St} {γ : List Gh} {k : IntKind} {n : Int} {v : Value} (h : RV tab w S σ γ (.int k n) v) : v = .int k n := by
 cases h.frozen rfl; rfl
theorem bool_eq {w : World} {S : Nat → Prop} {σ : St} {γ : List Gh} {b : Bool} {v : Value} (h : RV tab w S σ γ (.bool b) v) : v = .bool b := by
 cases h.frozen rfl; rfl
theorem str_eq {w : World} {S : Nat → Prop} {σ : St} {γ : List Gh} {b : ByteArray} {v : Value} (h : RV tab w S σ γ (.str b) v) : v = .string b := by
 cases h.frozen rfl; rfl
theorem len_elems {w : World} {F : Nat → Prop} {base : Nat} {σ : St} {γ : List Gh} {t e ty : TypeId} {x : AV} {v : Value} {es : List (List AV)} {tt : Bool} (I : Inv tab w F σ γ) (ht : P.underlying t = some (.slice e)) (hx : RS tab w F σ γ x v) (he : elems σ x = some (es, tt)) :
  Done tab F base w σ γ ((val (Builtin.len_ #[t] ty #[v])).run P w) (.int .i64 es.length) σ := by
 obtain ⟨a, cap, rfl, _, _⟩ := elems_ok I hx he
 exact done_same I (val_run (by simp [Builtin.len_, run_underlying ht, goInt])) (.fz _ _ (.int _ _))
theorem len_str {w : World} {F : Nat → Prop} {base : Nat} {σ : St} {γ : List Gh} {t ty : TypeId} {s : ByteArray} {v : Value} (I : Inv tab w F σ γ) (ht : P.underlying t = some .string) (hx : RS tab w F σ γ (.str s) v) :
  Done tab F base w σ γ ((val (Builtin.len_ #[t] ty #[v])).run P w) (.int .i64 s.size) σ := by
 cases hx.frozen rfl with
 | str => exact done_same I (val_run (by simp [Builtin.len_, run_underlying ht, goInt])) (.fz _ _ (.int _ _))
theorem index_str {w : World} {F : Nat → Prop} {base : Nat} {σ : St} {γ : List Gh} {t : TypeId} {s : ByteArray} {k : IntKind} {i : Int} {b : UInt8} {u v : Value} (I : Inv tab w F σ γ) (ht : P.underlying t = some .string) (hx : RS tab w F σ γ (.str s) v) (hi : RS tab w F σ γ (.int k i) u)
  (h0 : 0 ≤ i) (hb : s.data[i.toNat]? = some b) : Done tab F base w σ γ ((val (Instr.index t v u)).run P w) (.int .u8 b.toNat) σ := by
 cases hx.frozen rfl with
 | str =>
  cases hi.frozen rfl with
  | int =>
   have hb' : s[i.toNat]? = some b := by
    have hlt := (Array.getElem?_eq_some_iff.1 hb).1
    have : s[i.toNat]? = some (s[i.toNat]'hlt) := getElem?_pos s i.toNat hlt
    rw [this]
    have e := (Array.getElem?_eq_some_iff.1 hb).2
    show some (s.data[i.toNat]) = some b
    rw [e]
   exact done_same I (val_run (by simp [Instr.index, asIntOf, run_underlying ht, h0, hb'])) (.fz _ _ (.int _ _))

def chkO (tab : Nat → Nat) : Option Operand → Option Opd → Bool
 | none, none => true
 | some x, some y => chkOpd tab x y
 | _, _ => false
theorem bound_run {w : World} {F : Nat → Prop} {σ : St} {γ : List Gh} {env : Env} {a : Act} (E : EnvOk tab w F σ γ env a.tmps) {x : Operand} {y : Opd} (h : chkOpd tab x y = true) {d n : Nat} (hb : bound env d (some y) = some n) (m : Nat) (hm : n ≤ m) (c : BoundsCode) :
  (Instr.sliceBound (a.eval x) m c).run P w = .ok n w := by
 have hx := opd_ok E h
 simp only [bound] at hb
 split at hb
 ·rename_i k i hi
  rw [hi] at hx
  split at hb
  ·rename_i h0
   simp at hb; subst hb
   have h1 : i ≤ m := by omega
   simp [Instr.sliceBound, int_eq hx, asIntOf, h0, h1]
  ·exact absurd hb (by simp)
 ·exact absurd hb (by simp)
theorem bounds_run {w : World} {F : Nat → Prop} {σ : St} {γ : List Gh} {env : Env} {a : Act} (E : EnvOk tab w F σ γ env a.tmps) {lo hi : Option Operand} {lo' hi' : Option Opd} (h1 : chkO tab lo lo' = true) (h2 : chkO tab hi hi' = true) {len cap l h : Nat} {sl : Bool}
  (hl : bound env 0 lo' = some l) (hh : bound env len hi' = some h) (hle : l ≤ h) (hc : h ≤ cap) :
  (Instr.sliceBounds sl len cap (lo.map a.eval) (hi.map a.eval) none).run P w = .ok (l, h, cap) w := by
 have r1 : ((match (hi.map a.eval) with
   | some v => Instr.sliceBound v cap (if sl then .sliceAcap else .sliceAlen)
   | none => pure len : Sem Nat)).run P w = .ok h w := by
  cases hi with
  | none =>
   cases hi' with
   | none => simp [bound] at hh; subst hh; rfl
   | some y => simp [chkO] at h2
  | some x =>
   cases hi' with
   | none => simp [chkO] at h2
   | some y => exact bound_run E (by simpa [chkO] using h2) hh cap hc _
 have r2 : ((match (lo.map a.eval) with
   | some v => Instr.sliceBound v h .sliceB
   | none => pure 0 : Sem Nat)).run P w = .ok l w := by
  cases lo with
  | none =>
   cases lo' with
   | none => simp [bound] at hl; subst hl; rfl
   | some y => simp [chkO] at h1
  | some x =>
   cases lo' with
   | none => simp [chkO] at h1
   | some y => exact bound_run E (by simpa [chkO] using h1) hl h hle _
 cases hi <;> cases lo <;> simp only [Instr.sliceBounds, Option.map_none, Option.map_some, Sem.run_bind, Sem.run_pure, Result.andThen_ok, Option.isSome_none, Bool.false_eq_true, if_false] at r1 r2 ⊢ <;> simp_all
theorem bounds_run3 {w : World} {F : Nat → Prop} {σ : St} {γ : List Gh} {env : Env} {a : Act} (E : EnvOk tab w F σ γ env a.tmps) {lo hi : Option Operand} {mx : Operand} {lo' hi' : Option Opd} {mx' : Opd} (h1 : chkO tab lo lo' = true) (h2 : chkO tab hi hi' = true) (h3 : chkOpd tab mx mx' = true) {len cap l h m d d' : Nat} {sl : Bool}
  (hs : hi.isSome = true) (hl : bound env 0 lo' = some l) (hh : bound env d hi' = some h) (hm : bound env d' (some mx') = some m) (hle : l ≤ h) (hc : h ≤ m) (hcc : m ≤ cap) :
  (Instr.sliceBounds sl len cap (lo.map a.eval) (hi.map a.eval) (some (a.eval mx))).run P w = .ok (l, h, m) w := by
 cases hi with
 | none => simp at hs
 | some x =>
  cases hi' with
  | none => simp [chkO] at h2
  | some y =>
   have r0 := fun c => bound_run (P := P) E h3 hm cap hcc c
   have r1 := fun c => bound_run (P := P) E (by simpa [chkO] using h2) hh m hc c
   cases lo with
   | none =>
    cases lo' with
    | none =>
     simp [bound] at hl; subst hl
     simp [Instr.sliceBounds, r0, r1]
    | some y => simp [chkO] at h1
   | some x' =>
    cases lo' with
    | none => simp [chkO] at h1
    | some y' =>
     have r2 := fun c => bound_run (P := P) E (by simpa [chkO] using h1) hl h hle c
     simp [Instr.sliceBounds, r0, r1, r2]
theorem slice_str {w : World} {F : Nat → Prop} {base : Nat} {σ : St} {γ : List Gh} {env : Env} {a : Act} {t : TypeId} {s : ByteArray} {v : Value} (I : Inv tab w F σ γ) (E : EnvOk tab w F σ γ env a.tmps) (ht : P.underlying t = some .string) (hx : RS tab w F σ γ (.str s) v)
  {lo hi : Option Operand} {lo' hi' : Option Opd} (h1 : chkO tab lo lo' = true) (h2 : chkO tab hi hi' = true) {l h : Nat} (hl : bound env 0 lo' = some l) (hh : bound env s.size hi' = some h) (hle : l ≤ h) (hc : h ≤ s.size) :
  Done tab F base w σ γ ((val (Instr.sliceAt t v (lo.map a.eval) (hi.map a.eval) none)).run P w) (.str (s.extract l h)) σ := by
 have r := bounds_run (P := P) (sl := false) E h1 h2 hl hh hle hc
 exact done_same I (val_run (by rw [str_eq hx]; simp [Instr.sliceAt, Instr.slice, run_underlying ht, r])) (.fz _ _ (.str _))
theorem slice_run {w : World} {t e : TypeId} {sz : Nat} (ht : P.underlying t = some (.slice e)) (hs : szB P e sz = true) {a : Option Addr} {len cap l h m : Nat} {lo hi mx : Option Value} (hr : (Instr.sliceBounds true len cap lo hi mx).run P w = .ok (l, h, m) w) :
  (Instr.sliceAt t (.slice a len cap) lo hi mx).run P w = .ok (.slice (if m = l then a else a.map (·.add (l * sz))) (h - l) (m - l)) w := by
 simp [Instr.sliceAt, Instr.slice, run_underlying ht, hr, run_sz hs]
theorem slice_sl {w : World} {F : Nat → Prop} {σ : St} {γ : List Gh} {sz l h m : Nat} {es : List (List AV)} {a : Option Addr} {cap : Nat} (hx : RS tab w F σ γ (.sl es) (.slice a es.length cap)) (hz : szOK sz es) (hle : l ≤ h) (hh : h ≤ es.length) (hm : h ≤ m) :
  RS tab w F σ γ (.sl ((es.drop l).take (h - l))) (.slice (if m = l then a else a.map (·.add (l * sz))) (h - l) (m - l)) := by
 by_cases h0 : h = l
 ·subst h0
  simp
  exact .fz _ _ (.sl0 _ _)
 ·have hl : ((es.drop l).take (h - l)).length = h - l := by simp; omega
  cases hx.frozen rfl with
  | sl0 a c => simp at hh; omega
  | sl b off sz' cap _ vs hb hz' hl' hc hs hr =>
   have hss : sz' = sz := by
    have hne : 0 < es.length := by omega
    rw [← hz' es[0] (List.getElem_mem hne), hz es[0] (List.getElem_mem hne)]
   subst hss
   rw [if_neg (by omega)]
   simp only [Option.map_some, add_none]
   have hget : ∀ (i : Nat) (e : List AV), ((es.drop l).take (h - l))[i]? = some e → es[l + i]? = some e := by
    intro i e hi
    have hil : i < h - l := by have := lt_of_get hi; omega
    rw [List.getElem?_take_of_lt hil, List.getElem?_drop] at hi
    exact hi
   have := RF.sl (tab := tab) (w := w) (S := Stab w F σ γ) b (off + l * sz') sz' (m - l) ((es.drop l).take (h - l)) (fun i j => vs (l + i) j) hb (fun e he => hz e (List.mem_of_mem_drop (List.mem_of_mem_take he))) (by omega)
    (fun i e hi j x hx => by
     have := hc _ e (hget i e hi) j x hx
     rw [← this]; congr 2; rw [Nat.add_mul]; omega)
    (fun i e hi j x hx => hs _ e (hget i e hi) j x hx) (fun i e hi j x hx => hr _ e (hget i e hi) j x hx)
   rw [hl] at this
   exact .fz _ _ this
theorem sl_open {w : World} {F : Nat → Prop} {σ : St} {γ : List Gh} {es : List (List AV)} {v : Value} (h : RS tab w F σ γ (.sl es) v) : ∃ a cap, v = .slice a es.length cap ∧ es.length ≤ cap := by
 cases h.frozen rfl with
 | sl0 a c => exact ⟨a, c, rfl, Nat.zero_le _⟩
 | sl b off sz' cap _ vs hb hz' hl' hc hs hr => exact ⟨_, cap, rfl, hl'⟩
theorem nils_open {w : World} {F : Nat → Prop} {σ : St} {γ : List Gh} {v : Value} (h : RS tab w F σ γ .nils v) : ∃ a, v = .slice a 0 0 := by
 cases h.frozen rfl with
 | nils a => exact ⟨a, rfl⟩
theorem slice_osl {w : World} {F : Nat → Prop} {base : Nat} {σ : St} {γ : List Gh} {t e : TypeId} {sz o ver n off len l h : Nat} {es : List (List AV)} {v : Value} {lo hi : Option Value} (I : Inv tab w F σ γ) (ht : P.underlying t = some (.slice e)) (hs : szB P e sz = true)
  (hx : RS tab w F σ γ (.osl o ver n off len) v) (ho : σ[o]? = some (.arr ver sz es)) (hn : es.length = n) (hle : off + len ≤ n) (hlh : l ≤ h) (hh : h ≤ len)
  (hr : ∀ cap, h ≤ cap → (Instr.sliceBounds true len cap lo hi none).run P w = .ok (l, h, cap) w) :
  Done tab F base w σ γ ((val (Instr.sliceAt t v lo hi none)).run P w) (.osl o ver n (off + l) (h - l)) σ := by
 cases hx with
 | fz _ _ h => exact absurd h.noref (by simp [AV.noref])
 | osl _ _ _ _ _ _ hv0 hO =>
  obtain ⟨x, g, h1, hg, h3⟩ := hO
  rw [ho] at h1; simp at h1; subst h1
  obtain ⟨a, rfl, ha⟩ := h3.2 rfl hn.symm hle
  obtain ⟨k1, k2, k3, k4⟩ := I.ok o _ g ho hg
  have hcap : h ≤ g.cap - off := by omega
  refine done_same I (val_run (slice_run ht hs (hr _ hcap))) (.osl _ _ _ _ _ _ ⟨_, _, _, rfl⟩ ⟨_, g, ho, hg, h3.1, fun _ _ _ => ⟨_, by rw [show g.cap - (off + l) = g.cap - off - l by omega], fun hc => ?_⟩⟩)
  rw [if_neg (by omega), ha (by omega)]
  simp only [Option.map_some, add_none, Nat.add_mul, Nat.add_assoc]
theorem mkfn_ok {w : World} {F : Nat → Prop} {base : Nat} {σ : St} {γ : List Gh} {env : Env} {a : Act} (I : Inv tab w F σ γ) (E : EnvOk tab w F σ γ env a.tmps) {f : Nat} {caps : List Operand} {caps' : List Opd} (h : chkOpds tab caps caps' = true) (hs : (evs env caps').all AV.scalar = true) :
  Done tab F base w σ γ ((val (Instr.makeFunc (.func (tab f)) #[] (caps.map a.eval).toArray)).run P w) (.fn f (evs env caps')) σ := by
 have key : ∀ (caps : List Operand) (caps' : List Opd), chkOpds tab caps caps' = true → (caps.map a.eval).length = (evs env caps').length ∧ ∀ (j : Nat) (x : AV) (v : Value), (evs env caps')[j]? = some x → (caps.map a.eval)[j]? = some v → RS tab w F σ γ x v := by
  intro caps
  induction caps with
  | nil => intro caps' h; cases caps' <;> simp [chkOpds, evs] at h ⊢
  | cons c r ih =>
   intro caps' h
   cases caps' with
   | nil => simp [chkOpds] at h
   | cons c' r' =>
    simp only [chkOpds, Bool.and_eq_true] at h
    obtain ⟨q1, q2⟩ := ih r' h.2
    refine ⟨by simp only [List.map_cons, evs, List.length_cons, q1], fun j x v hx hv => ?_⟩
    cases j with
    | zero => simp [evs] at hx hv; subst hx; subst hv; exact opd_ok E h.1
    | succ j => exact q2 j x v (by simpa [evs] using hx) (by simpa using hv)
 obtain ⟨q1, q2⟩ := key caps caps' h
 exact done_same I (val_run (v := .func (.func (tab f)) #[] (caps.map a.eval).toArray) rfl) (.fn f _ _ q1 (fun j x hx => (List.all_eq_true.1 hs) x (List.mem_of_getElem? hx)) q2)
end
end Go.Den

namespace Go.Den
open Go

section
variable {P : Program} {tab : Nat → Nat}
def plainFs (P : Program) (k : TypeId → Option (List CK)) : List Field → Nat → Option (List CK)
 | [], _ => some []
 | f :: r, off => if (f.name == "_") = false ∧ f.offset = off then
   match k f.type with
   | some ks => if szB P f.type ks.length = true then (match plainFs P k r (off + ks.length) with
    | some ks' => some (ks ++ ks')
    | none => none) else none
   | none => none
  else none
def repK (ks : List CK) : Nat → List CK
 | 0 => []
 | m + 1 => ks ++ repK ks m
def plainK (P : Program) : Nat → TypeId → Option (List CK)
 | 0, _ => none
 | n + 1, t => match P.underlying t with
  | some .bool => some [.b]
  | some (.int _) => some [.i]
  | some .string => some [.s]
  | some (.struct fs) => if P.stoodInHeld t = false then plainFs P (plainK P n) fs.toList 0 else none
  | some (.array m e) => (match plainK P n e with
   | some ks => if szB P e ks.length = true then some (repK ks m) else none
   | none => none)
  | _ => none
def valOf (P : Program) (t : TypeId) (us : List Value) : Value := match P.underlying t with
 | some (.struct _) => .agg us.toArray
 | some (.array _ _) => .agg us.toArray
 | _ => us.headD undef
theorem eqCells_app : ∀ {ks ks' : List CK} {xs ys : List AV} {r : Bool}, eqCells (ks ++ ks') xs ys = some r → ∃ r1 r2, eqCells ks (xs.take ks.length) (ys.take ks.length) = some r1 ∧ eqCells ks' (xs.drop ks.length) (ys.drop ks.length) = some r2 ∧ r = (r1 && r2)
 | [], ks', xs, ys, r, h => ⟨true, r, by simp [eqCells], by simpa using h, by simp⟩
 | k :: ks, ks', [], _, r, h => by simp [eqCells] at h
 | k :: ks, ks', _ :: _, [], r, h => by simp [eqCells] at h
 | k :: ks, ks', x :: xs, y :: ys, r, h => by
  simp only [List.cons_append, eqCells] at h
  split at h
  ·rename_i a b h1 h2
   simp at h; subst h
   obtain ⟨r1, r2, q1, q2, q3⟩ := eqCells_app h2
   exact ⟨a && r1, r2, by simp [eqCells, h1, q1], by simpa using q2, by rw [q3, Bool.and_assoc]⟩
  ·exact absurd h (by simp)
theorem eqCells_len : ∀ {ks : List CK} {xs ys : List AV} {r : Bool}, eqCells ks xs ys = some r → xs.length = ks.length ∧ ys.length = ks.length
 | [], [], [], _, _ => ⟨rfl, rfl⟩
 | [], _ :: _, _, _, h => by simp [eqCells] at h
 | [], [], _ :: _, _, h => by simp [eqCells] at h
 | k :: ks, [], _, r, h => by simp [eqCells] at h
 | k :: ks, _ :: _, [], r, h => by simp [eqCells] at h
 | k :: ks, x :: xs, y :: ys, r, h => by
  simp only [eqCells] at h
  split at h
  ·rename_i a b h1 h2
   obtain ⟨q1, q2⟩ := eqCells_len h2
   simp [q1, q2]
  ·exact absurd h (by simp)
def EqOpen : CK → Value → Value → Bool → Prop
 | .i, u, v, r => ∃ (i : IntKind) (a b : Int), u = .int i a ∧ v = .int i b ∧ r = decide (a = b)
 | .b, u, v, r => ∃ a b : Bool, u = .bool a ∧ v = .bool b ∧ r = (a == b)
 | .s, u, v, r => ∃ a b : ByteArray, u = .string a ∧ v = .string b ∧ r = decide (a = b)
theorem eqB_open {w : World} {S : Nat → Prop} {k : CK} {x y : AV} {u v : Value} {r : Bool} (hx : RF tab w S x u) (hy : RF tab w S y v) (h : eqB k x y = some r) : EqOpen k u v r := by
 cases k <;> cases x <;> (try (simp [eqB] at h; done)) <;> cases y <;> (try (simp [eqB] at h; done))
 ·simp only [eqB] at h
  split at h
  ·rename_i e; subst e; simp at h; subst h
   cases hx; cases hy; exact ⟨_, _, _, rfl, rfl, rfl⟩
  ·exact absurd h (by simp)
 ·simp [eqB] at h; subst h; cases hx; cases hy; exact ⟨_, _, rfl, rfl, rfl⟩
 ·simp [eqB] at h; subst h; cases hx; cases hy; exact ⟨_, _, rfl, rfl, by simp⟩
theorem str_beq (a b : ByteArray) : (a.toList == b.toList) = decide (a = b) := by
 rw [ByteArray.toList_eq, ByteArray.toList_eq]
 obtain ⟨⟨x⟩⟩ := a
 obtain ⟨⟨y⟩⟩ := b
 by_cases h : x = y
 ·subst h; simp
 ·have h2 : ¬ ((⟨⟨x⟩⟩ : ByteArray) = ⟨⟨y⟩⟩) := by simpa using h
  rw [decide_eq_false h2]
  simpa using h
theorem int_beq (a b : Int) : (a == b) = decide (a = b) := by
 by_cases h : a = b <;> simp [h]
theorem plain_val {w : World} {n : Nat} {t : TypeId} {ks : List CK} (h : plainK P n t = some ks) (hz : szB P t ks.length = true) (ts : List Value) (off : Nat) (hl : ks.length ≠ 0 → off + ks.length ≤ ts.length) :
  (part t ts.toArray off).run P w = .ok (valOf P t ((ts.drop off).take ks.length)) w := by
 have hz' := run_sz (P := P) (w := w) hz
 cases n with
 | zero => simp [plainK] at h
 | succ n =>
  simp only [plainK] at h
  split at h
  case h_4 =>
   rename_i fs hu
   simp [part, isAgg, run_underlying hu, hz', valOf, hu]
  case h_5 =>
   rename_i m e hu
   simp [part, isAgg, run_underlying hu, hz', valOf, hu]
  case h_6 => exact absurd h (by simp)
  all_goals
   rename_i hu
   simp at h; subst h
   simp at hl
   have hlt : off < ts.length := by omega
   have e1 : (ts.drop off).take 1 = [ts[off]] := by rw [List.drop_eq_getElem_cons hlt]; rfl
   simp [part, isAgg, run_underlying hu, valOf, hu, hlt, e1]
def Reads (tab : Nat → Nat) (w : World) (S : Nat → Prop) (xs : List AV) (us : List Value) : Prop := us.length = xs.length ∧ ∀ (j : Nat) (x : AV) (u : Value), xs[j]? = some x → us[j]? = some u → RF tab w S x u
theorem Reads.sub {w : World} {S : Nat → Prop} {xs : List AV} {us : List Value} (h : Reads tab w S xs us) (off n : Nat) : Reads tab w S ((xs.drop off).take n) ((us.drop off).take n) :=
 ⟨by simp [h.1], fun j x u hx hu => by
  have hj : j < n := by have := lt_of_get hx; simp at this; omega
  rw [List.getElem?_take_of_lt hj, List.getElem?_drop] at hx hu
  exact h.2 _ x u hx hu⟩
theorem eq_plain (w w' : World) (S : Nat → Prop) (d : Nat) : (∀ (n : Nat) (t : TypeId) (ks : List CK), plainK P n t = some ks → ∀ (xs ys : List AV) (us vs : List Value) (r : Bool), Reads tab w' S xs us → Reads tab w' S ys vs → eqCells ks xs ys = some r →
  (Op.equalIn (d + n) t (valOf P t us) (valOf P t vs)).run P w = .ok r w) := by
 intro n
 induction n with
 | zero => intro t ks h; simp [plainK] at h
 | succ n ih =>
  intro t ks h xs ys us vs r hx hy he
  obtain ⟨l1, l2⟩ := eqCells_len he
  have hone : ∀ k, ks = [k] → ∃ x y u v, us = [u] ∧ vs = [v] ∧ RF tab w' S x u ∧ RF tab w' S y v ∧ eqB k x y = some r := by
   rintro k rfl
   simp at l1 l2
   obtain ⟨x, rfl⟩ := List.length_eq_one_iff.1 l1
   obtain ⟨y, rfl⟩ := List.length_eq_one_iff.1 l2
   obtain ⟨u, rfl⟩ := List.length_eq_one_iff.1 (hx.1.trans rfl)
   obtain ⟨v, rfl⟩ := List.length_eq_one_iff.1 (hy.1.trans rfl)
   refine ⟨x, y, u, v, rfl, rfl, hx.2 0 x u rfl rfl, hy.2 0 y v rfl rfl, ?_⟩
   simp only [eqCells] at he
   split at he
   ·rename_i a b h1 h2
    simp at h2; subst h2; simp at he; rw [h1, he]
   ·exact absurd he (by simp)
  simp only [plainK] at h
  split at h
  ·rename_i hu
   simp at h
   obtain ⟨x, y, u, v, rfl, rfl, hxx, hyy, hh⟩ := hone .b h.symm
   obtain ⟨a, b, rfl, rfl, rfl⟩ := eqB_open hxx hyy hh
   simp only [valOf, hu, List.headD_cons]
   rw [← Nat.add_assoc]
   exact run_equalIn_bool' w _ t a b hu
  ·rename_i k hu
   simp at h
   obtain ⟨x, y, u, v, rfl, rfl, hxx, hyy, hh⟩ := hone .i h.symm
   obtain ⟨i, a, b, rfl, rfl, rfl⟩ := eqB_open hxx hyy hh
   simp only [valOf, hu, List.headD_cons]
   rw [← Nat.add_assoc, run_equalIn_int w _ t i k a b hu, int_beq]
  ·rename_i hu
   simp at h
   obtain ⟨x, y, u, v, rfl, rfl, hxx, hyy, hh⟩ := hone .s h.symm
   obtain ⟨a, b, rfl, rfl, rfl⟩ := eqB_open hxx hyy hh
   simp only [valOf, hu, List.headD_cons]
   rw [← Nat.add_assoc, run_equalIn_string w _ t a b hu, str_beq]
  ·rename_i fs hu
   split at h
   ·rename_i hp
    simp only [valOf, hu]
    have hf : P.fieldsOf t = fs := by simp [Program.fieldsOf, hu]
    rw [← Nat.add_assoc, run_equalIn_struct (P := P) w _ t _ _ (by rw [hf]; exact hu) hp, hf]
    have key : ∀ (l : List Field) (off : Nat) (ks : List CK) (r : Bool), plainFs P (plainK P n) l off = some ks → eqCells ks (xs.drop off) (ys.drop off) = some r → (Op.eqFields (d + n) us.toArray vs.toArray l).run P w = .ok r w := by
     intro l
     induction l with
     | nil =>
      intro off ks r h he
      simp [plainFs] at h; subst h
      have : r = true := by
       obtain ⟨q1, q2⟩ := eqCells_len he
       have e1 : xs.drop off = [] := List.eq_nil_of_length_eq_zero q1
       have e2 : ys.drop off = [] := List.eq_nil_of_length_eq_zero q2
       rw [e1, e2] at he; simpa [eqCells] using he.symm
      subst this
      simp [Op.eqFields]
     | cons f l ihl =>
      intro off ks r h he
      simp only [plainFs] at h
      split at h
      ·rename_i hc
       obtain ⟨hn, ho⟩ := hc
       subst ho
       split at h
       ·rename_i k1 hk1
        split at h
        ·rename_i hsz
         split at h
         ·rename_i k2 hk2
          simp at h; subst h
          obtain ⟨r1, r2, q1, q2, q3⟩ := eqCells_app he
          rw [List.drop_drop, List.drop_drop] at q2
          have hr := ihl _ _ _ hk2 q2
          obtain ⟨l3, l4⟩ := eqCells_len q1
          simp at l3 l4
          have ha := plain_val (w := w) hk1 hsz us f.offset (fun _ => by have := hx.1; omega)
          have hb := plain_val (w := w) hk1 hsz vs f.offset (fun _ => by have := hy.1; omega)
          have heq := ih f.type k1 hk1 _ _ _ _ _ (hx.sub f.offset k1.length) (hy.sub f.offset k1.length) q1
          have hn' : f.name ≠ "_" := by simpa using hn
          rw [Op.eqFields]
          simp only [if_pos hn', Sem.run_bind, ha, hb, heq, Result.andThen_ok]
          subst q3
          cases r1
          ·simp
          ·simpa using hr
         ·exact absurd h (by simp)
        ·exact absurd h (by simp)
       ·exact absurd h (by simp)
      ·exact absurd h (by simp)
    exact key fs.toList 0 ks r h (by simpa using he)
   ·exact absurd h (by simp)
  ·rename_i m e hu
   split at h
   case h_2 => exact absurd h (by simp)
   rename_i k1 hk1
   split at h
   case isFalse => exact absurd h (by simp)
   rename_i hsz
   simp at h; subst h
   obtain ⟨i, hi, hi2⟩ : ∃ i, P.info? e = some i ∧ i.size = k1.length := by
    unfold szB at hsz
    split at hsz
    ·rename_i i hi; exact ⟨i, hi, by simpa using hsz⟩
    ·exact absurd hsz (by simp)
   have hc : P.cellsOf e = k1.length := by
    have h1 := run_sizeOf w hi (P := P)
    have h2 := run_sz (P := P) (w := w) hsz
    rw [h1] at h2
    simpa using h2
   simp only [valOf, hu]
   rw [← Nat.add_assoc, run_equalIn_array w (d + n) _ _ hu hi, hc, List.range_eq_range']
   have key : ∀ (m a : Nat) (r : Bool), eqCells (repK k1 m) (xs.drop (a * k1.length)) (ys.drop (a * k1.length)) = some r → (Op.eqItems (d + n) e k1.length us.toArray vs.toArray (List.range' a m)).run P w = .ok r w := by
    intro m
    induction m with
    | zero =>
     intro a r he
     have : r = true := by
      obtain ⟨q1, q2⟩ := eqCells_len he
      have e1 : xs.drop (a * k1.length) = [] := List.eq_nil_of_length_eq_zero q1
      have e2 : ys.drop (a * k1.length) = [] := List.eq_nil_of_length_eq_zero q2
      rw [e1, e2] at he; simpa [repK, eqCells] using he.symm
     subst this
     simp [Op.eqItems]
    | succ m ihm =>
     intro a r he
     simp only [repK] at he
     obtain ⟨r1, r2, q1, q2, q3⟩ := eqCells_app he
     rw [List.drop_drop, List.drop_drop, ← Nat.succ_mul] at q2
     have hr := ihm _ _ q2
     obtain ⟨l3, l4⟩ := eqCells_len q1
     simp at l3 l4
     have ha := plain_val (w := w) hk1 hsz us (a * k1.length) (fun _ => by have := hx.1; omega)
     have hb := plain_val (w := w) hk1 hsz vs (a * k1.length) (fun _ => by have := hy.1; omega)
     have heq := ih e k1 hk1 _ _ _ _ _ (hx.sub (a * k1.length) k1.length) (hy.sub (a * k1.length) k1.length) q1
     rw [List.range'_succ, Op.eqItems]
     simp only [Sem.run_bind, ha, hb, heq, Result.andThen_ok]
     subst q3
     cases r1
     ·simp
     ·simpa using hr
   exact key m 0 r (by simpa using he)
  ·exact absurd h (by simp)
def bare : Value → Bool
 | .agg _ | .nilIface => false
 | _ => true
theorem guard_ok {w : World} {op : BinOp} {t : TypeId} {x y : Operand} {u v : Value} (hu : bare u = true) : (eqGuard op t x y u v).run P w = .ok () w := by
 cases u with
 | agg => simp [bare] at hu
 | nilIface => simp [bare] at hu
 | _ => cases op <;> simp [eqGuard]
def binB (P : Program) (kd : EK) (t : TypeId) : Bool := match kd with
 | .num => true
 | .bool => match P.underlying t with | some .bool => true | _ => false
 | .ptr => match P.underlying t with | some (.pointer _) => true | _ => false
 | .fn => match P.underlying t with | some (.func ..) => true | _ => false
 | .slc => match P.underlying t with | some (.slice _) => true | _ => false
 | .agg ks => plainK P 50 t == some ks && (match P.underlying t with | some (.struct _) => true | some (.array _ _) => true | _ => false) && !P.eqGuardType P.depth t
theorem eql_of {w : World} {t : TypeId} {u v : Value} {r : Bool} (h1 : binOp .eql t u v = (do pure (.bool (← Op.equal t u v)))) (h2 : binOp .neq t u v = (do pure (.bool (!(← Op.equal t u v))))) (h : (Op.equalIn (9999 + 1) t u v).run P w = .ok r w) :
  (binOp .eql t u v).run P w = .ok (.bool r) w ∧ (binOp .neq t u v).run P w = .ok (.bool (!r)) w := by
 have h' : (Op.equal t u v).run P w = .ok r w := h
 rw [h1, h2]
 exact ⟨by simp only [Sem.run_bind, h', Result.andThen_ok, Sem.run_pure], by simp only [Sem.run_bind, h', Result.andThen_ok, Sem.run_pure]⟩
theorem eq_ptr1 {w : World} {t e : TypeId} (hu : P.underlying t = some (.pointer e)) (d : Nat) : (Op.equalIn (d + 1) t (.pointer none) (.pointer none)).run P w = .ok true w := by
 simp only [Op.equalIn, Sem.run_bind, run_underlying hu, Result.andThen_ok]; rfl
theorem eq_ptr2 {w : World} {t e : TypeId} (hu : P.underlying t = some (.pointer e)) (d : Nat) (p : Addr) : (Op.equalIn (d + 1) t (.pointer none) (.pointer (some p))).run P w = .ok false w := by
 simp only [Op.equalIn, Sem.run_bind, run_underlying hu, Result.andThen_ok]; rfl
theorem eq_ptr3 {w : World} {t e : TypeId} (hu : P.underlying t = some (.pointer e)) (d : Nat) (p : Addr) : (Op.equalIn (d + 1) t (.pointer (some p)) (.pointer none)).run P w = .ok false w := by
 simp only [Op.equalIn, Sem.run_bind, run_underlying hu, Result.andThen_ok]; rfl
theorem eq_fn1 {w : World} {t : TypeId} {a b c} (hu : P.underlying t = some (.func a b c)) (d : Nat) : (Op.equalIn (d + 1) t .nilFunc .nilFunc).run P w = .ok true w := by
 simp only [Op.equalIn, Sem.run_bind, run_underlying hu, Result.andThen_ok]; rfl
theorem eq_fn2 {w : World} {t : TypeId} {a b c} (hu : P.underlying t = some (.func a b c)) (d : Nat) (p q s) : (Op.equalIn (d + 1) t .nilFunc (.func p q s)).run P w = .ok false w := by
 simp only [Op.equalIn, Sem.run_bind, run_underlying hu, Result.andThen_ok]; rfl
theorem eq_fn3 {w : World} {t : TypeId} {a b c} (hu : P.underlying t = some (.func a b c)) (d : Nat) (p q s) : (Op.equalIn (d + 1) t (.func p q s) .nilFunc).run P w = .ok false w := by
 simp only [Op.equalIn, Sem.run_bind, run_underlying hu, Result.andThen_ok]; rfl
theorem ptr_open {w : World} {F : Nat → Prop} {σ : St} {γ : List Gh} {x : AV} {u : Value} (hx : RS tab w F σ γ x u) (h : (∃ cs, x = .rptr cs) ∨ (∃ o off, x = .ref o off) ∨ (∃ o ver n i off, x = .eref o ver n i off)) : ∃ p, u = .pointer (some p) := by
 rcases h with ⟨cs, rfl⟩ | ⟨o, off, rfl⟩ | ⟨o, ver, n, i, off, rfl⟩
 ·cases hx.frozen rfl; exact ⟨_, rfl⟩
 ·cases hx with
  | fz _ _ h => exact absurd h.noref (by simp [AV.noref])
  | ref => exact ⟨_, rfl⟩
 ·cases hx with
  | fz _ _ h => exact absurd h.noref (by simp [AV.noref])
  | eref _ _ _ _ _ _ hv _ => exact hv
theorem nilp_open {w : World} {F : Nat → Prop} {σ : St} {γ : List Gh} {u : Value} (hx : RS tab w F σ γ .nilp u) : u = .pointer none := by cases hx.frozen rfl; rfl
theorem nilfn_open {w : World} {F : Nat → Prop} {σ : St} {γ : List Gh} {u : Value} (hx : RS tab w F σ γ .nilfn u) : u = .nilFunc := by cases hx.frozen rfl; rfl
theorem fn_open {w : World} {F : Nat → Prop} {σ : St} {γ : List Gh} {f : Nat} {caps : List AV} {u : Value} (hx : RS tab w F σ γ (.fn f caps) u) : ∃ a b c, u = .func a b c := by
 cases hx with
 | fz _ _ h => cases h; exact ⟨_, _, _, rfl⟩
 | fn => exact ⟨_, _, _, rfl⟩
theorem eq_slc1 {w : World} {t e : TypeId} (hu : P.underlying t = some (.slice e)) (d c c' : Nat) : (Op.equalIn (d + 1) t (.slice none 0 c) (.slice none 0 c')).run P w = .ok true w := by
 simp only [Op.equalIn, Sem.run_bind, run_underlying hu, Result.andThen_ok]; rfl
theorem eq_slc2 {w : World} {t e : TypeId} (hu : P.underlying t = some (.slice e)) (d n c c' : Nat) (a : Addr) : (Op.equalIn (d + 1) t (.slice (some a) n c) (.slice none 0 c')).run P w = .ok false w := by
 simp only [Op.equalIn, Sem.run_bind, run_underlying hu, Result.andThen_ok]; rfl
theorem nil0_open {w : World} {F : Nat → Prop} {σ : St} {γ : List Gh} {u : Value} (hx : RS tab w F σ γ .nil0 u) : ∃ c, u = .slice none 0 c := by cases hx.frozen rfl; exact ⟨_, rfl⟩
theorem eq_run {w : World} {F : Nat → Prop} {σ : St} {γ : List Gh} {kd : EK} {t : TypeId} {x y : AV} {u v : Value} {r : Bool} (hB : binB P kd t = true) (hx : RS tab w F σ γ x u) (hy : RS tab w F σ γ y v) (h : eq2 kd x y = some r) (xo yo : Operand) :
  (∀ op, (eqGuard op t xo yo u v).run P w = .ok () w) ∧ (binOp .eql t u v).run P w = .ok (.bool r) w ∧ (binOp .neq t u v).run P w = .ok (.bool (!r)) w := by
 unfold eq2 at h
 split at h
 ·-- integers
  split at h
  ·rename_i e; subst e; simp at h; subst h
   rw [int_eq hx, int_eq hy]
   exact ⟨fun op => guard_ok rfl, by simp [binOp, Op.intCmp, int_beq], by simp [binOp, Op.intCmp, bne, int_beq]⟩
  ·exact absurd h (by simp)
 ·simp at h; subst h
  rw [str_eq hx, str_eq hy]
  exact ⟨fun op => guard_ok rfl, by simp [binOp, Op.stringOp, str_beq], by simp [binOp, Op.stringOp, str_beq]⟩
 ·simp at h; subst h
  rw [bool_eq hx, bool_eq hy]
  simp only [binB] at hB
  split at hB
  ·rename_i hu
   exact ⟨fun op => guard_ok rfl, eql_of rfl rfl (run_equalIn_bool' w _ t _ _ hu)⟩
  ·exact absurd hB (by simp)
 ·rename_i ks xs ys
  simp only [binB, Bool.and_eq_true, beq_iff_eq] at hB
  obtain ⟨⟨h1, h2⟩, h3⟩ := hB
  obtain ⟨us, rfl, hl, hs, hr⟩ := agg_open hx
  obtain ⟨vs, rfl, hl', hs', hr'⟩ := agg_open hy
  have hval : ∀ us : List Value, valOf P t us = .agg us.toArray := by
   intro us
   unfold valOf
   split at h2
   ·rfl
   ·rfl
   ·exact absurd h2 (by simp)
  ·have hnx : ∀ {ks : List CK} {xs ys : List AV} {r : Bool}, eqCells ks xs ys = some r → (∀ (j : Nat) (x : AV), xs[j]? = some x → x.noref = true) ∧ ∀ (j : Nat) (x : AV), ys[j]? = some x → x.noref = true := by
    intro ks
    induction ks with
    | nil =>
     intro xs ys r h
     obtain ⟨q1, q2⟩ := eqCells_len h
     have e1 : xs = [] := List.eq_nil_of_length_eq_zero q1
     have e2 : ys = [] := List.eq_nil_of_length_eq_zero q2
     subst e1; subst e2
     exact ⟨by simp, by simp⟩
    | cons k ks ih =>
     intro xs ys r h
     cases xs with
     | nil => simp [eqCells] at h
     | cons x xs =>
      cases ys with
      | nil => simp [eqCells] at h
      | cons y ys =>
       simp only [eqCells] at h
       split at h
       ·rename_i a b g1 g2
        obtain ⟨q1, q2⟩ := ih g2
        have hxy : x.noref = true ∧ y.noref = true := by
         cases k <;> cases x <;> (try (simp [eqB] at g1; done)) <;> cases y <;> first | exact ⟨rfl, rfl⟩ | (simp [eqB] at g1)
        exact ⟨fun j z hz => by cases j with | zero => simp at hz; exact hz ▸ hxy.1 | succ j => exact q1 j z (by simpa using hz), fun j z hz => by cases j with | zero => simp at hz; exact hz ▸ hxy.2 | succ j => exact q2 j z (by simpa using hz)⟩
       ·exact absurd h (by simp)
   obtain ⟨n1, n2⟩ := hnx h
   have he := eq_plain (P := P) w w (Stab w F σ γ) 9950 50 t ks h1 xs ys us vs r ⟨hl, fun j x u hx hu => (hr j x u hx hu).frozen (n1 j x hx)⟩ ⟨hl', fun j x u hx hu => (hr' j x u hx hu).frozen (n2 j x hx)⟩ h
   simp only [hval] at he
   have hg : P.eqGuardType P.depth t = false := by simpa using h3
   refine ⟨fun op => run_eqGuard_agg w op t xo yo _ _ hg, ?_, ?_⟩
   ·rw [run_eql_struct, he]; rfl
   ·rw [run_neq_struct, he]; rfl
 ·simp at h; subst h
  simp only [binB] at hB
  split at hB
  ·rename_i hu
   rw [nilp_open hx, nilp_open hy]
   exact ⟨fun op => guard_ok rfl, eql_of rfl rfl (eq_ptr1 hu _)⟩
  ·exact absurd hB (by simp)
 ·simp at h; subst h
  simp only [binB] at hB
  split at hB
  ·rename_i hu
   obtain ⟨p, rfl⟩ := ptr_open hy (.inl ⟨_, rfl⟩)
   rw [nilp_open hx]
   exact ⟨fun op => guard_ok rfl, eql_of rfl rfl (eq_ptr2 hu _ p)⟩
  ·exact absurd hB (by simp)
 ·simp at h; subst h
  simp only [binB] at hB
  split at hB
  ·rename_i hu
   obtain ⟨p, rfl⟩ := ptr_open hy (.inr (.inl ⟨_, _, rfl⟩))
   rw [nilp_open hx]
   exact ⟨fun op => guard_ok rfl, eql_of rfl rfl (eq_ptr2 hu _ p)⟩
  ·exact absurd hB (by simp)
 ·simp at h; subst h
  simp only [binB] at hB
  split at hB
  ·rename_i hu
   obtain ⟨p, rfl⟩ := ptr_open hy (.inr (.inr ⟨_, _, _, _, _, rfl⟩))
   rw [nilp_open hx]
   exact ⟨fun op => guard_ok rfl, eql_of rfl rfl (eq_ptr2 hu _ p)⟩
  ·exact absurd hB (by simp)
 ·simp at h; subst h
  simp only [binB] at hB
  split at hB
  ·rename_i hu
   obtain ⟨p, rfl⟩ := ptr_open hx (.inl ⟨_, rfl⟩)
   rw [nilp_open hy]
   exact ⟨fun op => guard_ok rfl, eql_of rfl rfl (eq_ptr3 hu _ p)⟩
  ·exact absurd hB (by simp)
 ·simp at h; subst h
  simp only [binB] at hB
  split at hB
  ·rename_i hu
   obtain ⟨p, rfl⟩ := ptr_open hx (.inr (.inl ⟨_, _, rfl⟩))
   rw [nilp_open hy]
   exact ⟨fun op => guard_ok rfl, eql_of rfl rfl (eq_ptr3 hu _ p)⟩
  ·exact absurd hB (by simp)
 ·simp at h; subst h
  simp only [binB] at hB
  split at hB
  ·rename_i hu
   obtain ⟨p, rfl⟩ := ptr_open hx (.inr (.inr ⟨_, _, _, _, _, rfl⟩))
   rw [nilp_open hy]
   exact ⟨fun op => guard_ok rfl, eql_of rfl rfl (eq_ptr3 hu _ p)⟩
  ·exact absurd hB (by simp)
 ·simp at h; subst h
  simp only [binB] at hB
  split at hB
  ·rename_i hu
   rw [nilfn_open hx, nilfn_open hy]
   exact ⟨fun op => guard_ok rfl, eql_of rfl rfl (eq_fn1 hu _)⟩
  ·exact absurd hB (by simp)
 ·simp at h; subst h
  simp only [binB] at hB
  split at hB
  ·rename_i hu
   obtain ⟨p, q, s, rfl⟩ := fn_open hy
   rw [nilfn_open hx]
   exact ⟨fun op => guard_ok rfl, eql_of rfl rfl (eq_fn2 hu _ p q s)⟩
  ·exact absurd hB (by simp)
 ·simp at h; subst h
  simp only [binB] at hB
  split at hB
  ·rename_i hu
   obtain ⟨p, q, s, rfl⟩ := fn_open hx
   rw [nilfn_open hy]
   exact ⟨fun op => guard_ok rfl, eql_of rfl rfl (eq_fn3 hu _ p q s)⟩
  ·exact absurd hB (by simp)
 ·simp at h; subst h
  simp only [binB] at hB
  split at hB
  ·rename_i hu
   obtain ⟨c, rfl⟩ := nil0_open hx
   obtain ⟨c', rfl⟩ := nil0_open hy
   exact ⟨fun op => guard_ok rfl, eql_of rfl rfl (eq_slc1 hu _ c c')⟩
  ·exact absurd hB (by simp)
 ·simp at h; subst h
  simp only [binB] at hB
  split at hB
  ·rename_i hu
   obtain ⟨c', rfl⟩ := nil0_open hy
   obtain ⟨a, c, rfl⟩ : ∃ a c, u = .slice (some a) 0 c := by cases hx.frozen rfl; exact ⟨_, _, rfl⟩
   exact ⟨fun op => guard_ok rfl, eql_of rfl rfl (eq_slc2 hu _ 0 c c' a)⟩
  ·exact absurd hB (by simp)
 ·simp at h; subst h
  simp only [binB] at hB
  split at hB
  ·rename_i hu
   obtain ⟨c', rfl⟩ := nil0_open hy
   obtain ⟨a, n, c, rfl⟩ : ∃ a n c, u = .slice (some a) n c := by cases hx.frozen rfl; exact ⟨_, _, _, rfl⟩
   exact ⟨fun op => guard_ok rfl, eql_of rfl rfl (eq_slc2 hu _ n c c' a)⟩
  ·exact absurd hB (by simp)
 ·exact absurd h (by simp)
theorem bin_ok {w : World} {F : Nat → Prop} {base : Nat} {σ : St} {γ : List Gh} {op : BinOp} {kd : EK} {t : TypeId} {x y av : AV} {u v : Value} (I : Inv tab w F σ γ) (hB : binB P kd t = true) (hx : RS tab w F σ γ x u) (hy : RS tab w F σ γ y v) (h : bin op kd x y = some av) (xo yo : Operand) :
  Done tab F base w σ γ ((val (do eqGuard op t xo yo u v; binOp op t u v)).run P w) av σ := by
 have ints : ∀ {k : IntKind} {a b : Int} {r : Value}, u = .int k a → v = .int k b → (binOp op t (.int k a) (.int k b)).run P w = .ok r w → RF tab w (Stab w F σ γ) av r → Done tab F base w σ γ ((val (do eqGuard op t xo yo u v; binOp op t u v)).run P w) av σ := by
  intro k a b r e1 e2 h1 h2
  subst e1; subst e2
  refine done_same I (val_run (v := r) ?_) (.fz _ _ h2)
  rw [Sem.run_bind, guard_ok rfl]
  exact h1
 unfold bin at h
 split at h
 ·cases he : eq2 kd x y with
  | none => simp [he] at h
  | some r =>
   simp [he] at h; subst h
   obtain ⟨h1, h2, h3⟩ := eq_run hB hx hy he xo yo
   exact done_same I (val_run (by rw [Sem.run_bind, h1]; exact h2)) (.fz _ _ (.bool _))
 ·cases he : eq2 kd x y with
  | none => simp [he] at h
  | some r =>
   simp [he] at h; subst h
   obtain ⟨h1, h2, h3⟩ := eq_run hB hx hy he xo yo
   exact done_same I (val_run (by rw [Sem.run_bind, h1]; exact h3)) (.fz _ _ (.bool _))
 case h_17 =>
  split at h
  ·rename_i hsz
   simp at h; subst h
   refine done_same I (val_run ?_) (.fz _ _ (.str _))
   rw [str_eq hx, str_eq hy, Sem.run_bind, guard_ok rfl]
   simp [binOp, Op.stringOp]
   omega
  ·exact absurd h (by simp)
 case h_18 => exact absurd h (by simp)
 case h_15 =>
  split at h
  ·rename_i hc
   simp at h; subst h
   refine done_same I (val_run (v := _) ?_) (.fz _ _ (.int _ _))
   rw [int_eq hx, int_eq hy, Sem.run_bind, guard_ok rfl]
   simp only [Result.andThen_ok, binOp, Op.shift]
   rw [if_neg (by omega)]; rfl
  ·exact absurd h (by simp)
 case h_16 =>
  split at h
  ·rename_i hc
   simp at h; subst h
   refine done_same I (val_run (v := _) ?_) (.fz _ _ (.int _ _))
   rw [int_eq hx, int_eq hy, Sem.run_bind, guard_ok rfl]
   simp only [Result.andThen_ok, binOp, Op.shift]
   rw [if_neg (by omega)]; rfl
  ·exact absurd h (by simp)
 all_goals
  split at h
  ·rename_i hc
   first
    | (obtain ⟨rfl, hb⟩ := hc; simp at h; subst h; refine ints (int_eq hx) (int_eq hy) ?_ (by constructor); simp [binOp, Op.intDiv, hb]; done)
    | (subst hc; simp at h; subst h; refine ints (int_eq hx) (int_eq hy) ?_ (by constructor); simp [binOp, Op.intArith, Op.intCmp, Op.intBits]; done)
  ·exact absurd h (by simp)
end
end Go.Den

namespace Go.Den
open Go

section
variable {P : Program} {tab : Nat → Nat}
def mapB (P : Program) (t : TypeId) (ag : Bool) (ks : List CK) : Bool := match P.underlying t with
 | some (.map k _) => plainK P 50 k == some ks && szB P k ks.length && (match P.underlying k with
  | some (.struct _) => ag
  | some (.array _ _) => false
  | _ => !ag)
 | _ => false
def mapZ (P : Program) (t : TypeId) (z : AV) : Bool := match P.underlying t with
 | some (.map _ e) => match P.info? e with
  | some i => match i.zero with
   | some v => constB v z
   | none => false
  | none => false
 | _ => false
def keyCells (ag : Bool) : AV → List AV
 | .agg xs => if ag then xs else [.agg xs]
 | x => [x]
theorem keyEq_cells {ag : Bool} {ks : List CK} {x y : AV} {r : Bool} (h : keyEq ag ks x y = some r) : (ag = true → x.isAgg = true ∧ y.isAgg = true) ∧ (ag = false → x.isAgg = false ∨ y.isAgg = false) ∧ eqCells ks (if ag then x.cellsOf else [x]) (if ag then y.cellsOf else [y]) = some r := by
 unfold keyEq at h
 split at h
 ·rename_i xs ys
  split at h
  ·rename_i ha; subst ha; exact ⟨fun _ => ⟨rfl, rfl⟩, fun h => by simp at h, by simpa [AV.cellsOf] using h⟩
  ·exact absurd h (by simp)
 ·rename_i hn
  cases ag with
  | true => simp at h
  | false =>
   refine ⟨fun h => by simp at h, fun _ => ?_, by simpa using h⟩
   cases x with
   | agg xs => cases y with
    | agg ys => exact (hn xs ys rfl rfl).elim
    | _ => exact .inr rfl
   | _ => exact .inl rfl
theorem eqB_noref {k : CK} {x y : AV} {r : Bool} (h : eqB k x y = some r) : x.noref = true ∧ y.noref = true ∧ (r = true → x = y) := by
 cases k <;> cases x <;> (try (simp [eqB] at h; done)) <;> cases y <;> (try (simp [eqB] at h; done))
 ·simp only [eqB] at h
  split at h
  ·rename_i e; subst e; simp at h; subst h; exact ⟨rfl, rfl, fun e => by simp at e; rw [e]⟩
  ·exact absurd h (by simp)
 ·simp [eqB] at h; subst h; exact ⟨rfl, rfl, fun e => by simp at e; rw [e]⟩
 ·simp [eqB] at h; subst h; exact ⟨rfl, rfl, fun e => by simp at e; rw [e]⟩
theorem eqCells_noref : ∀ {ks : List CK} {xs ys : List AV} {r : Bool}, eqCells ks xs ys = some r → norefs xs = true ∧ norefs ys = true ∧ (r = true → xs = ys)
 | [], [], [], _, _ => ⟨rfl, rfl, fun _ => rfl⟩
 | [], _ :: _, _, _, h => by simp [eqCells] at h
 | [], [], _ :: _, _, h => by simp [eqCells] at h
 | k :: ks, [], _, r, h => by simp [eqCells] at h
 | k :: ks, _ :: _, [], r, h => by simp [eqCells] at h
 | k :: ks, x :: xs, y :: ys, r, h => by
  simp only [eqCells] at h
  split at h
  ·rename_i a b h1 h2
   simp at h; subst h
   obtain ⟨q1, q2, q3⟩ := eqCells_noref h2
   obtain ⟨p1, p2, p3⟩ := eqB_noref h1
   refine ⟨by simp only [norefs, AV.noref.norefs, Bool.and_eq_true]; exact ⟨p1, q1⟩, by simp only [norefs, AV.noref.norefs, Bool.and_eq_true]; exact ⟨p2, q2⟩, fun e => ?_⟩
   simp at e
   rw [p3 e.1, q3 e.2]
  ·exact absurd h (by simp)
theorem keyEq_noref {ag : Bool} {ks : List CK} {x y : AV} {r : Bool} (h : keyEq ag ks x y = some r) : x.noref = true ∧ y.noref = true ∧ (r = true → x = y) := by
 obtain ⟨h1, h2, h3⟩ := keyEq_cells h
 obtain ⟨q1, q2, q3⟩ := eqCells_noref h3
 cases ag with
 | true =>
  obtain ⟨a, b⟩ := h1 rfl
  cases x <;> simp [AV.isAgg] at a
  cases y <;> simp [AV.isAgg] at b
  simp [AV.cellsOf] at q1 q2 q3
  exact ⟨q1, q2, fun e => by rw [q3 e]⟩
 | false =>
  simp [norefs, AV.noref.norefs] at q1 q2 q3
  exact ⟨q1, q2, q3⟩
theorem key_val {w : World} {S : Nat → Prop} {ag : Bool} {ks : List CK} {k : TypeId} (ha : (match P.underlying k with | some (.struct _) => ag | some (.array _ _) => false | _ => !ag) = true) {x y : AV} {u : Value} {r : Bool} (h : keyEq ag ks x y = some r)
  (hx : RF tab w S x u) : ∃ us, Reads tab w S (if ag then x.cellsOf else [x]) us ∧ u = valOf P k us := by
 obtain ⟨h1, h2, h3⟩ := keyEq_cells h
 cases ag with
 | true =>
  obtain ⟨a, _⟩ := h1 rfl
  cases x <;> simp [AV.isAgg] at a
  cases hx with
  | agg cs vs hl hs hr =>
   refine ⟨vs, ⟨hl, hr⟩, ?_⟩
   simp only [valOf]
   split at ha
   ·rename_i hu; first | rfl | rw [hu]
   ·exact absurd ha (by simp)
   ·exact absurd ha (by simp)
 | false =>
  refine ⟨[u], ⟨rfl, fun j x' u' hx' hu' => ?_⟩, ?_⟩
  ·cases j with
   | zero => simp at hx' hu'; subst hx'; subst hu'; exact hx
   | succ j => simp at hx'
  ·simp only [valOf]
   cases hu : P.underlying k with
   | none => rfl
   | some d => cases d <;> first | rfl | (rw [hu] at ha; exact absurd ha (by simp))
theorem key_val2 {w : World} {S : Nat → Prop} {ag : Bool} {ks : List CK} {k : TypeId} (ha : (match P.underlying k with | some (.struct _) => ag | some (.array _ _) => false | _ => !ag) = true) {x y : AV} {u : Value} {r : Bool} (h : keyEq ag ks x y = some r)
  (hy : RF tab w S y u) : ∃ us, Reads tab w S (if ag then y.cellsOf else [y]) us ∧ u = valOf P k us := by
 obtain ⟨h1, h2, h3⟩ := keyEq_cells h
 cases ag with
 | true =>
  obtain ⟨_, a⟩ := h1 rfl
  cases y <;> simp [AV.isAgg] at a
  cases hy with
  | agg cs vs hl hs hr =>
   refine ⟨vs, ⟨hl, hr⟩, ?_⟩
   simp only [valOf]
   split at ha
   ·rename_i hu; first | rfl | rw [hu]
   ·exact absurd ha (by simp)
   ·exact absurd ha (by simp)
 | false =>
  refine ⟨[u], ⟨rfl, fun j x' u' hx' hu' => ?_⟩, ?_⟩
  ·cases j with
   | zero => simp at hx' hu'; subst hx'; subst hu'; exact hy
   | succ j => simp at hx'
  ·simp only [valOf]
   cases hu : P.underlying k with
   | none => rfl
   | some d => cases d <;> first | rfl | (rw [hu] at ha; exact absurd ha (by simp))
theorem key_equal {w : World} {S : Nat → Prop} {ag : Bool} {ks : List CK} {k : TypeId} (hp : plainK P 50 k = some ks) (ha : (match P.underlying k with | some (.struct _) => ag | some (.array _ _) => false | _ => !ag) = true) {x y : AV} {u v : Value} {r : Bool} (h : keyEq ag ks x y = some r)
  (hx : RF tab w S x u) (hy : RF tab w S y v) (w' : World) : (Op.equal k u v).run P w' = .ok r w' := by
 obtain ⟨us, ru, rfl⟩ := key_val ha h hx
 obtain ⟨vs, rv, rfl⟩ := key_val2 ha h hy
 exact eq_plain (P := P) w' w S 9950 50 k ks hp _ _ us vs r ru rv (keyEq_cells h).2.2
theorem key_now {w : World} {S : Nat → Prop} {ag : Bool} {ks : List CK} {k : TypeId} {d : TypeDesc} (hd : P.underlying k = some d) (hp : plainK P 50 k = some ks) (ha : (match P.underlying k with | some (.struct _) => ag | some (.array _ _) => false | _ => !ag) = true) {x y : AV} {u v : Value} {r : Bool}
  (h : keyEq ag ks x y = some r) (hx : RF tab w S x u) (hy : RF tab w S y v) : Instr.sameNow d u v = some r ∨ ∀ u v, Instr.sameNow d u v = none := by
 obtain ⟨us, ru, rfl⟩ := key_val ha h hx
 obtain ⟨vs, rv, rfl⟩ := key_val2 ha h hy
 have h3 := (keyEq_cells h).2.2
 generalize 50 = m at hp
 cases m with
 | zero => simp [plainK] at hp
 | succ m =>
 simp only [plainK, hd] at hp
 have one : ∀ c, ks = [c] → ∃ a b : Value, us = [a] ∧ vs = [b] ∧ EqOpen c a b r := by
  rintro c rfl
  obtain ⟨l1, l2⟩ := eqCells_len h3
  generalize hX : (if ag = true then x.cellsOf else [x]) = X at *
  generalize hY : (if ag = true then y.cellsOf else [y]) = Y at *
  obtain ⟨x, rfl⟩ := List.length_eq_one_iff.1 l1
  obtain ⟨y, rfl⟩ := List.length_eq_one_iff.1 l2
  obtain ⟨u, rfl⟩ := List.length_eq_one_iff.1 (ru.1.trans rfl)
  obtain ⟨v, rfl⟩ := List.length_eq_one_iff.1 (rv.1.trans rfl)
  refine ⟨u, v, rfl, rfl, ?_⟩
  simp only [eqCells] at h3
  split at h3
  ·rename_i a b h1 h2
   simp at h2; subst h2; simp at h3; subst h3
   exact eqB_open (ru.2 0 x u rfl rfl) (rv.2 0 y v rfl rfl) h1
  ·exact absurd h3 (by simp)
 cases d <;> simp only [] at hp <;> first | (exfalso; simp at hp; done) | skip
 case bool =>
  simp at hp
  obtain ⟨a, b, rfl, rfl, p, q, rfl, rfl, rfl⟩ := one .b hp.symm
  exact .inl (by simp [valOf, hd, Instr.sameNow])
 case int i =>
  simp at hp
  obtain ⟨a, b, rfl, rfl, i', p, q, rfl, rfl, rfl⟩ := one .i hp.symm
  exact .inl (by simp [valOf, hd, Instr.sameNow, int_beq])
 case string =>
  simp at hp
  obtain ⟨a, b, rfl, rfl, p, q, rfl, rfl, rfl⟩ := one .s hp.symm
  refine .inl ?_
  simp [valOf, hd, Instr.sameNow]
  obtain ⟨p⟩ := p
  obtain ⟨q⟩ := q
  show ((p == q) : Bool) = _
  by_cases e : p = q
  ·subst e; simp
  ·have : (ByteArray.mk p = ByteArray.mk q) = False := by simp [e]
   simp [e]
 case array m e => rw [hd] at ha; exact absurd ha (by simp)
 case struct fs => exact .inr fun u v => by cases u <;> cases v <;> rfl
def MapsTo (tab : Nat → Nat) (w : World) (S : Nat → Prop) (es : List (AV × AV)) (ms : List MapEntry) : Prop := ms.length = es.length ∧ ∀ (j : Nat) (p : AV × AV) (m : MapEntry), es[j]? = some p → ms[j]? = some m → RF tab w S p.1 m.key
theorem MapsTo.tail {w : World} {S : Nat → Prop} {p : AV × AV} {es : List (AV × AV)} {m : MapEntry} {ms : List MapEntry} (h : MapsTo tab w S (p :: es) (m :: ms)) : RF tab w S p.1 m.key ∧ MapsTo tab w S es ms :=
 ⟨h.2 0 p m rfl rfl, by have := h.1; simpa using this, fun j p m hp hm => h.2 (j + 1) p m (by simpa using hp) (by simpa using hm)⟩
def midx (ag : Bool) (ks : List CK) (k : AV) : List (AV × AV) → Option (Option Nat)
 | [] => some none
 | (a, _) :: r => match keyEq ag ks k a with
  | some true => some (some 0)
  | some false => (midx ag ks k r).map fun o => o.map (· + 1)
  | none => none
theorem mfind_idx {ag : Bool} {ks : List CK} {k : AV} : ∀ {es : List (AV × AV)} {o : Option AV}, mfind ag ks k es = some o → ∃ i, midx ag ks k es = some i ∧ ((i = none ∧ o = none) ∨ ∃ j p, i = some j ∧ es[j]? = some p ∧ o = some p.2 ∧ p.1 = k)
 | [], o, h => by simp [mfind] at h; subst h; exact ⟨none, rfl, .inl ⟨rfl, rfl⟩⟩
 | (a, v) :: r, o, h => by
  simp only [mfind] at h
  split at h
  ·rename_i he
   simp at h; subst h
   exact ⟨some 0, by simp [midx, he], .inr ⟨0, (a, v), rfl, rfl, rfl, ((keyEq_noref he).2.2 rfl).symm⟩⟩
  ·rename_i he
   obtain ⟨i, h1, h2⟩ := mfind_idx h
   refine ⟨i.map (· + 1), by simp [midx, he, h1], ?_⟩
   rcases h2 with ⟨rfl, rfl⟩ | ⟨j, p, rfl, h3, h4, h5⟩
   ·exact .inl ⟨rfl, rfl⟩
   ·exact .inr ⟨j + 1, p, rfl, by simpa using h3, h4, h5⟩
  ·exact absurd h (by simp)
theorem mput_idx {ag : Bool} {ks : List CK} {k v : AV} : ∀ {es es' : List (AV × AV)}, mput ag ks k v es = some es' → ∃ i, midx ag ks k es = some i ∧ ((i = none ∧ es' = es ++ [(k, v)]) ∨ ∃ j p, i = some j ∧ es[j]? = some p ∧ p.1 = k ∧ es' = es.set j (k, v))
 | [], es', h => by simp [mput] at h; subst h; exact ⟨none, rfl, .inl ⟨rfl, rfl⟩⟩
 | (a, u) :: r, es', h => by
  simp only [mput] at h
  split at h
  ·rename_i he
   simp at h; subst h
   have := ((keyEq_noref he).2.2 rfl).symm
   exact ⟨some 0, by simp [midx, he], .inr ⟨0, (a, u), rfl, rfl, this, by simp [this]⟩⟩
  ·rename_i he
   obtain ⟨q, hq, rfl⟩ := Option.map_eq_some_iff.1 h
   obtain ⟨i, h1, h2⟩ := mput_idx hq
   refine ⟨i.map (· + 1), by simp [midx, he, h1], ?_⟩
   rcases h2 with ⟨rfl, rfl⟩ | ⟨j, p, rfl, h3, h4, rfl⟩
   ·exact .inl ⟨rfl, rfl⟩
   ·exact .inr ⟨j + 1, p, rfl, by simpa using h3, h4, rfl⟩
  ·exact absurd h (by simp)
theorem find_asking {w : World} {S : Nat → Prop} {ag : Bool} {ks : List CK} {k : TypeId} (hp : plainK P 50 k = some ks) (ha : (match P.underlying k with | some (.struct _) => ag | some (.array _ _) => false | _ => !ag) = true) {x : AV} {u : Value} (hx : RF tab w S x u) (w' : World) :
  ∀ {es : List (AV × AV)} {ms : List MapEntry} {i : Option Nat} (n : Nat), MapsTo tab w S es ms → midx ag ks x es = some i → (Instr.findAsking k u ms n).run P w' = .ok (i.bind fun j => (ms[j]?).map fun m => (j + n, m.val)) w'
 | [], [], i, n, _, h => by simp [midx] at h; subst h; simp [Instr.findAsking]
 | [], _ :: _, i, n, hm, h => by have := hm.1; simp at this
 | _ :: _, [], i, n, hm, h => by have := hm.1; simp at this
 | (a, v) :: r, m :: ms, i, n, hm, h => by
  obtain ⟨h1, h2⟩ := hm.tail
  simp only [midx] at h
  split at h
  ·rename_i he
   simp at h; subst h
   simp only [Instr.findAsking, Sem.run_bind, key_equal hp ha he hx h1 w', Result.andThen_ok]
   simp
  ·rename_i he
   obtain ⟨o, ho, rfl⟩ := Option.map_eq_some_iff.1 h
   simp only [Instr.findAsking, Sem.run_bind, key_equal hp ha he hx h1 w', Result.andThen_ok]
   have := find_asking hp ha hx w' (n + 1) h2 ho
   simp
   rw [this]
   cases o with
   | none => rfl
   | some j => simp; congr 1; funext m; congr 1; omega
  ·exact absurd h (by simp)
theorem find_now {w : World} {S : Nat → Prop} {ag : Bool} {ks : List CK} {k : TypeId} {d : TypeDesc} (hd : P.underlying k = some d) (hp : plainK P 50 k = some ks) (ha : (match P.underlying k with | some (.struct _) => ag | some (.array _ _) => false | _ => !ag) = true) {x : AV} {u : Value} (hx : RF tab w S x u) :
  ∀ {es : List (AV × AV)} {ms : List MapEntry} {i : Option Nat} (n : Nat), MapsTo tab w S es ms → midx ag ks x es = some i → Instr.findNow d u ms n = none ∨ Instr.findNow d u ms n = some (i.bind fun j => (ms[j]?).map fun m => (j + n, m.val))
 | [], [], i, n, _, h => by simp [midx] at h; subst h; exact .inr rfl
 | [], _ :: _, i, n, hm, h => by have := hm.1; simp at this
 | _ :: _, [], i, n, hm, h => by have := hm.1; simp at this
 | (a, v) :: r, m :: ms, i, n, hm, h => by
  obtain ⟨h1, h2⟩ := hm.tail
  simp only [midx] at h
  split at h
  ·rename_i he
   simp at h; subst h
   rcases key_now hd hp ha he hx h1 with q | q
   ·exact .inr (by simp [Instr.findNow, q])
   ·exact .inl (by simp [Instr.findNow, q])
  ·rename_i he
   obtain ⟨o, ho, rfl⟩ := Option.map_eq_some_iff.1 h
   rcases key_now hd hp ha he hx h1 with q | q
   ·simp only [Instr.findNow, q]
    rcases find_now hd hp ha hx (n + 1) h2 ho with e | e
    ·exact .inl e
    ·refine .inr (e.trans ?_)
     cases o with
     | none => rfl
     | some j => simp; congr 1; funext m; congr 1; omega
   ·exact .inl (by simp [Instr.findNow, q])
  ·exact absurd h (by simp)
theorem find_key {w : World} {S : Nat → Prop} {ag : Bool} {ks : List CK} {k : TypeId} {d : TypeDesc} (hd : P.underlying k = some d) (hp : plainK P 50 k = some ks) (ha : (match P.underlying k with | some (.struct _) => ag | some (.array _ _) => false | _ => !ag) = true) {x : AV} {u : Value} (hx : RF tab w S x u) (w' : World)
  {es : List (AV × AV)} {ms : List MapEntry} {i : Option Nat} (hm : MapsTo tab w S es ms) (h : midx ag ks x es = some i) : (Instr.findKey k u ms).run P w' = .ok (i.bind fun j => (ms[j]?).map fun m => (j, m.val)) w' := by
 simp only [Instr.findKey, Sem.run_bind, run_underlying hd, Result.andThen_ok]
 rcases find_now hd hp ha hx 0 hm h with e | e
 ·rw [e]; simpa using find_asking hp ha hx w' 0 hm h
 ·rw [e]; simp
theorem check_plain (w w' : World) (S : Nat → Prop) (em : Bool) (d : Nat) : ∀ (n : Nat) (t : TypeId) (ks : List CK), plainK P n t = some ks → ∀ (xs : List AV) (us : List Value), Reads tab w' S xs us → xs.length = ks.length →
  (Instr.checkKey em (d + n) t (valOf P t us)).run P w = .ok () w := by
 intro n
 induction n with
 | zero => intro t ks h; simp [plainK] at h
 | succ n ih =>
  intro t ks h xs us hx hl
  rw [← Nat.add_assoc]
  unfold Instr.checkKey
  simp only [plainK] at h
  have one : ks.length = 1 → ∃ u, us = [u] := fun e => List.length_eq_one_iff.1 (hx.1.trans (hl.trans e))
  cases hu : P.underlying t with
  | none => simp [hu] at h
  | some D =>
   cases D <;> simp only [hu] at h <;> first | (exfalso; simp at h; done) | skip
   case bool =>
    simp at h; subst h
    obtain ⟨u, rfl⟩ := one rfl
    simp only [Sem.run_bind, run_underlying hu, Result.andThen_ok, valOf, hu]
    rfl
   case int k =>
    simp at h; subst h
    obtain ⟨u, rfl⟩ := one rfl
    simp only [Sem.run_bind, run_underlying hu, Result.andThen_ok, valOf, hu]
    rfl
   case string =>
    simp at h; subst h
    obtain ⟨u, rfl⟩ := one rfl
    simp only [Sem.run_bind, run_underlying hu, Result.andThen_ok, valOf, hu]
    rfl
   case array m e =>
    split at h
    case h_2 => exact absurd h (by simp)
    rename_i k1 hk1
    split at h
    case isFalse => exact absurd h (by simp)
    rename_i hsz
    simp at h; subst h
    have hs := run_sz (P := P) (w := w) hsz
    have hl2 := hx.1
    have key : ∀ (m a : Nat), a * k1.length + (repK k1 m).length = us.length → (forIn (List.range' a m) PUnit.unit fun i (_ : PUnit) => (do
      let x ← sizeOf e
      let v ← part e us.toArray (i * x)
      Instr.checkKey em (d + n) e v
      pure (ForInStep.yield PUnit.unit) : Sem (ForInStep PUnit))).run P w = .ok PUnit.unit w := by
     intro m
     induction m with
     | zero => intro a _; simp
     | succ m ihm =>
      intro a he
      simp only [repK, List.length_append] at he
      have ha := plain_val (P := P) (w := w) hk1 hsz us (a * k1.length) (fun _ => by omega)
      have hch := ih e k1 hk1 ((xs.drop (a * k1.length)).take k1.length) ((us.drop (a * k1.length)).take k1.length) (hx.sub (a * k1.length) k1.length) (by simp; omega)
      have hr := ihm (a + 1) (by rw [Nat.succ_mul]; omega)
      rw [List.range'_succ]
      simp only [List.forIn_cons, Sem.run_bind, hs, ha, hch, Result.andThen_ok, Sem.run_pure]
      exact hr
    have := key m 0 (by omega)
    simp only [Sem.run_bind, run_underlying hu, Result.andThen_ok, valOf, hu, Std.Legacy.Range.forIn_eq_forIn_range', Std.Legacy.Range.size, Nat.sub_zero, Nat.add_sub_cancel, Nat.div_one]
    rw [this]
    rfl
   case struct fs =>
    split at h
    case isFalse => exact absurd h (by simp)
    have key : ∀ (l : List Field) (off : Nat) (ks : List CK), plainFs P (plainK P n) l off = some ks → off + ks.length = us.length →
      (forIn l PUnit.unit fun (f : Field) (_ : PUnit) => (if f.name ≠ "_" then (do
        let v ← part f.type us.toArray f.offset
        Instr.checkKey em (d + n) f.type v
        pure (ForInStep.yield PUnit.unit))
       else pure (ForInStep.yield PUnit.unit) : Sem (ForInStep PUnit))).run P w = .ok PUnit.unit w := by
     intro l
     induction l with
     | nil => intro off ks h he; simp
     | cons f l ihl =>
      intro off ks h he
      simp only [plainFs] at h
      split at h
      ·rename_i hc
       obtain ⟨hn, ho⟩ := hc
       subst ho
       split at h
       ·rename_i k1 hk1
        split at h
        ·rename_i hsz
         split at h
         ·rename_i k2 hk2
          simp at h; subst h
          simp at he
          have hl2 := hx.1
          have ha := plain_val (P := P) (w := w) hk1 hsz us f.offset (fun _ => by omega)
          have hch := ih f.type k1 hk1 ((xs.drop f.offset).take k1.length) ((us.drop f.offset).take k1.length) (hx.sub f.offset k1.length) (by simp; omega)
          have hn' : f.name ≠ "_" := by simpa using hn
          have hr := ihl _ _ hk2 (by omega)
          simp only [List.forIn_cons, if_pos hn', Sem.run_bind, ha, hch, Result.andThen_ok, Sem.run_pure]
          exact hr
         ·exact absurd h (by simp)
        ·exact absurd h (by simp)
       ·exact absurd h (by simp)
      ·exact absurd h (by simp)
    have := key fs.toList 0 ks h (by have := hx.1; omega)
    simp only [Sem.run_bind, run_underlying hu, Result.andThen_ok, valOf, hu]
    rw [← Array.forIn_toList, this]
    rfl
end
end Go.Den

namespace Go.Den
open Go

section
variable {P : Program} {tab : Nat → Nat}
theorem mapB_open {t : TypeId} {ag : Bool} {ks : List CK} (h : mapB P t ag ks = true) : ∃ k e d, P.underlying t = some (.map k e) ∧ P.underlying k = some d ∧ plainK P 50 k = some ks ∧ szB P k ks.length = true ∧ (match P.underlying k with | some (.struct _) => ag | some (.array _ _) => false | _ => !ag) = true := by
 unfold mapB at h
 split at h
 ·rename_i k e hu
  simp only [Bool.and_eq_true, beq_iff_eq] at h
  obtain ⟨⟨h1, h2⟩, h3⟩ := h
  have hd : ∃ d, P.underlying k = some d := by
   cases hk : P.underlying k with
   | some d => exact ⟨d, rfl⟩
   | none => simp [plainK, hk] at h1
  obtain ⟨d, hd⟩ := hd
  exact ⟨k, e, d, hu, hd, h1, h2, h3⟩
 ·exact absurd h (by simp)
theorem keyOk_open {ag : Bool} {ks : List CK} {x : AV} (h : keyOk ag ks x = true) : ∃ r, keyEq ag ks x x = some r := Option.isSome_iff_exists.1 h
theorem check_key {w w' : World} {S : Nat → Prop} {ag : Bool} {ks : List CK} {k : TypeId} (hp : plainK P 50 k = some ks) (ha : (match P.underlying k with | some (.struct _) => ag | some (.array _ _) => false | _ => !ag) = true) {x : AV} {u : Value} (h : keyOk ag ks x = true)
  (hx : RF tab w' S x u) (em : Bool) : (Instr.checkKey em 10000 k u).run P w = .ok () w := by
 obtain ⟨r, hr⟩ := keyOk_open h
 obtain ⟨us, ru, rfl⟩ := key_val ha hr hx
 exact check_plain (P := P) w w' S em 9950 50 k ks hp _ us ru (eqCells_len (keyEq_cells hr).2.2).1
theorem map_open {w : World} {F : Nat → Prop} {σ : St} {γ : List Gh} {o : Nat} {v : Value} {es : List (AV × AV)} (I : Inv tab w F σ γ) (hx : RS tab w F σ γ (.mapr o) v) (ho : σ[o]? = some (.map es)) :
  ∃ g ms clock, γ[o]? = some g ∧ v = .map (some g.b) ∧ w.heap[g.b]? = some (.map ms clock) ∧ ms.size = es.length ∧ ∀ (j : Nat) (p : AV × AV) (m : MapEntry), es[j]? = some p → ms[j]? = some m → RF tab w (Stab w F σ γ) p.1 m.key ∧ RS tab w F σ γ p.2 m.val := by
 cases hx with
 | fz _ _ h => exact absurd h.noref (by simp [AV.noref])
 | mapr _ g es' hs hg =>
  obtain ⟨ms, clock, h1, h2, h3⟩ := I.ok o _ g ho hg
  exact ⟨g, ms, clock, hg, rfl, h1, h2, h3⟩
theorem mapOf_ok {w : World} {F : Nat → Prop} {σ : St} {γ : List Gh} {x : AV} {v : Value} {es : List (AV × AV)} {t : Bool} (I : Inv tab w F σ γ) (hx : RS tab w F σ γ x v) (h : mapOf σ x = some (es, t)) :
  ∃ ms : Array MapEntry, ((v = .map none ∧ ms = #[]) ∨ ∃ r clock, v = .map (some r) ∧ w.heap[r]? = some (.map ms clock)) ∧ ms.size = es.length ∧ ∀ (j : Nat) (p : AV × AV) (m : MapEntry), es[j]? = some p → ms[j]? = some m → RF tab w (Stab w F σ γ) p.1 m.key ∧ RS tab w F σ γ p.2 m.val := by
 cases x with
 | nilmap =>
  simp [mapOf] at h
  obtain ⟨rfl, rfl⟩ := h
  cases hx.frozen rfl
  exact ⟨#[], .inl ⟨rfl, rfl⟩, rfl, by simp⟩
 | fmap es0 =>
  simp [mapOf] at h
  obtain ⟨rfl, rfl⟩ := h
  cases hx.frozen rfl with
  | fmap b _ ms clock hb hh hl hk hr => exact ⟨ms, .inr ⟨b, clock, rfl, hh⟩, hl, fun j p m hp hm => ⟨hk j p m hp hm, .fz _ _ (hr j p m hp hm)⟩⟩
 | mapr o =>
  simp only [mapOf] at h
  split at h
  ·rename_i es' ho
   simp at h
   obtain ⟨rfl, rfl⟩ := h
   obtain ⟨g, ms, clock, hg, rfl, h1, h2, h3⟩ := map_open I hx ho
   exact ⟨ms, .inr ⟨g.b, clock, rfl, h1⟩, h2, h3⟩
  ·exact absurd h (by simp)
 | _ => simp [mapOf] at h
theorem getObj_m {w : World} {r : Nat} {es : Array MapEntry} {clock : Nat} (hb : w.heap[r]? = some (.map es clock)) : (getObj r).run P w = .ok (.map es clock) w := by
 simp [getObj, Sem.run, hb]
theorem setObj_m {w : World} {r : Nat} {es : Array MapEntry} {clock : Nat} (o : Obj) (hb : w.heap[r]? = some (.map es clock)) : (setObj r o).run P w = .ok () { w with heap := w.heap.setIfInBounds r o } := by
 simp [setObj, Sem.run, hb]
theorem lookup_ok {w : World} {F : Nat → Prop} {base : Nat} {σ : St} {γ : List Gh} {t : TypeId} {ag : Bool} {ks : List CK} {zero x i : AV} {u v : Value} {es : List (AV × AV)} {tt : Bool} {o : Option AV} (I : Inv tab w F σ γ) (hB : mapB P t ag ks = true) (hZ : mapZ P t zero = true)
  (hx : RS tab w F σ γ x u) (hi : RS tab w F σ γ i v) (hm : mapOf σ x = some (es, tt)) (hk : keyOk ag ks i = true) (hf : mfind ag ks i es = some o) (ok : Bool) :
  Done tab F base w σ γ ((val (Instr.lookup t u v ok)).run P w) (match o with
   | some z => if ok then .tup [z, .bool true] else z
   | none => if ok then .tup [zero, .bool false] else zero) σ := by
 obtain ⟨k, e, d, hu, hd, hp, hs, ha⟩ := mapB_open hB
 obtain ⟨ms, hms, hl, hr⟩ := mapOf_ok I hx hm
 obtain ⟨r, hr0⟩ := keyOk_open hk
 have hi' := hi.frozen (keyEq_noref hr0).1
 have hchk := check_key (P := P) (w := w) hp ha hk hi' ms.isEmpty
 obtain ⟨j, hj, hj2⟩ := mfind_idx hf
 have hmaps : MapsTo tab w (Stab w F σ γ) es ms.toList := ⟨by simpa using hl, fun j p m hp hm => (hr j p m hp (by simpa using hm)).1⟩
 have hfind := find_key (P := P) hd hp ha hi' w hmaps hj
 obtain ⟨z, hz, hzz⟩ : ∃ z, (zeroValue e).run P w = .ok z w ∧ constB z zero = true := by
  unfold mapZ at hZ
  rw [hu] at hZ
  simp only [] at hZ
  split at hZ
  ·rename_i inf hinf
   split at hZ
   ·rename_i z hz
    exact ⟨z, by simp [zeroValue, run_typeInfo w hinf, hz], hZ⟩
   ·exact absurd hZ (by simp)
  ·exact absurd hZ (by simp)
 have key : ∀ (a : Value) (b : Bool) (y : AV), RS tab w F σ γ y a → RS tab w F σ γ (if ok then .tup [y, .bool b] else y) (if ok then .tuple #[a, .bool b] else a) := by
  intro a b y hy
  cases ok with
  | false => exact hy
  | true =>
   refine .tup [y, .bool b] [a, .bool b] rfl fun j x v hx hv => ?_
   cases j with
   | zero => simp at hx hv; subst hx; subst hv; exact hy
   | succ j => cases j with
    | zero => simp at hx hv; subst hx; subst hv; exact .fz _ _ (.bool b)
    | succ j => simp at hx
 rcases hj2 with ⟨rfl, rfl⟩ | ⟨n, p, rfl, h3, rfl, h5⟩
 ·refine done_same I (v := if ok then .tuple #[z, .bool false] else z) (val_run ?_) (key z false zero (.fz _ _ (constB_ok tab hzz)))
  rcases hms with ⟨rfl, rfl⟩ | ⟨b, clock, rfl, hb⟩
  ·simp only [Instr.lookup, Sem.run_bind, run_underlying hu, Result.andThen_ok, hchk, hfind, Option.bind_none, hz, Sem.run_pure]
  ·simp only [Instr.lookup, Sem.run_bind, run_underlying hu, Result.andThen_ok, getObj_m hb, hchk, hfind, Option.bind_none, hz, Sem.run_pure]
 ·obtain ⟨m, hm2⟩ := get_of_len (l := es) (l' := ms.toList) (by simpa using hl) h3
  refine done_same I (v := if ok then .tuple #[m.val, .bool true] else m.val) (val_run ?_) (key m.val true p.2 (hr n p m h3 (by simpa using hm2)).2)
  rcases hms with ⟨rfl, rfl⟩ | ⟨b, clock, rfl, hb⟩
  ·simp at hm2
  ·simp only [Instr.lookup, Sem.run_bind, run_underlying hu, Result.andThen_ok, getObj_m hb, hchk, hfind, Option.bind_some, hm2, Option.map_some, Sem.run_pure]
theorem mkmap_ok {w : World} {F : Nat → Prop} {base : Nat} {σ : St} {γ : List Gh} {t : TypeId} {r : Option Value} (I : Inv tab w F σ γ) (hb : base ≤ σ.length) (hr : ∀ v, r = some v → (∃ k n, v = .int k n) ∧ ∃ k e, P.underlying t = some (.map k e)) :
  Done tab F base w σ γ ((val (Instr.makeMap t r)).run P w) (.mapr σ.length) (σ ++ [.map []]) := by
 have hrun : (Instr.makeMap t r).run P w = .ok (.map (some w.heap.size)) (w.alloc (.map #[] 0)) := by
  cases r with
  | none => rfl
  | some v =>
   obtain ⟨⟨k, n, rfl⟩, k', e, hu⟩ := hr v rfl
   simp [Instr.makeMap, run_underlying hu, Go.asInt, asIntOf, Result.andThen]
 obtain ⟨h1, h2, h3⟩ := new_push I (base := base) hb (.map #[] 0) (.map []) 0 fun st => ⟨#[], 0, by simp, rfl, by simp⟩
 exact ⟨.map (some w.heap.size), _, _, .inl (by simp [val, hrun]), h1, h2, .mapr σ.length ⟨w.heap.size, 0, 0⟩ [] (by simp) (by rw [← I.len]; simp), h3⟩
theorem set_obj {w : World} {F : Nat → Prop} {σ : St} {γ : List Gh} (I : Inv tab w F σ γ) {k : Nat} {x x' : Ob} {g : Gh} (hx : σ[k]? = some x) (hg : γ[k]? = some g) (ho : owns x g = true) (hs : ObStep x g x' g) (ob : Obj) :
  Step σ.length w σ γ { w with heap := w.heap.setIfInBounds g.b ob } (σ.set k x') γ ∧ ((ObOk tab { w with heap := w.heap.setIfInBounds g.b ob } (Stab { w with heap := w.heap.setIfInBounds g.b ob } F (σ.set k x') γ) (σ.set k x') γ x' g) → Inv tab { w with heap := w.heap.setIfInBounds g.b ob } F (σ.set k x') γ) := by
 have hk := lt_of_get hx
 obtain ⟨h1, h2⟩ := change (w1 := { w with heap := w.heap.setIfInBounds g.b ob }) (σ1 := σ.set k x') (γ1 := γ) k I rfl rfl rfl (by simp)
  (fun o ho => ⟨by rw [List.getElem?_set]; simp [Ne.symm ho], rfl⟩) (by simp) (by simp [I.len])
  (fun b hb' => by
   by_cases e : b = g.b
   ·exact .inr ⟨x, g, hx, hg, ho, e.symm⟩
   ·exact .inl (by simp [Ne.symm e]))
  (fun y g' hy hg' _ => by
   rw [hg] at hg'; simp at hg'; subst hg'
   exact .inr ⟨x, g, hx, hg, ho, rfl⟩)
  (fun y g' hy hg' => by
   rw [hx] at hy; rw [hg] at hg'; simp at hy hg'; subst hy; subst hg'
   exact ⟨x', g, by simp [hk], hg, hs⟩)
 refine ⟨h1, fun hok => h2 fun y g' hy hg' => ?_⟩
 rw [hg] at hg'; simp [hk] at hy hg'; subst hy; subst hg'
 exact hok
theorem same_str (a : ByteArray) : (a == a) = true := by
 obtain ⟨a⟩ := a
 show ((a == a) : Bool) = true
 simp
theorem scal_det {w : World} {S : Nat → Prop} {k : CK} {x y : AV} {r : Bool} (h : eqB k x y = some r) {u v : Value} (hu : RF tab w S x u) (hv : RF tab w S x v) : u = v ∧ ∀ n, Instr.sameBits n u u = true := by
 cases k <;> cases x <;> (try (simp [eqB] at h; done)) <;> cases hu <;> cases hv
 ·exact ⟨rfl, fun n => by cases n <;> simp [Instr.sameBits]⟩
 ·exact ⟨rfl, fun n => by cases n <;> simp [Instr.sameBits]⟩
 ·exact ⟨rfl, fun n => by cases n <;> simp [Instr.sameBits, same_str]⟩
theorem cells_det {w : World} {S : Nat → Prop} : ∀ {ks : List CK} {xs ys : List AV} {r : Bool}, eqCells ks xs ys = some r → ∀ {us vs : List Value}, Reads tab w S xs us → Reads tab w S xs vs → us = vs ∧ ∀ u ∈ us, ∀ n, Instr.sameBits n u u = true
 | [], [], _, _, _, us, vs, hu, hv => by
  have e1 : us = [] := List.eq_nil_of_length_eq_zero hu.1
  have e2 : vs = [] := List.eq_nil_of_length_eq_zero hv.1
  subst e1; subst e2; exact ⟨rfl, by simp⟩
 | [], _ :: _, _, _, h, _, _, _, _ => by simp [eqCells] at h
 | k :: ks, [], _, r, h, _, _, _, _ => by simp [eqCells] at h
 | k :: ks, _ :: _, [], r, h, _, _, _, _ => by simp [eqCells] at h
 | k :: ks, x :: xs, y :: ys, r, h, us, vs, hu, hv => by
  simp only [eqCells] at h
  split at h
  ·rename_i a b h1 h2
   cases us with
   | nil => have := hu.1; simp at this
   | cons u us =>
    cases vs with
    | nil => have := hv.1; simp at this
    | cons v vs =>
     obtain ⟨q1, q2⟩ := scal_det h1 (hu.2 0 x u rfl rfl) (hv.2 0 x v rfl rfl)
     obtain ⟨p1, p2⟩ := cells_det h2 (us := us) (vs := vs) ⟨by have := hu.1; simpa using this, fun j x u hx hu' => hu.2 (j + 1) x u (by simpa using hx) (by simpa using hu')⟩ ⟨by have := hv.1; simpa using this, fun j x u hx hu' => hv.2 (j + 1) x u (by simpa using hx) (by simpa using hu')⟩
     refine ⟨by rw [q1, p1], fun z hz => ?_⟩
     rcases List.mem_cons.1 hz with rfl | hz
     ·exact q2
     ·exact p2 z hz
  ·exact absurd h (by simp)
theorem key_stays {w : World} {S : Nat → Prop} {ag : Bool} {ks : List CK} {k : TypeId} (ha : (match P.underlying k with | some (.struct _) => ag | some (.array _ _) => false | _ => !ag) = true) {x y : AV} {r : Bool} (h : keyEq ag ks x y = some r) {u v : Value} (hu : RF tab w S x u) (hv : RF tab w S x v) :
  (Instr.keyThatStays u v).run P w = .ok v w := by
 obtain ⟨us, ru, rfl⟩ := key_val ha h hu
 obtain ⟨vs, rv, rfl⟩ := key_val ha h hv
 obtain ⟨q1, q2⟩ := cells_det (keyEq_cells h).2.2 ru rv
 subst q1
 have : Instr.sameBits 10000 (valOf P k us) (valOf P k us) = true := by
  unfold valOf
  have hag : ∀ us : List Value, (∀ u ∈ us, ∀ n, Instr.sameBits n u u = true) → Instr.sameBits 10000 (.agg us.toArray) (.agg us.toArray) = true := by
   intro us q2
   simp only [Instr.sameBits, Bool.and_eq_true, List.all_eq_true]
   refine ⟨by simp, fun p hp => ?_⟩
   have : p.1 = p.2 ∧ p.1 ∈ us := by
    have hz : ∀ {l : List Value} {p : Value × Value}, p ∈ l.zip l → p.1 = p.2 ∧ p.1 ∈ l := by
     intro l
     induction l with
     | nil => simp
     | cons a l ih =>
      intro p hp
      simp only [List.zip_cons_cons, List.mem_cons] at hp
      rcases hp with rfl | hp
      ·exact ⟨rfl, by simp⟩
      ·obtain ⟨h1, h2⟩ := ih hp; exact ⟨h1, by simp [h2]⟩
    exact hz (by simpa using hp)
   obtain ⟨p1, p2⟩ := p
   simp only at this ⊢
   rw [← this.1]
   exact q2 _ this.2 9999
  split
  ·exact hag us q2
  ·exact hag us q2
  ·rename_i hn1 hn2
   cases us with
   | nil =>
    have := ru.1
    split at this
    ·rename_i hag'
     exfalso
     revert ha
     split
     ·rename_i hu'; exact (hn1 _ hu').elim
     ·simp
     ·simp [hag']
    ·simp at this
   | cons u us => exact q2 u (by simp) _
 simp [Instr.keyThatStays, this]
theorem mapupd_ok {w : World} {F : Nat → Prop} {base : Nat} {σ : St} {γ : List Gh} {t : TypeId} {ag : Bool} {ks : List CK} {o : Nat} {k v : AV} {u a b : Value} {es es' : List (AV × AV)} (I : Inv tab w F σ γ) (hB : mapB P t ag ks = true)
  (hx : RS tab w F σ γ (.mapr o) u) (hk' : RS tab w F σ γ k a) (hv : RS tab w F σ γ v b) (ho : σ[o]? = some (.map es)) (hk : keyOk ag ks k = true) (hp : mput ag ks k v es = some es') (hst : v.noref = true ∨ base ≤ o) :
  Done tab F base w σ γ ((do Instr.mapUpdate t u a b; pure Next.skip : Sem Next).run P w) .dead (σ.set o (.map es')) := by
 obtain ⟨kt, e, d, hu, hd, hpl, hs, ha⟩ := mapB_open hB
 obtain ⟨g, ms, clock, hg, rfl, h1, h2, h3⟩ := map_open I hx ho
 obtain ⟨r, hr0⟩ := keyOk_open hk
 have hi' := hk'.frozen (keyEq_noref hr0).1
 have hchk := check_key (P := P) (w := w) hpl ha hk hi' false
 obtain ⟨j, hj, hj2⟩ := mput_idx hp
 have hmaps : MapsTo tab w (Stab w F σ γ) es ms.toList := ⟨by simpa using h2, fun j p m hp hm => (h3 j p m hp (by simpa using hm)).1⟩
 have hfind := find_key (P := P) hd hpl ha hi' w hmaps hj
 have hfr : ∀ b', (∀ p ∈ es', p.1.under b' = true ∧ p.2.under b' = true) → (Ob.map es').under b' = true := fun b' h => by
  simp only [Ob.under, List.all_eq_true]
  intro p hp
  simp [h p hp]
 have hkn : k.noref = true := (keyEq_noref hr0).1
 have fr : (∀ p ∈ es', p ∈ es ∨ p = (k, v)) → Fr base σ (σ.set o (.map es')) := fun hsub => Fr.set fun b' hb1 hb2 hF => hfr b' fun p hp => by
  rcases hsub p hp with q | rfl
  ·have := hF o _ hb1 ho
   simp only [Ob.under, List.all_eq_true] at this
   simpa using this p q
  ·refine ⟨noref_under _ hkn, ?_⟩
   rcases hst with q | q
   ·exact noref_under _ q
   ·omega
 rcases hj2 with ⟨rfl, rfl⟩ | ⟨n, p, rfl, h4, h5, rfl⟩
 ·-- a new key
  have hrun : (Instr.mapUpdate t (.map (some g.b)) a b).run P w = .ok () { w with heap := w.heap.setIfInBounds g.b (.map (ms.push { key := a, val := b, born := clock }) (clock + 1)) } := by
   simp only [Instr.mapUpdate, Sem.run_bind, run_underlying hu, Result.andThen_ok, getObj_m h1, hchk, hfind, Option.bind_none, setObj_m _ h1]
  obtain ⟨s1, s2⟩ := set_obj I ho hg rfl (.map es (es ++ [(k, v)]) g) (.map (ms.push { key := a, val := b, born := clock }) (clock + 1))
  refine ⟨undef, _, γ, .inr ⟨by simp [hrun], rfl⟩, s1, s2 ⟨_, _, (MapKept.heap_set h1).1, by simp [h2], fun j p m hp hm => ?_⟩, .dead _, fr fun p hp => by simpa using hp⟩
  rw [List.getElem?_append] at hp
  rw [Array.getElem?_push] at hm
  rw [h2] at hm
  split at hp
  ·rename_i hlt
   rw [if_neg (by omega)] at hm
   obtain ⟨q1, q2⟩ := h3 j p m hp hm
   exact ⟨q1.mono fun b hb => s1.stab hb, q2.step s1 q2.under⟩
  ·rename_i hge
   have : j = es.length := by have := lt_of_get hp; simp at this; omega
   subst this
   simp at hp hm
   subst hp; subst hm
   exact ⟨hi'.mono fun b hb => s1.stab hb, hv.step s1 hv.under⟩
 ·-- a known key
  obtain ⟨m, hm⟩ := get_of_len (l := es) (l' := ms.toList) (by simpa using h2) h4
  have hm' : ms[n]? = some m := by simpa using hm
  have hstay : (Instr.keyThatStays m.key a).run P w = .ok a w := key_stays ha hr0 (h5 ▸ (h3 n p m h4 hm').1) hi'
  have hrun : (Instr.mapUpdate t (.map (some g.b)) a b).run P w = .ok () { w with heap := w.heap.setIfInBounds g.b (.map (ms.modify n fun e => { e with key := a, val := b }) clock) } := by
   simp only [Instr.mapUpdate, Sem.run_bind, run_underlying hu, Result.andThen_ok, getObj_m h1, hchk, hfind, Option.bind_some, hm, Option.map_some, hm', Option.getD_some, hstay, setObj_m _ h1]
  obtain ⟨s1, s2⟩ := set_obj I ho hg rfl (.map es (es.set n (k, v)) g) (.map (ms.modify n fun e => { e with key := a, val := b }) clock)
  refine ⟨undef, _, γ, .inr ⟨by simp [hrun], rfl⟩, s1, s2 ⟨_, _, (MapKept.heap_set h1).1, by simp [h2], fun j p m hp hm => ?_⟩, .dead _, fr fun p hp => by
   rcases List.mem_or_eq_of_mem_set hp with h | h
   ·exact .inl h
   ·exact .inr h⟩
  rw [List.getElem?_set] at hp
  rw [Array.getElem?_modify] at hm
  split at hp
  ·rename_i e
   subst e
   simp at hm hp
   obtain ⟨m0, hm0, rfl⟩ := hm
   obtain ⟨hlt, rfl⟩ := hp
   exact ⟨hi'.mono fun b hb => s1.stab hb, hv.step s1 hv.under⟩
  ·rename_i e
   rw [if_neg e] at hm
   obtain ⟨q1, q2⟩ := h3 j p m hp hm
   exact ⟨q1.mono fun b hb => s1.stab hb, q2.step s1 q2.under⟩
end
end Go.Den

namespace Go.Den
open Go

section
variable {P : Program} {tab : Nat → Nat}
def clearB (P : Program) (t : TypeId) (zs : List AV) : Bool := match elemB P t with
 | some e => zeroB P e zs && szB P e zs.length && decide (0 < zs.length)
 | none => false
theorem zeroCells_get (z : Array Value) (n p : Nat) (h : p < n * z.size) : (Builtin.zeroCells z n)[p]? = some z[p % z.size]! := by
 unfold Builtin.zeroCells
 rw [Array.getElem?_map, Array.getElem?_range]
 simp [h]
theorem zeroCells_size (z : Array Value) (n : Nat) : (Builtin.zeroCells z n).size = n * z.size := by
 unfold Builtin.zeroCells; simp
theorem clear_osl {w : World} {F : Nat → Prop} {base : Nat} {σ : St} {γ : List Gh} {t ty : TypeId} {sz o ver n off len : Nat} {es : List (List AV)} {zs z : List AV} {u : Value} (I : Inv tab w F σ γ) (hB : clearB P t zs = true) (hx : RS tab w F σ γ (.osl o ver n off len) u)
  (ho : σ[o]? = some (.arr ver sz es)) (hn : es.length = n) (hz : zs.length = sz) (hle : off + len ≤ n) (hf : frzCells zs = some z) :
  Done tab F base w σ γ ((val (Builtin.clear_ #[t] ty #[u])).run P w) (.tup []) (σ.set o (.arr ver sz (es.take off ++ List.replicate len z ++ es.drop (off + len)))) := by
 have rt : ∀ (w' : World) (σ' : St) (γ' : List Gh), RS tab w' F σ' γ' (.tup []) (.tuple #[]) := fun w' σ' γ' => .fz _ _ (.tup [] [] rfl (by simp))
 unfold clearB at hB
 cases he : elemB P t with
 | none => simp [he] at hB
 | some e =>
 simp only [he, Bool.and_eq_true, decide_eq_true_eq] at hB
 obtain ⟨⟨h1, h2⟩, h3⟩ := hB
 have ht := elemB_ok he
 cases hx with
 | fz _ _ h => exact absurd h.noref (by simp [AV.noref])
 | osl _ _ _ _ _ _ _ h =>
  obtain ⟨x, g, hx, hg, h⟩ := h
  rw [ho] at hx; simp at hx; subst hx
  obtain ⟨a, hu, ha⟩ := h.2 rfl hn.symm hle
  subst hu
  by_cases h0 : len = 0
  ·subst h0
   have e1 : σ.set o (.arr ver sz (es.take off ++ List.replicate 0 z ++ es.drop (off + 0))) = σ := by
    have hlt := lt_of_get ho
    have : es.take off ++ List.replicate 0 z ++ es.drop (off + 0) = es := by simp
    rw [this]
    have := List.getElem?_eq_some_iff.1 ho
    obtain ⟨_, hh⟩ := this
    rw [← hh]; exact List.set_getElem_self hlt
   rw [e1]
   refine done_same I (val_run ?_) (rt w σ γ)
   simp only [Builtin.clear_, List.getElem?_toArray, List.getElem?_cons_zero, Sem.run_bind, run_underlying ht, Result.andThen_ok]
   cases a <;> rfl
  ·obtain ⟨f1, f2⟩ := frzCells_ok hf
   obtain ⟨k1, k2, k3, k4⟩ := I.ok o _ g ho hg
   have hcap : 0 < g.cap - off := by omega
   have ha := ha hcap
   subst ha
   obtain ⟨vs, tv, e1, e2, e3⟩ := k4 (by omega)
   obtain ⟨zv, hzr, hzc⟩ := run_zero (P := P) (w := w) h1
   obtain ⟨c1, c2, c3⟩ := constB_go (tab := tab) (w := w) (S := Stab w F σ γ) hzc
   have zsz : zv.cells.size = sz := by simpa [hz] using c1
   have hsz0 : 0 < sz := by omega
   have hrow : (off + len) * sz ≤ g.cap * sz := Nat.mul_le_mul_right _ (by omega)
   rw [Nat.add_mul] at hrow
   have hzcs : (Builtin.zeroCells zv.cells len).toList.length = len * sz := by simp [zeroCells_size, zsz]
   have hle' : g.base + off * sz + (Builtin.zeroCells zv.cells len).toList.length ≤ vs.size := by rw [hzcs]; omega
   have hone : ∀ v ∈ (Builtin.zeroCells zv.cells len).toList, v.oneCell' = true := by
    intro v hv
    obtain ⟨p, hp, ep⟩ := List.getElem_of_mem hv
    rw [hzcs] at hp
    have hg' := zeroCells_get zv.cells len p (by rw [zsz]; exact hp)
    have hm : p % zv.cells.size < zv.cells.size := Nat.mod_lt _ (by omega)
    have hv2 : v = zv.cells[p % zv.cells.size] := by
     have q1 : (Builtin.zeroCells zv.cells len)[p]? = some v := by rw [← Array.getElem?_toList, List.getElem?_eq_getElem (by rw [hzcs]; exact hp), ep]
     rw [hg'] at q1
     simp [hm] at q1
     exact q1.symm
    obtain ⟨xv, hxv⟩ : ∃ xv, zs[p % zv.cells.size]? = some xv := ⟨_, List.getElem?_eq_getElem (by omega)⟩
    have hr := c3 _ xv v hxv (by rw [hv2]; simp [hm])
    exact one_ok (σ := []) (γ := []) (.fz _ _ hr) (c2 _ xv hxv)
   have hrun := run_storeCells_at (P := P) g.b (g.base + off * sz) tv (Builtin.zeroCells zv.cells len).toList 0 vs w e1 (by simpa using hle') hone
   obtain ⟨s1, s2⟩ := set_row (x' := .arr ver sz (es.take off ++ List.replicate len z ++ es.drop (off + len))) (ws := (vs.toList.take (g.base + off * sz) ++ (Builtin.zeroCells zv.cells len).toList ++ vs.toList.drop (g.base + off * sz + (Builtin.zeroCells zv.cells len).toList.length)).toArray) I ho hg (by simp [owns]; omega) (.same _ _ _ _ _ (by simp; omega))
   refine ⟨.tuple #[], _, γ, .inl (val_run (w' := w.setRow g.b _) ?_), s1, s2 ?_, rt _ _ _, ?_⟩
   ·obtain ⟨m, rfl⟩ : ∃ m, len = m + 1 := ⟨len - 1, by omega⟩
    simp only [Builtin.clear_, List.getElem?_toArray, List.getElem?_cons_zero, Sem.run_bind, run_underlying ht, Result.andThen_ok, hzr]
    rw [hrun]
    simp
   ·refine arr_obj (D := (vs.toList.take (g.base + off * sz) ++ (Builtin.zeroCells zv.cells len).toList ++ vs.toList.drop (g.base + off * sz + (Builtin.zeroCells zv.cells len).toList.length)).toArray) (ty := tv) s1 k1 (by simp; omega) (fun e' he' => ?_) (fun _ => ⟨setRow_heap w g.b vs _ tv _ e1, by rw [overV_size _ _ _ (by simpa using hle')]; exact e2⟩) (fun i e' hi j x hx => ?_)
    ·simp only [List.mem_append, List.mem_replicate] at he'
     rcases he' with (h' | h') | h'
     ·exact k3 e' (List.mem_of_mem_take h')
     ·rw [h'.2, f2, norms_length]; exact hz
     ·exact k3 e' (List.mem_of_mem_drop h')
    ·rw [overV_get _ _ _ _ (by simpa using hle'), hzcs]
     have hj : j < sz := by
      have h5 := lt_of_get hx
      have h6 : e'.length = sz := by
       have hm := List.mem_of_getElem? hi
       simp only [List.mem_append, List.mem_replicate] at hm
       rcases hm with (h' | h') | h'
       ·exact k3 e' (List.mem_of_mem_take h')
       ·rw [h'.2, f2, norms_length]; exact hz
       ·exact k3 e' (List.mem_of_mem_drop h')
      omega
     have hlt1 : (es.take off).length = off := by simp; omega
     have hlt2 : (es.take off ++ List.replicate len z).length = off + len := by simp; omega
     rcases Nat.lt_or_ge i off with hio | hio
     ·have hi2 : es[i]? = some e' := by
       rw [List.append_assoc, List.getElem?_append_left (by omega), List.getElem?_take_of_lt hio] at hi
       exact hi
      obtain ⟨u, u1, u2, u3⟩ := e3 i e' hi2 j x hx
      have : (i + 1) * sz ≤ off * sz := Nat.mul_le_mul_right _ (by omega)
      rw [Nat.add_mul] at this
      rw [if_neg (by omega)]
      exact ⟨u, u1, u2, u3⟩
     ·rcases Nat.lt_or_ge i (off + len) with hil | hil
      ·have hz' : e' = z := by
        rw [List.getElem?_append_left (by omega), List.getElem?_append_right (by omega), List.getElem?_replicate] at hi
        split at hi
        ·simpa using hi.symm
        ·exact absurd hi (by simp)
       subst hz'
       have q1 : off * sz ≤ i * sz := Nat.mul_le_mul_right _ hio
       have q2 : (i + 1) * sz ≤ (off + len) * sz := Nat.mul_le_mul_right _ (by omega)
       rw [Nat.add_mul, Nat.add_mul] at q2
       rw [if_pos (by omega)]
       rw [f2, norms_get] at hx
       cases hcj : zs[j]? with
       | none => simp [hcj] at hx
       | some y =>
        simp [hcj] at hx; subst hx
        have hjv : j < zv.cells.size := by omega
        refine ⟨zv.cells[j], ?_, norm_scalar (c2 j y hcj), (c3 j y _ hcj (by simp [hjv])).norm⟩
        have hp : g.base + i * sz + j - (g.base + off * sz) = (i - off) * sz + j := by rw [Nat.sub_mul]; omega
        have hpl : (i - off) * sz + j < len * sz := by
         have : (i - off + 1) * sz ≤ len * sz := Nat.mul_le_mul_right _ (by omega)
         rw [Nat.add_mul] at this; omega
        rw [hp, Array.getElem?_toList, zeroCells_get _ _ _ (by rw [zsz]; exact hpl), zsz]
        have hm : ((i - off) * sz + j) % sz = j := by rw [Nat.mul_comm, Nat.mul_add_mod, Nat.mod_eq_of_lt hj]
        rw [hm]
        simp [hjv]
      ·have hi2 : es[i]? = some e' := by
        rw [List.getElem?_append_right (by omega), List.getElem?_drop, hlt2, show off + len + (i - (off + len)) = i by omega] at hi
        exact hi
       obtain ⟨u, u1, u2, u3⟩ := e3 i e' hi2 j x hx
       have : (off + len) * sz ≤ i * sz := Nat.mul_le_mul_right _ hil
       rw [Nat.add_mul] at this
       rw [if_neg (by omega)]
       exact ⟨u, u1, u2, u3⟩
   ·exact Fr.set fun b _ _ _ => rfl
theorem strOf_get : ∀ {ys : List (List AV)} {l : List UInt8}, strOf ys = some l → l.length = ys.length ∧ ∀ i, i < ys.length → ∃ n, ys[i]? = some [.int .u8 n] ∧ l[i]? = some (UInt8.ofNat n.toNat)
 | [], l, h => by simp [strOf] at h; subst h; exact ⟨rfl, fun i hi => absurd hi (by simp)⟩
 | e :: r, l, h => by
  unfold strOf at h
  split at h
  ·rename_i heq; cases heq
  ·rename_i n r' heq
   cases heq
   obtain ⟨l', hl', e⟩ := Option.map_eq_some_iff.1 h
   subst e
   obtain ⟨q1, q2⟩ := strOf_get hl'
   refine ⟨by simp [q1], fun i hi => ?_⟩
   cases i with
   | zero => exact ⟨n, rfl, rfl⟩
   | succ i => simpa using q2 i (by simpa using hi)
  ·exact absurd h (by simp)
theorem fold_push : ∀ (ns : List Int) (s : ByteArray), ns.foldl (fun r n => r.push (UInt8.ofNat n.toNat)) s = ⟨s.data ++ (ns.map fun n => UInt8.ofNat n.toNat).toArray⟩
 | [], s => by simp
 | n :: r, s => by
  rw [List.foldl_cons, fold_push r]
  simp [ByteArray.push]
theorem tostr_ok {w : World} {F : Nat → Prop} {base : Nat} {σ : St} {γ : List Gh} {src dst e : TypeId} {x : AV} {ys : List (List AV)} {t : Bool} {l : List UInt8} {v : Value} (I : Inv tab w F σ γ) (hs : P.underlying src = some (.slice e)) (he : P.underlying e = some (.int .u8)) (hd : P.underlying dst = some .string)
  (hx : RS tab w F σ γ x v) (hy : elems σ x = some (ys, t)) (hl : strOf ys = some l) : Done tab F base w σ γ ((val (convert src dst v)).run P w) (.str ⟨l.toArray⟩) σ := by
 obtain ⟨q1, q2⟩ := strOf_get hl
 obtain ⟨a, cap, rfl, hcap, hor⟩ := elems_ok I hx hy
 refine done_same I (v := .string ⟨l.toArray⟩) (val_run ?_) (.fz _ _ (.str _))
 rw [run_convert_bytes_string w src dst e a _ cap hs he hd]
 cases a with
 | none =>
  have hy0 : ys = [] := by
   rcases hor with h | ⟨b, off, sz, h, _⟩
   ·exact h
   ·exact absurd h (by simp)
  subst hy0
  have : l = [] := List.length_eq_zero_iff.1 q1
  subst this
  rfl
 | some p =>
  have hcell : ∀ (i : Nat) (n : Int), ys[i]? = some [.int .u8 n] → w.cell? (p.add i) = some (.int .u8 n) := by
   intro i n hi
   rcases hor with h | ⟨b, off, sz, h, hz, hc⟩
   ·subst h; simp at hi
   ·cases h
    have hsz : sz = 1 := (hz _ (List.mem_of_getElem? hi)).symm
    subst hsz
    obtain ⟨u, u1, u2, _⟩ := hc i _ hi 0 _ rfl
    cases u2
    have e2 : (⟨b, off, none⟩ : Addr).add i = ⟨b, off + i * 1 + 0, none⟩ := by simp [Addr.add]
    rw [e2]; exact u1
  have hns : ∃ ns : List Int, ys = ns.map (fun n => [AV.int .u8 n]) ∧ l = ns.map fun n => UInt8.ofNat n.toNat := by
   clear hcell hor hx hy hcap
   induction ys generalizing l with
   | nil => simp [strOf] at hl; subst hl; exact ⟨[], rfl, rfl⟩
   | cons e r ih =>
    unfold strOf at hl
    split at hl
    ·rename_i heq; cases heq
    ·rename_i n r' heq
     cases heq
     obtain ⟨l', hl', e⟩ := Option.map_eq_some_iff.1 hl
     subst e
     obtain ⟨ns, r1, r2⟩ := ih hl' (strOf_get hl').1 (strOf_get hl').2
     exact ⟨n :: ns, by rw [r1]; rfl, by rw [r2]; rfl⟩
    ·exact absurd hl (by simp)
  obtain ⟨ns, e1, e2⟩ := hns
  have hld := run_loadCells_list (P := P) w p (ns.map (Value.int .u8)) (fun j v hj => by
   rw [List.getElem?_map] at hj
   obtain ⟨n, hn, e⟩ := Option.map_eq_some_iff.1 hj
   subst e
   exact hcell j n (by rw [e1, List.getElem?_map, hn]; rfl))
  have hlen : ys.length = (ns.map (Value.int .u8)).length := by rw [e1]; simp
  rw [hlen]
  rw [run_bytesToString w p _ cap ns hld, fold_push, e2]
  simp
theorem copy_osl {w : World} {F : Nat → Prop} {base : Nat} {σ : St} {γ : List Gh} {d t2 ty e : TypeId} {sz o ver n off len : Nat} {es ys : List (List AV)} {u v : Value} (I : Inv tab w F σ γ) (ht : P.underlying d = some (.slice e)) (hze : szB P e sz = true) (hx : RS tab w F σ γ (.osl o ver n off len) u)
  (ho : σ[o]? = some (.arr ver sz es)) (hn : es.length = n) (hle : off + len ≤ n) {Lv : Nat} (hlen : (Builtin.lenOf v).run P w = .ok Lv w) (hcells : SrcC P tab w (Stab w F σ γ) sz v ys) (hmin : Nat.min Lv len = ys.length) (hz : szOK sz ys) (hl : ys.length ≤ len) (hsz0 : 0 < sz) :
  Done tab F base w σ γ ((val (Builtin.copy_ #[d, t2] ty #[u, v])).run P w) (.int .i64 ys.length) (σ.set o (.arr ver sz (es.take off ++ ys ++ es.drop (off + ys.length)))) := by
 obtain ⟨A, hA1, hA2, hA3⟩ := hcells
 have hA2' : (Builtin.firstCells sz ys.length v).run P w = .ok A w := hA2 w.drawn
 have rt : ∀ (w' : World) (σ' : St) (γ' : List Gh), RS tab w' F σ' γ' (.int .i64 ys.length) (goInt (ys.length : Nat)) := fun w' σ' γ' => .fz _ _ (.int _ _)
 cases hx with
 | fz _ _ h => exact absurd h.noref (by simp [AV.noref])
 | osl _ _ _ _ _ _ _ h =>
  obtain ⟨x, g, hx, hg, h⟩ := h
  rw [ho] at hx; simp at hx; subst hx
  obtain ⟨a, hu, ha⟩ := h.2 rfl hn.symm hle
  subst hu
  by_cases h0 : ys = []
  ·subst h0
   have e1 : σ.set o (.arr ver sz (es.take off ++ [] ++ es.drop (off + ([] : List (List AV)).length))) = σ := by
    have hlt := lt_of_get ho
    have : es.take off ++ [] ++ es.drop (off + ([] : List (List AV)).length) = es := by simp
    rw [this]
    have := List.getElem?_eq_some_iff.1 ho
    obtain ⟨_, hh⟩ := this
    rw [← hh]; exact List.set_getElem_self hlt
   rw [e1]
   have hA0 : A = #[] := by
    apply Array.eq_empty_of_size_eq_zero; simpa using hA1
   subst hA0
   refine done_same I (val_run ?_) (rt w σ γ)
   simp only [Builtin.copy_, List.getElem?_toArray, List.getElem?_cons_zero, List.getElem?_cons_succ, Sem.run_bind, run_underlying ht, Result.andThen_ok, hlen, hmin, run_sz hze, hA2']
   cases a <;> simp [storeCells]
  ·have hyl : 0 < ys.length := List.length_pos_iff.2 h0
   obtain ⟨k1, k2, k3, k4⟩ := I.ok o _ g ho hg
   have hcap : 0 < g.cap - off := by omega
   have ha := ha hcap
   subst ha
   obtain ⟨vs, tv, e1, e2, e3⟩ := k4 (by omega)
   have hrow : (off + ys.length) * sz ≤ g.cap * sz := Nat.mul_le_mul_right _ (by omega)
   rw [Nat.add_mul] at hrow
   have hAl : A.toList.length = ys.length * sz := by simp [hA1]
   have hle' : g.base + off * sz + A.toList.length ≤ vs.size := by rw [hAl]; omega
   have hone := Src.one (tab := tab) (w := w) (S := Stab w F σ γ) hsz0 hz hA1 hA3
   have hrun := run_storeCells_at (P := P) g.b (g.base + off * sz) tv A.toList 0 vs w e1 (by simpa using hle') hone
   obtain ⟨s1, s2⟩ := set_row (x' := .arr ver sz (es.take off ++ ys ++ es.drop (off + ys.length))) (ws := (vs.toList.take (g.base + off * sz) ++ A.toList ++ vs.toList.drop (g.base + off * sz + A.toList.length)).toArray) I ho hg (by simp [owns]; omega) (.same _ _ _ _ _ (by simp; omega))
   refine ⟨goInt (ys.length : Nat), _, γ, .inl (val_run (w' := w.setRow g.b _) ?_), s1, s2 ?_, rt _ _ _, ?_⟩
   ·simp only [Builtin.copy_, List.getElem?_toArray, List.getElem?_cons_zero, List.getElem?_cons_succ, Sem.run_bind, run_underlying ht, Result.andThen_ok, hlen, hmin, run_sz hze, hA2']
    rw [hrun]
    simp
   ·have hmem : ∀ e' ∈ es.take off ++ ys ++ es.drop (off + ys.length), e'.length = sz := by
     intro e' he'
     simp only [List.mem_append] at he'
     rcases he' with (h' | h') | h'
     ·exact k3 e' (List.mem_of_mem_take h')
     ·exact hz e' h'
     ·exact k3 e' (List.mem_of_mem_drop h')
    refine arr_obj (D := (vs.toList.take (g.base + off * sz) ++ A.toList ++ vs.toList.drop (g.base + off * sz + A.toList.length)).toArray) (ty := tv) s1 k1 (by simp; omega) hmem (fun _ => ⟨setRow_heap w g.b vs _ tv _ e1, by rw [overV_size _ _ _ (by simpa using hle')]; exact e2⟩) (fun i e' hi j x hx => ?_)
    ·rw [overV_get _ _ _ _ (by simpa using hle'), hAl]
     have hj : j < sz := by
      have h5 := lt_of_get hx
      have h6 := hmem e' (List.mem_of_getElem? hi)
      omega
     have hlt1 : (es.take off).length = off := by simp; omega
     have hlt2 : (es.take off ++ ys).length = off + ys.length := by simp; omega
     rcases Nat.lt_or_ge i off with hio | hio
     ·have hi2 : es[i]? = some e' := by
       rw [List.append_assoc, List.getElem?_append_left (by omega), List.getElem?_take_of_lt hio] at hi
       exact hi
      obtain ⟨u, u1, u2, u3⟩ := e3 i e' hi2 j x hx
      have : (i + 1) * sz ≤ off * sz := Nat.mul_le_mul_right _ (by omega)
      rw [Nat.add_mul] at this
      rw [if_neg (by omega)]
      exact ⟨u, u1, u2, u3⟩
     ·rcases Nat.lt_or_ge i (off + ys.length) with hil | hil
      ·have hi2 : ys[i - off]? = some e' := by
        rw [List.getElem?_append_left (by omega), List.getElem?_append_right (by omega), hlt1] at hi
        exact hi
       have q1 : off * sz ≤ i * sz := Nat.mul_le_mul_right _ hio
       have q2 : (i + 1) * sz ≤ (off + ys.length) * sz := Nat.mul_le_mul_right _ (by omega)
       rw [Nat.add_mul, Nat.add_mul] at q2
       rw [if_pos (by omega)]
       obtain ⟨u, u1, u2, u3⟩ := hA3 (i - off) e' hi2 j x hx
       have hp : g.base + i * sz + j - (g.base + off * sz) = (i - off) * sz + j := by rw [Nat.sub_mul]; omega
       rw [hp, Array.getElem?_toList]
       exact ⟨u, u1, u2, u3⟩
      ·have hi2 : es[i]? = some e' := by
        rw [List.getElem?_append_right (by omega), List.getElem?_drop, hlt2, show off + ys.length + (i - (off + ys.length)) = i by omega] at hi
        exact hi
       obtain ⟨u, u1, u2, u3⟩ := e3 i e' hi2 j x hx
       have : (off + ys.length) * sz ≤ i * sz := Nat.mul_le_mul_right _ hil
       rw [Nat.add_mul] at this
       rw [if_neg (by omega)]
       exact ⟨u, u1, u2, u3⟩
   ·exact Fr.set fun b _ _ _ => rfl
theorem tobytes_ok {w : World} {F : Nat → Prop} {base : Nat} {σ : St} {γ : List Gh} {src dst e : TypeId} {s : ByteArray} {v : Value} (I : Inv tab w F σ γ) (hs : P.underlying src = some .string) (hd : P.underlying dst = some (.slice e)) (he : P.underlying e = some (.int .u8))
  (hx : RS tab w F σ γ (.str s) v) : Done tab F base w σ γ ((val (convert src dst v)).run P w) (.sl (s.data.toList.map fun b => [AV.int .u8 b.toNat])) σ := by
 rw [str_eq hx]
 have hrun := run_bytes_of_string (P := P) w src dst e s hs hd he
 have st0 : Step σ.length w σ γ { w with drawn := w.drawn + 1 } σ γ ∧ Inv tab { w with drawn := w.drawn + 1 } F σ γ := still I rfl rfl rfl (Nat.le_refl _) (fun _ _ => rfl)
 have hge := grownCap_ge w s.size 0 e
 generalize grownCap w s.size 0 e = cap at *
 obtain ⟨h1, h2⟩ := free_push st0.2 (.cells (bytesRow s cap) e ((bytesRow s cap).size, (bytesRow s cap).size + 1))
 refine ⟨_, _, γ, .inl (val_run hrun), st0.1.trans h1, h2, .fz _ _ ?_, Fr.refl _ _⟩
 have hl : (s.data.toList.map fun b => [AV.int .u8 b.toNat]).length = s.size := by rw [List.length_map, Array.length_toList]; rfl
 rw [← hl]
 refine row_sl (D := bytesRow s cap) (sz := 1) (free_stab st0.2 _) ⟨e, _, Array.getElem?_push_size⟩ (by simp) (by omega) (fun i el hi j x hx => ?_)
 simp at hi
 obtain ⟨b, hb, rfl⟩ := hi
 cases j with
 | zero =>
  simp at hx; subst hx
  refine ⟨.int .u8 b.toNat, ?_, rfl, .int _ _⟩
  have hlt : i < s.data.size := (Array.getElem?_eq_some_iff.1 hb).1
  unfold bytesRow
  rw [Array.getElem?_append_left (by simpa using hlt)]
  simpa using ⟨b, by simpa using hb, rfl⟩
 | succ j => simp at hx
end
end Go.Den

namespace Go.Den
open Go
section
variable {P : Program} {tab : Nat → Nat}
def mkB (P : Program) (t : TypeId) (sz bytes : Nat) (zs : List AV) : Bool := match elemB P t with
 | some e => szB P e sz && zeroB P e zs && zs.length == sz && (match P.info? e with
  | some i => i.bytes == bytes && i.bytes != 0
  | none => false)
 | none => false
theorem mksl_ok {w : World} {F : Nat → Prop} {base : Nat} {σ : St} {γ : List Gh} (I : Inv tab w F σ γ) (hbase : base ≤ σ.length) {t : TypeId} {sz bytes : Nat} {zs z : List AV} {kl kc : IntKind} {l c : Int} {u v : Value}
  (hB : mkB P t sz bytes zs = true) (hu : RS tab w F σ γ (.int kl l) u) (hv : RS tab w F σ γ (.int kc c) v) (hs0 : 0 < sz) (h0 : 0 ≤ l) (hlc : l ≤ c) (hb : c * bytes ≤ 140737488355328) (hz : frzCells zs = some z) :
  Done tab F base w σ γ ((val (Instr.makeSlice t u v)).run P w) (.osl σ.length 0 l.toNat 0 l.toNat) (σ ++ [.arr 0 sz (List.replicate l.toNat z)]) := by
 unfold mkB at hB
 split at hB
 ·rename_i e he
  simp only [Bool.and_eq_true, beq_iff_eq] at hB
  obtain ⟨⟨⟨q1, q2⟩, q3⟩, q4⟩ := hB
  have hw := elemB_ok he
  split at q4
  ·rename_i i hi
   simp only [Bool.and_eq_true, beq_iff_eq, bne_iff_ne, ne_eq] at q4
   obtain ⟨q4, q5⟩ := q4
   have hsz : i.size = sz := by
    unfold szB at q1
    rw [hi] at q1
    simpa using q1
   unfold zeroB at q2
   rw [hi] at q2
   simp only [] at q2
   split at q2
   ·rename_i zv hzv
    obtain ⟨c1, c2, c3⟩ := constB_go tab (w := w) (S := Stab w F σ γ) q2
    have hzs : zv.cells.size = sz := by simpa [q3] using c1
    have eu : u = .int kl l := by cases hu with | fz _ _ h => cases h; rfl
    have ev : v = .int kc c := by cases hv with | fz _ _ h => cases h; rfl
    have hc1 : c ≤ 140737488355328 := by
     have : (1 : Int) ≤ bytes := by omega
     have h := Int.mul_le_mul_of_nonneg_left this (show (0 : Int) ≤ c by omega)
     omega
    have hrun := run_make (P := P) w t e i zv hw hi hzv kl kc l c h0 hlc (by rw [q4]; have : (bytes : Int) * c = c * bytes := Int.mul_comm _ _; omega) (by omega)
    rw [← eu, ← ev, hsz] at hrun
    obtain ⟨f1, f2⟩ := frzCells_ok hz
    have hzl : z.length = sz := by rw [f2, norms_length, q3]
    obtain ⟨h1, h2, h3⟩ := new_push I hbase (.cells (madeCells zv.cells (c.toNat * sz)) e) (.arr 0 sz (List.replicate l.toNat z)) c.toNat fun st =>
     arr_obj (D := madeCells zv.cells (c.toNat * sz)) (ty := e) (g := ⟨w.heap.size, 0, c.toNat⟩) st hs0 (by simp; omega) (fun e he => by rw [List.eq_of_mem_replicate he]; exact hzl) (fun _ => ⟨Array.getElem?_push_size, by rw [size_madeCells]; simp⟩) (fun i el hi j x hx => by
      rw [List.getElem?_replicate] at hi
      split at hi
      ·rename_i hil
       simp at hi; subst hi
       rw [f2, norms_get] at hx
       cases hcj : zs[j]? with
       | none => simp [hcj] at hx
       | some y =>
        simp [hcj] at hx; subst hx
        have hj : j < sz := by have := lt_of_get hcj; omega
        have hi1 : (i + 1) * sz ≤ c.toNat * sz := Nat.mul_le_mul_right _ (by omega)
        rw [Nat.add_mul] at hi1
        have hlt : i * sz + j < c.toNat * sz := by omega
        have hm : (i * sz + j) % sz = j := by rw [Nat.mul_comm, Nat.mul_add_mod, Nat.mod_eq_of_lt hj]
        have hjz : j < zv.cells.size := by omega
        refine ⟨zv.cells[j], ?_, norm_scalar (c2 j y hcj), ((c3 j y _ hcj (by simp [hjz])) : RF tab w _ y _).norm⟩
        simp only [Nat.zero_add]
        rw [madeCells, Array.getElem?_map, Array.getElem?_range, if_pos hlt]
        simp only [hzs, Option.map_some, Option.some.injEq]
        rw [hm]
        exact getElem!_pos zv.cells j hjz
      ·exact absurd hi (by simp))
    refine ⟨_, _, _, .inl (val_run hrun), h1, h2, .osl _ _ _ _ _ _ ⟨_, _, _, rfl⟩ ⟨.arr 0 sz (List.replicate l.toNat z), ⟨w.heap.size, 0, c.toNat⟩, by simp, by rw [← I.len]; simp, .inr ⟨rfl, by simp⟩, fun _ _ _ => ⟨_, rfl, fun _ => by simp⟩⟩, h3⟩
   ·exact absurd q2 (by simp)
  ·exact absurd q4 (by simp)
 ·exact absurd hB (by simp)
end
end Go.Den

namespace Go.Den
open Go

section
variable {P : Program} {tab : Nat → Nat}
def concB (P : Program) (t : TypeId) : Bool := match P.underlying t with
 | some (.interface _) => false
 | some _ => true
 | none => false
theorem run_mkif {t : TypeId} {v : Value} {w : World} (h : concB P t = true) : (Instr.makeInterface t v).run P w = .ok (.iface t v) w := by
 unfold concB at h
 cases hu : P.underlying t with
 | none => rw [hu] at h; exact absurd h (by simp)
 | some d =>
  rw [hu] at h
  unfold Instr.makeInterface
  rw [Sem.run_bind, run_underlying hu w]
  cases d <;> first | (simp at h; done) | rfl
def chkZ (P : Program) (tab : Nat → Nat) : Op → AOp → Bool
 | .box t x, .boxz t' y => t == t' && chkOpd tab x y
 | .fieldAddr s x f, .fldz t y => s == t && fldzB P s f && chkOpd tab x y
 | _, _ => false
def chkOp (P : Program) (tab : Nat → Nat) : Op → AOp → Bool
 | .move x, .mov y => chkOpd tab x y
 | .assign x, .mov y => chkOpd tab x y
 | .move x, .movp _ y => chkOpd tab x y
 | .assign x, .movp _ y => chkOpd tab x y
 | .pick c a b, .pick c' a' b' => chkOpd tab c c' && chkOpd tab a a' && chkOpd tab b b'
 | .alloc t, .alloc zs _ => zeroB P t zs
 | .box _ x, .box _ _ y => chkOpd tab x y
 | .build t ps, .build zs qs => zeroB P t zs && allInfo P t && (match placeOf P t with
  | some place => chkParts tab place ps.toList qs
  | none => false)
 | .build t ps, .buildp zs qs _ => zeroB P t zs && allInfo P t && (match placeOf P t with
  | some place => chkParts tab place ps.toList qs
  | none => false)
 | .buildSlice t len ps, .lit _ sz zs len' qs => len == len' && litB P t sz zs len && chkParts tab (fun i => some (i * sz, sz)) ps.toList (litParts sz qs)
 | .load t x, .load ag sz y => aggB P t ag && szB P t sz && chkOpd tab x y
 | .store t x y, .store sz x' y' => szB P t sz && chkOpd tab x x' && chkOpd tab y y'
 | .store t x y, .storep sz x' y' _ => szB P t sz && chkOpd tab x x' && chkOpd tab y y'
 | .nilCheck x, .nilchk y => chkOpd tab x y
 | .binOp op xt x y _, .bin op' kd x' y' => decide (op = op') && binB P kd xt && chkOpd tab x x' && chkOpd tab y y'
 | .unOp op _ x, .not y => decide (op = .not) && chkOpd tab x y
 | .unOp op _ x, .bin bop kd (.c z) y => decide (op = .neg ∧ bop = .sub ∧ kd = .num) && (match z with | .int _ 0 => true | _ => false) && chkOpd tab x y
 | .convert s d x, .convi k y => (P.underlying s).isSome && (match P.underlying d with | some (.int k') => decide (k' = k) | _ => false) && chkOpd tab x y
 | .fieldAddr s x f, .fld off y => fldB P s f off && chkOpd tab x y
 | .field s x f, .field ag off sz y => fieldB P s f ag off sz && chkOpd tab x y
 | .indexAddr t x i, .idxa sz y j => (match elemB P t with | some e => szB P e sz | none => false) && chkOpd tab x y && chkOpd tab i j
 | .indexAddr t x i, .idxarr len sz y j => arrB P t len sz && chkOpd tab x y && chkOpd tab i j
 | .index t x i, .index y j => (match P.underlying t with | some .string => true | _ => false) && chkOpd tab x y && chkOpd tab i j
 | .extract x i, .extract y j => i == j && chkOpd tab x y
 | .slice t x lo hi mx, .slice sz y lo' hi' mx' => (match elemB P t with | some e => szB P e sz | none => false) && chkOpd tab x y && chkO tab lo lo' && chkO tab hi hi' && chkO tab mx mx' && (mx.isNone || hi.isSome)
 | .slice t x lo hi mx, .sstr y lo' hi' => (match P.underlying t with | some .string => true | _ => false) && chkOpd tab x y && chkO tab lo lo' && chkO tab hi hi' && mx.isNone
 | .makeMap t r, .mkmap r' => chkO tab r r' && (match P.underlying t with | some (.map _ _) => true | _ => false)
 | .lookup t x i ok, .lookup ag ks z ok' y j => mapB P t ag ks && mapZ P t z && ok == ok' && chkOpd tab x y && chkOpd tab i j
 | .mapUpdate t m k x, .mapupd ag ks m' k' x' => mapB P t ag ks && chkOpd tab m m' && chkOpd tab k k' && chkOpd tab x x'
 | .insert t m k x, .mapupd ag ks m' k' x' => mapB P t ag ks && chkOpd tab m m' && chkOpd tab k k' && chkOpd tab x x'
 | _, .bad => true
 | .convert s d x, .tostr y => (match elemB P s, P.underlying d with
  | some e, some .string => (match P.underlying e with
   | some (.int .u8) => true
   | _ => false)
  | _, _ => false) && chkOpd tab x y
 | .convert s d x, .tobytes y => (match P.underlying s, elemB P d with
  | some .string, some e => (match P.underlying e with | some (.int .u8) => true | _ => false)
  | _, _ => false) && chkOpd tab x y
 | .assign x, .movo _ y => chkOpd tab x y
 | .convert s d x, .mark y => s == d && (match elemB P s with
  | some e => (match P.underlying e with
   | some (.int .u8) => true
   | _ => false)
  | none => false) && chkOpd tab x y
 | .binOp op xt x y _, .isnil ng x' => decide (op = if ng then .neq else .eql) && (match P.underlying xt with | some (.interface _) => true | _ => false) && chkOpd tab x x' && (match y with | .const .nilIface => true | _ => false)
 | .load t x, .gload ag sz g => (match x with | .global g' => g' == g | _ => false) && aggB P t ag && szB P t sz
 | .makeSlice t l c, .mksl sz bytes zs l' c' => mkB P t sz bytes zs && chkOpd tab l l' && chkOpd tab c c'
 | .makeInterface t x, .mkif t' y => t == t' && chkOpd tab x y && concB P t
 | .makeFunc (.func g) first caps, .mkfn f caps' => tab f == g && first.isEmpty && chkOpds tab caps.toList caps'
 | .call c, .len str y => (match c.callee, c.args.toList, c.argTypes.toList with
  | .builtin .len, [x], [t] => chkOpd tab x y && (match P.underlying t with | some .string => str | some (.slice _) => !str | _ => false)
  | _, _, _ => false)
 | .call c, .append _ sz bytes y z => (match c.callee, c.args.toList, c.argTypes.toList with
  | .builtin .append, [x, x'], [t, t'] => chkOpd tab x y && chkOpd tab x' z && appB P t t' sz bytes
  | _, _, _ => false)
 | .call c, .clear _ zs y => (match c.callee, c.args.toList, c.argTypes.toList with
  | .builtin .clear, [x], [t] => chkOpd tab x y && clearB P t zs
  | _, _, _ => false)
 | .call c, .copy sz y z => (match c.callee, c.args.toList, c.argTypes.toList with
  | .builtin .copy, [x, x'], [t, _] => chkOpd tab x y && chkOpd tab x' z && (match elemB P t with | some e => szB P e sz && decide (0 < sz) | none => false)
  | _, _, _ => false)
 | .call c, .min y z => (match c.callee, c.args.toList with
  | .builtin .min, [x, x'] => chkOpd tab x y && chkOpd tab x' z
  | _, _ => false)
 | .call c, .mm3 mx y z q => (match c.callee, c.args.toList with
  | .builtin bt, [x, x', x''] => decide (bt = if mx then .max else .min) && chkOpd tab x y && chkOpd tab x' z && chkOpd tab x'' q
  | _, _ => false)
 | .call c, .max y z => (match c.callee, c.args.toList with
  | .builtin .max, [x, x'] => chkOpd tab x y && chkOpd tab x' z
  | _, _ => false)
 | o, a => chkZ P tab o a

theorem movp_ok {base : Nat} {sz : Nat} {y : Opd} {env : Env} {σ σ' : St} {av : AV} {tt : Bool} {w : World} {F : Nat → Prop} {γ : List Gh} {v : Value} {r : Result Next} (I : Inv tab w F σ γ) (hb : base ≤ σ.length) (hx : RS tab w F σ γ (ev env y) v)
  (h : step base (.movp sz y) env σ = some (av, σ', tt)) (hr : r = .ok (.value v) w) : Done tab F base w σ γ r av σ' := by
 simp only [step] at h
 split at h
 ·rename_i he
  rw [he] at hx
  split at h
  ·rename_i h0
   simp at h; obtain ⟨rfl, rfl, _⟩ := h
   obtain ⟨a, rfl⟩ := nils_open hx
   have hl := I.len
   have hn : σ[σ.length]? = none := List.getElem?_eq_none (Nat.le_refl _)
   have e1 : (σ ++ [Ob.arr 0 sz []])[σ.length]? = some (.arr 0 sz []) := by simp
   have e2 : (γ ++ [(⟨0, 0, 0⟩ : Gh)])[σ.length]? = some ⟨0, 0, 0⟩ := by rw [← I.len]; simp
   obtain ⟨h1, h2⟩ := change (w1 := w) (σ1 := σ ++ [.arr 0 sz []]) (γ1 := γ ++ [⟨0, 0, 0⟩]) σ.length I rfl rfl rfl (Nat.le_refl _)
    (fun k hk => by
     rcases Nat.lt_or_ge k σ.length with h | h
     ·exact ⟨List.getElem?_append_left h, List.getElem?_append_left (by omega)⟩
     ·rw [List.getElem?_eq_none (by simp; omega), List.getElem?_eq_none h, List.getElem?_eq_none (by simp; omega), List.getElem?_eq_none (by omega)]; exact ⟨rfl, rfl⟩)
    (by simp) (by simp [hl]) (fun b hb => .inl rfl)
    (fun z g hz hg ho => by rw [e1] at hz; rw [e2] at hg; simp at hz hg; subst hz; subst hg; simp [owns] at ho)
    (fun z g hz => by rw [hn] at hz; exact absurd hz (by simp))
   refine ⟨_, w, _, .inl hr, h1, h2 fun z g hz hg => ?_, .osl _ _ _ _ _ _ ⟨_, _, _, rfl⟩ ⟨_, _, e1, e2, .inr ⟨rfl, by simp⟩, fun _ _ _ => ⟨a, rfl, fun h => by simp at h⟩⟩, Fr.push hb _⟩
   rw [e1] at hz; rw [e2] at hg; simp at hz hg; subst hz; subst hg
   exact ⟨h0, by simp, by simp, by simp⟩
  ·exact absurd h (by simp)
 ·exact absurd h (by simp)
theorem push_row {w : World} {F : Nat → Prop} {σ : St} {γ : List Gh} {sz : Nat} (I : Inv tab w F σ γ) (h0 : 0 < sz) :
  Step σ.length w σ γ w (σ ++ [Ob.arr 0 sz []]) (γ ++ [⟨0, 0, 0⟩]) ∧ Inv tab w F (σ ++ [Ob.arr 0 sz []]) (γ ++ [⟨0, 0, 0⟩]) := by
 have hl := I.len
 have hn : σ[σ.length]? = none := List.getElem?_eq_none (Nat.le_refl _)
 have e1 : (σ ++ [Ob.arr 0 sz []])[σ.length]? = some (.arr 0 sz []) := by simp
 have e2 : (γ ++ [(⟨0, 0, 0⟩ : Gh)])[σ.length]? = some ⟨0, 0, 0⟩ := by rw [← I.len]; simp
 obtain ⟨h1, h2⟩ := change (w1 := w) (σ1 := σ ++ [.arr 0 sz []]) (γ1 := γ ++ [⟨0, 0, 0⟩]) σ.length I rfl rfl rfl (Nat.le_refl _)
  (fun k hk => by
   rcases Nat.lt_or_ge k σ.length with h | h
   ·exact ⟨List.getElem?_append_left h, List.getElem?_append_left (by omega)⟩
   ·rw [List.getElem?_eq_none (by simp; omega), List.getElem?_eq_none h, List.getElem?_eq_none (by simp; omega), List.getElem?_eq_none (by omega)]; exact ⟨rfl, rfl⟩)
  (by simp) (by simp [hl]) (fun b hb => .inl rfl)
  (fun z g hz hg ho => by rw [e1] at hz; rw [e2] at hg; simp at hz hg; subst hz; subst hg; simp [owns] at ho)
  (fun z g hz => by rw [hn] at hz; exact absurd hz (by simp))
 refine ⟨h1, h2 fun z g hz hg => ?_⟩
 rw [e1] at hz; rw [e2] at hg; simp at hz hg; subst hz; subst hg
 exact ⟨h0, by simp, by simp, by simp⟩
theorem promos_ok {base : Nat} {w : World} {F : Nat → Prop} {v : Value} : ∀ {prs : List (Nat × Nat)} {cs cs' : List AV} {σ σ' : St} {γ : List Gh}, Inv tab w F σ γ → base ≤ σ.length → RS tab w F σ γ (.agg cs) v → promos prs cs σ = some (cs', σ') →
  ∃ γ', Step σ.length w σ γ w σ' γ' ∧ Inv tab w F σ' γ' ∧ RS tab w F σ' γ' (.agg cs') v ∧ Fr base σ σ'
 | [], cs, cs', σ, σ', γ, I, hb, hv, h => by
  simp [promos] at h; obtain ⟨rfl, rfl⟩ := h
  exact ⟨γ, Step.refl w γ (Nat.le_refl _), I, hv, Fr.refl _ _⟩
 | (i, sz) :: r, cs, cs', σ, σ', γ, I, hb, hv, h => by
  simp only [promos] at h
  split at h
  ·rename_i hi
   split at h
   ·rename_i h0
    obtain ⟨s1, I1⟩ := push_row I h0
    have hv0 := hv
    obtain ⟨us, rfl, ul, us1, us2⟩ := agg_open hv
    have hil : i < cs.length := (List.getElem?_eq_some_iff.1 hi).1
    have hu : us[i]? = some us[i] := List.getElem?_eq_getElem (by omega)
    obtain ⟨a, ha⟩ := nils_open (us2 i _ _ hi hu)
    have e1 : (σ ++ [Ob.arr 0 sz []])[σ.length]? = some (.arr 0 sz []) := by simp
    have e2 : (γ ++ [(⟨0, 0, 0⟩ : Gh)])[σ.length]? = some ⟨0, 0, 0⟩ := by rw [← I.len]; simp
    have hv1 : RS tab w F (σ ++ [Ob.arr 0 sz []]) (γ ++ [⟨0, 0, 0⟩]) (.agg (cs.set i (.osl σ.length 0 0 0 0))) (.agg us.toArray) := by
     refine .agg _ us (by simpa using ul) (fun j x hx => ?_) (fun j x u hx hu' => ?_)
     ·rw [List.getElem?_set] at hx
      split at hx
      ·rename_i e
       subst e
       simp at hx; subst hx; rfl
      ·exact us1 j x hx
     ·rw [List.getElem?_set] at hx
      split at hx
      ·rename_i e
       subst e
       simp at hx; subst hx
       ·rw [hu] at hu'; simp at hu'; subst hu'
        rw [ha]
        exact .osl _ _ _ _ _ _ ⟨_, _, _, rfl⟩ ⟨_, _, e1, e2, .inr ⟨rfl, by simp⟩, fun _ _ _ => ⟨a, rfl, fun h => by simp at h⟩⟩
      ·have := us2 j x u hx hu'
       exact RV.step s1 this this.under
    obtain ⟨γ', s2, I2, hv2, f2⟩ := promos_ok (base := base) I1 (by simp; omega) hv1 h
    exact ⟨γ', s1.trans (s2.mono (by simp)), I2, hv2, (Fr.push hb _).trans f2⟩
   ·exact absurd h (by simp)
  ·exact absurd h (by simp)
theorem promos_len : ∀ {prs : List (Nat × Nat)} {cs cs' : List AV} {σ σ' : St}, promos prs cs σ = some (cs', σ') → σ.length ≤ σ'.length
 | [], cs, cs', σ, σ', h => by simp [promos] at h; obtain ⟨rfl, rfl⟩ := h; exact Nat.le_refl _
 | (i, sz) :: r, cs, cs', σ, σ', h => by
  simp only [promos] at h
  split at h
  ·split at h
   ·have := promos_len h; simp at this; omega
   ·exact absurd h (by simp)
  ·exact absurd h (by simp)
theorem allocp_ok {w : World} {F : Nat → Prop} {base : Nat} {σ σ' : St} {γ : List Gh} {t : TypeId} {zs cs : List AV} {prs : List (Nat × Nat)} (I : Inv tab w F σ γ) (hb : base ≤ σ.length) (hz : zeroB P t zs = true) (hp : promos prs zs σ = some (cs, σ')) :
  Done tab F base w σ γ ((do pure (Next.value (← Instr.alloc t true (.tuple #[]))) : Sem Next).run P w) (.ref σ'.length 0) (σ' ++ [.cells cs]) := by
 obtain ⟨z, hz, hc⟩ := run_zero (P := P) (w := w) hz
 obtain ⟨q1, q2, q3⟩ := constB_go tab (w := w) (S := Stab w F σ γ) hc
 have hv : RS tab w F σ γ (.agg zs) (.agg z.cells.toList.toArray) := .agg _ _ q1 q2 (fun j x v hx hv => .fz _ _ (q3 j x v hx hv))
 obtain ⟨γ2, s2, I2, hv2, f2⟩ := promos_ok (base := base) I hb hv hp
 have hl := promos_len hp
 obtain ⟨us, e, ul, us1, us2⟩ := agg_open hv2
 have e' : z.cells.toList = us := by
  have e0 : z.cells = us.toArray := by simpa using e
  rw [e0]
 subst e'
 obtain ⟨h1, h2, h3⟩ := new_push I2 (base := base) (by omega) (.cells z.cells t) (.cells cs) 0 fun st => by
  exact cells_obj (g := ⟨w.heap.size, 0, 0⟩) st (Array.getElem?_push_size) (by simpa using ul) us1 ((unders_iff _ _).2 fun j x hx => by
    obtain ⟨v, hv⟩ := get_of_len ul hx
    exact (us2 j x v hx hv).under) (fun j x v hx hv => us2 j x v hx (by simpa using hv))
 exact ⟨.pointer (some ⟨w.heap.size, 0, none⟩), _, _, .inl (by simp [Instr.alloc, hz, newVar, newRow]), s2.trans (h1.mono hl), h2, .ref σ'.length 0 ⟨w.heap.size, 0, 0⟩ cs (by simp) (by rw [← I2.len]; simp), f2.trans h3⟩
theorem mapArr {α β : Type} (A : Array α) (f : α → β) : (A.toList.map f).toArray = A.map f := by rw [← Array.toList_map]
theorem toArr {α : Type} {A : Array α} {l : List α} (h : A.toList = l) : A = l.toArray := by rw [← h]
theorem mapupd_all {base : Nat} {ag : Bool} {ks : List CK} {m k v : Opd} {env : Env} {σ σ' : St} {av : AV} {tt : Bool} {w : World} {F : Nat → Prop} {γ : List Gh} {t : TypeId} {a b c : Value} (I : Inv tab w F σ γ) (hB : mapB P t ag ks = true)
  (hx : RS tab w F σ γ (ev env m) a) (hk : RS tab w F σ γ (ev env k) b) (hv : RS tab w F σ γ (ev env v) c) (h : step base (.mapupd ag ks m k v) env σ = some (av, σ', tt)) :
  Done tab F base w σ γ ((do Instr.mapUpdate t a b c; pure Next.skip : Sem Next).run P w) av σ' := by
 simp only [step] at h
 split at h
 ·rename_i o hev
  rw [hev] at hx
  split at h
  ·rename_i es ho
   split at h
   ·rename_i hko
    split at h
    ·rename_i es' hp
     split at h
     ·rename_i hst
      simp at h; obtain ⟨rfl, rfl, _⟩ := h
      exact mapupd_ok I hB hx hk hv ho hko hp hst
     ·exact absurd h (by simp)
    ·exact absurd h (by simp)
   ·exact absurd h (by simp)
  ·exact absurd h (by simp)
 ·exact absurd h (by simp)
theorem movo_ok {w : World} {F : Nat → Prop} {base : Nat} {σ : St} {γ : List Gh} {o1 o2 w1 v2 sz off len : Nat} {es0 es : List (List AV)} {v : Value} {r : Result Next} (I : Inv tab w F σ γ)
  (hv0 : RS tab w F σ γ (.osl o2 v2 es.length off len) v) (h1 : σ[o1]? = some (.arr w1 sz es0)) (h2 : σ[o2]? = some (.arr v2 sz es)) (hne : o1 ≠ o2) (_ : off + len ≤ es.length) (hr : r = .ok (.value v) w) :
  Done tab F base w σ γ r (.osl o1 (w1 + 1) es.length off len) ((σ.set o1 (.arr (w1 + 1) sz es)).set o2 .dead) := by
 have hg1 : o1 < γ.length := by rw [I.len]; exact lt_of_get h1
 have hg2 : o2 < γ.length := by rw [I.len]; exact lt_of_get h2
 obtain ⟨g1, hg1'⟩ : ∃ g1, γ[o1]? = some g1 := ⟨_, List.getElem?_eq_getElem hg1⟩
 obtain ⟨g2, hg2'⟩ : ∃ g2, γ[o2]? = some g2 := ⟨_, List.getElem?_eq_getElem hg2⟩
 have s1 : ((σ.set o1 (.arr (w1 + 1) sz es)).set o2 .dead)[o1]? = some (.arr (w1 + 1) sz es) := by rw [List.getElem?_set_ne (Ne.symm hne), List.getElem?_set_self (lt_of_get h1)]
 have s2 : ((σ.set o1 (.arr (w1 + 1) sz es)).set o2 .dead)[o2]? = some .dead := List.getElem?_set_self (by simpa using lt_of_get h2)
 have s3 : ∀ o, o ≠ o1 → o ≠ o2 → ((σ.set o1 (.arr (w1 + 1) sz es)).set o2 .dead)[o]? = σ[o]? := fun o p q => by rw [List.getElem?_set_ne (Ne.symm q), List.getElem?_set_ne (Ne.symm p)]
 have t1 : (γ.set o1 g2)[o1]? = some g2 := List.getElem?_set_self hg1
 have t3 : ∀ o, o ≠ o1 → (γ.set o1 g2)[o]? = γ[o]? := fun o p => List.getElem?_set_ne (Ne.symm p)
 generalize hs' : (σ.set o1 (.arr (w1 + 1) sz es)).set o2 .dead = σ' at s1 s2 s3 ⊢
 have hlen : σ'.length = σ.length := by rw [← hs']; simp
 generalize hg' : γ.set o1 g2 = γ' at t1 t3
 have hlen' : γ'.length = γ.length := by rw [← hg']; simp
 have back : ∀ (o : Nat) (x : Ob) (g : Gh), σ'[o]? = some x → γ'[o]? = some g → owns x g = true → ∃ (x0 : Ob), σ[if o = o1 then o2 else o]? = some x0 ∧ γ[if o = o1 then o2 else o]? = some g ∧ owns x0 g = true := by
  intro o x g hx hg ho
  by_cases e1 : o = o1
  ·subst e1
   rw [s1] at hx; rw [t1] at hg
   simp at hx hg; subst hx; subst hg
   rw [if_pos rfl]
   exact ⟨_, h2, hg2', ho⟩
  ·rw [if_neg e1]
   by_cases e2 : o = o2
   ·subst e2
    rw [s2] at hx; simp at hx; subst hx; simp [owns] at ho
   ·rw [s3 o e1 e2] at hx
    rw [t3 o e1] at hg
    exact ⟨x, hx, hg, ho⟩
 have hown : ∀ b, Owned σ' γ' b → Owned σ γ b := by
  rintro b ⟨o, x, g, q1, q2, q3, q4⟩
  obtain ⟨x0, p1, p2, p3⟩ := back o x g q1 q2 q3
  exact ⟨_, x0, g, p1, p2, p3, q4⟩
 have st : Step σ.length w σ γ w σ' γ' := by
  refine ⟨rfl, rfl, rfl, Nat.le_refl _, Nat.le_refl _, fun b _ hn => ⟨rfl, fun ho => hn (hown b ho)⟩, Nat.le_refl _, by rw [hlen]; exact Nat.le_refl _, fun o x g ho hx hg => ?_⟩
  by_cases e1 : o = o1
  ·subst e1
   rw [h1] at hx; simp at hx; subst hx
   exact ⟨_, g2, s1, t1, .anew _ _ _ _ _ _ _ (Nat.lt_succ_self _)⟩
  ·by_cases e2 : o = o2
   ·subst e2
    rw [h2] at hx; simp at hx; subst hx
    exact ⟨.dead, g, s2, by rw [t3 o e1]; exact hg, .kill _ _ _ _ _⟩
   ·exact ⟨x, g, by rw [s3 o e1 e2]; exact hx, by rw [t3 o e1]; exact hg, ObStep.refl x g⟩
 have k2 := I.ok o2 _ g2 h2 hg2'
 have k2' := k2.step st (x := .arr v2 sz es) rfl (fun _ => rfl)
 have I1 : Inv tab w F σ' γ' := by
  refine ⟨by rw [hlen, hlen']; exact I.len, I.fsz, fun o x g hx hg => ?_, fun o x g hx hg ho => ?_, fun o o' x x' g g' q1 q2 q3 q4 q5 q6 q7 => ?_, I.gl.mono fun b hb => st.stab hb⟩
  ·by_cases e1 : o = o1
   ·subst e1
    rw [s1] at hx; rw [t1] at hg
    simp at hx hg; subst hx; subst hg
    exact k2'
   ·by_cases e2 : o = o2
    ·subst e2
     rw [s2] at hx; simp at hx; subst hx; trivial
    ·rw [s3 o e1 e2] at hx
     rw [t3 o e1] at hg
     have h0 := I.ok o x g hx hg
     exact h0.step st h0.under fun _ => rfl
  ·obtain ⟨x0, p1, p2, p3⟩ := back o x g hx hg ho
   exact I.own _ x0 g p1 p2 p3
  ·obtain ⟨x0, p1, p2, p3⟩ := back o x g q1 q2 q3
   obtain ⟨x0', p1', p2', p3'⟩ := back o' x' g' q4 q5 q6
   have := I.inj _ _ x0 x0' g g' p1 p2 p3 p1' p2' p3' q7
   have dd : ∀ (o : Nat) (x : Ob) (g : Gh), σ'[o]? = some x → owns x g = true → o ≠ o2 := by
    intro o x g hx ho e
    subst e
    rw [s2] at hx; simp at hx; subst hx; simp [owns] at ho
   have d1 := dd o x g q1 q3
   have d2 := dd o' x' g' q4 q6
   by_cases e1 : o = o1 <;> by_cases e2 : o' = o1
   ·rw [e1, e2]
   ·rw [if_pos e1, if_neg e2] at this; exact absurd this.symm d2
   ·rw [if_neg e1, if_pos e2] at this; exact absurd this d1
   ·rw [if_neg e1, if_neg e2] at this; exact this
 refine ⟨v, w, γ', .inl hr, st, I1, ?_, ?_⟩
 ·cases hv0 with
  | fz _ _ h => exact absurd h.noref (by simp [AV.noref])
  | osl _ _ _ _ _ _ hv h =>
   obtain ⟨x', g', q1, q2, q3⟩ := h
   rw [h2] at q1; rw [hg2'] at q2
   simp at q1 q2; subst q1; subst q2
   exact .osl _ _ _ _ _ _ hv ⟨_, _, s1, t1, .inr ⟨rfl, Nat.le_refl _⟩, fun _ hn hl => q3.2 rfl rfl hl⟩
 ·rw [← hs']
  exact (Fr.set fun b _ _ _ => rfl).trans (Fr.set fun b _ _ _ => rfl)
theorem mark_ok {w : World} {F : Nat → Prop} {base : Nat} {σ : St} {γ : List Gh} {src e : TypeId} {o ver sz : Nat} {es : List (List AV)} {v : Value} (I : Inv tab w F σ γ) (hs : P.underlying src = some (.slice e)) (he : P.underlying e = some (.int .u8))
  (hx : RS tab w F σ γ (.osl o ver es.length 0 es.length) v) (ho : σ[o]? = some (.arr ver sz es)) (h0 : 0 < es.length) : Done tab F base w σ γ ((val (convert src src v)).run P w) (.sl es) (σ.set o .dead) := by
 have hgl : o < γ.length := by rw [I.len]; exact lt_of_get ho
 have hg : γ[o]? = some γ[o] := List.getElem?_eq_getElem hgl
 generalize γ[o] = g at hg
 obtain ⟨k1, k2, k3, k4⟩ := I.ok o _ g ho hg
 have hcap : 0 < g.cap := by omega
 obtain ⟨vs, ty, e1, e2, e3⟩ := k4 hcap
 obtain ⟨hb1, hb2⟩ := I.own o _ g ho hg (by simpa [owns] using hcap)
 have hv : v = .slice (some ⟨g.b, g.base, none⟩) es.length g.cap := by
  cases hx with
  | fz _ _ h => exact absurd h.noref (by simp [AV.noref])
  | osl _ _ _ _ _ _ hv h =>
   obtain ⟨x', g', q1, q2, q3⟩ := h
   rw [ho] at q1; rw [hg] at q2
   simp at q1 q2; subst q1; subst q2
   obtain ⟨a, rfl, ha⟩ := q3.2 rfl rfl (by omega)
   rw [ha (by omega)]; simp
 subst hv
 let w1 : World := w.freeze ⟨g.b, vs.size, none⟩ 1
 have hw1 : w1.heap[g.b]? = some (.cells vs ty (vs.size, vs.size + 1)) := by
  show (w.heap.modify g.b _)[g.b]? = _
  rw [Array.getElem?_modify]; simp [e1]
 have hoth : ∀ b, b ≠ g.b → w1.heap[b]? = w.heap[b]? := fun b hb => by
  show (w.heap.modify g.b _)[b]? = _
  rw [Array.getElem?_modify]
  split
  ·rename_i e; exact absurd e.symm hb
  ·rfl
 have hsz1 : w1.heap.size = w.heap.size := by
  show (w.heap.modify g.b _).size = _
  simp
 have hrun : (val (convert src src (.slice (some ⟨g.b, g.base, none⟩) es.length g.cap))).run P w = .ok (.value (.slice (some ⟨g.b, g.base, none⟩) es.length g.cap)) w1 := by
  have hsh : w.shape? g.b = some (ty, vs.size) := by simp [World.shape?, e1]
  refine val_run ?_
  simp [convert, run_underlying hs, run_underlying he, markStringish, hsh, Result.andThen, w1]
 have hne : ∀ (o' : Nat) (x : Ob), o' ≠ o → (σ.set o .dead)[o']? = σ[o']? := fun o' x h => List.getElem?_set_ne (Ne.symm h)
 obtain ⟨st, hI⟩ := change (w1 := w1) (σ1 := σ.set o .dead) (γ1 := γ) o I rfl rfl rfl (by omega)
  (fun o' h => ⟨List.getElem?_set_ne (Ne.symm h), rfl⟩) (by simp) (by simp [I.len])
  (fun b hb => by
   by_cases e : b = g.b
   ·subst e; exact .inr ⟨_, g, ho, hg, by simpa [owns] using hcap, rfl⟩
   ·exact .inl (hoth b e))
  (fun x g' h1 h2 h3 => by
   rw [List.getElem?_set_self (lt_of_get ho)] at h1
   simp at h1; subst h1; simp [owns] at h3)
  (fun x g' h1 h2 => by
   rw [ho] at h1; simp at h1; subst h1
   exact ⟨.dead, g', by rw [List.getElem?_set_self (lt_of_get ho)], h2, .kill _ _ _ _ _⟩)
 have I1 := hI (fun x g' h1 h2 => by
  rw [List.getElem?_set_self (lt_of_get ho)] at h1
  simp at h1; subst h1; trivial)
 refine ⟨_, w1, γ, .inl hrun, st, I1, .fz _ _ (.sl g.b g.base sz g.cap es (fun i j => (vs[g.base + i * sz + j]?).getD undef) ?_ k3 (by omega) ?_ ?_ ?_), Fr.set fun b _ _ _ => rfl⟩
 ·refine ⟨by omega, hb2, ?_⟩
  rintro ⟨o', x, g', h1, h2, h3, h4⟩
  by_cases e : o' = o
  ·subst e
   rw [List.getElem?_set_self (lt_of_get ho)] at h1
   simp at h1; subst h1; simp [owns] at h3
  ·rw [List.getElem?_set_ne (Ne.symm e)] at h1
   exact e (I.inj o' o x _ g' g h1 h2 h3 ho hg (by simpa [owns] using hcap) h4)
 ·intro i e hi j x hx
  obtain ⟨u, q1, q2, q3⟩ := e3 i e hi j x hx
  simp only [World.cell?, hw1, q1, Option.getD_some]
  rfl
 ·intro i e hi j x hx
  obtain ⟨u, q1, q2, q3⟩ := e3 i e hi j x hx
  exact q2
 ·intro i e hi j x hx
  obtain ⟨u, q1, q2, q3⟩ := e3 i e hi j x hx
  simp only [q1, Option.getD_some]
  exact q3.mono fun b hb => st.stab hb
theorem nilif_open {w : World} {F : Nat → Prop} {σ : St} {γ : List Gh} {u : Value} (hx : RS tab w F σ γ .nilif u) : u = .nilIface := by cases hx.frozen rfl; rfl
theorem iface_open {w : World} {F : Nat → Prop} {σ : St} {γ : List Gh} {t : Nat} {x : AV} {u : Value} (hx : RS tab w F σ γ (.iface t x) u) : ∃ v, u = .iface t v := by
 cases hx with
 | fz _ _ h => cases h; exact ⟨_, rfl⟩
 | iface => exact ⟨_, rfl⟩
theorem isnil_ok {w : World} {F : Nat → Prop} {base : Nat} {σ σ' : St} {γ : List Gh} {env : Env} {a : Act} {ng : Bool} {op : BinOp} {xt yt : TypeId} {x : Operand} {x' : Opd} {av : AV} {tt : Bool} {o : Oper} (ho : o.op = .binOp op xt x (.const .nilIface) yt) (I : Inv tab w F σ γ) (h0 : op = if ng then .neq else .eql)
  (h1 : (match P.underlying xt with | some (.interface _) => true | _ => false) = true) (hx : RS tab w F σ γ (ev env x') (a.eval x)) (h : step base (.isnil ng x') env σ = some (av, σ', tt)) :
  Done tab F base w σ γ ((execOp a.eval o).run P w) av σ' := by
 obtain ⟨dst, op0, ty, pos, after, guard⟩ := o
 simp only [] at ho; subst ho
 have ec : a.eval (Operand.const Value.nilIface) = .nilIface := rfl
 have hm : P.underlying xt = some (.interface (P.methodsAt xt)) := by
  unfold Program.methodsAt
  split at h1
  ·rename_i ms hu; rw [hu]
  ·exact absurd h1 (by simp)
 simp only [step] at h
 split at h
 ·rename_i hev
  simp at h; obtain ⟨rfl, rfl, _⟩ := h
  rw [hev] at hx
  have e := nilif_open hx
  refine done_same I (v := .bool (!ng)) ?_ (.fz _ _ (.bool _))
  subst h0
  cases ng
  ·simp [execOp, e, ec, eqGuard_nil_constR, run_eql_nil_nil w xt hm]
  ·simp [execOp, e, ec, eqGuard_nil_constR, run_neq_nil_nil w xt hm]
 ·rename_i t y hev
  simp at h; obtain ⟨rfl, rfl, _⟩ := h
  rw [hev] at hx
  obtain ⟨v, e⟩ := iface_open hx
  refine done_same I (v := .bool ng) ?_ (.fz _ _ (.bool _))
  subst h0
  cases ng
  ·simp [execOp, e, ec, eqGuard_at_iface, run_eql_held_nil w xt t v hm]
  ·simp [execOp, e, ec, eqGuard_at_iface, run_neq_held_nil w xt t v hm]
 ·exact absurd h (by simp)
theorem op_sound {o : Oper} {ao : AOp} (hc : chkOp P tab o.op ao = true) {base : Nat} {env : Env} {σ σ' : St} {av : AV} {tt : Bool} (h : step base ao env σ = some (av, σ', tt))
  {a : Act} {w : World} {F : Nat → Prop} {γ : List Gh} (I : Inv tab w F σ γ) (E : EnvOk tab w F σ γ env a.tmps) (hb : base ≤ σ.length) : Done tab F base w σ γ ((execOp a.eval o).run P w) av σ' := by
 obtain ⟨dst, op, ty, pos, after, guard⟩ := o
 simp only [] at hc
 unfold chkOp at hc
 split at hc
 -- move, assign
 ·simp [step] at h; obtain ⟨rfl, rfl, _⟩ := h
  exact done_same I (by simp [execOp]) (opd_ok E hc)
 ·simp [step] at h; obtain ⟨rfl, rfl, _⟩ := h
  exact done_same I (by simp [execOp]) (opd_ok E hc)
 ·rename_i x sz y
  exact movp_ok I hb (opd_ok E hc) h (by simp [execOp])
 ·rename_i x sz y
  exact movp_ok I hb (opd_ok E hc) h (by simp [execOp])
 ·-- pick
  simp only [Bool.and_eq_true] at hc
  obtain ⟨⟨h1, h2⟩, h3⟩ := hc
  simp only [step] at h
  split at h
  ·rename_i b hbv
   simp at h; obtain ⟨rfl, rfl, _⟩ := h
   have := opd_ok E h1
   rw [hbv] at this
   exact pick_ok I this (opd_ok E h2) (opd_ok E h3)
  ·exact absurd h (by simp)
 ·-- alloc
  rename_i t zs prs
  simp only [step] at h
  rw [Option.map_eq_some_iff] at h
  obtain ⟨⟨cs, s'⟩, hpr, he⟩ := h
  simp at he; obtain ⟨rfl, rfl, _⟩ := he
  exact allocp_ok I hb hc hpr
 ·-- box
  simp only [step] at h
  split at h
  ·rename_i hcs
   split at h
   ·split at h
    ·rename_i hn
     simp at h; obtain ⟨rfl, rfl, _⟩ := h
     exact box_ro_ok I (opd_ok E hc) hcs.2 hn
    ·exact absurd h (by simp)
   ·simp at h; obtain ⟨rfl, rfl, _⟩ := h
    exact box_ok I hb (opd_ok E hc) hcs.2
  ·exact absurd h (by simp)
 ·-- build
  rename_i t ps zs qs
  simp only [Bool.and_eq_true] at hc
  obtain ⟨⟨h1, h2⟩, h3⟩ := hc
  split at h3
  ·rename_i place hpl
   simp only [step] at h
   cases hf : fillParts env qs zs with
   | none => simp [hf] at h
   | some cs =>
    simp [hf] at h; obtain ⟨rfl, rfl, _⟩ := h
    have := build_ok (base := base) I E h1 h2 hpl h3 hf
    have e : (ps.toList.map fun (i, x) => (i, a.eval x)).toArray = ps.map fun (i, x) => (i, a.eval x) := mapArr _ _
    rw [e] at this
    exact this
  ·exact absurd h3 (by simp)
 ·-- buildp
  rename_i t ps zs qs prs
  simp only [Bool.and_eq_true] at hc
  obtain ⟨⟨h1, h2⟩, h3⟩ := hc
  split at h3
  ·rename_i place hpl
   simp only [step] at h
   cases hf : fillParts env qs zs with
   | none => simp [hf] at h
   | some cs =>
    simp only [hf] at h
    rw [Option.map_eq_some_iff] at h
    obtain ⟨⟨cs', s'⟩, hpr, he⟩ := h
    simp at he; obtain ⟨rfl, rfl, _⟩ := he
    have := build_ok (base := base) I E h1 h2 hpl h3 hf
    have e : (ps.toList.map fun (i, x) => (i, a.eval x)).toArray = ps.map fun (i, x) => (i, a.eval x) := mapArr _ _
    rw [e] at this
    obtain ⟨v, w1, γ1, hr, hs, hI, hv, hfr⟩ := this
    obtain ⟨γ2, s2, I2, hv2, f2⟩ := promos_ok (base := base) hI hb hv hpr
    exact ⟨v, w1, γ2, hr, hs.trans s2, I2, hv2, hfr.trans f2⟩
  ·exact absurd h3 (by simp)
 ·-- buildSlice
  rename_i t len ps pr sz zs len' qs
  simp only [Bool.and_eq_true, beq_iff_eq] at hc
  obtain ⟨⟨rfl, h1⟩, h2⟩ := hc
  simp only [step] at h
  cases hf : fillParts env (litParts sz qs) (zerosN zs len) with
  | none => simp [hf] at h
  | some cs =>
   simp only [hf, Option.bind_some] at h
   cases he : frzElems (chop sz len cs) with
   | none => simp [he] at h
   | some es =>
    simp only [he] at h
    have e : (ps.toList.map fun (i, x) => (i, a.eval x)).toArray = ps.map fun (i, x) => (i, a.eval x) := mapArr _ _
    split at h
    ·split at h
     ·simp at h; obtain ⟨rfl, rfl, _⟩ := h
      have := lit_pr_ok (base := base) I hb E h1 h2 hf he
      rw [e] at this
      exact this
     ·exact absurd h (by simp)
    ·simp at h; obtain ⟨rfl, rfl, _⟩ := h
     have := lit_ok (base := base) I E h1 h2 hf he
     rw [e] at this
     exact this
 ·-- load
  simp only [Bool.and_eq_true] at hc
  obtain ⟨⟨h1, h2⟩, h3⟩ := hc
  simp only [step] at h
  split at h
  ·rename_i cs t hd
   cases hf : front _ _ cs with
   | none => rw [hf] at h; simp at h
   | some v =>
    rw [hf] at h; simp at h; obtain ⟨rfl, rfl, _⟩ := h
    exact load_ok I h1 h2 (opd_ok E h3) hd hf
  ·exact absurd h (by simp)
 ·-- store
  simp only [Bool.and_eq_true] at hc
  obtain ⟨⟨h1, h2⟩, h3⟩ := hc
  have hx := opd_ok E h2
  have hy := opd_ok E h3
  simp only [step] at h
  split at h
  ·rename_i hcs
   split at h
   ·rename_i o off hev
    rw [hev] at hx
    split at h
    ·rename_i cs ho
     split at h
     ·rename_i hst
      simp at h; obtain ⟨rfl, rfl, _⟩ := h
      exact store_ref_ok I h1 hx hy hcs.1 hcs.2 ho hst.1 hst.2
     ·exact absurd h (by simp)
    ·exact absurd h (by simp)
   ·rename_i o ver n i off hev
    rw [hev] at hx
    split at h
    ·rename_i ver' sz' es ho
     split at h
     ·rename_i hv
      obtain ⟨rfl, hn⟩ := hv
      split at h
      ·rename_i e he
       split at h
       ·rename_i hle
        split at h
        ·rename_i zs hz
         simp at h; obtain ⟨rfl, rfl, _⟩ := h
         exact store_eref_ok I h1 hx hy hcs.1 hcs.2 ho hn he hle hz
        ·exact absurd h (by simp)
       ·exact absurd h (by simp)
      ·exact absurd h (by simp)
     ·exact absurd h (by simp)
    ·exact absurd h (by simp)
   ·exact absurd h (by simp)
  ·exact absurd h (by simp)
 ·-- storep
  rename_i t x y sz x' y' prs
  simp only [Bool.and_eq_true] at hc
  obtain ⟨⟨h1, h2⟩, h3⟩ := hc
  have hx := opd_ok E h2
  have hy := opd_ok E h3
  simp only [step] at h
  split at h
  ·rename_i ys hev
   rw [hev] at hy
   split at h
   ·rename_i ys' σ2 hp
    obtain ⟨γ2, s2, I2, hv2, f2⟩ := promos_ok (base := base) I hb hy hp
    have hl := promos_len hp
    split at h
    ·rename_i hcs
     split at h
     ·rename_i o off hev2
      rw [hev2] at hx
      have hx2 := RV.step s2 hx hx.under
      split at h
      ·rename_i cs ho
       split at h
       ·rename_i hst
        simp at h; obtain ⟨rfl, rfl, _⟩ := h
        obtain ⟨v, w', γ', hr, hs, hI, hv, hfr⟩ := store_ref_ok I2 h1 hx2 hv2 (by exact hcs.1) (by exact hcs.2) ho hst.1 hst.2
        exact ⟨v, w', γ', hr, s2.trans (hs.mono hl), hI, hv, f2.trans hfr⟩
       ·exact absurd h (by simp)
      ·exact absurd h (by simp)
     ·exact absurd h (by simp)
    ·exact absurd h (by simp)
   ·exact absurd h (by simp)
  ·exact absurd h (by simp)
 ·-- nilCheck
  rename_i x y
  have hx := opd_ok E hc
  simp only [step] at h
  split at h
  case h_5 => exact absurd h (by simp)
  all_goals
   rename_i hev
   simp at h; obtain ⟨rfl, rfl, _⟩ := h
   rw [hev] at hx
   exact nilchk_ok I rfl rfl hx rfl
 ·-- binOp
  rename_i op xt x y yt op' kd x' y'
  simp only [Bool.and_eq_true, decide_eq_true_eq] at hc
  obtain ⟨⟨⟨rfl, h1⟩, h2⟩, h3⟩ := hc
  simp only [step] at h
  cases hb' : bin op kd (ev env x') (ev env y') with
  | none => simp [hb'] at h
  | some v =>
   simp [hb'] at h; obtain ⟨rfl, rfl, _⟩ := h
   exact bin_ok I h1 (opd_ok E h2) (opd_ok E h3) hb' x y
 ·-- not
  rename_i op t x y
  simp only [Bool.and_eq_true, decide_eq_true_eq] at hc
  obtain ⟨rfl, h1⟩ := hc
  have hx := opd_ok E h1
  simp only [step] at h
  split at h
  ·rename_i b hev
   simp at h; obtain ⟨rfl, rfl, _⟩ := h
   rw [hev] at hx
   exact not_ok I hx
  ·exact absurd h (by simp)
 ·-- neg
  rename_i op t x bop kd z y
  simp only [Bool.and_eq_true, decide_eq_true_eq] at hc
  obtain ⟨⟨⟨rfl, rfl, rfl⟩, h2⟩, h1⟩ := hc
  have hx := opd_ok E h1
  simp only [step] at h
  cases z with
  | int k n =>
   rw [show ev env (.c (.int k n)) = .int k n from rfl] at h
   cases hy : ev env y with
   | int k' m =>
    rw [hy] at h hx
    have hn : n = 0 := by
     split at h2
     ·rename_i e; cases e; rfl
     ·exact absurd h2 (by simp)
    subst hn
    simp only [bin] at h
    split at h
    ·rename_i hk
     subst hk
     simp at h; obtain ⟨rfl, rfl, _⟩ := h
     have hv : a.eval x = .int k m := int_eq hx
     refine done_same I (v := .int k (k.wrap (-m))) ?_ (.fz _ _ (.int _ _))
     simp [execOp, hv, Op.unary, Op.intArith]
    ·exact absurd h (by simp)
   | _ => rw [hy] at h; simp [bin] at h
  | _ => exact absurd h2 (by simp)
 ·-- convert
  rename_i s d x k y
  simp only [Bool.and_eq_true] at hc
  obtain ⟨⟨h1, h2⟩, h3⟩ := hc
  have hx := opd_ok E h3
  obtain ⟨ds, hds⟩ := Option.isSome_iff_exists.1 h1
  split at h2
  ·rename_i k' hk
   have hk' : k' = k := by simpa using h2
   subst hk'
   simp only [step] at h
   split at h
   ·rename_i k0 n hev
    simp at h; obtain ⟨rfl, rfl, _⟩ := h
    rw [hev] at hx
    exact convi_ok I hds hk hx
   ·exact absurd h (by simp)
  ·exact absurd h2 (by simp)
 ·-- fieldAddr
  rename_i s x f off y
  simp only [Bool.and_eq_true] at hc
  obtain ⟨h1, h2⟩ := hc
  have hx := opd_ok E h2
  simp only [step] at h
  split at h
  ·rename_i cs hev
   rw [hev] at hx
   split at h
   ·rename_i hle
    simp at h; obtain ⟨rfl, rfl, _⟩ := h
    exact fld_ok I h1 hx (by simp [hle])
   ·exact absurd h (by simp)
  ·rename_i o g hev
   rw [hev] at hx
   simp at h; obtain ⟨rfl, rfl, _⟩ := h
   exact fld_ok I h1 hx rfl
  ·rename_i o v n i g hev
   rw [hev] at hx
   simp at h; obtain ⟨rfl, rfl, _⟩ := h
   exact fld_ok I h1 hx rfl
  ·exact absurd h (by simp)
 ·-- field
  rename_i s x f ag off sz y
  simp only [Bool.and_eq_true] at hc
  obtain ⟨h1, h2⟩ := hc
  have hx := opd_ok E h2
  simp only [step] at h
  split at h
  ·rename_i cs hev
   rw [hev] at hx
   cases hf : front ag sz (cs.drop off) with
   | none => simp [hf] at h
   | some v =>
    simp [hf] at h; obtain ⟨rfl, rfl, _⟩ := h
    exact field_ok I h1 hx hf
  ·exact absurd h (by simp)
 ·-- indexAddr of a slice
  rename_i t x i sz y j
  simp only [Bool.and_eq_true] at hc
  obtain ⟨⟨h1, h2⟩, h3⟩ := hc
  have hx := opd_ok E h2
  have hi := opd_ok E h3
  split at h1
  ·rename_i e he
   have hu := elemB_ok he
   simp only [step] at h
   split at h
   ·rename_i es k n hev hei
    rw [hev] at hx
    rw [hei] at hi
    split at h
    ·rename_i h0
     split at h
     ·rename_i el hel
      split at h
      ·rename_i hl
       simp at h; obtain ⟨rfl, rfl, _⟩ := h
       exact idxa_sl I hu h1 hx hi h0 hel hl
      ·exact absurd h (by simp)
     ·exact absurd h (by simp)
    ·exact absurd h (by simp)
   ·rename_i o ver n off len k i' hev hei
    rw [hev] at hx
    rw [hei] at hi
    split at h
    ·rename_i ver' sz' es ho
     split at h
     ·rename_i hcnd
      obtain ⟨rfl, hn, rfl, h0, hl, hle⟩ := hcnd
      simp at h; obtain ⟨rfl, rfl, _⟩ := h
      exact idxa_osl I hu h1 hx hi h0 ho hn hl hle
     ·exact absurd h (by simp)
    ·exact absurd h (by simp)
   ·exact absurd h (by simp)
  ·exact absurd h1 (by simp)
 ·-- indexAddr of an array
  rename_i t x i len sz y j
  simp only [Bool.and_eq_true] at hc
  obtain ⟨⟨h1, h2⟩, h3⟩ := hc
  have hx := opd_ok E h2
  have hi := opd_ok E h3
  simp only [step] at h
  split at h
  ·rename_i cs k n hev hei
   rw [hev] at hx
   rw [hei] at hi
   split at h
   ·rename_i hcnd
    simp at h; obtain ⟨rfl, rfl, _⟩ := h
    exact idxarr_ok I h1 hx hi (by simp [hcnd])
   ·exact absurd h (by simp)
  ·rename_i o f k n hev hei
   rw [hev] at hx
   rw [hei] at hi
   split at h
   ·rename_i hcnd
    simp at h; obtain ⟨rfl, rfl, _⟩ := h
    exact idxarr_ok I h1 hx hi (by simp [hcnd])
   ·exact absurd h (by simp)
  ·exact absurd h (by simp)
 ·-- index
  rename_i t x i y j
  simp only [Bool.and_eq_true] at hc
  obtain ⟨⟨h1, h2⟩, h3⟩ := hc
  have hx := opd_ok E h2
  have hi := opd_ok E h3
  split at h1
  ·rename_i hu
   simp only [step] at h
   split at h
   ·rename_i s k n hev hei
    rw [hev] at hx
    rw [hei] at hi
    split at h
    ·rename_i h0
     split at h
     ·rename_i b hbt
      simp at h; obtain ⟨rfl, rfl, _⟩ := h
      exact index_str I hu hx hi h0 hbt
     ·exact absurd h (by simp)
    ·exact absurd h (by simp)
   ·exact absurd h (by simp)
  ·exact absurd h1 (by simp)
 ·-- extract
  rename_i x i y j
  simp only [Bool.and_eq_true, beq_iff_eq] at hc
  obtain ⟨rfl, h1⟩ := hc
  have hx := opd_ok E h1
  simp only [step] at h
  split at h
  ·rename_i vs hev
   rw [hev] at hx
   cases hv : vs[i]? with
   | none => simp [hv] at h
   | some v =>
    simp [hv] at h; obtain ⟨rfl, rfl, _⟩ := h
    exact extract_ok I hx hv
  ·exact absurd h (by simp)
 ·-- slice of a slice
  rename_i t x lo hi mx sz y lo' hi' mx'
  simp only [Bool.and_eq_true] at hc
  obtain ⟨⟨⟨⟨⟨h1, h2⟩, h3⟩, h4⟩, h5⟩, h6⟩ := hc
  have hx := opd_ok E h2
  split at h1
  ·rename_i e he
   have hu := elemB_ok he
   simp only [step] at h
   split at h
   ·-- nil
    rename_i hev
    rw [hev] at hx
    obtain ⟨p, hp⟩ := nils_open hx
    split at h
    ·rename_i hl1 hl2 hl3
     simp at h; obtain ⟨rfl, rfl, _⟩ := h
     have hres : (val (Instr.sliceAt t (a.eval x) (lo.map a.eval) (hi.map a.eval) (mx.map a.eval))).run P w = .ok (.value (.slice p 0 0)) w := by
      cases mx with
      | none =>
       have r := bounds_run (P := P) (sl := true) (cap := 0) E h3 h4 hl1 hl2 (Nat.le_refl _) (Nat.le_refl _)
       refine val_run ?_
       rw [hp, Option.map_none, slice_run hu h1 r]
       simp
      | some m =>
       cases mx' with
       | none => simp [chkO] at h5
       | some m' =>
        have r := bounds_run3 (P := P) (sl := true) (len := 0) (cap := 0) E h3 h4 (by simpa [chkO] using h5) (by simpa using h6) hl1 hl2 hl3 (Nat.le_refl _) (Nat.le_refl _) (Nat.le_refl _)
        refine val_run ?_
        rw [hp]
        rw [show (Option.map a.eval (some m)) = some (a.eval m) from rfl, slice_run hu h1 r]
        simp
     exact done_same I hres (.fz _ _ (.nils p))
    ·exact absurd h (by simp)
   ·rename_i es hev
    rw [hev] at hx
    obtain ⟨p, cap, hp, hcap⟩ := sl_open hx
    rw [hp] at hx
    split at h
    ·rename_i l hh hl1 hl2
     split at h
     ·rename_i hle
      obtain ⟨q1, q2, q3⟩ := hle
      split at h
      ·rename_i hmx
       simp at h; obtain ⟨rfl, rfl, _⟩ := h
       cases mx with
       | some m => simp [chkO] at h5
       | none =>
        have r := bounds_run (P := P) (sl := true) (cap := cap) E h3 h4 hl1 hl2 q1 (by omega)
        exact done_same I (val_run (by rw [hp]; exact slice_run hu h1 r)) (slice_sl hx q3 q1 q2 (by omega))
      ·rename_i m' hmx
       split at h
       ·rename_i mv hmv
        split at h
        ·rename_i hle2
         simp at h; obtain ⟨rfl, rfl, _⟩ := h
         cases mx with
         | none => simp [chkO] at h5
         | some m =>
          have r := bounds_run3 (P := P) (sl := true) (len := es.length) (cap := cap) E h3 h4 (by simpa [chkO] using h5) (by simpa using h6) hl1 hl2 hmv q1 hle2.1 (by omega)
          refine done_same I (val_run (by rw [hp]; exact slice_run hu h1 r)) ?_
          by_cases hlm : l = mv
          ·subst hlm
           have : hh = l := by omega
           subst this
           simp
           exact .fz _ _ (.nils _)
          ·rw [if_neg hlm]
           exact slice_sl hx q3 q1 q2 hle2.1
        ·exact absurd h (by simp)
       ·exact absurd h (by simp)
     ·exact absurd h (by simp)
    ·exact absurd h (by simp)
   ·rename_i o ver n off len hev
    rw [hev] at hx
    split at h
    ·rename_i ver' sz' es ho
     split at h
     ·rename_i hcnd
      obtain ⟨rfl, hn, rfl, hle⟩ := hcnd
      split at h
      ·rename_i l hh hl1 hl2
       split at h
       ·rename_i hlh
        simp at h; obtain ⟨rfl, rfl, _⟩ := h
        cases mx with
        | some m => simp [chkO] at h5
        | none => exact slice_osl I hu h1 hx ho hn hle hlh.1 hlh.2 (fun cap hc => bounds_run (P := P) (sl := true) E h3 h4 hl1 hl2 hlh.1 hc)
       ·exact absurd h (by simp)
      ·exact absurd h (by simp)
     ·exact absurd h (by simp)
    ·exact absurd h (by simp)
   ·exact absurd h (by simp)
  ·exact absurd h1 (by simp)
 ·-- slice of a string
  rename_i t x lo hi mx y lo' hi'
  simp only [Bool.and_eq_true] at hc
  obtain ⟨⟨⟨⟨h1, h2⟩, h3⟩, h4⟩, h5⟩ := hc
  have hx := opd_ok E h2
  split at h1
  ·rename_i hu
   simp only [step] at h
   split at h
   ·rename_i s hev
    rw [hev] at hx
    split at h
    ·rename_i l hh hl1 hl2
     split at h
     ·rename_i hle
      simp at h; obtain ⟨rfl, rfl, _⟩ := h
      cases mx with
      | some m => simp at h5
      | none => exact slice_str I E hu hx h3 h4 hl1 hl2 hle.1 hle.2
     ·exact absurd h (by simp)
    ·exact absurd h (by simp)
   ·exact absurd h (by simp)
  ·exact absurd h1 (by simp)
 ·-- makeMap
  rename_i t r r'
  simp only [Bool.and_eq_true] at hc
  obtain ⟨h1, h2⟩ := hc
  obtain ⟨kt, e, hu⟩ : ∃ kt e, P.underlying t = some (.map kt e) := by
   split at h2
   ·rename_i kt e hu; exact ⟨kt, e, hu⟩
   ·exact absurd h2 (by simp)
  simp only [step] at h
  split at h
  ·rename_i n hbd
   simp at h; obtain ⟨rfl, rfl, _⟩ := h
   refine mkmap_ok I hb fun v hv => ⟨?_, kt, e, hu⟩
   cases r with
   | none => simp at hv
   | some x =>
    simp at hv; subst hv
    cases r' with
    | none => simp [chkO] at h1
    | some x' =>
     have hx := opd_ok E (show chkOpd tab x x' = true from h1)
     simp only [bound] at hbd
     split at hbd
     ·rename_i k i hev
      rw [hev] at hx
      exact ⟨k, i, int_eq hx⟩
     ·exact absurd hbd (by simp)
  ·exact absurd h (by simp)
 ·-- lookup
  rename_i t x i ok ag ks z ok' y j
  simp only [Bool.and_eq_true, beq_iff_eq] at hc
  obtain ⟨⟨⟨⟨h1, h2⟩, rfl⟩, h3⟩, h4⟩ := hc
  simp only [step] at h
  split at h
  ·rename_i es t' hm
   split at h
   ·rename_i hk
    split at h
    ·rename_i v hf
     simp at h; obtain ⟨rfl, rfl, _⟩ := h
     exact lookup_ok I h1 h2 (opd_ok E h3) (opd_ok E h4) hm hk hf ok
    ·rename_i hf
     simp at h; obtain ⟨rfl, rfl, _⟩ := h
     exact lookup_ok I h1 h2 (opd_ok E h3) (opd_ok E h4) hm hk hf ok
    ·exact absurd h (by simp)
   ·exact absurd h (by simp)
  ·exact absurd h (by simp)
 ·-- mapUpdate
  simp only [Bool.and_eq_true] at hc
  obtain ⟨⟨⟨h1, h2⟩, h3⟩, h4⟩ := hc
  exact mapupd_all I h1 (opd_ok E h2) (opd_ok E h3) (opd_ok E h4) h
 ·-- insert
  simp only [Bool.and_eq_true] at hc
  obtain ⟨⟨⟨h1, h2⟩, h3⟩, h4⟩ := hc
  exact mapupd_all I h1 (opd_ok E h2) (opd_ok E h3) (opd_ok E h4) h
 ·-- bad
  simp [step] at h
 ·-- tostr
  rename_i sT d x y
  simp only [Bool.and_eq_true] at hc
  obtain ⟨h1, h2⟩ := hc
  have hx := opd_ok E h2
  simp only [step] at h
  split at h
  ·rename_i ys t hys
   obtain ⟨l, hl, e⟩ := Option.map_eq_some_iff.1 h
   cases e
   split at h1
   ·rename_i e he hd
    split at h1
    ·rename_i hu
     exact tostr_ok I (elemB_ok he) hu hd hx hys hl
    ·exact absurd h1 (by simp)
   ·exact absurd h1 (by simp)
  ·exact absurd h (by simp)
 ·-- tobytes
  rename_i sT d x y
  simp only [Bool.and_eq_true] at hc
  obtain ⟨h1, h2⟩ := hc
  have hx := opd_ok E h2
  simp only [step] at h
  split at h
  ·rename_i s hev
   simp at h; obtain ⟨rfl, rfl, _⟩ := h
   rw [hev] at hx
   split at h1
   ·rename_i e hs he
    split at h1
    ·rename_i hu
     exact tobytes_ok I hs (elemB_ok he) hu hx
    ·exact absurd h1 (by simp)
   ·exact absurd h1 (by simp)
  ·exact absurd h (by simp)
 ·-- movo
  rename_i x d y
  have hx := opd_ok E hc
  simp only [step] at h
  split at h
  ·rename_i o1 _ _ _ _ o2 v2 n off len hev0 hev
   rw [hev] at hx
   split at h
   ·rename_i w1 sz1 es1 w2 sz2 es h1 h2
    split at h
    ·rename_i hcond
     obtain ⟨hne, rfl, rfl, rfl, hl⟩ := hcond
     simp at h; obtain ⟨rfl, rfl, _⟩ := h
     exact movo_ok I hx h1 h2 hne hl (by simp [execOp])
    ·exact absurd h (by simp)
   ·exact absurd h (by simp)
  ·exact absurd h (by simp)
 ·-- mark
  rename_i sT d x y
  simp only [Bool.and_eq_true, beq_iff_eq] at hc
  obtain ⟨⟨rfl, h1⟩, h2⟩ := hc
  have hx := opd_ok E h2
  simp only [step] at h
  split at h1
  ·rename_i e he
   split at h1
   ·rename_i hu
    split at h
    ·rename_i o ver n off len hev
     rw [hev] at hx
     split at h
     ·rename_i ver' sz es ho
      split at h
      ·rename_i hc
       obtain ⟨rfl, rfl, rfl, rfl, h0⟩ := hc
       simp at h; obtain ⟨rfl, rfl, _⟩ := h
       exact mark_ok I (elemB_ok he) hu hx ho h0
      ·exact absurd h (by simp)
     ·exact absurd h (by simp)
    ·exact absurd h (by simp)
   ·exact absurd h1 (by simp)
  ·exact absurd h1 (by simp)
 ·-- isnil
  rename_i op xt x y yt ng x'
  simp only [Bool.and_eq_true, decide_eq_true_eq] at hc
  obtain ⟨⟨⟨h0, h1⟩, h2⟩, h3⟩ := hc
  split at h3
  case h_2 => exact absurd h3 (by simp)
  have hx := opd_ok E h2
  exact isnil_ok rfl I h0 h1 hx h
 ·-- gload
  rename_i t x ag sz g
  simp only [Bool.and_eq_true] at hc
  obtain ⟨⟨h1, h2⟩, h3⟩ := hc
  split at h1
  ·rename_i g'
   have e : g' = g := by simpa using h1
   subst e
   simp only [step] at h
   split at h
   ·rename_i gs hgs
    rw [Option.map_eq_some_iff] at h
    obtain ⟨v, hv, he⟩ := h
    simp at he; obtain ⟨rfl, rfl, _⟩ := he
    exact load_ok I h2 h3 (x := .rptr (gs.map GC.av)) (.fz _ _ ((I.gl g').1 gs hgs).1) rfl hv
   ·exact absurd h (by simp)
  ·exact absurd h1 (by simp)
 ·-- makeSlice
  rename_i t l c sz bytes zs l' c'
  simp only [Bool.and_eq_true] at hc
  obtain ⟨⟨h1, h2⟩, h3⟩ := hc
  have q2 := opd_ok E h2
  have q3 := opd_ok E h3
  simp only [step] at h
  split at h
  ·rename_i kl lv kc cv hel hec
   rw [hel] at q2
   rw [hec] at q3
   split at h
   ·rename_i hcond
    split at h
    ·rename_i z hz
     simp at h; obtain ⟨rfl, rfl, _⟩ := h
     exact mksl_ok I hb h1 q2 q3 hcond.1 hcond.2.1 hcond.2.2.1 hcond.2.2.2 hz
    ·exact absurd h (by simp)
   ·exact absurd h (by simp)
  ·exact absurd h (by simp)
 ·-- makeInterface
  rename_i t x t' y
  simp only [Bool.and_eq_true, beq_iff_eq] at hc
  obtain ⟨⟨rfl, h1⟩, h2⟩ := hc
  simp only [step] at h
  split at h
  ·rename_i hn
   simp at h; obtain ⟨rfl, rfl, _⟩ := h
   exact done_same I (by simp [execOp, run_mkif h2]) (.fz _ _ (.iface _ _ _ ((opd_ok E h1).frozen hn)))
  ·exact absurd h (by simp)
 ·-- makeFunc
  rename_i g first caps f caps'
  simp only [Bool.and_eq_true, beq_iff_eq] at hc
  obtain ⟨⟨rfl, h1⟩, h2⟩ := hc
  have h1' : first = #[] := by simpa using h1
  subst h1'
  simp only [step] at h
  split at h
  ·rename_i hs
   simp at h; obtain ⟨rfl, rfl, _⟩ := h
   have := mkfn_ok (P := P) (base := base) (f := f) I E h2 hs
   rw [mapArr] at this
   have e : execOp a.eval ⟨dst, .makeFunc (.func (tab f)) #[] caps, ty, pos, after, guard⟩ = val (Instr.makeFunc (.func (tab f)) #[] (caps.map a.eval)) := by simp [execOp, val]
   rw [e]
   exact this
  ·exact absurd h (by simp)
 ·-- len
  rename_i c str y
  split at hc
  ·rename_i x t hca hcx hct
   simp only [Bool.and_eq_true] at hc
   obtain ⟨h1, h2⟩ := hc
   have hx := opd_ok E h1
   have hexec : execOp a.eval ⟨dst, .call c, ty, pos, after, guard⟩ = val (Builtin.len_ #[t] ty #[a.eval x]) := by
    have e1 := toArr hcx
    have e2 := toArr hct
    simp [execOp, resolve, hca, e1, e2, invoke, builtin, val]
   rw [hexec]
   simp only [step] at h
   split at h2
   ·rename_i hu
    subst h2
    simp only [if_true] at h
    split at h
    ·rename_i s hev
     simp at h; obtain ⟨rfl, rfl, _⟩ := h
     rw [hev] at hx
     exact len_str I hu hx
    ·exact absurd h (by simp)
   ·rename_i e hu
    simp at h2; subst h2
    simp only [Bool.false_eq_true, if_false] at h
    cases he : elems σ (ev env y) with
    | none => simp [he] at h
    | some r =>
     simp [he] at h; obtain ⟨rfl, rfl, _⟩ := h
     exact len_elems I hu hx he
   ·exact absurd h2 (by simp)
  ·exact absurd hc (by simp)
 ·-- append
  rename_i c pr sz bytes y z
  split at hc
  ·rename_i x x' t t' hca hcx hct
   simp only [Bool.and_eq_true] at hc
   obtain ⟨⟨h1, h2⟩, h3⟩ := hc
   have hx := opd_ok E h1
   have hy := opd_ok E h2
   have hexec : execOp a.eval ⟨dst, .call c, ty, pos, after, guard⟩ = val (Builtin.append_ #[t, t'] ty #[a.eval x, a.eval x']) := by
    have e1 := toArr hcx
    have e2 := toArr hct
    simp [execOp, resolve, hca, e1, e2, invoke, builtin, val]
   rw [hexec]
   simp only [step] at h
   split at h
   ·exact absurd h (by simp)
   ·rename_i ys tt' hys
    split at h
    ·rename_i hsz
     obtain ⟨hsz, h0⟩ := hsz
     have hsrc : Src P tab w (Stab w F σ γ) sz (a.eval x') ys := by
      unfold srcOf at hys
      split at hys
      ·rename_i s hev
       split at hys
       ·rename_i h1s
        simp at hys; obtain ⟨rfl, _⟩ := hys
        subst h1s
        rw [hev] at hy
        rw [str_eq hy]
        exact src_str s
       ·exact absurd hys (by simp)
      ·exact src_elems I hy hys h0 hsz
     split at h
     ·rename_i hev
      rw [hev] at hx
      split at h
      ·rename_i hbb
       obtain ⟨q1, q2⟩ := append_nils (base := base) (ty := ty) I h3 hx hsrc h0 hsz hbb
       split at h
       ·simp at h; obtain ⟨rfl, rfl, _⟩ := h
        exact q2 hb
       ·simp at h; obtain ⟨rfl, rfl, _⟩ := h
        exact q1
      ·exact absurd h (by simp)
     ·rename_i o ver n off len hev
      rw [hev] at hx
      split at h
      ·rename_i ver' sz' es ho
       split at h
       ·rename_i hcnd
        obtain ⟨rfl, hn, rfl, hle, hbb⟩ := hcnd
        split at h
        ·rename_i hfull
         obtain ⟨rfl, rfl⟩ := hfull
         simp at h; obtain ⟨rfl, rfl, _⟩ := h
         exact append_osl I h3 hx ho hn hle hsrc hsz hbb (by rw [List.drop_zero, List.take_of_length_le (by omega)]) (.inl ⟨rfl, rfl, rfl⟩)
        ·simp at h; obtain ⟨rfl, rfl, _⟩ := h
         exact append_osl I h3 hx ho hn hle hsrc hsz hbb (by simp) (.inr rfl)
       ·exact absurd h (by simp)
      ·exact absurd h (by simp)
     ·exact absurd h (by simp)
    ·exact absurd h (by simp)
  ·exact absurd hc (by simp)
 ·-- clear
  rename_i c sz zs y
  split at hc
  ·rename_i x t hca hcx hct
   simp only [Bool.and_eq_true] at hc
   obtain ⟨h1, h2⟩ := hc
   have hx := opd_ok E h1
   have hexec : execOp a.eval ⟨dst, .call c, ty, pos, after, guard⟩ = val (Builtin.clear_ #[t] ty #[a.eval x]) := by
    have e1 := toArr hcx
    have e2 := toArr hct
    simp [execOp, resolve, hca, e1, e2, invoke, builtin, val]
   rw [hexec]
   simp only [step] at h
   have none_ok : ∀ (a' : Option Addr) (cap : Nat), a.eval x = .slice a' 0 cap → Done tab F base w σ γ ((val (Builtin.clear_ #[t] ty #[a.eval x])).run P w) (.tup []) σ := by
    intro a' cap e
    rw [e]
    refine done_same I (val_run ?_) (.fz _ _ (.tup [] [] rfl (by simp)))
    have ht : ∃ e, P.underlying t = some (.slice e) := by
     unfold clearB at h2
     cases he : elemB P t with
     | none => simp [he] at h2
     | some e => exact ⟨e, elemB_ok he⟩
    obtain ⟨e, ht⟩ := ht
    simp only [Builtin.clear_, List.getElem?_toArray, List.getElem?_cons_zero, Sem.run_bind, run_underlying ht, Result.andThen_ok]
    cases a' <;> rfl
   split at h
   ·rename_i hev
    simp at h; obtain ⟨rfl, rfl, _⟩ := h
    rw [hev] at hx
    obtain ⟨a', e⟩ := nils_open hx
    exact none_ok a' 0 e
   ·rename_i hev
    simp at h; obtain ⟨rfl, rfl, _⟩ := h
    rw [hev] at hx
    obtain ⟨a', cap, e, _⟩ := sl_open hx
    exact none_ok a' cap e
   ·rename_i o ver n off len hev
    rw [hev] at hx
    split at h
    ·rename_i ver' sz' es ho
     split at h
     ·rename_i hp
      obtain ⟨rfl, hn, rfl, hz, hle⟩ := hp
      split at h
      ·rename_i z hf
       simp at h; obtain ⟨rfl, rfl, _⟩ := h
       have := clear_osl (base := base) (ty := ty) I h2 hx ho hn hz hle hf
       rw [List.append_assoc] at this
       exact this
      ·exact absurd h (by simp)
     ·exact absurd h (by simp)
    ·exact absurd h (by simp)
   ·exact absurd h (by simp)
  ·exact absurd hc (by simp)
 ·-- copy
  rename_i c sz y z
  split at hc
  ·rename_i x x' t t' hca hcx hct
   simp only [Bool.and_eq_true] at hc
   obtain ⟨⟨h1, h2⟩, h3⟩ := hc
   have hx := opd_ok E h1
   have hy := opd_ok E h2
   have hexec : execOp a.eval ⟨dst, .call c, ty, pos, after, guard⟩ = val (Builtin.copy_ #[t, t'] ty #[a.eval x, a.eval x']) := by
    have e1 := toArr hcx
    have e2 := toArr hct
    simp [execOp, resolve, hca, e1, e2, invoke, builtin, val]
   rw [hexec]
   cases he : elemB P t with
   | none => simp [he] at h3
   | some e =>
   simp only [he, Bool.and_eq_true, decide_eq_true_eq] at h3
   obtain ⟨h3, h0⟩ := h3
   simp only [step] at h
   split at h
   ·rename_i o ver n off len hev
    rw [hev] at hx
    split at h
    ·rename_i ver' sz' es ys tt ho hys
     split at h
     ·rename_i hp
      obtain ⟨rfl, hn, rfl, hle, hl, hsz⟩ := hp
      have hsz := (szOKb_iff _ _).1 hsz
      simp at h; obtain ⟨rfl, rfl, _⟩ := h
      have hsrc : Src P tab w (Stab w F σ γ) sz' (a.eval x') ys := by
       unfold srcOf at hys
       split at hys
       ·rename_i s hev
        split at hys
        ·rename_i h1s
         simp at hys; obtain ⟨rfl, _⟩ := hys
         subst h1s
         rw [hev] at hy
         rw [str_eq hy]
         exact src_str s
        ·exact absurd hys (by simp)
       ·exact src_elems I hy hys h0 hsz
      have := copy_osl (base := base) (t2 := t') (ty := ty) I (elemB_ok he) h3 hx ho hn hle hsrc.len hsrc.cells (Nat.min_eq_left hl) hsz hl h0
      rw [List.append_assoc] at this
      exact this
     ·split at h
      ·rename_i hp
       obtain ⟨rfl, hn, rfl, hle, hsz, hl⟩ := hp
       have hsz := (szOKb_iff _ _).1 hsz
       simp at h; obtain ⟨rfl, rfl, _⟩ := h
       have hsrc : Src P tab w (Stab w F σ γ) sz' (a.eval x') ys := by
        unfold srcOf at hys
        split at hys
        ·rename_i s hev
         split at hys
         ·rename_i h1s
          simp at hys; obtain ⟨rfl, _⟩ := hys
          subst h1s
          rw [hev] at hy
          rw [str_eq hy]
          exact src_str s
         ·exact absurd hys (by simp)
        ·exact src_elems I hy hys h0 hsz
       have hcl : SrcC P tab w (Stab w F σ γ) sz' (a.eval x') (ys.take len) := by
        unfold srcOf at hys
        split at hys
        ·rename_i s hev
         split at hys
         ·rename_i h1s
          simp at hys; obtain ⟨rfl, _⟩ := hys
          subst h1s
          rw [hev] at hy
          rw [str_eq hy]
          exact take_str s len (by simp at hl; omega)
         ·exact absurd hys (by simp)
        ·exact take_elems I hy hys h0 hsz len
       have hl2 : (ys.take len).length = len := by rw [List.length_take]; omega
       have := copy_osl (base := base) (t2 := t') (ty := ty) I (elemB_ok he) h3 hx ho hn hle hsrc.len hcl (by rw [hl2]; exact Nat.min_eq_right (by omega)) (fun e he => hsz e (List.mem_of_mem_take he)) (by omega) h0
       rw [List.append_assoc, hl2] at this
       exact this
      ·exact absurd h (by simp)
    ·exact absurd h (by simp)
   ·exact absurd h (by simp)
  ·exact absurd hc (by simp)
 ·-- min
  rename_i c y z
  split at hc
  ·rename_i x x' hca hcx
   simp only [Bool.and_eq_true] at hc
   obtain ⟨h1, h2⟩ := hc
   have hx := opd_ok E h1
   have hy := opd_ok E h2
   have hexec : execOp a.eval ⟨dst, .call c, ty, pos, after, guard⟩ = val (Builtin.min_ c.argTypes ty #[a.eval x, a.eval x']) := by
    have e1 := toArr hcx
    simp [execOp, resolve, hca, e1, invoke, builtin, val]
   rw [hexec]
   simp only [step] at h
   split at h
   ·rename_i k n k' n' hev hev'
    split at h
    ·rename_i e
     subst e
     simp at h; obtain ⟨rfl, rfl, _⟩ := h
     rw [hev] at hx
     rw [hev'] at hy
     exact (minmax_ok I hx hy).1
    ·exact absurd h (by simp)
   ·exact absurd h (by simp)
  ·exact absurd hc (by simp)
 ·-- three
  rename_i c mx y z q
  split at hc
  ·rename_i bt x x' x'' hca hcx
   simp only [Bool.and_eq_true, decide_eq_true_eq] at hc
   obtain ⟨⟨⟨h0, h1⟩, h2⟩, h3⟩ := hc
   have hx := opd_ok E h1
   have hy := opd_ok E h2
   have hz := opd_ok E h3
   have e1 := toArr hcx
   simp only [step] at h
   split at h
   ·rename_i k n k' n' k'' n'' hev hev' hev''
    split at h
    ·rename_i e
     obtain ⟨rfl, rfl⟩ := e
     simp at h; obtain ⟨rfl, rfl, _⟩ := h
     rw [hev] at hx
     rw [hev'] at hy
     rw [hev''] at hz
     cases mx with
     | true =>
      have hexec : execOp a.eval ⟨dst, .call c, ty, pos, after, guard⟩ = val (Builtin.max_ c.argTypes ty #[a.eval x, a.eval x', a.eval x'']) := by
       simp [execOp, resolve, hca, h0, e1, invoke, builtin, val]
      rw [hexec]
      exact (mm3_ok I hx hy hz).2
     | false =>
      have hexec : execOp a.eval ⟨dst, .call c, ty, pos, after, guard⟩ = val (Builtin.min_ c.argTypes ty #[a.eval x, a.eval x', a.eval x'']) := by
       simp [execOp, resolve, hca, h0, e1, invoke, builtin, val]
      rw [hexec]
      exact (mm3_ok I hx hy hz).1
    ·exact absurd h (by simp)
   ·exact absurd h (by simp)
  ·exact absurd hc (by simp)
 ·-- max
  rename_i c y z
  split at hc
  ·rename_i x x' hca hcx
   simp only [Bool.and_eq_true] at hc
   obtain ⟨h1, h2⟩ := hc
   have hx := opd_ok E h1
   have hy := opd_ok E h2
   have hexec : execOp a.eval ⟨dst, .call c, ty, pos, after, guard⟩ = val (Builtin.max_ c.argTypes ty #[a.eval x, a.eval x']) := by
    have e1 := toArr hcx
    simp [execOp, resolve, hca, e1, invoke, builtin, val]
   rw [hexec]
   simp only [step] at h
   split at h
   ·rename_i k n k' n' hev hev'
    split at h
    ·rename_i e
     subst e
     simp at h; obtain ⟨rfl, rfl, _⟩ := h
     rw [hev] at hx
     rw [hev'] at hy
     exact (minmax_ok I hx hy).2
    ·exact absurd h (by simp)
   ·exact absurd h (by simp)
  ·exact absurd hc (by simp)
 ·unfold chkZ at hc
  split at hc
  ·-- boxz
   rename_i t x t' y
   simp only [Bool.and_eq_true, beq_iff_eq] at hc
   obtain ⟨rfl, h2⟩ := hc
   simp only [step] at h
   split at h
   ·simp at h; obtain ⟨rfl, rfl, _⟩ := h
    exact boxz_ok I
   ·exact absurd h (by simp)
  ·-- fldz
   rename_i s x f t y
   simp only [Bool.and_eq_true, beq_iff_eq] at hc
   obtain ⟨⟨rfl, h1⟩, h2⟩ := hc
   have hx := opd_ok E h2
   simp only [step] at h
   split at h
   ·rename_i t' hev
    split at h
    ·rename_i ht
     subst ht
     simp at h; obtain ⟨rfl, rfl, _⟩ := h
     rw [hev] at hx
     exact fldz_ok I h1 hx
    ·exact absurd h (by simp)
   ·exact absurd h (by simp)
  ·exact absurd hc (by simp)
theorem slot_shape {base : Nat} {op : AOp} {env : Env} {σ σ1 : St} {v : AV} {t : Bool} (hs : slotable op = true) (h : step base op env σ = some (v, σ1, t)) (hl : σ1.length ≠ σ.length) :
  ∃ ob, σ1 = σ ++ [ob] ∧ (v = .ref σ.length 0 ∨ ∃ n, v = .osl σ.length 0 n 0 n) := by
 cases op <;> simp only [slotable] at hs <;> first | (exact absurd hs (by decide)) | skip
 case alloc zs prs =>
  have : prs = [] := by simpa using hs
  subst this
  simp only [step, promos, Option.map_some, Option.some.injEq, Prod.mk.injEq] at h
  obtain ⟨rfl, rfl, _⟩ := h
  exact ⟨_, rfl, .inl rfl⟩
 case box ro sz x =>
  have : ro = false := by simpa using hs
  subst this
  simp only [step] at h
  split at h
  ·simp at h; obtain ⟨rfl, rfl, _⟩ := h
   exact ⟨_, rfl, .inl rfl⟩
  ·exact absurd h (by simp)
 case lit pr sz zs len ps =>
  subst hs
  simp only [step] at h
  split at h
  ·simp only [if_true] at h
   split at h
   ·simp at h; obtain ⟨rfl, rfl, _⟩ := h
    exact ⟨_, rfl, .inr ⟨_, rfl⟩⟩
   ·exact absurd h (by simp)
  ·exact absurd h (by simp)
 case append pr sz bytes x y =>
  subst hs
  simp only [step] at h
  split at h
  ·exact absurd h (by simp)
  ·split at h
   ·split at h
    ·split at h
     ·simp at h; obtain ⟨rfl, rfl, _⟩ := h
      exact ⟨_, rfl, .inr ⟨_, rfl⟩⟩
     ·exact absurd h (by simp)
    ·split at h
     ·split at h
      ·split at h
       ·simp at h; obtain ⟨rfl, rfl, _⟩ := h
        simp at hl
       ·simp at h; obtain ⟨rfl, rfl, _⟩ := h
        simp at hl
      ·exact absurd h (by simp)
     ·exact absurd h (by simp)
    ·exact absurd h (by simp)
   ·exact absurd h (by simp)
 case movp sz x =>
  simp only [step] at h
  split at h
  ·split at h
   ·simp at h; obtain ⟨rfl, rfl, _⟩ := h
    exact ⟨_, rfl, .inr ⟨_, rfl⟩⟩
   ·exact absurd h (by simp)
  ·exact absurd h (by simp)
theorem slot_done {base d : Nat} {op : AOp} {env : Env} {σ σ1 σ' : St} {v x : AV} {t t' : Bool} {w : World} {F : Nat → Prop} {γ : List Gh} {r : Result Next} (I : Inv tab w F σ γ) (hs : slotable op = true) (hst : step base op env σ = some (v, σ1, t))
  (D : Done tab F base w σ γ r v σ1) (hf : fillAt base d σ (some (v, σ1, t)) = some (x, σ', t')) : Done tab F base w σ γ r x σ' := by
 simp only [fillAt] at hf
 split at hf
 ·simp at hf; obtain ⟨rfl, rfl, _⟩ := hf; exact D
 ·rename_i hl
  obtain ⟨ob, rfl, hv⟩ := slot_shape hs hst hl
  have e1 : (σ ++ [ob])[σ.length]? = some ob := by simp
  rw [e1] at hf
  cases hk : σ[σ.length - d]? with
  | none => rw [hk] at hf; simp at hf
  | some ob2 =>
   rw [hk] at hf
   cases ob2 with
   | res =>
    simp only [] at hf
    split at hf
    ·rename_i hu
     obtain ⟨hbk, hu⟩ := hu
     obtain ⟨val, w', γ', hr, st, J, hx, fr⟩ := D
     have hkl : σ.length - d < σ.length := lt_of_get hk
     generalize hkd : σ.length - d = k at *
     have hgl : γ'.length = σ.length + 1 := by rw [J.len]; simp
     obtain ⟨g, hg⟩ : ∃ g, γ'[σ.length]? = some g := ⟨γ'[σ.length]'(by omega), List.getElem?_eq_getElem (by omega)⟩
     have q1 : ∀ o, o ≠ k → (σ.set k ob)[o]? = σ[o]? := fun o ho => by rw [List.getElem?_set]; simp [Ne.symm ho]
     have q2 : (σ.set k ob)[k]? = some ob := by rw [List.getElem?_set]; simp [hkl]
     have q3 : ∀ o, o ≠ k → o < σ.length → ((γ'.take σ.length).set k g)[o]? = γ'[o]? := fun o ho hl => by
      rw [List.getElem?_set]; simp [Ne.symm ho, hl]
     have q4 : ((γ'.take σ.length).set k g)[k]? = some g := by
      rw [List.getElem?_set]; simp [hkl, hgl]
     have q5 : ((γ'.take σ.length).set k g).length = σ.length := by simp [hgl]
     have q6 : ∀ o, o < σ.length → (σ ++ [ob])[o]? = σ[o]? := fun o ho => List.getElem?_append_left ho
     have hown : ∀ b, Owned (σ.set k ob) ((γ'.take σ.length).set k g) b → Owned (σ ++ [ob]) γ' b := by
      rintro b ⟨o, x, g0, h1, h2, h3, h4⟩
      by_cases ho : o = k
      ·subst ho
       rw [q2] at h1; rw [q4] at h2
       simp at h1 h2; subst h1; subst h2
       exact ⟨σ.length, _, _, e1, hg, h3, h4⟩
      ·rw [q1 o ho] at h1
       have hol := lt_of_get h1
       rw [q3 o ho hol] at h2
       exact ⟨o, x, g0, by rw [q6 o hol]; exact h1, h2, h3, h4⟩
     have st2 : Step σ.length w' (σ ++ [ob]) γ' w' (σ.set k ob) ((γ'.take σ.length).set k g) := by
      refine ⟨rfl, rfl, rfl, Nat.le_refl _, Nat.le_refl _, fun b hb hn => ⟨rfl, fun h => hn (hown b h)⟩, by simp, by simp, fun o x g0 ho hx hg0 => ?_⟩
      rw [q6 o ho] at hx
      by_cases hok : o = k
      ·subst hok
       rw [hk] at hx; simp at hx; subst hx
       exact ⟨ob, g, q2, q4, .res _ _ _⟩
      ·exact ⟨x, g0, by rw [q1 o hok]; exact hx, by rw [q3 o hok ho]; exact hg0, ObStep.refl _ _⟩
     have J2 : Inv tab w' F (σ.set k ob) ((γ'.take σ.length).set k g) := by
      have phi : ∀ (o : Nat) (x : Ob) (g0 : Gh), (σ.set k ob)[o]? = some x → ((γ'.take σ.length).set k g)[o]? = some g0 → ∃ o', (σ ++ [ob])[o']? = some x ∧ γ'[o']? = some g0 ∧ (o = k ∧ o' = σ.length ∨ o ≠ k ∧ o' = o ∧ o < σ.length) := by
       intro o x g0 h1 h2
       by_cases ho : o = k
       ·subst ho
        rw [q2] at h1; rw [q4] at h2
        simp at h1 h2; subst h1; subst h2
        exact ⟨σ.length, e1, hg, .inl ⟨rfl, rfl⟩⟩
       ·rw [q1 o ho] at h1
        have hol := lt_of_get h1
        rw [q3 o ho hol] at h2
        exact ⟨o, by rw [q6 o hol]; exact h1, h2, .inr ⟨ho, rfl, hol⟩⟩
      refine ⟨by rw [q5]; simp, J.fsz, fun o x g0 h1 h2 => ?_, fun o x g0 h1 h2 h3 => ?_, fun o o' x x' g0 g0' h1 h2 h3 h4 h5 h6 h7 => ?_, J.gl.mono fun b hb => st2.stab hb⟩
      ·obtain ⟨o', p1, p2, p3⟩ := phi o x g0 h1 h2
       refine ObOk.step st2 (J.ok o' x g0 p1 p2) ?_ (fun _ => rfl)
       rcases p3 with ⟨_, rfl⟩ | ⟨ho, rfl, hol⟩
       ·rw [e1] at p1; simp at p1; subst p1; exact hu
       ·rw [q6 o' hol] at p1
        obtain ⟨g1, hg1⟩ : ∃ g1, γ[o']? = some g1 := ⟨γ[o']'(by rw [I.len]; exact hol), List.getElem?_eq_getElem (by rw [I.len]; exact hol)⟩
        exact (I.ok o' x g1 p1 hg1).under
      ·obtain ⟨o', p1, p2, _⟩ := phi o x g0 h1 h2
       exact J.own o' x g0 p1 p2 h3
      ·obtain ⟨a, p1, p2, p3⟩ := phi o x g0 h1 h2
       obtain ⟨b, r1, r2, r3⟩ := phi o' x' g0' h4 h5
       have := J.inj a b x x' g0 g0' p1 p2 h3 r1 r2 h6 h7
       rcases p3 with ⟨rfl, rfl⟩ | ⟨_, rfl, _⟩ <;> rcases r3 with ⟨rfl, rfl⟩ | ⟨_, rfl, _⟩ <;> first | rfl | omega
     have fr2 : Fr base σ (σ.set k ob) := fun b hb hF o x ho hx => by
      rw [q1 o (by omega)] at hx
      exact hF o x ho hx
     rcases hv with rfl | ⟨n, rfl⟩
     ·simp at hf; obtain ⟨rfl, rfl, _⟩ := hf
      refine ⟨val, w', _, hr, st.trans st2, J2, ?_, fr2⟩
      cases hx with
      | fz _ _ h => cases h
      | ref o off g0 cs h1 h2 =>
       rw [e1] at h1; simp at h1; subst h1
       rw [hg] at h2; simp at h2; subst h2
       exact .ref k 0 g cs q2 q4
     ·simp at hf; obtain ⟨rfl, rfl, _⟩ := hf
      refine ⟨val, w', _, hr, st.trans st2, J2, ?_, fr2⟩
      cases hx with
      | fz _ _ h => cases h
      | osl o ver n' off len _ hv h =>
       obtain ⟨y, g0, h1, h2, h3⟩ := h
       rw [e1] at h1; simp at h1; subst h1
       rw [hg] at h2; simp at h2; subst h2
       exact .osl k 0 n 0 n _ hv ⟨ob, g, q2, q4, h3⟩
    ·exact absurd hf (by simp)
   | _ => simp at hf
end
end Go.Den
