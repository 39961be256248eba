import Derived.Test.YtfjaimkpmehojaaGreatDenO
import Derived.WalkKit
import Derived.ProofKit
import Derived.OpenShut
import Derived.ShutString
import Derived.ChangeOld
import Derived.Below
import Derived.SizedLaws
import Derived.Carry
namespace Go.Den
open Go

inductive Parts (R : TypeId → List AV → Prop) : List TypeId → List (List AV) → Prop
  | nil : Parts R [] []
  | cons {t : TypeId} {ts : List TypeId} {x : List AV} {xs : List (List AV)} (h : R t x) (r : Parts R ts xs) : Parts R (t :: ts) (x :: xs)
def Sh (P : Program) : Nat → TypeId → List AV → Prop
  | 0, _, _ => False
  | n + 1, t, xs => match P.underlying t with
    | some .bool => ∃ b, xs = [.bool b]
    | some (.int k) => ∃ i, xs = [.int k i] ∧ (Lit.int k i).wf = true
    | some .string => ∃ s : ByteArray, xs = [.str s] ∧ s.size ≤ reachBytes
    | some (.slice e) => ∃ es, xs = [.sl es] ∧ es.length * P.bytesOf e ≤ reachBytes ∧ ∀ y ∈ es, Sh P n e y
    | some (.struct fs) => ∃ parts, xs = parts.flatten ∧ Parts (Sh P n) (fs.toList.map (·.type)) parts
    | some (.array m e) => ∃ parts : List (List AV), parts.length = m ∧ xs = parts.flatten ∧ ∀ y ∈ parts, Sh P n e y
    | _ => False
def contig (P : Program) : List Field → Nat → Option Nat
  | [], off => some off
  | f :: r, off => if f.offset = off then contig P r (off + P.cellsOf f.type) else none
def plainT (P : Program) (T : List TypeId) (t : TypeId) : Bool := match P.underlying t with
  | some .bool => P.cellsOf t == 1
  | some (.int _) => P.cellsOf t == 1
  | some .string => P.cellsOf t == 1
  | some (.slice e) => P.cellsOf t == 1 && T.contains e && decide (0 < P.cellsOf e)
  | some (.struct fs) => fs.toList.all (fun f => T.contains f.type) && (contig P fs.toList 0 == some (P.cellsOf t))
  | some (.array m e) => T.contains e && P.cellsOf t == m * P.cellsOf e
  | _ => false
section
variable {P : Program} {tab : Nat → Nat} {w : World} {H : Type} {enc : TypeId × Value → H} {T : List TypeId}
def ReadAs (tab : Nat → Nat) (w : World) (cs : List Value) (xs : List AV) : Prop := xs.length = cs.length ∧ ∀ (j : Nat) x v, xs[j]? = some x → cs[j]? = some v → AV.scalar x = true ∧ RF tab w (fun b => b < w.heap.size) x v
theorem ReadAs.one {x : AV} {v : Value} (h1 : AV.scalar x = true) (h2 : RF tab w (fun b => b < w.heap.size) x v) : ReadAs tab w [v] [x] := by
  refine ⟨rfl, fun j y u hy hu => ?_⟩
  cases j with
  | zero => simp at hy hu; subst hy; subst hu; exact ⟨h1, h2⟩
  | succ j => simp at hy
theorem ReadAs.append {cs ds : List Value} {xs ys : List AV} (h1 : ReadAs tab w cs xs) (h2 : ReadAs tab w ds ys) : ReadAs tab w (cs ++ ds) (xs ++ ys) := by
  refine ⟨by simp [h1.1, h2.1], fun j y u hy hu => ?_⟩
  by_cases hj : j < xs.length
  · rw [List.getElem?_append_left hj] at hy
    rw [List.getElem?_append_left (by rw [← h1.1]; exact hj)] at hu
    exact h1.2 j y u hy hu
  · rw [List.getElem?_append_right (by omega)] at hy
    rw [List.getElem?_append_right (by rw [← h1.1]; omega)] at hu
    rw [← h1.1] at hu
    exact h2.2 _ y u hy hu
theorem weightsAll_le {e : TypeId} : ∀ {l : List (DataW H)}, (∀ x ∈ DataW.weightsAll P e l, x ≤ reachBytes) → ∀ d ∈ l, ∀ x ∈ d.weights P e, x ≤ reachBytes
  | [], _, d, hd => absurd hd (by simp)
  | a :: l, h, d, hd => by
    simp only [DataW.weightsAll, List.mem_append] at h
    rcases List.mem_cons.1 hd with rfl | hd
    · exact fun x hx => h x (Or.inl hx)
    · exact weightsAll_le (fun x hx => h x (Or.inr hx)) d hd
theorem weightsEach_le : ∀ {ts : List TypeId} {l : List (DataW H)}, (∀ x ∈ DataW.weightsEach P ts l, x ≤ reachBytes) → ∀ (i : Nat) t d, ts[i]? = some t → l[i]? = some d → ∀ x ∈ d.weights P t, x ≤ reachBytes
  | [], _, _, i, t, d, ht, _ => absurd ht (by simp)
  | _ :: _, [], _, i, t, d, _, hd => absurd hd (by simp)
  | a :: ts, b :: l, h, i, t, d, ht, hd => by
    simp only [DataW.weightsEach, List.mem_append] at h
    cases i with
    | zero => simp at ht hd; subst ht; subst hd; exact fun x hx => h x (Or.inl hx)
    | succ i => exact weightsEach_le (fun x hx => h x (Or.inr hx)) i t d (by simpa using ht) (by simpa using hd)
theorem contig_reads {R : TypeId → List AV → Prop} {cs : List Value} : ∀ {fs : List Field} {off z : Nat}, contig P fs off = some z → z = cs.length → off ≤ z →
    (∀ (i : Nat) f, fs[i]? = some f → ∃ xs, R f.type xs ∧ ReadAs tab w ((cs.drop f.offset).take (P.cellsOf f.type)) xs ∧ xs.length = P.cellsOf f.type) →
    ∃ parts, Parts R (fs.map (·.type)) parts ∧ ReadAs tab w (cs.drop off) parts.flatten
  | [], off, z, h, hz, hle, _ => by
    simp [contig] at h
    exact ⟨[], .nil, by subst h; subst hz; simp [ReadAs]⟩
  | f :: fs, off, z, h, hz, hle, hf => by
    simp only [contig] at h
    split at h
    · rename_i ho
      obtain ⟨xs, h1, h2, h3⟩ := hf 0 f rfl
      have hle2 : off + P.cellsOf f.type ≤ z := by
        have := h2.1
        rw [h3] at this
        simp only [List.length_take, List.length_drop] at this
        omega
      obtain ⟨parts, q1, q2⟩ := contig_reads h hz hle2 (fun i g hg => hf (i + 1) g (by simpa using hg))
      refine ⟨xs :: parts, .cons h1 q1, ?_⟩
      have e : cs.drop off = (cs.drop f.offset).take (P.cellsOf f.type) ++ cs.drop (off + P.cellsOf f.type) := by
        rw [ho, ← List.drop_drop, List.take_append_drop]
      rw [e, List.flatten_cons]
      exact h2.append q2
    · exact absurd h (by simp)
theorem rows_reads {R : List AV → Prop} {c : Nat} {cs : List Value} : ∀ {n k : Nat}, cs.length = (k + n) * c → 
    (∀ i, k ≤ i → i < k + n → ∃ xs, R xs ∧ ReadAs tab w ((cs.drop (i * c)).take c) xs ∧ xs.length = c) →
    ∃ parts : List (List AV), parts.length = n ∧ (∀ y ∈ parts, R y) ∧ ReadAs tab w (cs.drop (k * c)) parts.flatten
  | 0, k, hl, _ => ⟨[], rfl, by simp, by simp at hl; simp [ReadAs, hl]⟩
  | n + 1, k, hl, hf => by
    obtain ⟨xs, h1, h2, h3⟩ := hf k (by omega) (by omega)
    obtain ⟨parts, q0, q1, q2⟩ := rows_reads (n := n) (k := k + 1) (by rw [hl]; congr 1; omega) (fun i h1 h2 => hf i (by omega) (by omega))
    refine ⟨xs :: parts, by simp [q0], fun y hy => ?_, ?_⟩
    · rcases List.mem_cons.1 hy with rfl | hy
      · exact h1
      · exact q1 y hy
    · have e : cs.drop (k * c) = (cs.drop (k * c)).take c ++ cs.drop ((k + 1) * c) := by
        have : (k + 1) * c = k * c + c := by rw [Nat.add_mul]; omega
        rw [this, ← List.drop_drop, List.take_append_drop]
      rw [e, List.flatten_cons]
      exact h2.append q2
theorem cells_plain {w : World} {a : Addr} {n : Nat} {cs : List Value} (h : w.cells? 0 a n = some cs) (hn : 0 < n) : a.spot = none ∧ a.block < w.heap.size ∧ cs.length = n ∧ ∀ j, j < n → w.cell? ⟨a.block, a.off + j, none⟩ = cs[j]? := by
  obtain ⟨_, hl, hc⟩ := World.cells?_some h
  have g0 := hc 0 hn
  obtain ⟨c0, hc0⟩ : ∃ c0, cs[0]? = some c0 := by
    cases cs with
    | nil => simp at hl; omega
    | cons c _ => exact ⟨c, rfl⟩
  rw [hc0] at g0
  have hs : a.spot = none := by simpa [Addr.add] using World.cell?_spot g0
  refine ⟨hs, World.cells?_block h hn, hl, fun j hj => ?_⟩
  have := hc j hj
  obtain ⟨b, off, spot⟩ := a
  simp at hs; subst hs
  rw [← this]
  unfold Addr.add
  by_cases hj0 : j = 0
  · simp [hj0]
  · simp [hj0]
theorem list_of {α : Type} {R : Nat → α → Prop} : ∀ (n : Nat), (∀ i, i < n → ∃ x, R i x) → ∃ l : List α, l.length = n ∧ ∀ i x, l[i]? = some x → R i x
  | 0, _ => ⟨[], rfl, by simp⟩
  | n + 1, h => by
    obtain ⟨l, h1, h2⟩ := list_of n (fun i hi => h i (by omega))
    obtain ⟨x, hx⟩ := h n (by omega)
    refine ⟨l ++ [x], by simp [h1], fun i y hy => ?_⟩
    by_cases hi : i < n
    · rw [List.getElem?_append_left (by omega)] at hy
      exact h2 i y hy
    · rw [List.getElem?_append_right (by omega)] at hy
      have : i - l.length = 0 := by
        by_cases h0 : i - l.length = 0
        · exact h0
        · rw [List.getElem?_eq_none (by simp; omega)] at hy; exact absurd hy (by simp)
      rw [this] at hy
      simp at hy
      subst hy
      have : i = n := by omega
      rw [this]; exact hx
theorem trod_reads (hT : ∀ t ∈ T, plainT P T t = true) : ∀ (n : Nat) (t : TypeId) (cs : List Value) (d : DataW H) (ps : List MemPlace), t ∈ T → DataW.trod enc P w 0 (fun _ => true) true n t cs = some (d, ps) → (∀ x ∈ d.weights P t, x ≤ reachBytes) →
    ∃ xs, Sh P n t xs ∧ ReadAs tab w cs xs ∧ xs.length = P.cellsOf t := by
  intro n
  induction n with
  | zero => intro t cs d ps _ h; simp [DataW.trod] at h
  | succ n ih =>
    intro t cs d ps ht h hw
    have hp := hT t ht
    unfold plainT at hp
    split at hp
    · -- bool
      rename_i hu
      obtain ⟨b, rfl, _⟩ := DataW.trod_bool hu h
      simp only [Sh, hu]
      exact ⟨[.bool b], ⟨b, rfl⟩, .one rfl (.bool b), by simpa using (beq_iff_eq.1 hp).symm⟩
    · rename_i k hu
      obtain ⟨i, rfl, _, hwf⟩ := DataW.trod_int hu h
      simp only [Sh, hu]
      exact ⟨[.int k i], ⟨i, rfl, hwf⟩, .one rfl (.int k i), by simpa using (beq_iff_eq.1 hp).symm⟩
    · rename_i hu
      obtain ⟨s, rfl, hx, hs⟩ := DataW.trod_string hu h
      simp only [Sh, hu]
      obtain ⟨rfl, rfl⟩ := Prod.mk.inj hx
      have := hw s.data.toList.length (by simp [DataW.weights])
      exact ⟨[.str s], ⟨s, rfl, by simpa using this⟩, .one rfl (.str s), by simpa using (beq_iff_eq.1 hp).symm⟩
    · -- slice
      rename_i e hu
      simp only [Bool.and_eq_true, beq_iff_eq, decide_eq_true_eq] at hp
      obtain ⟨⟨hc1, he⟩, hpos⟩ := hp
      have he' : e ∈ T := by simpa using he
      simp only [Sh, hu]
      rcases DataW.trod_slice hu h with ⟨rfl, hx⟩ | ⟨a, len, cap, elems, rest, n', hn, rfl, hx, _, hlc, hm, hlen, hel, _, _⟩
      · exact ⟨[.sl []], ⟨[], rfl, by simp, by simp⟩, .one rfl (.sl0 none 0), by simp [hc1]⟩
      · have hn' : n = n' := by omega
        subst hn'
        obtain ⟨rfl, rfl⟩ := Prod.mk.inj hx
        simp only [DataW.weights, hu] at hw
        have hbytes := hw _ (List.mem_cons_self ..)
        simp only [List.length_map] at hbytes
        have hwa : ∀ x ∈ DataW.weightsAll P e (elems.map (·.1)), x ≤ reachBytes := fun x hx => hw x (by simp [hx])
        have each : ∀ i, i < len → ∃ y : List AV × (Nat → Value), Sh P n e y.1 ∧ y.1.length = P.cellsOf e ∧ a.spot = none ∧ a.block < w.heap.size ∧ (∀ (j : Nat) x, y.1[j]? = some x → w.cell? ⟨a.block, a.off + i * P.cellsOf e + j, none⟩ = some (y.2 j) ∧ AV.scalar x = true ∧ RF tab w (fun b => b < w.heap.size) x (y.2 j)) := by
          intro i hi
          have h1 := hel i hi
          have hi' : i < elems.length := by omega
          rw [List.getElem?_eq_getElem hi', Option.bind_eq_some_iff] at h1
          obtain ⟨cs', h2, h3⟩ := h1
          obtain ⟨p1, p2, p3, p4⟩ := cells_plain h2 hpos
          obtain ⟨y, z1, z2, z3⟩ := ih e cs' (elems[i]).1 (elems[i]).2 he' (by rw [h3]) (weightsAll_le hwa _ (List.mem_map.2 ⟨elems[i], List.getElem_mem hi', rfl⟩))
          have hab : (a.add (i * P.cellsOf e)).block = a.block := by unfold Addr.add; split <;> rfl
          have hao : (a.add (i * P.cellsOf e)).off = a.off + i * P.cellsOf e := by
            unfold Addr.add
            split
            · rename_i h0; rw [h0]; rfl
            · rfl
          refine ⟨(y, fun j => cs'.getD j undef), z1, z3, ?_, by rw [← hab]; exact p2, fun j x hj => ?_⟩
          · -- spot
            have := hel 0 (by omega)
            rw [List.getElem?_eq_getElem (by omega : 0 < elems.length), Option.bind_eq_some_iff] at this
            obtain ⟨cs0, q2, _⟩ := this
            have := (cells_plain q2 hpos).1
            simpa [Addr.add] using this
          · have hj' : j < cs'.length := by
              have := (List.getElem?_eq_some_iff.1 hj).1
              rw [← z2.1]; exact this
            have hv : cs'[j]? = some (cs'.getD j undef) := by
              rw [List.getD_eq_getElem?_getD, List.getElem?_eq_getElem hj']; rfl
            refine ⟨?_, z2.2 j x _ hj hv⟩
            rw [← hv, ← p4 j (by omega), hab, hao]
        obtain ⟨l, l1, l2⟩ := list_of len each
        by_cases hl0 : len = 0
        · subst hl0
          exact ⟨[.sl []], ⟨[], rfl, by simp, by simp⟩, .one rfl (.sl0 _ _), by simp [hc1]⟩
        · obtain ⟨_, _, _, hsp, hbl, _⟩ := each 0 (by omega)
          obtain ⟨b, off, spot⟩ := a
          have hsp' : spot = none := hsp
          subst hsp'
          have key : ∀ (i : Nat) e', (l.map (·.1))[i]? = some e' → ∃ y, l[i]? = some y ∧ y.1 = e' := by
            intro i e' h
            rw [List.getElem?_map, Option.map_eq_some_iff] at h
            exact h
          refine ⟨[.sl (l.map (·.1))], ⟨l.map (·.1), rfl, ?_, ?_⟩, .one rfl ?_, by simp [hc1]⟩
          · rw [List.length_map, l1]
            refine Nat.le_trans (Nat.mul_le_mul_right _ ?_) hbytes
            omega
          · intro y hy
            obtain ⟨z, hz, rfl⟩ := List.mem_map.1 hy
            obtain ⟨i, hi⟩ := List.mem_iff_getElem?.1 hz
            exact (l2 i z hi).1
          · have hlen' : (l.map (·.1)).length = len := by simp [l1]
            rw [← hlen']
            refine .sl b off (P.cellsOf e) cap (l.map (·.1)) (fun i j => match l[i]? with | some y => y.2 j | none => undef) hbl ?_ (by omega) ?_ ?_ ?_
            · intro y hy
              obtain ⟨z, hz, rfl⟩ := List.mem_map.1 hy
              obtain ⟨i, hi⟩ := List.mem_iff_getElem?.1 hz
              exact (l2 i z hi).2.1
            · intro i e' he j x hx
              obtain ⟨y, hy, rfl⟩ := key i e' he
              simp only [hy]
              exact ((l2 i y hy).2.2.2.2 j x hx).1
            · intro i e' he j x hx
              obtain ⟨y, hy, rfl⟩ := key i e' he
              exact ((l2 i y hy).2.2.2.2 j x hx).2.1
            · intro i e' he j x hx
              obtain ⟨y, hy, rfl⟩ := key i e' he
              simp only [hy]
              exact ((l2 i y hy).2.2.2.2 j x hx).2.2
    · -- struct
      rename_i fs hu
      simp only [Bool.and_eq_true, beq_iff_eq] at hp
      obtain ⟨hall, hcont⟩ := hp
      simp only [Sh, hu]
      obtain ⟨xs, n', hn, hx, hcs, hxl, heach⟩ := DataW.trod_struct hu h
      have hn' : n = n' := by omega
      subst hn'
      obtain ⟨rfl, rfl⟩ := Prod.mk.inj hx
      simp only [DataW.weights, hu] at hw
      obtain ⟨parts, q1, q2⟩ := contig_reads (tab := tab) (w := w) (cs := cs) (R := Sh P n) hcont hcs.symm (Nat.zero_le _) (fun i f hf => by
        have h1 := heach i f (by simpa using hf)
        have hi : i < xs.length := by
          have := (List.getElem?_eq_some_iff.1 hf).1
          rw [hxl]; simpa using this
        rw [List.getElem?_eq_getElem hi] at h1
        have hft : f.type ∈ T := by
          have := List.all_eq_true.1 hall f (List.mem_iff_getElem?.2 ⟨i, hf⟩)
          simpa using this
        obtain ⟨y, z1, z2, z3⟩ := ih f.type _ (xs[i]).1 (xs[i]).2 hft (by rw [h1]) (weightsEach_le hw i f.type (xs[i]).1 (by rw [List.getElem?_map, hf]; rfl) (by rw [List.getElem?_map, List.getElem?_eq_getElem hi]; rfl))
        exact ⟨y, z1, z2, z3⟩)
      refine ⟨parts.flatten, ⟨parts, rfl, q1⟩, by simpa using q2, ?_⟩
      have := q2.1
      simp at this
      simp [this, hcs]
    · -- array
      rename_i m e hu
      simp only [Bool.and_eq_true, beq_iff_eq] at hp
      obtain ⟨he, hsz⟩ := hp
      have he' : e ∈ T := by simpa using he
      simp only [Sh, hu]
      obtain ⟨xs, n', hn, hx, hcs, hxl, heach⟩ := DataW.trod_array hu h
      have hn' : n = n' := by omega
      subst hn'
      obtain ⟨rfl, rfl⟩ := Prod.mk.inj hx
      simp only [DataW.weights, hu] at hw
      obtain ⟨parts, q0, q1, q2⟩ := rows_reads (tab := tab) (w := w) (cs := cs) (R := Sh P n e) (c := P.cellsOf e) (n := m) (k := 0) (by rw [hcs, hsz]; simp) (fun i _ hi => by
        have hi' : i < xs.length := by omega
        have h1 := heach i (by omega)
        rw [List.getElem?_eq_getElem hi'] at h1
        exact ih e _ (xs[i]).1 (xs[i]).2 he' (by rw [h1]) (weightsAll_le hw _ (List.mem_map.2 ⟨xs[i], List.getElem_mem hi', rfl⟩)))
      refine ⟨parts.flatten, ⟨parts, q0, rfl, q1⟩, by simpa using q2, ?_⟩
      have := q2.1
      simp at this
      simp [this, hcs]
    · exact absurd hp (by simp)
end
end Go.Den

namespace Go.Den
open Go Go.ChangeShapes Go.WideShapes Go.ChangeAt Go.RowKit
section
variable {P : Program} {tab : Nat → Nat} {H : Type} {enc : TypeId × Value → H} {T : List TypeId}
def avOf (P : Program) (t : TypeId) (xs : List AV) : AV := match P.underlying t with
  | some (.struct _) | some (.array _ _) => .agg xs
  | _ => xs.headD .dead
inductive Args (P : Program) : List TypeId → List AV → Prop
  | nil : Args P [] []
  | cons {t : TypeId} {ts : List TypeId} {x : List AV} {xs : List AV} (n : Nat) (h : Sh P n t x) (r : Args P ts xs) : Args P (t :: ts) (avOf P t x :: xs)
theorem okWide_agg {W : World} {r : Reach} {b0 : Nat} {t : TypeId} {v : Value} (hu : (∃ fs, P.underlying t = some (.struct fs)) ∨ ∃ n e, P.underlying t = some (.array n e)) (h : Value.okWide P W r b0 t v) : ∃ xs : Array Value, v = .agg xs := by
  rcases hu with ⟨fs, hu⟩ | ⟨n, e, hu⟩
  · simp only [Value.okWide, hu] at h
    obtain ⟨cs, h1, _⟩ := h
    exact ⟨cs, h1⟩
  · simp only [Value.okWide, hu] at h
    obtain ⟨cs, h1, _⟩ := h
    exact ⟨cs, h1⟩
theorem okWide_cell {W : World} {r : Reach} {b0 : Nat} {t : TypeId} {v : Value} (h : Value.okWide P W r b0 t v) (h1 : ∀ fs, P.underlying t ≠ some (.struct fs)) (h2 : ∀ n e, P.underlying t ≠ some (.array n e)) (h3 : (P.underlying t).isSome) : v.cells = #[v] := by
  cases v with
  | agg xs =>
    exfalso
    cases hu : P.underlying t with
    | none => simp [hu] at h3
    | some d =>
      cases d with
      | struct fs => exact h1 fs hu
      | array n e => exact h2 n e hu
      | _ => simp [Value.okWide, hu, Cell.okWide, Cell.ok] at h
  | _ => rfl
theorem one_read {w : World} (hT : ∀ t ∈ T, plainT P T t = true) {t : TypeId} (ht : t ∈ T) {v : Value} {d : DataW H} {ps : List MemPlace} {r : Reach} {b0 : Nat} (h : DataW.Trod enc P w 0 (fun _ => true) true t v d ps) (hw : ∀ x ∈ d.weights P t, x ≤ reachBytes)
    (hv : Value.okWide P w r b0 t v) : ∃ n x, Sh P n t x ∧ RF tab w (fun b => b < w.heap.size) (avOf P t x) v := by
  obtain ⟨n, h⟩ := h
  obtain ⟨xs, h1, h2, h3⟩ := trod_reads (tab := tab) hT n t _ d ps ht h hw
  refine ⟨n, xs, h1, ?_⟩
  have hp := hT t ht
  unfold avOf
  split
  · rename_i fs hu
    obtain ⟨cs, rfl⟩ := okWide_agg (Or.inl ⟨fs, hu⟩) hv
    have h2' : ReadAs tab w cs.toList xs := h2
    have := RF.agg (tab := tab) (w := w) (S := fun b => b < w.heap.size) xs cs.toList h2'.1.symm (fun j x hx => by
      have hj : j < cs.toList.length := by
        have := (List.getElem?_eq_some_iff.1 hx).1
        rw [← h2'.1]; exact this
      exact (h2'.2 j x cs.toList[j] hx (List.getElem?_eq_getElem hj)).1) (fun j x v hx hv => (h2'.2 j x v hx hv).2)
    simpa using this
  · rename_i n e hu
    obtain ⟨cs, rfl⟩ := okWide_agg (Or.inr ⟨n, e, hu⟩) hv
    have h2' : ReadAs tab w cs.toList xs := h2
    have := RF.agg (tab := tab) (w := w) (S := fun b => b < w.heap.size) xs cs.toList h2'.1.symm (fun j x hx => by
      have hj : j < cs.toList.length := by
        have := (List.getElem?_eq_some_iff.1 hx).1
        rw [← h2'.1]; exact this
      exact (h2'.2 j x cs.toList[j] hx (List.getElem?_eq_getElem hj)).1) (fun j x v hx hv => (h2'.2 j x v hx hv).2)
    simpa using this
  · rename_i g1 g2
    have hc := okWide_cell hv (fun fs h => g1 fs h) (fun n e h => g2 n e h) (by
      unfold plainT at hp
      cases hu : P.underlying t with
      | none => simp [hu] at hp
      | some _ => rfl)
    rw [hc] at h2
    have hl := h2.1
    match xs, hl with
    | [x], _ => exact (h2.2 0 x v rfl rfl).2
theorem args_read {w : World} {r : Reach} {b0 : Nat} (hT : ∀ t ∈ T, plainT P T t = true) : ∀ {ts : List TypeId} {vs : List Value} {ds : List (DataW H)} {ps : List MemPlace}, DataW.TrodAll enc P w 0 (fun _ => true) true ts vs ds ps → (∀ t ∈ ts, t ∈ T) →
    (∀ x ∈ DataW.weightsEach P ts ds, x ≤ reachBytes) → (∀ (j : Nat) t v, ts[j]? = some t → vs[j]? = some v → Value.okWide P w r b0 t v) →
    ∃ xs, Args P ts xs ∧ vs.length = xs.length ∧ ∀ (j : Nat) x v, xs[j]? = some x → vs[j]? = some v → RF tab w (fun b => b < w.heap.size) x v
  | [], [], [], ps, _, _, _, _ => ⟨[], .nil, rfl, by simp⟩
  | t :: ts, v :: vs, d :: ds, ps, ⟨p, q, h1, h2, _⟩, hm, hw, hv => by
    simp only [DataW.weightsEach, List.mem_append] at hw
    obtain ⟨n, x, a1, a2⟩ := one_read (tab := tab) hT (hm t (by simp)) h1 (fun x hx => hw x (Or.inl hx)) (hv 0 t v rfl rfl)
    obtain ⟨xs, b1, b2, b3⟩ := args_read hT h2 (fun t ht => hm t (by simp [ht])) (fun x hx => hw x (Or.inr hx)) (fun j t v h1 h2 => hv (j + 1) t v (by simpa using h1) (by simpa using h2))
    refine ⟨avOf P t x :: xs, .cons n a1 b1, by simp [b2], fun j y u hy hu => ?_⟩
    cases j with
    | zero => simp at hy hu; subst hy; subst hu; exact a2
    | succ j => exact b3 j y u (by simpa using hy) (by simpa using hu)
  | [], [], _ :: _, _, h, _, _, _ => h.elim
  | [], _ :: _, _, _, h, _, _, _ => h.elim
  | _ :: _, [], _, _, h, _, _, _ => h.elim
  | _ :: _, _ :: _, [], _, h, _, _, _ => h.elim
theorem trodAll_back {W W' : World} (hl : laidOutB P = true) (hb : Below W.heap.size W W') : ∀ {ts : List TypeId} {vs : List Value} {ds : List (DataW H)} {ps : List MemPlace}, ts.all (fun t => P.readableRec t && decide (t < P.types.size)) = true →
    DataW.TrodAll enc P W 0 (fun _ => true) true ts vs ds ps → DataW.TrodAll enc P W' 0 (fun b => decide (b < W.heap.size)) true ts vs ds ps
  | [], [], [], ps, _, h => h
  | t :: ts, v :: vs, d :: ds, ps, ht, ⟨p, q, h1, h2, h3⟩ => by
    simp only [List.all_cons, Bool.and_eq_true, decide_eq_true_eq] at ht
    exact ⟨p, q, Below.trod hl ht.1.1 ht.1.2 h1 hb (by obtain ⟨m, hm⟩ := h1; exact DataW.trod_lt m _ _ _ hm), trodAll_back hl hb ht.2 h2, h3⟩
  | [], [], _ :: _, _, _, h => h.elim
  | [], _ :: _, _, _, _, h => h.elim
  | _ :: _, [], _, _, _, h => h.elim
  | _ :: _, _ :: _, [], _, _, h => h.elim
theorem law_calls {G : Nat → Option AFunc} {W : World} {f : Nat} {ts : List TypeId} {vs : List Value} {ds : List (DataW H)} {ps : List MemPlace} {r : Reach} {b0 : Nat} (L : Link P tab G) (hT : T.all (plainT P T) = true) (hts : ts.all (T.contains ·) = true)
    (law : ∀ xs, Args P ts xs → Den G f xs [] = some (.bool true, []))
    (h : DataW.TrodAll enc P W 0 (fun _ => true) true ts vs ds ps) (hw : ∀ x ∈ DataW.weightsEach P ts ds, x ≤ reachBytes) (hv : ∀ (j : Nat) t v, ts[j]? = some t → vs[j]? = some v → Value.okWide P W r b0 t v) (hg : GOk tab W (fun b => b < W.heap.size) := by exact fun g => ⟨fun gs h => by cases h, fun k h => (by cases h), fun h => by cases h⟩) :
    Calls P (tab f) vs.toArray W fun e W' => e = .returned (.bool true) ∧ Below W.heap.size W W' := by
  obtain ⟨xs, h1, h2, h3⟩ := args_read (tab := tab) (fun t ht => List.all_eq_true.1 hT t ht) h (fun t ht => by simpa using List.all_eq_true.1 hts t ht) hw hv
  refine (Den_calls L (law xs h1) rfl h2 h3 hg).mono ?_
  rintro e W' ⟨v, rfl, hr, hb⟩
  cases hr
  exact ⟨rfl, hb⟩
end
end Go.Den
