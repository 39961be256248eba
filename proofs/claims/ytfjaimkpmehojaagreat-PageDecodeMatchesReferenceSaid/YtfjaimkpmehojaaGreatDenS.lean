/- slices.SortFunc at values by their order: what the library's contract comes to in the evaluator's terms. -/
import Derived.Test.YtfjaimkpmehojaaGreatDenO
import Derived.Test.YtfjaimkpmehojaaGreatCmpV
import Derived.Shelf.SlSortCmp.NoneTotal
namespace Go.Den
open Go Go.Sort Go.Proofs
set_option linter.unusedSimpArgs false
set_option linter.unusedVariables false
set_option maxRecDepth 100000
set_option maxHeartbeats 1000000
section
variable {P : Program} {tab : Nat → Nat}
instance : Inhabited Val := ⟨⟨true, 0, ⟨#[]⟩⟩⟩
def encV3 (v : Val) : List Value := [.bool v.null, .int .i64 v.n, .string v.s]
theorem valsOf_map : ∀ {l : List (List AV)} {vs : List Val}, valsOf l = some vs → l = vs.map Val.cells
  | [], vs, h => by simp [valsOf] at h; subst h; rfl
  | e :: r, vs, h => by
    unfold valsOf at h
    split at h
    · rename_i heq; cases heq
    · rename_i b n s r' heq
      cases heq
      obtain ⟨q, hq, e⟩ := Option.map_eq_some_iff.1 h
      subst e
      rw [List.map_cons, ← valsOf_map hq]; rfl
    · exact absurd h (by simp)
theorem cell_val {w : World} {S : Nat → Prop} (v : Val) (j : Nat) (x : AV) (u : Value) (hx : v.cells[j]? = some x) (hr : RF tab w S x u) : (encV3 v)[j]? = some u := by
  match j with
  | 0 => simp [Val.cells] at hx; subst hx; cases hr; rfl
  | 1 => simp [Val.cells] at hx; subst hx; cases hr; rfl
  | 2 => simp [Val.cells] at hx; subst hx; cases hr; rfl
  | j + 3 => simp [Val.cells] at hx
theorem val_cell {w : World} {S : Nat → Prop} (v : Val) (j : Nat) (x : AV) (hx : v.cells[j]? = some x) : ∃ u, (encV3 v)[j]? = some u ∧ x.scalar = true ∧ RF tab w S x u := by
  match j with
  | 0 => simp [Val.cells] at hx; subst hx; exact ⟨_, rfl, rfl, .bool _⟩
  | 1 => simp [Val.cells] at hx; subst hx; exact ⟨_, rfl, rfl, .int _ _⟩
  | 2 => simp [Val.cells] at hx; subst hx; exact ⟨_, rfl, rfl, .str _⟩
  | j + 3 => simp [Val.cells] at hx
theorem swo_cmpV : SWO (ltOf cmpV) where
  irrefl x := by simp [ltOf, cmpV_self]
  trans x y z h1 h2 := by
    simp only [ltOf, decide_eq_true_eq] at *
    exact cmpV_lt_trans h1 h2
  ntrans x y z h1 h2 := by
    simp only [ltOf, decide_eq_false_iff_not] at *
    have n1 := cmpV_neg x y
    have n2 := cmpV_neg y z
    have n3 := cmpV_neg x z
    have := cmpV_trans z y x (by omega) (by omega)
    omega
theorem tot_cmpV (x y : Val) (h1 : ltOf cmpV x y = false) (h2 : ltOf cmpV y x = false) : x = y := by
  simp only [ltOf, decide_eq_false_iff_not] at *
  have := cmpV_neg x y
  exact cmpV_zero (by omega)
theorem lt_of_getA {A : Array Value} {j : Nat} {x : Value} (hx : A[j]? = some x) : j < A.size := by
  rcases Nat.lt_or_ge j A.size with h | h
  · exact h
  · rw [Array.getElem?_eq_none h] at hx; exact absurd hx (by simp)
theorem cmp_lays {G : Nat → Option AFunc} (L : Link P tab G) {c : Nat} (hD : ∀ x y : Val, Den G c [.agg x.cells, .agg y.cells] [] = some (.int .i64 (cmpV x y), [])) {w : World} {F : Nat → Prop} {σ : St} {γ : List Gh} (I : Inv tab w F σ γ) {blk : Nat} (hb : Owned σ γ blk) (hblk : blk < w.heap.size) (B size : Nat) :
    CmpLays P (tab c) #[] encV3 3 cmpV blk B size w := by
  intro m os dk _ x y
  generalize hW : sortWorldK encV3 3 w blk B m dk os = W
  have hh : ∀ b, b < w.heap.size → b ≠ blk → W.heap[b]? = w.heap[b]? := by
    intro b h1 h2
    rw [← hW]
    show ((w.heap.modify blk (onCells (putCells id B (flatK encV3 3 dk)))) ++ os)[b]? = _
    rw [Array.getElem?_append_left (by simpa using h1), Array.getElem?_modify, if_neg (by omega)]
  have hsz : w.heap.size ≤ W.heap.size := by
    rw [← hW]
    show _ ≤ ((w.heap.modify blk (onCells (putCells id B (flatK encV3 3 dk)))) ++ os).size
    simp
  have hg : GOk tab W (Stab W (fun _ => False) [] []) := I.gl.mono fun b hs => by
    have hne : b ≠ blk := fun e => hs.2.2 (e ▸ hb)
    exact ⟨⟨Nat.lt_of_lt_of_le hs.1 hsz, id, by rintro ⟨o, x, g, h, _⟩; simp at h⟩, hh b hs.1 hne⟩
  have hI : Inv tab W (fun _ => False) [] [] := inv_empty (fun b h => h.elim) hg
  obtain ⟨n, hn⟩ := (Den_iff G).1 (hD x y)
  have hag : ∀ v : Val, RS tab W (fun _ => False) [] [] (.agg v.cells) (.agg (encV3 v).toArray) := fun v =>
    .fz _ _ (.agg _ _ rfl (fun j x hx => (val_cell (tab := tab) (w := W) (S := fun _ => False) v j x hx).choose_spec.2.1) (fun j x u hx hu => by
      obtain ⟨u', h1, _, h3⟩ := val_cell (tab := tab) (w := W) (S := Stab W (fun _ => False) [] []) v j x hx
      rw [h1] at hu
      simp at hu; subst hu
      exact h3))
  refine Calls.mono (denN_ok L n c _ [] _ [] hn W (fun _ => False) [] [.agg (encV3 x).toArray, .agg (encV3 y).toArray] hI ⟨rfl, fun j z v hz hv => ?_⟩) ?_
  · match j with
    | 0 => simp at hz hv; subst hz; subst hv; exact hag x
    | 1 => simp at hz hv; subst hz; subst hv; exact hag y
    | j + 2 => simp at hz
  · rintro e w' ⟨v, γ', rfl, st, J, hr, _⟩
    have hv : v = .int .i64 (cmpV x y) := by
      cases hr with
      | fz _ _ h => cases h; rfl
    subst hv
    refine ⟨rfl, w'.drawn - W.drawn, w'.heap.extract W.heap.size, ?_⟩
    have e1 := st.os
    have e2 := st.tape
    have e3 := st.output
    have e4 := st.drawn
    have e5 : w'.heap = W.heap ++ w'.heap.extract W.heap.size := by
      apply Array.ext_getElem?
      intro b
      rcases Nat.lt_or_ge b W.heap.size with h | h
      · rw [Array.getElem?_append_left h]
        exact (st.keep b h (by rintro ⟨o, x, g, h, _⟩; simp at h)).1
      · rw [Array.getElem?_append_right h, Array.getElem?_extract]
        have := st.size
        by_cases hb' : b < w'.heap.size
        · rw [if_pos (by omega), show W.heap.size + (b - W.heap.size) = b by omega]
        · rw [if_neg (by omega), Array.getElem?_eq_none (by omega)]
    have e6 : w'.drawn = W.drawn + (w'.drawn - W.drawn) := by omega
    unfold Sort.grow World.drewN
    cases w' with
    | mk heap tape drawn os output =>
      cases W with
      | mk heap2 tape2 drawn2 os2 output2 =>
        simp only [] at e1 e2 e3 e5 e6 ⊢
        subst e1 e2 e3
        rw [← e5, ← e6]
def SortC (P : Program) (f g : FuncId) : Prop :=
  (∀ (vs : List Val) (blk B cap : Nat) (w : World), CmpLays P g #[] encV3 3 cmpV blk B vs.length w → HoldsK encV3 3 w blk B vs.toArray → blk < w.heap.size → vs.length < 4611686018427387904 →
    Calls P f #[.slice (some ⟨blk, B, none⟩) vs.length cap, .func (.func g) #[] #[]] w fun e w' => e = .returned (.tuple #[]) ∧ ∃ n os, w' = sortWorldK encV3 3 w blk B n (sortV vs).toArray os) ∧
  (∀ (p : Option Addr) (cap : Nat) (w : World), Calls P f #[.slice p 0 cap, .func (.func g) #[] #[]] w fun e w' => e = .returned (.tuple #[]) ∧ w' = w)
theorem sort_osl {f g : FuncId} (C : SortC P f g) {G : Nat → Option AFunc} (L : Link P tab G) {c : Nat} (hc : tab c = g) (hD : ∀ x y : Val, Den G c [.agg x.cells, .agg y.cells] [] = some (.int .i64 (cmpV x y), [])) {w : World} {F : Nat → Prop} {σ : St} {γ : List Gh} {o ver n off len : Nat} {es : List (List AV)} {u : Value} (I : Inv tab w F σ γ) (hx : RS tab w F σ γ (.osl o ver n off len) u)
    (ho : σ[o]? = some (.arr ver 3 es)) (hn : es.length = n) (hle : off + len ≤ n) (hbig : n < 4611686018427387904) {vs : List Val} (hv : valsOf ((es.drop off).take len) = some vs) :
    Calls P f #[u, .func (.func g) #[] #[]] w (CallPost tab F w σ γ (.tup []) (σ.set o (.arr ver 3 (es.take off ++ ((sortV vs).map Val.cells ++ es.drop (off + len)))))) := by
  have hvs := valsOf_map hv
  have hvl : vs.length = len := by
    have := congrArg List.length hvs
    simp only [List.length_take, List.length_drop, List.length_map] at this
    omega
  have rt : ∀ (w' : World) (σ' : St) (γ' : List Gh), RS tab w' F σ' γ' (.tup []) (.tuple #[]) := fun w' σ' γ' => .fz _ _ (.tup [] [] rfl (by simp))
  cases hx with
  | fz _ _ h => exact absurd h.noref (by simp [AV.noref])
  | osl _ _ _ _ _ _ _ h =>
    obtain ⟨x, g0, hx, hg, h⟩ := h
    rw [ho] at hx; simp at hx; subst hx
    obtain ⟨a, hu, ha⟩ := h.2 rfl hn.symm hle
    subst hu
    by_cases h0 : len = 0
    · subst h0
      have hvn : vs = [] := List.eq_nil_of_length_eq_zero hvl
      subst hvn
      have e1 : σ.set o (.arr ver 3 (es.take off ++ ((sortV []).map Val.cells ++ es.drop (off + 0)))) = σ := by
        have hlt := lt_of_get ho
        have : es.take off ++ ((sortV []).map Val.cells ++ es.drop (off + 0)) = es := by simp [sortV]
        rw [this]
        have := List.getElem?_eq_some_iff.1 ho
        obtain ⟨_, hh⟩ := this
        rw [← hh]; exact List.set_getElem_self hlt
      rw [e1]
      refine (C.2 a _ w).mono ?_
      rintro e w' ⟨rfl, rfl⟩
      exact ⟨_, γ, rfl, Step.refl _ γ (Nat.le_refl _), I, rt _ _ _, Fr.refl _ _⟩
    · obtain ⟨k1, k2, k3, k4⟩ := I.ok o _ g0 ho hg
      have hcap : 0 < g0.cap - off := by omega
      have ha := ha hcap
      subst ha
      obtain ⟨A, tv, e1, e2, e3⟩ := k4 (by omega)
      have hown := I.own o _ g0 ho hg (by simp [owns]; omega)
      have hrow : (off + len) * 3 ≤ g0.cap * 3 := Nat.mul_le_mul_right _ (by omega)
      have hel : ∀ i, i < len → ∃ v, vs[i]? = some v ∧ es[off + i]? = some v.cells := by
        intro i hi
        refine ⟨vs[i]'(by omega), List.getElem?_eq_getElem (by omega), ?_⟩
        have q1 : ((es.drop off).take len)[i]? = (vs.map Val.cells)[i]? := by rw [hvs]
        rw [List.getElem?_take_of_lt hi, List.getElem?_drop, List.getElem?_map, List.getElem?_eq_getElem (show i < vs.length by omega)] at q1
        exact q1
      have hH : HoldsK encV3 3 w g0.b (g0.base + off * 3) vs.toArray := by
        intro p hp
        rw [size_flatK] at hp
        rw [get_flatK _ _ _ _ hp]
        have hp' : p < len * 3 := by simpa [hvl] using hp
        obtain ⟨v, hv1, hv2⟩ := hel (p / 3) (by omega)
        have hj : p % 3 < v.cells.length := by simp only [Val.cells, List.length_cons, List.length_nil]; omega
        obtain ⟨y, u1, u2, u3⟩ := e3 _ _ hv2 (p % 3) _ (List.getElem?_eq_getElem hj)
        have hy := cell_val v (p % 3) _ y (List.getElem?_eq_getElem hj) u3
        have hd : vs.toArray[p / 3]! = v := by
          rw [getElem!_def, List.getElem?_toArray, hv1]
        have hy2 : (encV3 v)[p % 3]! = y := by rw [getElem!_def, hy]
        constructor
        · simp only [World.cell?, e1]
          rw [hd, hy2]
          simp
          rw [← u1]; congr 1; omega
        · simp [World.frozen?, e1]
      have hcl := cmp_lays L hD I (blk := g0.b) ⟨o, _, g0, ho, hg, by simp [owns]; omega, rfl⟩ hown.1 (g0.base + off * 3) vs.length
      rw [hc] at hcl
      have hC := C.1 vs g0.b (g0.base + off * 3) (g0.cap - off) w hcl hH hown.1 (by omega)
      rw [hvl] at hC
      refine hC.mono ?_
      rintro e w' ⟨rfl, m, os, rfl⟩
      obtain ⟨D, hD⟩ : ∃ D, D = putCells id (g0.base + off * 3) (flatK encV3 3 (sortV vs).toArray) A := ⟨_, rfl⟩
      have hDs : D.size = A.size := by rw [hD]; simp [putCells]
      have hsl : (sortV vs).length = len := by rw [sortV_len, hvl]
      have hDg : ∀ k, k < A.size → D[k]? = if g0.base + off * 3 ≤ k ∧ k < g0.base + off * 3 + len * 3 then some ((encV3 ((sortV vs).toArray[(k - (g0.base + off * 3)) / 3]!))[(k - (g0.base + off * 3)) % 3]!) else A[k]? := by
        intro k hk
        rw [hD]
        simp only [putCells, Array.getElem?_mapIdx, Array.getElem?_eq_getElem hk, Option.map_some, size_flatK, List.size_toArray, hsl, id]
        split
        · rename_i hc
          rw [get_flatK _ _ _ _ (by simp only [List.size_toArray, hsl]; omega)]
        · rfl
      have hnl : (es.take off ++ ((sortV vs).map Val.cells ++ es.drop (off + len))).length = es.length := by
        simp only [List.length_append, List.length_take, List.length_map, List.length_drop, hsl]; omega
      obtain ⟨s1, s2⟩ := set_row (x' := .arr ver 3 (es.take off ++ ((sortV vs).map Val.cells ++ es.drop (off + len)))) (ws := D) I ho hg (by simp [owns]; omega) (.same _ _ _ _ _ hnl)
      have J := s2 (by
        refine arr_obj (D := D) (ty := tv) s1 k1 (by rw [hnl]; exact k2) (fun e' he' => ?_) (fun _ => ⟨setRow_heap w g0.b A _ tv _ e1, by rw [hDs]; exact e2⟩) (fun i e' hi j x hx => ?_)
        · simp only [List.mem_append, List.mem_map] at he'
          rcases he' with h' | ⟨v, _, rfl⟩ | h'
          · exact k3 e' (List.mem_of_mem_take h')
          · rfl
          · exact k3 e' (List.mem_of_mem_drop h')
        · have htl : (es.take off).length = off := by simp; omega
          have hj3 : ∀ e'' : List AV, e''.length = 3 → e''[j]? = some x → j < 3 := by
            intro e'' hl hh
            have := lt_of_get hh
            omega
          rcases Nat.lt_or_ge i off with hio | hio
          · have hi2 : es[i]? = some e' := by
              rw [List.getElem?_append_left (by omega), List.getElem?_take_of_lt hio] at hi
              exact hi
            have hj := hj3 e' (k3 e' (List.mem_of_getElem? hi2)) hx
            obtain ⟨u, u1, u2, u3⟩ := e3 i e' hi2 j x hx
            refine ⟨u, ?_, u2, u3⟩
            rw [hDg _ (lt_of_getA u1), if_neg (by omega)]
            exact u1
          · rcases Nat.lt_or_ge i (off + len) with hil | hil
            · have hi2 : ((sortV vs).map Val.cells)[i - off]? = some e' := by
                rw [List.getElem?_append_right (by omega), htl, List.getElem?_append_left (by simp; omega)] at hi
                exact hi
              rw [List.getElem?_map, List.getElem?_eq_getElem (show i - off < (sortV vs).length by omega)] at hi2
              simp at hi2
              subst hi2
              have hj := hj3 _ rfl hx
              obtain ⟨u, u1, u2, u3⟩ := val_cell (tab := tab) (w := w) (S := Stab w F σ γ) _ j x hx
              refine ⟨u, ?_, u2, u3⟩
              rw [hDg _ (by omega), if_pos (by omega)]
              have q1 : (g0.base + i * 3 + j - (g0.base + off * 3)) / 3 = i - off := by omega
              have q2 : (g0.base + i * 3 + j - (g0.base + off * 3)) % 3 = j := by omega
              rw [q1, q2]
              congr 1
              rw [getElem!_def (sortV vs).toArray, List.getElem?_toArray, List.getElem?_eq_getElem (show i - off < (sortV vs).length by omega)]
              rw [getElem!_def, u1]
            · have hi2 : es[i]? = some e' := by
                rw [List.getElem?_append_right (by omega), htl, List.getElem?_append_right (by simp; omega), List.getElem?_drop, List.length_map, hsl, show off + len + (i - off - len) = i by omega] at hi
                exact hi
              have hj := hj3 e' (k3 e' (List.mem_of_getElem? hi2)) hx
              obtain ⟨u, u1, u2, u3⟩ := e3 i e' hi2 j x hx
              refine ⟨u, ?_, u2, u3⟩
              rw [hDg _ (lt_of_getA u1), if_neg (by omega)]
              exact u1)
      have hheap : ∀ b, b < w.heap.size → (sortWorldK encV3 3 w g0.b (g0.base + off * 3) m (sortV vs).toArray os).heap[b]? = (w.setRow g0.b D).heap[b]? := by
        intro b hb
        have hgr : (sortWorldK encV3 3 w g0.b (g0.base + off * 3) m (sortV vs).toArray os).heap[b]? = (w.heap.modify g0.b (onCells (putCells id (g0.base + off * 3) (flatK encV3 3 (sortV vs).toArray))))[b]? := by
          show ((w.heap.modify g0.b (onCells (putCells id (g0.base + off * 3) (flatK encV3 3 (sortV vs).toArray)))) ++ os)[b]? = _
          rw [Array.getElem?_append_left (by simpa using hb)]
        rw [hgr]
        by_cases hbb : b = g0.b
        · subst hbb
          rw [setRow_heap w g0.b A _ tv _ e1, Array.getElem?_modify, if_pos rfl, e1, hD]; rfl
        · rw [setRow_other w g0.b b _ (by omega), Array.getElem?_modify, if_neg (by omega)]
      obtain ⟨t1, t2⟩ := still (w1 := sortWorldK encV3 3 w g0.b (g0.base + off * 3) m (sortV vs).toArray os) J rfl rfl rfl (by
        show _ ≤ ((w.heap.modify g0.b (onCells (putCells id (g0.base + off * 3) (flatK encV3 3 (sortV vs).toArray)))) ++ os).size
        simp) (fun b hb => hheap b (by simpa using hb)) (Nat.le_add_right _ _)
      refine ⟨_, γ, rfl, s1.trans (by simpa using t1), t2, rt _ _ _, ?_⟩
      intro b hb hf o' x hob hx'
      by_cases e : o' = o
      · subst e
        rw [List.getElem?_set_self (lt_of_get ho)] at hx'
        simp at hx'; subst hx'; rfl
      · rw [List.getElem?_set_ne (fun h => e h.symm)] at hx'
        exact hf o' x hob hx'
theorem sort_ok {f g : FuncId} {c : Nat} (hc : tab c = g) (C : SortC P f g) {G : Nat → Option AFunc} (L : Link P tab G) (hD : ∀ x y : Val, Den G c [.agg x.cells, .agg y.cells] [] = some (.int .i64 (cmpV x y), [])) : XOk P tab f (.sort c) := by
  intro args r σ σ' h w F γ vals I A
  have h : xSort c args σ = some (r, σ') := h
  unfold xSort at h
  split at h
  · rename_i o ver n off len f'
    split at h
    · rename_i ver' sz es ho
      split at h
      · rename_i hcnd
        obtain ⟨rfl, rfl, hn, rfl, hle, hbig⟩ := hcnd
        obtain ⟨vs, hv, he⟩ := Option.map_eq_some_iff.1 h
        simp at he; obtain ⟨rfl, rfl⟩ := he
        obtain ⟨hl, hA⟩ := A
        match vals, hl, hA with
        | [u, v], _, hA =>
          have h1 := hA 0 _ _ rfl rfl
          have h2 := hA 1 _ _ rfl rfl
          obtain ⟨us, rfl, hul, _⟩ := fn_open2 h2
          have : us = [] := List.eq_nil_of_length_eq_zero (by simpa using hul)
          subst this
          have := sort_osl (tab := tab) C L hc hD I h1 ho hn hle hbig hv
          rw [hc]
          exact this
      · exact absurd h (by simp)
    · exact absurd h (by simp)
  · exact absurd h (by simp)
end
end Go.Den
