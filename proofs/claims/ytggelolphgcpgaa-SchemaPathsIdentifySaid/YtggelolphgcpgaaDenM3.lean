/- clear; the bytes of a string. -/
import Derived.Test.YtggelolphgcpgaaDenM2
import Derived.Laws.IdiomStrings
namespace Go.Den
open Go

section
variable {P : Program} {tab : Nat → Nat}
def clearB (P : Program) (t : TypeId) (zs : List AV) : Bool := match elemB P t with
  | some e => zeroB P e zs && szB P e zs.length && decide (0 < zs.length)
  | none => false
theorem zeroCells_get (z : Array Value) (n p : Nat) (h : p < n * z.size) : (Builtin.zeroCells z n)[p]? = some z[p % z.size]! := by
  unfold Builtin.zeroCells
  rw [Array.getElem?_map, Array.getElem?_range]
  simp [h]
theorem zeroCells_size (z : Array Value) (n : Nat) : (Builtin.zeroCells z n).size = n * z.size := by
  unfold Builtin.zeroCells; simp
theorem clear_osl {w : World} {F : Nat → Prop} {base : Nat} {σ : St} {γ : List Gh} {t ty : TypeId} {sz o ver n off len : Nat} {es : List (List AV)} {zs z : List AV} {u : Value} (I : Inv tab w F σ γ) (hB : clearB P t zs = true) (hx : RS tab w F σ γ (.osl o ver n off len) u)
    (ho : σ[o]? = some (.arr ver sz es)) (hn : es.length = n) (hz : zs.length = sz) (hle : off + len ≤ n) (hf : frzCells zs = some z) :
    Done tab F base w σ γ ((val (Builtin.clear_ #[t] ty #[u])).run P w) (.tup []) (σ.set o (.arr ver sz (es.take off ++ List.replicate len z ++ es.drop (off + len)))) := by
  have rt : ∀ (w' : World) (σ' : St) (γ' : List Gh), RS tab w' F σ' γ' (.tup []) (.tuple #[]) := fun w' σ' γ' => .fz _ _ (.tup [] [] rfl (by simp))
  unfold clearB at hB
  cases he : elemB P t with
  | none => simp [he] at hB
  | some e =>
  simp only [he, Bool.and_eq_true, decide_eq_true_eq] at hB
  obtain ⟨⟨h1, h2⟩, h3⟩ := hB
  have ht := elemB_ok he
  cases hx with
  | fz _ _ h => exact absurd h.noref (by simp [AV.noref])
  | osl _ _ _ _ _ _ _ h =>
    obtain ⟨x, g, hx, hg, h⟩ := h
    rw [ho] at hx; simp at hx; subst hx
    obtain ⟨a, hu, ha⟩ := h.2 rfl hn.symm hle
    subst hu
    by_cases h0 : len = 0
    · subst h0
      have e1 : σ.set o (.arr ver sz (es.take off ++ List.replicate 0 z ++ es.drop (off + 0))) = σ := by
        have hlt := lt_of_get ho
        have : es.take off ++ List.replicate 0 z ++ es.drop (off + 0) = es := by simp
        rw [this]
        have := List.getElem?_eq_some_iff.1 ho
        obtain ⟨_, hh⟩ := this
        rw [← hh]; exact List.set_getElem_self hlt
      rw [e1]
      refine done_same I (val_run ?_) (rt w σ γ)
      simp only [Builtin.clear_, List.getElem?_toArray, List.getElem?_cons_zero, Sem.run_bind, run_underlying ht, Result.andThen_ok]
      cases a <;> rfl
    · obtain ⟨f1, f2⟩ := frzCells_ok hf
      obtain ⟨k1, k2, k3, k4⟩ := I.ok o _ g ho hg
      have hcap : 0 < g.cap - off := by omega
      have ha := ha hcap
      subst ha
      obtain ⟨vs, tv, e1, e2, e3⟩ := k4 (by omega)
      obtain ⟨zv, hzr, hzc⟩ := run_zero (P := P) (w := w) h1
      obtain ⟨c1, c2, c3⟩ := constB_go (tab := tab) (w := w) (S := Stab w F σ γ) hzc
      have zsz : zv.cells.size = sz := by simpa [hz] using c1
      have hsz0 : 0 < sz := by omega
      have hrow : (off + len) * sz ≤ g.cap * sz := Nat.mul_le_mul_right _ (by omega)
      rw [Nat.add_mul] at hrow
      have hzcs : (Builtin.zeroCells zv.cells len).toList.length = len * sz := by simp [zeroCells_size, zsz]
      have hle' : g.base + off * sz + (Builtin.zeroCells zv.cells len).toList.length ≤ vs.size := by rw [hzcs]; omega
      have hone : ∀ v ∈ (Builtin.zeroCells zv.cells len).toList, v.oneCell' = true := by
        intro v hv
        obtain ⟨p, hp, ep⟩ := List.getElem_of_mem hv
        rw [hzcs] at hp
        have hg' := zeroCells_get zv.cells len p (by rw [zsz]; exact hp)
        have hm : p % zv.cells.size < zv.cells.size := Nat.mod_lt _ (by omega)
        have hv2 : v = zv.cells[p % zv.cells.size] := by
          have q1 : (Builtin.zeroCells zv.cells len)[p]? = some v := by rw [← Array.getElem?_toList, List.getElem?_eq_getElem (by rw [hzcs]; exact hp), ep]
          rw [hg'] at q1
          simp [hm] at q1
          exact q1.symm
        obtain ⟨xv, hxv⟩ : ∃ xv, zs[p % zv.cells.size]? = some xv := ⟨_, List.getElem?_eq_getElem (by omega)⟩
        have hr := c3 _ xv v hxv (by rw [hv2]; simp [hm])
        exact one_ok (σ := []) (γ := []) (.fz _ _ hr) (c2 _ xv hxv)
      have hrun := run_storeCells_at (P := P) g.b (g.base + off * sz) tv (Builtin.zeroCells zv.cells len).toList 0 vs w e1 (by simpa using hle') hone
      obtain ⟨s1, s2⟩ := set_row (x' := .arr ver sz (es.take off ++ List.replicate len z ++ es.drop (off + len))) (ws := (vs.toList.take (g.base + off * sz) ++ (Builtin.zeroCells zv.cells len).toList ++ vs.toList.drop (g.base + off * sz + (Builtin.zeroCells zv.cells len).toList.length)).toArray) I ho hg (by simp [owns]; omega) (.same _ _ _ _ _ (by simp; omega))
      refine ⟨.tuple #[], _, γ, .inl (val_run (w' := w.setRow g.b _) ?_), s1, s2 ?_, rt _ _ _, ?_⟩
      · obtain ⟨m, rfl⟩ : ∃ m, len = m + 1 := ⟨len - 1, by omega⟩
        simp only [Builtin.clear_, List.getElem?_toArray, List.getElem?_cons_zero, Sem.run_bind, run_underlying ht, Result.andThen_ok, hzr]
        rw [hrun]
        simp
      · refine arr_obj (D := (vs.toList.take (g.base + off * sz) ++ (Builtin.zeroCells zv.cells len).toList ++ vs.toList.drop (g.base + off * sz + (Builtin.zeroCells zv.cells len).toList.length)).toArray) (ty := tv) s1 k1 (by simp; omega) (fun e' he' => ?_) (fun _ => ⟨setRow_heap w g.b vs _ tv _ e1, by rw [overV_size _ _ _ (by simpa using hle')]; exact e2⟩) (fun i e' hi j x hx => ?_)
        · simp only [List.mem_append, List.mem_replicate] at he'
          rcases he' with (h' | h') | h'
          · exact k3 e' (List.mem_of_mem_take h')
          · rw [h'.2, f2, norms_length]; exact hz
          · exact k3 e' (List.mem_of_mem_drop h')
        · rw [overV_get _ _ _ _ (by simpa using hle'), hzcs]
          have hj : j < sz := by
            have h5 := lt_of_get hx
            have h6 : e'.length = sz := by
              have hm := List.mem_of_getElem? hi
              simp only [List.mem_append, List.mem_replicate] at hm
              rcases hm with (h' | h') | h'
              · exact k3 e' (List.mem_of_mem_take h')
              · rw [h'.2, f2, norms_length]; exact hz
              · exact k3 e' (List.mem_of_mem_drop h')
            omega
          have hlt1 : (es.take off).length = off := by simp; omega
          have hlt2 : (es.take off ++ List.replicate len z).length = off + len := by simp; omega
          rcases Nat.lt_or_ge i off with hio | hio
          · have hi2 : es[i]? = some e' := by
              rw [List.append_assoc, List.getElem?_append_left (by omega), List.getElem?_take_of_lt hio] at hi
              exact hi
            obtain ⟨u, u1, u2, u3⟩ := e3 i e' hi2 j x hx
            have : (i + 1) * sz ≤ off * sz := Nat.mul_le_mul_right _ (by omega)
            rw [Nat.add_mul] at this
            rw [if_neg (by omega)]
            exact ⟨u, u1, u2, u3⟩
          · rcases Nat.lt_or_ge i (off + len) with hil | hil
            · have hz' : e' = z := by
                rw [List.getElem?_append_left (by omega), List.getElem?_append_right (by omega), List.getElem?_replicate] at hi
                split at hi
                · simpa using hi.symm
                · exact absurd hi (by simp)
              subst hz'
              have q1 : off * sz ≤ i * sz := Nat.mul_le_mul_right _ hio
              have q2 : (i + 1) * sz ≤ (off + len) * sz := Nat.mul_le_mul_right _ (by omega)
              rw [Nat.add_mul, Nat.add_mul] at q2
              rw [if_pos (by omega)]
              rw [f2, norms_get] at hx
              cases hcj : zs[j]? with
              | none => simp [hcj] at hx
              | some y =>
                simp [hcj] at hx; subst hx
                have hjv : j < zv.cells.size := by omega
                refine ⟨zv.cells[j], ?_, norm_scalar (c2 j y hcj), (c3 j y _ hcj (by simp [hjv])).norm⟩
                have hp : g.base + i * sz + j - (g.base + off * sz) = (i - off) * sz + j := by rw [Nat.sub_mul]; omega
                have hpl : (i - off) * sz + j < len * sz := by
                  have : (i - off + 1) * sz ≤ len * sz := Nat.mul_le_mul_right _ (by omega)
                  rw [Nat.add_mul] at this; omega
                rw [hp, Array.getElem?_toList, zeroCells_get _ _ _ (by rw [zsz]; exact hpl), zsz]
                have hm : ((i - off) * sz + j) % sz = j := by rw [Nat.mul_comm, Nat.mul_add_mod, Nat.mod_eq_of_lt hj]
                rw [hm]
                simp [hjv]
            · have hi2 : es[i]? = some e' := by
                rw [List.getElem?_append_right (by omega), List.getElem?_drop, hlt2, show off + len + (i - (off + len)) = i by omega] at hi
                exact hi
              obtain ⟨u, u1, u2, u3⟩ := e3 i e' hi2 j x hx
              have : (off + len) * sz ≤ i * sz := Nat.mul_le_mul_right _ hil
              rw [Nat.add_mul] at this
              rw [if_neg (by omega)]
              exact ⟨u, u1, u2, u3⟩
      · exact Fr.set fun b _ _ _ => rfl
theorem tobytes_ok {w : World} {F : Nat → Prop} {base : Nat} {σ : St} {γ : List Gh} {src dst e : TypeId} {s : ByteArray} {v : Value} (I : Inv tab w F σ γ) (hs : P.underlying src = some .string) (hd : P.underlying dst = some (.slice e)) (he : P.underlying e = some (.int .u8))
    (hx : RS tab w F σ γ (.str s) v) : Done tab F base w σ γ ((val (convert src dst v)).run P w) (.sl (s.data.toList.map fun b => [AV.int .u8 b.toNat])) σ := by
  rw [str_eq hx]
  have hrun := run_bytes_of_string (P := P) w src dst e s hs hd he
  have st0 : Step σ.length w σ γ { w with drawn := w.drawn + 1 } σ γ ∧ Inv tab { w with drawn := w.drawn + 1 } F σ γ := still I rfl rfl rfl (Nat.le_refl _) (fun _ _ => rfl)
  have hge := grownCap_ge w s.size 0 e
  generalize grownCap w s.size 0 e = cap at *
  obtain ⟨h1, h2⟩ := free_push st0.2 (.cells (bytesRow s cap) e ((bytesRow s cap).size, (bytesRow s cap).size + 1))
  refine ⟨_, _, γ, .inl (val_run hrun), st0.1.trans h1, h2, .fz _ _ ?_, Fr.refl _ _⟩
  have hl : (s.data.toList.map fun b => [AV.int .u8 b.toNat]).length = s.size := by rw [List.length_map, Array.length_toList]; rfl
  rw [← hl]
  refine row_sl (D := bytesRow s cap) (sz := 1) (free_stab st0.2 _) ⟨e, _, Array.getElem?_push_size⟩ (by simp) (by omega) (fun i el hi j x hx => ?_)
  simp at hi
  obtain ⟨b, hb, rfl⟩ := hi
  cases j with
  | zero =>
    simp at hx; subst hx
    refine ⟨.int .u8 b.toNat, ?_, rfl, .int _ _⟩
    have hlt : i < s.data.size := (Array.getElem?_eq_some_iff.1 hb).1
    unfold bytesRow
    rw [Array.getElem?_append_left (by simpa using hlt)]
    simpa using ⟨b, by simpa using hb, rfl⟩
  | succ j => simp at hx
end
end Go.Den
