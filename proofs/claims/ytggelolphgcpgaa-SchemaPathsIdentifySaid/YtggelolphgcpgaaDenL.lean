/- len, index, slicing, operators, function values. -/
import Derived.Test.YtggelolphgcpgaaDenK
namespace Go.Den
open Go

section
variable {P : Program} {tab : Nat → Nat}
theorem int_eq {w : World} {S : Nat → Prop} {σ : St} {γ : List Gh} {k : IntKind} {n : Int} {v : Value} (h : RV tab w S σ γ (.int k n) v) : v = .int k n := by
  cases h.frozen rfl; rfl
theorem bool_eq {w : World} {S : Nat → Prop} {σ : St} {γ : List Gh} {b : Bool} {v : Value} (h : RV tab w S σ γ (.bool b) v) : v = .bool b := by
  cases h.frozen rfl; rfl
theorem str_eq {w : World} {S : Nat → Prop} {σ : St} {γ : List Gh} {b : ByteArray} {v : Value} (h : RV tab w S σ γ (.str b) v) : v = .string b := by
  cases h.frozen rfl; rfl
theorem len_elems {w : World} {F : Nat → Prop} {base : Nat} {σ : St} {γ : List Gh} {t e ty : TypeId} {x : AV} {v : Value} {es : List (List AV)} {tt : Bool} (I : Inv tab w F σ γ) (ht : P.underlying t = some (.slice e)) (hx : RS tab w F σ γ x v) (he : elems σ x = some (es, tt)) :
    Done tab F base w σ γ ((val (Builtin.len_ #[t] ty #[v])).run P w) (.int .i64 es.length) σ := by
  obtain ⟨a, cap, rfl, _, _⟩ := elems_ok I hx he
  exact done_same I (val_run (by simp [Builtin.len_, run_underlying ht, goInt])) (.fz _ _ (.int _ _))
theorem len_str {w : World} {F : Nat → Prop} {base : Nat} {σ : St} {γ : List Gh} {t ty : TypeId} {s : ByteArray} {v : Value} (I : Inv tab w F σ γ) (ht : P.underlying t = some .string) (hx : RS tab w F σ γ (.str s) v) :
    Done tab F base w σ γ ((val (Builtin.len_ #[t] ty #[v])).run P w) (.int .i64 s.size) σ := by
  cases hx.frozen rfl with
  | str => exact done_same I (val_run (by simp [Builtin.len_, run_underlying ht, goInt])) (.fz _ _ (.int _ _))
theorem index_str {w : World} {F : Nat → Prop} {base : Nat} {σ : St} {γ : List Gh} {t : TypeId} {s : ByteArray} {k : IntKind} {i : Int} {b : UInt8} {u v : Value} (I : Inv tab w F σ γ) (ht : P.underlying t = some .string) (hx : RS tab w F σ γ (.str s) v) (hi : RS tab w F σ γ (.int k i) u)
    (h0 : 0 ≤ i) (hb : s.data[i.toNat]? = some b) : Done tab F base w σ γ ((val (Instr.index t v u)).run P w) (.int .u8 b.toNat) σ := by
  cases hx.frozen rfl with
  | str =>
    cases hi.frozen rfl with
    | int =>
      have hb' : s[i.toNat]? = some b := by
        have hlt := (Array.getElem?_eq_some_iff.1 hb).1
        have : s[i.toNat]? = some (s[i.toNat]'hlt) := getElem?_pos s i.toNat hlt
        rw [this]
        have e := (Array.getElem?_eq_some_iff.1 hb).2
        show some (s.data[i.toNat]) = some b
        rw [e]
      exact done_same I (val_run (by simp [Instr.index, asIntOf, run_underlying ht, h0, hb'])) (.fz _ _ (.int _ _))

/-- A bound of a slice expression. -/
def chkO (tab : Nat → Nat) : Option Operand → Option Opd → Bool
  | none, none => true
  | some x, some y => chkOpd tab x y
  | _, _ => false
theorem bound_run {w : World} {F : Nat → Prop} {σ : St} {γ : List Gh} {env : Env} {a : Act} (E : EnvOk tab w F σ γ env a.tmps) {x : Operand} {y : Opd} (h : chkOpd tab x y = true) {d n : Nat} (hb : bound env d (some y) = some n) (m : Nat) (hm : n ≤ m) (c : BoundsCode) :
    (Instr.sliceBound (a.eval x) m c).run P w = .ok n w := by
  have hx := opd_ok E h
  simp only [bound] at hb
  split at hb
  · rename_i k i hi
    rw [hi] at hx
    split at hb
    · rename_i h0
      simp at hb; subst hb
      have h1 : i ≤ m := by omega
      simp [Instr.sliceBound, int_eq hx, asIntOf, h0, h1]
    · exact absurd hb (by simp)
  · exact absurd hb (by simp)
theorem bounds_run {w : World} {F : Nat → Prop} {σ : St} {γ : List Gh} {env : Env} {a : Act} (E : EnvOk tab w F σ γ env a.tmps) {lo hi : Option Operand} {lo' hi' : Option Opd} (h1 : chkO tab lo lo' = true) (h2 : chkO tab hi hi' = true) {len cap l h : Nat} {sl : Bool}
    (hl : bound env 0 lo' = some l) (hh : bound env len hi' = some h) (hle : l ≤ h) (hc : h ≤ cap) :
    (Instr.sliceBounds sl len cap (lo.map a.eval) (hi.map a.eval) none).run P w = .ok (l, h, cap) w := by
  have r1 : ((match (hi.map a.eval) with
      | some v => Instr.sliceBound v cap (if sl then .sliceAcap else .sliceAlen)
      | none => pure len : Sem Nat)).run P w = .ok h w := by
    cases hi with
    | none =>
      cases hi' with
      | none => simp [bound] at hh; subst hh; rfl
      | some y => simp [chkO] at h2
    | some x =>
      cases hi' with
      | none => simp [chkO] at h2
      | some y => exact bound_run E (by simpa [chkO] using h2) hh cap hc _
  have r2 : ((match (lo.map a.eval) with
      | some v => Instr.sliceBound v h .sliceB
      | none => pure 0 : Sem Nat)).run P w = .ok l w := by
    cases lo with
    | none =>
      cases lo' with
      | none => simp [bound] at hl; subst hl; rfl
      | some y => simp [chkO] at h1
    | some x =>
      cases lo' with
      | none => simp [chkO] at h1
      | some y => exact bound_run E (by simpa [chkO] using h1) hl h hle _
  cases hi <;> cases lo <;> simp only [Instr.sliceBounds, Option.map_none, Option.map_some, Sem.run_bind, Sem.run_pure, Result.andThen_ok, Option.isSome_none, Bool.false_eq_true, if_false] at r1 r2 ⊢ <;> simp_all
theorem bounds_run3 {w : World} {F : Nat → Prop} {σ : St} {γ : List Gh} {env : Env} {a : Act} (E : EnvOk tab w F σ γ env a.tmps) {lo hi : Option Operand} {mx : Operand} {lo' hi' : Option Opd} {mx' : Opd} (h1 : chkO tab lo lo' = true) (h2 : chkO tab hi hi' = true) (h3 : chkOpd tab mx mx' = true) {len cap l h m d d' : Nat} {sl : Bool}
    (hs : hi.isSome = true) (hl : bound env 0 lo' = some l) (hh : bound env d hi' = some h) (hm : bound env d' (some mx') = some m) (hle : l ≤ h) (hc : h ≤ m) (hcc : m ≤ cap) :
    (Instr.sliceBounds sl len cap (lo.map a.eval) (hi.map a.eval) (some (a.eval mx))).run P w = .ok (l, h, m) w := by
  cases hi with
  | none => simp at hs
  | some x =>
    cases hi' with
    | none => simp [chkO] at h2
    | some y =>
      have r0 := fun c => bound_run (P := P) E h3 hm cap hcc c
      have r1 := fun c => bound_run (P := P) E (by simpa [chkO] using h2) hh m hc c
      cases lo with
      | none =>
        cases lo' with
        | none =>
          simp [bound] at hl; subst hl
          simp [Instr.sliceBounds, r0, r1]
        | some y => simp [chkO] at h1
      | some x' =>
        cases lo' with
        | none => simp [chkO] at h1
        | some y' =>
          have r2 := fun c => bound_run (P := P) E (by simpa [chkO] using h1) hl h hle c
          simp [Instr.sliceBounds, r0, r1, r2]
theorem slice_str {w : World} {F : Nat → Prop} {base : Nat} {σ : St} {γ : List Gh} {env : Env} {a : Act} {t : TypeId} {s : ByteArray} {v : Value} (I : Inv tab w F σ γ) (E : EnvOk tab w F σ γ env a.tmps) (ht : P.underlying t = some .string) (hx : RS tab w F σ γ (.str s) v)
    {lo hi : Option Operand} {lo' hi' : Option Opd} (h1 : chkO tab lo lo' = true) (h2 : chkO tab hi hi' = true) {l h : Nat} (hl : bound env 0 lo' = some l) (hh : bound env s.size hi' = some h) (hle : l ≤ h) (hc : h ≤ s.size) :
    Done tab F base w σ γ ((val (Instr.sliceAt t v (lo.map a.eval) (hi.map a.eval) none)).run P w) (.str (s.extract l h)) σ := by
  have r := bounds_run (P := P) (sl := false) E h1 h2 hl hh hle hc
  exact done_same I (val_run (by rw [str_eq hx]; simp [Instr.sliceAt, Instr.slice, run_underlying ht, r])) (.fz _ _ (.str _))
/-- A slice of a slice that reads as es, from l to h. -/
theorem slice_run {w : World} {t e : TypeId} {sz : Nat} (ht : P.underlying t = some (.slice e)) (hs : szB P e sz = true) {a : Option Addr} {len cap l h m : Nat} {lo hi mx : Option Value} (hr : (Instr.sliceBounds true len cap lo hi mx).run P w = .ok (l, h, m) w) :
    (Instr.sliceAt t (.slice a len cap) lo hi mx).run P w = .ok (.slice (if m = l then a else a.map (·.add (l * sz))) (h - l) (m - l)) w := by
  simp [Instr.sliceAt, Instr.slice, run_underlying ht, hr, run_sz hs]
theorem slice_sl {w : World} {F : Nat → Prop} {σ : St} {γ : List Gh} {sz l h m : Nat} {es : List (List AV)} {a : Option Addr} {cap : Nat} (hx : RS tab w F σ γ (.sl es) (.slice a es.length cap)) (hz : szOK sz es) (hle : l ≤ h) (hh : h ≤ es.length) (hm : h ≤ m) :
    RS tab w F σ γ (.sl ((es.drop l).take (h - l))) (.slice (if m = l then a else a.map (·.add (l * sz))) (h - l) (m - l)) := by
  by_cases h0 : h = l
  · subst h0
    simp
    exact .fz _ _ (.sl0 _ _)
  · have hl : ((es.drop l).take (h - l)).length = h - l := by simp; omega
    cases hx.frozen rfl with
    | sl0 a c => simp at hh; omega
    | sl b off sz' cap _ vs hb hz' hl' hc hs hr =>
      have hss : sz' = sz := by
        have hne : 0 < es.length := by omega
        rw [← hz' es[0] (List.getElem_mem hne), hz es[0] (List.getElem_mem hne)]
      subst hss
      rw [if_neg (by omega)]
      simp only [Option.map_some, add_none]
      have hget : ∀ (i : Nat) (e : List AV), ((es.drop l).take (h - l))[i]? = some e → es[l + i]? = some e := by
        intro i e hi
        have hil : i < h - l := by have := lt_of_get hi; omega
        rw [List.getElem?_take_of_lt hil, List.getElem?_drop] at hi
        exact hi
      have := RF.sl (tab := tab) (w := w) (S := Stab w F σ γ) b (off + l * sz') sz' (m - l) ((es.drop l).take (h - l)) (fun i j => vs (l + i) j) hb (fun e he => hz e (List.mem_of_mem_drop (List.mem_of_mem_take he))) (by omega)
        (fun i e hi j x hx => by
          have := hc _ e (hget i e hi) j x hx
          rw [← this]; congr 2; rw [Nat.add_mul]; omega)
        (fun i e hi j x hx => hs _ e (hget i e hi) j x hx) (fun i e hi j x hx => hr _ e (hget i e hi) j x hx)
      rw [hl] at this
      exact .fz _ _ this
theorem sl_open {w : World} {F : Nat → Prop} {σ : St} {γ : List Gh} {es : List (List AV)} {v : Value} (h : RS tab w F σ γ (.sl es) v) : ∃ a cap, v = .slice a es.length cap ∧ es.length ≤ cap := by
  cases h.frozen rfl with
  | sl0 a c => exact ⟨a, c, rfl, Nat.zero_le _⟩
  | sl b off sz' cap _ vs hb hz' hl' hc hs hr => exact ⟨_, cap, rfl, hl'⟩
theorem nils_open {w : World} {F : Nat → Prop} {σ : St} {γ : List Gh} {v : Value} (h : RS tab w F σ γ .nils v) : ∃ a, v = .slice a 0 0 := by
  cases h.frozen rfl with
  | nils a => exact ⟨a, rfl⟩
theorem slice_osl {w : World} {F : Nat → Prop} {base : Nat} {σ : St} {γ : List Gh} {t e : TypeId} {sz o ver n off len l h : Nat} {es : List (List AV)} {v : Value} {lo hi : Option Value} (I : Inv tab w F σ γ) (ht : P.underlying t = some (.slice e)) (hs : szB P e sz = true)
    (hx : RS tab w F σ γ (.osl o ver n off len) v) (ho : σ[o]? = some (.arr ver sz es)) (hn : es.length = n) (hle : off + len ≤ n) (hlh : l ≤ h) (hh : h ≤ len)
    (hr : ∀ cap, h ≤ cap → (Instr.sliceBounds true len cap lo hi none).run P w = .ok (l, h, cap) w) :
    Done tab F base w σ γ ((val (Instr.sliceAt t v lo hi none)).run P w) (.osl o ver n (off + l) (h - l)) σ := by
  cases hx with
  | fz _ _ h => exact absurd h.noref (by simp [AV.noref])
  | osl _ _ _ _ _ _ hv0 hO =>
    obtain ⟨x, g, h1, hg, h3⟩ := hO
    rw [ho] at h1; simp at h1; subst h1
    obtain ⟨a, rfl, ha⟩ := h3.2 rfl hn.symm hle
    obtain ⟨k1, k2, k3, k4⟩ := I.ok o _ g ho hg
    have hcap : h ≤ g.cap - off := by omega
    refine done_same I (val_run (slice_run ht hs (hr _ hcap))) (.osl _ _ _ _ _ _ ⟨_, _, _, rfl⟩ ⟨_, g, ho, hg, h3.1, fun _ _ _ => ⟨_, by rw [show g.cap - (off + l) = g.cap - off - l by omega], fun hc => ?_⟩⟩)
    rw [if_neg (by omega), ha (by omega)]
    simp only [Option.map_some, add_none, Nat.add_mul, Nat.add_assoc]
theorem mkfn_ok {w : World} {F : Nat → Prop} {base : Nat} {σ : St} {γ : List Gh} {env : Env} {a : Act} (I : Inv tab w F σ γ) (E : EnvOk tab w F σ γ env a.tmps) {f : Nat} {caps : List Operand} {caps' : List Opd} (h : chkOpds tab caps caps' = true) (hs : (evs env caps').all AV.scalar = true) :
    Done tab F base w σ γ ((val (Instr.makeFunc (.func (tab f)) #[] (caps.map a.eval).toArray)).run P w) (.fn f (evs env caps')) σ := by
  have key : ∀ (caps : List Operand) (caps' : List Opd), chkOpds tab caps caps' = true → (caps.map a.eval).length = (evs env caps').length ∧ ∀ (j : Nat) (x : AV) (v : Value), (evs env caps')[j]? = some x → (caps.map a.eval)[j]? = some v → RS tab w F σ γ x v := by
    intro caps
    induction caps with
    | nil => intro caps' h; cases caps' <;> simp [chkOpds, evs] at h ⊢
    | cons c r ih =>
      intro caps' h
      cases caps' with
      | nil => simp [chkOpds] at h
      | cons c' r' =>
        simp only [chkOpds, Bool.and_eq_true] at h
        obtain ⟨q1, q2⟩ := ih r' h.2
        refine ⟨by simp only [List.map_cons, evs, List.length_cons, q1], fun j x v hx hv => ?_⟩
        cases j with
        | zero => simp [evs] at hx hv; subst hx; subst hv; exact opd_ok E h.1
        | succ j => exact q2 j x v (by simpa [evs] using hx) (by simpa using hv)
  obtain ⟨q1, q2⟩ := key caps caps' h
  exact done_same I (val_run (v := .func (.func (tab f)) #[] (caps.map a.eval).toArray) rfl) (.fn f _ _ q1 (fun j x hx => (List.all_eq_true.1 hs) x (List.mem_of_getElem? hx)) q2)
end
end Go.Den
