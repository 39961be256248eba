/- Code, and calls: the theorem. -/
import Derived.Test.YtggelolphgcpgaaDenV
import Derived.Deep.LoopGhost
import Derived.Scope
namespace Go.Den
open Go

section
variable {P : Program} {tab : Nat → Nat}
def chkCode (P : Program) (tab : Nat → Nat) (N : Nat) : Code → ACode → Bool
  | .skip, .skip => true
  | .label _, .skip => true
  | .region _ ops draw, .region aos _ => chkOpers P tab N ops ops.toList aos && (!draw || chkDraw ops.toList aos [])
  | .region _ ops draw, .dregion aos unord _ => draw && chkOpers P tab N ops ops.toList aos && chkDraw ops.toList aos unord
  | .region _ ops draw, .xregion _ aos unord _ => draw && chkOpers P tab N ops ops.toList aos && chkDrawX ops.toList aos unord
  | .seq a b, .seq a' b' => chkCode P tab N a a' && chkCode P tab N b b'
  | .cond c a b, .cond c' a' b' => chkOpd tab c c' && chkCode P tab N a a' && chkCode P tab N b b'
  | .block id c, .block id' c' => id == id' && chkCode P tab N c c'
  | .loop c, .loop _ _ c' => chkCode P tab N c c'
  | .exit id, .exit id' => id == id'
  | .scope c, c' => chkCode P tab N c c'
  | .ret, .ret => true
  | _, _ => false
theorem pad_ok {w : World} {F : Nat → Prop} {σ : St} {γ : List Gh} (n : Nat) (I : Inv tab w F σ γ) : ∃ γ', Step σ.length w σ γ w (σ ++ List.replicate n Ob.res) γ' ∧ Inv tab w F (σ ++ List.replicate n Ob.res) γ' := by
  refine ⟨γ ++ List.replicate n ⟨0, 0, 0⟩, ?_⟩
  have q1 : ∀ o, o < σ.length → (σ ++ List.replicate n Ob.res)[o]? = σ[o]? := fun o ho => List.getElem?_append_left ho
  have q2 : ∀ o, o < σ.length → (γ ++ List.replicate n (⟨0, 0, 0⟩ : Gh))[o]? = γ[o]? := fun o ho => List.getElem?_append_left (by rw [I.len]; exact ho)
  have q3 : ∀ o x, σ.length ≤ o → (σ ++ List.replicate n Ob.res)[o]? = some x → x = .res := by
    intro o x ho hx
    rw [List.getElem?_append_right ho, List.getElem?_replicate] at hx
    split at hx
    · simpa using hx.symm
    · simp at hx
  have hown : ∀ b, Owned (σ ++ List.replicate n Ob.res) (γ ++ List.replicate n ⟨0, 0, 0⟩) b → Owned σ γ b := by
    rintro b ⟨o, x, g, h1, h2, h3, h4⟩
    rcases Nat.lt_or_ge o σ.length with ho | ho
    · rw [q1 o ho] at h1; rw [q2 o ho] at h2
      exact ⟨o, x, g, h1, h2, h3, h4⟩
    · rw [q3 o x ho h1] at h3; simp [owns] at h3
  have st : Step σ.length w σ γ w (σ ++ List.replicate n Ob.res) (γ ++ List.replicate n ⟨0, 0, 0⟩) := by
    refine ⟨rfl, rfl, rfl, Nat.le_refl _, fun b hb hn => ⟨rfl, fun h => hn (hown b h)⟩, Nat.le_refl _, by simp, fun o x g ho hx hg => ⟨x, g, by rw [q1 o ho]; exact hx, by rw [q2 o ho]; exact hg, ObStep.refl _ _⟩⟩
  refine ⟨st, ⟨by simp [I.len], I.fsz, fun o x g h1 h2 => ?_, fun o x g h1 h2 h3 => ?_, fun o o' x x' g g' h1 h2 h3 h4 h5 h6 h7 => ?_⟩⟩
  · rcases Nat.lt_or_ge o σ.length with ho | ho
    · rw [q1 o ho] at h1; rw [q2 o ho] at h2
      exact ObOk.step st (I.ok o x g h1 h2) (I.ok o x g h1 h2).under (fun _ => rfl)
    · rw [q3 o x ho h1]; trivial
  · rcases Nat.lt_or_ge o σ.length with ho | ho
    · rw [q1 o ho] at h1; rw [q2 o ho] at h2
      exact I.own o x g h1 h2 h3
    · rw [q3 o x ho h1] at h3; simp [owns] at h3
  · rcases Nat.lt_or_ge o σ.length with ho | ho
    · rcases Nat.lt_or_ge o' σ.length with ho' | ho'
      · rw [q1 o ho] at h1; rw [q2 o ho] at h2; rw [q1 o' ho'] at h4; rw [q2 o' ho'] at h5
        exact I.inj o o' x x' g g' h1 h2 h3 h4 h5 h6 h7
      · rw [q3 o' x' ho' h4] at h6; simp [owns] at h6
    · rw [q3 o x ho h1] at h3; simp [owns] at h3
def Ex.to : Ex → Exit
  | .normal => .normal
  | .exit id => .exit id
  | .ret => .ret
theorem runOps_runD {call : CallF} {base : Nat} : ∀ {aos : List AOper} {k : Nat} {env : Env} {σ : St} {S : List (Nat × Foot)} {e : Env} {s : St}, runOps call base aos env σ = some (e, s) → ∃ T, runD call base aos k env σ S = some (e, s, T)
  | [], k, env, σ, S, e, s, h => by simp [runOps] at h; obtain ⟨rfl, rfl⟩ := h; exact ⟨S, rfl⟩
  | ao :: aos, k, env, σ, S, e, s, h => by
    simp only [runOps] at h
    simp only [runD]
    split at h
    · rename_i hw
      split at h
      · rename_i x σ1 t hs
        exact runOps_runD h
      · exact absurd h (by simp)
    · exact runOps_runD h
    · exact absurd h (by simp)
theorem envUnder_get {m : Nat} : ∀ {env : Env}, envUnder m env = true → ∀ t, (env.get t).under m = true
  | [], _, t => rfl
  | (a, v) :: r, h, t => by
    simp only [envUnder, Bool.and_eq_true] at h
    simp only [Env.get]
    split
    · exact h.1
    · exact envUnder_get h.2 t
theorem obsUnder_get {m : Nat} : ∀ {l : List Ob}, obsUnder m l = true → ∀ (j : Nat) (x : Ob), l[j]? = some x → x.under m = true
  | [], _, j, x, h => by simp at h
  | y :: r, h, j, x, hx => by
    simp only [obsUnder, Bool.and_eq_true] at h
    cases j with
    | zero => simp at hx; exact hx ▸ h.1
    | succ j => exact obsUnder_get h.2 j x (by simpa using hx)
theorem gc_ok {w : World} {F : Nat → Prop} {base keep : Nat} {live : List Nat} {σ σ1 : St} {γ : List Gh} {env env1 : Env} {tmps : Array Value} (S : Fst tab F base w σ γ env tmps) (h : gc base keep live env σ = some (env1, σ1)) :
    ∃ γ1, Goes base w σ γ w σ1 γ1 ∧ Fst tab F base w σ1 γ1 env1 tmps := by
  unfold gc at h
  simp only [] at h
  split at h
  · simp at h; obtain ⟨rfl, rfl⟩ := h
    exact ⟨γ, Goes.refl w γ S.hb, S.inv, env_prune S.env live, S.hb, S.frame⟩
  · split at h
    · rename_i hlen hu
      simp at h; obtain ⟨rfl, rfl⟩ := h
      simp only [Bool.and_eq_true] at hu
      have hfr : FrameOk (base + keep) σ := by
        intro o x ho hx
        rcases Nat.lt_or_ge o base with hob | hob
        · exact under_leOb (by omega) (S.frame o x hob hx)
        · refine obsUnder_get hu.2 (o - base) x ?_
          rw [List.getElem?_drop, List.getElem?_take_of_lt (by omega)]
          rw [show base + (o - base) = o by omega]; exact hx
      obtain ⟨h1, h2, h3⟩ := take_ok S.inv (k := base + keep) (by omega) hfr
      refine ⟨γ.take (base + keep), ⟨h1.mono (by omega), h3 base (by omega)⟩, h2, fun t => ?_, by simp; omega, h3 base (by omega) base (Nat.le_refl _) S.frame⟩
      exact (env_prune S.env live t).step h1 (envUnder_get hu.1 t)
    · exact absurd h (by simp)
/-- The abstract run of a piece of code tells what the machine's comes to. -/
theorem exec_ok {call : CallF} {G : Nat → Option AFunc} (C : CallOk P tab call) (hG : ∀ f args σ r, call f args σ = some r → ∃ F, G f = some F) (hN : Named P tab G) (hm : P.follows .mixedOrders = true) {N n : Nat} {F : Nat → Prop} {base : Nat} :
    ∀ (c : Code) (ac : ACode), chkCode P tab N c ac = true → ∀ {env env' : Env} {σ σ' : St} {e : Ex}, exec call n base ac env σ = some (e, env', σ') → ∀ {a : Act} {w : World} {γ : List Gh}, Fst tab F base w σ γ env a.tmps → a.tmps.size = N →
      ∀ {Q : Exit → Act → World → Prop}, (∀ a' w' γ', Goes base w σ γ w' σ' γ' → Fst tab F base w' σ' γ' env' a'.tmps → a'.tmps.size = N → a'.defers = a.defers → Q e.to a' w') → c.wp P Q a w := by
  intro c
  induction c with
  | skip =>
    intro ac hc env env' σ σ' e h a w γ S hsz Q hQ
    cases ac <;> simp [chkCode] at hc
    simp [exec] at h; obtain ⟨rfl, rfl, rfl⟩ := h
    exact wp_skip (hQ a w γ (Goes.refl w γ S.hb) S hsz rfl)
  | label l =>
    intro ac hc env env' σ σ' e h a w γ S hsz Q hQ
    cases ac <;> simp [chkCode] at hc
    simp [exec] at h; obtain ⟨rfl, rfl, rfl⟩ := h
    exact wp_label (hQ a w γ (Goes.refl w γ S.hb) S hsz rfl)
  | exit id =>
    intro ac hc env env' σ σ' e h a w γ S hsz Q hQ
    cases ac <;> simp [chkCode] at hc
    subst hc
    simp [exec] at h; obtain ⟨rfl, rfl, rfl⟩ := h
    exact wp_exit (hQ a w γ (Goes.refl w γ S.hb) S hsz rfl)
  | ret =>
    intro ac hc env env' σ σ' e h a w γ S hsz Q hQ
    cases ac <;> simp [chkCode] at hc
    simp [exec] at h; obtain ⟨rfl, rfl, rfl⟩ := h
    exact wp_ret (hQ a w γ (Goes.refl w γ S.hb) S hsz rfl)
  | region id ops draw =>
    intro ac hc env env' σ σ' e h a w γ S hsz Q hQ
    cases ac <;> simp [chkCode] at hc
    case region aos live =>
      obtain ⟨h1, h2⟩ := hc
      simp only [exec] at h
      split at h
      · rename_i e1 s1 hr
        simp at h; obtain ⟨rfl, rfl, rfl⟩ := h
        cases draw with
        | false =>
          refine wp_region ?_
          have := runOps_ok C hG hN (Q := Q) ops.toList aos 0 (by simp) h1 hr S hsz fun a' w' γ' g f hs hd => hQ a' w' γ' g ⟨f.inv, env_prune f.env live, f.hb, f.frame⟩ hs hd
          rw [List.range_eq_range']
          simpa using this
        | true =>
          obtain ⟨T, hT⟩ := runOps_runD (k := 0) (S := []) hr
          refine wp_region_any hm ?_
          have hst := still (w1 := { w with drawn := w.drawn + 1 }) S.inv rfl rfl rfl (Nat.le_refl _) (fun _ _ => rfl)
          have S1 : Fst tab F base { w with drawn := w.drawn + 1 } σ γ env a.tmps := ⟨hst.2, env_step hst.1 S.env, S.hb, S.frame⟩
          exact any_ok C hG hN h1 (by simpa using h2) hT rfl S1 hsz fun a' w' γ' e' he g f hs hd =>
            hQ a' w' γ' ⟨(hst.1.mono S.hb).trans g.step, g.fr⟩ ⟨f.inv, by rw [← prune_congr he]; exact env_prune f.env live, f.hb, f.frame⟩ hs hd
      · exact absurd h (by simp)
    case dregion aos unord live =>
      obtain ⟨⟨rfl, h1⟩, h2⟩ := hc
      simp only [exec] at h
      split at h
      · rename_i e1 s1 T hr
        split at h
        · rename_i hok
          simp at h; obtain ⟨rfl, rfl, rfl⟩ := h
          refine wp_region_any hm ?_
          have hst := still (w1 := { w with drawn := w.drawn + 1 }) S.inv rfl rfl rfl (Nat.le_refl _) (fun _ _ => rfl)
          have S1 : Fst tab F base { w with drawn := w.drawn + 1 } σ γ env a.tmps := ⟨hst.2, env_step hst.1 S.env, S.hb, S.frame⟩
          exact any_ok C hG hN h1 h2 hr hok S1 hsz fun a' w' γ' e' he g f hs hd =>
            hQ a' w' γ' ⟨(hst.1.mono S.hb).trans g.step, g.fr⟩ ⟨f.inv, by rw [← prune_congr he]; exact env_prune f.env live, f.hb, f.frame⟩ hs hd
        · exact absurd h (by simp)
      · exact absurd h (by simp)
    case xregion res aos unord live =>
      obtain ⟨⟨rfl, h1⟩, h2⟩ := hc
      simp only [exec] at h
      split at h
      · rename_i e1 s1 T hr
        split at h
        · rename_i hok
          simp only [Bool.and_eq_true] at hok
          simp at h; obtain ⟨rfl, rfl, rfl⟩ := h
          refine wp_region_any hm ?_
          have hst := still (w1 := { w with drawn := w.drawn + 1 }) S.inv rfl rfl rfl (Nat.le_refl _) (fun _ _ => rfl)
          obtain ⟨γ2, st2, I2⟩ := pad_ok res hst.2
          have S1 : Fst tab F base { w with drawn := w.drawn + 1 } (σ ++ List.replicate res Ob.res) γ2 env a.tmps := ⟨I2, env_step (hst.1.trans st2) S.env, by simp; have := S.hb; omega, Fr.push S.hb _ base (Nat.le_refl _) S.frame⟩
          exact xany_ok C hG hN h1 h2 hr hok.1 hok.2 S1 hsz fun a' w' γ' e' he g f hs hd =>
            hQ a' w' γ' ⟨((hst.1.trans st2).mono S.hb).trans g.step, (Fr.push S.hb _).trans g.fr⟩ ⟨f.inv, by rw [← prune_congr he]; exact env_prune f.env live, f.hb, f.frame⟩ hs hd
        · exact absurd h (by simp)
      · exact absurd h (by simp)
  | seq x y ihx ihy =>
    intro ac hc env env' σ σ' e h a w γ S hsz Q hQ
    cases ac <;> simp [chkCode] at hc
    rename_i x' y'
    simp only [exec] at h
    refine wp_seq ?_
    cases hx : exec call n base x' env σ with
    | none => simp [hx] at h
    | some q =>
      obtain ⟨e1, env1, σ1⟩ := q
      refine ihx x' hc.1 hx S hsz fun a1 w1 γ1 g1 f1 hs1 hd1 => ?_
      rw [hx] at h
      cases e1 with
      | normal => exact ihy y' hc.2 h f1 hs1 fun a2 w2 γ2 g2 f2 hs2 hd2 => hQ a2 w2 γ2 (g1.trans g2) f2 hs2 (hd2.trans hd1)
      | exit i => simp at h; obtain ⟨rfl, rfl, rfl⟩ := h; exact hQ a1 w1 γ1 g1 f1 hs1 hd1
      | ret => simp at h; obtain ⟨rfl, rfl, rfl⟩ := h; exact hQ a1 w1 γ1 g1 f1 hs1 hd1
  | cond c x y ihx ihy =>
    intro ac hc env env' σ σ' e h a w γ S hsz Q hQ
    cases ac <;> simp [chkCode] at hc
    rename_i c' x' y'
    obtain ⟨⟨h1, h2⟩, h3⟩ := hc
    have hcv := opd_ok S.env h1
    simp only [exec] at h
    split at h
    · rename_i t hev
      rw [hev] at hcv
      refine wp_cond (t := t) (bool_eq hcv) ?_
      cases t with
      | true => exact ihx x' h2 (by simpa using h) S hsz hQ
      | false => exact ihy y' h3 (by simpa using h) S hsz hQ
    · exact absurd h (by simp)
  | block id c ih =>
    intro ac hc env env' σ σ' e h a w γ S hsz Q hQ
    cases ac <;> simp [chkCode] at hc
    rename_i id' c'
    obtain ⟨rfl, h1⟩ := hc
    simp only [exec] at h
    refine wp_block ?_
    cases hx : exec call n base c' env σ with
    | none => simp [hx] at h
    | some q =>
      obtain ⟨e1, env1, σ1⟩ := q
      refine ih c' h1 hx S hsz fun a1 w1 γ1 g1 f1 hs1 hd1 => ?_
      rw [hx] at h
      cases e1 with
      | normal => simp at h; obtain ⟨rfl, rfl, rfl⟩ := h; exact hQ a1 w1 γ1 g1 f1 hs1 hd1
      | ret => simp at h; obtain ⟨rfl, rfl, rfl⟩ := h; exact hQ a1 w1 γ1 g1 f1 hs1 hd1
      | exit i =>
        simp only [] at h
        split at h
        · rename_i hi
          simp at h; obtain ⟨rfl, rfl, rfl⟩ := h
          simp only [Ex.to, Exit.inBlock, hi, if_true]
          exact hQ a1 w1 γ1 g1 f1 hs1 hd1
        · rename_i hi
          simp at h; obtain ⟨rfl, rfl, rfl⟩ := h
          simp only [Ex.to, Exit.inBlock, hi, if_false]
          exact hQ a1 w1 γ1 g1 f1 hs1 hd1
  | loop c ih =>
    intro ac hc env env' σ σ' e h a w γ S hsz Q hQ
    cases ac <;> simp [chkCode] at hc
    rename_i keep live c'
    simp only [exec] at h
    refine wp_loop_ghost (fun k a1 w1 => ∃ env1 σ1 γ1, iter (gc base keep live) (exec call n base c') k env1 σ1 = some (e, env', σ') ∧ Fst tab F base w1 σ1 γ1 env1 a1.tmps ∧ Goes base w σ γ w1 σ1 γ1 ∧ a1.tmps.size = N ∧ a1.defers = a.defers) n
      ⟨env, σ, γ, h, S, Goes.refl w γ S.hb, hsz, rfl⟩ ?_
    rintro k a1 w1 ⟨env1, σ1, γ1, hk, f1, g1, hs1, hd1⟩
    cases k with
    | zero => simp [iter] at hk
    | succ k =>
      simp only [iter] at hk
      split at hk
      · exact absurd hk (by simp)
      · rename_i env2 σ2 hgc
        obtain ⟨γ2, g2, f2⟩ := gc_ok f1 hgc
        cases hx : exec call n base c' env2 σ2 with
        | none => simp [hx] at hk
        | some q =>
          obtain ⟨e3, env3, σ3⟩ := q
          refine ih c' hc hx f2 hs1 fun a3 w3 γ3 g3 f3 hs3 hd3 => ?_
          rw [hx] at hk
          cases e3 with
          | normal => exact ⟨k, by omega, env3, σ3, γ3, hk, f3, (g1.trans g2).trans g3, hs3, hd3.trans hd1⟩
          | exit i => simp at hk; obtain ⟨rfl, rfl, rfl⟩ := hk; exact hQ a3 w3 γ3 ((g1.trans g2).trans g3) f3 hs3 (hd3.trans hd1)
          | ret => simp at hk; obtain ⟨rfl, rfl, rfl⟩ := hk; exact hQ a3 w3 γ3 ((g1.trans g2).trans g3) f3 hs3 (hd3.trans hd1)
  | scope c ih =>
    intro ac hc env env' σ σ' e h a w γ S hsz Q hQ
    have hc' : chkCode P tab N c ac = true := by cases ac <;> simpa [chkCode] using hc
    refine wp_scope_straight (ih ac hc' h S hsz fun a' w' γ' g f hs hd => ?_)
    have := hQ a' w' γ' g f hs hd
    cases e <;> exact this
  | rangeFunc => intro ac hc; cases ac <;> simp [chkCode] at hc
  | goto => intro ac hc; cases ac <;> simp [chkCode] at hc
  | refuse => intro ac hc; cases ac <;> simp [chkCode] at hc
end
end Go.Den
