/- Texts read back. -/
import Derived.Test.YtimlnhpiddfbaaaDoorS5U
namespace Go.Den
open Go
set_option linter.unusedSimpArgs false
set_option linter.unusedVariables false
set_option maxRecDepth 100000
set_option maxHeartbeats 1000000
theorem value_plain (c : UInt8) : Den prog 429 [.int .u8 (c.toNat : Int)] [] = some (.bool (plainC c.toNat), []) := by
  rw [Den_ofK [] pr_value_plain rfl, plainC_eq]
  cases g1 : decide (32 ≤ (c.toNat : Int)) <;> cases g2 : decide ((c.toNat : Int) ≤ 126) <;> cases g3 : decide ((c.toNat : Int) = 34) <;> cases g4 : decide ((c.toNat : Int) = 92) <;>
  simp only [f_value_plain, g1, g2, g3, g4, Bool.not_true, Bool.not_false, Bool.and_self, Bool.and_true, Bool.and_false, Bool.false_and, go_sem]
def hexS : List UInt8 := [48, 49, 50, 51, 52, 53, 54, 55, 56, 57, 97, 98, 99, 100, 101, 102]
theorem idx_all : ∀ c : Fin 256, -1 ≤ Lib.indexByte hexS (UInt8.ofNat c.val) ∧ Lib.indexByte hexS (UInt8.ofNat c.val) ≤ 15 := by decide +kernel
theorem idx_bnd (c : UInt8) : -1 ≤ Lib.indexByte hexS c ∧ Lib.indexByte hexS c ≤ 15 := by
  have h := idx_all ⟨c.toNat, c.toNat_lt⟩
  simpa using h
theorem idx_hex : ∀ k : Fin 16, Lib.indexByte hexS (hexC k.val) = k.val := by decide +kernel
theorem x_idx (c : UInt8) : Den prog 430 [.str ⟨#[48, 49, 50, 51, 52, 53, 54, 55, 56, 57, 97, 98, 99, 100, 101, 102]⟩, .int .u8 (c.toNat : Int)] [] = some (.int .i64 (Lib.indexByte hexS c), []) := by
  rw [Den_x [] pr_strings_IndexByte rfl]
  have e : (c.toNat : Int).toNat.toUInt8 = c := by simp
  show some (AV.int .i64 (Lib.indexByte hexS (c.toNat : Int).toNat.toUInt8), ([] : St)) = _
  rw [e]
theorem hl_all : ∀ p : Fin 256, IntKind.wrap .u8 (orI .i64 (shlI .i64 ((p.val / 16 : Nat) : Int) 4) ((p.val % 16 : Nat) : Int)) = (p.val : Int) := by decide +kernel
theorem hl_or (a b : Nat) (ha : a < 16) (hb : b < 16) : IntKind.wrap .u8 (orI .i64 (shlI .i64 (a : Int) 4) (b : Int)) = ((16 * a + b : Nat) : Int) := by
  have h := hl_all ⟨16 * a + b, by omega⟩
  simp only [] at h
  rw [show (16 * a + b) / 16 = a by omega, show (16 * a + b) % 16 = b by omega] at h
  exact h
/-- The texts of a plain or of a quoted byte. -/
theorem quoteC_cases (q : List UInt8) : quoteC q = [] ∧ q = [] ∨ (∃ x q', q = x :: q' ∧ plainC x.toNat = true ∧ quoteC q = x :: quoteC q') ∨ (∃ x q', q = x :: q' ∧ plainC x.toNat = false ∧ quoteC q = 92 :: 120 :: hexC (x.toNat / 16) :: hexC (x.toNat % 16) :: quoteC q') := by
  cases q with
  | nil => exact .inl ⟨rfl, rfl⟩
  | cons x q' =>
    cases h : plainC x.toNat with
    | true => exact .inr (.inl ⟨x, q', rfl, h, by simp [quoteC, quote1, h]⟩)
    | false => exact .inr (.inr ⟨x, q', rfl, h, by simp [quoteC, quote1, h]⟩)
theorem plain92 : plainC (92 : UInt8).toNat = false := by decide
theorem plain34 : plainC (34 : UInt8).toNat = false := by decide
theorem unq_l0 (K : Ex × Env × St → Option (AV × St)) (Z : List UInt8 → Bool → Option (AV × St)) (hK : ∀ rest out : List UInt8, out.length < 2000000000 → ∀ (x : AV) (n : Nat) (env : Env), env.get 0 = .str (ba rest) → env.get 4 = .osl 0 0 out.length 0 out.length → K (.exit 0, env, [.arr 0 1 (out.map bcell)]) = Z out (decide (rest = []))) :
    ∀ (k : Nat) (rest out : List UInt8), rest.length ≤ k → out.length + rest.length < 1000000000 → ∃ r b, (Run prog 0 (.loop 1 [0, 4] f_value_unquote_l0) [(0, .str (ba rest)), (4, .osl 0 0 out.length 0 out.length)] [.arr 0 1 (out.map bcell)]).bind K = Z r b ∧ ∀ q, rest = quoteC q → r = out ++ q ∧ b = true := by
  intro k
  induction k with
  | zero =>
    intro rest out h1 h2
    have hr : rest = [] := List.length_eq_zero_iff.1 (by omega)
    subst hr
    have d : decide ((0 : Int) < ((0 : Nat) : Int)) = false := rfl
    refine ⟨out, true, ?_, fun q hq => ?_⟩
    · rw [Run_loop]
      simp only [f_value_unquote_l0_eq, f_value_unquote_l0u, ba_size, List.length_nil, d, go_sem]
      rw [hK [] out (by omega) (.dead) 0 _ (by simp [Env.get]) (by simp [Env.get])]
      rfl
    · rcases quoteC_cases q with ⟨_, e⟩ | ⟨x, q', _, _, e⟩ | ⟨x, q', _, _, e⟩
      · subst e; simp
      · rw [e] at hq; simp at hq
      · rw [e] at hq; simp at hq
  | succ k ih =>
    intro rest out h1 h2
    cases rest with
    | nil =>
      have d : decide ((0 : Int) < ((0 : Nat) : Int)) = false := rfl
      refine ⟨out, true, ?_, fun q hq => ?_⟩
      · rw [Run_loop]
        simp only [f_value_unquote_l0_eq, f_value_unquote_l0u, ba_size, List.length_nil, d, go_sem]
        rw [hK [] out (by simp at h2; omega) (.dead) 0 _ (by simp [Env.get]) (by simp [Env.get])]
        rfl
      · rcases quoteC_cases q with ⟨_, e⟩ | ⟨x, q', _, _, e⟩ | ⟨x, q', _, _, e⟩
        · subst e; simp
        · rw [e] at hq; simp at hq
        · rw [e] at hq; simp at hq
    | cons c t =>
      simp only [List.length_cons] at h1 h2
      have d : decide ((0 : Int) < ((t.length : Int) + 1)) = true := by rw [decide_eq_true_eq]; omega
      have hp := value_plain c
      have hx0 : getE (c :: t) 0 = some c := rfl
      have hb : (out.length + 1) * 1 ≤ 140737488355328 := by omega
      have h01 : (0 : Int) ≤ 1 := by decide
      cases hpc : plainC c.toNat with
      | true =>
        rw [hpc] at hp
        obtain ⟨r, b, e1, e2⟩ := ih t (out ++ [c]) (by omega) (by simp; omega)
        refine ⟨r, b, ?_, fun q hq => ?_⟩
        · rw [← e1, Run_loop]
          have hs1 : (1 : Int) ≤ ((t.length : Int) + 1) := by omega
          have hx1 : (ba (c :: t)).extract 1 (t.length + 1) = ba t := by rw [ba_extract]; simp
          have bc : bcell c = [AV.int .u8 (c.toNat : Int)] := rfl
          simp only [f_value_unquote_l0_eq, f_value_unquote_l0u, ba_size, ba_data, List.length_cons, d, hx0, hp, hb, hs1, h01, hx1, bc, go_sem]
        · rcases quoteC_cases q with ⟨e, _⟩ | ⟨x, q', rfl, hx, e⟩ | ⟨x, q', rfl, hx, e⟩
          · rw [e] at hq; simp at hq
          · rw [e] at hq
            simp only [List.cons.injEq] at hq
            obtain ⟨rfl, ht⟩ := hq
            obtain ⟨e3, e4⟩ := e2 q' ht
            exact ⟨by rw [e3]; simp, e4⟩
          · rw [e] at hq
            simp only [List.cons.injEq] at hq
            obtain ⟨rfl, _⟩ := hq
            rw [plain92] at hpc; simp at hpc
      | false =>
        rw [hpc] at hp
        by_cases h4 : 4 ≤ t.length + 1
        · obtain ⟨c2, a, b, t', rfl⟩ : ∃ c2 a b t', t = c2 :: a :: b :: t' := by
            cases t with
            | nil => simp at h4
            | cons c2 t => cases t with
              | nil => simp at h4
              | cons a t => cases t with
                | nil => simp at h4
                | cons b t' => exact ⟨c2, a, b, t', rfl⟩
          have d4 : decide ((4 : Int) ≤ (t'.length : Int) + 1 + 1 + 1 + 1) = true := by rw [decide_eq_true_eq]; omega
          have d0 : decide ((0 : Int) < (t'.length : Int) + 1 + 1 + 1 + 1) = true := by rw [decide_eq_true_eq]; omega
          have hs2 : (2 : Int) ≤ (t'.length : Int) + 1 + 1 + 1 + 1 := by omega
          have hx2 : (ba (c :: c2 :: a :: b :: t')).extract 0 2 = ba [c, c2] := by rw [ba_extract]; simp
          have hce : (⟨#[92, 120]⟩ : ByteArray) = ba [92, 120] := rfl
          by_cases hc : c = 92 ∧ c2 = 120
          · obtain ⟨rfl, rfl⟩ := hc
            have hg2 : getE ((92 : UInt8) :: 120 :: a :: b :: t') 2 = some a := rfl
            have hg3 : getE ((92 : UInt8) :: 120 :: a :: b :: t') 3 = some b := rfl
            have xa := x_idx a
            have xb := x_idx b
            have ba_ := idx_bnd a
            have bb_ := idx_bnd b
            obtain ⟨hi, hhi⟩ : ∃ hi, Lib.indexByte hexS a = hi := ⟨_, rfl⟩
            obtain ⟨lo, hlo⟩ : ∃ lo, Lib.indexByte hexS b = lo := ⟨_, rfl⟩
            have hee : decide (ba [92, 120] = ba [92, 120]) = true := decide_eq_true rfl
            have hconv : ∀ q, (92 : UInt8) :: 120 :: a :: b :: t' = quoteC q → ∃ x q', q = x :: q' ∧ plainC x.toNat = false ∧ hi = ((x.toNat / 16 : Nat) : Int) ∧ lo = ((x.toNat % 16 : Nat) : Int) ∧ t' = quoteC q' := by
              intro q hq
              rcases quoteC_cases q with ⟨e, _⟩ | ⟨x, q', rfl, hx, e⟩ | ⟨x, q', rfl, hx, e⟩
              · rw [e] at hq; simp at hq
              · rw [e] at hq
                simp only [List.cons.injEq] at hq
                obtain ⟨rfl, _⟩ := hq
                rw [plain92] at hx; simp at hx
              · rw [e] at hq
                simp only [List.cons.injEq] at hq
                obtain ⟨_, _, h5, h6, h7⟩ := hq
                have x256 := x.toNat_lt
                have i1 := idx_hex ⟨x.toNat / 16, by omega⟩
                have i2 := idx_hex ⟨x.toNat % 16, by omega⟩
                simp only [] at i1 i2
                exact ⟨x, q', rfl, hx, by rw [← hhi, h5, i1], by rw [← hlo, h6, i2], h7⟩
            rw [hhi] at xa ba_
            rw [hlo] at xb bb_
            clear hhi hlo
            cases gh : decide (hi < 0) with
            | true =>
              refine ⟨out, false, ?_, fun q hq => ?_⟩
              · rw [Run_loop]
                simp only [f_value_unquote_l0_eq, f_value_unquote_l0u, ba_size, ba_data, List.length_cons, d0, d4, hx0, hg2, hg3, hp, hs2, hx2, hce, hee, xa, xb, gh, go_sem]
                rw [hK (92 :: 120 :: a :: b :: t') out (by omega) (.dead) 0 _ (by simp [Env.get]) (by simp [Env.get])]
                rfl
              · obtain ⟨x, q', rfl, hx, e1, e2, e3⟩ := hconv q hq
                exfalso
                rw [decide_eq_true_eq] at gh
                omega
            | false =>
            cases gl : decide (lo < 0) with
            | true =>
              refine ⟨out, false, ?_, fun q hq => ?_⟩
              · rw [Run_loop]
                simp only [f_value_unquote_l0_eq, f_value_unquote_l0u, ba_size, ba_data, List.length_cons, d0, d4, hx0, hg2, hg3, hp, hs2, hx2, hce, hee, xa, xb, gh, gl, go_sem]
                rw [hK (92 :: 120 :: a :: b :: t') out (by omega) (.dead) 0 _ (by simp [Env.get]) (by simp [Env.get])]
                rfl
              · obtain ⟨x, q', rfl, hx, e1, e2, e3⟩ := hconv q hq
                exfalso
                rw [decide_eq_true_eq] at gl
                omega
            | false =>
            obtain ⟨hn, rfl⟩ := Int.eq_ofNat_of_zero_le (show 0 ≤ hi by simpa using gh)
            obtain ⟨ln, rfl⟩ := Int.eq_ofNat_of_zero_le (show 0 ≤ lo by simpa using gl)
            have hor := hl_or hn ln (by omega) (by omega)
            obtain ⟨p, hp16⟩ : ∃ p, 16 * hn + ln = p := ⟨_, rfl⟩
            rw [hp16] at hor
            have hpt : (UInt8.ofNat (p)).toNat = p := by rw [UInt8.toNat_ofNat']; omega
            have hpl := value_plain (UInt8.ofNat (p))
            rw [hpt] at hpl
            cases gp : plainC (p) with
            | true =>
              rw [gp] at hpl
              refine ⟨out, false, ?_, fun q hq => ?_⟩
              · rw [Run_loop]
                simp only [f_value_unquote_l0_eq, f_value_unquote_l0u, ba_size, ba_data, List.length_cons, d0, d4, hx0, hg2, hg3, hp, hs2, hx2, hce, hee, xa, xb, gh, gl, hor, hpl, go_sem]
                rw [hK (92 :: 120 :: a :: b :: t') out (by omega) (.dead) 0 _ (by simp [Env.get]) (by simp [Env.get])]
                rfl
              · obtain ⟨x, q', rfl, hx, e1, e2, e3⟩ := hconv q hq
                exfalso
                have e4 : p = x.toNat := by omega
                rw [e4, hx] at gp
                simp at gp
            | false =>
              rw [gp] at hpl
              obtain ⟨r, b', e1, e2⟩ := ih t' (out ++ [UInt8.ofNat (p)]) (by simp at h1; omega) (by simp at h2 ⊢; omega)
              refine ⟨r, b', ?_, fun q hq => ?_⟩
              · rw [← e1, Run_loop]
                have hs4 : (4 : Int) ≤ (t'.length : Int) + 1 + 1 + 1 + 1 := by omega
                have hx4 : (ba (92 :: 120 :: a :: b :: t')).extract 4 (t'.length + 1 + 1 + 1 + 1) = ba t' := by rw [ba_extract]; simp
                have bc : bcell (UInt8.ofNat (p)) = [AV.int .u8 ((p : Nat) : Int)] := by unfold bcell; rw [hpt]
                simp only [List.length_append, List.length_cons, List.length_nil, List.map_append, List.map_cons, List.map_nil, bc]
                simp only [f_value_unquote_l0_eq, f_value_unquote_l0u, ba_size, ba_data, List.length_cons, d0, d4, hx0, hg2, hg3, hp, hs2, hx2, hce, hee, xa, xb, gh, gl, hor, hpl, hb, hs4, h01, hx4, go_sem]
              · obtain ⟨x, q', rfl, hx, e5, e6, e3⟩ := hconv q hq
                obtain ⟨e7, e8⟩ := e2 q' e3
                have e4 : p = x.toNat := by omega
                refine ⟨?_, e8⟩
                rw [e7, e4]
                simp
          · have hne : decide (ba [c, c2] = ba [92, 120]) = false := by
              rw [decide_eq_false_iff_not]
              intro h
              have := ba_inj.1 h
              simp at this
              exact hc this
            refine ⟨out, false, ?_, fun q hq => ?_⟩
            · rw [Run_loop]
              simp only [f_value_unquote_l0_eq, f_value_unquote_l0u, ba_size, ba_data, List.length_cons, d0, d4, hx0, hp, hs2, hx2, hce, hne, go_sem]
              rw [hK (c :: c2 :: a :: b :: t') out (by omega) (.dead) 0 _ (by simp [Env.get]) (by simp [Env.get])]
              rfl
            · rcases quoteC_cases q with ⟨e, _⟩ | ⟨x, q', rfl, hx, e⟩ | ⟨x, q', rfl, hx, e⟩
              · rw [e] at hq; simp at hq
              · rw [e] at hq
                simp only [List.cons.injEq] at hq
                obtain ⟨rfl, _⟩ := hq
                rw [hx] at hpc; simp at hpc
              · rw [e] at hq
                simp only [List.cons.injEq] at hq
                obtain ⟨h1, h2, _⟩ := hq
                exact absurd ⟨h1, h2⟩ hc
        · have d4 : decide ((4 : Int) ≤ (t.length : Int) + 1) = false := by rw [decide_eq_false_iff_not]; omega
          refine ⟨out, false, ?_, fun q hq => ?_⟩
          · rw [Run_loop]
            simp only [f_value_unquote_l0_eq, f_value_unquote_l0u, ba_size, ba_data, List.length_cons, d, d4, hx0, hp, go_sem]
            rw [hK (c :: t) out (by omega) (.dead) 0 _ (by simp [Env.get]) (by simp [Env.get])]
            rfl
          · rcases quoteC_cases q with ⟨e, _⟩ | ⟨x, q', rfl, hx, e⟩ | ⟨x, q', rfl, hx, e⟩
            · rw [e] at hq; simp at hq
            · rw [e] at hq
              simp only [List.cons.injEq] at hq
              obtain ⟨rfl, _⟩ := hq
              rw [hx] at hpc; simp at hpc
            · rw [e] at hq
              have := congrArg List.length hq
              simp at this
              omega
end Go.Den
