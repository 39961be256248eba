/- Package page: null masks, bare encodings, Plain and Delta pages. -/
import Derived.Test.YtfjaimkpmehojaaGreatS10D
import Derived.Test.YtfjaimkpmehojaaGreatCmpP
import Derived.Test.YtfjaimkpmehojaaGreatS10UA
namespace Go.Den
open Go
set_option linter.unusedSimpArgs false
set_option linter.unusedVariables false
set_option maxRecDepth 100000
set_option maxHeartbeats 1000000
theorem page_bare (l : List UInt8) (b : Bool) (n : Int) (s : ByteArray) (t : Int) (hl : l.length < 1000000000) (hs : s.size < 1000000000) (hn : -9223372036854775808 ≤ n ∧ n ≤ 9223372036854775807) :
    Den prog 509 [.sl (l.map bcell), .agg [.bool b, .int .i64 n, .str s], .int .i64 t] [] = some (.sl ((l ++ bareB ⟨b, n, s⟩ t).map bcell), []) := by
  rw [Den_ofK [] pr_page_bare rfl]
  unfold bareB
  cases d4 : decide (t = 4) with
  | true =>
    have h := wire_Text2 l s (by omega) (by omega)
    simp only [cond_true]
    generalize l ++ (leb s.size ++ s.data.toList) = L at *
    simp only [f_page_bare, d4, h, cond_true, go_sem]
  | false =>
    have h := wire_S2 l n hn.1 hn.2 (by omega)
    simp only [cond_false]
    generalize l ++ leb (zz n) = L at *
    simp only [f_page_bare, d4, h, cond_false, go_sem]
theorem bitsN_false : ∀ n : Nat, bitsN (List.replicate n false) = 0
  | 0 => rfl
  | n + 1 => by rw [List.replicate_succ, bitsN, bitsN_false n]; rfl
theorem maskB_false : ∀ (k n : Nat), n ≤ k → maskB (List.replicate n false) = List.replicate ((n + 7) / 8) 0
  | 0, n, h => by
    have : n = 0 := by omega
    subst this; rw [List.replicate_zero, maskB_nil]; rfl
  | k + 1, n, h => by
    by_cases h0 : n = 0
    · subst h0; rw [List.replicate_zero, maskB_nil]; rfl
    · have hne : List.replicate n false ≠ [] := by
        intro e
        have := congrArg List.length e
        simp at this; omega
      rw [maskB_cons hne, List.take_replicate, bitsN_false, List.drop_replicate, maskB_false k (n - 8) (by omega), show (n + 7) / 8 = (n - 8 + 7) / 8 + 1 by omega, List.replicate_succ]
      rfl
theorem quo8 (i : Nat) : (i : Int).tdiv 8 = ((i / 8 : Nat) : Int) := rfl
theorem rem8 (i : Nat) : (i : Int).tmod 8 = ((i % 8 : Nat) : Int) := rfl
theorem shl8 (j : Nat) (h : j < 8) : shlI .u8 1 (j : Int) = ((2 ^ j : Nat) : Int) := by
  have : j = 0 ∨ j = 1 ∨ j = 2 ∨ j = 3 ∨ j = 4 ∨ j = 5 ∨ j = 6 ∨ j = 7 := by omega
  rcases this with rfl | rfl | rfl | rfl | rfl | rfl | rfl | rfl <;> rfl
theorem z8 : (8 : Int) ≠ 0 := by decide
theorem masked_mask (l : List Val) (hl : l.length < 100000) : Den prog 508 [.agg [], .sl (l.map Val.cells)] [] = some (.sl ((maskOf l).map bcell), []) := by
  rw [Den_ofK [] pr_page_masked_mask rfl]
  obtain ⟨m, hm⟩ : ∃ m, m = (l.length + 7) / 8 := ⟨_, rfl⟩
  have w1 : IntKind.wrap .i64 ((l.length : Int) + 7) = (l.length : Int) + 7 := wrap_i64 (by omega) (by omega)
  have w2 : IntKind.wrap .i64 (((l.length : Int) + 7).tdiv 8) = (m : Int) := by
    have : ((l.length : Int) + 7).tdiv 8 = (((l.length + 7) / 8 : Nat) : Int) := rfl
    rw [this, ← hm, wrap_i64 (by omega) (by omega)]
  have hb : (m : Int) * 1 ≤ 140737488355328 := by omega
  simp only [f_page_masked_mask, w1, w2, z8, hb, go_sem]
  have hM0 : List.replicate m [AV.int .u8 0] = (maskB (l.map fun _ => false)).map bcell := by
    rw [show (l.map fun _ => false) = List.replicate l.length false from List.map_const' .., maskB_false _ _ (Nat.le_refl _), ← hm, List.map_replicate]; rfl
  have hml : (maskB (l.map fun _ => false)).length = m := by rw [maskB_len _ _ (Nat.le_refl _), List.length_map, hm]
  rw [hM0]
  refine range_ind l (by omega) (fun i (M : List UInt8) => (Run prog 0 (.loop 1 [5, 13, 14, 15] f_page_masked_mask_l0) [(5, .osl 0 0 m 0 m), (13, .sl (l.map Val.cells)), (14, .int .i64 l.length), (15, .int .i64 i)] [.arr 0 1 (M.map bcell)]).bind _ = some (AV.sl ((maskOf l).map bcell), []))
    (fun i rest M => ∃ pre, l = pre ++ rest ∧ i = pre.length ∧ M = maskB (pre.map (·.null) ++ rest.map fun _ => false)) ?_ ?_ _ ⟨[], rfl, rfl, rfl⟩
  · intro M ⟨pre, h1, h2, h3⟩
    have e : M = maskOf l := by
      rw [List.append_nil] at h1
      subst h1
      rw [h3]; simp [maskOf]
    have hMl : M.length = m := by rw [e, maskOf_len, hm]
    subst e
    clear h1 h2 h3
    rw [Run_loop]
    simp only [f_page_masked_mask_l0_eq, f_page_masked_mask_l0u, hMl, go_sem]
  · intro i pre0 rest x M _ _ hi0 hi1 hx hc hw ⟨pre, h1, h2, h3⟩ ih
    have hMl : M.length = m := by
      have := congrArg List.length h1
      simp only [List.length_append, List.length_cons] at this
      rw [h3, maskB_len _ _ (Nat.le_refl _), hm]; simp; omega
    obtain ⟨nu, n, s⟩ := x
    rw [Run_loop]
    cases nu with
    | false =>
      have ih := ih M ⟨pre ++ [⟨false, n, s⟩], by simp [h1], by simp; omega, by rw [h3]; simp⟩
      clear h1 h2 h3
      simp only [f_page_masked_mask_l0_eq, f_page_masked_mask_l0u, hx, hc, hw, ih, Val.cells, go_sem]
    | true =>
      have hl0 : (pre.map (·.null) ++ ((⟨true, n, s⟩ : Val) :: rest).map fun _ => false)[pre.length]? = some false := by
        rw [List.getElem?_append_right (by simp)]; simp
      obtain ⟨c, d, q1, q2, q3⟩ := maskB_set _ pre.length hl0
      have hk : ((pre.length / 8 : Nat) : Int) < (m : Int) := by omega
      have ih := ih (M.set (pre.length / 8) d) ⟨pre ++ [⟨true, n, s⟩], by simp [h1], by simp; omega, by
        rw [h3, ← q3]
        congr 1
        rw [List.set_append_right _ _ (by simp)]
        simp⟩
      rw [← h3] at q1
      have wq : IntKind.wrap .i64 ((pre.length : Int).tdiv 8) = ((pre.length / 8 : Nat) : Int) := by
        rw [quo8, wrap_i64 (by omega) (by omega)]
      have rm := rem8 pre.length
      have sh := shl8 (pre.length % 8) (by omega)
      have hget : (M.map bcell)[pre.length / 8]? = some [.int .u8 c.toNat] := by rw [List.getElem?_map, q1]; rfl
      have hset : (M.map bcell).set (pre.length / 8) [.int .u8 d.toNat] = (M.set (pre.length / 8) d).map bcell := by rw [List.map_set]; rfl
      have hml2 : (M.map bcell).length = m := by rw [List.length_map, hMl]
      subst h2
      clear h1 h3 hl0 q3
      generalize pre.length / 8 = k at *
      generalize pre.length % 8 = j at *
      generalize 2 ^ j = P at *
      generalize (M.set k d).map bcell = R2 at *
      generalize M.map bcell = R at *
      simp only [f_page_masked_mask_l0_eq, f_page_masked_mask_l0u, hx, hc, hw, ih, wq, rm, sh, q2, z8, hget, hset, hml2, hk, Val.cells, go_sem]
def Col (l : List Val) (t : Int) : Prop := ∀ v ∈ l, okV v t = true ∧ InB v
theorem Col.tail {v : Val} {l : List Val} {t : Int} (h : Col (v :: l) t) : Col l t := fun w hw => h w (List.mem_cons_of_mem _ hw)
theorem Col.left {l m : List Val} {t : Int} (h : Col (l ++ m) t) : Col l t := fun w hw => h w (List.mem_append_left _ hw)
theorem Col.right {l m : List Val} {t : Int} (h : Col (l ++ m) t) : Col m t := fun w hw => h w (List.mem_append_right _ hw)
theorem okV_size {v : Val} {t : Int} (h : okV v t = true) : v.s.size ≤ 200 := by
  cases hn : v.null with
  | true => rw [okV5_null h hn]; decide
  | false =>
    by_cases h4 : t = 4
    · subst h4; exact (okV5_text h hn).2
    · rw [okV5_num h hn h4]; decide
theorem bareB_len {v : Val} {t : Int} (h : okV v t = true) (hi : InB v) : (bareB v t).length ≤ 210 := by
  have h1 := okV_size h
  have h2 := leb_len10 (show v.s.size < 18446744073709551616 by omega)
  have h3 := leb_len10 (zz_lt hi.1 hi.2)
  have h4 : v.s.data.toList.length = v.s.size := rfl
  unfold bareB
  cases decide (t = 4) <;> simp only [cond_true, cond_false, List.length_append] <;> omega
theorem bodyP_cons (v : Val) (l : List Val) (t : Int) : bodyP (v :: l) t = (bif v.null then [] else bareB v t) ++ bodyP l t := by simp [bodyP]
theorem bodyP_len : ∀ {l : List Val} {t : Int}, Col l t → (bodyP l t).length ≤ 210 * l.length
  | [], _, _ => by simp [bodyP]
  | v :: l, t, h => by
    have h1 := bodyP_len h.tail
    have h2 := bareB_len (h v (List.mem_cons_self ..)).1 (h v (List.mem_cons_self ..)).2
    rw [bodyP_cons, List.length_append, List.length_cons]
    cases v.null <;> simp only [cond_true, cond_false, List.length_nil] <;> omega
theorem bodyD_len : ∀ (l : List Val) (last : Int), (bodyD last l).length ≤ 10 * l.length
  | [], _ => by simp [bodyD]
  | v :: l, last => by
    unfold bodyD
    have h1 := bodyD_len l last
    have h2 := bodyD_len l v.n
    have hr := wrap_rng (v.n - last)
    have h3 := leb_len10 (zz_lt hr.1 hr.2)
    cases v.null <;> simp only [cond_true, cond_false, List.length_append, List.length_cons] <;> omega
theorem plain_encode (l : List Val) (t : Int) (hl : l.length ≤ 1024) (hc : Col l t) : Den prog 516 [.agg [], .sl (l.map Val.cells), .int .i64 t] [] = some (.sl ((plainP l t).map bcell), []) := by
  rw [Den_ofK [] pr_page_plain_encode rfl]
  have hm := masked_mask l (by omega)
  have hml := maskOf_len l
  simp only [f_page_plain_encode, hm, go_sem]
  refine range_ind l (by omega) (fun i (O : List UInt8) => (Run prog 0 (.loop 0 [2, 7, 14, 15, 16] f_page_plain_encode_l0) [(2, .int .i64 t), (7, .sl (O.map bcell)), (14, .sl (l.map Val.cells)), (15, .int .i64 l.length), (16, .int .i64 i)] []).bind _ = some (AV.sl ((plainP l t).map bcell), []))
    (fun i rest O => ∃ pre, l = pre ++ rest ∧ i = pre.length ∧ O = maskOf l ++ bodyP pre t) ?_ ?_ _ ⟨[], rfl, rfl, by simp [bodyP]⟩
  · intro O ⟨pre, h1, h2, h3⟩
    have e : O = plainP l t := by
      rw [List.append_nil] at h1
      subst h1
      rw [h3]; rfl
    subst e
    clear h1 h2 h3
    rw [Run_loop]
    simp only [f_page_plain_encode_l0_eq, f_page_plain_encode_l0u, go_sem]
  · intro i pre0 rest x O _ _ hi0 hi1 hx hcx hw ⟨pre, h1, h2, h3⟩ ih
    have hcp : Col pre t := (h1 ▸ hc : Col (pre ++ x :: rest) t).left
    have hcv := (h1 ▸ hc : Col (pre ++ x :: rest) t).right x (List.mem_cons_self ..)
    have hbl := bodyP_len hcp
    have hpl : pre.length ≤ 1024 := by
      have := congrArg List.length h1
      simp only [List.length_append] at this; omega
    have hO : O.length < 1000000 := by rw [h3, List.length_append]; omega
    have hsz := okV_size hcv.1
    obtain ⟨nu, n, s⟩ := x
    have hb := page_bare O nu n s t (by omega) (by simp only [] at hsz; omega) hcv.2
    rw [Run_loop]
    cases nu with
    | true =>
      have ih := ih O ⟨pre ++ [⟨true, n, s⟩], by simp [h1], by simp; omega, by rw [h3]; simp [bodyP]⟩
      clear h1 h2 h3 hb
      simp only [f_page_plain_encode_l0_eq, f_page_plain_encode_l0u, hx, hcx, hw, ih, Val.cells, go_sem]
    | false =>
      have ih := ih (O ++ bareB ⟨false, n, s⟩ t) ⟨pre ++ [⟨false, n, s⟩], by simp [h1], by simp; omega, by rw [h3]; simp [bodyP]⟩
      clear h1 h2 h3
      generalize O ++ bareB ⟨false, n, s⟩ t = O2 at *
      simp only [f_page_plain_encode_l0_eq, f_page_plain_encode_l0u, hx, hcx, hw, hb, ih, Val.cells, go_sem]
theorem bodyD_snoc : ∀ (l : List Val) (last : Int) (v : Val), bodyD last (l ++ [v]) = bodyD last l ++ (bif v.null then [] else leb (zz (IntKind.wrap .i64 (v.n - l.foldl (fun a w => bif w.null then a else w.n) last))))
  | [], last, v => by
    simp only [List.nil_append, bodyD, List.foldl_nil]
    cases v.null <;> simp
  | w :: l, last, v => by
    rw [List.cons_append, bodyD, bodyD, List.foldl_cons]
    cases w.null with
    | true => simp only [cond_true]; exact bodyD_snoc l last v
    | false => simp only [cond_false]; rw [bodyD_snoc l w.n v, List.append_assoc]
theorem delta_encode (l : List Val) (t : Int) (hl : l.length ≤ 1024) (hc : ∀ v ∈ l, InB v) : Den prog 518 [.agg [], .sl (l.map Val.cells), .int .i64 t] [] = some (.sl ((deltaP l).map bcell), []) := by
  rw [Den_ofK [] pr_page_delta_encode rfl]
  have hm := masked_mask l (by omega)
  have hml := maskOf_len l
  simp only [f_page_delta_encode, hm, go_sem]
  refine range_ind l (by omega) (fun i (a : List UInt8 × Int) => (Run prog 0 (.loop 0 [7, 8, 15, 16, 17] f_page_delta_encode_l0) [(7, .sl (a.1.map bcell)), (8, .int .i64 a.2), (15, .sl (l.map Val.cells)), (16, .int .i64 l.length), (17, .int .i64 i)] []).bind _ = some (AV.sl ((deltaP l).map bcell), []))
    (fun i rest a => ∃ pre, l = pre ++ rest ∧ i = pre.length ∧ a.1 = maskOf l ++ bodyD 0 pre ∧ a.2 = pre.foldl (fun a w => bif w.null then a else w.n) 0) ?_ ?_ (maskOf l, 0) ⟨[], rfl, rfl, by simp [bodyD], rfl⟩
  · intro ⟨O, la⟩ ⟨pre, h1, h2, h3, _⟩
    have e : O = deltaP l := by
      rw [List.append_nil] at h1
      subst h1
      exact h3
    subst e
    clear h1 h2 h3
    simp only []
    rw [Run_loop]
    simp only [f_page_delta_encode_l0_eq, f_page_delta_encode_l0u, go_sem]
  · intro i pre0 rest x ⟨O, la⟩ _ _ hi0 hi1 hx hcx hw ⟨pre, h1, h2, h3, h4⟩ ih
    simp only [] at h3 h4 ih ⊢
    have hbl := bodyD_len pre 0
    have hpl : pre.length ≤ 1024 := by
      have := congrArg List.length h1
      simp only [List.length_append] at this; omega
    have hO : O.length < 1000000 := by rw [h3, List.length_append]; omega
    have hr := wrap_rng (x.n - la)
    have hb := wire_S2 O (IntKind.wrap .i64 (x.n - la)) hr.1 hr.2 (by omega)
    have hsn := bodyD_snoc pre 0 x
    rw [← h4] at hsn
    obtain ⟨nu, n, s⟩ := x
    simp only [] at hb hsn
    rw [Run_loop]
    cases nu with
    | true =>
      have ih := ih (O, la) ⟨pre ++ [⟨true, n, s⟩], by simp [h1], by simp; omega, by simp only []; rw [hsn, h3]; simp, by simp [h4]⟩
      clear h1 h2 h3 h4 hb hsn
      simp only [] at ih
      simp only [f_page_delta_encode_l0_eq, f_page_delta_encode_l0u, hx, hcx, hw, ih, Val.cells, go_sem]
    | false =>
      have ih := ih (O ++ leb (zz (IntKind.wrap .i64 (n - la))), n) ⟨pre ++ [⟨false, n, s⟩], by simp [h1], by simp; omega, by simp only []; rw [hsn, h3]; simp, by simp⟩
      clear h1 h2 h3 h4 hsn
      simp only [] at ih
      generalize O ++ leb (zz (IntKind.wrap .i64 (n - la))) = O2 at *
      generalize hD : IntKind.wrap .i64 (n - la) = D at *
      simp only [f_page_delta_encode_l0_eq, f_page_delta_encode_l0u, hx, hcx, hw, hb, hD, ih, Val.cells, go_sem]
end Go.Den
