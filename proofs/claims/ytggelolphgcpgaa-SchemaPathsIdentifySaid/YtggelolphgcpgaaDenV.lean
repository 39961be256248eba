import Derived.Test.YtggelolphgcpgaaDenU
/-! Regions whose order is drawn: the theorem. -/
namespace Go.Den
open Go

section
variable {P : Program} {tab : Nat → Nat}
theorem chkOpers_len {N : Nat} {ops : Array Oper} : ∀ {os : List Oper} {aos : List AOper}, chkOpers P tab N ops os aos = true → aos.length = os.length
  | [], [], _ => rfl
  | [], _ :: _, h => by simp [chkOpers] at h
  | _ :: _, [], h => by simp [chkOpers] at h
  | o :: os, ao :: aos, h => by
    simp only [chkOpers, Bool.and_eq_true] at h
    simp [chkOpers_len h.2]
theorem chkOpers_get {N : Nat} {ops : Array Oper} : ∀ {os : List Oper} {aos : List AOper}, chkOpers P tab N ops os aos = true → ∀ (i : Nat) (o : Oper) (ao : AOper), os[i]? = some o → aos[i]? = some ao → chkOper P tab N o ao = true ∧ chkGuard ops o ao = true
  | [], [], _, i, o, ao, h, _ => by simp at h
  | [], _ :: _, h, _, _, _, _, _ => by simp [chkOpers] at h
  | _ :: _, [], h, _, _, _, _, _ => by simp [chkOpers] at h
  | o' :: os, ao' :: aos, hc, i, o, ao, h1, h2 => by
    simp only [chkOpers, Bool.and_eq_true] at hc
    cases i with
    | zero => simp at h1 h2; subst h1; subst h2; exact hc.1
    | succ i => exact chkOpers_get hc.2 i o ao (by simpa using h1) (by simpa using h2)
def cnt (L : Nat → Bool) : Nat → Nat
  | 0 => 0
  | n + 1 => (if L n then 0 else 1) + cnt L n
theorem cnt_congr {L M : Nat → Bool} : ∀ {n : Nat}, (∀ k, k < n → L k = M k) → cnt L n = cnt M n
  | 0, _ => rfl
  | n + 1, h => by simp only [cnt]; rw [h n (by omega), cnt_congr fun k hk => h k (by omega)]
theorem cnt_set {L M : Nat → Bool} {i : Nat} (hL : L i = false) (hM : M i = true) (ho : ∀ k, k ≠ i → M k = L k) : ∀ {n : Nat}, i < n → cnt M n + 1 = cnt L n
  | 0, h => absurd h (by omega)
  | n + 1, h => by
    simp only [cnt]
    by_cases e : i = n
    · subst e
      rw [hL, hM, cnt_congr (L := M) (M := L) fun k hk => ho k (by omega)]
      simp; omega
    · rw [ho n (fun h => e h.symm)]
      have := cnt_set hL hM ho (n := n) (by omega)
      omega
theorem cnt_zero {L : Nat → Bool} : ∀ {n : Nat}, cnt L n = 0 → ∀ k, k < n → L k = true
  | 0, _, k, h => absurd h (by omega)
  | n + 1, hc, k, h => by
    simp only [cnt] at hc
    by_cases e : k = n
    · subst e
      cases hl : L k with
      | true => rfl
      | false => simp [hl] at hc
    · exact cnt_zero (n := n) (by omega) k (by omega)
theorem least_not {L : Nat → Bool} : ∀ {n : Nat}, ¬ (∀ k, k < n → L k = true) → ∃ i, i < n ∧ L i = false ∧ ∀ k, k < i → L k = true
  | 0, h => absurd (fun k hk => absurd hk (by omega)) h
  | n + 1, h => by
    by_cases hn : ∀ k, k < n → L k = true
    · refine ⟨n, by omega, ?_, hn⟩
      cases hl : L n with
      | false => rfl
      | true =>
        refine absurd (fun k hk => ?_) h
        by_cases e : k = n
        · subst e; exact hl
        · exact hn k (by omega)
    · obtain ⟨i, hi, h1, h2⟩ := least_not hn
      exact ⟨i, by omega, h1, h2⟩
theorem ready_iff {ops : Array Oper} {listed : Array Bool} {i : Nat} : i ∈ Region.ready .any ops listed ↔ i < ops.size ∧ listed.getD i true = false ∧ ∃ o, ops[i]? = some o ∧ ∀ e ∈ o.after.toList, Region.binds .any e = true → listed.getD e.on false = true := by
  unfold Region.ready
  rw [List.mem_filter]
  simp only [List.mem_range, Bool.and_eq_true, Bool.not_eq_true']
  constructor
  · rintro ⟨h1, h2, h3⟩
    refine ⟨h1, h2, ops[i], Array.getElem?_eq_getElem h1, ?_⟩
    rw [Array.getElem?_eq_getElem h1] at h3
    simp only [Option.map_some, Option.getD_some] at h3
    intro e he hb
    rw [Array.all_eq_true'] at h3
    have := h3 e (by simpa using he)
    simpa [hb] using this
  · rintro ⟨h1, h2, o, ho, h3⟩
    refine ⟨h1, h2, ?_⟩
    rw [ho]
    simp only [Option.map_some, Option.getD_some]
    rw [Array.all_eq_true']
    intro e he
    have := h3 e (by simpa using he)
    cases hb : Region.binds .any e with
    | false => rfl
    | true => simp [this hb]
/-- Whatever the order: the region ends where the text's order ends. -/
theorem any_ok {call : CallF} {G : Nat → Option AFunc} (C : CallOk P tab call) (hG : ∀ f args σ r, call f args σ = some r → ∃ F, G f = some F) (hN : Named P tab G) {ops : Array Oper} {N : Nat} {aos : List AOper} {unord : List (Nat × Nat)}
    (hc : chkOpers P tab N ops ops.toList aos = true) (hd : chkDraw ops.toList aos unord = true) {F : Nat → Prop} {base : Nat} {env env' : Env} {σ σ' : St} {S' : List (Nat × Foot)} (hrun : runD call base aos 0 env σ [] = some (env', σ', S')) (hok : drawOk S' unord = true)
    {a : Act} {w : World} {γ : List Gh} (S : Fst tab F base w σ γ env a.tmps) (hsz : a.tmps.size = N) {Q : Exit → Act → World → Prop}
    (hQ : ∀ a' w' γ' e', (∀ t, e'.get t = env'.get t) → Goes base w σ γ w' σ' γ' → Fst tab F base w' σ' γ' e' a'.tmps → a'.tmps.size = N → a'.defers = a.defers → Q .normal a' w') :
    wpAny P .any ops Q ops.size (Array.replicate ops.size false) a w := by
  obtain ⟨E, T, r, b, hE0, hT0, hEn, hTn, tr, hS'⟩ := runD_trace aos 0 hrun
  have hlen : aos.length = ops.size := by rw [chkOpers_len hc]; simp
  simp only [chkDraw, Bool.and_eq_true, Array.length_toList] at hd
  obtain ⟨hed, hpr⟩ := hd
  have hedge := chkEdges_ok hed
  have hpair := chkPairs_ok hpr
  have hn := hlen
  -- touched pairs are ordered
  have hbits : ∀ j i, ((befs ops.toList []).getD j 0).testBit i = true → ∃ o, ops.toList[j]? = some o ∧ ∃ e ∈ o.after.toList, Region.binds .any e = true ∧ (i = e.on ∨ e.on < j ∧ ((befs ops.toList []).getD e.on 0).testBit i = true) := by
    intro j i h
    obtain ⟨o, ho, h⟩ := befs_get ops.toList [] j i (by simp) h
    exact ⟨o, by simpa using ho, h⟩
  have htouch : ∀ i, i < aos.length → ∀ ao, aos[i]? = some ao → b i = true → mayTouch ao.op = true := by
    intro i hi ao hao hb
    obtain ⟨_, hor⟩ := tr.at_ i ao hi hao
    rcases hor with ⟨_, h2⟩ | ⟨_, _, _, h4⟩
    · cases hm : mayTouch ao.op with
      | true => rfl
      | false => rw [mayTouch_ok h2 hm] at hb; exact absurd hb (by simp)
    · rw [h4] at hb; exact absurd hb (by simp)
  obtain ⟨c, hcdef⟩ : ∃ c : Nat → Bool, ∀ i, c i = (b i && !(((aos[i]?).map fun x => isRd x.op).getD false)) := ⟨_, fun _ => rfl⟩
  have hcb : ∀ i, c i = true → b i = true := by intro i h; rw [hcdef] at h; simp at h; exact h.1
  have hcb0 : ∀ i, b i = false → c i = false := by intro i h; rw [hcdef, h]; rfl
  have hstay : ∀ i, i < aos.length → c i = false → T (i + 1) = T i := by
    intro i hi hci
    obtain ⟨_, hor⟩ := tr.at_ i aos[i] hi (List.getElem?_eq_getElem hi)
    rcases hor with ⟨_, h2⟩ | ⟨_, _, h3, _⟩
    · cases hb : b i with
      | false => rw [hb] at h2; exact (stepC_free h2).1
      | true =>
        rw [hcdef, hb, List.getElem?_eq_getElem hi] at hci
        simp at hci
        exact isRd_same h2 hci
    · exact h3
  have hmem : ∀ i, (hi : i < aos.length) → b i = true → (i, footOf aos[i].op (E i) (T i).length) ∈ S' := fun i hi hb => (hS' _).2 (.inr ⟨i, aos[i], List.getElem?_eq_getElem hi, by simp, hb⟩)
  have hordA : ∀ i j, (hij : i < j) → (hj : j < aos.length) → b i = true → b j = true → (c i = true ∨ c j = true ∧ isPush aos[j].op = false) → ((befs ops.toList []).getD j 0).testBit i = true ∨ apart (footOf (aos[i]'(Nat.lt_trans hij hj)).op (E i) (T i).length) (footOf aos[j].op (E j) (T j).length) = true := by
    intro i j hij hj hbi hbj hcc
    have h := hpair i j hij (by omega)
    have hi' : i < aos.length := by omega
    simp only [chkPair, List.getElem?_eq_getElem hi', List.getElem?_eq_getElem hj, Bool.or_eq_true, Bool.and_eq_true] at h
    rcases h with h | ⟨_, h⟩
    · exact .inl h
    · have t1 := htouch i hi' _ (List.getElem?_eq_getElem hi') hbi
      have t2 := htouch j hj _ (List.getElem?_eq_getElem hj) hbj
      rcases h with (h | ⟨r1, r2⟩) | h
      · simp [t1, t2] at h
      · exfalso
        rcases hcc with hcc | ⟨hcc, hcp⟩
        · rw [hcdef, List.getElem?_eq_getElem hi'] at hcc; simp [r1] at hcc
        · rw [hcdef, List.getElem?_eq_getElem hj] at hcc
          simp [hcp] at r2
          simp [r2] at hcc
      · simp at h
        exact .inr (drawOk_pair hok i j h _ _ (hmem i hi' hbi) (hmem j hj hbj))
  have hfoot : ∀ i, (hi : i < aos.length) → ∀ a, footOf aos[i].op (E i) (T i).length = some (true, a) → c i = false := by
    intro i hi a hf
    rw [hcdef, List.getElem?_eq_getElem hi]
    have : isRd aos[i].op = true := foot_isRd hf
    simp [this]
  have hordT : ∀ i j, i < j → j < aos.length → b i = true → b j = true → c i = true → ((befs ops.toList []).getD j 0).testBit i = true := by
    intro i j hij hj hbi hbj hcc
    rcases hordA i j hij hj hbi hbj (.inl hcc) with h | h
    · exact h
    · obtain ⟨a, _, h1, _⟩ := apart_iff h
      rw [hfoot i (by omega) a h1] at hcc; exact absurd hcc (by simp)
  have hordN : ∀ i j x y, i < j → j < aos.length → aos[i]? = some x → aos[j]? = some y → ((befs ops.toList []).getD j 0).testBit i = true ∨ ((∀ d, x.dst = some d → d ∉ namesOf y) ∧ (∀ d, y.dst = some d → d ∉ namesOf x)) := by
    intro i j x y hij hj hx hy
    have h := hpair i j hij (by omega)
    simp only [chkPair, hx, hy, Bool.or_eq_true, Bool.and_eq_true] at h
    rcases h with h | ⟨⟨h1, h2⟩, _⟩
    · exact .inl h
    · right
      refine ⟨fun d hd => ?_, fun d hd => ?_⟩
      · rw [hd] at h1; simp at h1; exact h1.1
      · rw [hd] at h2; simpa using h2
  have main : ∀ (fuel : Nat) (listed : Array Bool) (e1 : Env) (σ1 : St) (a1 : Act) (w1 : World) (γ1 : List Gh), listed.size = ops.size → cnt (fun k => listed.getD k false) aos.length ≤ fuel →
      (∀ (i : Nat) (o : Oper), listed.getD i false = true → ops[i]? = some o → ∀ e ∈ o.after.toList, Region.binds .any e = true → listed.getD e.on false = true) →
      (∀ t, e1.get t = look aos env r (fun k => listed.getD k false) t aos.length) → (∃ m, m ≤ aos.length ∧ σ1 = T m ∧ ∀ j, j < aos.length → c j = true → (listed.getD j false = true ↔ j < m)) →
      Goes base w σ γ w1 σ1 γ1 → Fst tab F base w1 σ1 γ1 e1 a1.tmps → a1.tmps.size = N → a1.defers = a.defers → wpAny P .any ops Q fuel listed a1 w1 := by
    intro fuel
    -- the end
    have theEnd : ∀ (listed : Array Bool) (e1 : Env) (σ1 : St) (a1 : Act) (w1 : World) (γ1 : List Gh), (∀ k, k < aos.length → listed.getD k false = true) → (∀ t, e1.get t = look aos env r (fun k => listed.getD k false) t aos.length) →
        (∃ m, m ≤ aos.length ∧ σ1 = T m ∧ ∀ j, j < aos.length → c j = true → (listed.getD j false = true ↔ j < m)) → Goes base w σ γ w1 σ1 γ1 → Fst tab F base w1 σ1 γ1 e1 a1.tmps → a1.tmps.size = N → a1.defers = a.defers → Q .normal a1 w1 := by
      intro listed e1 σ1 a1 w1 γ1 hall hget ⟨m, hm, hσ, hb⟩ hg hf hs hdf
      have hσ' : σ1 = σ' := by
        rw [hσ, ← hTn]
        have : ∀ k, k + m ≤ aos.length → T (m + k) = T m := by
          intro k
          induction k with
          | zero => intro _; rfl
          | succ k ih =>
            intro hk
            have hlt : m + k < aos.length := by omega
            have hnb : c (m + k) = false := by
              cases hbb : c (m + k) with
              | false => rfl
              | true => have := (hb (m + k) hlt hbb).1 (hall _ hlt); omega
            have : T (m + k + 1) = T (m + k) := hstay _ hlt hnb
            rw [← Nat.add_assoc, this, ih (by omega)]
        have h2 := this (aos.length - m) (by omega)
        rw [show m + (aos.length - m) = aos.length by omega] at h2
        exact h2.symm
      subst hσ'
      refine hQ a1 w1 γ1 e1 (fun t => ?_) hg hf hs hdf
      rw [hget, ← hEn, trace_look tr t aos.length (Nat.le_refl _), hE0]
      exact look_congr fun k hk _ => hall k hk
    have allOf : ∀ (listed : Array Bool), listed.size = ops.size → (∀ i, i < aos.length → listed.getD i false = true) ∨ ∃ i, i ∈ Region.ready .any ops listed := by
      intro listed hls
      by_cases hall : ∀ k, k < aos.length → listed.getD k false = true
      · exact .inl hall
      · right
        obtain ⟨i, hi, h1, h2⟩ := least_not hall
        refine ⟨i, ready_iff.2 ⟨by omega, ?_, ops[i]'(by omega), Array.getElem?_eq_getElem (by omega), fun e he hb => ?_⟩⟩
        · have : i < listed.size := by omega
          simp only [Array.getD, this, dif_pos] at h1 ⊢; exact h1
        · exact h2 _ (hedge i _ (by omega) (by rw [Array.getElem?_toList]; exact Array.getElem?_eq_getElem (by omega)) e he hb)
    induction fuel with
    | zero =>
      intro listed e1 σ1 a1 w1 γ1 hls hcnt hcl hget hm hg hf hs hdf
      have hall := cnt_zero (L := fun k => listed.getD k false) (n := aos.length) (by omega)
      refine ⟨?_, theEnd listed e1 σ1 a1 w1 γ1 hall hget hm hg hf hs hdf⟩
      apply List.eq_nil_iff_forall_not_mem.2
      intro i hi
      obtain ⟨h1, h2, _⟩ := ready_iff.1 hi
      have h3 := hall i (by omega)
      have : i < listed.size := by omega
      simp only [Array.getD, this, dif_pos] at h2 h3
      rw [h2] at h3; exact absurd h3 (by simp)
    | succ fuel ih =>
      intro listed e1 σ1 a1 w1 γ1 hls hcnt hcl hget hm hg hf hs hdf
      refine ⟨fun hnil => ?_, fun i hi => ?_⟩
      · rcases allOf listed hls with hall | ⟨i, hi⟩
        · exact theEnd listed e1 σ1 a1 w1 γ1 hall hget hm hg hf hs hdf
        · rw [hnil] at hi; exact absurd hi (by simp)
      · obtain ⟨hisz, hil, o, ho, hafter⟩ := ready_iff.1 hi
        have hi' : i < aos.length := by omega
        have hilt : i < listed.size := by omega
        have hiL : listed.getD i false = false := by
          simp only [Array.getD, hilt, dif_pos] at hil ⊢; exact hil
        obtain ⟨ao, hao⟩ : ∃ ao, aos[i]? = some ao := ⟨aos[i], List.getElem?_eq_getElem hi'⟩
        obtain ⟨hcO, hcG⟩ := chkOpers_get hc i o ao (by simpa using ho) hao
        obtain ⟨m, hmn, hσ1, hmb⟩ := hm
        -- what comes before i is listed, what comes after isn't
        have before : ∀ j, ((befs ops.toList []).getD i 0).testBit j = true → listed.getD j false = true := by
          have gen : ∀ k, ∀ j, (listed.getD k false = true ∨ k = i) → ((befs ops.toList []).getD k 0).testBit j = true → listed.getD j false = true := by
            intro k
            induction k using Nat.strongRecOn with
            | _ k ihk =>
              intro j hk hb
              obtain ⟨o', ho', e, he, hbd, h⟩ := hbits k j hb
              have hon : listed.getD e.on false = true := by
                rcases hk with hk | rfl
                · exact hcl k o' hk (by simpa using ho') e he hbd
                · have : o' = o := by rw [← Array.getElem?_toList] at ho; rw [ho] at ho'; simpa using ho'.symm
                  subst this
                  exact hafter e he hbd
              rcases h with rfl | ⟨h1, h2⟩
              · exact hon
              · exact ihk e.on h1 j (.inl hon) h2
          exact fun j => gen i j (.inr rfl)
        have after : ∀ k, ((befs ops.toList []).getD k 0).testBit i = true → listed.getD k false = false := by
          intro k
          induction k using Nat.strongRecOn with
          | _ k ihk =>
            intro hb
            cases hk : listed.getD k false with
            | false => rfl
            | true =>
              obtain ⟨o', ho', e, he, hbd, h⟩ := hbits k i hb
              have hon := hcl k o' hk (by simpa using ho') e he hbd
              rcases h with h | ⟨h1, h2⟩
              · rw [← h, hiL] at hon; exact absurd hon (by simp)
              · rw [ihk e.on h1 h2] at hon; exact absurd hon (by simp)
        have names : ∀ t ∈ namesOf ao, e1.get t = (E i).get t := by
          intro t ht
          rw [hget, trace_look tr t i (by omega), hE0]
          rw [look_stop (i := i) (n := aos.length) (by omega)]
          · refine look_congr fun k hk hdst => ?_
            have hk' : k < aos.length := by omega
            rw [List.getElem?_eq_getElem hk'] at hdst
            rcases hordN k i _ ao hk hi' (List.getElem?_eq_getElem hk') hao with h | ⟨h, _⟩
            · exact before k h
            · exact absurd ht (h t hdst)
          · intro k h1 h2 hdst
            by_cases e : k = i
            · subst e; exact hiL
            · rw [List.getElem?_eq_getElem h2] at hdst
              rcases hordN i k ao _ (by omega) h2 hao (List.getElem?_eq_getElem h2) with h | ⟨_, h⟩
              · exact after k h
              · exact absurd ht (h t hdst)
        obtain ⟨hEi, hor⟩ := tr.at_ i ao hi' hao
        have hwant : wanted e1 ao.guard = wanted (E i) ao.guard := wanted_congr fun t ht => names t (by simp [namesOf, ht])
        have hstep : ∀ τ, stepC call base ao.op e1 τ = stepC call base ao.op (E i) τ := fun τ => stepC_congr (fun t ht => names t (by simp [namesOf, ht])) τ
        -- the state of the objects
        have hTr : b i = true → i < m → c i = false → ∀ a ob, footOf ao.op (E i) (T i).length = some (true, a) → (T i)[a]? = some ob → σ1[a]? = some ob := by
          intro hbi hmi hci a ob hfa hob
          have haoi : aos[i] = ao := by rw [List.getElem?_eq_getElem hi'] at hao; simpa using hao
          rw [hσ1]
          have : ∀ k, i + k ≤ m → (T (i + k))[a]? = some ob := by
            intro k
            induction k with
            | zero => intro _; exact hob
            | succ k ihk =>
              intro hk
              have hlt : i + k < aos.length := by omega
              have hX := ihk (by omega)
              cases hbb : c (i + k) with
              | false => rw [← Nat.add_assoc, hstay _ hlt hbb]; exact hX
              | true =>
                have h1 := (hmb (i + k) hlt hbb).2 (by omega)
                have hk0 : 0 < k := by
                  rcases Nat.eq_zero_or_pos k with h | h
                  · subst h; rw [Nat.add_zero, hci] at hbb; exact absurd hbb (by simp)
                  · exact h
                obtain ⟨_, hor'⟩ := tr.at_ (i + k) aos[i + k] hlt (List.getElem?_eq_getElem hlt)
                rcases hor' with ⟨_, h2⟩ | ⟨_, _, _, h4⟩
                · cases hpu : isPush aos[i + k].op with
                  | false =>
                    rcases hordA i (i + k) (by omega) hlt hbi (hcb _ hbb) (.inr ⟨hbb, hpu⟩) with h3 | h3
                    · have h3 := after (i + k) h3
                      rw [h1] at h3; exact absurd h3 (by simp)
                    · obtain ⟨a', b', q1, q2, q3⟩ := apart_iff h3
                      rw [haoi, hfa] at q1
                      simp at q1; subst q1
                      rw [← Nat.add_assoc, store_foot h2 q2 a q3]; exact hX
                  | true =>
                    obtain ⟨Y, hY⟩ := isPush_app h2 hpu
                    rw [← Nat.add_assoc, hY]; exact get_app hX
                · rw [hcdef, h4] at hbb; exact absurd hbb (by simp)
          have hX := this (m - i) (by omega)
          rw [show i + (m - i) = m by omega] at hX
          exact hX
        have hTi : b i = true → m ≤ i → σ1 = T i := by
          intro hbi hmi
          rw [hσ1]
          have : ∀ k, m + k ≤ i → T (m + k) = T m := by
            intro k
            induction k with
            | zero => intro _; rfl
            | succ k ihk =>
              intro hk
              have hlt : m + k < aos.length := by omega
              have hnb : c (m + k) = false := by
                cases hbb : c (m + k) with
                | false => rfl
                | true =>
                  have h1 := before (m + k) (hordT (m + k) i (by omega) hi' (hcb _ hbb) hbi hbb)
                  have := (hmb (m + k) hlt hbb).1 h1; omega
              rw [← Nat.add_assoc, hstay _ hlt hnb, ihk (by omega)]
          have h2 := this (i - m) (by omega)
          rw [show m + (i - m) = i by omega] at h2
          exact h2.symm
        -- the new listing
        have hgetL : ∀ k, (listed.setIfInBounds i true).getD k false = if k = i then true else listed.getD k false := by
          intro k
          rw [Array.getD_eq_getD_getElem?, Array.getD_eq_getD_getElem?]
          by_cases e : k = i
          · subst e; simp [hilt]
          · rw [if_neg e, Array.getElem?_setIfInBounds_ne (fun h => e h.symm)]
        have hcnt' : cnt (fun k => (listed.setIfInBounds i true).getD k false) aos.length ≤ fuel := by
          have := cnt_set (L := fun k => listed.getD k false) (M := fun k => (listed.setIfInBounds i true).getD k false) (i := i) hiL (by simp [hgetL]) (fun k hk => by simp only [hgetL]; rw [if_neg hk]) hi'
          omega
        have hcl' : ∀ (k : Nat) (o' : Oper), (listed.setIfInBounds i true).getD k false = true → ops[k]? = some o' → ∀ e ∈ o'.after.toList, Region.binds .any e = true → (listed.setIfInBounds i true).getD e.on false = true := by
          intro k o' hk ho' e he hbd
          rw [hgetL] at hk ⊢
          by_cases e1 : e.on = i
          · rw [if_pos e1]
          · rw [if_neg e1]
            by_cases e2 : k = i
            · subst e2
              have : o' = o := by rw [ho] at ho'; simpa using ho'.symm
              subst this
              exact hafter e he hbd
            · rw [if_neg e2] at hk
              exact hcl k o' hk ho' e he hbd
        have hget' : ∀ t, (e1.put ao.dst (r i)).get t = look aos env r (fun k => (listed.setIfInBounds i true).getD k false) t aos.length := by
          intro t
          have hother : ((aos[i]?).bind (·.dst)) ≠ some t → look aos env r (fun k => (listed.setIfInBounds i true).getD k false) t aos.length = look aos env r (fun k => listed.getD k false) t aos.length := by
            intro hne
            refine look_congr fun k hk hdst => ?_
            rw [hgetL, if_neg]
            rintro rfl; exact hne hdst
          cases hdst : ao.dst with
          | none => rw [hother (by rw [hao]; simp [hdst])]; exact hget t
          | some d =>
            simp only [Env.put, Env.get]
            by_cases e : d = t
            · subst e
              rw [if_pos rfl]
              rw [look_stop (i := i + 1) (n := aos.length) (by omega)]
              · simp only [look, hao, Option.bind_some, hdst, hgetL, if_true, Bool.true_and]
                simp
              · intro k h1 h2 hk
                rw [hgetL, if_neg (by omega)]
                rw [List.getElem?_eq_getElem h2] at hk
                have hp := hpair i k (by omega) (by omega)
                simp only [chkPair, hao, List.getElem?_eq_getElem h2, Bool.or_eq_true, Bool.and_eq_true] at hp
                rcases hp with hp | ⟨⟨hp, _⟩, _⟩
                · exact after k hp
                · simp at hk; rw [hdst] at hp; simp [hk] at hp
            · rw [if_neg e, hother (by rw [hao]; simp [hdst, e])]; exact hget t
        have fin : ∀ (σ2 : St) (a2 : Act) (w2 : World) (γ2 : List Gh), (∃ m, m ≤ aos.length ∧ σ2 = T m ∧ ∀ j, j < aos.length → c j = true → ((listed.setIfInBounds i true).getD j false = true ↔ j < m)) →
            Goes base w1 σ1 γ1 w2 σ2 γ2 → Fst tab F base w2 σ2 γ2 (e1.put ao.dst (r i)) a2.tmps → a2.tmps.size = N → a2.defers = a1.defers → wpAny P .any ops Q fuel (listed.setIfInBounds i true) a2 w2 := by
          intro σ2 a2 w2 γ2 hm2 hg2 hf2 hs2 hdf2
          exact ih (listed.setIfInBounds i true) _ σ2 a2 w2 γ2 (by simpa using hls) hcnt' hcl' hget' hm2 (hg.trans hg2) hf2 hs2 (hdf2.trans hdf)
        have hsame : c i = false → ∃ m, m ≤ aos.length ∧ σ1 = T m ∧ ∀ j, j < aos.length → c j = true → ((listed.setIfInBounds i true).getD j false = true ↔ j < m) := by
          intro hbi
          refine ⟨m, hmn, hσ1, fun j hj hbj => ?_⟩
          rw [hgetL, if_neg (by rintro rfl; rw [hbi] at hbj; exact absurd hbj (by simp))]
          exact hmb j hj hbj
        have hwp : wpOp P ops Q i (wpAny P .any ops Q fuel (listed.setIfInBounds i true)) a1 w1 := by
          unfold wpOp
          rw [ho]
          simp only []
          rcases hor with ⟨hw, hst⟩ | ⟨hw, hr0, hT, hb0⟩
          · cases hbi : b i with
            | true =>
              cases hci : c i with
              | true =>
                have hmi : m ≤ i := by
                  rcases Nat.lt_or_ge i m with h | h
                  · have := (hmb i hi' hci).2 h; rw [hiL] at this; exact absurd this (by simp)
                  · exact h
                have hti := hTi hbi hmi
                refine oper_ok C hG hN hcO hcG hf hs (.inl ⟨r i, true, by rw [hwant]; exact hw, by rw [hstep, hti, hst, hbi], rfl⟩) fun a2 w2 γ2 hg2 hf2 hs2 hdf2 => fin _ a2 w2 γ2 ⟨i + 1, by omega, rfl, fun j hj hbj => ?_⟩ hg2 hf2 hs2 hdf2
                rw [hgetL]
                by_cases e : j = i
                · simp [e]
                · rw [if_neg e]
                  constructor
                  · intro h
                    have h1 := (hmb j hj hbj).1 h
                    have hmi : m ≤ i := by
                      rcases Nat.lt_or_ge i m with h | h
                      · have := (hmb i hi' hci).2 h; rw [hiL] at this; exact absurd this (by simp)
                      · exact h
                    omega
                  · intro h
                    exact before j (hordT j i (by omega) hi' (hcb _ hbj) hbi hbj)
              | false =>
                have hsi := hstay i hi' hci
                have hrd : isRd ao.op = true := by
                  rw [hcdef, hbi, hao] at hci; simpa using hci
                have hst1 : stepC call base ao.op (E i) σ1 = some (r i, σ1, true) := by
                  rcases Nat.lt_or_ge i m with hmi | hmi
                  · rw [hbi] at hst
                    obtain ⟨a, ob, q1, q2, q3⟩ := rd_foot hst hrd
                    exact q3 σ1 (hTr hbi hmi hci a ob q1 q2)
                  · rw [hTi hbi hmi, hst, hsi, hbi]
                exact oper_ok C hG hN hcO hcG hf hs (.inl ⟨r i, true, by rw [hwant]; exact hw, by rw [hstep]; exact hst1, rfl⟩) fun a2 w2 γ2 hg2 hf2 hs2 hdf2 => fin σ1 a2 w2 γ2 (hsame hci) hg2 hf2 hs2 hdf2
            | false =>
              rw [hbi] at hst
              obtain ⟨h1, h2⟩ := stepC_free hst
              exact oper_ok C hG hN hcO hcG hf hs (.inl ⟨r i, false, by rw [hwant]; exact hw, by rw [hstep]; exact h2 σ1, rfl⟩) fun a2 w2 γ2 hg2 hf2 hs2 hdf2 => fin σ1 a2 w2 γ2 (hsame (hcb0 _ hbi)) hg2 hf2 hs2 hdf2
          · exact oper_ok C hG hN hcO hcG hf hs (.inr ⟨by rw [hwant]; exact hw, rfl, rfl⟩) fun a2 w2 γ2 hg2 hf2 hs2 hdf2 => fin σ1 a2 w2 γ2 (hsame (hcb0 _ hb0)) hg2 (by rw [hr0]; exact hf2) hs2 hdf2
        exact hwp
  refine main ops.size _ env σ a w γ (by simp) ?_ ?_ ?_ ⟨0, by omega, hT0.symm, fun j hj _ => ?_⟩ (Goes.refl w γ S.hb) S hsz rfl
  · have : ∀ n, cnt (fun k => (Array.replicate ops.size false).getD k false) n ≤ n := by
      intro n
      induction n with
      | zero => exact Nat.le_refl _
      | succ n ih => simp only [cnt]; split <;> omega
    have := this aos.length
    omega
  · intro i o h
    exfalso
    rw [Array.getD_eq_getD_getElem?] at h
    by_cases hi : i < ops.size <;> simp [hi] at h
  · intro t
    have : ∀ n, look aos env r (fun k => (Array.replicate ops.size false).getD k false) t n = env.get t := by
      intro n
      induction n with
      | zero => rfl
      | succ n ih =>
        simp only [look]
        have h0 : (Array.replicate ops.size false).getD n false = false := by
          rw [Array.getD_eq_getD_getElem?]
          by_cases hi : n < ops.size <;> simp [hi]
        simp only [h0, Bool.false_and]; simpa using ih
    exact (this _).symm
  · rw [Array.getD_eq_getD_getElem?]
    by_cases hi : j < ops.size <;> simp [hi]
end
end Go.Den

/-! Regions whose order is drawn, with places kept for the objects that they make. -/
namespace Go.Den
open Go

section
variable {P : Program} {tab : Nat → Nat}
/-- Whatever the order: the region ends where the text's order ends. -/
theorem xany_ok {call : CallF} {G : Nat → Option AFunc} (C : CallOk P tab call) (hG : ∀ f args σ r, call f args σ = some r → ∃ F, G f = some F) (hN : Named P tab G) {ops : Array Oper} {N : Nat} {aos : List AOper} {unord : List (Nat × Nat)}
    (hc : chkOpers P tab N ops ops.toList aos = true) (hd : chkDrawX ops.toList aos unord = true) {F : Nat → Prop} {base : Nat} {env env' : Env} {σ σ' : St} {S' : List (Nat × Foot)} (hrun : runD call base aos 0 env σ [] = some (env', σ', S')) (hok : xOk S' unord = true) (hft : allFeet S' = true)
    {a : Act} {w : World} {γ : List Gh} (S : Fst tab F base w σ γ env a.tmps) (hsz : a.tmps.size = N) {Q : Exit → Act → World → Prop}
    (hQ : ∀ a' w' γ' e', (∀ t, e'.get t = env'.get t) → Goes base w σ γ w' σ' γ' → Fst tab F base w' σ' γ' e' a'.tmps → a'.tmps.size = N → a'.defers = a.defers → Q .normal a' w') :
    wpAny P .any ops Q ops.size (Array.replicate ops.size false) a w := by
  obtain ⟨E, T, r, b, hE0, hT0, hEn, hTn, tr, hS'⟩ := runD_trace aos 0 hrun
  have hlen : aos.length = ops.size := by rw [chkOpers_len hc]; simp
  simp only [chkDrawX, Bool.and_eq_true, Array.length_toList] at hd
  obtain ⟨hed, hpr⟩ := hd
  have hedge := chkEdges_ok hed
  have hpair := chkPairsX_ok hpr
  have hn := hlen
  -- touched pairs are ordered
  have hbits : ∀ j i, ((befs ops.toList []).getD j 0).testBit i = true → ∃ o, ops.toList[j]? = some o ∧ ∃ e ∈ o.after.toList, Region.binds .any e = true ∧ (i = e.on ∨ e.on < j ∧ ((befs ops.toList []).getD e.on 0).testBit i = true) := by
    intro j i h
    obtain ⟨o, ho, h⟩ := befs_get ops.toList [] j i (by simp) h
    exact ⟨o, by simpa using ho, h⟩
  have htouch : ∀ i, i < aos.length → ∀ ao, aos[i]? = some ao → b i = true → mayTouch ao.op = true := by
    intro i hi ao hao hb
    obtain ⟨_, hor⟩ := tr.at_ i ao hi hao
    rcases hor with ⟨_, h2⟩ | ⟨_, _, _, h4⟩
    · cases hm : mayTouch ao.op with
      | true => rfl
      | false => rw [mayTouch_ok h2 hm] at hb; exact absurd hb (by simp)
    · rw [h4] at hb; exact absurd hb (by simp)
  have hmem : ∀ i, (hi : i < aos.length) → b i = true → (i, footOf aos[i].op (E i) (T i).length) ∈ S' := fun i hi hb => (hS' _).2 (.inr ⟨i, aos[i], List.getElem?_eq_getElem hi, by simp, hb⟩)
  have hst : ∀ i, (hi : i < aos.length) → b i = true → stepC call base aos[i].op (E i) (T i) = some (r i, T (i + 1), true) := by
    intro i hi hb
    obtain ⟨_, hor⟩ := tr.at_ i aos[i] hi (List.getElem?_eq_getElem hi)
    rcases hor with ⟨_, h2⟩ | ⟨_, _, _, h4⟩
    · rw [hb] at h2; exact h2
    · rw [h4] at hb; exact absurd hb (by simp)
  have hst0 : ∀ i, i < aos.length → b i = false → T (i + 1) = T i := by
    intro i hi hb
    obtain ⟨_, hor⟩ := tr.at_ i aos[i] hi (List.getElem?_eq_getElem hi)
    rcases hor with ⟨_, h2⟩ | ⟨_, _, h3, _⟩
    · rw [hb] at h2; exact (stepC_free h2).1
    · exact h3
  have hfoot : ∀ i, (hi : i < aos.length) → b i = true → ∃ q a, footOf aos[i].op (E i) (T i).length = some (q, a) := by
    intro i hi hb
    have := allFeet_mem hft _ (hmem i hi hb)
    simp only [] at this
    cases hf : footOf aos[i].op (E i) (T i).length with
    | none => rw [hf] at this; exact absurd this (by simp)
    | some p => exact ⟨p.1, p.2, rfl⟩
  have hlenT : ∀ i, i ≤ aos.length → (T i).length = σ.length := by
    intro i
    induction i with
    | zero => intro _; rw [hT0]
    | succ i ih =>
      intro hi
      have hi' : i < aos.length := by omega
      cases hb : b i with
      | false => rw [hst0 i hi' hb]; exact ih (by omega)
      | true =>
        obtain ⟨q, a, hf⟩ := hfoot i hi' hb
        rw [(one_foot (hst i hi' hb) hf (fun _ => rfl)).1]; exact ih (by omega)
  obtain ⟨W, hW⟩ : ∃ W : Nat → Nat → Prop, ∀ i a, W i a ↔ ∃ hi : i < aos.length, b i = true ∧ footOf aos[i].op (E i) (T i).length = some (false, a) := ⟨_, fun _ _ => Iff.rfl⟩
  have hnw : ∀ i, i < aos.length → ∀ a, ¬ W i a → (T (i + 1))[a]? = (T i)[a]? := by
    intro i hi a hn
    cases hb : b i with
    | false => rw [hst0 i hi hb]
    | true =>
      obtain ⟨q, a', hf⟩ := hfoot i hi hb
      obtain ⟨_, o2, o3, _⟩ := one_foot (hst i hi hb) hf (fun _ => rfl)
      cases q with
      | true => rw [o3 rfl]
      | false =>
        refine o2 a ?_
        rintro rfl
        exact hn ((hW i a).2 ⟨hi, hb, hf⟩)
  have hrange : ∀ a m k, m ≤ k → k ≤ aos.length → (∀ j, m ≤ j → j < k → ¬ W j a) → (T k)[a]? = (T m)[a]? := by
    intro a m k
    induction k with
    | zero => intro h _ _; have : m = 0 := by omega
              subst this; rfl
    | succ k ih =>
      intro h hk hn
      by_cases e : m = k + 1
      · subst e; rfl
      · rw [hnw k (by omega) a (hn k (by omega) (by omega))]
        exact ih (by omega) (by omega) fun j h1 h2 => hn j h1 (by omega)
  have hrd : ∀ i, (hi : i < aos.length) → isRd aos[i].op = true → ∀ q a, footOf aos[i].op (E i) (T i).length = some (q, a) → q = true := by
    intro i hi h q a hf
    revert h hf
    cases aos[i].op
    case call mode f args =>
      intro _ hf
      simp only [footOf] at hf
      split at hf
      · split at hf
        · simp at hf; exact hf.1
        · exact absurd hf (by simp)
      · exact absurd hf (by simp)
    all_goals (simp [isRd, footOf] <;> intros <;> simp_all)
  have hconf : ∀ i j, (hij : i < j) → (hj : j < aos.length) → b i = true → b j = true → ∀ q1 q2 a, footOf (aos[i]'(Nat.lt_trans hij hj)).op (E i) (T i).length = some (q1, a) → footOf aos[j].op (E j) (T j).length = some (q2, a) → ¬ (q1 = true ∧ q2 = true) → ((befs ops.toList []).getD j 0).testBit i = true := by
    intro i j hij hj hbi hbj q1 q2 a hf1 hf2 hq
    have h := hpair i j hij (by omega)
    have hi' : i < aos.length := by omega
    simp only [chkPairX, List.getElem?_eq_getElem hi', List.getElem?_eq_getElem hj, Bool.or_eq_true, Bool.and_eq_true] at h
    rcases h with h | ⟨_, h⟩
    · exact h
    · exfalso
      have t1 := htouch i hi' _ (List.getElem?_eq_getElem hi') hbi
      have t2 := htouch j hj _ (List.getElem?_eq_getElem hj) hbj
      rcases h with (h | ⟨r1, r2⟩) | h
      · simp [t1, t2] at h
      · exact hq ⟨hrd i hi' r1 _ _ hf1, hrd j hj r2 _ _ hf2⟩
      · simp at h
        have := xOk_pair hok i j h _ _ (hmem i hi' hbi) (hmem j hj hbj)
        rw [hf1, hf2] at this
        simp [freeOf] at this
        exact hq this
  have hordN : ∀ i j x y, i < j → j < aos.length → aos[i]? = some x → aos[j]? = some y → ((befs ops.toList []).getD j 0).testBit i = true ∨ ((∀ d, x.dst = some d → d ∉ namesOf y) ∧ (∀ d, y.dst = some d → d ∉ namesOf x)) := by
    intro i j x y hij hj hx hy
    have h := hpair i j hij (by omega)
    simp only [chkPairX, hx, hy, Bool.or_eq_true, Bool.and_eq_true] at h
    rcases h with h | ⟨⟨h1, h2⟩, _⟩
    · exact .inl h
    · right
      refine ⟨fun d hd => ?_, fun d hd => ?_⟩
      · rw [hd] at h1; simp at h1; exact h1.1
      · rw [hd] at h2; simpa using h2
  have main : ∀ (fuel : Nat) (listed : Array Bool) (e1 : Env) (σ1 : St) (a1 : Act) (w1 : World) (γ1 : List Gh), listed.size = ops.size → cnt (fun k => listed.getD k false) aos.length ≤ fuel →
      (∀ (i : Nat) (o : Oper), listed.getD i false = true → ops[i]? = some o → ∀ e ∈ o.after.toList, Region.binds .any e = true → listed.getD e.on false = true) →
      (∀ t, e1.get t = look aos env r (fun k => listed.getD k false) t aos.length) → (σ1.length = σ.length ∧ ∀ a, ∃ m, m ≤ aos.length ∧ σ1[a]? = (T m)[a]? ∧ ∀ j, W j a → (listed.getD j false = true ↔ j < m)) →
      Goes base w σ γ w1 σ1 γ1 → Fst tab F base w1 σ1 γ1 e1 a1.tmps → a1.tmps.size = N → a1.defers = a.defers → wpAny P .any ops Q fuel listed a1 w1 := by
    intro fuel
    -- the end
    have theEnd : ∀ (listed : Array Bool) (e1 : Env) (σ1 : St) (a1 : Act) (w1 : World) (γ1 : List Gh), (∀ k, k < aos.length → listed.getD k false = true) → (∀ t, e1.get t = look aos env r (fun k => listed.getD k false) t aos.length) →
        (σ1.length = σ.length ∧ ∀ a, ∃ m, m ≤ aos.length ∧ σ1[a]? = (T m)[a]? ∧ ∀ j, W j a → (listed.getD j false = true ↔ j < m)) → Goes base w σ γ w1 σ1 γ1 → Fst tab F base w1 σ1 γ1 e1 a1.tmps → a1.tmps.size = N → a1.defers = a.defers → Q .normal a1 w1 := by
      intro listed e1 σ1 a1 w1 γ1 hall hget ⟨hl1, hob⟩ hg hf hs hdf
      have hσ' : σ1 = σ' := by
        rw [← hTn]
        apply List.ext_getElem?
        intro p
        obtain ⟨m, hm, hp, hw⟩ := hob p
        rw [hp]
        refine (hrange p m aos.length hm (Nat.le_refl _) fun j h1 h2 hWj => ?_).symm
        have := (hw j hWj).1 (hall j h2)
        omega
      subst hσ'
      refine hQ a1 w1 γ1 e1 (fun t => ?_) hg hf hs hdf
      rw [hget, ← hEn, trace_look tr t aos.length (Nat.le_refl _), hE0]
      exact look_congr fun k hk _ => hall k hk
    have allOf : ∀ (listed : Array Bool), listed.size = ops.size → (∀ i, i < aos.length → listed.getD i false = true) ∨ ∃ i, i ∈ Region.ready .any ops listed := by
      intro listed hls
      by_cases hall : ∀ k, k < aos.length → listed.getD k false = true
      · exact .inl hall
      · right
        obtain ⟨i, hi, h1, h2⟩ := least_not hall
        refine ⟨i, ready_iff.2 ⟨by omega, ?_, ops[i]'(by omega), Array.getElem?_eq_getElem (by omega), fun e he hb => ?_⟩⟩
        · have : i < listed.size := by omega
          simp only [Array.getD, this, dif_pos] at h1 ⊢; exact h1
        · exact h2 _ (hedge i _ (by omega) (by rw [Array.getElem?_toList]; exact Array.getElem?_eq_getElem (by omega)) e he hb)
    induction fuel with
    | zero =>
      intro listed e1 σ1 a1 w1 γ1 hls hcnt hcl hget hm hg hf hs hdf
      have hall := cnt_zero (L := fun k => listed.getD k false) (n := aos.length) (by omega)
      refine ⟨?_, theEnd listed e1 σ1 a1 w1 γ1 hall hget hm hg hf hs hdf⟩
      apply List.eq_nil_iff_forall_not_mem.2
      intro i hi
      obtain ⟨h1, h2, _⟩ := ready_iff.1 hi
      have h3 := hall i (by omega)
      have : i < listed.size := by omega
      simp only [Array.getD, this, dif_pos] at h2 h3
      rw [h2] at h3; exact absurd h3 (by simp)
    | succ fuel ih =>
      intro listed e1 σ1 a1 w1 γ1 hls hcnt hcl hget hm hg hf hs hdf
      refine ⟨fun hnil => ?_, fun i hi => ?_⟩
      · rcases allOf listed hls with hall | ⟨i, hi⟩
        · exact theEnd listed e1 σ1 a1 w1 γ1 hall hget hm hg hf hs hdf
        · rw [hnil] at hi; exact absurd hi (by simp)
      · obtain ⟨hisz, hil, o, ho, hafter⟩ := ready_iff.1 hi
        have hi' : i < aos.length := by omega
        have hilt : i < listed.size := by omega
        have hiL : listed.getD i false = false := by
          simp only [Array.getD, hilt, dif_pos] at hil ⊢; exact hil
        obtain ⟨ao, hao⟩ : ∃ ao, aos[i]? = some ao := ⟨aos[i], List.getElem?_eq_getElem hi'⟩
        obtain ⟨hcO, hcG⟩ := chkOpers_get hc i o ao (by simpa using ho) hao
        obtain ⟨hl1, hob⟩ := hm
        -- what comes before i is listed, what comes after isn't
        have before : ∀ j, ((befs ops.toList []).getD i 0).testBit j = true → listed.getD j false = true := by
          have gen : ∀ k, ∀ j, (listed.getD k false = true ∨ k = i) → ((befs ops.toList []).getD k 0).testBit j = true → listed.getD j false = true := by
            intro k
            induction k using Nat.strongRecOn with
            | _ k ihk =>
              intro j hk hb
              obtain ⟨o', ho', e, he, hbd, h⟩ := hbits k j hb
              have hon : listed.getD e.on false = true := by
                rcases hk with hk | rfl
                · exact hcl k o' hk (by simpa using ho') e he hbd
                · have : o' = o := by rw [← Array.getElem?_toList] at ho; rw [ho] at ho'; simpa using ho'.symm
                  subst this
                  exact hafter e he hbd
              rcases h with rfl | ⟨h1, h2⟩
              · exact hon
              · exact ihk e.on h1 j (.inl hon) h2
          exact fun j => gen i j (.inr rfl)
        have after : ∀ k, ((befs ops.toList []).getD k 0).testBit i = true → listed.getD k false = false := by
          intro k
          induction k using Nat.strongRecOn with
          | _ k ihk =>
            intro hb
            cases hk : listed.getD k false with
            | false => rfl
            | true =>
              obtain ⟨o', ho', e, he, hbd, h⟩ := hbits k i hb
              have hon := hcl k o' hk (by simpa using ho') e he hbd
              rcases h with h | ⟨h1, h2⟩
              · rw [← h, hiL] at hon; exact absurd hon (by simp)
              · rw [ihk e.on h1 h2] at hon; exact absurd hon (by simp)
        have names : ∀ t ∈ namesOf ao, e1.get t = (E i).get t := by
          intro t ht
          rw [hget, trace_look tr t i (by omega), hE0]
          rw [look_stop (i := i) (n := aos.length) (by omega)]
          · refine look_congr fun k hk hdst => ?_
            have hk' : k < aos.length := by omega
            rw [List.getElem?_eq_getElem hk'] at hdst
            rcases hordN k i _ ao hk hi' (List.getElem?_eq_getElem hk') hao with h | ⟨h, _⟩
            · exact before k h
            · exact absurd ht (h t hdst)
          · intro k h1 h2 hdst
            by_cases e : k = i
            · subst e; exact hiL
            · rw [List.getElem?_eq_getElem h2] at hdst
              rcases hordN i k ao _ (by omega) h2 hao (List.getElem?_eq_getElem h2) with h | ⟨_, h⟩
              · exact after k h
              · exact absurd ht (h t hdst)
        obtain ⟨hEi, hor⟩ := tr.at_ i ao hi' hao
        have hwant : wanted e1 ao.guard = wanted (E i) ao.guard := wanted_congr fun t ht => names t (by simp [namesOf, ht])
        have hstep : ∀ τ, stepC call base ao.op e1 τ = stepC call base ao.op (E i) τ := fun τ => stepC_congr (fun t ht => names t (by simp [namesOf, ht])) τ
        -- the state of the object that i touches
        have hTa : b i = true → ∀ q a, footOf (aos[i]'hi').op (E i) (T i).length = some (q, a) → σ1[a]? = (T i)[a]? := by
          intro hbi q a hfa
          obtain ⟨m, hm, hp, hw⟩ := hob a
          rw [hp]
          rcases Nat.lt_or_ge i m with him | him
          · refine hrange a i m (by omega) hm fun j h1 h2 hWj => ?_
            have hlj := (hw j hWj).2 h2
            obtain ⟨hj, hbj, hfj⟩ := (hW j a).1 hWj
            by_cases e : j = i
            · subst e; rw [hiL] at hlj; exact absurd hlj (by simp)
            · have := after j (hconf i j (by omega) hj hbi hbj q false a hfa hfj (by simp))
              rw [hlj] at this; exact absurd this (by simp)
          · refine (hrange a m i him (by omega) fun j h1 h2 hWj => ?_).symm
            obtain ⟨hj, hbj, hfj⟩ := (hW j a).1 hWj
            have := before j (hconf j i h2 hi' hbj hbi false q a hfj hfa (by simp))
            have := (hw j hWj).1 this
            omega
        -- the new listing
        have hgetL : ∀ k, (listed.setIfInBounds i true).getD k false = if k = i then true else listed.getD k false := by
          intro k
          rw [Array.getD_eq_getD_getElem?, Array.getD_eq_getD_getElem?]
          by_cases e : k = i
          · subst e; simp [hilt]
          · rw [if_neg e, Array.getElem?_setIfInBounds_ne (fun h => e h.symm)]
        have hcnt' : cnt (fun k => (listed.setIfInBounds i true).getD k false) aos.length ≤ fuel := by
          have := cnt_set (L := fun k => listed.getD k false) (M := fun k => (listed.setIfInBounds i true).getD k false) (i := i) hiL (by simp [hgetL]) (fun k hk => by simp only [hgetL]; rw [if_neg hk]) hi'
          omega
        have hcl' : ∀ (k : Nat) (o' : Oper), (listed.setIfInBounds i true).getD k false = true → ops[k]? = some o' → ∀ e ∈ o'.after.toList, Region.binds .any e = true → (listed.setIfInBounds i true).getD e.on false = true := by
          intro k o' hk ho' e he hbd
          rw [hgetL] at hk ⊢
          by_cases e1 : e.on = i
          · rw [if_pos e1]
          · rw [if_neg e1]
            by_cases e2 : k = i
            · subst e2
              have : o' = o := by rw [ho] at ho'; simpa using ho'.symm
              subst this
              exact hafter e he hbd
            · rw [if_neg e2] at hk
              exact hcl k o' hk ho' e he hbd
        have hget' : ∀ t, (e1.put ao.dst (r i)).get t = look aos env r (fun k => (listed.setIfInBounds i true).getD k false) t aos.length := by
          intro t
          have hother : ((aos[i]?).bind (·.dst)) ≠ some t → look aos env r (fun k => (listed.setIfInBounds i true).getD k false) t aos.length = look aos env r (fun k => listed.getD k false) t aos.length := by
            intro hne
            refine look_congr fun k hk hdst => ?_
            rw [hgetL, if_neg]
            rintro rfl; exact hne hdst
          cases hdst : ao.dst with
          | none => rw [hother (by rw [hao]; simp [hdst])]; exact hget t
          | some d =>
            simp only [Env.put, Env.get]
            by_cases e : d = t
            · subst e
              rw [if_pos rfl]
              rw [look_stop (i := i + 1) (n := aos.length) (by omega)]
              · simp only [look, hao, Option.bind_some, hdst, hgetL, if_true, Bool.true_and]
                simp
              · intro k h1 h2 hk
                rw [hgetL, if_neg (by omega)]
                rw [List.getElem?_eq_getElem h2] at hk
                have hp := hpair i k (by omega) (by omega)
                simp only [chkPairX, hao, List.getElem?_eq_getElem h2, Bool.or_eq_true, Bool.and_eq_true] at hp
                rcases hp with hp | ⟨⟨hp, _⟩, _⟩
                · exact after k hp
                · simp at hk; rw [hdst] at hp; simp [hk] at hp
            · rw [if_neg e, hother (by rw [hao]; simp [hdst, e])]; exact hget t
        have fin : ∀ (σ2 : St) (a2 : Act) (w2 : World) (γ2 : List Gh), (σ2.length = σ.length ∧ ∀ a, ∃ m, m ≤ aos.length ∧ σ2[a]? = (T m)[a]? ∧ ∀ j, W j a → ((listed.setIfInBounds i true).getD j false = true ↔ j < m)) →
            Goes base w1 σ1 γ1 w2 σ2 γ2 → Fst tab F base w2 σ2 γ2 (e1.put ao.dst (r i)) a2.tmps → a2.tmps.size = N → a2.defers = a1.defers → wpAny P .any ops Q fuel (listed.setIfInBounds i true) a2 w2 := by
          intro σ2 a2 w2 γ2 hm2 hg2 hf2 hs2 hdf2
          exact ih (listed.setIfInBounds i true) _ σ2 a2 w2 γ2 (by simpa using hls) hcnt' hcl' hget' hm2 (hg.trans hg2) hf2 hs2 (hdf2.trans hdf)
        have hsame : (∀ a, ¬ W i a) → (σ1.length = σ.length ∧ ∀ a, ∃ m, m ≤ aos.length ∧ σ1[a]? = (T m)[a]? ∧ ∀ j, W j a → ((listed.setIfInBounds i true).getD j false = true ↔ j < m)) := by
          intro hnW
          refine ⟨hl1, fun a => ?_⟩
          obtain ⟨m, hm, hp, hw⟩ := hob a
          refine ⟨m, hm, hp, fun j hWj => ?_⟩
          rw [hgetL, if_neg (by rintro rfl; exact hnW a hWj)]
          exact hw j hWj
        have hnW0 : b i = false → ∀ a, ¬ W i a := by
          intro hbi a hWi
          obtain ⟨_, hb, _⟩ := (hW i a).1 hWi
          rw [hbi] at hb; exact absurd hb (by simp)
        have hwp : wpOp P ops Q i (wpAny P .any ops Q fuel (listed.setIfInBounds i true)) a1 w1 := by
          unfold wpOp
          rw [ho]
          simp only []
          rcases hor with ⟨hw, hst'⟩ | ⟨hw, hr0, hT, hb0⟩
          · cases hbi : b i with
            | true =>
              have haoi : aos[i] = ao := by rw [List.getElem?_eq_getElem hi'] at hao; simpa using hao
              obtain ⟨q, a, hfa⟩ := hfoot i hi' hbi
              have hta := hTa hbi q a hfa
              obtain ⟨o1, o2, o3, o4⟩ := one_foot (hst i hi' hbi) hfa (fun _ => rfl)
              obtain ⟨τ', p1, p2, p3, p4⟩ := o4 σ1 (by rw [hl1, hlenT i (by omega)]) hta
              rw [haoi] at p1
              refine oper_ok C hG hN hcO hcG hf hs (.inl ⟨r i, true, by rw [hwant]; exact hw, by rw [hstep]; exact p1, rfl⟩) fun a2 w2 γ2 hg2 hf2 hs2 hdf2 => fin τ' a2 w2 γ2 ⟨by rw [p2, hl1], fun p => ?_⟩ hg2 hf2 hs2 hdf2
              by_cases hpa : p = a
              · subst hpa
                cases q with
                | true =>
                  obtain ⟨m, hm, hp, hw2⟩ := hob p
                  refine ⟨m, hm, by rw [p3, o3 rfl, ← hta, hp], fun j hWj => ?_⟩
                  rw [hgetL, if_neg ?_]
                  · exact hw2 j hWj
                  · rintro rfl
                    obtain ⟨_, _, hff⟩ := (hW j p).1 hWj
                    rw [hfa] at hff; simp at hff
                | false =>
                  refine ⟨i + 1, by omega, p3, fun j hWj => ?_⟩
                  obtain ⟨hj, hbj, hfj⟩ := (hW j p).1 hWj
                  rw [hgetL]
                  by_cases e : j = i
                  · simp [e]
                  · rw [if_neg e]
                    rcases Nat.lt_or_ge j i with hji | hji
                    · have := before j (hconf j i hji hi' hbj hbi false false p hfj hfa (by simp))
                      simp [this]; omega
                    · have := after j (hconf i j (by omega) hj hbi hbj false false p hfa hfj (by simp))
                      simp [this]; omega
              · obtain ⟨m, hm, hp, hw2⟩ := hob p
                refine ⟨m, hm, by rw [p4 p hpa, hp], fun j hWj => ?_⟩
                rw [hgetL, if_neg ?_]
                · exact hw2 j hWj
                · rintro rfl
                  obtain ⟨_, _, hff⟩ := (hW j p).1 hWj
                  rw [hfa] at hff; simp at hff; exact hpa hff.2.symm
            | false =>
              rw [hbi] at hst'
              obtain ⟨h1, h2⟩ := stepC_free hst'
              exact oper_ok C hG hN hcO hcG hf hs (.inl ⟨r i, false, by rw [hwant]; exact hw, by rw [hstep]; exact h2 σ1, rfl⟩) fun a2 w2 γ2 hg2 hf2 hs2 hdf2 => fin σ1 a2 w2 γ2 (hsame (hnW0 hbi)) hg2 hf2 hs2 hdf2
          · exact oper_ok C hG hN hcO hcG hf hs (.inr ⟨by rw [hwant]; exact hw, rfl, rfl⟩) fun a2 w2 γ2 hg2 hf2 hs2 hdf2 => fin σ1 a2 w2 γ2 (hsame (hnW0 hb0)) hg2 (by rw [hr0]; exact hf2) hs2 hdf2
        exact hwp
  refine main ops.size _ env σ a w γ (by simp) ?_ ?_ ?_ ⟨rfl, fun a => ⟨0, by omega, by rw [hT0], fun j hWj => ?_⟩⟩ (Goes.refl w γ S.hb) S hsz rfl
  · have : ∀ n, cnt (fun k => (Array.replicate ops.size false).getD k false) n ≤ n := by
      intro n
      induction n with
      | zero => exact Nat.le_refl _
      | succ n ih => simp only [cnt]; split <;> omega
    have := this aos.length
    omega
  · intro i o h
    exfalso
    rw [Array.getD_eq_getD_getElem?] at h
    by_cases hi : i < ops.size <;> simp [hi] at h
  · intro t
    have : ∀ n, look aos env r (fun k => (Array.replicate ops.size false).getD k false) t n = env.get t := by
      intro n
      induction n with
      | zero => rfl
      | succ n ih =>
        simp only [look]
        have h0 : (Array.replicate ops.size false).getD n false = false := by
          rw [Array.getD_eq_getD_getElem?]
          by_cases hi : n < ops.size <;> simp [hi]
        simp only [h0, Bool.false_and]; simpa using ih
    exact (this _).symm
  · rw [Array.getD_eq_getD_getElem?]
    by_cases hi : j < ops.size <;> simp [hi]
end
end Go.Den
