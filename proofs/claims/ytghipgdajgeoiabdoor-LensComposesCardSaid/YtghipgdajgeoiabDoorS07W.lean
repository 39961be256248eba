/- Forward, back and forward again. -/
import Derived.Test.YtghipgdajgeoiabDoorS07V
namespace Go.Den
open Go
set_option linter.unusedSimpArgs false
set_option linter.unusedVariables false
set_option maxRecDepth 100000
set_option maxHeartbeats 1000000
theorem size_l7 (b : ByteArray) : b.data.toList.length = b.size := by rw [Array.length_toList]; rfl
theorem ext_list (s : ByteArray) (i j : Nat) : (s.extract i j).data.toList = (s.data.toList.take j).drop i := by
  rw [ByteArray.data_extract, Array.toList_extract, List.extract_eq_take_drop]
  rw [List.drop_take]
theorem cutS_list (s : ByteArray) : (cutS 200 s).data.toList = s.data.toList.take 200 := by
  have hs := size_l7 s
  unfold cutS cutI
  split
  · rw [ext_list]; rfl
  · rw [ext_list, Int.toNat_natCast, List.drop_zero, List.take_of_length_le (by omega), List.take_of_length_le (by omega)]
theorem cutS_id {s : ByteArray} (h : s.size ≤ 200) : cutS 200 s = s := bytes_ext (by rw [cutS_list, List.take_of_length_le (by have := size_l7 s; omega)])
theorem occ_split {s t : List UInt8} {i : Nat} (h : Lib.occAt s t i = true) : s.take i ++ t ++ s.drop (i + t.length) = s := by
  unfold Lib.occAt at h
  rw [List.isPrefixOf_iff_prefix] at h
  obtain ⟨u, hu⟩ := h
  have h1 := List.take_append_drop i s
  rw [← hu] at h1
  have h2 : s.drop (i + t.length) = u := by
    rw [← List.drop_drop, ← hu, List.drop_left]
  rw [h2, List.append_assoc]
  exact h1
/-- The parts of a text that is divided make it up. -/
theorem divV_join {s t : ByteArray} (h : (divV s t).2.null = false) : (divV s t).1.s ++ t ++ (divV s t).2.s = s := by
  unfold divV at *
  cases d : decide (0 ≤ ixS s t) with
  | false => rw [d] at h; exact absurd h (by simp [nullV])
  | true =>
    have h0 : 0 ≤ ixS s t := by simpa using d
    obtain ⟨i, hi, hl, ho, _⟩ := index_room h0
    have hix : ixS s t = i := hi
    simp only [cond_true, hix]
    refine bytes_ext ?_
    simp only [ByteArray.data_append, Array.toList_append]
    have hs := size_l7 s
    have ht := size_l7 t
    have e1 : ((i : Int) + (t.size : Int)).toNat = i + t.data.toList.length := by omega
    rw [ext_list, ext_list, Int.toNat_natCast, e1, List.drop_zero, List.take_of_length_le (show s.data.toList.length ≤ s.size by omega)]
    exact occ_split ho
theorem divV_none {s t : ByteArray} (h : (divV s t).2.null = true) : (divV s t).1 = ⟨false, 0, s⟩ ∧ (divV s t).2 = nullV := by
  unfold divV at *
  cases d : decide (0 ≤ ixS s t) with
  | false => exact ⟨rfl, rfl⟩
  | true => rw [d] at h; exact absurd h (by simp)
/-- A text in which the separator stands is divided. -/
theorem divV_some {a t b : ByteArray} : (divV (a ++ t ++ b) t).2.null = false := by
  have ho : Lib.occAt (a ++ t ++ b).data.toList t.data.toList a.data.toList.length = true := by
    unfold Lib.occAt
    rw [List.isPrefixOf_iff_prefix]
    refine ⟨b.data.toList, ?_⟩
    simp [ByteArray.data_append]
  have h0 : 0 ≤ ixS (a ++ t ++ b) t := by
    have hg := Lib.index_ge (a ++ t ++ b).data.toList t.data.toList
    by_cases hn : Lib.index (a ++ t ++ b).data.toList t.data.toList = -1
    · exfalso
      have hex : ∃ i, i ≤ (a ++ t ++ b).data.toList.length ∧ Lib.occAt (a ++ t ++ b).data.toList t.data.toList i = true ∧ ∀ k, k < i → Lib.occAt (a ++ t ++ b).data.toList t.data.toList k = false := by
        have key : ∀ n j, j ≤ n → j ≤ (a ++ t ++ b).data.toList.length → Lib.occAt (a ++ t ++ b).data.toList t.data.toList j = true → ∃ i, i ≤ (a ++ t ++ b).data.toList.length ∧ Lib.occAt (a ++ t ++ b).data.toList t.data.toList i = true ∧ ∀ k, k < i → Lib.occAt (a ++ t ++ b).data.toList t.data.toList k = false := by
          intro n
          induction n with
          | zero => intro j h1 h2 h3; exact ⟨j, h2, h3, fun k hk => by omega⟩
          | succ n ih =>
            intro j h1 h2 h3
            by_cases hj : ∃ k, k < j ∧ Lib.occAt (a ++ t ++ b).data.toList t.data.toList k = true
            · obtain ⟨k, k1, k2⟩ := hj
              exact ih k (by omega) (by omega) k2
            · exact ⟨j, h2, h3, fun k hk => by
                cases hb : Lib.occAt (a ++ t ++ b).data.toList t.data.toList k with
                | false => rfl
                | true => exact (hj ⟨k, hk, hb⟩).elim⟩
        exact key _ _ (Nat.le_refl _) (by simp [ByteArray.data_append]) ho
      obtain ⟨i, i1, i2, i3⟩ := hex
      have := Lib.index_first i1 i2 i3
      rw [hn] at this
      omega
    · unfold ixS; omega
  unfold divV
  have d : decide (0 ≤ ixS (a ++ t ++ b) t) = true := by simpa using h0
  rw [d]
  rfl
theorem divV_one (s t : ByteArray) : (divV s t).1.null = false ∧ (divV s t).1.n = 0 := by
  unfold divV
  cases decide (0 ≤ ixS s t) <;> exact ⟨rfl, rfl⟩
theorem nn_null {r : List Cell} (h : NN r) {j : Int} (hn : (getC r j).null = true) : getC r j = nullV := by
  refine getC_not fun c hc e => ?_
  have h1 := h c hc
  subst e
  have : ∀ q : List Cell, (∀ x ∈ q, x.v.null = false) → c ∈ q → (getC q c.id).null = false := by
    intro q
    induction q with
    | nil => intro _ h; simp at h
    | cons x q ih =>
      intro hq hm
      rw [getC]
      split
      · exact hq x (by simp)
      · rcases List.mem_cons.1 hm with rfl | hm
        · rename_i hne; exact absurd rfl hne
        · exact ih (fun y hy => hq y (by simp [hy])) hm
  rw [this r h hc] at hn
  exact absurd hn (by simp)
theorem nz_nz (v : Val) : nz (nz v) = nz v := by
  unfold nz; cases h : v.null <;> simp [h, nullV]
theorem nz_nullV : nz nullV = nullV := rfl
theorem nn_nz {r : List Cell} (h : NN r) (j : Int) : nz (getC r j) = getC r j := by
  cases hn : (getC r j).null with
  | true => rw [nn_null h hn]; rfl
  | false => exact nz_of hn
theorem getC_apart2 {r : List Cell} (s : Srt r) (a x y j : Int) (t : ByteArray) : getC (apartL r a x y t) j =
    bif (getC r a).null then (if j = a then nullV else getC r j) else (if j = y then nz (divV (getC r a).s t).2 else if j = x then nz (divV (getC r a).s t).1 else if j = a then nullV else getC r j) := by
  unfold apartL
  have s0 := putL_srt s a nullV
  cases (getC r a).null with
  | true => simp only [cond_true]; rw [getC_put s]; rfl
  | false => simp only [cond_false]; rw [getC_put (putL_srt s0 _ _), getC_put s0, getC_put s]; rfl
theorem apart_srt {r : List Cell} (s : Srt r) (a x y : Int) (t : ByteArray) : Srt (apartL r a x y t) := by
  unfold apartL
  cases (getC r a).null with
  | true => exact putL_srt s _ _
  | false => exact putL_srt (putL_srt (putL_srt s _ _) _ _) _ _
/-- P7.5. -/
theorem stable {T T' : Int → Option Int} {c : Chg} {n : Int} (e : Eff T T' c n) (bd : Bd T n) {r : List Cell} (f : Ft T r) : fwdL c n (bakL c n (fwdL c n r)) = fwdL c n r := by
  have f1 := fwd_ft e bd f
  have f2 := bak_ft e bd f1
  have f3 := fwd_ft e bd f2
  refine row_ext f3.srt f1.srt f3.nn f1.nn fun j => ?_
  have tn : ∀ j t, T j = some t → j ≠ n ∧ j ≠ n + 1 := fun j t h => by have := bd j t h; omega
  have tN : T n = none := by cases h : T n with | none => rfl | some t => exact absurd rfl (tn _ _ h).1
  have tN1 : T (n + 1) = none := by cases h : T (n + 1) with | none => rfl | some t => exact absurd rfl (tn _ _ h).2
  have no : ∀ i, T i = none → getC r i = nullV := fun i hi => by
    refine nn_null f.nn ?_
    cases h : (getC r i).null with
    | true => rfl
    | false => have := f.ok i h; rw [hi] at this; exact absurd this (by simp [okT])
  have rn := no n tN
  have rn1 := no (n + 1) tN1
  have s := f.srt
  clear f1 f2 f3
  rcases e with ⟨k, t0, q⟩ | ⟨k, q⟩ | ⟨k, q⟩ | ⟨k, h2, q⟩ | ⟨k, h4, q⟩ | ⟨k, h4, w4, hne, q⟩
  · have e1 : decide (c.kind = 1) = true := by simpa using k
    have e2 : decide (c.kind = 2) = false := by simp; omega
    have e6 : decide (c.kind = 6) = false := by simp; omega
    have e7 : decide (c.kind = 7) = false := by simp; omega
    simp only [fwdL, bakL, e1, e2, e6, e7, cond_true, cond_false]
    rw [getC_put s]
    split
    · rename_i ej; rw [ej, rn]; rfl
    · rfl
  · have e1 : decide (c.kind = 1) = false := by simp; omega
    have e2 : decide (c.kind = 2) = true := by simpa using k
    have e4 : decide (c.kind = 4) = false := by simp; omega
    have e6 : decide (c.kind = 6) = false := by simp; omega
    have e7 : decide (c.kind = 7) = false := by simp; omega
    simp only [fwdL, bakL, e1, e2, e4, e6, e7, cond_true, cond_false]
    rw [getC_put (putL_srt s _ _), getC_put s]
    split <;> rfl
  · have e1 : decide (c.kind = 1) = false := by simp; omega
    have e2 : decide (c.kind = 2) = false := by simp; omega
    have e4 : decide (c.kind = 4) = false := by simp; omega
    have e6 : decide (c.kind = 6) = false := by simp; omega
    have e7 : decide (c.kind = 7) = false := by simp; omega
    simp only [fwdL, bakL, e1, e2, e4, e6, e7, cond_true, cond_false]
  · have e1 : decide (c.kind = 1) = false := by simp; omega
    have e2 : decide (c.kind = 2) = false := by simp; omega
    have e4 : decide (c.kind = 4) = true := by simpa using k
    have e6 : decide (c.kind = 6) = false := by simp; omega
    have e7 : decide (c.kind = 7) = false := by simp; omega
    have hr : (decide ((getC r c.id).n < -2147483648) || decide (2147483647 < (getC r c.id).n)) = false := by
      cases hn : (getC r c.id).null with
      | true => rw [nn_null f.nn hn]; rfl
      | false =>
        have ok := f.ok c.id hn
        rw [h2] at ok
        simp only [okT, okV, hn, loT, hiT, decide_true, dt21, dt24, dt23, cond_false, cond_true, Bool.not_false, Bool.true_and, Bool.and_eq_true, decide_eq_true_eq] at ok
        simp only [Bool.or_eq_false_iff, decide_eq_false_iff_not]
        omega
    simp only [fwdL, bakL, narrowL, hr, e1, e2, e4, e6, e7, cond_true, cond_false]
  · have e1 : decide (c.kind = 1) = false := by simp; omega
    have e2 : decide (c.kind = 2) = false := by simp; omega
    have e4 : decide (c.kind = 4) = false := by simp; omega
    have e6 : decide (c.kind = 6) = true := by simpa using k
    have hc := tn _ _ h4
    simp only [fwdL, bakL, e1, e2, e4, e6, cond_true, cond_false]
    have sF := apart_srt s c.id n (n + 1) c.sep
    have sB := putL_srt (putL_srt (putL_srt sF n nullV) (n + 1) nullV) c.id (conL (apartL r c.id n (n + 1) c.sep) n c.sep)
    have gF := fun i => getC_apart2 s c.id n (n + 1) i c.sep
    have gB := fun i => (getC_put (putL_srt (putL_srt sF n nullV) (n + 1) nullV) c.id (conL (apartL r c.id n (n + 1) c.sep) n c.sep) i)
    have gB1 := fun i => getC_put (putL_srt sF n nullV) (n + 1) nullV i
    have gB2 := fun i => getC_put sF n nullV i
    have gS := getC_apart2 sB c.id n (n + 1) j c.sep
    rw [gS]
    have con : nz (conL (apartL r c.id n (n + 1) c.sep) n c.sep) = bif (getC r c.id).null then nullV else ⟨false, 0, (getC r c.id).s⟩ := by
      unfold conL
      rw [gF n, gF (n + 1)]
      cases hn : (getC r c.id).null with
      | true =>
        simp only [cond_true]
        rw [if_neg (Ne.symm hc.1), if_neg (Ne.symm hc.2), rn, rn1]
        rfl
      | false =>
        have ok := f.ok c.id hn
        rw [h4, okT_text] at ok
        have hnn1 : n ≠ n + 1 := by omega
        simp only [if_neg hnn1, if_true, cond_false]
        have d1 := divV_one (getC r c.id).s c.sep
        cases hb : (divV (getC r c.id).s c.sep).2.null with
        | true =>
          obtain ⟨q1, q2⟩ := divV_none hb
          rw [q1, q2]
          rfl
        | false =>
          have hj := divV_join hb
          rw [nz_null, hb, cond_false, nz_of hb, nz_of d1.1]
          unfold conV
          rw [d1.1, hj, cutS_id ok.2.2]
          rfl
    rw [gB c.id, if_pos rfl, con]
    have gF' := gF j
    cases hn : (getC r c.id).null with
    | true =>
      rw [hn] at gF'
      simp only [cond_true, nv] at gF' ⊢
      rw [gF', gB j, gB1, gB2, gF']
      by_cases ej : j = c.id
      · rw [if_pos ej, if_pos ej]
      · rw [if_neg ej, if_neg ej]
        by_cases ea : j = n + 1
        · rw [if_pos ea, ea, rn1]; split <;> rfl
        · rw [if_neg ea]
          by_cases eb : j = n
          · rw [if_pos eb, eb, rn]; split <;> rfl
          · rw [if_neg eb]
    | false =>
      rw [hn] at gF' con
      simp only [cond_false] at gF' ⊢
      rw [gF']
      by_cases ea : j = n + 1
      · rw [if_pos ea, if_pos ea]
      · rw [if_neg ea, if_neg ea]
        by_cases eb : j = n
        · rw [if_pos eb, if_pos eb]
        · rw [if_neg eb, if_neg eb]
          by_cases ej : j = c.id
          · rw [if_pos ej, if_pos ej]
          · rw [if_neg ej, if_neg ej, gB j, if_neg ej, gB1, if_neg ea, gB2, if_neg eb, gF', if_neg ea, if_neg eb, if_neg ej]
  · have e1 : decide (c.kind = 1) = false := by simp; omega
    have e2 : decide (c.kind = 2) = false := by simp; omega
    have e4 : decide (c.kind = 4) = false := by simp; omega
    have e6 : decide (c.kind = 6) = false := by simp; omega
    have e7 : decide (c.kind = 7) = true := by simpa using k
    have hc := tn _ _ h4
    have hw := tn _ _ w4
    simp only [fwdL, bakL, e1, e2, e4, e6, e7, cond_true, cond_false]
    have s1 := putL_srt s c.id nullV
    have s2 := putL_srt s1 c.wi nullV
    generalize hF : putL (putL (putL r c.id nullV) c.wi nullV) n (conV (getC r c.id) (getC r c.wi) c.sep) = F
    have sF : Srt F := by rw [← hF]; exact putL_srt s2 _ _
    have gF : ∀ i, getC F i = if i = n then nz (conV (getC r c.id) (getC r c.wi) c.sep) else if i = c.wi then nullV else if i = c.id then nullV else getC r i := fun i => by
      rw [← hF, getC_put s2, getC_put s1, getC_put s]; rfl
    have gB := fun i => getC_apart2 sF n c.id c.wi i c.sep
    have sB := apart_srt sF n c.id c.wi c.sep
    rw [getC_put (putL_srt (putL_srt sB _ _) _ _), getC_put (putL_srt sB _ _), getC_put sB, gF j]
    have gFn := gF n
    rw [if_pos rfl] at gFn
    have gBi := gB c.id
    have gBw := gB c.wi
    have gBj := gB j
    have gFj := gF j
    have gFi := gF c.id
    have gFw := gF c.wi
    rw [if_neg hc.1, if_neg hne, if_pos rfl] at gFi
    rw [if_neg hw.1, if_pos rfl] at gFw
    rw [gFn, nz_null] at gBi gBw gBj
    have con : nz (conV (getC (apartL F n c.id c.wi c.sep) c.id) (getC (apartL F n c.id c.wi c.sep) c.wi) c.sep) = nz (conV (getC r c.id) (getC r c.wi) c.sep) := by
      rw [gBi, gBw]
      cases hn : (conV (getC r c.id) (getC r c.wi) c.sep).null with
      | true =>
        simp only [cond_true]
        rw [if_neg hc.1, if_neg hw.1, gFi, gFw]
        unfold nz
        rw [hn]
        rfl
      | false =>
        simp only [if_neg hne, if_true, cond_false]
        have tok := conV_ok hn
        generalize hv : conV (getC r c.id) (getC r c.wi) c.sep = v at *
        have d1 := divV_one v.s c.sep
        rw [nz_of hn, nz_of d1.1]
        have ev : v = ⟨false, 0, v.s⟩ := by
          obtain ⟨v1, v2, v3⟩ := v
          simp only [TextOk] at tok
          rw [tok.1, tok.2.1]
        have goal : conV (divV v.s c.sep).1 (nz (divV v.s c.sep).2) c.sep = v := by
          unfold conV
          rw [d1.1]
          simp only [Bool.false_and, cond_false]
          rw [ev]
          congr 1
          cases hb : (divV v.s c.sep).2.null with
          | false =>
            rw [nz_of hb, divV_join hb, cutS_id tok.2.2]
          | true =>
            obtain ⟨q1, q2⟩ := divV_none hb
            rw [q1, q2]
            -- the separator was cut away, so the text is full
            have full : v.s.data.toList.length = 200 := by
              have hvn : ((getC r c.id).null && (getC r c.wi).null) = false := by
                cases hh : ((getC r c.id).null && (getC r c.wi).null) with
                | false => rfl
                | true => unfold conV at hv; rw [hh] at hv; rw [← hv] at hn; exact absurd hn (by simp [nullV])
              have hvs : v.s = cutS 200 ((getC r c.id).s ++ c.sep ++ (getC r c.wi).s) := by
                unfold conV at hv; rw [hvn] at hv; rw [← hv]; rfl
              by_cases hle : ((getC r c.id).s ++ c.sep ++ (getC r c.wi).s).size ≤ 200
              · rw [cutS_id hle] at hvs
                rw [hvs, divV_some] at hb
                exact absurd hb (by simp)
              · rw [hvs, cutS_list, List.length_take, size_l7]
                omega
            refine bytes_ext ?_
            rw [cutS_list]
            simp only [ByteArray.data_append, Array.toList_append]
            rw [List.append_assoc, ← full, List.take_left]
        rw [goal, nz_of hn]
    rw [con]
    by_cases en : j = n
    · rw [if_pos en, if_pos en]
    · rw [if_neg en, if_neg en]
      by_cases ew : j = c.wi
      · rw [if_pos ew, if_pos ew]; rfl
      · rw [if_neg ew, if_neg ew]
        by_cases ei : j = c.id
        · rw [if_pos ei, if_pos ei]; rfl
        · rw [if_neg ei, if_neg ei, gBj, gFj, if_neg en, if_neg ew, if_neg ei]
          cases (conV (getC r c.id) (getC r c.wi) c.sep).null with
          | true => rw [cond_true, if_neg en]
          | false => rw [cond_false, if_neg ew, if_neg ei, if_neg en]
end Go.Den
