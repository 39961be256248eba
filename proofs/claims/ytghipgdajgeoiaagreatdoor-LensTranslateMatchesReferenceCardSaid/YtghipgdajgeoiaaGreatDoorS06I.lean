/- Package schema: Apply, After. -/
import Derived.Test.YtghipgdajgeoiaaGreatDoorS06H
namespace Go.Den
open Go
set_option linter.unusedSimpArgs false
set_option linter.unusedVariables false
set_option maxRecDepth 100000
set_option maxHeartbeats 1000000
def m1 : List (AV × AV) := [(.int .i64 1, .fn 191 [])]
def m2 : List (AV × AV) := [(.int .i64 1, .fn 191 []), (.int .i64 2, .fn 192 [])]
def m3 : List (AV × AV) := [(.int .i64 1, .fn 191 []), (.int .i64 2, .fn 192 []), (.int .i64 3, .fn 193 [])]
def m4 : List (AV × AV) := [(.int .i64 1, .fn 191 []), (.int .i64 2, .fn 192 []), (.int .i64 3, .fn 193 []), (.int .i64 4, .fn 194 [])]
def m5 : List (AV × AV) := [(.int .i64 1, .fn 191 []), (.int .i64 2, .fn 192 []), (.int .i64 3, .fn 193 []), (.int .i64 4, .fn 194 []), (.int .i64 5, .fn 195 [])]
def m6 : List (AV × AV) := [(.int .i64 1, .fn 191 []), (.int .i64 2, .fn 192 []), (.int .i64 3, .fn 193 []), (.int .i64 4, .fn 194 []), (.int .i64 5, .fn 195 []), (.int .i64 6, .fn 196 [])]
def m7 : List (AV × AV) := [(.int .i64 1, .fn 191 []), (.int .i64 2, .fn 192 []), (.int .i64 3, .fn 193 []), (.int .i64 4, .fn 194 []), (.int .i64 5, .fn 195 []), (.int .i64 6, .fn 196 []), (.int .i64 7, .fn 197 [])]
theorem mp1 : mput false [.i] (.int .i64 1) (.fn 191 []) [] = some m1 := rfl
theorem mp2 : mput false [.i] (.int .i64 2) (.fn 192 []) m1 = some m2 := rfl
theorem mp3 : mput false [.i] (.int .i64 3) (.fn 193 []) m2 = some m3 := rfl
theorem mp4 : mput false [.i] (.int .i64 4) (.fn 194 []) m3 = some m4 := rfl
theorem mp5 : mput false [.i] (.int .i64 5) (.fn 195 []) m4 = some m5 := rfl
theorem mp6 : mput false [.i] (.int .i64 6) (.fn 196 []) m5 = some m6 := rfl
theorem mp7 : mput false [.i] (.int .i64 7) (.fn 197 []) m6 = some m7 := rfl
theorem apply_known (fs : List Fld) (next : Int) (c : Chg) (f : Nat) (r : SR) (hL : fs.length < 1000000000000) (hM : ∀ o0 o1, Mok o0 o1 f c fs next 0 r) (hr : r.e ≠ 0 → r.fs = [] ∧ r.next = 0)
    (hm : mfind false [.i] (.int .i64 c.kind) m7 = some (some (.fn f []))) : Den prog 200 [.agg [.sl (fs.map Fld.cells), .int .i64 next], .agg c.cells] [] = some (r.av, []) := by
  obtain ⟨x2, x3, h1, h2⟩ := hM (.cells [.nils, .int .i64 0]) (.map m7)
  have hcl := slices_Clone fs hL
  rw [Den_ofK [] pr_schema_Apply rfl]
  simp only [cells_chg] at h1 ⊢
  unfold SR.av
  by_cases he : r.e = 0
  · obtain ⟨v', tl', rfl, rfl⟩ := h2 he
    rw [he] at h1 ⊢
    have d0 : decide ((0 : Int) = 0) = true := rfl
    have hE : ((r.fs ++ tl').map Fld.cells).length = r.fs.length + tl'.length := by simp
    have htk : ((r.fs ++ tl').map Fld.cells).take r.fs.length = r.fs.map Fld.cells := by rw [List.map_append, List.take_left' (by simp)]
    have hle : r.fs.length ≤ r.fs.length + tl'.length := by omega
    generalize (r.fs ++ tl').map Fld.cells = E at *
    generalize r.fs.length + tl'.length = n at *
    simp only [f_schema_Apply, mp1, mp2, mp3, mp4, mp5, mp6, mp7, hm, hcl, h1, d0, hE, htk, hle, frzO_part, go_sem]
  · obtain ⟨q1, q2⟩ := hr he
    have d0 : decide (r.e = 0) = false := by simpa using he
    rw [q1, q2]
    simp only [f_schema_Apply, mp1, mp2, mp3, mp4, mp5, mp6, mp7, hm, hcl, h1, d0, go_sem]
/-- An error comes with the zero schema. -/
def Zr (r : SR) : Prop := r.e ≠ 0 → r.fs = [] ∧ r.next = 0
theorem Zr_bad (e : Int) : Zr (bad e) := fun _ => ⟨rfl, rfl⟩
theorem Zr_ok (fs : List Fld) (n : Int) : Zr ⟨fs, n, 0⟩ := fun h => absurd rfl h
theorem Zr_bif {b : Bool} {x y : SR} (h1 : Zr x) (h2 : Zr y) : Zr (bif b then x else y) := by cases b <;> assumption
theorem addS_zr (fs : List Fld) (next : Int) (c : Chg) : Zr (addS fs next c) := by
  unfold addS; exact Zr_bif (Zr_bad _) (Zr_bif (Zr_bad _) (Zr_bif (Zr_bad _) (Zr_bif (Zr_bad _) (Zr_ok _ _))))
theorem oneS_zr (fs : List Fld) (next : Int) (c : Chg) : Zr (oneS fs next c) := by
  unfold oneS moveS
  exact Zr_bif (Zr_bad _) (Zr_bif (Zr_bif (Zr_bad _) (Zr_ok _ _)) (Zr_bif (Zr_bif (Zr_bad _) (Zr_ok _ _)) (Zr_bif (Zr_bif (Zr_bad _) (Zr_ok _ _)) (Zr_bif (Zr_bad _) (Zr_bif (Zr_bad _) (Zr_bif (Zr_bad _) (Zr_ok _ _)))))))
theorem splitS_zr (fs : List Fld) (next : Int) (c : Chg) : Zr (splitS fs next c) := by
  unfold splitS; exact Zr_bif (Zr_bad _) (Zr_bif (Zr_bad _) (Zr_bif (Zr_bad _) (Zr_bif (Zr_bad _) (Zr_bif (Zr_bad _) (Zr_ok _ _)))))
theorem joinS_zr (fs : List Fld) (next : Int) (c : Chg) : Zr (joinS fs next c) := by
  unfold joinS; exact Zr_bif (Zr_bad _) (Zr_bif (Zr_bad _) (Zr_bif (Zr_bad _) (Zr_bif (Zr_bad _) (Zr_bif (Zr_bad _) (Zr_bif (Zr_bad _) (Zr_ok _ _))))))
theorem m7_find (k : Int) : mfind false [.i] (.int .i64 k) m7 = some (if k = 1 then some (.fn 191 []) else if k = 2 then some (.fn 192 []) else if k = 3 then some (.fn 193 []) else if k = 4 then some (.fn 194 []) else if k = 5 then some (.fn 195 []) else if k = 6 then some (.fn 196 []) else if k = 7 then some (.fn 197 []) else none) := by
  unfold m7
  simp only [mfind_cons, mfind_nil, keyEq_int, Option.bind_some, mfindC_eq, brk]
  by_cases k1 : k = 1 <;> by_cases k2 : k = 2 <;> by_cases k3 : k = 3 <;> by_cases k4 : k = 4 <;> by_cases k5 : k = 5 <;> by_cases k6 : k = 6 <;> by_cases k7 : k = 7 <;> simp [k1, k2, k3, k4, k5, k6, k7]
/-- APPLY IS THE REFERENCE'S. -/
theorem schema_Apply (fs : List Fld) (next : Int) (c : Chg) (h : SInv fs next) (u : UQ fs) (hc : COK c) : Den prog 200 [.agg [.sl (fs.map Fld.cells), .int .i64 next], .agg c.cells] [] = some ((applyC fs next c).av, []) := by
  have hl := h.len
  have hL : fs.length < 1000000000000 := by omega
  have hm := m7_find c.kind
  unfold applyC
  by_cases k1 : c.kind = 1
  · rw [if_pos k1]; rw [if_pos k1] at hm
    exact apply_known fs next c 191 _ hL (fun o0 o1 => schema_add o0 o1 fs next 0 c h u hc.name) (addS_zr fs next c) hm
  · rw [if_neg k1]; rw [if_neg k1] at hm
    by_cases k2 : c.kind = 2
    · rw [if_pos (.inl k2)]; rw [if_pos k2] at hm
      exact apply_known fs next c 192 _ hL (fun o0 o1 => schema_drop o0 o1 fs next 0 c h u k2) (oneS_zr fs next c) hm
    · rw [if_neg k2] at hm
      by_cases k3 : c.kind = 3
      · rw [if_pos (.inr (.inl k3))]; rw [if_pos k3] at hm
        exact apply_known fs next c 193 _ hL (fun o0 o1 => schema_rename o0 o1 fs next 0 c h u k3 hc.name) (oneS_zr fs next c) hm
      · rw [if_neg k3] at hm
        by_cases k4 : c.kind = 4
        · rw [if_pos (.inr (.inr (.inl k4)))]; rw [if_pos k4] at hm
          exact apply_known fs next c 194 _ hL (fun o0 o1 => schema_widen o0 o1 fs next 0 c h u k4) (oneS_zr fs next c) hm
        · rw [if_neg k4] at hm
          by_cases k5 : c.kind = 5
          · rw [if_pos (.inr (.inr (.inr k5)))]; rw [if_pos k5] at hm
            exact apply_known fs next c 195 _ hL (fun o0 o1 => schema_move o0 o1 fs next 0 c h u k5) (oneS_zr fs next c) hm
          · rw [if_neg k5] at hm
            rw [if_neg (by simp [k2, k3, k4, k5])]
            by_cases k6 : c.kind = 6
            · rw [if_pos k6]; rw [if_pos k6] at hm
              exact apply_known fs next c 196 _ hL (fun o0 o1 => schema_split o0 o1 fs next 0 c h u hc.name hc.other) (splitS_zr fs next c) hm
            · rw [if_neg k6]; rw [if_neg k6] at hm
              by_cases k7 : c.kind = 7
              · rw [if_pos k7]; rw [if_pos k7] at hm
                exact apply_known fs next c 197 _ hL (fun o0 o1 => schema_join o0 o1 fs next 0 c h u hc.name) (joinS_zr fs next c) hm
              · rw [if_neg k7]; rw [if_neg k7] at hm
                rw [Den_ofK [] pr_schema_Apply rfl]
                simp only [f_schema_Apply, cells_chg, mp1, mp2, mp3, mp4, mp5, mp6, mp7, hm, go_sem]
@[go_sem] theorem schema_New : Den prog 199 [] [] = some (.agg [.sl [], .int .i64 1], []) := by
  rw [Den_ofK [] pr_schema_New rfl]
  simp only [f_schema_New, go_sem]
end Go.Den
