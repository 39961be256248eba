/- Ch. 10, plain: what pages hold, read back. -/
import Derived.Test.YtfjaimkpmehojaaGreatS10A
namespace Go.Den
open Go
set_option linter.unusedSimpArgs false
set_option linter.unusedVariables false
set_option maxRecDepth 100000
set_option maxHeartbeats 1000000
def maskOf (l : List Val) : List UInt8 := maskB (l.map (·.null))
def bodyP (l : List Val) (t : Int) : List UInt8 := l.flatMap fun v => bif v.null then [] else bareB v t
def plainP (l : List Val) (t : Int) : List UInt8 := maskOf l ++ bodyP l t
def bodyD : Int → List Val → List UInt8
  | _, [] => []
  | last, v :: r => bif v.null then bodyD last r else leb (zz (IntKind.wrap .i64 (v.n - last))) ++ bodyD v.n r
def deltaP (l : List Val) : List UInt8 := maskOf l ++ bodyD 0 l
theorem bodyP_app (l m : List Val) (t : Int) : bodyP (l ++ m) t = bodyP l t ++ bodyP m t := by simp [bodyP]
def posP (l : List Val) (t : Int) (i : Nat) : Nat := (maskOf l).length + (bodyP (l.take i) t).length
theorem posP_next (l : List Val) (t : Int) (i : Nat) (v : Val) (h : l[i]? = some v) : posP l t (i + 1) = posP l t i + (bif v.null then 0 else (bareB v t).length) := by
  unfold posP
  rw [List.take_add_one, h, Option.toList_some, bodyP_app, List.length_append]
  simp only [bodyP, List.flatMap_cons, List.flatMap_nil, List.append_nil]
  cases v.null <;> simp <;> omega
theorem plainP_at (l : List Val) (t : Int) (i : Nat) (v : Val) (h : l[i]? = some v) (hn : v.null = false) (ho : okV v t = true) (hi : InB v) : readB (plainP l t) (posP l t i : Nat) t = (v, ((posP l t (i + 1) : Nat) : Int), 0) := by
  have e : plainP l t = (maskOf l ++ bodyP (l.take i) t) ++ (bareB v t ++ bodyP (l.drop (i + 1)) t) := by
    have hl : l = l.take i ++ (v :: l.drop (i + 1)) := by
      have hi2 : i < l.length := by
        rcases Nat.lt_or_ge i l.length with h1 | h1
        · exact h1
        · rw [List.getElem?_eq_none h1] at h; simp at h
      rw [List.getElem?_eq_getElem hi2] at h
      simp only [Option.some.injEq] at h
      rw [← h, ← List.drop_eq_getElem_cons hi2, List.take_append_drop]
    unfold plainP
    conv => lhs; rw [show bodyP l t = bodyP (l.take i ++ (v :: l.drop (i + 1))) t from congrArg (bodyP · t) hl]
    rw [bodyP_app]
    have : bodyP (v :: l.drop (i + 1)) t = bareB v t ++ bodyP (l.drop (i + 1)) t := by simp [bodyP, hn]
    rw [this, List.append_assoc]
  have hp : posP l t i = (maskOf l ++ bodyP (l.take i) t).length := by unfold posP; rw [List.length_append]
  rw [posP_next l t i v h, hn, cond_false, hp, e, readB_bare _ _ v t ho hn hi]
  refine Prod.ext rfl (Prod.ext ?_ rfl)
  simp only []
  omega
end Go.Den
