
import Derived.Test.YtfjaimkpmehojaaGreatDenLp
import Derived.Test.YtfjaimkpmehojaaGreatTy
import Derived.Test.YtfjaimkpmehojaaGreatFn10W
namespace Go.Den
open Go
set_option linter.unusedSimpArgs false
set_option linter.unusedVariables false
set_option maxRecDepth 100000
set_option maxHeartbeats 1000000
structure Fld where
  id : Int
  name : ByteArray
  type : Int
  par : Int
deriving DecidableEq
def Fld.cells (f : Fld) : List AV := [.int .i64 f.id, .str f.name, .int .i64 f.type, .int .i64 f.par]
structure Sch where
  fs : List Fld
  next : Int
def Sch.cells (s : Sch) : List AV := [.sl (s.fs.map Fld.cells), .int .i64 s.next]
attribute [go_sem] Fld.cells Sch.cells
def noF : Fld := ⟨0, ⟨#[]⟩, 0, 0⟩
def hasF (fs : List Fld) (id : Int) : Bool := fs.any fun f => decide (f.id = id)
def getF : List Fld → Int → Fld
  | [], _ => noF
  | f :: r, id => if f.id = id then f else getF r id
def nmB (c : Int) : Bool := (decide (97 ≤ c) && decide (c ≤ 122)) || (decide (48 ≤ c) && decide (c ≤ 57)) || decide (c = 95)
def nameOk (s : ByteArray) : Bool := (s.data.toList.all fun b => nmB b.toNat) && (decide (1 ≤ (s.size : Int)) && decide ((s.size : Int) ≤ 32))
def groupOk (fs : List Fld) (id : Int) : Bool := decide (id = 0) || (hasF fs id && decide ((getF fs id).type = 6))
def depth (fs : List Fld) : Nat → Int → Int → Int
  | 0, _, n => n
  | k + 1, id, n => if id = 0 then n else if hasF fs id then depth fs k (getF fs id).par (n + 1) else 9
end Go.Den

namespace Go.Den
open Go
set_option linter.unusedSimpArgs false
set_option linter.unusedVariables false
set_option maxRecDepth 100000
set_option maxHeartbeats 1000000
def takenB (f : Fld) (a b : Int) (g : Fld) : Bool := decide (g.par = f.par) && (decide (g.name = f.name) && (!decide (g.id = a) && !decide (g.id = b)))
def taken (fs : List Fld) (f : Fld) (a b : Int) : Bool := fs.any (takenB f a b) || !nameOk f.name
def insideF (fs : List Fld) (g : Int) : Nat → Int → Bool
  | 0, _ => false
  | k + 1, id => if id = 0 then false else if id = g then true else insideF fs g k (getF fs id).par
def keepB (a b : Int) (f : Fld) : Bool := !decide (f.id = a) && !decide (f.id = b)
def putF (f : Fld) (g : Fld) : Fld := if g.id = f.id then f else g
def sepOk (s : ByteArray) : Bool := decide (1 ≤ (s.size : Int)) && decide ((s.size : Int) ≤ 16)
end Go.Den

namespace Go.Den
open Go
set_option linter.unusedSimpArgs false
set_option linter.unusedVariables false
set_option maxRecDepth 100000
set_option maxHeartbeats 1000000
structure Chg where
  kind : Int
  id : Int
  wi : Int
  name : ByteArray
  other : ByteArray
  type : Int
  par : Int
  sep : ByteArray
def Chg.cells (c : Chg) : List AV := [.int .i64 c.kind, .int .i64 c.id, .int .i64 c.wi, .str c.name, .str c.other, .int .i64 c.type, .int .i64 c.par, .str c.sep]
attribute [go_sem] Chg.cells
structure SR where
  fs : List Fld
  next : Int
  e : Int
def SR.av (r : SR) : AV := .tup [.agg [.sl (r.fs.map Fld.cells), .int .i64 r.next], .int .i64 r.e]
def bad (e : Int) : SR := ⟨[], 0, e⟩
theorem bad_fs (e : Int) : (bad e).fs = [] := rfl
theorem bad_next (e : Int) : (bad e).next = 0 := rfl
theorem bad_e (e : Int) : (bad e).e = e := rfl
attribute [go_sem] SR.av bad_fs bad_next bad_e
structure SOK (fs : List Fld) (next : Int) : Prop where
  len : fs.length < 1000000000
  n0 : 0 ≤ next
  n1 : next < 1000000000000
  nm : ∀ f ∈ fs, f.name.size < 1000000000000000
theorem getF_name {fs : List Fld} (h : ∀ f ∈ fs, f.name.size < 1000000000000000) (id : Int) : (getF fs id).name.size < 1000000000000000 := by
  induction fs with
  | nil => simp [getF, noF, ByteArray.size]
  | cons f r ih =>
    rw [getF]
    split
    · exact h f (by simp)
    · exact ih fun g hg => h g (by simp [hg])
theorem if_bool {α : Type} (b : Bool) (x y : α) : (if b = true then x else y) = bif b then x else y := by cases b <;> rfl
def addS (fs : List Fld) (next : Int) (c : Chg) : SR :=
  bif decide (c.type < 1) || decide (6 < c.type) then bad 7 else
  bif !groupOk fs c.par || decide (8 ≤ depth fs 9 c.par 0) then bad 63 else
  bif taken fs ⟨0, c.name, c.type, c.par⟩ 0 0 then bad 60 else
  bif decide (64 ≤ (fs.length : Int)) || decide (1073741824 ≤ next) then bad 2 else ⟨fs ++ [⟨next, c.name, c.type, c.par⟩], next + 1, 0⟩
def deep (fs : List Fld) (f : Fld) : Bool := decide (8 < depth fs 9 f.id 0)
def moveS (fs : List Fld) (next : Int) (f : Fld) (par : Int) : SR :=
  bif !groupOk fs par || insideF fs f.id 9 par then bad 63 else
  bif (fs.map (putF { f with par := par })).any (deep (fs.map (putF { f with par := par }))) then bad 63 else
  bif taken fs { f with par := par } f.id f.id then bad 60 else ⟨fs.map (putF { f with par := par }), next, 0⟩
end Go.Den

namespace Go.Den
open Go
set_option linter.unusedSimpArgs false
set_option linter.unusedVariables false
set_option maxRecDepth 100000
set_option maxHeartbeats 1000000
def oneS (fs : List Fld) (next : Int) (c : Chg) : SR :=
  bif !hasF fs c.id then bad 61 else
  bif decide (c.kind = 2) then
    bif fs.any (fun g => decide (g.par = (getF fs c.id).id)) then bad 63 else ⟨fs.filter (keepB (getF fs c.id).id (getF fs c.id).id), next, 0⟩
  else bif decide (c.kind = 3) then
    bif taken fs { getF fs c.id with name := c.name } (getF fs c.id).id (getF fs c.id).id then bad 60 else ⟨fs.map (putF { getF fs c.id with name := c.name }), next, 0⟩
  else bif decide (c.kind = 4) then
    bif !decide ((getF fs c.id).type = 2) then bad 62 else ⟨fs.map (putF { getF fs c.id with type := 3 }), next, 0⟩
  else moveS fs next (getF fs c.id) c.par
def splitS (fs : List Fld) (next : Int) (c : Chg) : SR :=
  bif !hasF fs c.id then bad 61 else
  bif !decide ((getF fs c.id).type = 4) then bad 7 else
  bif !sepOk c.sep then bad 1 else
  bif taken fs ⟨0, c.name, 4, (getF fs c.id).par⟩ (getF fs c.id).id (getF fs c.id).id || (taken fs ⟨0, c.other, 4, (getF fs c.id).par⟩ (getF fs c.id).id (getF fs c.id).id || decide (c.name = c.other)) then bad 60 else
  bif decide (64 ≤ (fs.length : Int)) || decide (1073741822 < next) then bad 2 else
  ⟨fs.filter (keepB (getF fs c.id).id (getF fs c.id).id) ++ [⟨next, c.name, 4, (getF fs c.id).par⟩] ++ [⟨next + 1, c.other, 4, (getF fs c.id).par⟩], next + 1 + 1, 0⟩
def joinS (fs : List Fld) (next : Int) (c : Chg) : SR :=
  bif !hasF fs c.id || (!hasF fs c.wi || decide ((getF fs c.id).id = (getF fs c.wi).id)) then bad 61 else
  bif !decide ((getF fs c.id).type = 4) || !decide ((getF fs c.wi).type = 4) then bad 7 else
  bif !decide ((getF fs c.id).par = (getF fs c.wi).par) then bad 63 else
  bif !sepOk c.sep then bad 1 else
  bif taken fs ⟨0, c.name, 4, (getF fs c.id).par⟩ (getF fs c.id).id (getF fs c.wi).id then bad 60 else
  bif decide (1073741824 ≤ next) then bad 2 else
  ⟨fs.filter (keepB (getF fs c.id).id (getF fs c.wi).id) ++ [⟨next, c.name, 4, (getF fs c.id).par⟩], next + 1, 0⟩
def applyC (fs : List Fld) (next : Int) (c : Chg) : SR :=
  if c.kind = 1 then addS fs next c else
  if c.kind = 2 ∨ c.kind = 3 ∨ c.kind = 4 ∨ c.kind = 5 then oneS fs next c else
  if c.kind = 6 then splitS fs next c else
  if c.kind = 7 then joinS fs next c else bad 1
structure COK (c : Chg) : Prop where
  name : c.name.size < 1000000000000000
  other : c.other.size < 1000000000000000
end Go.Den

namespace Go.Den
open Go
set_option linter.unusedSimpArgs false
set_option linter.unusedVariables false
set_option maxRecDepth 100000
set_option maxHeartbeats 1000000
structure SInv (fs : List Fld) (next : Int) : Prop where
  len : fs.length ≤ 64
  n0 : 1 ≤ next
  n1 : next ≤ 1073741824
  nm : ∀ f ∈ fs, f.name.size < 1000000000000000
theorem SInv.ok {fs : List Fld} {next : Int} (h : SInv fs next) : SOK fs next := ⟨by have := h.len; omega, by have := h.n0; omega, by have := h.n1; omega, h.nm⟩
theorem SInv.nil : SInv [] 1 := ⟨by simp, by omega, by omega, by simp⟩
theorem bif_bad {b : Bool} {e : Int} {r : SR} (he : e ≠ 0) (h : (bif b then bad e else r).e = 0) : b = false ∧ (bif b then bad e else r) = r ∧ r.e = 0 := by
  cases b with
  | true => exact absurd h he
  | false => exact ⟨rfl, rfl, h⟩
theorem addS_inv {fs : List Fld} {next : Int} {c : Chg} (h : SInv fs next) (hc : c.name.size < 1000000000000000) (he : (addS fs next c).e = 0) : SInv (addS fs next c).fs (addS fs next c).next := by
  unfold addS at he ⊢
  obtain ⟨-, e1, he⟩ := bif_bad (by decide) he; rw [e1]
  obtain ⟨-, e1, he⟩ := bif_bad (by decide) he; rw [e1]
  obtain ⟨-, e1, he⟩ := bif_bad (by decide) he; rw [e1]
  obtain ⟨d, e1, he⟩ := bif_bad (by decide) he; rw [e1]
  simp only [Bool.or_eq_false_iff, decide_eq_false_iff_not] at d
  have := h.n0
  refine ⟨by simp; omega, by simp; omega, by simp; omega, ?_⟩
  intro f hf
  simp at hf
  rcases hf with hf | rfl
  · exact h.nm f hf
  · exact hc
theorem put_inv {fs : List Fld} {next : Int} (h : SInv fs next) (f : Fld) (hf : f.name.size < 1000000000000000) : SInv (fs.map (putF f)) next := by
  refine ⟨by simpa using h.len, h.n0, h.n1, ?_⟩
  intro g hg
  simp at hg
  obtain ⟨x, hx, rfl⟩ := hg
  unfold putF
  split
  · exact hf
  · exact h.nm x hx
theorem filter_inv {fs : List Fld} {next : Int} (h : SInv fs next) (p : Fld → Bool) : SInv (fs.filter p) next := by
  refine ⟨by have := List.length_filter_le p fs; have := h.len; omega, h.n0, h.n1, ?_⟩
  intro g hg
  simp at hg
  exact h.nm g hg.1
theorem oneS_inv {fs : List Fld} {next : Int} {c : Chg} (h : SInv fs next) (hc : c.name.size < 1000000000000000) (he : (oneS fs next c).e = 0) : SInv (oneS fs next c).fs (oneS fs next c).next := by
  have hn := getF_name h.nm c.id
  unfold oneS at he ⊢
  obtain ⟨-, e1, he⟩ := bif_bad (by decide) he; rw [e1]
  clear e1
  cases d1 : decide (c.kind = 2) with
  | true =>
    simp only [d1, cond_true] at he ⊢
    obtain ⟨-, e1, he⟩ := bif_bad (by decide) he; rw [e1]
    exact filter_inv h _
  | false =>
  simp only [d1, cond_false] at he ⊢
  cases d1 : decide (c.kind = 3) with
  | true =>
    simp only [d1, cond_true] at he ⊢
    obtain ⟨-, e1, he⟩ := bif_bad (by decide) he; rw [e1]
    exact put_inv h _ hc
  | false =>
  simp only [d1, cond_false] at he ⊢
  cases d1 : decide (c.kind = 4) with
  | true =>
    simp only [d1, cond_true] at he ⊢
    obtain ⟨-, e1, he⟩ := bif_bad (by decide) he; rw [e1]
    exact put_inv h _ hn
  | false =>
  simp only [d1, cond_false] at he ⊢
  unfold moveS at he ⊢
  obtain ⟨-, e1, he⟩ := bif_bad (by decide) he; rw [e1]
  obtain ⟨-, e1, he⟩ := bif_bad (by decide) he; rw [e1]
  obtain ⟨-, e1, he⟩ := bif_bad (by decide) he; rw [e1]
  exact put_inv h _ hn
theorem filter_less {fs : List Fld} {id : Int} (h : hasF fs id = true) (b : Int) : (fs.filter (keepB (getF fs id).id b)).length + 1 ≤ fs.length := by
  induction fs with
  | nil => simp [hasF] at h
  | cons f r ih =>
    rw [getF]
    by_cases e : f.id = id
    · rw [if_pos e]
      have := List.length_filter_le (keepB f.id b) r
      simp [keepB] at *
      omega
    · rw [if_neg e]
      have h : hasF r id = true := by simpa [hasF, e] using h
      have := ih h
      rw [List.filter_cons]
      split <;> simp <;> omega
theorem splitS_inv {fs : List Fld} {next : Int} {c : Chg} (h : SInv fs next) (hc : c.name.size < 1000000000000000) (hd : c.other.size < 1000000000000000) (he : (splitS fs next c).e = 0) : SInv (splitS fs next c).fs (splitS fs next c).next := by
  unfold splitS at he ⊢
  obtain ⟨d0, e1, he⟩ := bif_bad (by decide) he; rw [e1]
  obtain ⟨-, e1, he⟩ := bif_bad (by decide) he; rw [e1]
  obtain ⟨-, e1, he⟩ := bif_bad (by decide) he; rw [e1]
  obtain ⟨-, e1, he⟩ := bif_bad (by decide) he; rw [e1]
  obtain ⟨d, e1, he⟩ := bif_bad (by decide) he; rw [e1]
  simp only [Bool.or_eq_false_iff, decide_eq_false_iff_not] at d
  have := h.n0
  have hl := filter_less (id := c.id) (by simpa using d0) (getF fs c.id).id
  refine ⟨by simp only [List.length_append, List.length_cons, List.length_nil]; omega, by simp only []; omega, by simp only []; omega, ?_⟩
  intro f hf
  simp at hf
  rcases hf with hf | rfl | rfl
  · exact h.nm f hf.1
  · exact hc
  · exact hd
theorem joinS_inv {fs : List Fld} {next : Int} {c : Chg} (h : SInv fs next) (hc : c.name.size < 1000000000000000) (he : (joinS fs next c).e = 0) : SInv (joinS fs next c).fs (joinS fs next c).next := by
  unfold joinS at he ⊢
  obtain ⟨d0, e1, he⟩ := bif_bad (by decide) he; rw [e1]
  obtain ⟨-, e1, he⟩ := bif_bad (by decide) he; rw [e1]
  obtain ⟨-, e1, he⟩ := bif_bad (by decide) he; rw [e1]
  obtain ⟨-, e1, he⟩ := bif_bad (by decide) he; rw [e1]
  obtain ⟨-, e1, he⟩ := bif_bad (by decide) he; rw [e1]
  obtain ⟨d, e1, he⟩ := bif_bad (by decide) he; rw [e1]
  simp only [Bool.or_eq_false_iff, decide_eq_false_iff_not] at d
  simp only [Bool.or_eq_false_iff, Bool.not_eq_false'] at d0
  have := h.n0
  have := h.len
  have hl := filter_less d0.1 (getF fs c.wi).id
  refine ⟨by simp only [List.length_append, List.length_cons, List.length_nil]; omega, by simp only []; omega, by simp only []; omega, ?_⟩
  intro f hf
  simp at hf
  rcases hf with hf | rfl
  · exact h.nm f hf.1
  · exact hc
theorem applyC_inv {fs : List Fld} {next : Int} {c : Chg} (h : SInv fs next) (hc : COK c) (he : (applyC fs next c).e = 0) : SInv (applyC fs next c).fs (applyC fs next c).next := by
  unfold applyC at he ⊢
  split
  · rename_i e; rw [if_pos e] at he; exact addS_inv h hc.name he
  · rename_i e; rw [if_neg e] at he
    split
    · rename_i e; rw [if_pos e] at he; exact oneS_inv h hc.name he
    · rename_i e; rw [if_neg e] at he
      split
      · rename_i e; rw [if_pos e] at he; exact splitS_inv h hc.name hc.other he
      · rename_i e; rw [if_neg e] at he
        split
        · rename_i e; rw [if_pos e] at he; exact joinS_inv h hc.name he
        · rename_i e; rw [if_neg e] at he; exact absurd he (by decide)
structure AR where
  fs : List Fld
  next : Int
  at_ : Int
  e : Int
def afterS (fs : List Fld) (next i : Int) : List Chg → AR
  | [] => ⟨fs, next, i, 0⟩
  | c :: r => bif decide ((applyC fs next c).e = 0) then afterS (applyC fs next c).fs (applyC fs next c).next (i + 1) r else ⟨fs, next, i, (applyC fs next c).e⟩
def AR.av (r : AR) : AV := .tup [.agg [.sl (r.fs.map Fld.cells), .int .i64 r.next], .int .i64 r.at_, .int .i64 r.e]
attribute [go_sem] AR.av
theorem afterS_inv {L : List Chg} (hc : ∀ c ∈ L, COK c) : ∀ {fs : List Fld} {next i : Int}, SInv fs next → SInv (afterS fs next i L).fs (afterS fs next i L).next := by
  induction L with
  | nil => intro fs next i h; exact h
  | cons c r ih =>
    intro fs next i h
    rw [afterS]
    cases d : decide ((applyC fs next c).e = 0) with
    | true => exact ih (fun x hx => hc x (by simp [hx])) (applyC_inv h (hc c (by simp)) (by simpa using d))
    | false => exact h
end Go.Den

namespace Go.Den
open Go
set_option linter.unusedSimpArgs false
set_option linter.unusedVariables false
set_option maxRecDepth 100000
set_option maxHeartbeats 1000000
attribute [go_sem] Val.cells
def nullV : Val := ⟨true, 0, ⟨#[]⟩⟩
def typeOk (t : Int) : Bool := decide (1 ≤ t) && decide (t ≤ 5)
@[go_sem] theorem R05_Type (t : Int) : Den prog 67 [.int .i64 t] [] = some (.bool (typeOk t), []) := by
  rw [Den_ofK [] pr_R05_Type rfl]
  simp only [typeOk]
  cases h1 : decide (1 ≤ t) <;> cases h2 : decide (t ≤ 5) <;>
  simp only [f_R05_Type, h1, h2, go_sem]
def cutI (k : Int) (s : ByteArray) : Int := if k < s.size then k else s.size
def cutS (k : Int) (s : ByteArray) : ByteArray := s.extract 0 (cutI k s).toNat
theorem cutI_ge {k : Int} (s : ByteArray) (h : 0 ≤ k) : 0 ≤ cutI k s := by unfold cutI; split <;> omega
theorem cutI_le (k : Int) (s : ByteArray) : cutI k s ≤ s.size := by unfold cutI; split <;> omega
def fitS (v : Val) (t : Int) : Val :=
  bif v.null then nullV else
  bif decide (t = 1) then ⟨false, andI .i64 v.n 1, ⟨#[]⟩⟩ else
  bif decide (t = 2) then ⟨false, IntKind.wrap .i64 (IntKind.wrap .i32 v.n), ⟨#[]⟩⟩ else
  bif decide (t = 5) then ⟨false, v.n.tmod 1000001, ⟨#[]⟩⟩ else
  bif decide (t = 4) then ⟨false, 0, cutS 200 v.s⟩ else ⟨false, v.n, ⟨#[]⟩⟩
def madeV (v : Val) (t : Int) : Val := bif typeOk t then fitS v t else nullV
theorem R05_Compare_l0 (an : Bool) (ai : Int) (as : ByteArray) (bn : Bool) (bi : Int) (bs : ByteArray) (hL : as.size < 1000000000000000) (K : Ex × Env × St → Option (AV × St))
    (he : ∀ i : Int, K (.exit 1, [(2, .rptr [.bool an, .int .i64 ai, .str as]), (3, .rptr [.bool bn, .int .i64 bi, .str bs]), (5, .int .i64 i), (45, .bool false)], []) = some (.int .i64 (if (as.size : Int) < bs.size then -1 else if (bs.size : Int) < as.size then 1 else 0), []))
    (hr : ∀ c : Int, K (.ret, [(4, .int .i64 c)], []) = some (.int .i64 c, [])) :
    (Run prog 0 (.loop 0 [2, 3, 5] f_R05_Compare_l0) [(2, .rptr [.bool an, .int .i64 ai, .str as]), (3, .rptr [.bool bn, .int .i64 bi, .str bs]), (5, .int .i64 0)] []).bind K = some (.int .i64 (cmpB as.data.toList bs.data.toList), []) := by
  have ha := str_len as
  have hb := str_len bs
  refine range_ind as.data.toList (by omega) (fun i (q : List UInt8) => (Run prog 0 (.loop 0 [2, 3, 5] f_R05_Compare_l0) [(2, .rptr [.bool an, .int .i64 ai, .str as]), (3, .rptr [.bool bn, .int .i64 bi, .str bs]), (5, .int .i64 i)] []).bind K = some (.int .i64 (cmpB as.data.toList bs.data.toList), []))
    (fun i r q => cmpB r q = cmpB as.data.toList bs.data.toList ∧ ∃ p, bs.data.toList = p ++ q ∧ (p.length : Int) = i) ?_ ?_ bs.data.toList ⟨rfl, [], rfl, rfl⟩
  · intro q ⟨h, p, hp, hpl⟩
    rw [Run_loop, ← h]
    have hq := congrArg List.length hp
    rw [List.length_append] at hq
    have he := he as.size
    rw [ha, hb] at he
    have e0 : cmpB [] q = if (as.data.toList.length : Int) < bs.data.toList.length then -1 else if (bs.data.toList.length : Int) < as.data.toList.length then 1 else 0 := by
      cases q with
      | nil => simp only [List.length_nil] at hq; rw [if_neg (by omega), if_neg (by omega)]; rfl
      | cons x q => simp only [List.length_cons] at hq; rw [if_pos (by omega)]; rfl
    rw [e0]
    clear e0 h hp hpl hq
    simp only [f_R05_Compare_l0_eq, f_R05_Compare_l0u, ha, hb, he, go_sem]
  · intro i pre rest x q hp hi _ _ hx hc hw ⟨h, p, hq, hpl⟩ ih
    have hql := congrArg List.length hq
    have hal := congrArg List.length hp
    simp only [List.length_append, List.length_cons] at hql hal
    rw [Run_loop]
    cases q with
    | nil =>
      have hd : decide (i < (bs.data.toList.length : Int)) = false := by simp only [List.length_nil] at hql; simp only [decide_eq_false_iff_not]; omega
      have he := he i
      have e0 : cmpB (x :: rest) [] = if (as.size : Int) < bs.size then -1 else if (bs.size : Int) < as.size then 1 else 0 := by
        simp only [List.length_nil] at hql
        rw [if_neg (by omega), if_pos (by omega)]; rfl
      rw [← h, e0]
      clear e0 h hp hpl hq ih hql hal
      rw [← ha] at hc
      rw [← hb] at hd
      simp only [f_R05_Compare_l0_eq, f_R05_Compare_l0u, hx, hc, hd, he, go_sem]
    | cons y q =>
      have hd : decide (i < (bs.data.toList.length : Int)) = true := by simp only [List.length_cons] at hql; simp only [decide_eq_true_eq]; omega
      have hy : getE bs.data.toList i = some y := by rw [← hpl]; exact getE_at hq
      rw [← ha] at hc
      rw [← hb] at hd
      by_cases h1 : x.toNat < y.toNat
      · have d1 : decide ((x.toNat : Int) < y.toNat) = true := by simpa using h1
        have hr := hr (-1)
        have e0 : cmpB (x :: rest) (y :: q) = -1 := by simp [cmpB, h1]
        rw [← h, e0]
        clear e0 h hp hpl hq ih hql hal
        simp only [f_R05_Compare_l0_eq, f_R05_Compare_l0u, hx, hy, hc, hd, d1, hr, go_sem]
      · have d1 : decide ((x.toNat : Int) < y.toNat) = false := by simpa using h1
        by_cases h2 : y.toNat < x.toNat
        · have d2 : decide ((y.toNat : Int) < x.toNat) = true := by simpa using h2
          have hr := hr 1
          have e0 : cmpB (x :: rest) (y :: q) = 1 := by simp [cmpB, h1, h2]
          rw [← h, e0]
          clear e0 h hp hpl hq ih hql hal
          simp only [f_R05_Compare_l0_eq, f_R05_Compare_l0u, hx, hy, hc, hd, d1, d2, hr, go_sem]
        · have d2 : decide ((y.toNat : Int) < x.toNat) = false := by simpa using h2
          have ih := ih q ⟨by rw [← h]; simp [cmpB, h1, h2], p ++ [y], by simpa using hq, by simp; omega⟩
          clear h hp hpl hq hql hal
          simp only [f_R05_Compare_l0_eq, f_R05_Compare_l0u, hx, hy, hc, hd, hw, d1, d2, ih, go_sem]
@[go_sem] theorem R05_Compare (an : Bool) (ai : Int) (as : ByteArray) (bn : Bool) (bi : Int) (bs : ByteArray) (hL : as.size < 1000000000000000) : Den prog 70 [.agg [.bool an, .int .i64 ai, .str as], .agg [.bool bn, .int .i64 bi, .str bs]] [] = some (.int .i64 (cmpV ⟨an, ai, as⟩ ⟨bn, bi, bs⟩), []) := by
  have hl := R05_Compare_l0 an ai as bn bi bs hL
  rw [Den_ofK [] pr_R05_Compare rfl]
  simp only [cmpV]
  cases an <;> cases bn <;> cases h1 : decide (ai < bi) <;> cases h2 : decide (bi < ai) <;>
  simp only [f_R05_Compare, h1, h2, cond_true, cond_false, Bool.not_true, Bool.not_false, Bool.true_and, Bool.false_and, Bool.and_true, Bool.and_false, go_sem]
  all_goals
    refine hl _ (fun i => ?_) (fun c => ?_)
    · cases h3 : decide ((as.size : Int) < bs.size) with
      | true =>
        have h4 : (as.size : Int) < bs.size := by simpa using h3
        simp only [h3, h4, if_true, go_sem]
      | false =>
        have h4 : ¬ (as.size : Int) < bs.size := by simpa using h3
        cases h5 : decide ((bs.size : Int) < as.size) with
        | true =>
          have h6 : (bs.size : Int) < as.size := by simpa using h5
          simp only [h3, h4, h5, h6, if_true, if_false, go_sem]
        | false =>
          have h6 : ¬ (bs.size : Int) < as.size := by simpa using h5
          simp only [h3, h4, h5, h6, if_true, if_false, go_sem]
    · simp only [go_sem]
end Go.Den

namespace Go.Den
open Go
set_option linter.unusedSimpArgs false
set_option linter.unusedVariables false
set_option maxRecDepth 100000
set_option maxHeartbeats 1000000
def modI (x n : Int) : Int := if n ≤ 0 then 0 else x % n
theorem modI_ge (x n : Int) : 0 ≤ modI x n := by
  unfold modI; split
  · omega
  · exact Int.emod_nonneg _ (by omega)
theorem modI_lt {n : Int} (x : Int) (h : 0 < n) : modI x n < n := by
  unfold modI; rw [if_neg (by omega)]; exact Int.emod_lt_of_pos _ h
theorem tmod_two {x n : Int} (h : 0 < n) : (x.tmod n + n).tmod n = x % n ∧ 0 < x.tmod n + n ∧ x.tmod n + n < 2 * n := by
  have h1 := Int.emod_nonneg x (by omega : n ≠ 0)
  have h2 := Int.emod_lt_of_pos x h
  have hself : x % n % n = x % n := Int.emod_emod_of_dvd x (Int.dvd_refl n)
  have key : x.tmod n = x % n ∨ (x.tmod n = x % n - n ∧ 0 < x % n) := by
    have e := Int.tmod_eq_emod (a := x) (b := n)
    by_cases hx : 0 ≤ x ∨ n ∣ x
    · rw [if_pos hx] at e; left; rw [e]; omega
    · rw [if_neg hx] at e
      right
      refine ⟨by rw [e]; omega, ?_⟩
      rcases Int.lt_or_eq_of_le h1 with h3 | h3
      · exact h3
      · exact absurd (.inr (Int.dvd_of_emod_eq_zero h3.symm)) hx
  rcases key with e | ⟨e, h3⟩
  · rw [e]
    refine ⟨?_, by omega, by omega⟩
    rw [Int.tmod_eq_emod_of_nonneg (by omega), Int.add_emod_right, hself]
  · rw [e, Int.sub_add_cancel]
    refine ⟨?_, by omega, by omega⟩
    rw [Int.tmod_eq_emod_of_nonneg (by omega), hself]
def letters : List ByteArray := [⟨#[97]⟩, ⟨#[98]⟩, ⟨#[99]⟩, ⟨#[100]⟩, ⟨#[101]⟩, ⟨#[102]⟩]
def nameS (s : ByteArray) : ByteArray := bif nameOk s && decide ((s.size : Int) ≤ 4) then s else (letters[s.size % 6]?).getD ⟨#[]⟩
theorem nameS_size (s : ByteArray) : (nameS s).size ≤ 4 := by
  unfold nameS
  cases h : nameOk s && decide ((s.size : Int) ≤ 4) with
  | true => simp at h; simp; omega
  | false =>
    have : s.size % 6 < 6 := Nat.mod_lt _ (by omega)
    generalize s.size % 6 = k at *
    match k, this with
    | 0, _ => show (letters[0]?.getD (ByteArray.mk #[])).size ≤ 4; decide
    | 1, _ => show (letters[1]?.getD (ByteArray.mk #[])).size ≤ 4; decide
    | 2, _ => show (letters[2]?.getD (ByteArray.mk #[])).size ≤ 4; decide
    | 3, _ => show (letters[3]?.getD (ByteArray.mk #[])).size ≤ 4; decide
    | 4, _ => show (letters[4]?.getD (ByteArray.mk #[])).size ≤ 4; decide
    | 5, _ => show (letters[5]?.getD (ByteArray.mk #[])).size ≤ 4; decide
end Go.Den

namespace Go.Den
open Go
set_option linter.unusedSimpArgs false
set_option linter.unusedVariables false
set_option maxRecDepth 100000
set_option maxHeartbeats 1000000
def parS (fs : List Fld) (p : Int) : Int := bif groupOk fs p then p else 0
def dash : ByteArray := ⟨#[45]⟩
def chgS (fs : List Fld) (next : Int) (c : Chg) : Chg :=
  ⟨1 + modI c.kind 7, 1 + modI c.id next, 1 + modI c.wi next, nameS c.name, nameS c.other, 1 + modI c.type 6, parS fs (modI c.par next), bif sepOk c.sep then c.sep else dash⟩
structure COK2 (c : Chg) : Prop where
  name : c.name.size < 1000000000000000
  other : c.other.size < 1000000000000000
theorem chgS_ok (fs : List Fld) (next : Int) (c : Chg) : COK (chgS fs next c) := by
  have h1 := nameS_size c.name
  have h2 := nameS_size c.other
  exact ⟨by show (nameS c.name).size < _; omega, by show (nameS c.other).size < _; omega⟩
def madeC (fs : List Fld) (next : Int) : List Chg → List Chg
  | [] => []
  | c :: r => bif decide ((applyC fs next (chgS fs next c)).e = 0) then chgS fs next c :: madeC (applyC fs next (chgS fs next c)).fs (applyC fs next (chgS fs next c)).next r else madeC fs next r
theorem madeC_ok (L : List Chg) : ∀ (fs : List Fld) (next : Int), ∀ c ∈ madeC fs next L, COK c := by
  induction L with
  | nil => intro fs next c h; simp [madeC] at h
  | cons x r ih =>
    intro fs next c h
    rw [madeC] at h
    cases d : decide ((applyC fs next (chgS fs next x)).e = 0) with
    | true =>
      simp only [d, cond_true, List.mem_cons] at h
      rcases h with rfl | h
      · exact chgS_ok fs next x
      · exact ih _ _ c h
    | false => simp only [d, cond_false] at h; exact ih _ _ c h
theorem madeC_len (L : List Chg) : ∀ (fs : List Fld) (next : Int), (madeC fs next L).length ≤ L.length := by
  induction L with
  | nil => intro fs next; simp [madeC]
  | cons x r ih =>
    intro fs next
    rw [madeC]
    cases d : decide ((applyC fs next (chgS fs next x)).e = 0) with
    | true => simpa using ih _ _
    | false => simp only [cond_false, List.length_cons]; have := ih fs next; omega
def isLeaf (f : Fld) : Bool := !decide (f.type = 6)
def leavesS (fs : List Fld) : List Int := (fs.filter isLeaf).map (·.id)
def icell (i : Int) : List AV := [.int .i64 i]
attribute [go_sem] icell
def getC : List Cell → Int → Val
  | [], _ => nullV
  | c :: r, id => if c.id = id then c.v else getC r id
def rowS : List Fld → List Val → List Cell
  | f :: r, v :: q => bif decide (f.type = 6) || v.null then rowS r q else bif (madeV v f.type).null then rowS r q else ⟨f.id, madeV v f.type⟩ :: rowS r q
  | _, _ => []
theorem rowS_nil (fs : List Fld) : rowS fs [] = [] := by cases fs <;> rfl
theorem rowS_len (fs : List Fld) : ∀ q, (rowS fs q).length ≤ fs.length := by
  induction fs with
  | nil => intro q; simp [rowS]
  | cons f r ih =>
    intro q
    cases q with
    | nil => simp [rowS]
    | cons v q =>
      have := ih q
      rw [rowS]
      cases decide (f.type = 6) || v.null <;> cases (madeV v f.type).null <;> simp <;> omega
def vals (r : List Val) : List AV := [.sl (r.map Val.cells)]
def rowc (r : List Cell) : List AV := [.sl (r.map Cell.cells)]
attribute [go_sem] vals rowc
def idxF {α : Type} (p : α → Bool) (i : Int) : List α → Int
  | [] => -1
  | x :: r => bif p x then i else idxF p (i + 1) r
theorem idxF_ge {α : Type} (p : α → Bool) : ∀ (L : List α) (i : Int), 0 ≤ i → (decide (0 ≤ idxF p i L)) = L.any p
  | [], i, h => by simp [idxF]
  | x :: r, i, h => by
    rw [idxF, List.any_cons]
    cases p x with
    | true => simp [h]
    | false => simpa using idxF_ge p r (i + 1) (by omega)
theorem idxF_lt {α : Type} (p : α → Bool) : ∀ (L : List α) (i : Int), idxF p i L < i + L.length ∨ idxF p i L = -1
  | [], i => .inr rfl
  | x :: r, i => by
    rw [idxF]
    cases p x with
    | true => left; simp; omega
    | false =>
      rcases idxF_lt p r (i + 1) with h | h
      · left; simp only [cond_false, List.length_cons]; omega
      · right; simpa using h
end Go.Den
