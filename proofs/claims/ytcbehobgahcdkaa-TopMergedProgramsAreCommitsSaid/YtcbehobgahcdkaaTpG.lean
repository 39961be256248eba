/- Top: the tables and programs that are made. -/
import Derived.Test.YtcbehobgahcdkaaTpF
import Derived.Test.YtcbehobgahcdkaaSanTp
namespace Go.Den
open Go Go.Proofs
set_option linter.unusedSimpArgs false
set_option linter.unusedVariables false
set_option maxRecDepth 100000
set_option maxHeartbeats 1000000
structure Cmt where
  cs : List Chg
  rows : List (List Val)
  done : List Raw
  p : Raw
  q : Raw
def Cmt.cells (x : Cmt) : List AV := .sl (x.cs.map Chg.cells) :: .sl (x.rows.map vals) :: .sl (x.done.map Raw.cells) :: (x.p.cells ++ x.q.cells)
structure CmtOk (x : Cmt) : Prop where
  cs : ∀ c ∈ x.cs, COK2 c
  lc : x.cs.length < 1000000000000000
  lr : x.rows.length < 1000000000000000
  ld : x.done.length < 1000000000000000
  d : ∀ p ∈ x.done, RawOk p
  p : RawOk x.p
  q : RawOk x.q
def progsC (x : Cmt) : List Pro := madeP (schS x.cs 8) x.done 4 ++ [proS (schS x.cs 8) x.p, proS (schS x.cs 8) x.q]
theorem R27_MadeW (fs : List Fld) (m : Int) (p : Raw) (hF : fs.length ≤ 64) (h : RawOk p) : Den prog 89 [.agg [.sl (fs.map Fld.cells), .int .i64 m], .agg p.cells] [] = some (.agg (proS fs p).cells, []) := by
  obtain ⟨a, b, c, d, e⟩ := h
  obtain ⟨⟨r1, r2, r3, r4, r5, r6, r7⟩, ⟨p1, p2, p3, p4, p5, p6, p7⟩, add, gs⟩ := p
  have := R27_Made fs m r1 r2 r3 r4 r5 r6 r7 p1 p2 p3 p4 p5 p6 p7 add gs (by omega) d e c a b
  simpa [Raw.cells, Prd.cells_mk] using this
theorem len_room {A : List Pro} (hl : A.length ≤ 4) : A.length * 240 ≤ 140737488355328 ∧ (A.length + 1) * 240 ≤ 140737488355328 ∧ (A.length + 1 + 1) * 240 ≤ 140737488355328 := by omega
theorem szOKb_pros (A : List Pro) : szOKb 16 (A.map Pro.cells) = true := by
  induction A with
  | nil => rfl
  | cons a A ih => simp [szOKb, ih, pro_len]
theorem T_commits (x : Cmt) (h : CmtOk x) : ∃ v, Den prog 167 [.agg x.cells] [] = some (.tup [.agg [.sl ((schS x.cs 8).map Fld.cells), .int .i64 v], .agg [.int .i64 (tabS (schS x.cs 8) x.rows 20).next, .sl ((tabS (schS x.cs 8) x.rows 20).l.map Line.cells)], .sl ((progsC x).map Pro.cells)], []) := by
  have hm := R06_Made x.cs 8 h.lc h.cs (by omega) (by omega)
  have haf := R06_After (madeC [] 1 (x.cs.take 8)) (by have := madeC_len (x.cs.take 8) [] 1; rw [List.length_take] at this; omega) (madeC_ok _ _ _)
  have hF := (schS_inv x.cs 8).len
  have e8 : (8 : Int).toNat = 8 := rfl
  rw [e8] at hm
  have ht := R27_Table (schS x.cs 8) (afterS [] 1 0 (madeC [] 1 (x.cs.take 8))).next x.rows 20 (by omega) h.lr (by omega) (by omega)
  have h1 := R27_MadeAll (schS x.cs 8) (afterS [] 1 0 (madeC [] 1 (x.cs.take 8))).next x.done (by omega) h.ld h.d
  have h2 := R27_MadeW (schS x.cs 8) (afterS [] 1 0 (madeC [] 1 (x.cs.take 8))).next x.p hF h.p
  have h3 := R27_MadeW (schS x.cs 8) (afterS [] 1 0 (madeC [] 1 (x.cs.take 8))).next x.q hF h.q
  have hfs : (afterS [] 1 0 (madeC [] 1 (x.cs.take 8))).fs = schS x.cs 8 := rfl
  have hl := madeP_len (schS x.cs 8) x.done 4
  simp only [AR.av, hfs] at haf
  refine ⟨(afterS [] 1 0 (madeC [] 1 (x.cs.take 8))).next, ?_⟩
  unfold progsC
  generalize tabS (schS x.cs 8) x.rows 20 = T at *
  generalize madeP (schS x.cs 8) x.done 4 = A at *
  generalize proS (schS x.cs 8) x.p = P at *
  generalize proS (schS x.cs 8) x.q = Q at *
  generalize (afterS [] 1 0 (madeC [] 1 (x.cs.take 8))).next = m at *
  generalize (afterS [] 1 0 (madeC [] 1 (x.cs.take 8))).at_ = m2 at *
  generalize (afterS [] 1 0 (madeC [] 1 (x.cs.take 8))).e = m3 at *
  generalize schS x.cs 8 = fs at *
  obtain ⟨cs, rows, done, ⟨⟨r1, r2, r3, r4, r5, r6, r7⟩, ⟨p1, p2, p3, p4, p5, p6, p7⟩, add, gs⟩, ⟨⟨r'1, r'2, r'3, r'4, r'5, r'6, r'7⟩, ⟨p'1, p'2, p'3, p'4, p'5, p'6, p'7⟩, add', gs'⟩⟩ := x
  obtain ⟨⟨a1, a2, a3, a4, a5, a6, a7⟩, ⟨b1, b2, b3, b4, b5, b6, b7⟩, Aadd, ags⟩ := P
  obtain ⟨⟨c1, c2, c3, c4, c5, c6, c7⟩, ⟨d1, d2, d3, d4, d5, d6, d7⟩, Cadd, cgs⟩ := Q
  rw [Den_ofK [] pr_T_commits rfl]
  simp only [Cmt.cells, Raw.cells, Pro.cells, Prd.cells_mk, List.cons_append, List.nil_append, go_sem] at hm haf ht h1 h2 h3 ⊢
  have hs := szOKb_pros A
  obtain ⟨hb0, hb1, hb2⟩ := len_room hl
  simp only [f_T_commits, hm, haf, ht, h1, h2, h3, hb0, hb1, hb2, hs, Pro.cells, Prd.cells_mk, List.cons_append, List.nil_append, go_sem]
end Go.Den
