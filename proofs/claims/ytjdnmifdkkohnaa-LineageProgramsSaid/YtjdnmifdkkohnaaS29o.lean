/- Ch. 29: LineageFollows, LineageComposes, LineageInverts, LineageGaps. -/
import Derived.Test.YtjdnmifdkkohnaaS29n
namespace Go.Den
open Go Go.Proofs
set_option linter.unusedSimpArgs false
set_option linter.unusedVariables false
set_option maxRecDepth 100000
set_option maxHeartbeats 1000000
/-- Three valid tables, and what the laws need to know of them. -/
structure Small (t : Table) : Prop where
  vt : VT t
  len : t.l.length ≤ 40
  ok : okL t.l
theorem small_made {L : List Line} {g : Int} (h0 : 0 ≤ g) (h1 : g < 256) (h : lightL L = true) : Small (made L g) := by
  obtain ⟨q1, q2, q3⟩ := made_ok L g h0 h1
  exact ⟨q1, q2, q3 (light_ok h).2⟩
theorem Feed_small {a b : Table} (ha : a.l.length ≤ 5000 ∧ okL a.l) (hb : b.l.length ≤ 5000 ∧ okL b.l) : Den prog 21 [.agg [.int .i64 a.next, .sl (a.l.map Line.cells)], .agg [.int .i64 b.next, .sl (b.l.map Line.cells)]] [] = some (.sl ((feed a b).map Event.cells), []) :=
  lineage_Feed a b (by omega) (by omega) ha.2 hb.2
theorem Small.big {t : Table} (h : Small t) : t.l.length ≤ 5000 ∧ okL t.l := ⟨by have := h.len; omega, h.ok⟩
theorem feed_small {a b : Table} (ha : Small a) (hb : Small b) : (feed a b).length ≤ 160 ∧ okE (feed a b) := by
  have := feed_len a b
  have := ha.len
  have := hb.len
  exact ⟨by omega, feed_ok ha.ok hb.ok⟩
theorem Apply_small {t : Table} {l : List Event} (ht : t.l.length ≤ 5000 ∧ okL t.l) (hl : l.length ≤ 5000 ∧ okE l) {x : Table} {e : Int} (h : apply t l = (x, e)) :
    Den prog 17 [.agg [.int .i64 t.next, .sl (t.l.map Line.cells)], .sl (l.map Event.cells)] [] = some (.tup [.agg [.int .i64 x.next, .sl (x.l.map Line.cells)], .int .i64 e], []) := by
  have := lineage_Apply t l (by omega) (by omega) ht.2 hl.2
  rw [h] at this; exact this
theorem Fits_small {t : Table} {l : List Event} (ht : t.l.length ≤ 5000 ∧ okL t.l) (hl : l.length ≤ 5000 ∧ okE l) {x : Table} {e : Int} (h : apply t l = (x, e)) :
    Den prog 28 [.agg [.int .i64 t.next, .sl (t.l.map Line.cells)], .sl (l.map Event.cells)] [] = some (.bool (decide (e = 0)), []) := by
  have := lineage_Fits t l (by omega) (by omega) ht.2 hl.2
  rw [h] at this; exact this
theorem Lines_refl {L : List Line} (h : L.length ≤ 5000 ∧ okL L) : Den prog 16 [.sl (L.map Line.cells), .sl (L.map Line.cells)] [] = some (.bool true, []) := by
  have := R29_Lines L L (by omega) h.2
  rw [this]; simp
theorem Events_refl {L : List Event} (h : L.length ≤ 5000 ∧ okE L) : Den prog 25 [.sl (L.map Event.cells), .sl (L.map Event.cells)] [] = some (.bool true, []) := by
  have := R29_Events L L (by omega) h.2
  rw [this]; simp
theorem Compose_small {a b : List Event} (ha : a.length ≤ 5000 ∧ okE a) (hb : b.length ≤ 5000 ∧ okE b) {c : List Event} (h : compose a b = c) : Den prog 27 [.sl (a.map Event.cells), .sl (b.map Event.cells)] [] = some (.sl (c.map Event.cells), []) := by
  rw [← h]; exact lineage_Compose a b (by omega) (by omega) ha.2 hb.2
theorem Invert_small {a : List Event} (ha : a.length ≤ 5000 ∧ okE a) {c : List Event} (h : invert a = c) : Den prog 24 [.sl (a.map Event.cells)] [] = some (.sl (c.map Event.cells), []) := by
  rw [← h]; exact lineage_Invert a (by omega) ha.2
theorem law_Follows (l0 l1 l2 : List Line) (g : Int) (h0 : 0 ≤ g) (h1 : g < 256) (b0 : l0.length < 1000000000000000) (b1 : l1.length < 1000000000000000) (b2 : l2.length < 1000000000000000) :
    Den prog 95 [.agg [.sl (l0.map Line.cells), .sl (l1.map Line.cells), .sl (l2.map Line.cells), .int .u8 g]] [] = some (.bool true, []) := by
  have hl := L29_light l0 l1 l2 g b0 b1 b2
  have ht := L29_tables l0 l1 l2 g b0 b1 b2 h0 h1
  rw [Den_ofK [] pr_L29_LineageFollows rfl]
  cases c0 : lightL l0 && (lightL l1 && lightL l2) with
  | false => simp only [f_L29_LineageFollows, hl, c0, go_sem]
  | true =>
    simp at c0
    have ha := small_made h0 h1 c0.1
    have hb := small_made h0 h1 c0.2.1
    rw [show (lightL l0 && (lightL l1 && lightL l2)) = true by simp [c0]] at hl
    generalize made l0 g = a at *
    generalize made l1 g = b at *
    generalize made l2 g = c at *
    obtain ⟨x, e1, vx, nx, lx⟩ := apply_feed ha.vt hb.vt ha.vt rfl ⟨by have := ha.len; omega, by have := hb.len; omega⟩
    obtain ⟨xn, xl⟩ := x
    simp only [] at lx nx
    subst lx
    have sx : Small ⟨xn, b.l⟩ := ⟨vx, hb.len, hb.ok⟩
    have fs := feed_small ha hb
    have p1 := Feed_small ha.big hb.big
    have p2 := Apply_small ha.big ⟨by omega, fs.2⟩ e1
    have p3 := Fits_small ha.big ⟨by omega, fs.2⟩ e1
    have p4 := Lines_refl hb.big
    have p5 := lineage_Valid ⟨xn, b.l⟩ (by have := hb.len; simp only []; omega)
    rw [valid_iff.2 vx] at p5
    have p6 := Feed_small ha.big ha.big
    rw [(feed_nil ha.vt ha.vt).2 rfl] at p6
    have p7 := Feed_small sx.big hb.big
    rw [(feed_nil vx hb.vt).2 rfl] at p7
    have dn : decide (a.next ≤ xn) = true := by simpa using nx
    simp only [decide_true, go_sem] at p3 p5 p6 p7
    by_cases hf : feed a b = []
    · rw [hf] at p1 p2 p3
      simp only [go_sem] at p1 p2 p3
      clear ha hb sx fs vx nx e1 hf
      simp only [f_L29_LineageFollows, hl, ht, p1, p2, p3, p4, p5, p6, p7, dn, Nat.reduceMul, Int.natCast_zero, go_sem]
    · have hd : decide (((feed a b).length : Int) = 0) = false := by
        rw [decide_eq_false_iff_not]
        intro h
        exact hf (List.eq_nil_of_length_eq_zero (by omega))
      obtain ⟨n, hn⟩ : ∃ n, fnd a.l n ≠ fnd b.l n := by
        refine Classical.byContradiction fun h => hf ((feed_nil ha.vt hb.vt).2 (fnd_ext ha.vt.srt hb.vt.srt fun n => ?_))
        exact Classical.byContradiction fun h2 => h ⟨n, h2⟩
      have eg := feed_gap ha.vt hb.vt vx hn (fun e => hn e.symm)
      have p8 := Fits_small sx.big ⟨by omega, fs.2⟩ eg
      simp only [(by decide : decide ((300 : Int) = 0) = false), go_sem] at p8
      clear ha hb sx fs vx nx e1 hf eg hn
      simp only [f_L29_LineageFollows, hl, ht, p1, p2, p3, p4, p5, p6, p7, p8, dn, hd, Nat.reduceMul, Int.natCast_zero, go_sem]
theorem law_Composes (l0 l1 l2 : List Line) (g : Int) (h0 : 0 ≤ g) (h1 : g < 256) (b0 : l0.length < 1000000000000000) (b1 : l1.length < 1000000000000000) (b2 : l2.length < 1000000000000000) :
    Den prog 96 [.agg [.sl (l0.map Line.cells), .sl (l1.map Line.cells), .sl (l2.map Line.cells), .int .u8 g]] [] = some (.bool true, []) := by
  have hl := L29_light l0 l1 l2 g b0 b1 b2
  have ht := L29_tables l0 l1 l2 g b0 b1 b2 h0 h1
  rw [Den_ofK [] pr_L29_LineageComposes rfl]
  cases c0 : lightL l0 && (lightL l1 && lightL l2) with
  | false => simp only [f_L29_LineageComposes, hl, c0, go_sem]
  | true =>
    simp at c0
    have ha := small_made h0 h1 c0.1
    have hb := small_made h0 h1 c0.2.1
    have hc := small_made h0 h1 c0.2.2
    rw [show (lightL l0 && (lightL l1 && lightL l2)) = true by simp [c0]] at hl
    generalize made l0 g = a at *
    generalize made l1 g = b at *
    generalize made l2 g = c at *
    have la := ha.len
    have lb := hb.len
    have lc := hc.len
    obtain ⟨⟨xn, xl⟩, e1, vx, nx, lx⟩ := apply_feed ha.vt hb.vt ha.vt rfl ⟨by omega, by omega⟩
    simp only [] at lx; subst lx
    have sx : Small ⟨xn, b.l⟩ := ⟨vx, hb.len, hb.ok⟩
    obtain ⟨⟨yn, yl⟩, e2, vy, ny, ly⟩ := apply_feed hb.vt hc.vt vx rfl ⟨by omega, by omega⟩
    simp only [] at ly; subst ly
    obtain ⟨⟨zn, zl⟩, e3, vz, nz, lz⟩ := apply_feed ha.vt hc.vt ha.vt rfl ⟨by omega, by omega⟩
    simp only [] at lz; subst lz
    have f1 := feed_small ha hb
    have f2 := feed_small hb hc
    have f3 := feed_small ha hc
    have p1 := Feed_small ha.big hb.big
    have p2 := Feed_small hb.big hc.big
    have p3 := Compose_small ⟨by omega, f1.2⟩ ⟨by omega, f2.2⟩ (feed_compose ha.vt hb.vt hc.vt)
    have p4 := Apply_small ha.big ⟨by omega, f1.2⟩ e1
    have p5 := Apply_small sx.big ⟨by omega, f2.2⟩ e2
    have p6 := Apply_small ha.big ⟨by omega, f3.2⟩ e3
    have p7 := Lines_refl hc.big
    have p8 := Feed_small ha.big hc.big
    have p9 := Events_refl ⟨by omega, f3.2⟩
    have en : okE [] := by simp [okE]
    have p10 := Compose_small (b := []) ⟨by omega, f1.2⟩ ⟨by simp, en⟩ (compose_nil ha.vt hb.vt).1
    have p11 := Compose_small (a := []) ⟨by simp, en⟩ ⟨by omega, f1.2⟩ (compose_nil ha.vt hb.vt).2
    have p12 := Events_refl ⟨by omega, f1.2⟩
    simp only [go_sem] at p5 p10 p11
    clear ha hb hc sx f1 f2 f3 vx nx vy ny vz nz e1 e2 e3 la lb lc en
    simp only [f_L29_LineageComposes, hl, ht, p1, p2, p3, p4, p5, p6, p7, p8, p9, p10, p11, p12, Nat.reduceMul, Int.natCast_zero, go_sem]
theorem law_Inverts (l0 l1 l2 : List Line) (g : Int) (h0 : 0 ≤ g) (h1 : g < 256) (b0 : l0.length < 1000000000000000) (b1 : l1.length < 1000000000000000) (b2 : l2.length < 1000000000000000) :
    Den prog 97 [.agg [.sl (l0.map Line.cells), .sl (l1.map Line.cells), .sl (l2.map Line.cells), .int .u8 g]] [] = some (.bool true, []) := by
  have hl := L29_light l0 l1 l2 g b0 b1 b2
  have ht := L29_tables l0 l1 l2 g b0 b1 b2 h0 h1
  rw [Den_ofK [] pr_L29_LineageInverts rfl]
  cases c0 : lightL l0 && (lightL l1 && lightL l2) with
  | false => simp only [f_L29_LineageInverts, hl, c0, go_sem]
  | true =>
    simp at c0
    have ha := small_made h0 h1 c0.1
    have hb := small_made h0 h1 c0.2.1
    have hc := small_made h0 h1 c0.2.2
    rw [show (lightL l0 && (lightL l1 && lightL l2)) = true by simp [c0]] at hl
    generalize made l0 g = a at *
    generalize made l1 g = b at *
    generalize made l2 g = c at *
    have la := ha.len
    have lb := hb.len
    have lc := hc.len
    obtain ⟨⟨xn, xl⟩, e1, vx, nx, lx⟩ := apply_feed ha.vt hb.vt ha.vt rfl ⟨by omega, by omega⟩
    simp only [] at lx; subst lx
    have sx : Small ⟨xn, b.l⟩ := ⟨vx, hb.len, hb.ok⟩
    obtain ⟨⟨yn, yl⟩, e2, vy, ny, ly⟩ := apply_feed hb.vt ha.vt vx rfl ⟨by omega, by omega⟩
    simp only [] at ly; subst ly
    have f1 := feed_small ha hb
    have f2 := feed_small hb hc
    have f3 := feed_small ha hc
    have f4 := feed_small hb ha
    have f5 := feed_small hc hb
    have f6 := feed_small hc ha
    have p1 := Feed_small ha.big hb.big
    have p2 := Feed_small hb.big hc.big
    have p3 := Invert_small ⟨by omega, f1.2⟩ (feed_invert ha.vt hb.vt)
    have p4 := Invert_small ⟨by omega, f2.2⟩ (feed_invert hb.vt hc.vt)
    have p5 := Apply_small ha.big ⟨by omega, f1.2⟩ e1
    have p6 := Apply_small sx.big ⟨by omega, f4.2⟩ e2
    have p7 := Compose_small ⟨by omega, f1.2⟩ ⟨by omega, f2.2⟩ (feed_compose ha.vt hb.vt hc.vt)
    have p8 := Invert_small ⟨by omega, f3.2⟩ (feed_invert ha.vt hc.vt)
    have p9 := Lines_refl ha.big
    have p10 := Feed_small hb.big ha.big
    have p11 := Events_refl ⟨by omega, f4.2⟩
    have p12 := Invert_small ⟨by omega, f4.2⟩ (feed_invert hb.vt ha.vt)
    have p13 := Events_refl ⟨by omega, f1.2⟩
    have p14 := Compose_small ⟨by omega, f1.2⟩ ⟨by omega, f4.2⟩ ((feed_compose ha.vt hb.vt ha.vt).trans ((feed_nil ha.vt ha.vt).2 rfl))
    have p15 := Compose_small ⟨by omega, f5.2⟩ ⟨by omega, f4.2⟩ (feed_compose hc.vt hb.vt ha.vt)
    have p16 := Events_refl ⟨by omega, f6.2⟩
    simp only [go_sem] at p6 p14
    clear ha hb hc sx f1 f2 f3 f4 f5 f6 vx nx vy ny e1 e2 la lb lc
    simp only [f_L29_LineageInverts, hl, ht, p1, p2, p3, p4, p5, p6, p7, p8, p9, p10, p11, p12, p13, p14, p15, p16, Nat.reduceMul, Int.natCast_zero, go_sem]
end Go.Den
