/- Package lens: get, keep, the parts of a text, the two directions of a change. -/
import Derived.Test.YtghipgdajgeoiaaGreatDoorS07A
namespace Go.Den
open Go
set_option linter.unusedSimpArgs false
set_option linter.unusedVariables false
set_option maxRecDepth 100000
set_option maxHeartbeats 1000000
@[go_sem] theorem lens_get (r : List Cell) (id : Int) (hL : r.length < 1000000000000000) : Den prog 226 [.agg [.sl (r.map Cell.cells)], .int .i64 id] [] = some (.agg [.bool (getC r id).null, .int .i64 (getC r id).n, .str (getC r id).s], []) := by
  rw [Den_ofK [] pr_lens_get rfl]
  simp only [f_lens_get, go_sem]
  refine range_ind r hL (fun i (_ : Unit) => (Run prog 0 (.loop 1 [1, 4, 8, 9, 10] f_lens_get_l0) [(1, .int .i64 id), (4, .ref 0 0), (8, .sl (r.map Cell.cells)), (9, .int .i64 r.length), (10, .int .i64 i)] [.cells [.bool false, .int .i64 0, .str ⟨#[]⟩]]).bind _ = _) (fun i rest _ => getC rest id = getC r id) ?_ ?_ () rfl
  · intro _ h
    have h : getC r id = nullV := h.symm
    rw [Run_loop]
    simp only [f_lens_get_l0_eq, f_lens_get_l0u, h, nullV, go_sem]
  · intro i pre rest x _ hp _ _ _ hx hc hw h ih
    rw [Run_loop]
    by_cases hn : x.id = id
    · have hd : decide (x.id = id) = true := by simpa using hn
      have h : getC r id = x.v := by rw [← h]; simp [getC, hn]
      simp only [f_lens_get_l0_eq, f_lens_get_l0u, hx, hc, hd, h, go_sem]
    · have hd : decide (x.id = id) = false := by simpa using hn
      have ih := ih () (by rw [← h]; simp [getC, hn])
      simp only [f_lens_get_l0_eq, f_lens_get_l0u, hx, hc, hw, hd, ih, go_sem]
theorem slices_CloneC (r : List Cell) (hL : r.length < 1000000000000) : Den prog 223 [.sl (r.map Cell.cells)] [] = some (.osl 0 0 r.length 0 r.length, [.arr 0 4 (r.map Cell.cells)]) := by
  have hb : r.length * 40 ≤ 140737488355328 := by omega
  cases r with
  | nil =>
    refine Den_two [] pr_slices_Clone_api_Cell_api_Cell rfl rfl ?_ ?_ rfl rfl
    · simp only [f_slices_Clone_api_Cell_api_Cell, go_sem]
    · simp only [f_slices_Clone_api_Cell_api_Cell, go_sem]
  | cons x r =>
    have hz := szOKb_map 4 Cell.cells (x :: r) (fun x => rfl)
    rw [List.map_cons, Den_one [] pr_slices_Clone_api_Cell_api_Cell rfl]
    rw [List.map_cons] at hz
    obtain ⟨c, hc⟩ : ∃ c, c = x.cells := ⟨_, rfl⟩
    have hcl : c.length = 4 := by rw [hc]; rfl
    rw [← hc] at hz ⊢
    simp only [List.length_cons] at hb
    simp only [f_slices_Clone_api_Cell_api_Cell, hb, hcl, go_sem]
@[go_sem] theorem lens_keep (r : List Cell) (hL : r.length < 1000000000000) : Den prog 227 [.agg [.sl (r.map Cell.cells)]] [] = some (.agg [.sl (r.map Cell.cells)], []) := by
  have h := slices_CloneC r hL
  rw [Den_ofK [] pr_lens_keep rfl]
  simp only [f_lens_keep, h, go_sem]
attribute [go_sem] lens_set
/-! Texts. -/
theorem index_room {s t : List UInt8} (h : 0 ≤ Lib.index s t) : ∃ i : Nat, Lib.index s t = i ∧ i + t.length ≤ s.length ∧ Lib.occAt s t i = true ∧ ∀ j, j < i → Lib.occAt s t j = false := by
  by_cases hn : ∀ j, j ≤ s.length → Lib.occAt s t j = false
  · rw [Lib.index_none hn] at h; exact absurd h (by decide)
  · have hex : ∃ j, j ≤ s.length ∧ Lib.occAt s t j = true := by
      apply Classical.byContradiction
      intro hc
      refine hn fun j hj => ?_
      cases hb : Lib.occAt s t j with
      | false => rfl
      | true => exact (hc ⟨j, hj, hb⟩).elim
    have key : ∀ n j, j ≤ n → j ≤ s.length → Lib.occAt s t j = true → ∃ i, i ≤ s.length ∧ Lib.occAt s t i = true ∧ ∀ k, k < i → Lib.occAt s t k = false := by
      intro n
      induction n with
      | zero => intro j h1 h2 h3; exact ⟨j, h2, h3, fun k hk => by omega⟩
      | succ n ih =>
        intro j h1 h2 h3
        by_cases hj : ∃ k, k < j ∧ Lib.occAt s t k = true
        · obtain ⟨k, k1, k2⟩ := hj
          exact ih k (by omega) (by omega) k2
        · exact ⟨j, h2, h3, fun k hk => by
            cases hb : Lib.occAt s t k with
            | false => rfl
            | true => exact (hj ⟨k, hk, hb⟩).elim⟩
    obtain ⟨j, j1, j2⟩ := hex
    obtain ⟨i, i1, i2, i3⟩ := key s.length j j1 j1 j2
    have hi := Lib.index_first i1 i2 i3
    refine ⟨i, hi, ?_, i2, i3⟩
    rcases Lib.occAt_room i2 with h | h
    · exact h
    · rw [h]; simpa using i1
def ixS (s t : ByteArray) : Int := Lib.index s.data.toList t.data.toList
theorem ixS_room {s t : ByteArray} (h : 0 ≤ ixS s t) : ixS s t + t.size ≤ s.size := by
  obtain ⟨i, h1, h2, _⟩ := index_room h
  rw [show ixS s t = i from h1, str_len, str_len]
  omega
@[go_sem] theorem sl_Index (s t : ByteArray) (h : s.size < 4294967281) : Den prog 233 [.str s, .str t] [] = some (.int .i64 (ixS s t), []) := by
  rw [Den_x [] pr_internal_stringslite_Index rfl]
  simp [xsem, h, ixS]
/-- The two parts of a text. -/
def divV (s t : ByteArray) : Val × Val := bif decide (0 ≤ ixS s t) then (⟨false, 0, s.extract 0 (ixS s t).toNat⟩, ⟨false, 0, s.extract (ixS s t + t.size).toNat s.size⟩) else (⟨false, 0, s⟩, nullV)
@[go_sem] theorem lens_divide (s t : ByteArray) (h : s.size < 4294967281) (ht : t.size < 4294967281) : Den prog 236 [.str s, .str t] [] = some (.tup [.agg [.bool (divV s t).1.null, .int .i64 (divV s t).1.n, .str (divV s t).1.s], .agg [.bool (divV s t).2.null, .int .i64 (divV s t).2.n, .str (divV s t).2.s]], []) := by
  have hi := sl_Index s t h
  have hr := @ixS_room s t
  unfold divV
  generalize ixS s t = i at *
  have hcut : Den prog 235 [.str s, .str t] [] = some (bif decide (0 ≤ i) then .tup [.str (s.extract 0 i.toNat), .str (s.extract (i + t.size).toNat s.size), .bool true] else .tup [.str s, .str ⟨#[]⟩, .bool false], []) := by
    have hc : Den prog 234 [.str s, .str t] [] = some (bif decide (0 ≤ i) then .tup [.str (s.extract 0 i.toNat), .str (s.extract (i + t.size).toNat s.size), .bool true] else .tup [.str s, .str ⟨#[]⟩, .bool false], []) := by
      rw [Den_ofK [] pr_internal_stringslite_Cut rfl]
      cases d : decide (0 ≤ i) with
      | false => simp only [f_internal_stringslite_Cut, hi, d, cond_false, go_sem]
      | true =>
        have h0 : 0 ≤ i := by simpa using d
        have hr := hr h0
        have h1 : i ≤ (s.size : Int) := by omega
        have h2 : IntKind.wrap .i64 (i + t.size) = i + t.size := wrap_i64 (by omega) (by omega)
        have h3 : 0 ≤ i + (t.size : Int) := by omega
        simp only [f_internal_stringslite_Cut, hi, d, h0, h1, h2, h3, hr, cond_true, go_sem]
    rw [Den_ofK [] pr_strings_Cut rfl]
    cases d : decide (0 ≤ i) <;> rw [d] at hc <;> simp only [cond_true, cond_false] at hc ⊢ <;> simp only [f_strings_Cut, hc, go_sem]
  rw [Den_ofK [] pr_lens_divide rfl]
  cases d : decide (0 ≤ i) <;> rw [d] at hcut <;> simp only [cond_true, cond_false] at hcut ⊢ <;> simp only [f_lens_divide, hcut, nullV, go_sem]
/-- Two values connected. -/
def conV (a b : Val) (t : ByteArray) : Val := bif a.null && b.null then nullV else ⟨false, 0, cutS 200 (a.s ++ t ++ b.s)⟩
@[go_sem] theorem lens_connect (an : Bool) (ai : Int) (sa : ByteArray) (bn : Bool) (bi : Int) (sb t : ByteArray) (h : sa.size + t.size + sb.size < 4294967281) :
    Den prog 238 [.agg [.bool an, .int .i64 ai, .str sa], .agg [.bool bn, .int .i64 bi, .str sb], .str t] [] = some (.agg [.bool (conV ⟨an, ai, sa⟩ ⟨bn, bi, sb⟩ t).null, .int .i64 (conV ⟨an, ai, sa⟩ ⟨bn, bi, sb⟩ t).n, .str (conV ⟨an, ai, sa⟩ ⟨bn, bi, sb⟩ t).s], []) := by
  have k1 := bin_cat .num sa t (by omega)
  have k2 := bin_cat .num (sa ++ t) sb (by rw [ByteArray.size_append]; omega)
  rw [Den_ofK [] pr_lens_connect rfl]
  simp only [conV]
  generalize sa ++ t ++ sb = w at *
  have c1 := cutI_ge (k := 200) w (by decide)
  have c2 := cutI_le 200 w
  unfold cutS
  unfold cutI at c1 c2 ⊢
  cases an <;> cases bn <;> simp only [f_lens_connect, k1, k2, c1, c2, nullV, cond_true, cond_false, go_sem]
theorem putL_len (r : List Cell) (id : Int) (v : Val) : (putL r id v).length ≤ r.length + 1 := by
  induction r with
  | nil => rw [putL]; cases v.null <;> simp
  | cons c r ih =>
    rw [putL]
    split
    · simp; omega
    · rw [List.length_append]
      cases v.null <;> (split <;> simp <;> omega)
def apartL (r : List Cell) (from_ x y : Int) (t : ByteArray) : List Cell :=
  bif (getC r from_).null then putL r from_ nullV else putL (putL (putL r from_ nullV) x (divV (getC r from_).s t).1) y (divV (getC r from_).s t).2
theorem lens_apart (r : List Cell) (from_ x y : Int) (t : ByteArray) (hL : r.length < 100000000000) (h : (getC r from_).s.size < 4294967281) (ht : t.size < 4294967281) :
    Den prog 237 [.agg [.sl (r.map Cell.cells)], .int .i64 from_, .agg [.int .i64 x, .int .i64 y], .str t] [] = some (.agg [.sl ((apartL r from_ x y t).map Cell.cells)], []) := by
  have h1 := putL_len r from_ nullV
  have h2 := putL_len (putL r from_ nullV) x (divV (getC r from_).s t).1
  have g1 := lens_get r from_ (by omega)
  have s1 := lens_set r from_ true 0 ⟨#[]⟩ (by omega)
  rw [show (⟨true, 0, ⟨#[]⟩⟩ : Val) = nullV from rfl] at s1
  have d1 := lens_divide (getC r from_).s t h ht
  have s2 := lens_set (putL r from_ nullV) x (divV (getC r from_).s t).1.null (divV (getC r from_).s t).1.n (divV (getC r from_).s t).1.s (by omega)
  have s3 := lens_set (putL (putL r from_ nullV) x (divV (getC r from_).s t).1) y (divV (getC r from_).s t).2.null (divV (getC r from_).s t).2.n (divV (getC r from_).s t).2.s (by omega)
  rw [Den_ofK [] pr_lens_apart rfl]
  unfold apartL
  clear h1 h2 h ht hL
  generalize getC r from_ = v at *
  generalize putL r from_ nullV = r1 at *
  obtain ⟨vn, vi, vs⟩ := v
  simp only [] at d1 s2 s3 g1 ⊢
  generalize divV vs t = q at *
  obtain ⟨q1, q2⟩ := q
  obtain ⟨a1, a2, a3⟩ := q1
  obtain ⟨b1, b2, b3⟩ := q2
  simp only [] at d1 s2 s3 g1 ⊢
  cases vn <;> simp only [f_lens_apart, g1, s1, d1, s2, s3, cond_true, cond_false, go_sem]
theorem lens_erase1 (r : List Cell) (id : Int) (hL : r.length < 100000000000) : Den prog 225 [.agg [.sl (r.map Cell.cells)], .rptr [.int .i64 id]] [] = some (.agg [.sl ((putL r id nullV).map Cell.cells)], []) := by
  have s1 := lens_set r id true 0 ⟨#[]⟩ (by omega)
  rw [show (⟨true, 0, ⟨#[]⟩⟩ : Val) = nullV from rfl] at s1
  rw [Den_ofK [] pr_lens_erase_1 rfl]
  simp only [f_lens_erase_1, s1, go_sem]
@[go_sem] theorem lens_erase (id : Int) : Den prog 239 [.int .i64 id] [] = some (.fn 225 [.rptr [.int .i64 id]], []) := by
  rw [Den_ofK [] pr_lens_erase rfl]
  simp only [f_lens_erase, go_sem]
def narrowL (r : List Cell) (id : Int) : List Cell := bif decide ((getC r id).n < -2147483648) || decide (2147483647 < (getC r id).n) then putL r id nullV else r
theorem lens_narrow1 (r : List Cell) (id : Int) (hL : r.length < 100000000000) : Den prog 228 [.agg [.sl (r.map Cell.cells)], .rptr [.int .i64 id]] [] = some (.agg [.sl ((narrowL r id).map Cell.cells)], []) := by
  have s1 := lens_set r id true 0 ⟨#[]⟩ (by omega)
  rw [show (⟨true, 0, ⟨#[]⟩⟩ : Val) = nullV from rfl] at s1
  have g1 := lens_get r id (by omega)
  have k1 := lens_keep r (by omega)
  rw [Den_ofK [] pr_lens_narrow_1 rfl]
  unfold narrowL
  generalize getC r id = v at *
  cases d1 : decide (v.n < -2147483648) <;> cases d2 : decide (2147483647 < v.n) <;> simp only [f_lens_narrow_1, g1, s1, k1, d1, d2, Bool.or_self, Bool.or_true, Bool.true_or, cond_true, cond_false, go_sem]
@[go_sem] theorem lens_narrow (id : Int) : Den prog 240 [.int .i64 id] [] = some (.fn 228 [.rptr [.int .i64 id]], []) := by
  rw [Den_ofK [] pr_lens_narrow rfl]
  simp only [f_lens_narrow, go_sem]
theorem lens_of1 (r : List Cell) (c : Chg) (n : Int) (hL : r.length < 100000000000) (h : (getC r c.id).s.size < 4294967281) (ht : c.sep.size < 4294967281) (h0 : 0 ≤ n) (h1 : n < 1000000000000) :
    Den prog 241 [.agg [.sl (r.map Cell.cells)], .rptr c.cells, .rptr [.int .i64 n]] [] = some (.agg [.sl ((apartL r c.id n (n + 1) c.sep).map Cell.cells)], []) := by
  have hw : IntKind.wrap .i64 (n + 1) = n + 1 := wrap_i64 (by omega) (by omega)
  have a1 := lens_apart r c.id n (n + 1) c.sep hL h ht
  rw [Den_ofK [] pr_lens_of_1 rfl, cells_chg]
  simp only [f_lens_of_1, hw, a1, go_sem]
theorem lens_of4 (r : List Cell) (c : Chg) (n : Int) (hL : r.length < 100000000000) (h : (getC r n).s.size < 4294967281) (ht : c.sep.size < 4294967281) :
    Den prog 244 [.agg [.sl (r.map Cell.cells)], .rptr [.int .i64 n], .rptr c.cells] [] = some (.agg [.sl ((apartL r n c.id c.wi c.sep).map Cell.cells)], []) := by
  have a1 := lens_apart r n c.id c.wi c.sep hL h ht
  rw [Den_ofK [] pr_lens_of_4 rfl, cells_chg]
  simp only [f_lens_of_4, a1, go_sem]
def conL (r : List Cell) (n : Int) (t : ByteArray) : Val := bif (getC r (n + 1)).null then getC r n else conV (getC r n) (getC r (n + 1)) t
theorem lens_of2 (r : List Cell) (c : Chg) (n : Int) (hL : r.length < 100000000000) (h : (getC r n).s.size + c.sep.size + (getC r (n + 1)).s.size < 4294967281) (h0 : 0 ≤ n) (h1 : n < 1000000000000) :
    Den prog 242 [.agg [.sl (r.map Cell.cells)], .rptr [.int .i64 n], .rptr c.cells] [] = some (.agg [.sl ((putL (putL (putL r n nullV) (n + 1) nullV) c.id (conL r n c.sep)).map Cell.cells)], []) := by
  have hw : IntKind.wrap .i64 (n + 1) = n + 1 := wrap_i64 (by omega) (by omega)
  have l1 := putL_len r n nullV
  have l2 := putL_len (putL r n nullV) (n + 1) nullV
  have g1 := lens_get r n (by omega)
  have g2 := lens_get r (n + 1) (by omega)
  have s1 := lens_set r n true 0 ⟨#[]⟩ (by omega)
  have s2 := lens_set (putL r n nullV) (n + 1) true 0 ⟨#[]⟩ (by omega)
  rw [show (⟨true, 0, ⟨#[]⟩⟩ : Val) = nullV from rfl] at s1 s2
  have s3 := fun b i s => lens_set (putL (putL r n nullV) (n + 1) nullV) c.id b i s (by omega)
  have k := lens_connect (getC r n).null (getC r n).n (getC r n).s (getC r (n + 1)).null (getC r (n + 1)).n (getC r (n + 1)).s c.sep h
  rw [Den_ofK [] pr_lens_of_2 rfl, cells_chg]
  unfold conL
  generalize putL (putL r n nullV) (n + 1) nullV = r2 at *
  generalize putL r n nullV = r1 at *
  generalize getC r n = u at *
  generalize getC r (n + 1) = v at *
  obtain ⟨un, ui, us⟩ := u
  obtain ⟨vn, vi, vs⟩ := v
  simp only [] at k g1 g2 ⊢
  clear l1 l2 h h0 h1 hL
  generalize conV ⟨un, ui, us⟩ ⟨vn, vi, vs⟩ c.sep = q at *
  obtain ⟨q1, q2, q3⟩ := q
  simp only [] at k
  cases vn <;> simp only [f_lens_of_2, hw, g1, g2, s1, s2, s3, k, cond_true, cond_false, go_sem]
theorem lens_of3 (r : List Cell) (c : Chg) (n : Int) (hL : r.length < 100000000000) (h : (getC r c.id).s.size + c.sep.size + (getC r c.wi).s.size < 4294967281) :
    Den prog 243 [.agg [.sl (r.map Cell.cells)], .rptr c.cells, .rptr [.int .i64 n]] [] = some (.agg [.sl ((putL (putL (putL r c.id nullV) c.wi nullV) n (conV (getC r c.id) (getC r c.wi) c.sep)).map Cell.cells)], []) := by
  have l1 := putL_len r c.id nullV
  have l2 := putL_len (putL r c.id nullV) c.wi nullV
  have g1 := lens_get r c.id (by omega)
  have g2 := lens_get r c.wi (by omega)
  have s1 := lens_set r c.id true 0 ⟨#[]⟩ (by omega)
  have s2 := lens_set (putL r c.id nullV) c.wi true 0 ⟨#[]⟩ (by omega)
  rw [show (⟨true, 0, ⟨#[]⟩⟩ : Val) = nullV from rfl] at s1 s2
  have s3 := fun b i s => lens_set (putL (putL r c.id nullV) c.wi nullV) n b i s (by omega)
  have k := lens_connect (getC r c.id).null (getC r c.id).n (getC r c.id).s (getC r c.wi).null (getC r c.wi).n (getC r c.wi).s c.sep h
  rw [Den_ofK [] pr_lens_of_3 rfl, cells_chg]
  generalize putL (putL r c.id nullV) c.wi nullV = r2 at *
  generalize putL r c.id nullV = r1 at *
  generalize getC r c.id = u at *
  generalize getC r c.wi = v at *
  obtain ⟨un, ui, us⟩ := u
  obtain ⟨vn, vi, vs⟩ := v
  simp only [] at k g1 g2 ⊢
  clear l1 l2 h hL
  generalize conV ⟨un, ui, us⟩ ⟨vn, vi, vs⟩ c.sep = q at *
  obtain ⟨q1, q2, q3⟩ := q
  simp only [] at k
  simp only [f_lens_of_3, g1, g2, s1, s2, s3, k, go_sem]
/-! The two directions of a change. -/
def fwdA (c : Chg) (n : Int) : AV :=
  bif decide (c.kind = 2) then .fn 225 [.rptr [.int .i64 c.id]] else
  bif decide (c.kind = 6) then .fn 241 [.rptr c.cells, .rptr [.int .i64 n]] else
  bif decide (c.kind = 7) then .fn 243 [.rptr c.cells, .rptr [.int .i64 n]] else .fn 227 []
def bakA (c : Chg) (n : Int) : AV :=
  bif decide (c.kind = 1) then .fn 225 [.rptr [.int .i64 n]] else
  bif decide (c.kind = 4) then .fn 228 [.rptr [.int .i64 c.id]] else
  bif decide (c.kind = 6) then .fn 242 [.rptr [.int .i64 n], .rptr c.cells] else
  bif decide (c.kind = 7) then .fn 244 [.rptr [.int .i64 n], .rptr c.cells] else .fn 227 []
theorem lens_of (c : Chg) (n : Int) : Den prog 245 [.agg c.cells, .int .i64 n] [] = some (.agg [fwdA c n, bakA c n], []) := by
  rw [Den_ofK [] pr_lens_of rfl, cells_chg]
  unfold fwdA bakA
  rw [cells_chg]
  have hk : ∀ a b : Int, a ≠ b → decide (a = b) = false := fun a b h => decide_eq_false h
  cases e1 : decide (c.kind = 1) with
  | true =>
    have e : c.kind = 1 := by simpa using e1
    have e2 : decide (c.kind = 2) = false := hk _ _ (by omega)
    have e4 : decide (c.kind = 4) = false := hk _ _ (by omega)
    have e6 : decide (c.kind = 6) = false := hk _ _ (by omega)
    have e7 : decide (c.kind = 7) = false := hk _ _ (by omega)
    simp only [f_lens_of, e1, e2, e4, e6, e7, cond_true, cond_false, go_sem]
  | false => cases e2 : decide (c.kind = 2) with
    | true =>
      have e : c.kind = 2 := by simpa using e2
      have e4 : decide (c.kind = 4) = false := hk _ _ (by omega)
      have e6 : decide (c.kind = 6) = false := hk _ _ (by omega)
      have e7 : decide (c.kind = 7) = false := hk _ _ (by omega)
      simp only [f_lens_of, e1, e2, e4, e6, e7, cond_true, cond_false, go_sem]
    | false => cases e4 : decide (c.kind = 4) with
      | true =>
        have e : c.kind = 4 := by simpa using e4
        have e6 : decide (c.kind = 6) = false := hk _ _ (by omega)
        have e7 : decide (c.kind = 7) = false := hk _ _ (by omega)
        simp only [f_lens_of, e1, e2, e4, e6, e7, cond_true, cond_false, go_sem]
      | false => cases e6 : decide (c.kind = 6) with
        | true =>
          have e : c.kind = 6 := by simpa using e6
          have e7 : decide (c.kind = 7) = false := hk _ _ (by omega)
          simp only [f_lens_of, e1, e2, e4, e6, e7, cond_true, cond_false, go_sem]
        | false => cases e7 : decide (c.kind = 7) <;> simp only [f_lens_of, e1, e2, e4, e6, e7, cond_true, cond_false, go_sem]
end Go.Den
