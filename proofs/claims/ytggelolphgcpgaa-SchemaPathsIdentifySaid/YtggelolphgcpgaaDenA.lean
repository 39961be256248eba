/- The abstract evaluator 'Den': values without memory, code in a checked form, and its equations. -/
import GoSem.Core.Code
import GoSem.Core.View
namespace Go.Den
open Go

/-- Abstract values: what a machine value stands for. nil0: a slice that is nil; nne: an empty one that is not. -/
inductive AV where
  | int (k : IntKind) (n : Int)
  | bool (b : Bool)
  | str (s : ByteArray)
  | nilp
  | rptr (cs : List AV)
  | ref (o off : Nat)
  | eref (o ver n i off : Nat)
  | nils
  | sl (es : List (List AV))
  | osl (o ver n off len : Nat)
  | fn (f : Nat) (caps : List AV)
  | nilfn
  | agg (cs : List AV)
  | tup (vs : List AV)
  | mapr (o : Nat)
  | nilmap
  | fmap (es : List (AV × AV))
  | iface (t : Nat) (v : AV)
  | nilif
  | nil0
  | nne
  | dead
  deriving Inhabited

/-- Abstract objects: memory that the run itself writes. -/
inductive Ob where
  | cells (cs : List AV)
  | arr (ver sz : Nat) (es : List (List AV))
  | map (es : List (AV × AV))
  | dead
  | res
  deriving Inhabited
abbrev St := List Ob
abbrev Env := List (Nat × AV)

def Env.get : Env → Nat → AV
  | [], _ => .dead
  | (a, v) :: r, t => if a = t then v else Env.get r t

inductive Opd where
  | t (n : Nat)
  | c (v : AV)
def ev (env : Env) : Opd → AV
  | .t n => env.get n
  | .c v => v

/-- One cell of memory can hold it. -/
def AV.scalar : AV → Bool
  | .agg _ | .tup _ | .dead => false
  | _ => true
/-- It leads to no object. -/
def AV.noref : AV → Bool
  | .ref .. | .eref .. | .osl .. | .mapr _ | .dead => false
  | .fn _ caps => norefs caps
  | .agg cs => norefs cs
  | .tup vs => norefs vs
  | .iface _ v => v.noref
  | _ => true
where norefs : List AV → Bool
  | [] => true
  | x :: r => x.noref && norefs r
abbrev norefs := AV.noref.norefs
/-- It leads to objects below m alone. -/
def AV.under (m : Nat) : AV → Bool
  | .ref o _ | .eref o _ _ _ _ | .osl o _ _ _ _ | .mapr o => decide (o < m)
  | .fn _ caps => unders m caps
  | .agg cs => unders m cs
  | .tup vs => unders m vs
  | .iface _ v => v.under m
  | _ => true
where unders (m : Nat) : List AV → Bool
  | [] => true
  | x :: r => x.under m && unders m r
abbrev unders := AV.under.unders
/-- nil slices become plain empty ones. -/
def AV.norm : AV → AV
  | .nils => .sl []
  | .agg cs => .agg (norms cs)
  | .tup vs => .tup (norms vs)
  | v => v
where norms : List AV → List AV
  | [] => []
  | x :: r => x.norm :: norms r
abbrev norms := AV.norm.norms
/-- The references raised by k. -/
def AV.shift (k : Nat) : AV → AV
  | .ref o off => .ref (k + o) off
  | .eref o v n i off => .eref (k + o) v n i off
  | .osl o v n off len => .osl (k + o) v n off len
  | .mapr o => .mapr (k + o)
  | .fn f caps => .fn f (shifts k caps)
  | .agg cs => .agg (shifts k cs)
  | .tup vs => .tup (shifts k vs)
  | .iface t v => .iface t (v.shift k)
  | v => v
where shifts (k : Nat) : List AV → List AV
  | [] => []
  | x :: r => x.shift k :: shifts k r
abbrev shifts := AV.shift.shifts
def shiftPs (k : Nat) : List (AV × AV) → List (AV × AV)
  | [] => []
  | (a, b) :: r => (a.shift k, b.shift k) :: shiftPs k r
def Ob.shift (k : Nat) : Ob → Ob
  | .cells cs => .cells (shifts k cs)
  | .arr v sz es => .arr v sz es
  | .map es => .map (shiftPs k es)
  | .dead => .dead
  | .res => .res
def shiftSt (k : Nat) : St → St
  | [] => []
  | x :: r => x.shift k :: shiftSt k r

/-- The cells of a value. -/
def AV.cellsOf : AV → List AV
  | .agg cs => cs
  | v => [v]
def AV.isAgg : AV → Bool
  | .agg _ => true
  | _ => false
/-- cs written over zs from off on. -/
def over (zs : List AV) (off : Nat) (cs : List AV) : List AV := zs.take off ++ cs ++ zs.drop (off + cs.length)
/-- Read a value of sz cells at the front. -/
def front (agg : Bool) (sz : Nat) (cs : List AV) : Option AV :=
  if sz ≤ cs.length then (if agg then some (.agg (cs.take sz)) else cs.head?) else none

/-- The kinds of cells that can be compared. -/
inductive CK where
  | i | b | s
  deriving DecidableEq
def eqB : CK → AV → AV → Option Bool
  | .i, .int k a, .int k' b => if k = k' then some (decide (a = b)) else none
  | .b, .bool a, .bool b => some (a == b)
  | .s, .str a, .str b => some (decide (a = b))
  | _, _, _ => none
def eqCells : List CK → List AV → List AV → Option Bool
  | [], [], [] => some true
  | k :: ks, x :: xs, y :: ys => match eqB k x y, eqCells ks xs ys with
    | some a, some b => some (a && b)
    | _, _ => none
  | _, _, _ => none
/-- The kinds of values that '==' takes. -/
inductive EK where
  | num | bool | ptr | fn | slc | agg (ks : List CK)
  deriving DecidableEq
/-- '==' of two values. -/
def eq2 : EK → AV → AV → Option Bool
  | .num, .int k a, .int k' b => if k = k' then some (decide (a = b)) else none
  | .num, .str a, .str b => some (decide (a = b))
  | .bool, .bool a, .bool b => some (a == b)
  | .agg ks, .agg xs, .agg ys => eqCells ks xs ys
  | .ptr, .nilp, .nilp => some true
  | .ptr, .nilp, .rptr _ => some false
  | .ptr, .nilp, .ref .. => some false
  | .ptr, .nilp, .eref .. => some false
  | .ptr, .rptr _, .nilp => some false
  | .ptr, .ref .., .nilp => some false
  | .ptr, .eref .., .nilp => some false
  | .fn, .nilfn, .nilfn => some true
  | .fn, .nilfn, .fn .. => some false
  | .fn, .fn .., .nilfn => some false
  | .slc, .nil0, .nil0 => some true
  | .slc, .nne, .nil0 => some false
  | .slc, .sl (_ :: _), .nil0 => some false
  | _, _, _ => none
def bin (op : BinOp) (kd : EK) (x y : AV) : Option AV :=
  match op, x, y with
  | .eql, x, y => (eq2 kd x y).map .bool
  | .neq, x, y => (eq2 kd x y).map fun b => .bool (!b)
  | .lss, .int k a, .int k' b => if k = k' then some (.bool (decide (a < b))) else none
  | .leq, .int k a, .int k' b => if k = k' then some (.bool (decide (a ≤ b))) else none
  | .gtr, .int k a, .int k' b => if k = k' then some (.bool (decide (b < a))) else none
  | .geq, .int k a, .int k' b => if k = k' then some (.bool (decide (b ≤ a))) else none
  | .add, .int k a, .int k' b => if k = k' then some (.int k (k.wrap (a + b))) else none
  | .sub, .int k a, .int k' b => if k = k' then some (.int k (k.wrap (a - b))) else none
  | .mul, .int k a, .int k' b => if k = k' then some (.int k (k.wrap (a * b))) else none
  | .quo, .int k a, .int k' b => if k = k' ∧ b ≠ 0 then some (.int k (k.wrap (a.tdiv b))) else none
  | .rem, .int k a, .int k' b => if k = k' ∧ b ≠ 0 then some (.int k (a.tmod b)) else none
  | .and, .int k a, .int k' b => if k = k' then some (.int k (k.wrap (BitVec.ofInt k.bits a &&& BitVec.ofInt k.bits b).toNat)) else none
  | .or, .int k a, .int k' b => if k = k' then some (.int k (k.wrap (BitVec.ofInt k.bits a ||| BitVec.ofInt k.bits b).toNat)) else none
  | .xor, .int k a, .int k' b => if k = k' then some (.int k (k.wrap (BitVec.ofInt k.bits a ^^^ BitVec.ofInt k.bits b).toNat)) else none
  | .shl, .int k a, .int _ b => if 0 ≤ b then some (.int k (k.wrap (a * 2 ^ (min b.toNat k.bits)))) else none
  | .shr, .int k a, .int _ b => if 0 ≤ b then some (.int k (a.fdiv (2 ^ (min b.toNat k.bits)))) else none
  | .add, .str a, .str b => if a.size + b.size ≤ 9223372036854775807 then some (.str (a ++ b)) else none
  | _, _, _ => none

inductive AOp where
  | mov (x : Opd)
  | movp (sz : Nat) (x : Opd)
  | movf (x : Opd)
  | pick (c a b : Opd)
  | alloc (zs : List AV) (prs : List (Nat × Nat))
  | box (ro : Bool) (sz : Nat) (x : Opd)
  | build (zs : List AV) (parts : List (Nat × Nat × Opd))
  | buildp (zs : List AV) (parts : List (Nat × Nat × Opd)) (prs : List (Nat × Nat))
  | lit (pr : Bool) (sz : Nat) (zs : List AV) (len : Nat) (parts : List (Nat × Opd))
  | load (agg : Bool) (sz : Nat) (x : Opd)
  | store (sz : Nat) (x y : Opd)
  | storep (sz : Nat) (x y : Opd) (prs : List (Nat × Nat))
  | nilchk (x : Opd)
  | bin (op : BinOp) (kd : EK) (x y : Opd)
  | not (x : Opd)
  | convi (k : IntKind) (x : Opd)
  | fld (off : Nat) (x : Opd)
  | field (agg : Bool) (off sz : Nat) (x : Opd)
  | idxa (sz : Nat) (x i : Opd)
  | idxarr (len sz : Nat) (x i : Opd)
  | index (x i : Opd)
  | extract (x : Opd) (i : Nat)
  | len (str : Bool) (x : Opd)
  | append (pr : Bool) (sz bytes : Nat) (x y : Opd)
  | slice (sz : Nat) (x : Opd) (lo hi mx : Option Opd)
  | sstr (x : Opd) (lo hi : Option Opd)
  | min (x y : Opd)
  | max (x y : Opd)
  | mkfn (f : Nat) (caps : List Opd)
  | mkmap (r : Option Opd)
  | lookup (ag : Bool) (ks : List CK) (zero : AV) (ok : Bool) (x i : Opd)
  | mapupd (ag : Bool) (ks : List CK) (m k v : Opd)
  | clear (sz : Nat) (zs : List AV) (x : Opd)
  | tobytes (x : Opd)
  | bad
  | call (mode : Nat) (f : Nat) (args : List Opd)
  | callv (x : Opd) (args : List Opd)
  | slot (d : Nat) (op : AOp)

structure AOper where
  dst : Option Nat
  op : AOp
  guard : Option (Nat × Bool)

inductive ACode where
  | skip
  | region (ops : List AOper) (live : List Nat)
  | dregion (ops : List AOper) (unord : List (Nat × Nat)) (live : List Nat)
  | xregion (res : Nat) (ops : List AOper) (unord : List (Nat × Nat)) (live : List Nat)
  | seq (a b : ACode)
  | cond (c : Opd) (a b : ACode)
  | block (id : Nat) (c : ACode)
  | loop (keep : Nat) (live : List Nat) (c : ACode)
  | exit (id : Nat)
  | ret

inductive ARes where
  | t (n : Nat)
  | cell (n : Nat) (agg : Bool) (sz : Nat)
/-- What a call leaves: rows frozen; one row of its own; all that it hands back frozen. yesn: as yes, and the first parameter is looked at twice where it is empty: as nil and as not nil. -/
inductive OwnK where
  | no | yes | deep | yesn
  deriving DecidableEq
structure AFunc where
  nparams : Nat
  own : OwnK
  results : List ARes
  body : ACode

inductive Ex where
  | normal
  | exit (id : Nat)
  | ret
  deriving DecidableEq

/-- What is read through an address: the cells from there on; does it come out of an object? -/
def deref (σ : St) : AV → Option (List AV × Bool)
  | .rptr cs => some (cs, false)
  | .ref o off => match σ[o]? with
    | some (.cells cs) => some (cs.drop off, true)
    | _ => none
  | .eref o ver n i off => match σ[o]? with
    | some (.arr ver' _ es) => if ver' = ver ∧ es.length = n then (match es[i]? with
      | some e => some (e.drop off, true)
      | none => none) else none
    | _ => none
  | _ => none
/-- All elements have sz cells. -/
def szOK (sz : Nat) (es : List (List AV)) : Prop := ∀ e ∈ es, e.length = sz
def szOKb (sz : Nat) : List (List AV) → Bool
  | [] => true
  | e :: r => e.length == sz && szOKb sz r
theorem szOKb_iff (sz : Nat) (es : List (List AV)) : szOKb sz es = true ↔ szOK sz es := by
  induction es with
  | nil => simp [szOKb, szOK]
  | cons e r ih => simp [szOKb, szOK] at ih ⊢; intro _; exact ih
instance (sz : Nat) (es : List (List AV)) : Decidable (szOK sz es) := decidable_of_iff _ (szOKb_iff sz es)
/-- The elements of a slice; were they read out of an object? -/
def elems (σ : St) : AV → Option (List (List AV) × Bool)
  | .nils | .nil0 | .nne => some ([], false)
  | .sl es => some (es, false)
  | .osl o ver n off len => match σ[o]? with
    | some (.arr ver' _ es) => if ver' = ver ∧ es.length = n ∧ off + len ≤ n then some ((es.drop off).take len, true) else none
    | _ => none
  | _ => none

/-- A value as it may lie in frozen memory. -/
def frzCells (cs : List AV) : Option (List AV) := if norefs cs = true then some (norms cs) else none
def frzElems : List (List AV) → Option (List (List AV))
  | [] => some []
  | e :: r => match frzCells e, frzElems r with
    | some e', some r' => some (e' :: r')
    | _, _ => none
/-- One value as frozen: objects' rows become plain ones. -/
def frz (σ : St) : AV → Option AV
  | .osl o ver n off len => (elems σ (.osl o ver n off len)).map fun x => .sl x.1
  | .agg cs => (frzs σ cs).map .agg
  | .tup cs => (frzs σ cs).map .tup
  | .nils => some (.sl [])
  | v => some v
where frzs (σ : St) : List AV → Option (List AV)
  | [] => some []
  | x :: r => match frz σ x, frzs σ r with
    | some a, some b => some (a :: b)
    | _, _ => none
abbrev frzs := frz.frzs
/-- The objects whose rows a value holds, struck. -/
def kill (σ : St) : AV → St
  | .osl o _ _ _ _ => σ.set o .dead
  | .agg cs => kills σ cs
  | .tup cs => kills σ cs
  | _ => σ
where kills (σ : St) : List AV → St
  | [] => σ
  | x :: r => kills (kill σ x) r
abbrev kills := kill.kills

def evs (env : Env) : List Opd → List AV
  | [] => []
  | x :: r => ev env x :: evs env r

def fillParts (env : Env) : List (Nat × Nat × Opd) → List AV → Option (List AV)
  | [], zs => some zs
  | (off, size, x) :: r, zs =>
    let cs := (ev env x).cellsOf
    if cs.length = size ∧ off + size ≤ zs.length ∧ cs.all AV.scalar then fillParts env r (over zs off cs) else none
/-- n elements of sz cells. -/
def chop (sz : Nat) : Nat → List AV → List (List AV)
  | 0, _ => []
  | n + 1, cs => cs.take sz :: chop sz n (cs.drop sz)
def zerosN (zs : List AV) : Nat → List AV
  | 0 => []
  | n + 1 => zs ++ zerosN zs n
def litParts (sz : Nat) : List (Nat × Opd) → List (Nat × Nat × Opd)
  | [] => []
  | (i, x) :: r => (i * sz, sz, x) :: litParts sz r

/-- May this value be stored into an object o of the frame with base 'base' whose cells were 'old'? -/
def AV.refsIn (old : List AV) : AV → Bool
  | .osl o _ _ _ _ => old.any fun | .osl o' _ _ _ _ => o == o' | _ => false
  | v => v.noref
def storable (base o : Nat) (old : List AV) (cs : List AV) : Prop := base ≤ o ∨ cs.all (fun x => x.under (o + 1) || x.refsIn old) = true
instance (base o : Nat) (old cs : List AV) : Decidable (storable base o old cs) := by unfold storable; exact inferInstance

def asInt : AV → Option Int
  | .int _ n => some n
  | _ => none
def bound (env : Env) (d : Nat) : Option Opd → Option Nat
  | none => some d
  | some x => match ev env x with
    | .int _ n => if 0 ≤ n then some n.toNat else none
    | _ => none

/-- '==' of two keys of a map. -/
def keyEq (ag : Bool) (ks : List CK) : AV → AV → Option Bool
  | .agg xs, .agg ys => if ag then eqCells ks xs ys else none
  | x, y => if ag then none else eqCells ks [x] [y]
/-- A key that can be compared. -/
def keyOk (ag : Bool) (ks : List CK) (k : AV) : Bool := (keyEq ag ks k k).isSome
def mfind (ag : Bool) (ks : List CK) (k : AV) : List (AV × AV) → Option (Option AV)
  | [] => some none
  | (a, v) :: r => match keyEq ag ks k a with
    | some true => some (some v)
    | some false => mfind ag ks k r
    | none => none
def mput (ag : Bool) (ks : List CK) (k v : AV) : List (AV × AV) → Option (List (AV × AV))
  | [] => some [(k, v)]
  | (a, u) :: r => match keyEq ag ks k a with
    | some true => some ((a, v) :: r)
    | some false => (mput ag ks k v r).map ((a, u) :: ·)
    | none => none

/-- What append takes: a slice's elements, a string's bytes. -/
def srcOf (σ : St) (sz : Nat) : AV → Option (List (List AV) × Bool)
  | .str s => if sz = 1 then some (s.data.toList.map (fun b => [AV.int .u8 b.toNat]), false) else none
  | v => elems σ v
def mapOf (σ : St) : AV → Option (List (AV × AV) × Bool)
  | .nilmap => some ([], false)
  | .fmap es => some (es, false)
  | .mapr o => match σ[o]? with
    | some (.map es) => some (es, true)
    | _ => none
  | _ => none
abbrev Out := Option (AV × St × Bool)
/-- Nil slices among the cells become rows of one's own. -/
def promos : List (Nat × Nat) → List AV → St → Option (List AV × St)
  | [], cs, σ => some (cs, σ)
  | (i, sz) :: r, cs, σ => match cs[i]? with
    | some .nils => if 0 < sz then promos r (cs.set i (.osl σ.length 0 0 0 0)) (σ ++ [Ob.arr 0 sz []]) else none
    | _ => none
/-- One operation that calls nothing: value, objects, was an object touched? -/
def step (base : Nat) (op : AOp) (env : Env) (σ : St) : Out :=
  match op with
  | .mov x => some (ev env x, σ, false)
  | .movp sz x => match ev env x with
    | .nils => if 0 < sz then some (.osl σ.length 0 0 0 0, σ ++ [Ob.arr 0 sz []], true) else none
    | _ => none
  | .pick c a b => match ev env c with
    | .bool t => some (if t then ev env a else ev env b, σ, false)
    | _ => none
  | .alloc zs prs => (promos prs zs σ).map fun x => (.ref x.2.length 0, x.2 ++ [Ob.cells x.1], true)
  | .box ro sz x =>
    let cs := (ev env x).cellsOf
    if cs.length = sz ∧ cs.all AV.scalar then
      (if ro then (if norefs cs = true then some (.rptr cs, σ, false) else none)
       else some (.ref σ.length 0, σ ++ [Ob.cells cs], true))
    else none
  | .build zs parts => (fillParts env parts zs).map fun cs => (.agg cs, σ, false)
  | .buildp zs parts prs => match fillParts env parts zs with
    | some cs => (promos prs cs σ).map fun x => (.agg x.1, x.2, true)
    | none => none
  | .lit pr sz zs len parts => match (fillParts env (litParts sz parts) (zerosN zs len)).bind (fun cs => frzElems (chop sz len cs)) with
    | some es => if pr then (if 0 < sz then some (.osl σ.length 0 len 0 len, σ ++ [Ob.arr 0 sz es], true) else none)
      else some (if len = 0 then .nils else .sl es, σ, false)
    | none => none
  | .load agg sz x => match deref σ (ev env x) with
    | some (cs, t) => (front agg sz cs).map fun v => (v, σ, t)
    | none => none
  | .store sz x y =>
    let ys := (ev env y).cellsOf
    if ys.length = sz ∧ ys.all AV.scalar then
      match ev env x with
      | .ref o off => match σ[o]? with
        | some (.cells cs) => if off + sz ≤ cs.length ∧ storable base o cs ys then some (.dead, σ.set o (.cells (over cs off ys)), true) else none
        | _ => none
      | .eref o ver n i off => match σ[o]? with
        | some (.arr ver' sz' es) => if ver' = ver ∧ es.length = n then (match es[i]? with
          | some e => if off + sz ≤ e.length then (match frzCells ys with
            | some zs => some (.dead, σ.set o (.arr ver' sz' (es.set i (over e off zs))), true)
            | none => none) else none
          | none => none) else none
        | _ => none
      | _ => none
    else none
  | .storep sz x y prs => match ev env y with
    | .agg ys => match promos prs ys σ with
      | some (ys', σ') => if ys'.length = sz ∧ ys'.all AV.scalar then (match ev env x with
          | .ref o off => match σ'[o]? with
            | some (.cells cs) => if off + sz ≤ cs.length ∧ storable base o cs ys' then some (.dead, σ'.set o (.cells (over cs off ys')), true) else none
            | _ => none
          | _ => none) else none
      | none => none
    | _ => none
  | .nilchk x => match ev env x with
    | .rptr cs => some (.rptr cs, σ, false)
    | .ref o off => some (.ref o off, σ, false)
    | .eref o v n i off => some (.eref o v n i off, σ, false)
    | .fn f caps => some (.fn f caps, σ, false)
    | _ => none
  | .bin op kd x y => (bin op kd (ev env x) (ev env y)).map fun v => (v, σ, false)
  | .not x => match ev env x with
    | .bool b => some (.bool (!b), σ, false)
    | _ => none
  | .convi k x => match ev env x with
    | .int _ n => some (.int k (k.wrap n), σ, false)
    | _ => none
  | .fld off x => match ev env x with
    | .rptr cs => if off ≤ cs.length then some (.rptr (cs.drop off), σ, false) else none
    | .ref o f => some (.ref o (f + off), σ, false)
    | .eref o v n i f => some (.eref o v n i (f + off), σ, false)
    | _ => none
  | .field agg off sz x => match ev env x with
    | .agg cs => (front agg sz (cs.drop off)).map fun v => (v, σ, false)
    | _ => none
  | .idxa sz x i => match ev env x, ev env i with
    | .sl es, .int _ i => if 0 ≤ i then (match es[i.toNat]? with
      | some e => if e.length = sz then some (.rptr e, σ, false) else none
      | none => none) else none
    | .osl o ver n off len, .int _ i => match σ[o]? with
      | some (.arr ver' sz' es) => if ver' = ver ∧ es.length = n ∧ sz' = sz ∧ 0 ≤ i ∧ i.toNat < len ∧ off + len ≤ n then some (.eref o ver n (off + i.toNat) 0, σ, true) else none
      | _ => none
    | _, _ => none
  | .idxarr len sz x i => match ev env x, ev env i with
    | .rptr cs, .int _ i => if 0 ≤ i ∧ i.toNat < len ∧ i.toNat * sz ≤ cs.length then some (.rptr (cs.drop (i.toNat * sz)), σ, false) else none
    | .ref o f, .int _ i => if 0 ≤ i ∧ i.toNat < len then some (.ref o (f + i.toNat * sz), σ, false) else none
    | _, _ => none
  | .index x i => match ev env x, ev env i with
    | .str s, .int _ i => if 0 ≤ i then (match s.data[i.toNat]? with
      | some b => some (.int .u8 b.toNat, σ, false)
      | none => none) else none
    | _, _ => none
  | .extract x i => match ev env x with
    | .tup vs => (vs[i]?).map fun v => (v, σ, false)
    | _ => none
  | .len str x => if str then (match ev env x with
      | .str s => some (.int .i64 s.size, σ, false)
      | _ => none)
    else (elems σ (ev env x)).map fun r => (.int .i64 r.1.length, σ, r.2)
  | .append pr sz bytes x y =>
    match srcOf σ sz (ev env y) with
    | none => none
    | some (ys, t) =>
      if szOK sz ys ∧ 0 < sz then
        match ev env x with
        | .nils => if ys.length * bytes ≤ 140737488355328 then
            (if pr then some (.osl σ.length 0 ys.length 0 ys.length, σ ++ [Ob.arr 0 sz ys], true) else some (.sl ys, σ, t)) else none
        | .osl o ver n off len => match σ[o]? with
          | some (.arr ver' sz' es) =>
            if ver' = ver ∧ es.length = n ∧ sz' = sz ∧ off + len ≤ n ∧ (len + ys.length) * bytes ≤ 140737488355328 then
              (if off = 0 ∧ len = n then some (.osl o ver (n + ys.length) 0 (n + ys.length), σ.set o (.arr ver sz (es ++ ys)), true)
               else some (.osl o (ver + 1) (len + ys.length) 0 (len + ys.length), σ.set o (.arr (ver + 1) sz ((es.drop off).take len ++ ys)), true))
            else none
          | _ => none
        | _ => none
      else none
  | .slice sz x lo hi mx => match ev env x with
    | .nils => match bound env 0 lo, bound env 0 hi, bound env 0 mx with
      | some 0, some 0, some 0 => some (.nils, σ, false)
      | _, _, _ => none
    | .sl es => match bound env 0 lo, bound env es.length hi with
      | some l, some h => if l ≤ h ∧ h ≤ es.length ∧ szOK sz es then
          (match mx with
           | none => some (.sl ((es.drop l).take (h - l)), σ, false)
           | some m => match bound env 0 (some m) with
             | some m => if h ≤ m ∧ m ≤ es.length then some (if l = m then .nils else .sl ((es.drop l).take (h - l)), σ, false) else none
             | none => none)
          else none
      | _, _ => none
    | .osl o ver n off len => match σ[o]? with
      | some (.arr ver' sz' es) => if ver' = ver ∧ es.length = n ∧ sz' = sz ∧ off + len ≤ n then
        (match bound env 0 lo, bound env len hi, mx with
         | some l, some h, none => if l ≤ h ∧ h ≤ len then some (.osl o ver n (off + l) (h - l), σ, true) else none
         | _, _, _ => none) else none
      | _ => none
    | _ => none
  | .sstr x lo hi => match ev env x with
    | .str s => match bound env 0 lo, bound env s.size hi with
      | some l, some h => if l ≤ h ∧ h ≤ s.size then some (.str (s.extract l h), σ, false) else none
      | _, _ => none
    | _ => none
  | .min x y => match ev env x, ev env y with
    | .int k a, .int k' b => if k = k' then some (.int k (if b < a then b else a), σ, false) else none
    | _, _ => none
  | .max x y => match ev env x, ev env y with
    | .int k a, .int k' b => if k = k' then some (.int k (if a < b then b else a), σ, false) else none
    | _, _ => none
  | .mkfn f caps => let cs := evs env caps
    if cs.all AV.scalar then some (.fn f cs, σ, false) else none
  | .mkmap r => match bound env 0 r with
    | some _ => some (.mapr σ.length, σ ++ [Ob.map []], true)
    | none => none
  | .lookup ag ks zero ok x i =>
    match mapOf σ (ev env x) with
    | some (es, t) => if keyOk ag ks (ev env i) then (match mfind ag ks (ev env i) es with
      | some (some v) => some (if ok then .tup [v, .bool true] else v, σ, t)
      | some none => some (if ok then .tup [zero, .bool false] else zero, σ, t)
      | none => none) else none
    | none => none
  | .mapupd ag ks m k v => match ev env m with
    | .mapr o => match σ[o]? with
      | some (.map es) => if keyOk ag ks (ev env k) then (match mput ag ks (ev env k) (ev env v) es with
        | some es' => if (ev env v).noref ∨ base ≤ o then some (.dead, σ.set o (.map es'), true) else none
        | none => none) else none
      | _ => none
    | _ => none
  | .clear sz zs x => match ev env x with
    | .nils | .sl [] => some (.tup [], σ, false)
    | .osl o ver n off len => match σ[o]? with
      | some (.arr ver' sz' es) => if ver' = ver ∧ es.length = n ∧ sz' = sz ∧ zs.length = sz ∧ off + len ≤ n then (match frzCells zs with
        | some z => some (.tup [], σ.set o (.arr ver' sz' (es.take off ++ List.replicate len z ++ es.drop (off + len))), true)
        | none => none) else none
      | _ => none
    | _ => none
  | .tobytes x => match ev env x with
    | .str s => some (.sl (s.data.toList.map fun b => [AV.int .u8 b.toNat]), σ, false)
    | _ => none
  | .bad => none
  | .call .. => none
  | .callv .. => none
  | .slot .. => none
  | .movf .. => none

/-- A call: arguments handed on, which objects the callee sees, what comes back. mode 1: slices as they are; mode 2: rows frozen; else nil slices become empty ones. -/
def callOp (call : Nat → List AV → St → Option (AV × St)) (mode f : Nat) (args : List AV) (σ : St) : Out :=
  match (if mode = 1 then some (args, σ) else if mode = 2 then (frzs σ args).map (fun a => (a, kills σ args)) else some (norms args, σ)) with
  | none => none
  | some (as, σ1) =>
    if norefs as = true then
      match call f as [] with
      | none => none
      | some (r, σr) => if r.noref && σr.isEmpty then some (r, σ1, mode == 2) else some (r.shift σ1.length, σ1 ++ shiftSt σ1.length σr, true)
    else match call f as σ1 with
      | none => none
      | some (r, σ') => some (r, σ', true)
/-- The objects whose rows a value holds. -/
def oslIn : AV → List Nat
  | .osl o _ _ _ _ => [o]
  | .agg cs => oslIns cs
  | .tup cs => oslIns cs
  | _ => []
where oslIns : List AV → List Nat
  | [] => []
  | x :: r => oslIn x ++ oslIns r
abbrev oslIns := oslIn.oslIns
/-- It holds no address. -/
def AV.bare : AV → Bool
  | .int _ _ | .bool _ | .str _ => true
  | .agg cs => bares cs
  | .tup vs => bares vs
  | _ => false
where bares : List AV → Bool
  | [] => true
  | x :: r => x.bare && bares r
abbrev bares := AV.bare.bares
/-- A call that only looks, at one object at most: rows are handed on as they stand, and what comes back holds no address. -/
def viewOp (call : Nat → List AV → St → Option (AV × St)) (f : Nat) (args : List AV) (σ : St) : Out :=
  if (oslIns args).length ≤ 1 then (frzs σ args).bind fun as => if norefs as = true then (call f as []).bind fun q => if q.1.bare && q.2.isEmpty then some (q.1, σ, !(oslIns args).isEmpty) else none else none else none
/-- mode 3: a call that only looks. -/
def callX (call : Nat → List AV → St → Option (AV × St)) (mode f : Nat) (args : List AV) (σ : St) : Out :=
  if mode = 3 then viewOp call f args σ else callOp call mode f args σ
def Ob.under (m : Nat) : Ob → Bool
  | .cells cs => unders m cs
  | .map es => es.all fun x => x.1.under m && x.2.under m
  | _ => true
/-- An object that is made goes to a place that was kept for it. -/
def fillAt (base d : Nat) (σ : St) : Out → Out
  | some (v, σ', _) => if σ'.length = σ.length then some (v, σ', true) else
    match σ'[σ.length]?, σ[σ.length - d]? with
    | some ob, some .res => if base ≤ σ.length - d ∧ ob.under σ.length = true then (match v with
        | .ref _ off => some (.ref (σ.length - d) off, σ.set (σ.length - d) ob, true)
        | .osl _ ver n off len => some (.osl (σ.length - d) ver n off len, σ.set (σ.length - d) ob, true)
        | _ => none) else none
    | _, _ => none
  | none => none
/-- One operation. -/
def stepC (call : Nat → List AV → St → Option (AV × St)) (base : Nat) (op : AOp) (env : Env) (σ : St) : Out :=
  match op with
  | .call mode f args => callX call mode f (evs env args) σ
  | .callv x args => match ev env x with
    | .fn f caps => callOp call 0 f (evs env args ++ caps) σ
    | _ => none
  | .slot d op => fillAt base d σ (step base op env σ)
  | .movf x => match frz σ (ev env x) with
    | some v => some (v, kill σ (ev env x), true)
    | none => none
  | op => step base op env σ
def Env.put (env : Env) (dst : Option Nat) (v : AV) : Env := match dst with
  | some d => (d, v) :: env
  | none => env
/-- Does a guarded operation run? -/
def wanted (env : Env) : Option (Nat × Bool) → Option Bool
  | none => some true
  | some (t, want) => match env.get t with
    | .bool b => some (b == want)
    | .tup [] => some false
    | _ => none
def runOps (call : Nat → List AV → St → Option (AV × St)) (base : Nat) : List AOper → Env → St → Option (Env × St)
  | [], env, σ => some (env, σ)
  | o :: ops, env, σ => match wanted env o.guard with
    | some true => match stepC call base o.op env σ with
      | some (v, σ', _) => runOps call base ops (env.put o.dst v) σ'
      | none => none
    | some false => runOps call base ops (env.put o.dst (.tup [])) σ
    | none => none
/-- The object that an operation reads (true) or writes (false). -/
abbrev Foot := Option (Bool × Nat)
def objOf : AV → Option Nat
  | .ref o _ => some o
  | .eref o _ _ _ _ => some o
  | .osl o _ _ _ _ => some o
  | _ => none
def plainS : AV → Bool
  | .nils | .sl _ | .str _ => true
  | _ => false
/-- Operations that may make an object for a kept place. -/
def slotable : AOp → Bool
  | .alloc _ prs => prs.isEmpty
  | .box ro _ _ => !ro
  | .lit pr _ _ _ _ => pr
  | .append pr _ _ _ _ => pr
  | .movp _ _ => true
  | _ => false
def footApp (n d : Nat) (x y : AV) : Foot := if plainS y then (match x with
    | .nils => some (false, n - d)
    | v => (objOf v).map fun o => (false, o)) else none
def footSlot (n d : Nat) (env : Env) : AOp → Foot
  | .append pr _ _ x y => if pr then footApp n d (ev env x) (ev env y) else none
  | op => if slotable op then some (false, n - d) else none
def footOf (op : AOp) (env : Env) (n : Nat) : Foot := match op with
  | .load _ _ x => (objOf (ev env x)).map fun o => (true, o)
  | .len _ x => (objOf (ev env x)).map fun o => (true, o)
  | .idxa _ x _ => (objOf (ev env x)).map fun o => (true, o)
  | .store _ x _ => (objOf (ev env x)).map fun o => (false, o)
  | .append _ _ _ x y => if plainS (ev env y) then (objOf (ev env x)).map (fun o => (false, o)) else none
  | .slot d op => footSlot n d env op
  | .call mode _ args => if mode = 3 then (match oslIns (evs env args) with | o :: _ => some (true, o) | [] => none) else none
  | _ => none
/-- A read of one object and a later store to another. -/
def apart : Foot → Foot → Bool
  | some (true, a), some (false, b) => !(a == b)
  | _, _ => false
/-- The same, with the places of the operations that touched an object. -/
def runD (call : Nat → List AV → St → Option (AV × St)) (base : Nat) : List AOper → Nat → Env → St → List (Nat × Foot) → Option (Env × St × List (Nat × Foot))
  | [], _, env, σ, T => some (env, σ, T)
  | o :: ops, i, env, σ, T => match wanted env o.guard with
    | some true => match stepC call base o.op env σ with
      | some (v, σ', t) => runD call base ops (i + 1) (env.put o.dst v) σ' (if t then (i, footOf o.op env σ.length) :: T else T)
      | none => none
    | some false => runD call base ops (i + 1) (env.put o.dst (.tup [])) σ T
    | none => none
def hits (i : Nat) : List (Nat × Foot) → List Foot
  | [] => []
  | (j, f) :: r => if j = i then f :: hits i r else hits i r
def aparts (a : List Foot) (b : List Foot) : Bool := a.all fun f => b.all fun g => apart f g
def drawOk (T : List (Nat × Foot)) : List (Nat × Nat) → Bool
  | [] => true
  | (i, j) :: r => aparts (hits i T) (hits j T) && drawOk T r
/-- Two operations that touch objects may come in either order: both read, or they touch different ones. -/
def freeOf : Foot → Foot → Bool
  | some (r, a), some (q, b) => (r && q) || !(a == b)
  | _, _ => false
def frees (a : List Foot) (b : List Foot) : Bool := a.all fun f => b.all fun g => freeOf f g
def xOk (T : List (Nat × Foot)) : List (Nat × Nat) → Bool
  | [] => true
  | (i, j) :: r => frees (hits i T) (hits j T) && xOk T r
def allFeet : List (Nat × Foot) → Bool
  | [] => true
  | (_, f) :: r => f.isSome && allFeet r
def prune (live : List Nat) (env : Env) : Env := match live with
  | [] => []
  | t :: r => (t, env.get t) :: prune r env
def envUnder (m : Nat) : Env → Bool
  | [] => true
  | (_, v) :: r => v.under m && envUnder m r
def obsUnder (m : Nat) : List Ob → Bool
  | [] => true
  | x :: r => x.under m && obsUnder m r
/-- At a loop's head: what is kept. -/
def gc (base keep : Nat) (live : List Nat) (env : Env) (σ : St) : Option (Env × St) :=
  let env' := prune live env
  if σ.length ≤ base + keep then some (env', σ)
  else if envUnder (base + keep) env' && obsUnder (base + keep) ((σ.take (base + keep)).drop base) then some (env', σ.take (base + keep)) else none
abbrev Res := Option (Ex × Env × St)
def iter (g : Env → St → Option (Env × St)) (f : Env → St → Res) : Nat → Env → St → Res
  | 0, _, _ => none
  | n + 1, env, σ => match g env σ with
    | none => none
    | some (env1, σ1) => match f env1 σ1 with
      | none => none
      | some (.normal, e, s) => iter g f n e s
      | some r => some r
def exec (call : Nat → List AV → St → Option (AV × St)) (n base : Nat) : ACode → Env → St → Res
  | .skip, env, σ => some (.normal, env, σ)
  | .region ops live, env, σ => match runOps call base ops env σ with
    | some (e, s) => some (.normal, prune live e, s)
    | none => none
  | .dregion ops unord live, env, σ => match runD call base ops 0 env σ [] with
    | some (e, s, T) => if drawOk T unord then some (.normal, prune live e, s) else none
    | none => none
  | .xregion res ops unord live, env, σ => match runD call base ops 0 env (σ ++ List.replicate res Ob.res) [] with
    | some (e, s, T) => if xOk T unord && allFeet T then some (.normal, prune live e, s) else none
    | none => none
  | .seq a b, env, σ => match exec call n base a env σ with
    | some (.normal, e, s) => exec call n base b e s
    | r => r
  | .cond c a b, env, σ => match ev env c with
    | .bool t => if t then exec call n base a env σ else exec call n base b env σ
    | _ => none
  | .block id c, env, σ => match exec call n base c env σ with
    | some (.exit i, e, s) => if i = id then some (.normal, e, s) else some (.exit i, e, s)
    | r => r
  | .loop keep live c, env, σ => iter (gc base keep live) (exec call n base c) n env σ
  | .exit id, env, σ => some (.exit id, env, σ)
  | .ret, env, σ => some (.ret, env, σ)
def resVals (env : Env) (σ : St) : List ARes → Option (List AV)
  | [] => some []
  | .t n :: r => (resVals env σ r).map (env.get n :: ·)
  | .cell n agg sz :: r => match deref σ (env.get n), resVals env σ r with
    | some (cs, _), some vs => (front agg sz cs).map (· :: vs)
    | _, _ => none
def oneOf : List AV → AV
  | [v] => v
  | vs => .tup vs
/-- One value frozen with all that it leads to, of the objects from base on; n bounds how deep it goes. -/
def frzD (base : Nat) (σ : St) : Nat → AV → Option AV
  | 0, _ => none
  | n + 1, v => match v with
    | .ref o off => if base ≤ o then (match σ[o]? with
      | some (.cells cs) => (frzDs (frzD base σ n) (cs.drop off)).map .rptr
      | _ => none) else none
    | .mapr o => if base ≤ o then (match σ[o]? with
      | some (.map es) => (frzDp (frzD base σ n) es).map .fmap
      | _ => none) else none
    | .osl o ver n' off len => if base ≤ o then (elems σ (.osl o ver n' off len)).map fun x => .sl x.1 else none
    | .fn f caps => (frzDs (frzD base σ n) caps).map (.fn f)
    | .agg cs => (frzDs (frzD base σ n) cs).map .agg
    | .tup cs => (frzDs (frzD base σ n) cs).map .tup
    | .nils => some (.sl [])
    | v => if v.noref then some v else none
where
  frzDs (f : AV → Option AV) : List AV → Option (List AV)
    | [] => some []
    | x :: r => match f x, frzDs f r with
      | some a, some b => some (a :: b)
      | _, _ => none
  frzDp (f : AV → Option AV) : List (AV × AV) → Option (List (AV × AV))
    | [] => some []
    | x :: r => match f x.2, frzDp f r with
      | some a, some b => some ((x.1, a) :: b)
      | _, _ => none
abbrev frzDs := frzD.frzDs
abbrev frzDp := frzD.frzDp
/-- What a call hands back, and which objects stay. -/
def fin (own : OwnK) (base : Nat) (v : AV) (σ : St) : Option (AV × St) :=
  match own with
  | .yes | .yesn => (match v with
    | .osl o ver n off len => if o < base then some (.osl o ver n off len, σ.take base) else match σ[o]? with
      | some (.arr v' sz es) => some (.osl base ver n off len, σ.take base ++ [Ob.arr v' sz es])
      | _ => none
    | v => if v.noref then some (v, σ.take base) else none)
  | .no => (match frz σ v with
    | some v' => if v'.noref then some (v', (kill σ v).take base) else some (v', kill σ v)
    | none => none)
  | .deep => (match frzD base σ 8 v with
    | some v' => if v'.noref then some (v', σ.take base) else none
    | none => none)
def initEnv : Nat → List AV → Env
  | _, [] => []
  | i, v :: r => (i, v) :: initEnv (i + 1) r
def leave (F : AFunc) (base : Nat) : Res → Option (AV × St)
  | some (.exit _, _, _) => none
  | some (_, env, σ) => match resVals env σ F.results with
    | some vs => fin F.own base (oneOf vs) σ
    | none => none
  | none => none
/-- Two results that are alike at sight. -/
def AV.alike : AV → AV → Bool
  | .osl o v n f l, .osl o' v' n' f' l' => o == o' && v == v' && n == n' && f == f' && l == l'
  | .sl [], .sl [] => true
  | .nils, .nils => true
  | _, _ => false
def alikes : St → St → Bool
  | [], [] => true
  | .arr v sz [] :: r, .arr v' sz' [] :: r' => v == v' && sz == sz' && alikes r r'
  | _, _ => false
def both : Option (AV × St) → Option (AV × St) → Option (AV × St)
  | some (v, s), some (v', s') => if v.alike v' && alikes s s' then some (v, s) else none
  | _, _ => none
/-- A function's body, with the first parameter as it is, or as nil and as not nil. -/
def twice (own : OwnK) (f : List AV → Option (AV × St)) (args : List AV) : Option (AV × St) := match own, args with
  | .yesn, .sl [] :: r => both (f (.nil0 :: r)) (f (.nne :: r))
  | .yesn, .nils :: r => both (f (.nil0 :: r)) (f (.nne :: r))
  | _, _ => f args
def denN (G : Nat → Option AFunc) : Nat → Nat → List AV → St → Option (AV × St)
  | 0, _, _, _ => none
  | n + 1, f, args, σ => match G f with
    | none => none
    | some F => if args.length = F.nparams then twice F.own (fun args => leave F σ.length (exec (denN G n) n σ.length F.body (initEnv 0 args) σ)) args else none
end Go.Den
