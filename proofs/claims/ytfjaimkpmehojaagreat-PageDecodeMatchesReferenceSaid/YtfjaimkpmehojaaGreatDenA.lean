import Derived.Test.YtfjaimkpmehojaaGreatDenG
import Derived.Lib.Index
import Derived.Lib.Bytealg
import Derived.Lib.Repeat
import Derived.Lib.ItoaNum
import Derived.Lib.ParseIntB
import GoSem.Core.Code
import GoSem.Core.View
import Derived.Below
import Derived.Laws.CopyRow
import Derived.Laws.Cells
import Derived.Laws.Sem
import Derived.Calls
import Derived.Laws.Entries
import Derived.Laws.Rows
import Derived.ChangeKeysEq
import Derived.Laws.StructEq
namespace Go.Den
open Go

inductive AV where
 | int (k : IntKind) (n : Int)
 | bool (b : Bool)
 | str (s : ByteArray)
 | nilp
 | rptr (cs : List AV)
 | ref (o off : Nat)
 | eref (o ver n i off : Nat)
 | nils
 | sl (es : List (List AV))
 | osl (o ver n off len : Nat)
 | fn (f : Nat) (caps : List AV)
 | nilfn
 | agg (cs : List AV)
 | tup (vs : List AV)
 | mapr (o : Nat)
 | nilmap
 | fmap (es : List (AV × AV))
 | iface (t : Nat) (v : AV)
 | nilif
 | nil0
 | nne
 | zp (t : Nat)
 | dead
 deriving Inhabited

def GC.av : GC → AV
 | .i k n => .int k n
 | .b v => .bool v
 | .s v => .str v
def GC.val : GC → Value
 | .i k n => .int k n
 | .b v => .bool v
 | .s v => .string v
inductive XName where
 | index | cmpstr | idxbyte | rep | fmtint | quote
 | parseint (t : Nat)
 | sort (c : Nat)
 deriving DecidableEq
def decF : Nat → Nat → List UInt8
 | 0, _ => []
 | f + 1, u => if u < 10 then [UInt8.ofNat (48 + u)] else decF f (u / 10) ++ [UInt8.ofNat (48 + u % 10)]
def itoaF (n : Int) : List UInt8 := if n < 0 then 45 :: decF 20 n.natAbs else decF 20 n.toNat
def plainC (c : Nat) : Bool := Nat.ble 32 c && (Nat.ble c 126 && (!(Nat.beq c 34) && !(Nat.beq c 92)))
def hexC (n : Nat) : UInt8 := UInt8.ofNat (bif Nat.blt n 10 then 48 + n else 87 + n)
def quote1 (c : UInt8) : List UInt8 := bif plainC c.toNat then [c] else [92, 120, hexC (c.toNat / 16), hexC (c.toNat % 16)]
def quoteC : List UInt8 → List UInt8
 | [] => []
 | c :: r => quote1 c ++ quoteC r
def quoteL (l : List UInt8) : List UInt8 := 34 :: (quoteC l ++ [34])
def parseR (t B : Nat) (l : List UInt8) : AV := match Lib.parseIntB B l with
 | .ok v => .tup [.int .i64 v, .nilif]
 | .range => .tup [.int .i64 (Lib.intSat B l), .iface t (.rptr [])]
 | _ => .tup [.int .i64 0, .iface t (.rptr [])]
def xIndex : List AV → Option AV
 | [.str s, .str t] => if s.size < 4294967281 then some (.int .i64 (Lib.index s.data.toList t.data.toList)) else none
 | _ => none
def xCmpstr : List AV → Option AV
 | [.str a, .str b] => some (.int .i64 (Lib.compareBytes a.data.toList b.data.toList))
 | _ => none
def xIdxbyte : List AV → Option AV
 | [.str s, .int .u8 c] => some (.int .i64 (Lib.indexByte s.data.toList c.toNat.toUInt8))
 | _ => none
def xRep : List AV → Option AV
 | [.str s, .int .i64 c] => if 0 ≤ c ∧ c ≤ 9223372036854775807 ∧ s.size * c.toNat ≤ 140737488355328 then some (.str ⟨(Lib.repeatL s.data.toList c.toNat).toArray⟩) else none
 | _ => none
def xFmtint : List AV → Option AV
 | [.int .i64 n, .int .i64 10] => if -9223372036854775808 ≤ n ∧ n ≤ 9223372036854775807 then some (.str ⟨(itoaF n).toArray⟩) else none
 | _ => none
def xParseint (t : Nat) : List AV → Option AV
 | [.str s, .int .i64 10, .int .i64 b] => if (b = 64 ∨ b = 32) ∧ s.size ≤ 281474976710656 then some (parseR t b.toNat s.data.toList) else none
 | _ => none
def xQuote : List AV → Option AV
 | [.str s] => if s.size ≤ 1000000000 then some (.str ⟨(quoteL s.data.toList).toArray⟩) else none
 | _ => none
def xsem : XName → List AV → Option AV
 | .index => xIndex
 | .cmpstr => xCmpstr
 | .idxbyte => xIdxbyte
 | .rep => xRep
 | .fmtint => xFmtint
 | .parseint t => xParseint t
 | .quote => xQuote
 | .sort _ => fun _ => none
inductive Ob where
 | cells (cs : List AV)
 | arr (ver sz : Nat) (es : List (List AV))
 | map (es : List (AV × AV))
 | dead
 | res
 deriving Inhabited
abbrev St := List Ob
structure Val where
 null : Bool
 n : Int
 s : ByteArray
deriving DecidableEq
def Val.cells (v : Val) : List AV := [.bool v.null, .int .i64 v.n, .str v.s]
def cmpB : List UInt8 → List UInt8 → Int
 | [], [] => 0
 | [], _ :: _ => -1
 | _ :: _, [] => 1
 | a :: r, b :: q => if a.toNat < b.toNat then -1 else if b.toNat < a.toNat then 1 else cmpB r q
def cmpV (a b : Val) : Int :=
 bif a.null && !b.null then -1 else
 bif !a.null && b.null then 1 else
 bif decide (a.n < b.n) then -1 else
 bif decide (b.n < a.n) then 1 else cmpB a.s.data.toList b.s.data.toList
def insV (x : Val) : List Val → List Val
 | [] => [x]
 | y :: r => if cmpV x y ≤ 0 then x :: y :: r else y :: insV x r
def sortV : List Val → List Val
 | [] => []
 | x :: r => insV x (sortV r)
def valsOf : List (List AV) → Option (List Val)
 | [] => some []
 | [.bool b, .int .i64 n, .str s] :: r => (valsOf r).map (⟨b, n, s⟩ :: ·)
 | _ => none
def xSort (c : Nat) : List AV → St → Option (AV × St)
 | [.osl o ver n off len, .fn f []], σ => match σ[o]? with
  | some (.arr ver' sz es) => if f = c ∧ ver' = ver ∧ es.length = n ∧ sz = 3 ∧ off + len ≤ n ∧ n < 4611686018427387904 then
   (valsOf ((es.drop off).take len)).map fun vs => (.tup [], σ.set o (.arr ver' sz (es.take off ++ ((sortV vs).map Val.cells ++ es.drop (off + len))))) else none
  | _ => none
 | _, _ => none
def xrun (x : XName) (args : List AV) (σ : St) : Option (AV × St) := match x with
 | .sort c => xSort c args σ
 | x => (xsem x args).map fun r => (r, σ)
abbrev Env := List (Nat × AV)

def Env.get : Env → Nat → AV
 | [], _ => .dead
 | (a, v) :: r, t => if a = t then v else Env.get r t

inductive Opd where
 | t (n : Nat)
 | c (v : AV)
def ev (env : Env) : Opd → AV
 | .t n => env.get n
 | .c v => v

def AV.scalar : AV → Bool
 | .agg _ | .tup _ | .dead => false
 | _ => true
def AV.noref : AV → Bool
 | .ref .. | .eref .. | .osl .. | .mapr _ | .dead => false
 | .fn _ caps => norefs caps
 | .agg cs => norefs cs
 | .tup vs => norefs vs
 | .iface _ v => v.noref
 | _ => true
where norefs : List AV → Bool
 | [] => true
 | x :: r => x.noref && norefs r
abbrev norefs := AV.noref.norefs
def AV.under (m : Nat) : AV → Bool
 | .ref o _ | .eref o _ _ _ _ | .osl o _ _ _ _ | .mapr o => decide (o < m)
 | .fn _ caps => unders m caps
 | .agg cs => unders m cs
 | .tup vs => unders m vs
 | .iface _ v => v.under m
 | _ => true
where unders (m : Nat) : List AV → Bool
 | [] => true
 | x :: r => x.under m && unders m r
abbrev unders := AV.under.unders
def AV.norm : AV → AV
 | .nils => .sl []
 | .agg cs => .agg (norms cs)
 | .tup vs => .tup (norms vs)
 | v => v
where norms : List AV → List AV
 | [] => []
 | x :: r => x.norm :: norms r
abbrev norms := AV.norm.norms
def AV.shift (k : Nat) : AV → AV
 | .ref o off => .ref (k + o) off
 | .eref o v n i off => .eref (k + o) v n i off
 | .osl o v n off len => .osl (k + o) v n off len
 | .mapr o => .mapr (k + o)
 | .fn f caps => .fn f (shifts k caps)
 | .agg cs => .agg (shifts k cs)
 | .tup vs => .tup (shifts k vs)
 | .iface t v => .iface t (v.shift k)
 | v => v
where shifts (k : Nat) : List AV → List AV
 | [] => []
 | x :: r => x.shift k :: shifts k r
abbrev shifts := AV.shift.shifts
def shiftPs (k : Nat) : List (AV × AV) → List (AV × AV)
 | [] => []
 | (a, b) :: r => (a.shift k, b.shift k) :: shiftPs k r
def Ob.shift (k : Nat) : Ob → Ob
 | .cells cs => .cells (shifts k cs)
 | .arr v sz es => .arr v sz es
 | .map es => .map (shiftPs k es)
 | .dead => .dead
 | .res => .res
def shiftSt (k : Nat) : St → St
 | [] => []
 | x :: r => x.shift k :: shiftSt k r

def AV.cellsOf : AV → List AV
 | .agg cs => cs
 | v => [v]
def AV.isAgg : AV → Bool
 | .agg _ => true
 | _ => false
def over (zs : List AV) (off : Nat) (cs : List AV) : List AV := zs.take off ++ cs ++ zs.drop (off + cs.length)
def front (agg : Bool) (sz : Nat) (cs : List AV) : Option AV :=
 if sz ≤ cs.length then (if agg then some (.agg (cs.take sz)) else cs.head?) else none

inductive CK where
 | i | b | s
 deriving DecidableEq
def eqB : CK → AV → AV → Option Bool
 | .i, .int k a, .int k' b => if k = k' then some (decide (a = b)) else none
 | .b, .bool a, .bool b => some (a == b)
 | .s, .str a, .str b => some (decide (a = b))
 | _, _, _ => none
def eqCells : List CK → List AV → List AV → Option Bool
 | [], [], [] => some true
 | k :: ks, x :: xs, y :: ys => match eqB k x y, eqCells ks xs ys with
  | some a, some b => some (a && b)
  | _, _ => none
 | _, _, _ => none
inductive EK where
 | num | bool | ptr | fn | slc | agg (ks : List CK)
 deriving DecidableEq
def eq2 : EK → AV → AV → Option Bool
 | .num, .int k a, .int k' b => if k = k' then some (decide (a = b)) else none
 | .num, .str a, .str b => some (decide (a = b))
 | .bool, .bool a, .bool b => some (a == b)
 | .agg ks, .agg xs, .agg ys => eqCells ks xs ys
 | .ptr, .nilp, .nilp => some true
 | .ptr, .nilp, .rptr _ => some false
 | .ptr, .nilp, .ref .. => some false
 | .ptr, .nilp, .eref .. => some false
 | .ptr, .rptr _, .nilp => some false
 | .ptr, .ref .., .nilp => some false
 | .ptr, .eref .., .nilp => some false
 | .fn, .nilfn, .nilfn => some true
 | .fn, .nilfn, .fn .. => some false
 | .fn, .fn .., .nilfn => some false
 | .slc, .nil0, .nil0 => some true
 | .slc, .nne, .nil0 => some false
 | .slc, .sl (_ :: _), .nil0 => some false
 | _, _, _ => none
def bin (op : BinOp) (kd : EK) (x y : AV) : Option AV :=
 match op, x, y with
 | .eql, x, y => (eq2 kd x y).map .bool
 | .neq, x, y => (eq2 kd x y).map fun b => .bool (!b)
 | .lss, .int k a, .int k' b => if k = k' then some (.bool (decide (a < b))) else none
 | .leq, .int k a, .int k' b => if k = k' then some (.bool (decide (a ≤ b))) else none
 | .gtr, .int k a, .int k' b => if k = k' then some (.bool (decide (b < a))) else none
 | .geq, .int k a, .int k' b => if k = k' then some (.bool (decide (b ≤ a))) else none
 | .add, .int k a, .int k' b => if k = k' then some (.int k (k.wrap (a + b))) else none
 | .sub, .int k a, .int k' b => if k = k' then some (.int k (k.wrap (a - b))) else none
 | .mul, .int k a, .int k' b => if k = k' then some (.int k (k.wrap (a * b))) else none
 | .quo, .int k a, .int k' b => if k = k' ∧ b ≠ 0 then some (.int k (k.wrap (a.tdiv b))) else none
 | .rem, .int k a, .int k' b => if k = k' ∧ b ≠ 0 then some (.int k (a.tmod b)) else none
 | .and, .int k a, .int k' b => if k = k' then some (.int k (k.wrap (BitVec.ofInt k.bits a &&& BitVec.ofInt k.bits b).toNat)) else none
 | .or, .int k a, .int k' b => if k = k' then some (.int k (k.wrap (BitVec.ofInt k.bits a ||| BitVec.ofInt k.bits b).toNat)) else none
 | .xor, .int k a, .int k' b => if k = k' then some (.int k (k.wrap (BitVec.ofInt k.bits a ^^^ BitVec.ofInt k.bits b).toNat)) else none
 | .shl, .int k a, .int _ b => if 0 ≤ b then some (.int k (k.wrap (a * 2 ^ (min b.toNat k.bits)))) else none
 | .shr, .int k a, .int _ b => if 0 ≤ b then some (.int k (a.fdiv (2 ^ (min b.toNat k.bits)))) else none
 | .add, .str a, .str b => if a.size + b.size ≤ 9223372036854775807 then some (.str (a ++ b)) else none
 | _, _, _ => none

inductive AOp where
 | mov (x : Opd)
 | movp (sz : Nat) (x : Opd)
 | movf (x : Opd)
 | pick (c a b : Opd)
 | alloc (zs : List AV) (prs : List (Nat × Nat))
 | box (ro : Bool) (sz : Nat) (x : Opd)
 | build (zs : List AV) (parts : List (Nat × Nat × Opd))
 | buildp (zs : List AV) (parts : List (Nat × Nat × Opd)) (prs : List (Nat × Nat))
 | lit (pr : Bool) (sz : Nat) (zs : List AV) (len : Nat) (parts : List (Nat × Opd))
 | load (agg : Bool) (sz : Nat) (x : Opd)
 | store (sz : Nat) (x y : Opd)
 | storep (sz : Nat) (x y : Opd) (prs : List (Nat × Nat))
 | nilchk (x : Opd)
 | boxz (t : Nat) (x : Opd)
 | fldz (t : Nat) (x : Opd)
 | bin (op : BinOp) (kd : EK) (x y : Opd)
 | not (x : Opd)
 | convi (k : IntKind) (x : Opd)
 | fld (off : Nat) (x : Opd)
 | field (agg : Bool) (off sz : Nat) (x : Opd)
 | idxa (sz : Nat) (x i : Opd)
 | idxarr (len sz : Nat) (x i : Opd)
 | index (x i : Opd)
 | extract (x : Opd) (i : Nat)
 | len (str : Bool) (x : Opd)
 | append (pr : Bool) (sz bytes : Nat) (x y : Opd)
 | slice (sz : Nat) (x : Opd) (lo hi mx : Option Opd)
 | sstr (x : Opd) (lo hi : Option Opd)
 | min (x y : Opd)
 | max (x y : Opd)
 | mkfn (f : Nat) (caps : List Opd)
 | mkmap (r : Option Opd)
 | lookup (ag : Bool) (ks : List CK) (zero : AV) (ok : Bool) (x i : Opd)
 | mapupd (ag : Bool) (ks : List CK) (m k v : Opd)
 | clear (sz : Nat) (zs : List AV) (x : Opd)
 | tobytes (x : Opd)
 | tostr (x : Opd)
 | copy (sz : Nat) (x y : Opd)
 | mm3 (mx : Bool) (x y z : Opd)
 | isnil (ng : Bool) (x : Opd)
 | mark (x : Opd)
 | movo (d : Nat) (x : Opd)
 | gload (agg : Bool) (sz g : Nat)
 | mksl (sz bytes : Nat) (zs : List AV) (l c : Opd)
 | bad
 | call (mode : Nat) (f : Nat) (args : List Opd)
 | callv (x : Opd) (args : List Opd)
 | mkif (t : Nat) (x : Opd)
 | inv (tbl : List (Nat × Nat)) (x : Opd) (args : List Opd)
 | slot (d : Nat) (op : AOp)

structure AOper where
 dst : Option Nat
 op : AOp
 guard : Option (Nat × Bool)

inductive ACode where
 | skip
 | region (ops : List AOper) (live : List Nat)
 | dregion (ops : List AOper) (unord : List (Nat × Nat)) (live : List Nat)
 | xregion (res : Nat) (ops : List AOper) (unord : List (Nat × Nat)) (live : List Nat)
 | freg (t : Nat) (c : ACode)
 | seq (a b : ACode)
 | cond (c : Opd) (a b : ACode)
 | block (id : Nat) (c : ACode)
 | loop (keep : Nat) (live : List Nat) (c : ACode)
 | exit (id : Nat)
 | ret
 | ext (x : XName)

inductive ARes where
 | t (n : Nat)
 | cell (n : Nat) (agg : Bool) (sz : Nat)
inductive OwnK where
 | no | yes | deep | yesn | keep
 deriving DecidableEq
structure AFunc where
 nparams : Nat
 own : OwnK
 results : List ARes
 body : ACode
def AFunc.ex (F : AFunc) : Option XName := match F.body with
 | .ext x => some x
 | _ => none

inductive Ex where
 | normal
 | exit (id : Nat)
 | ret
 deriving DecidableEq

def deref (σ : St) : AV → Option (List AV × Bool)
 | .rptr cs => some (cs, false)
 | .zp _ => some ([], false)
 | .ref o off => match σ[o]? with
  | some (.cells cs) => some (cs.drop off, true)
  | _ => none
 | .eref o ver n i off => match σ[o]? with
  | some (.arr ver' _ es) => if ver' = ver ∧ es.length = n then (match es[i]? with
   | some e => some (e.drop off, true)
   | none => none) else none
  | _ => none
 | _ => none
def szOK (sz : Nat) (es : List (List AV)) : Prop := ∀ e ∈ es, e.length = sz
def szOKb (sz : Nat) : List (List AV) → Bool
 | [] => true
 | e :: r => e.length == sz && szOKb sz r
theorem szOKb_iff (sz : Nat) (es : List (List AV)) : szOKb sz es = true ↔ szOK sz es := by
 induction es with
 | nil => simp [szOKb, szOK]
 | cons e r ih => simp [szOKb, szOK] at ih ⊢; intro _; exact ih
instance (sz : Nat) (es : List (List AV)) : Decidable (szOK sz es) := decidable_of_iff _ (szOKb_iff sz es)
def elems (σ : St) : AV → Option (List (List AV) × Bool)
 | .nils | .nil0 | .nne => some ([], false)
 | .sl es => some (es, false)
 | .osl o ver n off len => match σ[o]? with
  | some (.arr ver' _ es) => if ver' = ver ∧ es.length = n ∧ off + len ≤ n then some ((es.drop off).take len, true) else none
  | _ => none
 | _ => none

def frzCells (cs : List AV) : Option (List AV) := if norefs cs = true then some (norms cs) else none
def frzElems : List (List AV) → Option (List (List AV))
 | [] => some []
 | e :: r => match frzCells e, frzElems r with
  | some e', some r' => some (e' :: r')
  | _, _ => none
def frz (σ : St) : AV → Option AV
 | .osl o ver n off len => (elems σ (.osl o ver n off len)).map fun x => .sl x.1
 | .agg cs => (frzs σ cs).map .agg
 | .tup cs => (frzs σ cs).map .tup
 | .nils => some (.sl [])
 | v => some v
where frzs (σ : St) : List AV → Option (List AV)
 | [] => some []
 | x :: r => match frz σ x, frzs σ r with
  | some a, some b => some (a :: b)
  | _, _ => none
abbrev frzs := frz.frzs
def kill (σ : St) : AV → St
 | .osl o _ _ _ _ => σ.set o .dead
 | .agg cs => kills σ cs
 | .tup cs => kills σ cs
 | _ => σ
where kills (σ : St) : List AV → St
 | [] => σ
 | x :: r => kills (kill σ x) r
abbrev kills := kill.kills

def evs (env : Env) : List Opd → List AV
 | [] => []
 | x :: r => ev env x :: evs env r

def fillParts (env : Env) : List (Nat × Nat × Opd) → List AV → Option (List AV)
 | [], zs => some zs
 | (off, size, x) :: r, zs =>
  let cs := (ev env x).cellsOf
  if cs.length = size ∧ off + size ≤ zs.length ∧ cs.all AV.scalar then fillParts env r (over zs off cs) else none
def chop (sz : Nat) : Nat → List AV → List (List AV)
 | 0, _ => []
 | n + 1, cs => cs.take sz :: chop sz n (cs.drop sz)
def zerosN (zs : List AV) : Nat → List AV
 | 0 => []
 | n + 1 => zs ++ zerosN zs n
def litParts (sz : Nat) : List (Nat × Opd) → List (Nat × Nat × Opd)
 | [] => []
 | (i, x) :: r => (i * sz, sz, x) :: litParts sz r

def AV.refsIn (old : List AV) : AV → Bool
 | .osl o _ _ _ _ => old.any fun | .osl o' _ _ _ _ => o == o' | _ => false
 | v => v.noref
def storable (base o : Nat) (old : List AV) (cs : List AV) : Prop := base ≤ o ∨ cs.all (fun x => x.under (o + 1) || x.refsIn old) = true
instance (base o : Nat) (old cs : List AV) : Decidable (storable base o old cs) := by unfold storable; exact inferInstance

def asInt : AV → Option Int
 | .int _ n => some n
 | _ => none
def bound (env : Env) (d : Nat) : Option Opd → Option Nat
 | none => some d
 | some x => match ev env x with
  | .int _ n => if 0 ≤ n then some n.toNat else none
  | _ => none

def keyEq (ag : Bool) (ks : List CK) : AV → AV → Option Bool
 | .agg xs, .agg ys => if ag then eqCells ks xs ys else none
 | x, y => if ag then none else eqCells ks [x] [y]
def keyOk (ag : Bool) (ks : List CK) (k : AV) : Bool := (keyEq ag ks k k).isSome
def mfind (ag : Bool) (ks : List CK) (k : AV) : List (AV × AV) → Option (Option AV)
 | [] => some none
 | (a, v) :: r => match keyEq ag ks k a with
  | some true => some (some v)
  | some false => mfind ag ks k r
  | none => none
def mput (ag : Bool) (ks : List CK) (k v : AV) : List (AV × AV) → Option (List (AV × AV))
 | [] => some [(k, v)]
 | (a, u) :: r => match keyEq ag ks k a with
  | some true => some ((a, v) :: r)
  | some false => (mput ag ks k v r).map ((a, u) :: ·)
  | none => none

def strOf : List (List AV) → Option (List UInt8)
 | [] => some []
 | [.int .u8 n] :: r => (strOf r).map (UInt8.ofNat n.toNat :: ·)
 | _ => none
def srcOf (σ : St) (sz : Nat) : AV → Option (List (List AV) × Bool)
 | .str s => if sz = 1 then some (s.data.toList.map (fun b => [AV.int .u8 b.toNat]), false) else none
 | v => elems σ v
def mapOf (σ : St) : AV → Option (List (AV × AV) × Bool)
 | .nilmap => some ([], false)
 | .fmap es => some (es, false)
 | .mapr o => match σ[o]? with
  | some (.map es) => some (es, true)
  | _ => none
 | _ => none
abbrev Out := Option (AV × St × Bool)
def mm (mx : Bool) (a b : Int) : Int := if mx then (if a < b then b else a) else (if b < a then b else a)
def promos : List (Nat × Nat) → List AV → St → Option (List AV × St)
 | [], cs, σ => some (cs, σ)
 | (i, sz) :: r, cs, σ => match cs[i]? with
  | some .nils => if 0 < sz then promos r (cs.set i (.osl σ.length 0 0 0 0)) (σ ++ [Ob.arr 0 sz []]) else none
  | _ => none
def step (base : Nat) (op : AOp) (env : Env) (σ : St) : Out :=
 match op with
 | .mov x => some (ev env x, σ, false)
 | .movp sz x => match ev env x with
  | .nils => if 0 < sz then some (.osl σ.length 0 0 0 0, σ ++ [Ob.arr 0 sz []], true) else none
  | _ => none
 | .pick c a b => match ev env c with
  | .bool t => some (if t then ev env a else ev env b, σ, false)
  | _ => none
 | .alloc zs prs => (promos prs zs σ).map fun x => (.ref x.2.length 0, x.2 ++ [Ob.cells x.1], true)
 | .box ro sz x =>
  let cs := (ev env x).cellsOf
  if cs.length = sz ∧ cs.all AV.scalar then
   (if ro then (if norefs cs = true then some (.rptr cs, σ, false) else none)
    else some (.ref σ.length 0, σ ++ [Ob.cells cs], true))
  else none
 | .build zs parts => (fillParts env parts zs).map fun cs => (.agg cs, σ, false)
 | .buildp zs parts prs => match fillParts env parts zs with
  | some cs => (promos prs cs σ).map fun x => (.agg x.1, x.2, true)
  | none => none
 | .lit pr sz zs len parts => match (fillParts env (litParts sz parts) (zerosN zs len)).bind (fun cs => frzElems (chop sz len cs)) with
  | some es => if pr then (if 0 < sz then some (.osl σ.length 0 len 0 len, σ ++ [Ob.arr 0 sz es], true) else none)
   else some (if len = 0 then .nils else .sl es, σ, false)
  | none => none
 | .load agg sz x => match deref σ (ev env x) with
  | some (cs, t) => (front agg sz cs).map fun v => (v, σ, t)
  | none => none
 | .store sz x y =>
  let ys := (ev env y).cellsOf
  if ys.length = sz ∧ ys.all AV.scalar then
   match ev env x with
   | .ref o off => match σ[o]? with
    | some (.cells cs) => if off + sz ≤ cs.length ∧ storable base o cs ys then some (.dead, σ.set o (.cells (over cs off ys)), true) else none
    | _ => none
   | .eref o ver n i off => match σ[o]? with
    | some (.arr ver' sz' es) => if ver' = ver ∧ es.length = n then (match es[i]? with
     | some e => if off + sz ≤ e.length then (match frzCells ys with
      | some zs => some (.dead, σ.set o (.arr ver' sz' (es.set i (over e off zs))), true)
      | none => none) else none
     | none => none) else none
    | _ => none
   | _ => none
  else none
 | .storep sz x y prs => match ev env y with
  | .agg ys => match promos prs ys σ with
   | some (ys', σ') => if ys'.length = sz ∧ ys'.all AV.scalar then (match ev env x with
     | .ref o off => match σ'[o]? with
      | some (.cells cs) => if off + sz ≤ cs.length ∧ storable base o cs ys' then some (.dead, σ'.set o (.cells (over cs off ys')), true) else none
      | _ => none
     | _ => none) else none
   | none => none
  | _ => none
 | .boxz t x => if (ev env x).cellsOf.isEmpty then some (.zp t, σ, false) else none
 | .fldz t x => match ev env x with
  | .zp t' => if t' = t then some (.zp t, σ, false) else none
  | _ => none
 | .nilchk x => match ev env x with
  | .rptr cs => some (.rptr cs, σ, false)
  | .ref o off => some (.ref o off, σ, false)
  | .eref o v n i off => some (.eref o v n i off, σ, false)
  | .fn f caps => some (.fn f caps, σ, false)
  | _ => none
 | .bin op kd x y => (bin op kd (ev env x) (ev env y)).map fun v => (v, σ, false)
 | .not x => match ev env x with
  | .bool b => some (.bool (!b), σ, false)
  | _ => none
 | .convi k x => match ev env x with
  | .int _ n => some (.int k (k.wrap n), σ, false)
  | _ => none
 | .fld off x => match ev env x with
  | .rptr cs => if off ≤ cs.length then some (.rptr (cs.drop off), σ, false) else none
  | .ref o f => some (.ref o (f + off), σ, false)
  | .eref o v n i f => some (.eref o v n i (f + off), σ, false)
  | _ => none
 | .field agg off sz x => match ev env x with
  | .agg cs => (front agg sz (cs.drop off)).map fun v => (v, σ, false)
  | _ => none
 | .idxa sz x i => match ev env x, ev env i with
  | .sl es, .int _ i => if 0 ≤ i then (match es[i.toNat]? with
   | some e => if e.length = sz then some (.rptr e, σ, false) else none
   | none => none) else none
  | .osl o ver n off len, .int _ i => match σ[o]? with
   | some (.arr ver' sz' es) => if ver' = ver ∧ es.length = n ∧ sz' = sz ∧ 0 ≤ i ∧ i.toNat < len ∧ off + len ≤ n then some (.eref o ver n (off + i.toNat) 0, σ, true) else none
   | _ => none
  | _, _ => none
 | .idxarr len sz x i => match ev env x, ev env i with
  | .rptr cs, .int _ i => if 0 ≤ i ∧ i.toNat < len ∧ i.toNat * sz ≤ cs.length then some (.rptr (cs.drop (i.toNat * sz)), σ, false) else none
  | .ref o f, .int _ i => if 0 ≤ i ∧ i.toNat < len then some (.ref o (f + i.toNat * sz), σ, false) else none
  | _, _ => none
 | .index x i => match ev env x, ev env i with
  | .str s, .int _ i => if 0 ≤ i then (match s.data[i.toNat]? with
   | some b => some (.int .u8 b.toNat, σ, false)
   | none => none) else none
  | _, _ => none
 | .extract x i => match ev env x with
  | .tup vs => (vs[i]?).map fun v => (v, σ, false)
  | _ => none
 | .len str x => if str then (match ev env x with
   | .str s => some (.int .i64 s.size, σ, false)
   | _ => none)
  else (elems σ (ev env x)).map fun r => (.int .i64 r.1.length, σ, r.2)
 | .append pr sz bytes x y =>
  match srcOf σ sz (ev env y) with
  | none => none
  | some (ys, t) =>
   if szOK sz ys ∧ 0 < sz then
    match ev env x with
    | .nils => if ys.length * bytes ≤ 140737488355328 then
      (if pr then some (.osl σ.length 0 ys.length 0 ys.length, σ ++ [Ob.arr 0 sz ys], true) else some (.sl ys, σ, t)) else none
    | .osl o ver n off len => match σ[o]? with
     | some (.arr ver' sz' es) =>
      if ver' = ver ∧ es.length = n ∧ sz' = sz ∧ off + len ≤ n ∧ (len + ys.length) * bytes ≤ 140737488355328 then
       (if off = 0 ∧ len = n then some (.osl o ver (n + ys.length) 0 (n + ys.length), σ.set o (.arr ver sz (es ++ ys)), true)
        else some (.osl o (ver + 1) (len + ys.length) 0 (len + ys.length), σ.set o (.arr (ver + 1) sz ((es.drop off).take len ++ ys)), true))
      else none
     | _ => none
    | _ => none
   else none
 | .slice sz x lo hi mx => match ev env x with
  | .nils => match bound env 0 lo, bound env 0 hi, bound env 0 mx with
   | some 0, some 0, some 0 => some (.nils, σ, false)
   | _, _, _ => none
  | .sl es => match bound env 0 lo, bound env es.length hi with
   | some l, some h => if l ≤ h ∧ h ≤ es.length ∧ szOK sz es then
     (match mx with
      | none => some (.sl ((es.drop l).take (h - l)), σ, false)
      | some m => match bound env 0 (some m) with
       | some m => if h ≤ m ∧ m ≤ es.length then some (if l = m then .nils else .sl ((es.drop l).take (h - l)), σ, false) else none
       | none => none)
     else none
   | _, _ => none
  | .osl o ver n off len => match σ[o]? with
   | some (.arr ver' sz' es) => if ver' = ver ∧ es.length = n ∧ sz' = sz ∧ off + len ≤ n then
    (match bound env 0 lo, bound env len hi, mx with
     | some l, some h, none => if l ≤ h ∧ h ≤ len then some (.osl o ver n (off + l) (h - l), σ, true) else none
     | _, _, _ => none) else none
   | _ => none
  | _ => none
 | .sstr x lo hi => match ev env x with
  | .str s => match bound env 0 lo, bound env s.size hi with
   | some l, some h => if l ≤ h ∧ h ≤ s.size then some (.str (s.extract l h), σ, false) else none
   | _, _ => none
  | _ => none
 | .min x y => match ev env x, ev env y with
  | .int k a, .int k' b => if k = k' then some (.int k (if b < a then b else a), σ, false) else none
  | _, _ => none
 | .max x y => match ev env x, ev env y with
  | .int k a, .int k' b => if k = k' then some (.int k (if a < b then b else a), σ, false) else none
  | _, _ => none
 | .mkfn f caps => let cs := evs env caps
  if cs.all AV.scalar then some (.fn f cs, σ, false) else none
 | .mkmap r => match bound env 0 r with
  | some _ => some (.mapr σ.length, σ ++ [Ob.map []], true)
  | none => none
 | .lookup ag ks zero ok x i =>
  match mapOf σ (ev env x) with
  | some (es, t) => if keyOk ag ks (ev env i) then (match mfind ag ks (ev env i) es with
   | some (some v) => some (if ok then .tup [v, .bool true] else v, σ, t)
   | some none => some (if ok then .tup [zero, .bool false] else zero, σ, t)
   | none => none) else none
  | none => none
 | .mapupd ag ks m k v => match ev env m with
  | .mapr o => match σ[o]? with
   | some (.map es) => if keyOk ag ks (ev env k) then (match mput ag ks (ev env k) (ev env v) es with
    | some es' => if (ev env v).noref ∨ base ≤ o then some (.dead, σ.set o (.map es'), true) else none
    | none => none) else none
   | _ => none
  | _ => none
 | .clear sz zs x => match ev env x with
  | .nils | .sl [] => some (.tup [], σ, false)
  | .osl o ver n off len => match σ[o]? with
   | some (.arr ver' sz' es) => if ver' = ver ∧ es.length = n ∧ sz' = sz ∧ zs.length = sz ∧ off + len ≤ n then (match frzCells zs with
    | some z => some (.tup [], σ.set o (.arr ver' sz' (es.take off ++ List.replicate len z ++ es.drop (off + len))), true)
    | none => none) else none
   | _ => none
  | _ => none
 | .tobytes x => match ev env x with
  | .str s => some (.sl (s.data.toList.map fun b => [AV.int .u8 b.toNat]), σ, false)
  | _ => none
 | .tostr x => match elems σ (ev env x) with
  | some (ys, t) => (strOf ys).map fun l => (.str ⟨l.toArray⟩, σ, t)
  | none => none
 | .copy sz x y => match ev env x with
  | .osl o ver n off len => match σ[o]?, srcOf σ sz (ev env y) with
   | some (.arr ver' sz' es), some (ys, _) => if ver' = ver ∧ es.length = n ∧ sz' = sz ∧ off + len ≤ n ∧ ys.length ≤ len ∧ szOKb sz ys = true then some (.int .i64 ys.length, σ.set o (.arr ver' sz' (es.take off ++ (ys ++ es.drop (off + ys.length)))), true)
    else if ver' = ver ∧ es.length = n ∧ sz' = sz ∧ off + len ≤ n ∧ szOKb sz ys = true ∧ len < ys.length then some (.int .i64 len, σ.set o (.arr ver' sz' (es.take off ++ (ys.take len ++ es.drop (off + len)))), true) else none
   | _, _ => none
  | _ => none
 | .movo d x => match env.get d, ev env x with
  | .osl o1 _ _ _ _, .osl o2 v2 n off len => match σ[o1]?, σ[o2]? with
   | some (.arr w1 sz1 _), some (.arr w2 sz2 es) => if o1 ≠ o2 ∧ sz1 = sz2 ∧ w2 = v2 ∧ es.length = n ∧ off + len ≤ n then some (.osl o1 (w1 + 1) n off len, (σ.set o1 (.arr (w1 + 1) sz2 es)).set o2 .dead, true) else none
   | _, _ => none
  | _, _ => none
 | .mark x => match ev env x with
  | .osl o ver n off len => match σ[o]? with
   | some (.arr ver' _ es) => if ver' = ver ∧ es.length = n ∧ off = 0 ∧ len = n ∧ 0 < n then some (.sl es, σ.set o .dead, true) else none
   | _ => none
  | _ => none
 | .isnil ng x => match ev env x with
  | .nilif => some (.bool (!ng), σ, false)
  | .iface _ _ => some (.bool ng, σ, false)
  | _ => none
 | .mm3 mx x y z => match ev env x, ev env y, ev env z with
  | .int k a, .int k' b, .int k'' c => if k = k' ∧ k = k'' then some (.int k (mm mx (mm mx a b) c), σ, false) else none
  | _, _, _ => none
 | .gload agg sz g => match globs g with
  | some gs => (front agg sz (gs.map GC.av)).map fun v => (v, σ, false)
  | none => none
 | .mksl sz bytes zs l c => match ev env l, ev env c with
  | .int _ l, .int _ c => if 0 < sz ∧ 0 ≤ l ∧ l ≤ c ∧ c * bytes ≤ 140737488355328 then (match frzCells zs with
   | some z => some (.osl σ.length 0 l.toNat 0 l.toNat, σ ++ [Ob.arr 0 sz (List.replicate l.toNat z)], true)
   | none => none) else none
  | _, _ => none
 | .mkif t x => if (ev env x).noref then some (.iface t (ev env x), σ, false) else none
 | .bad => none
 | .call .. => none
 | .callv .. => none
 | .inv .. => none
 | .slot .. => none
 | .movf .. => none

def callOp (call : Nat → List AV → St → Option (AV × St)) (mode f : Nat) (args : List AV) (σ : St) : Out :=
 match (if mode = 1 then some (args, σ) else if mode = 2 then (frzs σ args).map (fun a => (a, kills σ args)) else some (norms args, σ)) with
 | none => none
 | some (as, σ1) =>
  if norefs as = true then
   match call f as [] with
   | none => none
   | some (r, σr) => if r.noref && σr.isEmpty then some (r, σ1, mode == 2) else some (r.shift σ1.length, σ1 ++ shiftSt σ1.length σr, true)
  else match call f as σ1 with
   | none => none
   | some (r, σ') => some (r, σ', true)
def oslIn : AV → List Nat
 | .osl o _ _ _ _ => [o]
 | .agg cs => oslIns cs
 | .tup cs => oslIns cs
 | _ => []
where oslIns : List AV → List Nat
 | [] => []
 | x :: r => oslIn x ++ oslIns r
abbrev oslIns := oslIn.oslIns
def AV.bare : AV → Bool
 | .int _ _ | .bool _ | .str _ => true
 | .agg cs => bares cs
 | .tup vs => bares vs
 | _ => false
where bares : List AV → Bool
 | [] => true
 | x :: r => x.bare && bares r
abbrev bares := AV.bare.bares
def viewOp (call : Nat → List AV → St → Option (AV × St)) (f : Nat) (args : List AV) (σ : St) : Out :=
 if (oslIns args).length ≤ 1 then (frzs σ args).bind fun as => if norefs as = true then (call f as []).bind fun q => if q.1.bare && q.2.isEmpty then some (q.1, σ, !(oslIns args).isEmpty) else none else none else none
def callX (call : Nat → List AV → St → Option (AV × St)) (mode f : Nat) (args : List AV) (σ : St) : Out :=
 if mode = 3 then viewOp call f args σ else if (mode == 4 && !norefs (norms args)) = true then none else callOp call mode f args σ
def Ob.under (m : Nat) : Ob → Bool
 | .cells cs => unders m cs
 | .map es => es.all fun x => x.1.under m && x.2.under m
 | _ => true
def fillAt (base d : Nat) (σ : St) : Out → Out
 | some (v, σ', _) => if σ'.length = σ.length then some (v, σ', true) else
  match σ'[σ.length]?, σ[σ.length - d]? with
  | some ob, some .res => if base ≤ σ.length - d ∧ ob.under σ.length = true then (match v with
    | .ref _ off => some (.ref (σ.length - d) off, σ.set (σ.length - d) ob, true)
    | .osl _ ver n off len => some (.osl (σ.length - d) ver n off len, σ.set (σ.length - d) ob, true)
    | _ => none) else none
  | _, _ => none
 | none => none
def tlook : List (Nat × Nat) → Nat → Option Nat
 | [], _ => none
 | (t, f) :: r, u => if t = u then some f else tlook r u
def invOf (tbl : List (Nat × Nat)) : AV → List AV → Option (Nat × List AV)
 | .iface t v, as => (tlook tbl t).map fun f => (f, v :: as)
 | _, _ => none
def stepC (call : Nat → List AV → St → Option (AV × St)) (base : Nat) (op : AOp) (env : Env) (σ : St) : Out :=
 match op with
 | .call mode f args => callX call mode f (evs env args) σ
 | .callv x args => match ev env x with
  | .fn f caps => callOp call 0 f (evs env args ++ caps) σ
  | _ => none
 | .inv tbl x args => match invOf tbl (ev env x) (evs env args) with
  | some (f, as) => callOp call 0 f as σ
  | none => none
 | .slot d op => fillAt base d σ (step base op env σ)
 | .movf x => match frz σ (ev env x) with
  | some v => some (v, kill σ (ev env x), true)
  | none => none
 | op => step base op env σ
def Env.put (env : Env) (dst : Option Nat) (v : AV) : Env := match dst with
 | some d => (d, v) :: env
 | none => env
def wanted (env : Env) : Option (Nat × Bool) → Option Bool
 | none => some true
 | some (t, want) => match env.get t with
  | .bool b => some (b == want)
  | .tup [] => some false
  | _ => none
def runOps (call : Nat → List AV → St → Option (AV × St)) (base : Nat) : List AOper → Env → St → Option (Env × St)
 | [], env, σ => some (env, σ)
 | o :: ops, env, σ => match wanted env o.guard with
  | some true => match stepC call base o.op env σ with
   | some (v, σ', _) => runOps call base ops (env.put o.dst v) σ'
   | none => none
  | some false => runOps call base ops (env.put o.dst (.tup [])) σ
  | none => none
abbrev Foot := Option (Bool × Nat)
def objOf : AV → Option Nat
 | .ref o _ => some o
 | .eref o _ _ _ _ => some o
 | .osl o _ _ _ _ => some o
 | _ => none
def plainS : AV → Bool
 | .nils | .sl _ | .str _ => true
 | _ => false
def slotable : AOp → Bool
 | .alloc _ prs => prs.isEmpty
 | .box ro _ _ => !ro
 | .lit pr _ _ _ _ => pr
 | .append pr _ _ _ _ => pr
 | .movp _ _ => true
 | _ => false
def footApp (n d : Nat) (x y : AV) : Foot := if plainS y then (match x with
  | .nils => some (false, n - d)
  | v => (objOf v).map fun o => (false, o)) else none
def footSlot (n d : Nat) (env : Env) : AOp → Foot
 | .append pr _ _ x y => if pr then footApp n d (ev env x) (ev env y) else none
 | op => if slotable op then some (false, n - d) else none
def footOf (op : AOp) (env : Env) (n : Nat) : Foot := match op with
 | .load _ _ x => (objOf (ev env x)).map fun o => (true, o)
 | .len _ x => (objOf (ev env x)).map fun o => (true, o)
 | .idxa _ x _ => (objOf (ev env x)).map fun o => (true, o)
 | .slice _ x _ _ _ => (objOf (ev env x)).map fun o => (true, o)
 | .store _ x _ => (objOf (ev env x)).map fun o => (false, o)
 | .append _ _ _ x y => if plainS (ev env y) then (objOf (ev env x)).map (fun o => (false, o)) else none
 | .slot d op => footSlot n d env op
 | .call mode _ args => if mode = 3 then (match oslIns (evs env args) with | o :: _ => some (true, o) | [] => none) else if mode = 4 then some (false, n) else none
 | _ => none
def apart : Foot → Foot → Bool
 | some (true, a), some (false, b) => !(a == b)
 | _, _ => false
def runD (call : Nat → List AV → St → Option (AV × St)) (base : Nat) : List AOper → Nat → Env → St → List (Nat × Foot) → Option (Env × St × List (Nat × Foot))
 | [], _, env, σ, T => some (env, σ, T)
 | o :: ops, i, env, σ, T => match wanted env o.guard with
  | some true => match stepC call base o.op env σ with
   | some (v, σ', t) => runD call base ops (i + 1) (env.put o.dst v) σ' (if t then (i, footOf o.op env σ.length) :: T else T)
   | none => none
  | some false => runD call base ops (i + 1) (env.put o.dst (.tup [])) σ T
  | none => none
def hits (i : Nat) : List (Nat × Foot) → List Foot
 | [] => []
 | (j, f) :: r => if j = i then f :: hits i r else hits i r
def aparts (a : List Foot) (b : List Foot) : Bool := a.all fun f => b.all fun g => apart f g
def isMk : AOp → Bool
 | .call mode _ _ => mode == 4
 | _ => false
def lateF : Foot → Foot → Bool
 | some (false, n), some (true, a) => decide (a < n)
 | _, _ => false
def lates (a : List Foot) (b : List Foot) : Bool := a.all fun f => b.all fun g => lateF f g
def lateOk (o : Option AOper) (as bs : List Foot) : Bool := (match o with
 | some o => isMk o.op
 | none => false) && lates as bs
def drawOk (ops : List AOper) (T : List (Nat × Foot)) : List (Nat × Nat) → Bool
 | [] => true
 | (i, j) :: r => (aparts (hits i T) (hits j T) || lateOk ops[i]? (hits i T) (hits j T)) && drawOk ops T r
def freeOf : Foot → Foot → Bool
 | some (r, a), some (q, b) => (r && q) || !(a == b)
 | _, _ => false
def frees (a : List Foot) (b : List Foot) : Bool := a.all fun f => b.all fun g => freeOf f g
def xOk (T : List (Nat × Foot)) : List (Nat × Nat) → Bool
 | [] => true
 | (i, j) :: r => frees (hits i T) (hits j T) && xOk T r
def allFeet : List (Nat × Foot) → Bool
 | [] => true
 | (_, f) :: r => f.isSome && allFeet r
def prune (live : List Nat) (env : Env) : Env := match live with
 | [] => []
 | t :: r => (t, env.get t) :: prune r env
def envUnder (m : Nat) : Env → Bool
 | [] => true
 | (_, v) :: r => v.under m && envUnder m r
def obsUnder (m : Nat) : List Ob → Bool
 | [] => true
 | x :: r => x.under m && obsUnder m r
def gc (base keep : Nat) (live : List Nat) (env : Env) (σ : St) : Option (Env × St) :=
 let env' := prune live env
 if σ.length ≤ base + keep then some (env', σ)
 else if envUnder (base + keep) env' && obsUnder (base + keep) ((σ.take (base + keep)).drop base) then some (env', σ.take (base + keep)) else none
abbrev Res := Option (Ex × Env × St)
def iter (g : Env → St → Option (Env × St)) (f : Env → St → Res) : Nat → Env → St → Res
 | 0, _, _ => none
 | n + 1, env, σ => match g env σ with
  | none => none
  | some (env1, σ1) => match f env1 σ1 with
   | none => none
   | some (.normal, e, s) => iter g f n e s
   | some r => some r
def exec (call : Nat → List AV → St → Option (AV × St)) (n base : Nat) : ACode → Env → St → Res
 | .skip, env, σ => some (.normal, env, σ)
 | .region ops live, env, σ => match runOps call base ops env σ with
  | some (e, s) => some (.normal, prune live e, s)
  | none => none
 | .dregion ops unord live, env, σ => match runD call base ops 0 env σ [] with
  | some (e, s, T) => if drawOk ops T unord then some (.normal, prune live e, s) else none
  | none => none
 | .xregion res ops unord live, env, σ => match runD call base ops 0 env (σ ++ List.replicate res Ob.res) [] with
  | some (e, s, T) => if xOk T unord && allFeet T then some (.normal, prune live e, s) else none
  | none => none
 | .freg t c, env, σ => match frz σ (env.get t) with
  | some v => exec call n base c ((t, v) :: env) (kill σ (env.get t))
  | none => none
 | .seq a b, env, σ => match exec call n base a env σ with
  | some (.normal, e, s) => exec call n base b e s
  | r => r
 | .cond c a b, env, σ => match ev env c with
  | .bool t => if t then exec call n base a env σ else exec call n base b env σ
  | _ => none
 | .block id c, env, σ => match exec call n base c env σ with
  | some (.exit i, e, s) => if i = id then some (.normal, e, s) else some (.exit i, e, s)
  | r => r
 | .loop keep live c, env, σ => iter (gc base keep live) (exec call n base c) n env σ
 | .exit id, env, σ => some (.exit id, env, σ)
 | .ret, env, σ => some (.ret, env, σ)
 | .ext _, _, _ => none
def resVals (env : Env) (σ : St) : List ARes → Option (List AV)
 | [] => some []
 | .t n :: r => (resVals env σ r).map (env.get n :: ·)
 | .cell n agg sz :: r => match deref σ (env.get n), resVals env σ r with
  | some (cs, _), some vs => (front agg sz cs).map (· :: vs)
  | _, _ => none
def oneOf : List AV → AV
 | [v] => v
 | vs => .tup vs
def frzD (base : Nat) (σ : St) : Nat → AV → Option AV
 | 0, _ => none
 | n + 1, v => match v with
  | .ref o off => if base ≤ o then (match σ[o]? with
   | some (.cells cs) => (frzDs (frzD base σ n) (cs.drop off)).map .rptr
   | _ => none) else none
  | .mapr o => if base ≤ o then (match σ[o]? with
   | some (.map es) => (frzDp (frzD base σ n) es).map .fmap
   | _ => none) else none
  | .osl o ver n' off len => if base ≤ o then (elems σ (.osl o ver n' off len)).map fun x => .sl x.1 else none
  | .fn f caps => (frzDs (frzD base σ n) caps).map (.fn f)
  | .agg cs => (frzDs (frzD base σ n) cs).map .agg
  | .tup cs => (frzDs (frzD base σ n) cs).map .tup
  | .nils => some (.sl [])
  | v => if v.noref then some v else none
where
 frzDs (f : AV → Option AV) : List AV → Option (List AV)
  | [] => some []
  | x :: r => match f x, frzDs f r with
   | some a, some b => some (a :: b)
   | _, _ => none
 frzDp (f : AV → Option AV) : List (AV × AV) → Option (List (AV × AV))
  | [] => some []
  | x :: r => match f x.2, frzDp f r with
   | some a, some b => some ((x.1, a) :: b)
   | _, _ => none
abbrev frzDs := frzD.frzDs
abbrev frzDp := frzD.frzDp
def renD (base : Nat) (os : List Nat) : Nat → AV → Option AV
 | 0, _ => none
 | n + 1, v => match v with
  | .osl o ver m off len => if o < base then some (.osl o ver m off len) else (os.idxOf? o).map fun k => .osl (base + k) ver m off len
  | .agg cs => (frzDs (renD base os n) cs).map .agg
  | .tup cs => (frzDs (renD base os n) cs).map .tup
  | v => if v.noref then some v else none
def arrsOf (σ : St) : List Nat → Option St
 | [] => some []
 | o :: r => match σ[o]?, arrsOf σ r with
  | some (.arr v sz es), some l => some (.arr v sz es :: l)
  | _, _ => none
def keepO (base : Nat) (v : AV) (σ : St) (os : List Nat) : Option (AV × St) := if os.Nodup then match arrsOf σ os, renD base os 4 v with
 | some obs, some v' => some (v', σ.take base ++ obs)
 | _, _ => none else none
def fin (own : OwnK) (base : Nat) (v : AV) (σ : St) : Option (AV × St) :=
 match own with
 | .yes | .yesn => (match v with
  | .osl o ver n off len => if o < base then some (.osl o ver n off len, σ.take base) else match σ[o]? with
   | some (.arr v' sz es) => some (.osl base ver n off len, σ.take base ++ [Ob.arr v' sz es])
   | _ => none
  | v => if v.noref then some (v, σ.take base) else none)
 | .no => (match frz σ v with
  | some v' => if v'.noref then some (v', (kill σ v).take base) else some (v', kill σ v)
  | none => none)
 | .deep => (match frzD base σ 8 v with
  | some v' => if v'.noref then some (v', σ.take base) else none
  | none => none)
 | .keep => keepO base v σ ((oslIn v).filter fun o => decide (base ≤ o))
def initEnv : Nat → List AV → Env
 | _, [] => []
 | i, v :: r => (i, v) :: initEnv (i + 1) r
def leave (F : AFunc) (base : Nat) : Res → Option (AV × St)
 | some (.exit _, _, _) => none
 | some (_, env, σ) => match resVals env σ F.results with
  | some vs => fin F.own base (oneOf vs) σ
  | none => none
 | none => none
def AV.alike : AV → AV → Bool
 | .osl o v n f l, .osl o' v' n' f' l' => o == o' && v == v' && n == n' && f == f' && l == l'
 | .sl [], .sl [] => true
 | .nils, .nils => true
 | _, _ => false
def alikes : St → St → Bool
 | [], [] => true
 | .arr v sz [] :: r, .arr v' sz' [] :: r' => v == v' && sz == sz' && alikes r r'
 | _, _ => false
def both : Option (AV × St) → Option (AV × St) → Option (AV × St)
 | some (v, s), some (v', s') => if v.alike v' && alikes s s' then some (v, s) else none
 | _, _ => none
def twice (own : OwnK) (f : List AV → Option (AV × St)) (args : List AV) : Option (AV × St) := match own, args with
 | .yesn, .sl [] :: r => both (f (.nil0 :: r)) (f (.nne :: r))
 | .yesn, .nils :: r => both (f (.nil0 :: r)) (f (.nne :: r))
 | _, _ => f args
def denN (G : Nat → Option AFunc) : Nat → Nat → List AV → St → Option (AV × St)
 | 0, _, _, _ => none
 | n + 1, f, args, σ => match G f with
  | none => none
  | some F => if args.length = F.nparams then (match F.ex with
   | some x => xrun x args σ
   | none => twice F.own (fun args => leave F σ.length (exec (denN G n) n σ.length F.body (initEnv 0 args) σ)) args) else none
end Go.Den

namespace Go.Den
open Go

def Mono {α : Type} (f : Nat → Option α) : Prop := ∀ n a, f n = some a → ∀ m, n ≤ m → f m = some a
open Classical in
noncomputable def lim {α : Type} (f : Nat → Option α) : Option α := if h : ∃ n a, f n = some a then f (Classical.choose h) else none
theorem lim_iff {α : Type} {f : Nat → Option α} (hf : Mono f) {a : α} : lim f = some a ↔ ∃ n, f n = some a := by
 unfold lim
 constructor
 ·intro h
  split at h
  ·exact ⟨_, h⟩
  ·exact absurd h (by simp)
 ·rintro ⟨n, hn⟩
  have h : ∃ n a, f n = some a := ⟨n, a, hn⟩
  rw [dif_pos h]
  obtain ⟨b, hb⟩ := Classical.choose_spec h
  rcases Nat.le_total n (Classical.choose h) with hl | hl
  ·exact hf _ _ hn _ hl
  ·have := hf _ _ hb _ hl
   rw [hn] at this
   rw [hb]; exact this.symm
theorem lim_const {α : Type} (x : Option α) : lim (fun _ => x) = x := by
 cases x with
 | none =>
  unfold lim
  rw [dif_neg (by simp)]
 | some a => exact (lim_iff (by intro n b h m _; exact h)).2 ⟨0, rfl⟩
theorem opt_ext {α : Type} {x y : Option α} (h : ∀ a, x = some a ↔ y = some a) : x = y := by
 cases x with
 | none => cases y with
  | none => rfl
  | some b => exact absurd ((h b).2 rfl) (by simp)
 | some a => exact ((h a).1 rfl).symm
theorem Mono.bind {α β : Type} {f : Nat → Option α} {g : Nat → α → Option β} (hf : Mono f) (hg : ∀ x, Mono fun n => g n x) : Mono fun n => (f n).bind (g n) := by
 intro n b h m hm
 cases hx : f n with
 | none => simp [hx] at h
 | some x =>
  simp [hx] at h
  simp [hf n x hx m hm, hg x n b h m hm]
theorem lim_bind {α β : Type} {f : Nat → Option α} {g : Nat → α → Option β} (hf : Mono f) (hg : ∀ x, Mono fun n => g n x) :
  lim (fun n => (f n).bind (g n)) = (lim f).bind fun x => lim fun n => g n x := by
 apply opt_ext
 intro b
 rw [lim_iff (hf.bind hg)]
 constructor
 ·rintro ⟨n, h⟩
  cases hx : f n with
  | none => simp [hx] at h
  | some x =>
   simp [hx] at h
   rw [(lim_iff hf).2 ⟨n, hx⟩]
   simp
   exact (lim_iff (hg x)).2 ⟨n, h⟩
 ·intro h
  cases hx : lim f with
  | none => simp [hx] at h
  | some x =>
   simp [hx] at h
   obtain ⟨n, hn⟩ := (lim_iff hf).1 hx
   obtain ⟨m, hm⟩ := (lim_iff (hg x)).1 h
   refine ⟨n + m, ?_⟩
   rw [hf n x hn (n + m) (by omega)]
   exact hg x m b hm (n + m) (by omega)
theorem lim_cofinal {α : Type} {f h : Nat → Option α} (hf : Mono f) (hh : Mono h) (h1 : ∀ n a, f n = some a → ∃ m, h m = some a) (h2 : ∀ n a, h n = some a → ∃ m, f m = some a) : lim f = lim h := by
 apply opt_ext
 intro a
 rw [lim_iff hf, lim_iff hh]
 exact ⟨fun ⟨n, hn⟩ => h1 n a hn, fun ⟨n, hn⟩ => h2 n a hn⟩

abbrev CallF := Nat → List AV → St → Option (AV × St)
def CLe (c d : CallF) : Prop := ∀ f a s r, c f a s = some r → d f a s = some r

theorem callOp_bind (call : CallF) (mode f : Nat) (args : List AV) (σ : St) : callOp call mode f args σ =
  (if mode = 1 then some (args, σ) else if mode = 2 then (frzs σ args).map (fun a => (a, kills σ args)) else some (norms args, σ)).bind fun p =>
   if norefs p.1 = true then (call f p.1 []).bind fun q => if q.1.noref && q.2.isEmpty then some (q.1, p.2, mode == 2) else some (q.1.shift p.2.length, p.2 ++ shiftSt p.2.length q.2, true)
   else (call f p.1 p.2).bind fun q => some (q.1, q.2, true) := by
 unfold callOp
 generalize (if mode = 1 then some (args, σ) else if mode = 2 then (frzs σ args).map (fun a => (a, kills σ args)) else some (norms args, σ)) = o
 cases o with
 | none => rfl
 | some p =>
  obtain ⟨as, s1⟩ := p
  simp only [Option.bind_some]
  split
  ·cases call f as [] with
   | none => rfl
   | some q => rfl
  ·cases call f as s1 with
   | none => rfl
   | some q => rfl
theorem callOp_mono {c d : CallF} (h : CLe c d) {mode f : Nat} {args : List AV} {σ : St} {r} (hr : callOp c mode f args σ = some r) : callOp d mode f args σ = some r := by
 rw [callOp_bind] at hr ⊢
 generalize (if mode = 1 then some (args, σ) else if mode = 2 then (frzs σ args).map (fun a => (a, kills σ args)) else some (norms args, σ)) = o at hr ⊢
 cases o with
 | none => simp at hr
 | some p =>
  simp only [Option.bind_some] at hr ⊢
  split at hr
  ·rename_i hn
   rw [if_pos hn]
   cases hq : c f p.1 [] with
   | none => simp [hq] at hr
   | some q => rw [hq] at hr; rw [h _ _ _ _ hq]; exact hr
  ·rename_i hn
   rw [if_neg hn]
   cases hq : c f p.1 p.2 with
   | none => simp [hq] at hr
   | some q => rw [hq] at hr; rw [h _ _ _ _ hq]; exact hr
theorem callX_mono {c d : CallF} (h : CLe c d) {mode f : Nat} {args : List AV} {σ : St} {r} (hr : callX c mode f args σ = some r) : callX d mode f args σ = some r := by
 unfold callX at hr ⊢
 split at hr
 ·rename_i hm
  rw [if_pos hm]
  unfold viewOp at hr ⊢
  split at hr
  case isFalse => exact absurd hr (by simp)
  rename_i hlen
  rw [if_pos hlen]
  cases hf : frzs σ args with
  | none => simp [hf] at hr
  | some as =>
   rw [hf] at hr
   simp only [Option.bind_some] at hr ⊢
   split at hr
   ·rename_i hn
    rw [if_pos hn]
    cases hq : c f as [] with
    | none => simp [hq] at hr
    | some q => rw [hq] at hr; rw [h _ _ _ _ hq]; exact hr
   ·exact absurd hr (by simp)
 ·rename_i hm
  rw [if_neg hm]
  split at hr
  ·exact absurd hr (by simp)
  ·rename_i h4
   rw [if_neg h4]
   exact callOp_mono h hr
theorem stepC_mono {c d : CallF} (h : CLe c d) {base : Nat} {op : AOp} {env : Env} {σ : St} {r} (hr : stepC c base op env σ = some r) : stepC d base op env σ = some r := by
 cases op <;> try exact hr
 case call mode f args => exact callX_mono h hr
 case callv x args =>
  simp only [stepC] at hr ⊢
  split at hr
  ·exact callOp_mono h hr
  ·exact absurd hr (by simp)
 case inv tbl x args =>
  simp only [stepC] at hr ⊢
  split at hr
  ·exact callOp_mono h hr
  ·exact absurd hr (by simp)
theorem runOps_mono {c d : CallF} (h : CLe c d) {base : Nat} : ∀ (ops : List AOper) {env : Env} {σ : St} {r}, runOps c base ops env σ = some r → runOps d base ops env σ = some r
 | [], _, _, _, hr => hr
 | o :: ops, env, σ, r, hr => by
  simp only [runOps] at hr ⊢
  split at hr
  ·rename_i hw
   split at hr
   ·rename_i hs
    rw [stepC_mono h hs]
    exact runOps_mono h ops hr
   ·exact absurd hr (by simp)
  ·exact runOps_mono h ops hr
  ·exact absurd hr (by simp)
theorem runD_mono {c d : CallF} (h : CLe c d) {base : Nat} : ∀ (ops : List AOper) {i : Nat} {env : Env} {σ : St} {T : List (Nat × Foot)} {r}, runD c base ops i env σ T = some r → runD d base ops i env σ T = some r
 | [], _, _, _, _, _, hr => hr
 | o :: ops, i, env, σ, T, r, hr => by
  simp only [runD] at hr ⊢
  split at hr
  ·rename_i hw
   split at hr
   ·rename_i hs
    rw [stepC_mono h hs]
    exact runD_mono h ops hr
   ·exact absurd hr (by simp)
  ·exact runD_mono h ops hr
  ·exact absurd hr (by simp)
theorem iter_mono {g : Env → St → Option (Env × St)} {f f' : Env → St → Res} (h : ∀ e s r, f e s = some r → f' e s = some r) :
  ∀ (n m : Nat) {env : Env} {σ : St} {r}, n ≤ m → iter g f n env σ = some r → iter g f' m env σ = some r
 | 0, _, _, _, _, _, hr => absurd hr (by simp [iter])
 | n + 1, 0, _, _, _, hm, _ => absurd hm (by omega)
 | n + 1, m + 1, env, σ, r, hm, hr => by
  simp only [iter] at hr ⊢
  split at hr
  ·exact absurd hr (by simp)
  ·split at hr
   ·exact absurd hr (by simp)
   ·rename_i hf
    rw [h _ _ _ hf]
    exact iter_mono h n m (by omega) hr
   ·rename_i r' hne hf
    rw [h _ _ _ hf]
    obtain ⟨x, e', s'⟩ := r'
    cases x with
    | normal => exact (hne _ _ rfl).elim
    | exit i => exact hr
    | ret => exact hr
theorem exec_mono {c d : CallF} (h : CLe c d) {n m : Nat} (hm : n ≤ m) {base : Nat} : ∀ (co : ACode) {env : Env} {σ : St} {r}, exec c n base co env σ = some r → exec d m base co env σ = some r := by
 intro co
 induction co with
 | skip => intro env σ r hr; exact hr
 | exit id => intro env σ r hr; exact hr
 | ret => intro env σ r hr; exact hr
 | ext x => intro env σ r hr; exact hr
 | region ops live =>
  intro env σ r hr
  simp only [exec] at hr ⊢
  split at hr
  ·rename_i hs; rw [runOps_mono h ops hs]; exact hr
  ·exact absurd hr (by simp)
 | dregion ops unord live =>
  intro env σ r hr
  simp only [exec] at hr ⊢
  split at hr
  ·rename_i hs; rw [runD_mono h ops hs]; exact hr
  ·exact absurd hr (by simp)
 | xregion res ops unord live =>
  intro env σ r hr
  simp only [exec] at hr ⊢
  split at hr
  ·rename_i hs; rw [runD_mono h ops hs]; exact hr
  ·exact absurd hr (by simp)
 | freg t cc ih =>
  intro env σ r hr
  simp only [exec] at hr ⊢
  split at hr
  ·exact ih hr
  ·exact absurd hr (by simp)
 | seq a b iha ihb =>
  intro env σ r hr
  simp only [exec] at hr ⊢
  cases ha : exec c n base a env σ with
  | none => simp [ha] at hr
  | some x =>
   rw [iha ha]
   rw [ha] at hr
   obtain ⟨e, e', s'⟩ := x
   cases e with
   | normal => exact ihb hr
   | exit i => exact hr
   | ret => exact hr
 | cond cc a b iha ihb =>
  intro env σ r hr
  simp only [exec] at hr ⊢
  split at hr
  ·split at hr
   ·rename_i ht; simp only [ht, if_true]; exact iha hr
   ·rename_i ht; simp only [ht]; exact ihb hr
  ·exact absurd hr (by simp)
 | block id cc ih =>
  intro env σ r hr
  simp only [exec] at hr ⊢
  cases ha : exec c n base cc env σ with
  | none => simp [ha] at hr
  | some x => rw [ih ha]; rw [ha] at hr; exact hr
 | loop keep live cc ih =>
  intro env σ r hr
  simp only [exec] at hr ⊢
  exact iter_mono (fun e s r hr => ih hr) n m hm hr
theorem leave_mono {F : AFunc} {base : Nat} {x y : Res} (h : ∀ r, x = some r → y = some r) {r} (hr : leave F base x = some r) : leave F base y = some r := by
 cases x with
 | none => simp [leave] at hr
 | some x => rw [h x rfl]; exact hr
theorem both_some {x y : Option (AV × St)} {r : AV × St} (h : both x y = some r) : x = some r ∧ ∃ q, y = some q ∧ r.1.alike q.1 = true ∧ alikes r.2 q.2 = true := by
 unfold both at h
 split at h
 ·split at h
  ·rename_i h1
   simp only [Bool.and_eq_true] at h1
   simp at h; subst h
   exact ⟨rfl, _, rfl, h1.1, h1.2⟩
  ·exact absurd h (by simp)
 ·exact absurd h (by simp)
theorem both_ok {x y : AV × St} (h1 : x.1.alike y.1 = true) (h2 : alikes x.2 y.2 = true) : both (some x) (some y) = some x := by
 simp [both, h1, h2]
theorem twice_mono {own : OwnK} {f g : List AV → Option (AV × St)} (h : ∀ as r, f as = some r → g as = some r) {args : List AV} {r} (hr : twice own f args = some r) : twice own g args = some r := by
 unfold twice at hr ⊢
 split at hr
 ·obtain ⟨h1, q, h2, h3, h4⟩ := both_some hr
  rw [h _ _ h1, h _ _ h2]
  exact both_ok h3 h4
 ·obtain ⟨h1, q, h2, h3, h4⟩ := both_some hr
  rw [h _ _ h1, h _ _ h2]
  exact both_ok h3 h4
 ·exact h _ _ hr
theorem denN_succ (G : Nat → Option AFunc) (n : Nat) : CLe (denN G n) (denN G (n + 1)) := by
 induction n with
 | zero => intro f a s r hr; simp [denN] at hr
 | succ n ih =>
  intro f a s r hr
  unfold denN at hr ⊢
  cases hF : G f with
  | none => simp [hF] at hr
  | some F =>
   simp only [hF] at hr ⊢
   split at hr
   ·rename_i hl
    rw [if_pos hl]
    cases hx : F.ex with
    | some x => simp only [hx] at hr ⊢; exact hr
    | none =>
    simp only [hx] at hr ⊢
    exact twice_mono (fun as r hr => leave_mono (fun r hr => exec_mono ih (by omega) _ hr) hr) hr
   ·exact absurd hr (by simp)
theorem denN_le (G : Nat → Option AFunc) {n m : Nat} (h : n ≤ m) : CLe (denN G n) (denN G m) := by
 induction h with
 | refl => exact fun _ _ _ _ h => h
 | step _ ih => exact fun f a s r hr => denN_succ G _ f a s r (ih f a s r hr)

variable (G : Nat → Option AFunc)
noncomputable def Den (f : Nat) (args : List AV) (σ : St) : Option (AV × St) := lim fun n => denN G n f args σ
noncomputable def Run (base : Nat) (c : ACode) (env : Env) (σ : St) : Res := lim fun n => exec (denN G n) n base c env σ
theorem den_mono (f : Nat) (args : List AV) (σ : St) : Mono fun n => denN G n f args σ := fun _ _ h _ hm => denN_le G hm _ _ _ _ h
theorem run_mono (base : Nat) (c : ACode) (env : Env) (σ : St) : Mono fun n => exec (denN G n) n base c env σ := fun _ _ h _ hm => exec_mono (denN_le G hm) hm _ h
theorem den_le (n : Nat) : CLe (denN G n) (Den G) := fun f a s _ h => (lim_iff (den_mono G f a s)).2 ⟨n, h⟩
theorem Den_iff {f : Nat} {args : List AV} {σ : St} {r} : Den G f args σ = some r ↔ ∃ n, denN G n f args σ = some r := lim_iff (den_mono G f args σ)

theorem lim_callOp (mode f : Nat) (args : List AV) (σ : St) : lim (fun n => callOp (denN G n) mode f args σ) = callOp (Den G) mode f args σ := by
 simp only [callOp_bind]
 generalize (if mode = 1 then some (args, σ) else if mode = 2 then (frzs σ args).map (fun a => (a, kills σ args)) else some (norms args, σ)) = o
 cases o with
 | none => exact lim_const _
 | some p =>
  simp only [Option.bind_some]
  by_cases hn : norefs p.1 = true
  ·simp only [hn, if_true]
   rw [lim_bind (f := fun n => denN G n f p.1 []) (g := fun _ q => if q.1.noref && q.2.isEmpty then some (q.1, p.2, mode == 2) else some (q.1.shift p.2.length, p.2 ++ shiftSt p.2.length q.2, true)) (den_mono G f p.1 []) (fun x n b h m _ => h)]
   simp only [lim_const]; rfl
  ·simp only [hn, if_false, Bool.false_eq_true]
   rw [lim_bind (f := fun n => denN G n f p.1 p.2) (g := fun _ q => some (q.1, q.2, true)) (den_mono G f p.1 p.2) (fun x n b h m _ => h)]
   simp only [lim_const]; rfl
theorem lim_callX (mode f : Nat) (args : List AV) (σ : St) : lim (fun n => callX (denN G n) mode f args σ) = callX (Den G) mode f args σ := by
 unfold callX
 split
 ·unfold viewOp
  split
  case isFalse => exact lim_const _
  cases frzs σ args with
  | none => exact lim_const _
  | some as =>
   simp only [Option.bind_some]
   split
   ·rw [lim_bind (f := fun n => denN G n f as []) (g := fun _ q => if q.1.bare && q.2.isEmpty then some (q.1, σ, !(oslIns args).isEmpty) else none) (den_mono G f as []) (fun x n b h m _ => h)]
    simp only [lim_const]; rfl
   ·exact lim_const _
 ·split
  ·exact lim_const _
  ·exact lim_callOp G mode f args σ
theorem stepC_monoN (base : Nat) (op : AOp) (env : Env) (σ : St) : Mono fun n => stepC (denN G n) base op env σ := fun _ _ h _ hm => stepC_mono (denN_le G hm) h
theorem lim_stepC (base : Nat) (op : AOp) (env : Env) (σ : St) : lim (fun n => stepC (denN G n) base op env σ) = stepC (Den G) base op env σ := by
 cases op <;> try exact lim_const _
 case call mode f args => exact lim_callX G mode f (evs env args) σ
 case callv x args =>
  show lim (fun n => match ev env x with
   | .fn f caps => callOp (denN G n) 0 f (evs env args ++ caps) σ
   | _ => none) = match ev env x with
   | .fn f caps => callOp (Den G) 0 f (evs env args ++ caps) σ
   | _ => none
  cases ev env x <;> first | exact lim_const _ | exact lim_callOp G 0 _ _ σ
 case inv tbl x args =>
  show lim (fun n => match invOf tbl (ev env x) (evs env args) with
   | some (f, as) => callOp (denN G n) 0 f as σ
   | none => none) = match invOf tbl (ev env x) (evs env args) with
   | some (f, as) => callOp (Den G) 0 f as σ
   | none => none
  cases invOf tbl (ev env x) (evs env args) with
  | none => exact lim_const _
  | some q => exact lim_callOp G 0 _ _ σ
theorem lim_runOps (base : Nat) : ∀ (ops : List AOper) (env : Env) (σ : St), lim (fun n => runOps (denN G n) base ops env σ) = runOps (Den G) base ops env σ
 | [], env, σ => lim_const _
 | o :: ops, env, σ => by
  simp only [runOps]
  cases hw : wanted env o.guard with
  | none => exact lim_const _
  | some b =>
   cases b with
   | false => exact lim_runOps base ops _ _
   | true =>
    simp only []
    have e : ∀ (c : CallF), (match stepC c base o.op env σ with
      | some (v, σ', _) => runOps c base ops (env.put o.dst v) σ'
      | none => none) = (stepC c base o.op env σ).bind fun x => runOps c base ops (env.put o.dst x.1) x.2.1 := by
     intro c; cases stepC c base o.op env σ <;> rfl
    refine (congrArg lim (funext fun n => e (denN G n))).trans (Eq.trans ?_ (e (Den G)).symm)
    rw [lim_bind (f := fun n => stepC (denN G n) base o.op env σ) (g := fun n x => runOps (denN G n) base ops (env.put o.dst x.1) x.2.1) (stepC_monoN G base o.op env σ) (fun x n b h m hm => runOps_mono (denN_le G hm) ops h), lim_stepC]
    congr 1
    funext x
    exact lim_runOps base ops _ _
theorem lim_runD (base : Nat) : ∀ (ops : List AOper) (i : Nat) (env : Env) (σ : St) (T : List (Nat × Foot)), lim (fun n => runD (denN G n) base ops i env σ T) = runD (Den G) base ops i env σ T
 | [], i, env, σ, T => lim_const _
 | o :: ops, i, env, σ, T => by
  simp only [runD]
  cases hw : wanted env o.guard with
  | none => exact lim_const _
  | some b =>
   cases b with
   | false => exact lim_runD base ops _ _ _ _
   | true =>
    simp only []
    have e : ∀ (c : CallF), (match stepC c base o.op env σ with
      | some (v, σ', t) => runD c base ops (i + 1) (env.put o.dst v) σ' (if t = true then (i, footOf o.op env σ.length) :: T else T)
      | none => none) = (stepC c base o.op env σ).bind fun x => runD c base ops (i + 1) (env.put o.dst x.1) x.2.1 (if x.2.2 = true then (i, footOf o.op env σ.length) :: T else T) := by
     intro c; cases stepC c base o.op env σ <;> rfl
    refine (congrArg lim (funext fun n => e (denN G n))).trans (Eq.trans ?_ (e (Den G)).symm)
    rw [lim_bind (f := fun n => stepC (denN G n) base o.op env σ) (g := fun n x => runD (denN G n) base ops (i + 1) (env.put o.dst x.1) x.2.1 (if x.2.2 = true then (i, footOf o.op env σ.length) :: T else T)) (stepC_monoN G base o.op env σ) (fun x n b h m hm => runD_mono (denN_le G hm) ops h), lim_stepC]
    congr 1
    funext x
    exact lim_runD base ops _ _ _ _

theorem Run_skip (base : Nat) (env : Env) (σ : St) : Run G base .skip env σ = some (.normal, env, σ) := lim_const _
theorem Run_exit (base id : Nat) (env : Env) (σ : St) : Run G base (.exit id) env σ = some (.exit id, env, σ) := lim_const _
theorem Run_ret (base : Nat) (env : Env) (σ : St) : Run G base .ret env σ = some (.ret, env, σ) := lim_const _
theorem Run_region (base : Nat) (ops : List AOper) (live : List Nat) (env : Env) (σ : St) : Run G base (.region ops live) env σ =
  (runOps (Den G) base ops env σ).bind fun x => some (.normal, prune live x.1, x.2) := by
 unfold Run
 have e : ∀ n, exec (denN G n) n base (.region ops live) env σ = (runOps (denN G n) base ops env σ).bind fun x => some (.normal, prune live x.1, x.2) := by
  intro n; simp only [exec]; cases runOps (denN G n) base ops env σ <;> rfl
 simp only [e]
 rw [lim_bind (f := fun n => runOps (denN G n) base ops env σ) (g := fun _ x => some (Ex.normal, prune live x.1, x.2)) (fun n b h m hm => runOps_mono (denN_le G hm) ops h) (fun x n b h m _ => h), lim_runOps]
 simp only [lim_const]
theorem Run_dregion (base : Nat) (ops : List AOper) (unord : List (Nat × Nat)) (live : List Nat) (env : Env) (σ : St) : Run G base (.dregion ops unord live) env σ =
  (runD (Den G) base ops 0 env σ []).bind fun x => if drawOk ops x.2.2 unord then some (.normal, prune live x.1, x.2.1) else none := by
 unfold Run
 have e : ∀ n, exec (denN G n) n base (.dregion ops unord live) env σ = (runD (denN G n) base ops 0 env σ []).bind fun x => if drawOk ops x.2.2 unord then some (.normal, prune live x.1, x.2.1) else none := by
  intro n; simp only [exec]; cases runD (denN G n) base ops 0 env σ [] <;> rfl
 simp only [e]
 rw [lim_bind (f := fun n => runD (denN G n) base ops 0 env σ []) (g := fun _ x => if drawOk ops x.2.2 unord then some (Ex.normal, prune live x.1, x.2.1) else none) (fun n b h m hm => runD_mono (denN_le G hm) ops h) (fun x n b h m _ => h), lim_runD]
 simp only [lim_const]
theorem Run_xregion (base res : Nat) (ops : List AOper) (unord : List (Nat × Nat)) (live : List Nat) (env : Env) (σ : St) : Run G base (.xregion res ops unord live) env σ =
  (runD (Den G) base ops 0 env (σ ++ List.replicate res Ob.res) []).bind fun x => if xOk x.2.2 unord && allFeet x.2.2 then some (.normal, prune live x.1, x.2.1) else none := by
 unfold Run
 have e : ∀ n, exec (denN G n) n base (.xregion res ops unord live) env σ = (runD (denN G n) base ops 0 env (σ ++ List.replicate res Ob.res) []).bind fun x => if xOk x.2.2 unord && allFeet x.2.2 then some (.normal, prune live x.1, x.2.1) else none := by
  intro n; simp only [exec]; cases runD (denN G n) base ops 0 env (σ ++ List.replicate res Ob.res) [] <;> rfl
 simp only [e]
 rw [lim_bind (f := fun n => runD (denN G n) base ops 0 env (σ ++ List.replicate res Ob.res) []) (g := fun _ x => if xOk x.2.2 unord && allFeet x.2.2 then some (Ex.normal, prune live x.1, x.2.1) else none) (fun n b h m hm => runD_mono (denN_le G hm) ops h) (fun x n b h m _ => h), lim_runD]
 simp only [lim_const]
theorem Run_freg (base t : Nat) (c : ACode) (env : Env) (σ : St) : Run G base (.freg t c) env σ = (frz σ (env.get t)).bind fun v => Run G base c ((t, v) :: env) (kill σ (env.get t)) := by
 show lim (fun n => match frz σ (env.get t) with
  | some v => exec (denN G n) n base c ((t, v) :: env) (kill σ (env.get t))
  | none => none) = _
 cases frz σ (env.get t) with
 | none => exact lim_const _
 | some v => rfl
noncomputable def next (base : Nat) (b : ACode) : Ex × Env × St → Res
 | (.normal, e, s) => Run G base b e s
 | r => some r
theorem Run_seq (base : Nat) (a b : ACode) (env : Env) (σ : St) : Run G base (.seq a b) env σ = (Run G base a env σ).bind (next G base b) := by
 have e : ∀ n, exec (denN G n) n base (.seq a b) env σ = (exec (denN G n) n base a env σ).bind fun x => match x with
   | (.normal, e, s) => exec (denN G n) n base b e s
   | r => some r := by
  intro n; simp only [exec]
  cases exec (denN G n) n base a env σ with
  | none => rfl
  | some x => obtain ⟨x, e', s'⟩ := x; cases x <;> rfl
 show lim (fun n => exec (denN G n) n base (.seq a b) env σ) = _
 simp only [e]
 rw [lim_bind (f := fun n => exec (denN G n) n base a env σ) (g := fun n x => match x with
   | (.normal, e, s) => exec (denN G n) n base b e s
   | r => some r) (run_mono G base a env σ) ?_]
 ·show (Run G base a env σ).bind _ = _
  congr 1
  funext x
  obtain ⟨x, e', s'⟩ := x
  cases x with
  | normal => rfl
  | exit i => exact lim_const _
  | ret => exact lim_const _
 ·intro x n b' h m hm
  obtain ⟨x, e', s'⟩ := x
  cases x with
  | normal => exact run_mono G base b e' s' n b' h m hm
  | exit i => exact h
  | ret => exact h
theorem Run_cond (base : Nat) (c : Opd) (a b : ACode) (env : Env) (σ : St) : Run G base (.cond c a b) env σ =
  match ev env c with
  | .bool t => if t then Run G base a env σ else Run G base b env σ
  | _ => none := by
 unfold Run
 simp only [exec]
 cases ev env c with
 | bool t => cases t <;> rfl
 | _ => exact lim_const _
def outOf (id : Nat) : Ex × Env × St → Res
 | (.exit i, e, s) => if i = id then some (.normal, e, s) else some (.exit i, e, s)
 | r => some r
theorem Run_block (base id : Nat) (c : ACode) (env : Env) (σ : St) : Run G base (.block id c) env σ = (Run G base c env σ).bind (outOf id) := by
 unfold Run
 have e : ∀ n, exec (denN G n) n base (.block id c) env σ = (exec (denN G n) n base c env σ).bind (outOf id) := by
  intro n; simp only [exec]
  cases exec (denN G n) n base c env σ with
  | none => rfl
  | some x => obtain ⟨x, e', s'⟩ := x; cases x <;> rfl
 simp only [e]
 rw [lim_bind (f := fun n => exec (denN G n) n base c env σ) (g := fun _ => outOf id) (run_mono G base c env σ) (fun x n b h m _ => h)]
 simp only [lim_const]
noncomputable def again (base keep : Nat) (live : List Nat) (c : ACode) : Ex × Env × St → Res
 | (.normal, e, s) => Run G base (.loop keep live c) e s
 | r => some r
theorem Run_loop (base keep : Nat) (live : List Nat) (c : ACode) (env : Env) (σ : St) : Run G base (.loop keep live c) env σ =
  (gc base keep live env σ).bind fun x => (Run G base c x.1 x.2).bind (again G base keep live c) := by
 let it := fun (a b : Nat) (e : Env) (s : St) => iter (gc base keep live) (exec (denN G a) a base c) b e s
 have itm : ∀ a a' b b' e s r, a ≤ a' → b ≤ b' → it a b e s = some r → it a' b' e s = some r :=
  fun a a' b b' e s r ha hb h => iter_mono (fun e s r h => exec_mono (denN_le G ha) ha c h) b b' hb h
 have diag : ∀ e s, Mono fun n => it n n e s := fun e s n r h m hm => itm _ _ _ _ e s r hm hm h
 have off : ∀ e s, Mono fun n => it (n + 1) n e s := fun e s n r h m hm => itm _ _ _ _ e s r (by omega) hm h
 have L : ∀ e s, Run G base (.loop keep live c) e s = lim fun n => it n n e s := fun e s => rfl
 have L' : ∀ e s, (lim fun n => it (n + 1) n e s) = Run G base (.loop keep live c) e s := fun e s => by
  rw [L]
  exact lim_cofinal (off e s) (diag e s) (fun n r h => ⟨n + 1, itm _ _ _ _ e s r (by omega) (by omega) h⟩) (fun n r h => ⟨n, itm _ _ _ _ e s r (by omega) (by omega) h⟩)
 have L2 : (lim fun n => it n n env σ) = lim fun n => it (n + 1) (n + 1) env σ :=
  lim_cofinal (diag env σ) (fun n r h m hm => itm _ _ _ _ env σ r (by omega) (by omega) h) (fun n r h => ⟨n, itm _ _ _ _ env σ r (by omega) (by omega) h⟩) (fun n r h => ⟨n + 1, h⟩)
 rw [L, L2]
 have e : ∀ n, it (n + 1) (n + 1) env σ = (gc base keep live env σ).bind fun x => (exec (denN G (n + 1)) (n + 1) base c x.1 x.2).bind fun y => match y with
   | (.normal, e, s) => it (n + 1) n e s
   | r => some r := by
  intro n
  simp only [it, iter]
  cases gc base keep live env σ with
  | none => rfl
  | some x =>
   obtain ⟨e1, s1⟩ := x
   simp only [Option.bind_some]
   cases exec (denN G (n + 1)) (n + 1) base c e1 s1 with
   | none => rfl
   | some y => obtain ⟨y, e', s'⟩ := y; cases y <;> rfl
 simp only [e]
 cases hg : gc base keep live env σ with
 | none => exact lim_const _
 | some x =>
  simp only [Option.bind_some]
  rw [lim_bind (f := fun n => exec (denN G (n + 1)) (n + 1) base c x.1 x.2) (g := fun n y => match y with
   | (.normal, e, s) => it (n + 1) n e s
   | r => some r) (fun n r h m hm => run_mono G base c x.1 x.2 (n + 1) r h (m + 1) (by omega)) ?_]
  ·have e1 : (lim fun n => exec (denN G (n + 1)) (n + 1) base c x.1 x.2) = Run G base c x.1 x.2 :=
    lim_cofinal (fun n r h m hm => run_mono G base c x.1 x.2 (n + 1) r h (m + 1) (by omega)) (run_mono G base c x.1 x.2) (fun n r h => ⟨n + 1, h⟩) (fun n r h => ⟨n, run_mono G base c x.1 x.2 n r h (n + 1) (by omega)⟩)
   rw [e1]
   congr 1
   funext y
   obtain ⟨y, e', s'⟩ := y
   cases y with
   | normal => exact L' e' s'
   | exit i => exact lim_const _
   | ret => exact lim_const _
  ·intro y n r h m hm
   obtain ⟨y, e', s'⟩ := y
   cases y with
   | normal => exact off e' s' n r h m hm
   | exit i => exact h
   | ret => exact h
theorem both_bind (x y : Option (AV × St)) : both x y = x.bind fun a => y.bind fun b => if a.1.alike b.1 && alikes a.2 b.2 then some a else none := by
 cases x with
 | none => rfl
 | some a => cases y with
  | none => rfl
  | some b => rfl
theorem lim_both {f g : Nat → Option (AV × St)} (hf : Mono f) (hg : Mono g) : lim (fun n => both (f n) (g n)) = both (lim f) (lim g) := by
 have e : (fun n => both (f n) (g n)) = fun n => (f n).bind fun a => (g n).bind fun b => if a.1.alike b.1 && alikes a.2 b.2 then some a else none := by
  funext n; exact both_bind _ _
 have k : ∀ a : AV × St, ∀ b : AV × St, Mono fun _ : Nat => (if a.1.alike b.1 && alikes a.2 b.2 then some a else none : Option (AV × St)) := fun a b n r h m _ => h
 rw [e, both_bind, lim_bind (g := fun n a => (g n).bind fun b => if a.1.alike b.1 && alikes a.2 b.2 then some a else none) hf (fun a => hg.bind (g := fun _ b => if a.1.alike b.1 && alikes a.2 b.2 then some a else none) (k a))]
 congr 1
 funext a
 rw [lim_bind (g := fun _ b => if a.1.alike b.1 && alikes a.2 b.2 then some a else none) hg (k a)]
 simp only [lim_const]
theorem lim_twice (own : OwnK) {f : Nat → List AV → Option (AV × St)} (hf : ∀ as, Mono fun n => f n as) (args : List AV) : lim (fun n => twice own (f n) args) = twice own (fun as => lim fun n => f n as) args := by
 unfold twice
 split
 ·exact lim_both (hf _) (hf _)
 ·exact lim_both (hf _) (hf _)
 ·rfl
theorem Den_eq (f : Nat) (args : List AV) (σ : St) : Den G f args σ = match G f with
  | none => none
  | some F => if args.length = F.nparams then (match F.ex with
   | some x => xrun x args σ
   | none => twice F.own (fun args => leave F σ.length (Run G σ.length F.body (initEnv 0 args) σ)) args) else none := by
 have h0 : Den G f args σ = lim fun n => denN G (n + 1) f args σ :=
  lim_cofinal (den_mono G f args σ) (fun n r h m hm => den_mono G f args σ (n + 1) r h (m + 1) (by omega)) (fun n r h => ⟨n, den_mono G f args σ n r h (n + 1) (by omega)⟩) (fun n r h => ⟨n + 1, h⟩)
 rw [h0]
 simp only [denN]
 cases G f with
 | none => exact lim_const _
 | some F =>
  simp only []
  by_cases hl : args.length = F.nparams
  ·simp only [if_pos hl]
   cases hx : F.ex with
   | some x => exact lim_const _
   | none =>
   simp only []
   have e : ∀ x : Res, leave F σ.length x = x.bind fun y => leave F σ.length (some y) := by
    intro x; cases x <;> rfl
   have hm : ∀ as, Mono fun n => leave F σ.length (exec (denN G n) n σ.length F.body (initEnv 0 as) σ) := fun as n r h m hm =>
    leave_mono (fun r hr => run_mono G σ.length F.body (initEnv 0 as) σ n r hr m hm) h
   rw [lim_twice F.own (f := fun n as => leave F σ.length (exec (denN G n) n σ.length F.body (initEnv 0 as) σ)) hm]
   congr 1
   funext args
   rw [e (Run G σ.length F.body (initEnv 0 args) σ)]
   have e' : (fun n => leave F σ.length (exec (denN G n) n σ.length F.body (initEnv 0 args) σ)) = fun n => (exec (denN G n) n σ.length F.body (initEnv 0 args) σ).bind fun y => leave F σ.length (some y) := by
    funext n; exact e _
   rw [e']
   rw [lim_bind (f := fun n => exec (denN G n) n σ.length F.body (initEnv 0 args) σ) (g := fun _ y => leave F σ.length (some y)) (run_mono G _ _ _ _) (fun x n b h m _ => h)]
   simp only [lim_const]
   rfl
  ·simp only [if_neg hl]; exact lim_const _
end Go.Den

namespace Go.Den
open Go

section
variable (tab : Nat → Nat)
inductive RF (w : World) (S : Nat → Prop) : AV → Value → Prop
 | int (k : IntKind) (n : Int) : RF w S (.int k n) (.int k n)
 | bool (b : Bool) : RF w S (.bool b) (.bool b)
 | str (s : ByteArray) : RF w S (.str s) (.string s)
 | nilp : RF w S .nilp (.pointer none)
 | rptr (b off : Nat) (cs : List AV) (vs : Nat → Value) (hb : S b) (hc : ∀ (j : Nat) (x : AV), cs[j]? = some x → w.cell? ⟨b, off + j, none⟩ = some (vs j))
   (hs : ∀ (j : Nat) (x : AV), cs[j]? = some x → AV.scalar x = true) (hr : ∀ (j : Nat) (x : AV), cs[j]? = some x → RF w S x (vs j)) : RF w S (.rptr cs) (.pointer (some ⟨b, off, none⟩))
 | nils (a : Option Addr) : RF w S .nils (.slice a 0 0)
 | sl0 (a : Option Addr) (c : Nat) : RF w S (.sl []) (.slice a 0 c)
 | sl (b off sz cap : Nat) (es : List (List AV)) (vs : Nat → Nat → Value) (hb : S b) (hz : ∀ e ∈ es, e.length = sz) (hl : es.length ≤ cap)
   (hc : ∀ (i : Nat) (e : List AV), es[i]? = some e → ∀ (j : Nat) (x : AV), e[j]? = some x → w.cell? ⟨b, off + i * sz + j, none⟩ = some (vs i j))
   (hs : ∀ (i : Nat) (e : List AV), es[i]? = some e → ∀ (j : Nat) (x : AV), e[j]? = some x → AV.scalar x = true)
   (hr : ∀ (i : Nat) (e : List AV), es[i]? = some e → ∀ (j : Nat) (x : AV), e[j]? = some x → RF w S x (vs i j)) : RF w S (.sl es) (.slice (some ⟨b, off, none⟩) es.length cap)
 | fn (f : Nat) (caps : List AV) (vs : List Value) (hl : vs.length = caps.length) (hs : ∀ (j : Nat) (x : AV), caps[j]? = some x → AV.scalar x = true)
   (hr : ∀ (j : Nat) (x : AV) (v : Value), caps[j]? = some x → vs[j]? = some v → RF w S x v) : RF w S (.fn f caps) (.func (.func (tab f)) #[] vs.toArray)
 | nilfn : RF w S .nilfn .nilFunc
 | agg (cs : List AV) (vs : List Value) (hl : vs.length = cs.length) (hs : ∀ (j : Nat) (x : AV), cs[j]? = some x → AV.scalar x = true)
   (hr : ∀ (j : Nat) (x : AV) (v : Value), cs[j]? = some x → vs[j]? = some v → RF w S x v) : RF w S (.agg cs) (.agg vs.toArray)
 | tup (cs : List AV) (vs : List Value) (hl : vs.length = cs.length)
   (hr : ∀ (j : Nat) (x : AV) (v : Value), cs[j]? = some x → vs[j]? = some v → RF w S x v) : RF w S (.tup cs) (.tuple vs.toArray)
 | nilmap : RF w S .nilmap (.map none)
 | fmap (b : Nat) (es : List (AV × AV)) (ms : Array MapEntry) (clock : Nat) (hb : S b) (hh : w.heap[b]? = some (.map ms clock)) (hl : ms.size = es.length) (hk : ∀ (j : Nat) (p : AV × AV) (m : MapEntry), es[j]? = some p → ms[j]? = some m → RF w S p.1 m.key)
   (hr : ∀ (j : Nat) (p : AV × AV) (m : MapEntry), es[j]? = some p → ms[j]? = some m → RF w S p.2 m.val) : RF w S (.fmap es) (.map (some b))
 | iface (t : Nat) (x : AV) (v : Value) (hr : RF w S x v) : RF w S (.iface t x) (.iface t v)
 | nilif : RF w S .nilif .nilIface
 | zp (b t : Nat) (hb : S b) (hc : ∃ vs fr, w.heap[b]? = some (.cells vs t fr)) : RF w S (.zp t) (.pointer (some ⟨b, 0, none⟩))
 | nil0 (c : Nat) : RF w S .nil0 (.slice none 0 c)
 | nne (a : Addr) (c : Nat) : RF w S .nne (.slice (some a) 0 c)

structure Gh where
 b : Nat
 base : Nat
 cap : Nat

def OslOk (σ : St) (γ : List Gh) (o ver n off len : Nat) (v : Value) : Prop :=
 ∃ x g, σ[o]? = some x ∧ γ[o]? = some g ∧ match x with
  | .dead => True
  | .arr ver' sz es => (ver < ver' ∨ ver = ver' ∧ n ≤ es.length) ∧ (ver = ver' → n = es.length → off + len ≤ n →
    ∃ a, v = .slice a len (g.cap - off) ∧ (0 < g.cap - off → a = some ⟨g.b, g.base + off * sz, none⟩))
  | _ => False
def ErefOk (σ : St) (γ : List Gh) (o ver n i off : Nat) (v : Value) : Prop :=
 ∃ x g, σ[o]? = some x ∧ γ[o]? = some g ∧ match x with
  | .dead => True
  | .arr ver' sz es => (ver < ver' ∨ ver = ver' ∧ n ≤ es.length) ∧ (ver = ver' → n = es.length → i < n → v = .pointer (some ⟨g.b, g.base + i * sz + off, none⟩))
  | _ => False
inductive RV (w : World) (S : Nat → Prop) (σ : St) (γ : List Gh) : AV → Value → Prop
 | fz (x : AV) (v : Value) (h : RF tab w S x v) : RV w S σ γ x v
 | dead (v : Value) : RV w S σ γ .dead v
 | ref (o off : Nat) (g : Gh) (cs : List AV) (hs : σ[o]? = some (.cells cs)) (hg : γ[o]? = some g) : RV w S σ γ (.ref o off) (.pointer (some ⟨g.b, off, none⟩))
 | mapr (o : Nat) (g : Gh) (es : List (AV × AV)) (hs : σ[o]? = some (.map es)) (hg : γ[o]? = some g) : RV w S σ γ (.mapr o) (.map (some g.b))
 | osl (o ver n off len : Nat) (v : Value) (hv : ∃ a l c, v = .slice a l c) (h : OslOk σ γ o ver n off len v) : RV w S σ γ (.osl o ver n off len) v
 | eref (o ver n i off : Nat) (v : Value) (hv : ∃ p, v = .pointer (some p)) (h : ErefOk σ γ o ver n i off v) : RV w S σ γ (.eref o ver n i off) v
 | fn (f : Nat) (caps : List AV) (vs : List Value) (hl : vs.length = caps.length) (hs : ∀ (j : Nat) (x : AV), caps[j]? = some x → AV.scalar x = true)
   (hr : ∀ (j : Nat) (x : AV) (v : Value), caps[j]? = some x → vs[j]? = some v → RV w S σ γ x v) : RV w S σ γ (.fn f caps) (.func (.func (tab f)) #[] vs.toArray)
 | agg (cs : List AV) (vs : List Value) (hl : vs.length = cs.length) (hs : ∀ (j : Nat) (x : AV), cs[j]? = some x → AV.scalar x = true)
   (hr : ∀ (j : Nat) (x : AV) (v : Value), cs[j]? = some x → vs[j]? = some v → RV w S σ γ x v) : RV w S σ γ (.agg cs) (.agg vs.toArray)
 | tup (cs : List AV) (vs : List Value) (hl : vs.length = cs.length)
   (hr : ∀ (j : Nat) (x : AV) (v : Value), cs[j]? = some x → vs[j]? = some v → RV w S σ γ x v) : RV w S σ γ (.tup cs) (.tuple vs.toArray)
 | iface (t : Nat) (x : AV) (v : Value) (hr : RV w S σ γ x v) : RV w S σ γ (.iface t x) (.iface t v)

def owns : Ob → Gh → Bool
 | .dead, _ => false
 | .res, _ => false
 | .arr _ _ _, g => decide (0 < g.cap)
 | _, _ => true
def Owned (σ : St) (γ : List Gh) (b : Nat) : Prop := ∃ (o : Nat) (x : Ob) (g : Gh), σ[o]? = some x ∧ γ[o]? = some g ∧ owns x g = true ∧ g.b = b
def Stab (w : World) (F : Nat → Prop) (σ : St) (γ : List Gh) (b : Nat) : Prop := b < w.heap.size ∧ ¬ F b ∧ ¬ Owned σ γ b
abbrev RS (w : World) (F : Nat → Prop) (σ : St) (γ : List Gh) (x : AV) (v : Value) : Prop := RV tab w (Stab w F σ γ) σ γ x v

def ObOk (w : World) (S : Nat → Prop) (σ : St) (γ : List Gh) : Ob → Gh → Prop
 | .dead, _ => True
 | .res, _ => True
 | .cells cs, g => ∃ vs ty, w.heap[g.b]? = some (.cells vs ty (0, 0)) ∧ vs.size = cs.length ∧ (∀ (j : Nat) (x : AV), cs[j]? = some x → AV.scalar x = true) ∧
   ∀ (j : Nat) (x : AV) (v : Value), cs[j]? = some x → vs[j]? = some v → RV tab w S σ γ x v
 | .arr _ sz es, g => 0 < sz ∧ es.length ≤ g.cap ∧ (∀ e ∈ es, e.length = sz) ∧ (0 < g.cap → ∃ vs ty, w.heap[g.b]? = some (.cells vs ty (0, 0)) ∧ g.base + g.cap * sz ≤ vs.size ∧
   ∀ (i : Nat) (e : List AV), es[i]? = some e → ∀ (j : Nat) (x : AV), e[j]? = some x → ∃ v, vs[g.base + i * sz + j]? = some v ∧ AV.scalar x = true ∧ RF tab w S x v)
 | .map es, g => ∃ ms clock, w.heap[g.b]? = some (.map ms clock) ∧ ms.size = es.length ∧ ∀ (j : Nat) (p : AV × AV) (m : MapEntry), es[j]? = some p → ms[j]? = some m → RF tab w S p.1 m.key ∧ RV tab w S σ γ p.2 m.val
def GOk (w : World) (S : Nat → Prop) : Prop := ∀ g, (∀ gs, globs g = some gs → RF tab w S (.rptr (gs.map GC.av)) (.pointer (some ⟨g, 0, none⟩)) ∧ S g ∧ ∃ vs ty fr, w.heap[g]? = some (.cells vs ty fr) ∧ vs.size = gs.length) ∧ (∀ k, gints g = some k → S g ∧ ∃ m, w.cell? ⟨g, 0, none⟩ = some (.int k m)) ∧ (gifs g = true → S g ∧ ∃ t v, w.cell? ⟨g, 0, none⟩ = some (.iface t v))
structure Inv (w : World) (F : Nat → Prop) (σ : St) (γ : List Gh) : Prop where
 len : γ.length = σ.length
 fsz : ∀ b, F b → b < w.heap.size
 ok : ∀ (o : Nat) (x : Ob) (g : Gh), σ[o]? = some x → γ[o]? = some g → ObOk tab w (Stab w F σ γ) σ γ x g
 own : ∀ (o : Nat) (x : Ob) (g : Gh), σ[o]? = some x → γ[o]? = some g → owns x g = true → g.b < w.heap.size ∧ ¬ F g.b
 inj : ∀ (o o' : Nat) (x x' : Ob) (g g' : Gh), σ[o]? = some x → γ[o]? = some g → owns x g = true → σ[o']? = some x' → γ[o']? = some g' → owns x' g' = true → g.b = g'.b → o = o'
 gl : GOk tab w (Stab w F σ γ)
end

inductive ObStep : Ob → Gh → Ob → Gh → Prop
 | res (g g' : Gh) (x : Ob) : ObStep .res g x g'
 | dead (g g' : Gh) : ObStep .dead g .dead g'
 | kill (v sz : Nat) (es : List (List AV)) (g g' : Gh) : ObStep (.arr v sz es) g .dead g'
 | cells (cs cs' : List AV) (g : Gh) : ObStep (.cells cs) g (.cells cs') g
 | map (es es' : List (AV × AV)) (g : Gh) : ObStep (.map es) g (.map es') g
 | same (v sz : Nat) (es es' : List (List AV)) (g : Gh) (h : es'.length = es.length) : ObStep (.arr v sz es) g (.arr v sz es') g
 | more (v sz : Nat) (es es' : List (List AV)) (g g' : Gh) (h : es.length < es'.length) : ObStep (.arr v sz es) g (.arr v sz es') g'
 | anew (v v' sz : Nat) (es es' : List (List AV)) (g g' : Gh) (h : v < v') : ObStep (.arr v sz es) g (.arr v' sz es') g'
theorem ObStep.refl (x : Ob) (g : Gh) : ObStep x g x g := by
 cases x with
 | cells cs => exact .cells cs cs g
 | arr v sz es => exact .same v sz es es g rfl
 | map es => exact .map es es g
 | dead => exact .dead g g
 | res => exact .res g g .res
theorem ObStep.trans {x y z : Ob} {g h k : Gh} (a : ObStep x g y h) (b : ObStep y h z k) : ObStep x g z k := by
 cases b with
 | res g g' y =>
  cases a with
  | res => exact .res _ _ _
 | dead g g' =>
  cases a with
  | res => exact .res _ _ _
  | dead => exact .dead _ _
  | kill => exact .kill _ _ _ _ _
 | kill v sz es g g' =>
  cases a with
  | res => exact .res _ _ _
  | same => exact .kill _ _ _ _ _
  | more => exact .kill _ _ _ _ _
  | anew => exact .kill _ _ _ _ _
 | cells cs cs' =>
  cases a with
  | res => exact .res _ _ _
  | cells cs0 => exact .cells _ _ _
 | map es es' =>
  cases a with
  | res => exact .res _ _ _
  | map es0 => exact .map _ _ _
 | same v sz es es' g hl =>
  cases a with
  | res => exact .res _ _ _
  | same _ _ es0 _ _ h0 => exact .same _ _ _ _ _ (by omega)
  | more _ _ es0 _ g0 _ h0 => exact .more _ _ _ _ _ _ (by omega)
  | anew v0 _ _ es0 _ g0 _ h0 => exact .anew _ _ _ _ _ _ _ h0
 | more v sz es es' g g' hl =>
  cases a with
  | res => exact .res _ _ _
  | same _ _ es0 _ _ h0 => exact .more _ _ _ _ _ _ (by omega)
  | more _ _ es0 _ g0 _ h0 => exact .more _ _ _ _ _ _ (by omega)
  | anew v0 _ _ es0 _ g0 _ h0 => exact .anew _ _ _ _ _ _ _ h0
 | anew v v' sz es es' g g' hl =>
  cases a with
  | res => exact .res _ _ _
  | same _ _ es0 _ _ h0 => exact .anew _ _ _ _ _ _ _ hl
  | more _ _ es0 _ g0 _ h0 => exact .anew _ _ _ _ _ _ _ hl
  | anew v0 _ _ es0 _ g0 _ h0 => exact .anew _ _ _ _ _ _ _ (by omega)

structure Step (m : Nat) (w : World) (σ : St) (γ : List Gh) (w' : World) (σ' : St) (γ' : List Gh) : Prop where
 os : w'.os = w.os
 tape : w'.tape = w.tape
 output : w'.output = w.output
 drawn : w.drawn ≤ w'.drawn
 size : w.heap.size ≤ w'.heap.size
 keep : ∀ b, b < w.heap.size → ¬ Owned σ γ b → w'.heap[b]? = w.heap[b]? ∧ ¬ Owned σ' γ' b
 l1 : m ≤ σ.length
 l2 : m ≤ σ'.length
 obj : ∀ (o : Nat) (x : Ob) (g : Gh), o < m → σ[o]? = some x → γ[o]? = some g → ∃ x' g', σ'[o]? = some x' ∧ γ'[o]? = some g' ∧ ObStep x g x' g'
theorem Step.refl {m : Nat} (w : World) {σ : St} (γ : List Gh) (h : m ≤ σ.length) : Step m w σ γ w σ γ :=
 ⟨rfl, rfl, rfl, Nat.le_refl _, Nat.le_refl _, fun _ _ hn => ⟨rfl, hn⟩, h, h, fun _ x g _ hx hg => ⟨x, g, hx, hg, ObStep.refl x g⟩⟩
theorem Step.trans {m : Nat} {w w1 w2 : World} {σ σ1 σ2 : St} {γ γ1 γ2 : List Gh} (a : Step m w σ γ w1 σ1 γ1) (b : Step m w1 σ1 γ1 w2 σ2 γ2) : Step m w σ γ w2 σ2 γ2 :=
 ⟨b.os.trans a.os, b.tape.trans a.tape, b.output.trans a.output, Nat.le_trans a.drawn b.drawn, Nat.le_trans a.size b.size,
  fun k hk hn => by
   obtain ⟨h1, h2⟩ := a.keep k hk hn
   obtain ⟨h3, h4⟩ := b.keep k (Nat.lt_of_lt_of_le hk a.size) h2
   exact ⟨h3.trans h1, h4⟩,
  a.l1, b.l2,
  fun o x g ho hx hg => by
   obtain ⟨x1, g1, hx1, hg1, s1⟩ := a.obj o x g ho hx hg
   obtain ⟨x2, g2, hx2, hg2, s2⟩ := b.obj o x1 g1 ho hx1 hg1
   exact ⟨x2, g2, hx2, hg2, s1.trans s2⟩⟩
theorem Step.mono {m k : Nat} {w w1 : World} {σ σ1 : St} {γ γ1 : List Gh} (a : Step m w σ γ w1 σ1 γ1) (h : k ≤ m) : Step k w σ γ w1 σ1 γ1 :=
 ⟨a.os, a.tape, a.output, a.drawn, a.size, a.keep, Nat.le_trans h a.l1, Nat.le_trans h a.l2, fun o x g ho => a.obj o x g (Nat.lt_of_lt_of_le ho h)⟩
theorem Step.stab {m : Nat} {w w1 : World} {σ σ1 : St} {γ γ1 : List Gh} (a : Step m w σ γ w1 σ1 γ1) {F : Nat → Prop} {b : Nat} (h : Stab w F σ γ b) : Stab w1 F σ1 γ1 b ∧ w1.heap[b]? = w.heap[b]? := by
 obtain ⟨h1, h2, h3⟩ := h
 obtain ⟨e, n⟩ := a.keep b h1 h3
 exact ⟨⟨Nat.lt_of_lt_of_le h1 a.size, h2, n⟩, e⟩

section
variable {tab : Nat → Nat}
theorem cell_eq {w w' : World} {b : Nat} (h : w'.heap[b]? = w.heap[b]?) (j : Nat) : w'.cell? ⟨b, j, none⟩ = w.cell? ⟨b, j, none⟩ := by
 simp only [World.cell?, h]
theorem RF.mono {w w' : World} {S S' : Nat → Prop} (hS : ∀ b, S b → S' b ∧ w'.heap[b]? = w.heap[b]?) {x : AV} {v : Value} (h : RF tab w S x v) : RF tab w' S' x v := by
 induction h with
 | int k n => exact .int k n
 | bool b => exact .bool b
 | str s => exact .str s
 | nilp => exact .nilp
 | rptr b off cs vs hb hc hs hr ih => exact .rptr b off cs vs (hS b hb).1 (fun j x hx => by rw [cell_eq (hS b hb).2]; exact hc j x hx) hs ih
 | nils a => exact .nils a
 | sl0 a c => exact .sl0 a c
 | sl b off sz cap es vs hb hz hl hc hs hr ih => exact .sl b off sz cap es vs (hS b hb).1 hz hl (fun i e he j x hx => by rw [cell_eq (hS b hb).2]; exact hc i e he j x hx) hs ih
 | fn f caps vs hl hs hr ih => exact .fn f caps vs hl hs ih
 | nilfn => exact .nilfn
 | agg cs vs hl hs hr ih => exact .agg cs vs hl hs ih
 | tup cs vs hl hr ih => exact .tup cs vs hl ih
 | nilmap => exact .nilmap
 | fmap b es ms clock hb hh hl hk hr ihk ihr => exact .fmap b es ms clock (hS b hb).1 (by rw [(hS b hb).2]; exact hh) hl ihk ihr
 | iface t x v hr ih => exact .iface t x v ih
 | nilif => exact .nilif
 | zp b t hb hc => exact .zp b t (hS b hb).1 (by rw [(hS b hb).2]; exact hc)
 | nil0 c => exact .nil0 c
 | nne a c => exact .nne a c

theorem GOk.mono {w w' : World} {S S' : Nat → Prop} (hS : ∀ b, S b → S' b ∧ w'.heap[b]? = w.heap[b]?) (h : GOk tab w S) : GOk tab w' S' := fun g =>
 ⟨fun gs hg => by
  obtain ⟨h1, h2, vs, ty, fr, h3, h4⟩ := (h g).1 gs hg
  exact ⟨h1.mono hS, (hS g h2).1, vs, ty, fr, by rw [(hS g h2).2]; exact h3, h4⟩, fun k hk => by
  obtain ⟨h1, m, hm⟩ := (h g).2.1 k hk
  exact ⟨(hS g h1).1, m, by rw [cell_eq (hS g h1).2]; exact hm⟩, fun hk => by
  obtain ⟨h1, t, v, hm⟩ := (h g).2.2 hk
  exact ⟨(hS g h1).1, t, v, by rw [cell_eq (hS g h1).2]; exact hm⟩⟩
theorem norefs_iff (l : List AV) : norefs l = true ↔ ∀ (j : Nat) (x : AV), l[j]? = some x → x.noref = true := by
 induction l with
 | nil => simp [norefs, AV.noref.norefs]
 | cons a r ih =>
  simp only [norefs, AV.noref.norefs, Bool.and_eq_true] at ih ⊢
  rw [ih]
  constructor
  ·rintro ⟨h1, h2⟩ j x hx
   cases j with
   | zero => simp at hx; exact hx ▸ h1
   | succ j => exact h2 j x (by simpa using hx)
  ·intro h
   exact ⟨h 0 a rfl, fun j x hx => h (j + 1) x (by simpa using hx)⟩
theorem unders_iff (m : Nat) (l : List AV) : unders m l = true ↔ ∀ (j : Nat) (x : AV), l[j]? = some x → x.under m = true := by
 induction l with
 | nil => simp [unders, AV.under.unders]
 | cons a r ih =>
  simp only [unders, AV.under.unders, Bool.and_eq_true] at ih ⊢
  rw [ih]
  constructor
  ·rintro ⟨h1, h2⟩ j x hx
   cases j with
   | zero => simp at hx; exact hx ▸ h1
   | succ j => exact h2 j x (by simpa using hx)
  ·intro h
   exact ⟨h 0 a rfl, fun j x hx => h (j + 1) x (by simpa using hx)⟩
theorem get_of_len {α β : Type} {l : List α} {l' : List β} (h : l'.length = l.length) {j : Nat} {x : α} (hx : l[j]? = some x) : ∃ v, l'[j]? = some v := by
 have hj : j < l.length := by
  rcases Nat.lt_or_ge j l.length with h | h
  ·exact h
  ·rw [List.getElem?_eq_none h] at hx; exact absurd hx (by simp)
 exact ⟨l'[j]'(by omega), List.getElem?_eq_getElem (by omega)⟩
theorem lt_of_get {α : Type} {l : List α} {j : Nat} {x : α} (hx : l[j]? = some x) : j < l.length := by
 rcases Nat.lt_or_ge j l.length with h | h
 ·exact h
 ·rw [List.getElem?_eq_none h] at hx; exact absurd hx (by simp)
theorem RF.noref {w : World} {S : Nat → Prop} {x : AV} {v : Value} (h : RF tab w S x v) : x.noref = true := by
 induction h with
 | fn f caps vs hl hs hr ih =>
  simp only [AV.noref]
  rw [norefs_iff]
  intro j x hx
  obtain ⟨v, hv⟩ := get_of_len hl hx
  exact ih j x v hx hv
 | agg cs vs hl hs hr ih =>
  simp only [AV.noref]
  rw [norefs_iff]
  intro j x hx
  obtain ⟨v, hv⟩ := get_of_len hl hx
  exact ih j x v hx hv
 | tup cs vs hl hr ih =>
  simp only [AV.noref]
  rw [norefs_iff]
  intro j x hx
  obtain ⟨v, hv⟩ := get_of_len hl hx
  exact ih j x v hx hv
 | iface t x v hr ih => exact ih
 | _ => rfl
theorem RV.frozen {w : World} {S : Nat → Prop} {σ : St} {γ : List Gh} {x : AV} {v : Value} (h : RV tab w S σ γ x v) (hn : x.noref = true) : RF tab w S x v := by
 induction h with
 | fz x v h => exact h
 | dead | ref | mapr | osl | eref => exact absurd hn (by simp [AV.noref])
 | fn f caps vs hl hs hr ih =>
  simp only [AV.noref] at hn
  rw [norefs_iff] at hn
  exact .fn f caps vs hl hs fun j x v hx hv => ih j x v hx hv (hn j x hx)
 | agg cs vs hl hs hr ih =>
  simp only [AV.noref] at hn
  rw [norefs_iff] at hn
  exact .agg cs vs hl hs fun j x v hx hv => ih j x v hx hv (hn j x hx)
 | tup cs vs hl hr ih =>
  simp only [AV.noref] at hn
  rw [norefs_iff] at hn
  exact .tup cs vs hl fun j x v hx hv => ih j x v hx hv (hn j x hx)
 | iface t x v hr ih => exact .iface t x v (ih hn)
theorem noref_under (m : Nat) {x : AV} (h : x.noref = true) : x.under m = true := by
 cases x with
 | fn f caps => exact go caps h
 | agg cs => exact go cs h
 | tup cs => exact go cs h
 | iface t v => exact noref_under m (x := v) h
 | ref | eref | osl | mapr | dead => exact absurd h (by simp [AV.noref])
 | _ => rfl
where go : ∀ l : List AV, norefs l = true → unders m l = true
 | [], _ => rfl
 | a :: r, h => by
  simp only [norefs, AV.noref.norefs, Bool.and_eq_true] at h
  simp only [unders, AV.under.unders, Bool.and_eq_true]
  exact ⟨noref_under m h.1, go r h.2⟩
theorem RV.under {w : World} {S : Nat → Prop} {σ : St} {γ : List Gh} {x : AV} {v : Value} (h : RV tab w S σ γ x v) : x.under σ.length = true := by
 induction h with
 | fz x v h => exact noref_under _ h.noref
 | dead => rfl
 | ref o off g cs hs hg => simp [AV.under, lt_of_get hs]
 | mapr o g es hs hg => simp [AV.under, lt_of_get hs]
 | osl o ver n off len v hv h => obtain ⟨x, g, hs, _⟩ := h; simp [AV.under, lt_of_get hs]
 | eref o ver n i off v hv h => obtain ⟨x, g, hs, _⟩ := h; simp [AV.under, lt_of_get hs]
 | fn f caps vs hl hs hr ih =>
  simp only [AV.under]
  rw [unders_iff]
  intro j x hx
  obtain ⟨v, hv⟩ := get_of_len hl hx
  exact ih j x v hx hv
 | agg cs vs hl hs hr ih =>
  simp only [AV.under]
  rw [unders_iff]
  intro j x hx
  obtain ⟨v, hv⟩ := get_of_len hl hx
  exact ih j x v hx hv
 | tup cs vs hl hr ih =>
  simp only [AV.under]
  rw [unders_iff]
  intro j x hx
  obtain ⟨v, hv⟩ := get_of_len hl hx
  exact ih j x v hx hv
 | iface t x v hr ih => exact ih

theorem OslOk.step {m : Nat} {w w1 : World} {σ σ1 : St} {γ γ1 : List Gh} (a : Step m w σ γ w1 σ1 γ1) {o ver n off len : Nat} {v : Value} (ho : o < m) (h : OslOk σ γ o ver n off len v) : OslOk σ1 γ1 o ver n off len v := by
 obtain ⟨x, g, hx, hg, h⟩ := h
 obtain ⟨x', g', hx', hg', s⟩ := a.obj o x g ho hx hg
 refine ⟨x', g', hx', hg', ?_⟩
 cases s with
 | res => exact False.elim h
 | dead => trivial
 | kill => trivial
 | cells => exact h
 | map => exact h
 | same v' sz es es' g hl =>
  obtain ⟨h1, h2⟩ := h
  exact ⟨by omega, fun e1 e2 => h2 e1 (by omega)⟩
 | more v' sz es es' g g' hl =>
  obtain ⟨h1, h2⟩ := h
  exact ⟨by omega, fun e1 e2 => by omega⟩
 | anew v' v'' sz es es' g g' hl =>
  obtain ⟨h1, h2⟩ := h
  exact ⟨by omega, fun e1 e2 => by omega⟩
theorem ErefOk.step {m : Nat} {w w1 : World} {σ σ1 : St} {γ γ1 : List Gh} (a : Step m w σ γ w1 σ1 γ1) {o ver n i off : Nat} {v : Value} (ho : o < m) (h : ErefOk σ γ o ver n i off v) : ErefOk σ1 γ1 o ver n i off v := by
 obtain ⟨x, g, hx, hg, h⟩ := h
 obtain ⟨x', g', hx', hg', s⟩ := a.obj o x g ho hx hg
 refine ⟨x', g', hx', hg', ?_⟩
 cases s with
 | res => exact False.elim h
 | dead => trivial
 | kill => trivial
 | cells => exact h
 | map => exact h
 | same v' sz es es' g hl =>
  obtain ⟨h1, h2⟩ := h
  exact ⟨by omega, fun e1 e2 => h2 e1 (by omega)⟩
 | more v' sz es es' g g' hl =>
  obtain ⟨h1, h2⟩ := h
  exact ⟨by omega, fun e1 e2 => by omega⟩
 | anew v' v'' sz es es' g g' hl =>
  obtain ⟨h1, h2⟩ := h
  exact ⟨by omega, fun e1 e2 => by omega⟩
theorem RV.step {m : Nat} {w w1 : World} {σ σ1 : St} {γ γ1 : List Gh} (a : Step m w σ γ w1 σ1 γ1) {F : Nat → Prop} {x : AV} {v : Value} (h : RS tab w F σ γ x v) (hu : x.under m = true) : RS tab w1 F σ1 γ1 x v := by
 unfold RS at h ⊢
 induction h with
 | fz x v h => exact .fz x v (h.mono fun b hb => a.stab hb)
 | dead v => exact .dead v
 | ref o off g cs hs hg =>
  simp [AV.under] at hu
  obtain ⟨x', g', hx', hg', s⟩ := a.obj o _ g hu hs hg
  cases s with
  | cells cs cs' g => exact .ref o off g cs' hx' hg'
 | mapr o g es hs hg =>
  simp [AV.under] at hu
  obtain ⟨x', g', hx', hg', s⟩ := a.obj o _ g hu hs hg
  cases s with
  | map es es' g => exact .mapr o g es' hx' hg'
 | osl o ver n off len v hv h => exact .osl o ver n off len v hv (h.step a (by simpa [AV.under] using hu))
 | eref o ver n i off v hv h => exact .eref o ver n i off v hv (h.step a (by simpa [AV.under] using hu))
 | fn f caps vs hl hs hr ih =>
  simp only [AV.under] at hu
  rw [unders_iff] at hu
  exact .fn f caps vs hl hs fun j x v hx hv => ih j x v hx hv (hu j x hx)
 | agg cs vs hl hs hr ih =>
  simp only [AV.under] at hu
  rw [unders_iff] at hu
  exact .agg cs vs hl hs fun j x v hx hv => ih j x v hx hv (hu j x hx)
 | tup cs vs hl hr ih =>
  simp only [AV.under] at hu
  rw [unders_iff] at hu
  exact .tup cs vs hl fun j x v hx hv => ih j x v hx hv (hu j x hx)
 | iface t x v hr ih => exact .iface t x v (ih hu)
end
end Go.Den

namespace Go.Den
open Go

section
variable {tab : Nat → Nat}
theorem ObOk.under {w : World} {S : Nat → Prop} {σ : St} {γ : List Gh} {x : Ob} {g : Gh} (h : ObOk tab w S σ γ x g) : x.under σ.length = true := by
 cases x with
 | dead => rfl
 | res => rfl
 | arr => rfl
 | cells cs =>
  obtain ⟨vs, ty, _, hl, _, hr⟩ := h
  simp only [Ob.under]
  rw [unders_iff]
  intro j x hx
  have : j < vs.size := by have := lt_of_get hx; omega
  exact (hr j x vs[j] hx (Array.getElem?_eq_getElem this)).under
 | map es =>
  obtain ⟨ms, clock, _, hl, hr⟩ := h
  simp only [Ob.under]
  rw [List.all_eq_true]
  intro p hp
  obtain ⟨j, hj, e⟩ := List.getElem_of_mem hp
  have hj' : j < ms.size := by omega
  obtain ⟨h1, h2⟩ := hr j p ms[j] (by rw [List.getElem?_eq_getElem hj, e]) (Array.getElem?_eq_getElem hj')
  simp [noref_under _ h1.noref, h2.under]
theorem ObOk.step {m : Nat} {w w1 : World} {F : Nat → Prop} {σ σ1 : St} {γ γ1 : List Gh} (a : Step m w σ γ w1 σ1 γ1) {x : Ob} {g : Gh} (h : ObOk tab w (Stab w F σ γ) σ γ x g)
  (hu : x.under m = true) (hb : owns x g = true → w1.heap[g.b]? = w.heap[g.b]?) : ObOk tab w1 (Stab w1 F σ1 γ1) σ1 γ1 x g := by
 cases x with
 | dead => trivial
 | res => trivial
 | arr v sz es =>
  obtain ⟨h1, h2, h3, h4⟩ := h
  refine ⟨h1, h2, h3, fun hc => ?_⟩
  obtain ⟨vs, ty, e1, e2, e3⟩ := h4 hc
  refine ⟨vs, ty, by rw [hb (by simp [owns, hc])]; exact e1, e2, fun i e he j x hx => ?_⟩
  obtain ⟨v, q1, q2, q3⟩ := e3 i e he j x hx
  exact ⟨v, q1, q2, q3.mono fun b hb => a.stab hb⟩
 | cells cs =>
  obtain ⟨vs, ty, e1, hl, hs, hr⟩ := h
  simp only [Ob.under] at hu
  rw [unders_iff] at hu
  exact ⟨vs, ty, by rw [hb rfl]; exact e1, hl, hs, fun j x v hx hv => (hr j x v hx hv).step a (hu j x hx)⟩
 | map es =>
  obtain ⟨ms, clock, e1, hl, hr⟩ := h
  simp only [Ob.under] at hu
  rw [List.all_eq_true] at hu
  refine ⟨ms, clock, by rw [hb rfl]; exact e1, hl, fun j p m hp hm => ?_⟩
  obtain ⟨h1, h2⟩ := hr j p m hp hm
  have := hu p (List.mem_of_getElem? hp)
  simp at this
  exact ⟨h1.mono fun b hb => a.stab hb, h2.step a this.2⟩

theorem change {w w1 : World} {F : Nat → Prop} {σ σ1 : St} {γ γ1 : List Gh} (k : Nat) (I : Inv tab w F σ γ)
  (hos : w1.os = w.os) (htape : w1.tape = w.tape) (hout : w1.output = w.output) (hsize : w.heap.size ≤ w1.heap.size)
  (hoth : ∀ o, o ≠ k → σ1[o]? = σ[o]? ∧ γ1[o]? = γ[o]?) (hlen : σ.length ≤ σ1.length) (hγ : γ1.length = σ1.length)
  (hheap : ∀ b, b < w.heap.size → w1.heap[b]? = w.heap[b]? ∨ ∃ x g, σ[k]? = some x ∧ γ[k]? = some g ∧ owns x g = true ∧ g.b = b)
  (hk : ∀ x g, σ1[k]? = some x → γ1[k]? = some g → owns x g = true → (w.heap.size ≤ g.b ∧ g.b < w1.heap.size) ∨ ∃ x0 g0, σ[k]? = some x0 ∧ γ[k]? = some g0 ∧ owns x0 g0 = true ∧ g.b = g0.b)
  (hs : ∀ x g, σ[k]? = some x → γ[k]? = some g → ∃ x' g', σ1[k]? = some x' ∧ γ1[k]? = some g' ∧ ObStep x g x' g') (hdr : w.drawn ≤ w1.drawn := by first | exact Nat.le_refl _ | exact Nat.le_succ _) :
  Step σ.length w σ γ w1 σ1 γ1 ∧ ((∀ x g, σ1[k]? = some x → γ1[k]? = some g → ObOk tab w1 (Stab w1 F σ1 γ1) σ1 γ1 x g) → Inv tab w1 F σ1 γ1) := by
 have st : Step σ.length w σ γ w1 σ1 γ1 := by
  refine ⟨hos, htape, hout, hdr, hsize, fun b hb hn => ⟨?_, ?_⟩, Nat.le_refl _, hlen, ?_⟩
  ·rcases hheap b hb with h | ⟨x, g, h1, h2, h3, h4⟩
   ·exact h
   ·exact (hn ⟨k, x, g, h1, h2, h3, h4⟩).elim
  ·rintro ⟨o, x, g, h1, h2, h3, h4⟩
   by_cases ho : o = k
   ·subst ho
    rcases hk x g h1 h2 h3 with h | ⟨x0, g0, q1, q2, q3, q4⟩
    ·omega
    ·exact hn ⟨o, x0, g0, q1, q2, q3, by omega⟩
   ·rw [(hoth o ho).1] at h1
    rw [(hoth o ho).2] at h2
    exact hn ⟨o, x, g, h1, h2, h3, h4⟩
  ·intro o x g ho hx hg
   by_cases e : o = k
   ·subst e; exact hs x g hx hg
   ·exact ⟨x, g, by rw [(hoth o e).1]; exact hx, by rw [(hoth o e).2]; exact hg, ObStep.refl x g⟩
 refine ⟨st, fun hok => ⟨hγ, fun b hb => Nat.lt_of_lt_of_le (I.fsz b hb) hsize, ?_, ?_, ?_, I.gl.mono fun b hb => st.stab hb⟩⟩
 ·intro o x g hx hg
  by_cases e : o = k
  ·subst e; exact hok x g hx hg
  ·rw [(hoth o e).1] at hx
   rw [(hoth o e).2] at hg
   have h0 := I.ok o x g hx hg
   refine h0.step st h0.under fun ho => ?_
   rcases hheap g.b (I.own o x g hx hg ho).1 with h | ⟨x', g', h1, h2, h3, h4⟩
   ·exact h
   ·exact (e (I.inj o k x x' g g' hx hg ho h1 h2 h3 h4.symm)).elim
 ·intro o x g hx hg ho
  by_cases e : o = k
  ·subst e
   rcases hk x g hx hg ho with h | ⟨x0, g0, q1, q2, q3, q4⟩
   ·exact ⟨h.2, fun hF => by have := I.fsz _ hF; omega⟩
   ·have := I.own o x0 g0 q1 q2 q3
    rw [q4]; exact ⟨by omega, this.2⟩
  ·rw [(hoth o e).1] at hx
   rw [(hoth o e).2] at hg
   have := I.own o x g hx hg ho
   exact ⟨by omega, this.2⟩
 ·intro o o' x x' g g' h1 h2 h3 h4 h5 h6 h7
  have old : ∀ (o : Nat) (x : Ob) (g : Gh), σ1[o]? = some x → γ1[o]? = some g → owns x g = true → (o = k ∧ w.heap.size ≤ g.b) ∨ ∃ x0 g0, σ[o]? = some x0 ∧ γ[o]? = some g0 ∧ owns x0 g0 = true ∧ g.b = g0.b := by
   intro o x g h1 h2 h3
   by_cases e : o = k
   ·subst e
    rcases hk x g h1 h2 h3 with h | h
    ·exact .inl ⟨rfl, h.1⟩
    ·exact .inr h
   ·rw [(hoth o e).1] at h1
    rw [(hoth o e).2] at h2
    exact .inr ⟨x, g, h1, h2, h3, rfl⟩
  rcases old o x g h1 h2 h3 with ⟨e, q⟩ | ⟨x0, g0, q1, q2, q3, q4⟩ <;> rcases old o' x' g' h4 h5 h6 with ⟨e', q'⟩ | ⟨x0', g0', q1', q2', q3', q4'⟩
  ·omega
  ·have := (I.own o' x0' g0' q1' q2' q3').1; omega
  ·have := (I.own o x0 g0 q1 q2 q3).1; omega
  ·exact I.inj o o' x0 x0' g0 g0' q1 q2 q3 q1' q2' q3' (by omega)

theorem still {w w1 : World} {F : Nat → Prop} {σ : St} {γ : List Gh} (I : Inv tab w F σ γ)
  (hos : w1.os = w.os) (htape : w1.tape = w.tape) (hout : w1.output = w.output) (hsize : w.heap.size ≤ w1.heap.size)
  (hheap : ∀ b, b < w.heap.size → w1.heap[b]? = w.heap[b]?) (hdr : w.drawn ≤ w1.drawn := by first | exact Nat.le_refl _ | exact Nat.le_succ _) : Step σ.length w σ γ w1 σ γ ∧ Inv tab w1 F σ γ := by
 have hn : σ[σ.length]? = none := List.getElem?_eq_none (Nat.le_refl _)
 obtain ⟨h1, h2⟩ := change (w1 := w1) (σ1 := σ) (γ1 := γ) σ.length I hos htape hout hsize (fun o _ => ⟨rfl, rfl⟩) (Nat.le_refl _) I.len (fun b hb => .inl (hheap b hb))
  (fun x g h => by rw [hn] at h; exact absurd h (by simp)) (fun x g h => by rw [hn] at h; exact absurd h (by simp)) hdr
 exact ⟨h1, h2 fun x g h => by rw [hn] at h; exact absurd h (by simp)⟩

theorem add_none (b off n : Nat) : (⟨b, off, none⟩ : Addr).add n = ⟨b, off + n, none⟩ := by
 unfold Addr.add; split <;> simp_all

theorem deref_ok {w : World} {F : Nat → Prop} {σ : St} {γ : List Gh} (I : Inv tab w F σ γ) {x : AV} {v : Value} (h : RS tab w F σ γ x v) {cs : List AV} {t : Bool} (hd : deref σ x = some (cs, t)) :
  ∃ b off, v = .pointer (some ⟨b, off, none⟩) ∧ ∀ (j : Nat) (y : AV), cs[j]? = some y → ∃ u, w.cell? ⟨b, off + j, none⟩ = some u ∧ RS tab w F σ γ y u ∧ y.scalar = true := by
 cases x with
 | rptr cs0 =>
  simp only [deref, Option.some.injEq, Prod.mk.injEq] at hd
  obtain ⟨rfl, rfl⟩ := hd
  cases h.frozen rfl with
  | rptr b off _ vs hb hc hs hr => exact ⟨b, off, rfl, fun j y hy => ⟨vs j, hc j y hy, .fz _ _ (hr j y hy), hs j y hy⟩⟩
 | zp t =>
  simp only [deref, Option.some.injEq, Prod.mk.injEq] at hd
  obtain ⟨rfl, rfl⟩ := hd
  cases h.frozen rfl with
  | zp b _ hb hc => exact ⟨b, 0, rfl, fun j y hy => by simp at hy⟩
 | ref o off =>
  cases h with
  | fz _ _ h => exact absurd h.noref (by simp [AV.noref])
  | ref _ _ g cs0 hs hg =>
   simp only [deref, hs, Option.some.injEq, Prod.mk.injEq] at hd
   obtain ⟨rfl, rfl⟩ := hd
   obtain ⟨vs, ty, h1, h2, h3, h4⟩ := I.ok o _ g hs hg
   refine ⟨g.b, off, rfl, fun j y hy => ?_⟩
   rw [List.getElem?_drop] at hy
   have hj : off + j < vs.size := by have := lt_of_get hy; omega
   exact ⟨vs[off + j], by simp [World.cell?, h1, Array.getElem?_eq_getElem hj], h4 _ y _ hy (Array.getElem?_eq_getElem hj), h3 _ y hy⟩
 | eref o ver n i off =>
  cases h with
  | fz _ _ h => exact absurd h.noref (by simp [AV.noref])
  | eref _ _ _ _ _ _ _ h =>
   obtain ⟨x, g, hx, hg, h⟩ := h
   simp only [deref, hx] at hd
   cases x with
   | arr ver' sz es =>
    simp only [] at hd h
    split at hd
    ·rename_i hv
     obtain ⟨rfl, hn⟩ := hv
     split at hd
     ·rename_i e he
      simp only [Option.some.injEq, Prod.mk.injEq] at hd
      obtain ⟨rfl, rfl⟩ := hd
      have hi := lt_of_get he
      have hv := h.2 rfl hn.symm (by omega)
      obtain ⟨k1, k2, k3, k4⟩ := I.ok o _ g hx hg
      obtain ⟨vs, ty, q1, q2, q3⟩ := k4 (by omega)
      refine ⟨g.b, _, hv, fun j y hy => ?_⟩
      rw [List.getElem?_drop] at hy
      obtain ⟨u, u1, u2, u3⟩ := q3 i e he _ y hy
      exact ⟨u, by simp only [World.cell?, q1]; simp; rw [← u1]; congr 1; omega, .fz _ _ u3, u2⟩
     ·exact absurd hd (by simp)
    ·exact absurd hd (by simp)
   | _ => simp at hd
 | _ => simp [deref] at hd

theorem elems_ok {w : World} {F : Nat → Prop} {σ : St} {γ : List Gh} (I : Inv tab w F σ γ) {x : AV} {v : Value} (h : RS tab w F σ γ x v) {es : List (List AV)} {t : Bool} (hd : elems σ x = some (es, t)) :
  ∃ a cap, v = .slice a es.length cap ∧ es.length ≤ cap ∧ (es = [] ∨ ∃ b off sz, a = some ⟨b, off, none⟩ ∧ (∀ e ∈ es, e.length = sz) ∧
   ∀ (i : Nat) (e : List AV), es[i]? = some e → ∀ (j : Nat) (y : AV), e[j]? = some y → ∃ u, w.cell? ⟨b, off + i * sz + j, none⟩ = some u ∧ RF tab w (Stab w F σ γ) y u ∧ y.scalar = true) := by
 cases x with
 | nils =>
  simp only [elems, Option.some.injEq, Prod.mk.injEq] at hd
  obtain ⟨rfl, rfl⟩ := hd
  cases h with
  | fz _ _ h => cases h with
   | nils a => exact ⟨a, 0, rfl, Nat.le_refl _, .inl rfl⟩
 | sl es0 =>
  simp only [elems, Option.some.injEq, Prod.mk.injEq] at hd
  obtain ⟨rfl, rfl⟩ := hd
  cases h with
  | fz _ _ h => cases h with
   | sl0 a c => exact ⟨a, c, rfl, Nat.zero_le _, .inl rfl⟩
   | sl b off sz cap _ vs hb hz hl hc hs hr => exact ⟨_, cap, rfl, hl, .inr ⟨b, off, sz, rfl, hz, fun i e he j y hy => ⟨vs i j, hc i e he j y hy, hr i e he j y hy, hs i e he j y hy⟩⟩⟩
 | osl o ver n off len =>
  cases h with
  | fz _ _ h => exact absurd h.noref (by simp [AV.noref])
  | osl _ _ _ _ _ _ _ h =>
   obtain ⟨x, g, hx, hg, h⟩ := h
   simp only [elems, hx] at hd
   cases x with
   | arr ver' sz es0 =>
    simp only [] at hd h
    split at hd
    ·rename_i hv
     obtain ⟨rfl, hn, ho⟩ := hv
     simp only [Option.some.injEq, Prod.mk.injEq] at hd
     obtain ⟨rfl, rfl⟩ := hd
     obtain ⟨a, hv, ha⟩ := h.2 rfl hn.symm ho
     obtain ⟨k1, k2, k3, k4⟩ := I.ok o _ g hx hg
     have hl : ((es0.drop off).take len).length = len := by simp; omega
     refine ⟨a, _, by rw [hl]; exact hv, by omega, ?_⟩
     by_cases h0 : len = 0
     ·subst h0; exact .inl (by simp)
     ·refine .inr ⟨g.b, g.base + off * sz, sz, ha (by omega), fun e he => k3 e (List.mem_of_mem_drop (List.mem_of_mem_take he)), fun i e he j y hy => ?_⟩
      obtain ⟨vs, ty, q1, q2, q3⟩ := k4 (by omega)
      have hi : i < len := by have := lt_of_get he; omega
      rw [List.getElem?_take_of_lt hi, List.getElem?_drop] at he
      obtain ⟨u, u1, u2, u3⟩ := q3 _ e he _ y hy
      refine ⟨u, ?_, u3, u2⟩
      simp only [World.cell?, q1]
      simp
      rw [← u1]
      congr 1
      rw [Nat.add_mul]; omega
    ·exact absurd hd (by simp)
   | _ => simp at hd
 | nil0 =>
  simp only [elems, Option.some.injEq, Prod.mk.injEq] at hd
  obtain ⟨rfl, rfl⟩ := hd
  cases h with
  | fz _ _ h => cases h with
   | nil0 c => exact ⟨none, c, rfl, Nat.zero_le _, .inl rfl⟩
 | nne =>
  simp only [elems, Option.some.injEq, Prod.mk.injEq] at hd
  obtain ⟨rfl, rfl⟩ := hd
  cases h with
  | fz _ _ h => cases h with
   | nne a c => exact ⟨some a, c, rfl, Nat.zero_le _, .inl rfl⟩
 | _ => simp [elems] at hd
end
end Go.Den

namespace Go.Den
open Go

section
variable (P : Program) (tab : Nat → Nat)
def constB : Value → AV → Bool
 | .agg vs, .agg cs => go vs.toList cs
 | v, x => scal v x
where
 scal : Value → AV → Bool
  | .int k n, .int k' n' => k == k' && n == n'
  | .bool b, .bool b' => b == b'
  | .string s, .str s' => s.data == s'.data
  | .pointer none, .nilp => true
  | .slice none 0 0, .nils => true
  | .slice none 0 0, .nil0 => true
  | .map none, .nilmap => true
  | .nilFunc, .nilfn => true
  | .nilIface, .nilif => true
  | _, _ => false
 go : List Value → List AV → Bool
  | [], [] => true
  | v :: vs, x :: xs => scal v x && go vs xs
  | _, _ => false
def chkOpd : Operand → Opd → Bool
 | .tmp t, .t t' => t == t'
 | .const v, .c x => constB v x
 | .func f, .c (.fn s []) => tab s == f
 | _, _ => false
def chkOpds : List Operand → List Opd → Bool
 | [], [] => true
 | x :: xs, y :: ys => chkOpd tab x y && chkOpds xs ys
 | _, _ => false
def szB (t : TypeId) (n : Nat) : Bool := match P.info? t with
 | some i => i.size == n
 | none => false
def aggB (t : TypeId) (b : Bool) : Bool := match P.underlying t with
 | some (.struct _) | some (.array _ _) => b
 | some _ => !b
 | none => false
def zeroB (t : TypeId) (zs : List AV) : Bool := match P.info? t with
 | some i => match i.zero with
  | some z => constB.go z.cells.toList zs
  | none => false
 | none => false
def elemB (t : TypeId) : Option TypeId := match P.underlying t with
 | some (.slice e) => some e
 | _ => none

theorem constB_scal {w : World} {S : Nat → Prop} {v : Value} {x : AV} (h : constB.scal v x = true) : RF tab w S x v ∧ x.scalar = true := by
 unfold constB.scal at h
 split at h <;> simp at h
 ·obtain ⟨rfl, rfl⟩ := h; exact ⟨.int _ _, rfl⟩
 ·subst h; exact ⟨.bool _, rfl⟩
 ·rename_i s s'
  obtain ⟨d⟩ := s; obtain ⟨d'⟩ := s'
  simp at h; subst h; exact ⟨.str _, rfl⟩
 ·exact ⟨.nilp, rfl⟩
 ·exact ⟨.nils _, rfl⟩
 ·exact ⟨.nil0 _, rfl⟩
 ·exact ⟨.nilmap, rfl⟩
 ·exact ⟨.nilfn, rfl⟩
 ·exact ⟨.nilif, rfl⟩
theorem constB_go {w : World} {S : Nat → Prop} : ∀ {vs : List Value} {cs : List AV}, constB.go vs cs = true → vs.length = cs.length ∧ (∀ (j : Nat) (x : AV), cs[j]? = some x → x.scalar = true) ∧
  ∀ (j : Nat) (x : AV) (v : Value), cs[j]? = some x → vs[j]? = some v → RF tab w S x v
 | [], [], _ => ⟨rfl, by simp, by simp⟩
 | [], _ :: _, h => by simp [constB.go] at h
 | _ :: _, [], h => by simp [constB.go] at h
 | v :: vs, x :: xs, h => by
  simp only [constB.go, Bool.and_eq_true] at h
  obtain ⟨h1, h2⟩ := h
  obtain ⟨e, s, r⟩ := constB_go (w := w) (S := S) h2
  obtain ⟨q1, q2⟩ := constB_scal tab (w := w) (S := S) h1
  refine ⟨by simp [e], fun j y hy => ?_, fun j y u hy hu => ?_⟩
  ·cases j with
   | zero => simp at hy; exact hy ▸ q2
   | succ j => exact s j y (by simpa using hy)
  ·cases j with
   | zero => simp at hy hu; exact hy ▸ hu ▸ q1
   | succ j => exact r j y u (by simpa using hy) (by simpa using hu)
theorem constB_ok {w : World} {S : Nat → Prop} {v : Value} {x : AV} (h : constB v x = true) : RF tab w S x v := by
 unfold constB at h
 split at h
 ·rename_i vs cs
  obtain ⟨e, s, r⟩ := constB_go tab (w := w) (S := S) h
  have := RF.agg (tab := tab) (w := w) (S := S) cs vs.toList e s r
  simpa using this
 ·exact (constB_scal tab h).1
end

def EnvOk (tab : Nat → Nat) (w : World) (F : Nat → Prop) (σ : St) (γ : List Gh) (env : Env) (tmps : Array Value) : Prop := ∀ t, RS tab w F σ γ (env.get t) (tmps.getD t undef)
def FrameOk (b : Nat) (σ : St) : Prop := ∀ (o : Nat) (x : Ob), o < b → σ[o]? = some x → x.under b = true
def Fr (base : Nat) (σ σ' : St) : Prop := ∀ b, b ≤ base → FrameOk b σ → FrameOk b σ'
theorem Fr.refl (base : Nat) (σ : St) : Fr base σ σ := fun _ _ h => h
theorem Fr.trans {base : Nat} {σ σ1 σ2 : St} (a : Fr base σ σ1) (b : Fr base σ1 σ2) : Fr base σ σ2 := fun k hk h => b k hk (a k hk h)
theorem Fr.push {base : Nat} {σ : St} (h : base ≤ σ.length) (τ : St) : Fr base σ (σ ++ τ) := fun b hb hf o x ho hx => by
 rw [List.getElem?_append_left (by omega)] at hx
 exact hf o x ho hx
theorem Fr.set {base : Nat} {σ : St} {o : Nat} {x : Ob} (h : ∀ b, o < b → b ≤ base → FrameOk b σ → x.under b = true) : Fr base σ (σ.set o x) := fun b hb hf o' y ho hy => by
 rw [List.getElem?_set] at hy
 split at hy
 ·rename_i e; subst e
  split at hy
  ·simp at hy; subst hy; exact h b ho hb hf
  ·exact absurd hy (by simp)
 ·exact hf o' y ho hy

section
variable {P : Program} {tab : Nat → Nat}
theorem opd_ok {w : World} {F : Nat → Prop} {σ : St} {γ : List Gh} {env : Env} {a : Act} (E : EnvOk tab w F σ γ env a.tmps) {x : Operand} {y : Opd} (h : chkOpd tab x y = true) : RS tab w F σ γ (ev env y) (a.eval x) := by
 unfold chkOpd at h
 split at h
 ·simp at h; subst h; exact E _
 ·exact .fz _ _ (constB_ok tab h)
 ·rename_i f s
  simp at h; subst h
  exact .fz _ _ (.fn s [] [] rfl (by simp) (by simp))
 ·exact absurd h (by simp)
theorem cells_ok {w : World} {S : Nat → Prop} {σ : St} {γ : List Gh} {x : AV} {v : Value} (h : RV tab w S σ γ x v) (hs : ∀ (j : Nat) (y : AV), x.cellsOf[j]? = some y → y.scalar = true) :
  v.cells.size = x.cellsOf.length ∧ (∀ (j : Nat) (y : AV) (u : Value), x.cellsOf[j]? = some y → v.cells[j]? = some u → RV tab w S σ γ y u) := by
 have one : ∀ {x : AV} {v : Value}, RV tab w S σ γ x v → x.cellsOf = [x] → v.cells = #[v] → v.cells.size = x.cellsOf.length ∧ (∀ (j : Nat) (y : AV) (u : Value), x.cellsOf[j]? = some y → v.cells[j]? = some u → RV tab w S σ γ y u) := by
  intro x v h e1 e2
  rw [e1, e2]
  refine ⟨rfl, fun j y u hy hu => ?_⟩
  cases j with
  | zero => simp at hy hu; exact hy ▸ hu ▸ h
  | succ j => simp at hy
 cases h with
 | fz _ _ h0 =>
  cases h0 with
  | agg cs vs hl hs0 hr => exact ⟨by simpa [Value.cells, AV.cellsOf] using hl, fun j y u hy hu => .fz _ _ (hr j y u hy (by simpa [Value.cells] using hu))⟩
  | tup cs vs hl hr => exact absurd (hs 0 _ rfl) (by simp [AV.scalar])
  | _ => exact one (.fz _ _ (by constructor <;> assumption)) rfl rfl
 | agg cs vs hl hs0 hr => exact ⟨by simpa [Value.cells, AV.cellsOf] using hl, fun j y u hy hu => hr j y u hy (by simpa [Value.cells] using hu)⟩
 | tup cs vs hl hr => exact absurd (hs 0 _ rfl) (by simp [AV.scalar])
 | dead => exact absurd (hs 0 _ rfl) (by simp [AV.scalar])
 | ref o off g cs h1 h2 => exact one (.ref o off g cs h1 h2) rfl rfl
 | mapr o g es h1 h2 => exact one (.mapr o g es h1 h2) rfl rfl
 | osl o ver n off len _ hv h => obtain ⟨p, l, c, rfl⟩ := hv; exact one (.osl o ver n off len _ ⟨p, l, c, rfl⟩ h) rfl rfl
 | eref o ver n i off _ hv h => obtain ⟨p, rfl⟩ := hv; exact one (.eref o ver n i off _ ⟨p, rfl⟩ h) rfl rfl
 | fn f caps vs hl hs0 hr => exact one (.fn f caps vs hl hs0 hr) rfl rfl
 | iface t x v hr => exact one (.iface t x v hr) rfl rfl
theorem one_ok {w : World} {S : Nat → Prop} {σ : St} {γ : List Gh} {x : AV} {v : Value} (h : RV tab w S σ γ x v) (hs : x.scalar = true) : v.oneCell' = true := by
 cases h with
 | fz _ _ h0 => cases h0 <;> first | rfl | exact absurd hs (by simp [AV.scalar])
 | agg | tup | dead => exact absurd hs (by simp [AV.scalar])
 | osl o ver n off len _ hv h => obtain ⟨p, l, c, rfl⟩ := hv; rfl
 | eref o ver n i off _ hv h => obtain ⟨p, rfl⟩ := hv; rfl
 | _ => rfl
end
end Go.Den

namespace Go.Den
open Go

section
variable {P : Program} {tab : Nat → Nat}
def Done (tab : Nat → Nat) (F : Nat → Prop) (base : Nat) (w : World) (σ : St) (γ : List Gh) (r : Result Next) (av : AV) (σ' : St) : Prop :=
 ∃ v w' γ', (r = .ok (.value v) w' ∨ (r = .ok .skip w' ∧ v = undef)) ∧ Step σ.length w σ γ w' σ' γ' ∧ Inv tab w' F σ' γ' ∧ RS tab w' F σ' γ' av v ∧ Fr base σ σ'
theorem done_same {F : Nat → Prop} {base : Nat} {w : World} {σ : St} {γ : List Gh} {r : Result Next} {av : AV} {v : Value} (I : Inv tab w F σ γ) (hr : r = .ok (.value v) w) (h : RS tab w F σ γ av v) : Done tab F base w σ γ r av σ :=
 ⟨v, w, γ, .inl hr, Step.refl w γ (Nat.le_refl _), I, h, Fr.refl _ _⟩

theorem run_sz {t : TypeId} {n : Nat} {w : World} (h : szB P t n = true) : (sizeOf t).run P w = .ok n w := by
 unfold szB at h
 split at h
 ·rename_i i hi; simp at h; simp [sizeOf, run_typeInfo w hi, h]
 ·exact absurd h (by simp)
theorem run_agg {t : TypeId} {b : Bool} {w : World} (h : aggB P t b = true) : (isAgg t).run P w = .ok b w := by
 unfold aggB at h
 split at h
 ·rename_i hi; simp [isAgg, run_underlying hi, h]
 ·rename_i hi; simp [isAgg, run_underlying hi, h]
 ·rename_i d hn1 hn2 hi
  simp at h; subst h
  cases d <;> first | exact (hn1 _ rfl).elim | exact (hn2 _ _ rfl).elim | simp [isAgg, run_underlying hi]
 ·exact absurd h (by simp)
theorem run_zero {t : TypeId} {zs : List AV} {w : World} (h : zeroB P t zs = true) : ∃ z, (zeroValue t).run P w = .ok z w ∧ constB.go z.cells.toList zs = true := by
 unfold zeroB at h
 split at h
 ·rename_i i hi
  split at h
  ·rename_i z hz; exact ⟨z, by simp [zeroValue, run_typeInfo w hi, hz], h⟩
  ·exact absurd h (by simp)
 ·exact absurd h (by simp)

theorem run_loadVar_front {w : World} {F : Nat → Prop} {σ : St} {γ : List Gh} {t : TypeId} {ag : Bool} {sz b off : Nat} {cs : List AV} {av : AV} (ha : aggB P t ag = true) (hz : szB P t sz = true)
  (hc : ∀ (j : Nat) (y : AV), cs[j]? = some y → ∃ u, w.cell? ⟨b, off + j, none⟩ = some u ∧ RS tab w F σ γ y u ∧ y.scalar = true) (hf : front ag sz cs = some av) :
  ∃ v, (loadVar t ⟨b, off, none⟩).run P w = .ok v w ∧ RS tab w F σ γ av v := by
 unfold front at hf
 split at hf
 ·rename_i hle
  cases ag with
  | true =>
   simp at hf; subst hf
   have hcell : ∀ j, j < sz → w.cell? ((⟨b, off, none⟩ : Addr).add j) = some ((w.cell? ⟨b, off + j, none⟩).getD undef) := by
    intro j hj
    obtain ⟨u, hu, _⟩ := hc j cs[j] (List.getElem?_eq_getElem (by omega))
    rw [add_none, hu]; rfl
   refine ⟨.agg ((List.range sz).map fun j => (w.cell? ⟨b, off + j, none⟩).getD undef).toArray, ?_, ?_⟩
   ·simp only [loadVar, Sem.run_bind, run_agg ha, Result.andThen_ok, if_true, run_sz hz, run_loadCells w _ sz _ hcell, Sem.run_pure]
   ·refine .agg _ _ (by simp; omega) (fun j x hx => ?_) (fun j x v hx hv => ?_)
    ·have hj : j < sz := by have := lt_of_get hx; simp at this; omega
     rw [List.getElem?_take_of_lt hj] at hx
     exact (hc j x hx).choose_spec.2.2
    ·have hj : j < sz := by have := lt_of_get hx; simp at this; omega
     rw [List.getElem?_take_of_lt hj] at hx
     obtain ⟨u, hu, hr, _⟩ := hc j x hx
     simp [hj] at hv
     rw [hu] at hv; simp at hv; subst hv; exact hr
  | false =>
   cases cs with
   | nil => simp at hf
   | cons y ys =>
    simp at hf; subst hf
    obtain ⟨u, hu, hr, _⟩ := hc 0 y rfl
    exact ⟨u, by simp only [loadVar, Sem.run_bind, run_agg ha, Result.andThen_ok, Bool.false_eq_true, if_false, run_load]; simp at hu; rw [hu], hr⟩
 ·exact absurd hf (by simp)
theorem load_ok {w : World} {F : Nat → Prop} {base : Nat} {σ : St} {γ : List Gh} {t : TypeId} {ag : Bool} {sz : Nat} {x : AV} {v : Value} {cs : List AV} {tt : Bool} {av : AV} (I : Inv tab w F σ γ)
  (ha : aggB P t ag = true) (hz : szB P t sz = true) (hx : RS tab w F σ γ x v) (hd : deref σ x = some (cs, tt)) (hf : front ag sz cs = some av) :
  Done tab F base w σ γ ((do pure (Next.value (← Instr.loadAt t v)) : Sem Next).run P w) av σ := by
 obtain ⟨b, off, rfl, hc⟩ := deref_ok I hx hd
 obtain ⟨u, hu, hr⟩ := run_loadVar_front ha hz hc hf
 exact done_same I (by simp [Instr.loadAt, Instr.sureAddr, hu]) hr

theorem push_lt (w : World) (o : Obj) (b : Nat) (h : b < w.heap.size) : (w.heap.push o)[b]? = w.heap[b]? := by rw [Array.getElem?_push, if_neg (by omega)]
theorem free_push {w : World} {F : Nat → Prop} {σ : St} {γ : List Gh} (I : Inv tab w F σ γ) (o : Obj) : Step σ.length w σ γ { w with heap := w.heap.push o } σ γ ∧ Inv tab { w with heap := w.heap.push o } F σ γ :=
 still I rfl rfl rfl (by simp) (fun b hb => push_lt w o b hb)
theorem free_stab {w : World} {F : Nat → Prop} {σ : St} {γ : List Gh} (I : Inv tab w F σ γ) (o : Obj) : Stab { w with heap := w.heap.push o } F σ γ w.heap.size :=
 ⟨by simp, fun hF => by have := I.fsz _ hF; omega, fun ⟨k, x, g, h1, h2, h3, h4⟩ => by have := (I.own k x g h1 h2 h3).1; omega⟩
theorem new_push {w : World} {F : Nat → Prop} {base : Nat} {σ : St} {γ : List Gh} (I : Inv tab w F σ γ) (hb : base ≤ σ.length) (o : Obj) (x : Ob) (cap : Nat)
  (hok : Step σ.length w σ γ { w with heap := w.heap.push o } (σ ++ [x]) (γ ++ [⟨w.heap.size, 0, cap⟩]) →
   ObOk tab { w with heap := w.heap.push o } (Stab { w with heap := w.heap.push o } F (σ ++ [x]) (γ ++ [⟨w.heap.size, 0, cap⟩])) (σ ++ [x]) (γ ++ [⟨w.heap.size, 0, cap⟩]) x ⟨w.heap.size, 0, cap⟩) :
  Step σ.length w σ γ { w with heap := w.heap.push o } (σ ++ [x]) (γ ++ [⟨w.heap.size, 0, cap⟩]) ∧ Inv tab { w with heap := w.heap.push o } F (σ ++ [x]) (γ ++ [⟨w.heap.size, 0, cap⟩]) ∧ Fr base σ (σ ++ [x]) := by
 have hl := I.len
 have e1 : (σ ++ [x])[σ.length]? = some x := by simp
 have e2 : (γ ++ [(⟨w.heap.size, 0, cap⟩ : Gh)])[σ.length]? = some ⟨w.heap.size, 0, cap⟩ := by rw [← hl]; simp
 have hn : σ[σ.length]? = none := List.getElem?_eq_none (Nat.le_refl _)
 obtain ⟨h1, h2⟩ := change (w1 := { w with heap := w.heap.push o }) (σ1 := σ ++ [x]) (γ1 := γ ++ [⟨w.heap.size, 0, cap⟩]) σ.length I rfl rfl rfl (by simp)
  (fun k hk => by
   rcases Nat.lt_or_ge k σ.length with h | h
   ·exact ⟨List.getElem?_append_left h, List.getElem?_append_left (by omega)⟩
   ·rw [List.getElem?_eq_none (by simp; omega), List.getElem?_eq_none h, List.getElem?_eq_none (by simp; omega), List.getElem?_eq_none (by omega)]; exact ⟨rfl, rfl⟩)
  (by simp) (by simp [hl]) (fun b hb => .inl (push_lt w o b hb))
  (fun y g hy hg _ => by rw [e2] at hg; simp at hg; subst hg; exact .inl ⟨Nat.le_refl _, by simp⟩)
  (fun y g hy => by rw [hn] at hy; exact absurd hy (by simp))
 refine ⟨h1, h2 fun y g hy hg => ?_, Fr.push hb _⟩
 rw [e1] at hy; rw [e2] at hg
 simp at hy hg; subst hy; subst hg
 exact hok h1
theorem cells_obj {w w1 : World} {F : Nat → Prop} {σ σ1 : St} {γ γ1 : List Gh} {m : Nat} (st : Step m w σ γ w1 σ1 γ1) {cs : List AV} {vs : Array Value} {ty : TypeId} {g : Gh} (hb : w1.heap[g.b]? = some (.cells vs ty (0, 0)))
  (hl : vs.size = cs.length) (hs : ∀ (j : Nat) (x : AV), cs[j]? = some x → x.scalar = true) (hu : unders m cs = true) (hr : ∀ (j : Nat) (x : AV) (v : Value), cs[j]? = some x → vs[j]? = some v → RS tab w F σ γ x v) :
  ObOk tab w1 (Stab w1 F σ1 γ1) σ1 γ1 (.cells cs) g :=
 ⟨vs, ty, hb, hl, hs, fun j x v hx hv => (hr j x v hx hv).step st ((unders_iff m cs).1 hu j x hx)⟩

theorem box_ok {w : World} {F : Nat → Prop} {base : Nat} {σ : St} {γ : List Gh} {t : TypeId} {x : AV} {v : Value} (I : Inv tab w F σ γ) (hb : base ≤ σ.length) (hx : RS tab w F σ γ x v) (hs : x.cellsOf.all AV.scalar = true) :
  Done tab F base w σ γ ((do pure (Next.value (← Instr.box t v)) : Sem Next).run P w) (.ref σ.length 0) (σ ++ [.cells x.cellsOf]) := by
 have hs' : ∀ (j : Nat) (y : AV), x.cellsOf[j]? = some y → y.scalar = true := fun j y hy => (List.all_eq_true.1 hs) y (List.mem_of_getElem? hy)
 obtain ⟨q1, q2⟩ := cells_ok hx hs'
 obtain ⟨h1, h2, h3⟩ := new_push I hb (.cells v.cells t) (.cells x.cellsOf) 0 fun st =>
  cells_obj (g := ⟨w.heap.size, 0, 0⟩) st (Array.getElem?_push_size) q1 hs' ((unders_iff _ _).2 fun j y hy => by
   have hj : j < v.cells.size := by have := lt_of_get hy; omega
   exact (q2 j y v.cells[j] hy (Array.getElem?_eq_getElem hj)).under) q2
 exact ⟨.pointer (some ⟨w.heap.size, 0, none⟩), _, _, .inl (by simp [Instr.box, newVar, newRow]), h1, h2, .ref σ.length 0 ⟨w.heap.size, 0, 0⟩ x.cellsOf (by simp) (by rw [← I.len]; simp), h3⟩
theorem box_ro_ok {w : World} {F : Nat → Prop} {base : Nat} {σ : St} {γ : List Gh} {t : TypeId} {x : AV} {v : Value} (I : Inv tab w F σ γ) (hx : RS tab w F σ γ x v) (hs : x.cellsOf.all AV.scalar = true) (hn : norefs x.cellsOf = true) :
  Done tab F base w σ γ ((do pure (Next.value (← Instr.box t v)) : Sem Next).run P w) (.rptr x.cellsOf) σ := by
 have hs' : ∀ (j : Nat) (y : AV), x.cellsOf[j]? = some y → y.scalar = true := fun j y hy => (List.all_eq_true.1 hs) y (List.mem_of_getElem? hy)
 obtain ⟨q1, q2⟩ := cells_ok hx hs'
 obtain ⟨h1, h2⟩ := free_push I (.cells v.cells t)
 refine ⟨.pointer (some ⟨w.heap.size, 0, none⟩), _, _, .inl (by simp [Instr.box, newVar, newRow]), h1, h2, ?_, Fr.refl _ _⟩
 refine .fz _ _ (.rptr w.heap.size 0 x.cellsOf (fun j => v.cells.getD j undef) (free_stab I _) (fun j y hy => ?_) hs' (fun j y hy => ?_))
 ·have hj : j < v.cells.size := by have := lt_of_get hy; omega
  simp [World.cell?, hj]
 ·have hj : j < v.cells.size := by have := lt_of_get hy; omega
  have := (q2 j y v.cells[j] hy (Array.getElem?_eq_getElem hj)).frozen ((norefs_iff _).1 hn j y hy)
  simp [hj]
  exact this.mono fun b hb => h1.stab hb

theorem boxz_ok {w : World} {F : Nat → Prop} {base : Nat} {σ : St} {γ : List Gh} {t : TypeId} {v : Value} (I : Inv tab w F σ γ) :
  Done tab F base w σ γ ((do pure (Next.value (← Instr.box t v)) : Sem Next).run P w) (.zp t) σ := by
 obtain ⟨h1, h2⟩ := free_push I (.cells v.cells t)
 exact ⟨.pointer (some ⟨w.heap.size, 0, none⟩), _, _, .inl (by simp [Instr.box, newVar, newRow]), h1, h2, .fz _ _ (.zp w.heap.size t (free_stab I _) ⟨_, _, by simp; exact ⟨rfl, rfl⟩⟩), Fr.refl _ _⟩

theorem set_row {w : World} {F : Nat → Prop} {σ : St} {γ : List Gh} (I : Inv tab w F σ γ) {k : Nat} {x x' : Ob} {g : Gh} (hx : σ[k]? = some x) (hg : γ[k]? = some g) (ho : owns x g = true) (hs : ObStep x g x' g) {ws : Array Value} :
  Step σ.length w σ γ (w.setRow g.b ws) (σ.set k x') γ ∧ ((ObOk tab (w.setRow g.b ws) (Stab (w.setRow g.b ws) F (σ.set k x') γ) (σ.set k x') γ x' g) → Inv tab (w.setRow g.b ws) F (σ.set k x') γ) := by
 have hk := lt_of_get hx
 obtain ⟨h1, h2⟩ := change (w1 := w.setRow g.b ws) (σ1 := σ.set k x') (γ1 := γ) k I rfl rfl rfl (by simp)
  (fun o ho => ⟨by rw [List.getElem?_set]; simp [Ne.symm ho], rfl⟩) (by simp) (by simp [I.len])
  (fun b hb' => by
   by_cases e : b = g.b
   ·exact .inr ⟨x, g, hx, hg, ho, e.symm⟩
   ·exact .inl (setRow_other w g.b b ws e))
  (fun y g' hy hg' _ => by
   rw [hg] at hg'; simp at hg'; subst hg'
   exact .inr ⟨x, g, hx, hg, ho, rfl⟩)
  (fun y g' hy hg' => by
   rw [hx] at hy; rw [hg] at hg'; simp at hy hg'; subst hy; subst hg'
   exact ⟨x', g, by simp [hk], hg, hs⟩)
 refine ⟨h1, fun hok => h2 fun y g' hy hg' => ?_⟩
 rw [hg] at hg'; simp [hk] at hy hg'; subst hy; subst hg'
 exact hok
theorem over_get (zs cs : List AV) (off j : Nat) (h : off + cs.length ≤ zs.length) : (over zs off cs)[j]? = if off ≤ j ∧ j < off + cs.length then cs[j - off]? else zs[j]? := by
 unfold over
 split
 ·rename_i hj
  rw [List.getElem?_append_left (by simp; omega), List.getElem?_append_right (by simp; omega)]
  congr 1; simp; omega
 ·rename_i hj
  rcases Nat.lt_or_ge j off with h1 | h1
  ·rw [List.getElem?_append_left (by simp; omega), List.getElem?_append_left (by simp; omega), List.getElem?_take_of_lt h1]
  ·rw [List.getElem?_append_right (by simp; omega), List.getElem?_drop]
   congr 1; simp; omega
theorem over_length (zs cs : List AV) (off : Nat) (h : off + cs.length ≤ zs.length) : (over zs off cs).length = zs.length := by
 unfold over; simp; omega
theorem overV_get (zs : Array Value) (cs : List Value) (off j : Nat) (h : off + cs.length ≤ zs.size) : ((zs.toList.take off ++ cs ++ zs.toList.drop (off + cs.length)).toArray)[j]? = if off ≤ j ∧ j < off + cs.length then cs[j - off]? else zs[j]? := by
 simp only [List.getElem?_toArray]
 split
 ·rename_i hj
  rw [List.getElem?_append_left (by simp; omega), List.getElem?_append_right (by simp; omega)]
  congr 1; simp; omega
 ·rename_i hj
  rcases Nat.lt_or_ge j off with h1 | h1
  ·rw [List.getElem?_append_left (by simp; omega), List.getElem?_append_left (by simp; omega), List.getElem?_take_of_lt h1]; simp
  ·rw [List.getElem?_append_right (by simp; omega), List.getElem?_drop]
   simp
   congr 1; omega
theorem overV_size (zs : Array Value) (cs : List Value) (off : Nat) (h : off + cs.length ≤ zs.size) : ((zs.toList.take off ++ cs ++ zs.toList.drop (off + cs.length)).toArray).size = zs.size := by
 simp; omega
theorem run_store_over {w : World} {t : TypeId} {b off : Nat} {v : Value} {vs : Array Value} {ty : TypeId} {sz : Nat} (hz : szB P t sz = true) (hsz : v.cells.size = sz) (hb : w.heap[b]? = some (.cells vs ty (0, 0))) (hle : off + v.cells.size ≤ vs.size)
  (h1 : ∀ u ∈ v.cells.toList, u.oneCell' = true) :
  (Instr.storeAt t (.pointer (some ⟨b, off, none⟩)) v).run P w = .ok () (w.setRow b (vs.toList.take off ++ v.cells.toList ++ vs.toList.drop (off + v.cells.toList.length)).toArray) := by
 have := run_storeCells_at (P := P) b off ty v.cells.toList 0 vs w hb (by simpa using hle) h1
 simp only [Instr.storeAt, Instr.sureAddr, storeVar, Sem.run_bind, Sem.run_pure, Result.andThen_ok, run_sz hz, hsz, ne_eq, not_true_eq_false, if_false]
 rw [this]; simp

mutual
theorem under_le {m k : Nat} (hmk : m ≤ k) : ∀ {x : AV}, x.under m = true → x.under k = true
 | .ref _ _, h | .eref _ _ _ _ _, h | .osl _ _ _ _ _, h | .mapr _, h => by simp [AV.under] at h ⊢; omega
 | .fn f caps, h => unders_le hmk caps h
 | .agg cs, h => unders_le hmk cs h
 | .tup cs, h => unders_le hmk cs h
 | .iface t v, h => under_le hmk (x := v) h
 | .int .., _ | .bool _, _ | .str _, _ | .nilp, _ | .rptr _, _ | .nils, _ | .sl _, _ | .nilfn, _ | .nilmap, _ | .fmap _, _ | .nilif, _ | .nil0, _ | .nne, _ | .zp _, _ | .dead, _ => rfl
theorem unders_le {m k : Nat} (hmk : m ≤ k) : ∀ l : List AV, unders m l = true → unders k l = true
 | [], _ => rfl
 | a :: r, h => by
  simp only [unders, AV.under.unders, Bool.and_eq_true] at h ⊢
  exact ⟨under_le hmk h.1, unders_le hmk r h.2⟩
end
theorem store_ref_ok {w : World} {F : Nat → Prop} {base : Nat} {σ : St} {γ : List Gh} {t : TypeId} {sz o off : Nat} {y : AV} {v u : Value} {cs : List AV} (I : Inv tab w F σ γ) (hz : szB P t sz = true) (hx : RS tab w F σ γ (.ref o off) u)
  (hy : RS tab w F σ γ y v) (hl : y.cellsOf.length = sz) (hs : y.cellsOf.all AV.scalar = true) (ho : σ[o]? = some (.cells cs)) (hle : off + sz ≤ cs.length) (hst : storable base o cs y.cellsOf) :
  Done tab F base w σ γ ((do Instr.storeAt t u v; pure Next.skip : Sem Next).run P w) .dead (σ.set o (.cells (over cs off y.cellsOf))) := by
 cases hx with
 | fz _ _ h => exact absurd h.noref (by simp [AV.noref])
 | ref _ _ g cs' hs' hg =>
  have hs0 : ∀ (j : Nat) (x : AV), y.cellsOf[j]? = some x → x.scalar = true := fun j x hx => (List.all_eq_true.1 hs) x (List.mem_of_getElem? hx)
  obtain ⟨q1, q2⟩ := cells_ok hy hs0
  have hok := I.ok o _ g ho hg
  obtain ⟨vs, ty, e1, e2, e3, e4⟩ := hok
  have hle' : off + v.cells.size ≤ vs.size := by omega
  have h1 : ∀ u ∈ v.cells.toList, u.oneCell' = true := by
   intro u hu
   obtain ⟨j, hj, e⟩ := List.getElem_of_mem hu
   have hj' : j < y.cellsOf.length := by simp at hj; omega
   exact one_ok (q2 j y.cellsOf[j] u (List.getElem?_eq_getElem hj') (by rw [← e]; simp at hj ⊢)) (hs0 j _ (List.getElem?_eq_getElem hj'))
  have hrun := run_store_over (P := P) (t := t) (sz := sz) hz (by omega) e1 hle' h1
  obtain ⟨s1, s2⟩ := set_row (x' := .cells (over cs off y.cellsOf)) (ws := (vs.toList.take off ++ v.cells.toList ++ vs.toList.drop (off + v.cells.toList.length)).toArray) I ho hg rfl (.cells _ _ _)
  have hun : ∀ b, (∀ (j : Nat) (x : AV), cs[j]? = some x → x.under b = true) → (∀ (j : Nat) (x : AV), y.cellsOf[j]? = some x → x.under b = true) → ∀ (j : Nat) (x : AV), (over cs off y.cellsOf)[j]? = some x → x.under b = true := by
   intro b k1 k2 j x hx
   rw [over_get _ _ _ _ (by omega)] at hx
   split at hx
   ·exact k2 _ x hx
   ·exact k1 _ x hx
  refine ⟨undef, _, γ, .inr ⟨by simp [hrun], rfl⟩, s1, s2 ⟨_, ty, setRow_heap w g.b vs _ ty _ e1, ?_, fun j x hx => ?_, fun j x v' hx hv => ?_⟩, .dead _, ?_⟩
  ·rw [overV_size _ _ _ (by simpa using hle'), over_length _ _ _ (by omega)]; exact e2
  ·rw [over_get _ _ _ _ (by omega)] at hx
   split at hx
   ·exact hs0 _ x hx
   ·exact e3 _ x hx
  ·rw [over_get _ _ _ _ (by omega)] at hx
   rw [overV_get _ _ _ _ (by simpa using hle')] at hv
   have : v.cells.toList.length = y.cellsOf.length := by simp [q1]
   rw [this] at hv
   split at hx
   ·rename_i hj
    rw [if_pos hj] at hv
    have := q2 _ x v' hx (by simpa using hv)
    exact this.step s1 this.under
   ·rename_i hj
    rw [if_neg hj] at hv
    have := e4 _ x v' hx hv
    exact this.step s1 this.under
  ·apply Fr.set
   intro b hob hbb hf
   have hcs := hf o _ hob ho
   simp only [Ob.under] at hcs ⊢
   rw [unders_iff] at hcs ⊢
   refine hun b hcs fun j x hx => ?_
   rcases hst with h | h
   ·omega
   ·have hx' := (List.all_eq_true.1 h) x (List.mem_of_getElem? hx)
    simp only [Bool.or_eq_true] at hx'
    rcases hx' with h' | h'
    ·exact under_le (by omega) h'
    ·cases x with
     | osl o1 ver n off len =>
      simp only [AV.refsIn] at h'
      rw [List.any_eq_true] at h'
      obtain ⟨z, hz, hzz⟩ := h'
      cases z <;> simp at hzz
      subst hzz
      obtain ⟨i, hi, e⟩ := List.getElem_of_mem hz
      have := hcs i _ (by rw [List.getElem?_eq_getElem hi, e])
      simpa [AV.under] using this
     | _ => exact noref_under _ h'
theorem under_leOb {m k : Nat} (hmk : m ≤ k) {x : Ob} (h : x.under m = true) : x.under k = true := by
 cases x with
 | cells cs => exact unders_le hmk cs h
 | map es =>
  simp only [Ob.under] at h ⊢
  rw [List.all_eq_true] at h ⊢
  intro p hp
  have := h p hp
  simp only [Bool.and_eq_true] at this ⊢
  exact ⟨under_le hmk this.1, under_le hmk this.2⟩
 | _ => rfl
end
end Go.Den

namespace Go.Den
open Go

section
variable {P : Program} {tab : Nat → Nat}
def val (s : Sem Value) : Sem Next := do pure (Next.value (← s))
theorem val_run {s : Sem Value} {w w' : World} {v : Value} (h : s.run P w = .ok v w') : (val s).run P w = .ok (.value v) w' := by simp [val, h]

theorem pick_ok {w : World} {F : Nat → Prop} {base : Nat} {σ : St} {γ : List Gh} {b : Bool} {x y : AV} {c u v : Value} (I : Inv tab w F σ γ) (hc : RS tab w F σ γ (.bool b) c) (hx : RS tab w F σ γ x u) (hy : RS tab w F σ γ y v) :
  Done tab F base w σ γ ((do pure (Next.value (if ← asBool c then u else v)) : Sem Next).run P w) (if b then x else y) σ := by
 cases hc.frozen rfl with
 | bool =>
  refine done_same I (v := if b then u else v) (by simp [asBool]) ?_
  cases b <;> simpa

def fldB (P : Program) (s : TypeId) (f off : Nat) : Bool := match P.underlying s with
 | some (.struct fs) => match fs[f]? with
  | some g => g.offset == off && (match P.info? g.type with
   | some i => i.size != 0
   | none => false)
  | none => false
 | _ => false
theorem run_fld {s : TypeId} {f off : Nat} (h : fldB P s f off = true) (a : Addr) (w : World) : (Instr.fieldAt s (.pointer (some a)) f).run P w = .ok (.pointer (some (a.add off))) w := by
 unfold fldB at h
 split at h
 ·rename_i fs hu
  split at h
  ·rename_i g hg
   simp only [Bool.and_eq_true, beq_iff_eq] at h
   obtain ⟨rfl, h2⟩ := h
   split at h2
   ·rename_i i hi
    have h0 : i.size ≠ 0 := by simpa using h2
    have hs : (sizeOf g.type).run P w = .ok i.size w := by simp [sizeOf, run_typeInfo w hi]
    simp only [Instr.fieldAt, Sem.run_bind, run_underlying hu, Result.andThen_ok, hg, Instr.sureAddr, Sem.run_pure, fieldPlace, hs, if_neg h0]
   ·exact absurd h2 (by simp)
  ·exact absurd h (by simp)
 ·exact absurd h (by simp)
def fldzB (P : Program) (s : TypeId) (f : Nat) : Bool := match P.underlying s with
 | some (.struct fs) => match fs[f]? with
  | some g => g.offset == 0 && g.byteOffset == 0 && P.cellsOf s == 0 && (match P.info? g.type with
   | some i => i.size == 0
   | none => false)
  | none => false
 | _ => false
theorem fldz_ok {w : World} {F : Nat → Prop} {base : Nat} {σ : St} {γ : List Gh} {s : TypeId} {f : Nat} {v : Value} (I : Inv tab w F σ γ) (h : fldzB P s f = true) (hx : RS tab w F σ γ (.zp s) v) : Done tab F base w σ γ ((val (Instr.fieldAt s v f)).run P w) (.zp s) σ := by
 cases hx.frozen rfl with
 | zp b _ hb hc =>
  obtain ⟨vs, fr, hc⟩ := hc
  have hsh : w.shape? b = some (s, vs.size) := by simp [World.shape?, hc]
  unfold fldzB at h
  split at h
  ·rename_i fs hu
   split at h
   ·rename_i g hg
    simp only [Bool.and_eq_true, beq_iff_eq] at h
    obtain ⟨⟨⟨h1, h2⟩, h3⟩, h4⟩ := h
    split at h4
    ·rename_i i hi
     have h0 : i.size = 0 := by simpa using h4
     have hs : (sizeOf g.type).run P w = .ok i.size w := by simp [sizeOf, run_typeInfo w hi]
     have hby : (byteOf ⟨b, 0, none⟩).run P w = .ok 0 w := by
      simp [byteOf, noView, viewAt, hsh, h3]
     have hp : (partAt ⟨b, 0, none⟩ 0 0).run P w = .ok ⟨b, 0, none⟩ w := by
      simp [partAt, hby]
     refine done_same I (val_run ?_) (.fz _ _ (.zp b s hb ⟨vs, fr, hc⟩))
     simp only [Instr.fieldAt, Sem.run_bind, run_underlying hu, Result.andThen_ok, hg, Instr.sureAddr, Sem.run_pure, fieldPlace, hs, h0, if_true, h1, h2, hp]
    ·exact absurd h4 (by simp)
   ·exact absurd h (by simp)
  ·exact absurd h (by simp)
theorem rptr_drop {w : World} {S : Nat → Prop} {cs : List AV} {b off k : Nat} (h : RF tab w S (.rptr cs) (.pointer (some ⟨b, off, none⟩))) : RF tab w S (.rptr (cs.drop k)) (.pointer (some ⟨b, off + k, none⟩)) := by
 cases h with
 | rptr _ _ _ vs hb hc hs hr =>
  refine .rptr b (off + k) _ (fun j => vs (k + j)) hb (fun j x hx => ?_) (fun j x hx => ?_) (fun j x hx => ?_)
  all_goals rw [List.getElem?_drop] at hx
  ·rw [Nat.add_assoc]; exact hc _ x hx
  ·exact hs _ x hx
  ·exact hr _ x hx
theorem fld_ok {w : World} {F : Nat → Prop} {base : Nat} {σ : St} {γ : List Gh} {s : TypeId} {f off : Nat} {x av : AV} {v : Value} (I : Inv tab w F σ γ) (hf : fldB P s f off = true) (hx : RS tab w F σ γ x v)
  (h : (match x with
   | .rptr cs => if off ≤ cs.length then some (AV.rptr (cs.drop off)) else none
   | .ref o f => some (.ref o (f + off))
   | .eref o v n i f => some (.eref o v n i (f + off))
   | _ => none) = some av) : Done tab F base w σ γ ((val (Instr.fieldAt s v f)).run P w) av σ := by
 cases x with
 | rptr cs =>
  simp only [] at h
  split at h
  ·simp at h; subst h
   have h0 := hx.frozen rfl
   cases h0 with
   | rptr b o _ vs hb hc hs hr =>
    exact done_same I (val_run (run_fld hf _ w)) (.fz _ _ (by rw [add_none]; exact rptr_drop (.rptr b o _ vs hb hc hs hr)))
  ·exact absurd h (by simp)
 | ref o k =>
  simp at h; subst h
  cases hx with
  | fz _ _ h => exact absurd h.noref (by simp [AV.noref])
  | ref _ _ g cs hs hg => exact done_same I (val_run (run_fld hf _ w)) (by rw [add_none]; exact .ref o (k + off) g cs hs hg)
 | eref o ver n i k =>
  simp at h; subst h
  cases hx with
  | fz _ _ h => exact absurd h.noref (by simp [AV.noref])
  | eref _ _ _ _ _ _ hv h =>
   obtain ⟨p, rfl⟩ := hv
   refine done_same I (val_run (run_fld hf _ w)) (.eref _ _ _ _ _ _ ⟨_, rfl⟩ ?_)
   obtain ⟨y, g, h1, h2, h3⟩ := h
   refine ⟨y, g, h1, h2, ?_⟩
   cases y with
   | dead => trivial
   | arr ver' sz es =>
    refine ⟨h3.1, fun q1 q2 q3 => ?_⟩
    have := h3.2 q1 q2 q3
    simp at this; subst this
    rw [add_none, Nat.add_assoc]
   | _ => exact h3
 | _ => simp at h

theorem nilchk_ok {w : World} {F : Nat → Prop} {base : Nat} {σ : St} {γ : List Gh} {x av : AV} {v : Value} {ρ : Operand → Value} {xo : Operand} {o : Oper} (I : Inv tab w F σ γ) (ho : o.op = .nilCheck xo) (hv : ρ xo = v) (hx : RS tab w F σ γ x v)
  (h : (match x with
   | .rptr cs => some (AV.rptr cs)
   | .ref o off => some (.ref o off)
   | .eref o v n i off => some (.eref o v n i off)
   | .fn f caps => some (.fn f caps)
   | _ => none) = some av) : Done tab F base w σ γ ((execOp ρ o).run P w) av σ := by
 have key : (∃ a, v = .pointer (some a)) ∨ (∃ f vs, v = .func (.func f) #[] vs) → (execOp ρ o).run P w = .ok (.value v) w := by
  rintro (⟨a, rfl⟩ | ⟨f, vs, rfl⟩) <;> simp [execOp, ho, hv]
 cases x with
 | rptr cs =>
  simp at h; subst h
  refine done_same I (key ?_) hx
  cases hx.frozen rfl with
  | rptr b off _ vs hb hc hs hr => exact .inl ⟨_, rfl⟩
 | ref o' k =>
  simp at h; subst h
  refine done_same I (key ?_) hx
  cases hx with
  | fz _ _ h => exact absurd h.noref (by simp [AV.noref])
  | ref _ _ g cs hs hg => exact .inl ⟨_, rfl⟩
 | eref o' ver n i k =>
  simp at h; subst h
  refine done_same I (key ?_) hx
  cases hx with
  | fz _ _ h => exact absurd h.noref (by simp [AV.noref])
  | eref _ _ _ _ _ _ hv h => obtain ⟨p, rfl⟩ := hv; exact .inl ⟨_, rfl⟩
 | fn f caps =>
  simp at h; subst h
  refine done_same I (key ?_) hx
  cases hx with
  | fz _ _ h => cases h with
   | fn _ _ vs hl hs hr => exact .inr ⟨_, _, rfl⟩
  | fn _ _ vs hl hs hr => exact .inr ⟨_, _, rfl⟩
 | _ => simp at h

theorem run_idx {t e : TypeId} {sz : Nat} (ht : P.underlying t = some (.slice e)) (hz : szB P e sz = true) {k : IntKind} {i : Int} {a : Addr} {len cap : Nat} (h0 : 0 ≤ i) (h1 : i < len) (w : World) :
  (Instr.indexAt t (.slice (some a) len cap) (.int k i)).run P w = .ok (.pointer (some (a.add (i.toNat * sz)))) w := by
 simp only [Instr.indexAt, asIntOf, Sem.run_bind, Sem.run_pure, Result.andThen_ok, run_underlying ht]
 simp [h0, h1, run_sz hz]
theorem idxa_sl {w : World} {F : Nat → Prop} {base : Nat} {σ : St} {γ : List Gh} {t e : TypeId} {sz : Nat} {es : List (List AV)} {el : List AV} {u v : Value} {k : IntKind} {i : Int} (I : Inv tab w F σ γ) (ht : P.underlying t = some (.slice e)) (hz : szB P e sz = true)
  (hx : RS tab w F σ γ (.sl es) v) (hi : RS tab w F σ γ (.int k i) u) (h0 : 0 ≤ i) (he : es[i.toNat]? = some el) (hl : el.length = sz) : Done tab F base w σ γ ((val (Instr.indexAt t v u)).run P w) (.rptr el) σ := by
 cases hi.frozen rfl with
 | int =>
  have hx0 := hx.frozen rfl
  cases hx0 with
  | sl0 a c => simp at he
  | sl b off sz' cap _ vs hb hz' hl' hc hs hr =>
   have hlt := lt_of_get he
   have : sz' = sz := by rw [← hl]; exact (hz' el (List.mem_of_getElem? he)).symm
   subst this
   refine done_same I (val_run (run_idx ht hz h0 (by omega) w)) (.fz _ _ ?_)
   rw [add_none]
   exact .rptr b _ el (fun j => vs i.toNat j) hb (fun j x hx => hc _ _ he j x hx) (fun j x hx => hs _ _ he j x hx) (fun j x hx => hr _ _ he j x hx)
theorem idxa_osl {w : World} {F : Nat → Prop} {base : Nat} {σ : St} {γ : List Gh} {t e : TypeId} {sz o ver n off len : Nat} {es : List (List AV)} {u v : Value} {k : IntKind} {i : Int} (I : Inv tab w F σ γ) (ht : P.underlying t = some (.slice e)) (hz : szB P e sz = true)
  (hx : RS tab w F σ γ (.osl o ver n off len) v) (hi : RS tab w F σ γ (.int k i) u) (h0 : 0 ≤ i) (ho : σ[o]? = some (.arr ver sz es)) (hn : es.length = n) (hl : i.toNat < len) (hle : off + len ≤ n) :
  Done tab F base w σ γ ((val (Instr.indexAt t v u)).run P w) (.eref o ver n (off + i.toNat) 0) σ := by
 cases hi.frozen rfl with
 | int =>
  cases hx with
  | fz _ _ h => exact absurd h.noref (by simp [AV.noref])
  | osl _ _ _ _ _ _ hv h =>
   obtain ⟨x, g, h1, h2, h3⟩ := h
   rw [ho] at h1; simp at h1; subst h1
   obtain ⟨a, rfl, ha⟩ := h3.2 rfl hn.symm hle
   obtain ⟨k1, k2, k3, k4⟩ := I.ok o _ g ho h2
   have hc : 0 < g.cap - off := by omega
   have := ha hc; subst this
   refine done_same I (val_run (run_idx ht hz h0 (by omega) w)) (.eref _ _ _ _ _ _ ⟨_, rfl⟩ ⟨_, g, ho, h2, h3.1, fun _ _ _ => ?_⟩)
   rw [add_none, Nat.add_mul]; simp; omega
def arrB (P : Program) (t : TypeId) (len sz : Nat) : Bool := match P.underlying t with
 | some (.array n e) => n == len && szB P e sz
 | _ => false
theorem run_idxarr {t : TypeId} {len sz : Nat} (h : arrB P t len sz = true) {k : IntKind} {i : Int} {a : Addr} (h0 : 0 ≤ i) (h1 : i.toNat < len) (w : World) :
  (Instr.indexAt t (.pointer (some a)) (.int k i)).run P w = .ok (.pointer (some (a.add (i.toNat * sz)))) w := by
 unfold arrB at h
 split at h
 ·rename_i n e hu
  simp only [Bool.and_eq_true, beq_iff_eq] at h
  obtain ⟨rfl, hz⟩ := h
  have hi : i < n := by omega
  simp only [Instr.indexAt, asIntOf, Sem.run_bind, Sem.run_pure, Result.andThen_ok, run_underlying hu, Instr.sureAddr]
  simp [h0, hi, run_sz hz]
 ·exact absurd h (by simp)
theorem idxarr_ok {w : World} {F : Nat → Prop} {base : Nat} {σ : St} {γ : List Gh} {t : TypeId} {len sz : Nat} {x av : AV} {u v : Value} {k : IntKind} {i : Int} (I : Inv tab w F σ γ) (ht : arrB P t len sz = true)
  (hx : RS tab w F σ γ x v) (hi : RS tab w F σ γ (.int k i) u) (h : (match x with
   | .rptr cs => if 0 ≤ i ∧ i.toNat < len ∧ i.toNat * sz ≤ cs.length then some (AV.rptr (cs.drop (i.toNat * sz))) else none
   | .ref o f => if 0 ≤ i ∧ i.toNat < len then some (.ref o (f + i.toNat * sz)) else none
   | _ => none) = some av) : Done tab F base w σ γ ((val (Instr.indexAt t v u)).run P w) av σ := by
 cases hi.frozen rfl with
 | int =>
  cases x with
  | rptr cs =>
   simp only [] at h
   split at h
   ·rename_i hc
    simp at h; subst h
    have h0 := hx.frozen rfl
    cases h0 with
    | rptr b o _ vs hb hc' hs hr =>
     exact done_same I (val_run (run_idxarr ht hc.1 hc.2.1 w)) (.fz _ _ (by rw [add_none]; exact rptr_drop (.rptr b o _ vs hb hc' hs hr)))
   ·exact absurd h (by simp)
  | ref o f =>
   simp only [] at h
   split at h
   ·rename_i hc
    simp at h; subst h
    cases hx with
    | fz _ _ h => exact absurd h.noref (by simp [AV.noref])
    | ref _ _ g cs hs hg => exact done_same I (val_run (run_idxarr ht hc.1 hc.2 w)) (by rw [add_none]; exact .ref o _ g cs hs hg)
   ·exact absurd h (by simp)
  | _ => simp at h

theorem extract_ok {w : World} {F : Nat → Prop} {base : Nat} {σ : St} {γ : List Gh} {vs : List AV} {i : Nat} {av : AV} {v : Value} (I : Inv tab w F σ γ) (hx : RS tab w F σ γ (.tup vs) v) (h : vs[i]? = some av) :
  Done tab F base w σ γ ((val (Instr.extract v i)).run P w) av σ := by
 have key : ∀ us : List Value, us.length = vs.length → (∀ (j : Nat) (x : AV) (u : Value), vs[j]? = some x → us[j]? = some u → RS tab w F σ γ x u) → v = .tuple us.toArray → Done tab F base w σ γ ((val (Instr.extract v i)).run P w) av σ := by
  rintro us hl hr rfl
  obtain ⟨u, hu⟩ := get_of_len hl h
  exact done_same I (val_run (by simp [Instr.extract, hu])) (hr i av u h hu)
 cases hx with
 | fz _ _ h0 => cases h0 with
  | tup _ us hl hr => exact key us hl (fun j x u hx hu => .fz _ _ (hr j x u hx hu)) rfl
 | tup _ us hl hr => exact key us hl hr rfl

theorem run_part {w : World} {S : Nat → Prop} {σ : St} {γ : List Gh} {t : TypeId} {ag : Bool} {sz off : Nat} {cs : List AV} {us : List Value} {av : AV} (ha : aggB P t ag = true) (hz : szB P t sz = true) (hl : us.length = cs.length)
  (hs : ∀ (j : Nat) (x : AV), cs[j]? = some x → x.scalar = true) (hr : ∀ (j : Nat) (x : AV) (u : Value), cs[j]? = some x → us[j]? = some u → RV tab w S σ γ x u) (hf : front ag sz (cs.drop off) = some av) :
  ∃ v, (part t us.toArray off).run P w = .ok v w ∧ RV tab w S σ γ av v := by
 unfold front at hf
 split at hf
 ·rename_i hle
  simp at hle
  cases ag with
  | true =>
   simp at hf; subst hf
   refine ⟨.agg ((us.drop off).take sz).toArray, ?_, .agg _ _ (by simp; omega) (fun j x hx => ?_) (fun j x u hx hu => ?_)⟩
   ·simp only [part, Sem.run_bind, run_agg ha, Result.andThen_ok, if_true, run_sz hz, Sem.run_pure]
    simp
   ·have hj : j < sz := by have := lt_of_get hx; simp at this; omega
    rw [List.getElem?_take_of_lt hj, List.getElem?_drop] at hx
    exact hs _ x hx
   ·have hj : j < sz := by have := lt_of_get hx; simp at this; omega
    rw [List.getElem?_take_of_lt hj, List.getElem?_drop] at hx hu
    exact hr _ x u hx hu
  | false =>
   simp only [Bool.false_eq_true, if_false, List.head?_drop] at hf
   obtain ⟨u, hu⟩ := get_of_len hl hf
   exact ⟨u, by simp only [part, Sem.run_bind, run_agg ha, Result.andThen_ok, Bool.false_eq_true, if_false]; simp [hu], hr _ _ _ hf hu⟩
 ·exact absurd hf (by simp)
theorem agg_open {w : World} {S : Nat → Prop} {σ : St} {γ : List Gh} {cs : List AV} {v : Value} (h : RV tab w S σ γ (.agg cs) v) : ∃ us : List Value, v = .agg us.toArray ∧ us.length = cs.length ∧ (∀ (j : Nat) (x : AV), cs[j]? = some x → x.scalar = true) ∧
  ∀ (j : Nat) (x : AV) (u : Value), cs[j]? = some x → us[j]? = some u → RV tab w S σ γ x u := by
 cases h with
 | fz _ _ h => cases h with
  | agg _ us hl hs hr => exact ⟨us, rfl, hl, hs, fun j x u hx hu => .fz _ _ (hr j x u hx hu)⟩
 | agg _ us hl hs hr => exact ⟨us, rfl, hl, hs, hr⟩
def fieldB (P : Program) (s : TypeId) (f : Nat) (ag : Bool) (off sz : Nat) : Bool := match P.underlying s with
 | some (.struct fs) => match fs[f]? with
  | some g => g.offset == off && aggB P g.type ag && szB P g.type sz
  | none => false
 | _ => false
theorem field_ok {w : World} {F : Nat → Prop} {base : Nat} {σ : St} {γ : List Gh} {s : TypeId} {f off sz : Nat} {ag : Bool} {cs : List AV} {av : AV} {v : Value} (I : Inv tab w F σ γ) (hf : fieldB P s f ag off sz = true) (hx : RS tab w F σ γ (.agg cs) v)
  (h : front ag sz (cs.drop off) = some av) : Done tab F base w σ γ ((val (Instr.field s v f)).run P w) av σ := by
 unfold fieldB at hf
 split at hf
 ·rename_i fs hu
  split at hf
  ·rename_i g hg
   simp only [Bool.and_eq_true, beq_iff_eq] at hf
   obtain ⟨⟨rfl, ha⟩, hz⟩ := hf
   obtain ⟨us, rfl, hl, hs, hr⟩ := agg_open hx
   obtain ⟨u, hu', hr'⟩ := run_part ha hz hl hs hr h
   exact done_same I (val_run (by simp only [Instr.field, Sem.run_bind, run_underlying hu, Result.andThen_ok, hg, asAgg, Sem.run_pure, hu'])) hr'
  ·exact absurd hf (by simp)
 ·exact absurd hf (by simp)

theorem not_ok {w : World} {F : Nat → Prop} {base : Nat} {σ : St} {γ : List Gh} {b : Bool} {v : Value} (I : Inv tab w F σ γ) (hx : RS tab w F σ γ (.bool b) v) : Done tab F base w σ γ ((val (Op.unary .not v)).run P w) (.bool (!b)) σ := by
 cases hx.frozen rfl with
 | bool => exact done_same I (val_run (by simp [Op.unary])) (.fz _ _ (.bool _))
def intB (P : Program) (t : TypeId) : Bool := match P.underlying t with
 | some (.int _) => true
 | _ => false
theorem convi_ok {w : World} {F : Nat → Prop} {base : Nat} {σ : St} {γ : List Gh} {src dst : TypeId} {k k0 : IntKind} {n : Int} {v : Value} {d : TypeDesc} (I : Inv tab w F σ γ) (h1 : P.underlying src = some d) (h2 : P.underlying dst = some (.int k)) (hx : RS tab w F σ γ (.int k0 n) v) :
  Done tab F base w σ γ ((val (convert src dst v)).run P w) (.int k (k.wrap n)) σ := by
 cases hx.frozen rfl with
 | int => exact done_same I (val_run (by simp [convert, run_underlying h1, run_underlying h2, Conv.intToInt])) (.fz _ _ (.int _ _))
theorem minmax_ok {w : World} {F : Nat → Prop} {base : Nat} {σ : St} {γ : List Gh} {k : IntKind} {a b : Int} {u v : Value} {ts : Array TypeId} {t : TypeId} (I : Inv tab w F σ γ) (hx : RS tab w F σ γ (.int k a) u) (hy : RS tab w F σ γ (.int k b) v) :
  Done tab F base w σ γ ((val (Builtin.min_ ts t #[u, v])).run P w) (.int k (if b < a then b else a)) σ ∧ Done tab F base w σ γ ((val (Builtin.max_ ts t #[u, v])).run P w) (.int k (if a < b then b else a)) σ := by
 cases hx.frozen rfl with
 | int =>
  cases hy.frozen rfl with
  | int => exact ⟨done_same I (val_run (by simp [Builtin.min_, Builtin.min2])) (.fz _ _ (.int _ _)), done_same I (val_run (by simp [Builtin.max_, Builtin.max2])) (.fz _ _ (.int _ _))⟩
theorem mm3_ok {w : World} {F : Nat → Prop} {base : Nat} {σ : St} {γ : List Gh} {k : IntKind} {a b c : Int} {u v x : Value} {ts : Array TypeId} {t : TypeId} (I : Inv tab w F σ γ) (hx : RS tab w F σ γ (.int k a) u) (hy : RS tab w F σ γ (.int k b) v) (hz : RS tab w F σ γ (.int k c) x) :
  Done tab F base w σ γ ((val (Builtin.min_ ts t #[u, v, x])).run P w) (.int k (mm false (mm false a b) c)) σ ∧ Done tab F base w σ γ ((val (Builtin.max_ ts t #[u, v, x])).run P w) (.int k (mm true (mm true a b) c)) σ := by
 cases hx.frozen rfl with
 | int =>
  cases hy.frozen rfl with
  | int =>
   cases hz.frozen rfl with
   | int => exact ⟨done_same I (val_run (by simp [Builtin.min_, Builtin.min2, mm])) (.fz _ _ (.int _ _)), done_same I (val_run (by simp [Builtin.max_, Builtin.max2, mm])) (.fz _ _ (.int _ _))⟩
end
end Go.Den

namespace Go.Den
open Go

section
variable {P : Program} {tab : Nat → Nat}
theorem fold_set (off : Nat) : ∀ (l : List Value) (k : Nat) (C : Array Value), off + k + l.length ≤ C.size →
  ((l.zipIdx k).foldl (fun cs (x : Value × Nat) => cs.setIfInBounds (off + x.2) x.1) C).size = C.size ∧
  ∀ p, ((l.zipIdx k).foldl (fun cs (x : Value × Nat) => cs.setIfInBounds (off + x.2) x.1) C)[p]? = if off + k ≤ p ∧ p < off + k + l.length then l[p - (off + k)]? else C[p]?
 | [], k, C, _ => ⟨rfl, fun p => by rw [if_neg (by simp only [List.length_nil]; omega)]; rfl⟩
 | v :: l, k, C, h => by
  simp at h
  obtain ⟨h1, h2⟩ := fold_set off l (k + 1) (C.setIfInBounds (off + k) v) (by simp; omega)
  refine ⟨by simpa using h1, fun p => ?_⟩
  simp only [List.zipIdx_cons, List.foldl_cons]
  rw [h2 p]
  by_cases e : p = off + k
  ·subst e
   rw [if_neg (by omega), if_pos (by simp only [List.length_cons]; omega), Array.getElem?_setIfInBounds_self, if_pos (by omega)]
   simp
  ·by_cases hp : off + k ≤ p ∧ p < off + k + (l.length + 1)
   ·rw [if_pos (by omega), if_pos (by simpa using hp)]
    have : p - (off + k) = (p - (off + (k + 1))) + 1 := by omega
    rw [this]; simp
   ·rw [if_neg (by omega), if_neg (by simpa using hp)]
    rw [Array.getElem?_setIfInBounds_ne (Ne.symm e)]
def chkParts (tab : Nat → Nat) (place : Nat → Option (Nat × Nat)) : List (Nat × Operand) → List (Nat × Nat × Opd) → Bool
 | [], [] => true
 | (i, x) :: r, (off, size, y) :: s => place i == some (off, size) && chkOpd tab x y && chkParts tab place r s
 | _, _ => false
theorem fill_ok {w : World} {F : Nat → Prop} {σ : St} {γ : List Gh} {env : Env} {a : Act} (E : EnvOk tab w F σ γ env a.tmps) {place : Nat → Option (Nat × Nat)} :
  ∀ {ps : List (Nat × Operand)} {qs : List (Nat × Nat × Opd)} {C : Array Value} {zs cs : List AV}, chkParts tab place ps qs = true → C.size = zs.length → (∀ (j : Nat) (x : AV), zs[j]? = some x → x.scalar = true) →
   (∀ (j : Nat) (x : AV) (u : Value), zs[j]? = some x → C[j]? = some u → RS tab w F σ γ x u) → fillParts env qs zs = some cs →
   ∃ D, Instr.fill place C (ps.map fun (i, x) => (i, a.eval x)) = some D ∧ D.size = cs.length ∧ cs.length = zs.length ∧ (∀ (j : Nat) (x : AV), cs[j]? = some x → x.scalar = true) ∧
    (∀ (j : Nat) (x : AV) (u : Value), cs[j]? = some x → D[j]? = some u → RS tab w F σ γ x u)
 | [], [], C, zs, cs, _, hl, hs, hr, hf => by
  simp [fillParts] at hf; subst hf
  exact ⟨C, rfl, hl, rfl, hs, hr⟩
 | [], _ :: _, _, _, _, h, _, _, _, _ => by simp [chkParts] at h
 | _ :: _, [], _, _, _, h, _, _, _, _ => by simp [chkParts] at h
 | (i, x) :: ps, (off, size, y) :: qs, C, zs, cs, h, hl, hs, hr, hf => by
  simp only [chkParts, Bool.and_eq_true, beq_iff_eq] at h
  obtain ⟨⟨hp, hx⟩, h⟩ := h
  simp only [fillParts] at hf
  split at hf
  ·rename_i hc
   obtain ⟨c1, c2, c3⟩ := hc
   have hxy := opd_ok E hx
   have hs0 : ∀ (j : Nat) (z : AV), (ev env y).cellsOf[j]? = some z → z.scalar = true := fun j z hz => (List.all_eq_true.1 c3) z (List.mem_of_getElem? hz)
   obtain ⟨q1, q2⟩ := cells_ok hxy hs0
   obtain ⟨f1, f2⟩ := fold_set off (a.eval x).cells.toList 0 C (by simp; omega)
   have hzz : (a.eval x).cells.zipIdx.foldl (fun cs (c, j) => cs.setIfInBounds (off + j) c) C = ((a.eval x).cells.toList.zipIdx 0).foldl (fun cs (x : Value × Nat) => cs.setIfInBounds (off + x.2) x.1) C := by
    rw [← Array.foldl_toList]; simp
   have hol : (over zs off (ev env y).cellsOf).length = zs.length := over_length _ _ _ (by omega)
   obtain ⟨D, d1, d2, d3, d4, d5⟩ := fill_ok E (C := (a.eval x).cells.zipIdx.foldl (fun cs (c, j) => cs.setIfInBounds (off + j) c) C) h (by rw [hzz, f1, hol, hl]) (fun j z hz => by
     rw [over_get _ _ _ _ (by omega)] at hz
     split at hz
     ·exact hs0 _ z hz
     ·exact hs _ z hz) (fun j z u hz hu => by
     rw [over_get _ _ _ _ (by omega)] at hz
     rw [hzz, f2 j] at hu
     simp only [Nat.add_zero, Array.length_toList, q1] at hu
     split at hz
     ·rename_i hj
      rw [if_pos hj] at hu
      exact q2 _ z u hz (by simpa using hu)
     ·rename_i hj
      rw [if_neg hj] at hu
      exact hr _ z u hz hu) hf
   refine ⟨D, ?_, d2, by omega, d4, d5⟩
   simp only [List.map_cons, Instr.fill, hp]
   rw [if_neg (by simp; omega)]
   exact d1
  ·exact absurd hf (by simp)

def buildB (P : Program) (t : TypeId) (zs : List AV) : Bool := zeroB P t zs
def placeOf (P : Program) (t : TypeId) : Option (Nat → Option (Nat × Nat)) := match P.underlying t with
 | some (.struct fs) => some fun i => match fs[i]? with
  | some f => (P.info? f.type).map fun j => (f.offset, j.size)
  | none => none
 | some (.array _ e) => (P.info? e).map fun j => fun i => some (i * j.size, j.size)
 | _ => none
theorem mapM_places (w : World) : ∀ (l : List Field), (∀ f ∈ l, ∃ i, P.info? f.type = some i) →
  (l.mapM fun f => (do pure (f.offset, ← sizeOf f.type) : Sem (Nat × Nat))).run P w = .ok (l.map fun f => (f.offset, P.cellsOf f.type)) w
 | [], _ => by simp
 | f :: l, h => by
  obtain ⟨i, hi⟩ := h f (by simp)
  have ih := mapM_places w l fun g hg => h g (by simp [hg])
  simp only [List.mapM_cons, Sem.run_bind, run_sizeOf (w := w) hi, Result.andThen_ok, Sem.run_pure, ih, List.map_cons]
def allInfo (P : Program) (t : TypeId) : Bool := match P.underlying t with
 | some (.struct fs) => fs.toList.all fun f => (P.info? f.type).isSome
 | _ => true
theorem fill_congr {p q : Nat → Option (Nat × Nat)} (h : ∀ i, p i = q i) (C : Array Value) (l : List (Nat × Value)) : Instr.fill p C l = Instr.fill q C l := by
 have : p = q := funext h
 rw [this]
theorem build_ok {w : World} {F : Nat → Prop} {base : Nat} {σ : St} {γ : List Gh} {env : Env} {a : Act} (I : Inv tab w F σ γ) (E : EnvOk tab w F σ γ env a.tmps) {t : TypeId} {zs cs : List AV} {ps : List (Nat × Operand)} {qs : List (Nat × Nat × Opd)} {place : Nat → Option (Nat × Nat)}
  (hz : zeroB P t zs = true) (ha : allInfo P t = true) (hpl : placeOf P t = some place) (hp : chkParts tab place ps qs = true) (hf : fillParts env qs zs = some cs) :
  Done tab F base w σ γ ((val (Instr.build t (ps.map fun (i, x) => (i, a.eval x)).toArray)).run P w) (.agg cs) σ := by
 obtain ⟨z, hz, hc⟩ := run_zero (P := P) (w := w) hz
 obtain ⟨q1, q2, q3⟩ := constB_go tab (w := w) (S := Stab w F σ γ) hc
 obtain ⟨D, d1, d2, d3, d4, d5⟩ := fill_ok E (C := z.cells) hp (by simpa using q1) q2 (fun j x u hx hu => .fz _ _ (q3 j x u hx (by simpa using hu))) hf
 have hD : RS tab w F σ γ (.agg cs) (.agg D) := by
  have := RV.agg (tab := tab) (w := w) (S := Stab w F σ γ) (σ := σ) (γ := γ) cs D.toList (by simpa using d2) d4 (fun j x u hx hu => d5 j x u hx (by simpa using hu))
  simpa using this
 refine done_same I (val_run (v := .agg D) ?_) hD
 unfold placeOf at hpl
 unfold allInfo at ha
 split at hpl
 ·rename_i fs hu
  rw [hu] at ha
  simp only [List.all_eq_true] at ha
  have hall : ∀ f ∈ fs.toList, ∃ i, P.info? f.type = some i := fun f hf => by
   have := ha f hf
   exact Option.isSome_iff_exists.1 this
  have hm := mapM_places (P := P) w fs.toList hall
  have hm' : (fs.mapM fun f => (do pure (f.offset, ← sizeOf f.type) : Sem (Nat × Nat))).run P w = .ok (fs.toList.map fun f => (f.offset, P.cellsOf f.type)).toArray w := by
   rw [Array.mapM_eq_mapM_toList]
   simp only [Sem.run_map, hm, Result.andThen_ok]
  simp at hpl
  have hpp : ∀ i, ((fs.toList.map fun f => (f.offset, P.cellsOf f.type)).toArray)[i]? = place i := by
   intro i
   rw [← hpl]
   simp
   cases hfi : fs[i]? with
   | none => simp
   | some f =>
    have hmem : f ∈ fs.toList := by simpa using Array.mem_of_getElem? hfi
    obtain ⟨j, hj⟩ := hall f hmem
    simp [hj, Program.cellsOf]
  have d1' : Instr.fill (fun x => ((fs.toList.map fun f => (f.offset, P.cellsOf f.type)).toArray)[x]?) z.cells (ps.map fun (i, x) => (i, a.eval x)) = some D := by
   rw [← d1]; exact fill_congr hpp _ _
  simp only [Instr.build, Sem.run_bind, hz, Result.andThen_ok, run_underlying hu, hm']
  rw [d1']
  simp
 ·rename_i n e hu
  cases hi : P.info? e with
  | none => simp [hi] at hpl
  | some j =>
   simp [hi] at hpl
   have d1' : Instr.fill (fun i => some (i * j.size, j.size)) z.cells (ps.map fun (i, x) => (i, a.eval x)) = some D := by
    rw [← d1, ← hpl]
   simp only [Instr.build, Sem.run_bind, hz, Result.andThen_ok, run_underlying hu, run_sizeOf (w := w) hi, Program.cellsOf, hi]
   simp
   rw [d1']
   simp
 ·exact absurd hpl (by simp)
end
end Go.Den

namespace Go.Den
open Go

section
variable {P : Program} {tab : Nat → Nat}
theorem norms_get (l : List AV) (j : Nat) : (norms l)[j]? = (l[j]?).map AV.norm := by
 induction l generalizing j with
 | nil => simp [norms, AV.norm.norms]
 | cons x r ih =>
  cases j with
  | zero => simp [norms, AV.norm.norms]
  | succ j => simpa [norms, AV.norm.norms] using ih j
theorem norms_length (l : List AV) : (norms l).length = l.length := by
 induction l with
 | nil => rfl
 | cons x r ih => simpa [norms, AV.norm.norms] using ih
theorem norm_scalar {x : AV} (h : x.scalar = true) : x.norm.scalar = true := by cases x <;> first | rfl | exact absurd h (by simp [AV.scalar])
theorem RF.norm {w : World} {S : Nat → Prop} {x : AV} {v : Value} (h : RF tab w S x v) : RF tab w S x.norm v := by
 induction h with
 | nils a => exact .sl0 a 0
 | agg cs vs hl hs hr ih =>
  refine .agg _ vs (by rw [norms_length]; exact hl) (fun j x hx => ?_) (fun j x v hx hv => ?_)
  ·rw [norms_get] at hx
   cases hc : cs[j]? with
   | none => simp [hc] at hx
   | some y => simp [hc] at hx; subst hx; exact norm_scalar (hs j y hc)
  ·rw [norms_get] at hx
   cases hc : cs[j]? with
   | none => simp [hc] at hx
   | some y => simp [hc] at hx; subst hx; exact ih j y v hc hv
 | tup cs vs hl hr ih =>
  refine .tup _ vs (by rw [norms_length]; exact hl) (fun j x v hx hv => ?_)
  rw [norms_get] at hx
  cases hc : cs[j]? with
  | none => simp [hc] at hx
  | some y => simp [hc] at hx; subst hx; exact ih j y v hc hv
 | int k n => exact .int k n
 | bool b => exact .bool b
 | str s => exact .str s
 | nilp => exact .nilp
 | rptr b off cs vs hb hc hs hr _ => exact .rptr b off cs vs hb hc hs hr
 | sl0 a c => exact .sl0 a c
 | sl b off sz cap es vs hb hz hl hc hs hr _ => exact .sl b off sz cap es vs hb hz hl hc hs hr
 | fn f caps vs hl hs hr _ => exact .fn f caps vs hl hs hr
 | nilfn => exact .nilfn
 | nilmap => exact .nilmap
 | fmap b es ms clock hb hh hl hk hr _ _ => exact .fmap b es ms clock hb hh hl hk hr
 | iface t x v hr _ => exact .iface t x v hr
 | nilif => exact .nilif
 | zp b t hb hc => exact .zp b t hb hc
 | nil0 c => exact .nil0 c
 | nne a c => exact .nne a c
theorem RV.norm {w : World} {S : Nat → Prop} {σ : St} {γ : List Gh} {x : AV} {v : Value} (h : RV tab w S σ γ x v) : RV tab w S σ γ x.norm v := by
 induction h with
 | fz x v h => exact .fz _ _ h.norm
 | agg cs vs hl hs hr ih =>
  refine .agg _ vs (by rw [norms_length]; exact hl) (fun j x hx => ?_) (fun j x v hx hv => ?_)
  ·rw [norms_get] at hx
   cases hc : cs[j]? with
   | none => simp [hc] at hx
   | some y => simp [hc] at hx; subst hx; exact norm_scalar (hs j y hc)
  ·rw [norms_get] at hx
   cases hc : cs[j]? with
   | none => simp [hc] at hx
   | some y => simp [hc] at hx; subst hx; exact ih j y v hc hv
 | tup cs vs hl hr ih =>
  refine .tup _ vs (by rw [norms_length]; exact hl) (fun j x v hx hv => ?_)
  rw [norms_get] at hx
  cases hc : cs[j]? with
  | none => simp [hc] at hx
  | some y => simp [hc] at hx; subst hx; exact ih j y v hc hv
 | dead v => exact .dead v
 | ref o off g cs hs hg => exact .ref o off g cs hs hg
 | mapr o g es hs hg => exact .mapr o g es hs hg
 | osl o ver n off len v hv h => exact .osl o ver n off len v hv h
 | eref o ver n i off v hv h => exact .eref o ver n i off v hv h
 | fn f caps vs hl hs hr _ => exact .fn f caps vs hl hs hr
 | iface t x v hr _ => exact .iface t x v hr
theorem frzCells_ok {cs es : List AV} (h : frzCells cs = some es) : norefs cs = true ∧ es = norms cs := by
 unfold frzCells at h
 split at h
 ·rename_i hn; simp at h; exact ⟨hn, h.symm⟩
 ·exact absurd h (by simp)
theorem frzElems_ok : ∀ {L es : List (List AV)}, frzElems L = some es → es.length = L.length ∧ ∀ (i : Nat) (e : List AV), es[i]? = some e → ∃ c, L[i]? = some c ∧ norefs c = true ∧ e = norms c
 | [], es, h => by simp [frzElems] at h; subst h; exact ⟨rfl, by simp⟩
 | c :: L, es, h => by
  simp only [frzElems] at h
  split at h
  ·rename_i e' r' h1 h2
   simp at h; subst h
   obtain ⟨q1, q2⟩ := frzElems_ok h2
   obtain ⟨f1, f2⟩ := frzCells_ok h1
   refine ⟨by simp [q1], fun i e he => ?_⟩
   cases i with
   | zero => simp at he; subst he; exact ⟨c, rfl, f1, f2⟩
   | succ i => simpa using q2 i e (by simpa using he)
  ·exact absurd h (by simp)
theorem chop_get (sz : Nat) : ∀ (n : Nat) (cs : List AV) (i : Nat) (e : List AV), (chop sz n cs)[i]? = some e → i < n ∧ e = (cs.drop (i * sz)).take sz
 | 0, cs, i, e, h => by simp [chop] at h
 | n + 1, cs, i, e, h => by
  cases i with
  | zero => simp [chop] at h; exact ⟨by omega, by simp [h]⟩
  | succ i =>
   obtain ⟨h1, h2⟩ := chop_get sz n (cs.drop sz) i e (by simpa [chop] using h)
   refine ⟨by omega, ?_⟩
   rw [h2, List.drop_drop, Nat.add_mul]; congr 2; omega
theorem chop_length (sz : Nat) : ∀ (n : Nat) (cs : List AV), (chop sz n cs).length = n
 | 0, _ => rfl
 | n + 1, cs => by simp [chop, chop_length sz n]
theorem zerosN_length (zs : List AV) : ∀ n, (zerosN zs n).length = n * zs.length
 | 0 => by simp [zerosN]
 | n + 1 => by simp [zerosN, zerosN_length zs n, Nat.add_mul]; omega
theorem zerosN_get (zs : List AV) (h : 0 < zs.length) : ∀ (n p : Nat), p < n * zs.length → (zerosN zs n)[p]? = zs[p % zs.length]?
 | 0, p, hp => by simp at hp
 | n + 1, p, hp => by
  simp only [zerosN]
  rcases Nat.lt_or_ge p zs.length with h1 | h1
  ·rw [List.getElem?_append_left h1, Nat.mod_eq_of_lt h1]
  ·rw [List.getElem?_append_right h1, zerosN_get zs h n (p - zs.length) (by rw [Nat.add_mul] at hp; omega)]
   congr 1
   conv => rhs; rw [show p = (p - zs.length) + zs.length by omega, Nat.add_mod_right]

theorem row_sl {w : World} {S : Nat → Prop} {b sz cap : Nat} {es : List (List AV)} {D : Array Value} (hb : S b) (hD : ∃ ty fr, w.heap[b]? = some (.cells D ty fr)) (hz : ∀ e ∈ es, e.length = sz) (hl : es.length ≤ cap)
  (hr : ∀ (i : Nat) (e : List AV), es[i]? = some e → ∀ (j : Nat) (x : AV), e[j]? = some x → ∃ u, D[i * sz + j]? = some u ∧ x.scalar = true ∧ RF tab w S x u) : RF tab w S (.sl es) (.slice (some ⟨b, 0, none⟩) es.length cap) := by
 obtain ⟨ty, fr, hD⟩ := hD
 refine .sl b 0 sz cap es (fun i j => D.getD (i * sz + j) undef) hb hz hl (fun i e he j x hx => ?_) (fun i e he j x hx => ?_) (fun i e he j x hx => ?_)
 all_goals obtain ⟨u, h1, h2, h3⟩ := hr i e he j x hx
 ·simp [World.cell?, hD, h1]
 ·exact h2
 ·simp [h1]; exact h3
def litB (P : Program) (t : TypeId) (sz : Nat) (zs : List AV) (len : Nat) : Bool := match elemB P t with
 | some e => szB P e sz && zeroB P e zs && zs.length == sz && decide (0 < sz) && decide (len * sz ≤ 2 ^ 24)
 | none => false
theorem elemB_ok {t e : TypeId} (h : elemB P t = some e) : P.underlying t = some (.slice e) := by
 unfold elemB at h
 split at h
 ·rename_i e' hu; simp at h; subst h; exact hu
 ·exact absurd h (by simp)
theorem lit_run {w : World} {F : Nat → Prop} {σ : St} {γ : List Gh} {env : Env} {a : Act} (E : EnvOk tab w F σ γ env a.tmps) {t : TypeId} {sz len : Nat} {zs cs : List AV} {ps : List (Nat × Operand)} {qs : List (Nat × Opd)} {es : List (List AV)}
  (hB : litB P t sz zs len = true) (hp : chkParts tab (fun i => some (i * sz, sz)) ps (litParts sz qs) = true) (hf : fillParts env (litParts sz qs) (zerosN zs len) = some cs) (he : frzElems (chop sz len cs) = some es) :
  ∃ D e, (Instr.buildSlice t len (ps.map fun (i, x) => (i, a.eval x)).toArray).run P w = .ok (.slice (some ⟨w.heap.size, 0, none⟩) len len) { w with heap := w.heap.push (.cells D e) } ∧ D.size = len * sz ∧ es.length = len ∧ (∀ e ∈ es, e.length = sz) ∧ 0 < sz ∧
   ∀ (i : Nat) (e : List AV), es[i]? = some e → ∀ (j : Nat) (x : AV), e[j]? = some x → ∃ u, D[i * sz + j]? = some u ∧ x.scalar = true ∧ RF tab w (Stab w F σ γ) x u := by
 unfold litB at hB
 cases hel : elemB P t with
 | none => simp [hel] at hB
 | some e =>
  simp [hel] at hB
  obtain ⟨⟨⟨⟨hs, hz⟩, hzl⟩, h0⟩, hle⟩ := hB
  have hu := elemB_ok hel
  obtain ⟨z, hz, hc⟩ := run_zero (P := P) (w := w) hz
  obtain ⟨q1, q2, q3⟩ := constB_go tab (w := w) (S := Stab w F σ γ) hc
  have hzs : z.cells.size = sz := by simpa [hzl] using q1
  have hZl : (zerosN zs len).length = len * sz := by rw [zerosN_length, hzl]
  let zero : Array Value := if len * sz = 0 then #[] else z.cells
  have hzero : (if len * sz = 0 then pure #[] else (do pure (← zeroValue e).cells : Sem (Array Value))).run P w = .ok zero w := by
   by_cases hh : len * sz = 0
   ·simp [zero, hh]
   ·simp [zero, hh, hz]
  have hgetZ : ∀ (j : Nat) (x : AV) (u : Value), (zerosN zs len)[j]? = some x → ((Array.range (len * sz)).map (zero[· % zero.size]!))[j]? = some u → zs[j % sz]? = some x ∧ z.cells.toList[j % sz]? = some u := by
   intro j x u hx hu'
   have hj : j < len * sz := by have := lt_of_get hx; omega
   rw [zerosN_get zs (by omega) _ _ (by rw [hzl]; exact hj), hzl] at hx
   have hne : ¬ len * sz = 0 := by omega
   have hze : zero = z.cells := by simp [zero, hne]
   rw [hze] at hu'
   simp only [Array.getElem?_map] at hu'
   rw [Array.getElem?_range, if_pos hj] at hu'
   simp [hzs] at hu'
   have hm : j % sz < z.cells.size := by rw [hzs]; exact Nat.mod_lt _ h0
   simp [hm] at hu'
   exact ⟨hx, by simp [hm, hu']⟩
  obtain ⟨D, d1, d2, d3, d4, d5⟩ := fill_ok E (C := (Array.range (len * sz)).map (zero[· % zero.size]!)) hp (by simp [hZl]) (fun j x hx => by
    have hj : j < len * sz := by have := lt_of_get hx; omega
    rw [zerosN_get zs (by omega) _ _ (by rw [hzl]; exact hj)] at hx
    exact q2 _ x hx) (fun j x u hx hu' => by
    obtain ⟨k1, k2⟩ := hgetZ j x u hx hu'
    exact .fz _ _ (q3 _ x u k1 k2)) hf
  obtain ⟨l1, l2⟩ := frzElems_ok he
  rw [chop_length] at l1
  have hes : ∀ (i : Nat) (e : List AV), es[i]? = some e → i < len ∧ e = norms ((cs.drop (i * sz)).take sz) ∧ norefs ((cs.drop (i * sz)).take sz) = true := by
   intro i e hi
   obtain ⟨c, hc1, hc2, hc3⟩ := l2 i e hi
   obtain ⟨g1, g2⟩ := chop_get sz len cs i c hc1
   exact ⟨g1, by rw [hc3, g2], by rw [← g2]; exact hc2⟩
  refine ⟨D, e, ?_, by omega, l1, ?_, h0, ?_⟩
  ·simp only [Instr.buildSlice, Sem.run_bind, run_underlying hu, Result.andThen_ok, run_sz hs]
   rw [if_neg (by omega)]
   by_cases hh : len * sz = 0
   ·have hze : zero = #[] := by simp [zero, hh]
    rw [hze] at d1
    simp only [hh, if_true, Sem.run_bind, Sem.run_pure, Result.andThen_ok] at d1 ⊢
    simp only [d1]
    simp [newRow]
   ·have hze : zero = z.cells := by simp [zero, hh]
    rw [hze] at d1
    simp only [hh, if_false, Sem.run_bind, hz, Sem.run_pure, Result.andThen_ok, d1]
    simp [newRow]
  ·intro el hel'
   obtain ⟨i, hi, ee⟩ := List.getElem_of_mem hel'
   obtain ⟨k1, k2, k3⟩ := hes i el (by rw [List.getElem?_eq_getElem hi, ee])
   have : (i + 1) * sz ≤ len * sz := Nat.mul_le_mul_right _ k1
   rw [Nat.add_mul] at this
   rw [k2, norms_length]; simp; omega
  ·intro i el hi j x hx
   obtain ⟨k1, k2, k3⟩ := hes i el hi
   rw [k2, norms_get] at hx
   cases hcj : ((cs.drop (i * sz)).take sz)[j]? with
   | none => simp [hcj] at hx
   | some y =>
    simp [hcj] at hx; subst hx
    have hnr := (norefs_iff _).1 k3 j y hcj
    have hj : j < sz := by have := lt_of_get hcj; simp at this; omega
    rw [List.getElem?_take_of_lt hj, List.getElem?_drop] at hcj
    have hjD : i * sz + j < D.size := by have := lt_of_get hcj; omega
    exact ⟨D[i * sz + j], Array.getElem?_eq_getElem hjD, norm_scalar (d4 _ y hcj), ((d5 _ y _ hcj (Array.getElem?_eq_getElem hjD)).frozen hnr).norm⟩
theorem lit_ok {w : World} {F : Nat → Prop} {base : Nat} {σ : St} {γ : List Gh} {env : Env} {a : Act} (I : Inv tab w F σ γ) (E : EnvOk tab w F σ γ env a.tmps) {t : TypeId} {sz len : Nat} {zs cs : List AV} {ps : List (Nat × Operand)} {qs : List (Nat × Opd)} {es : List (List AV)}
  (hB : litB P t sz zs len = true) (hp : chkParts tab (fun i => some (i * sz, sz)) ps (litParts sz qs) = true) (hf : fillParts env (litParts sz qs) (zerosN zs len) = some cs) (he : frzElems (chop sz len cs) = some es) :
  Done tab F base w σ γ ((val (Instr.buildSlice t len (ps.map fun (i, x) => (i, a.eval x)).toArray)).run P w) (if len = 0 then .nils else .sl es) σ := by
 obtain ⟨D, e, hrun, hDs, hel, hez, h0, hr⟩ := lit_run E hB hp hf he
 obtain ⟨h1, h2⟩ := free_push I (.cells D e)
 refine ⟨_, _, γ, .inl (val_run hrun), h1, h2, ?_, Fr.refl _ _⟩
 by_cases hl : len = 0
 ·subst hl; exact .fz _ _ (.nils _)
 ·rw [if_neg hl]
  have := row_sl (tab := tab) (w := { w with heap := w.heap.push (.cells D e) }) (S := Stab { w with heap := w.heap.push (.cells D e) } F σ γ) (b := w.heap.size) (sz := sz) (cap := len) (es := es) (D := D) (free_stab I _) ⟨e, (0, 0), Array.getElem?_push_size⟩ hez (by omega)
   (fun i el hi j x hx => by
    obtain ⟨u, u1, u2, u3⟩ := hr i el hi j x hx
    exact ⟨u, u1, u2, u3.mono fun b hb => h1.stab hb⟩)
  rw [hel] at this
  exact .fz _ _ this
theorem arr_obj {w w1 : World} {F : Nat → Prop} {σ σ1 : St} {γ γ1 : List Gh} {m : Nat} (st : Step m w σ γ w1 σ1 γ1) {ver sz : Nat} {es : List (List AV)} {D : Array Value} {ty : TypeId} {g : Gh} (h0 : 0 < sz) (hl : es.length ≤ g.cap) (hz : ∀ e ∈ es, e.length = sz)
  (hb : 0 < g.cap → w1.heap[g.b]? = some (.cells D ty (0, 0)) ∧ g.base + g.cap * sz ≤ D.size)
  (hr : ∀ (i : Nat) (e : List AV), es[i]? = some e → ∀ (j : Nat) (x : AV), e[j]? = some x → ∃ u, D[g.base + i * sz + j]? = some u ∧ x.scalar = true ∧ RF tab w (Stab w F σ γ) x u) :
  ObOk tab w1 (Stab w1 F σ1 γ1) σ1 γ1 (.arr ver sz es) g :=
 ⟨h0, hl, hz, fun hc => ⟨D, ty, (hb hc).1, (hb hc).2, fun i e he j x hx => by
  obtain ⟨u, u1, u2, u3⟩ := hr i e he j x hx
  exact ⟨u, u1, u2, u3.mono fun b hb => st.stab hb⟩⟩⟩
theorem lit_pr_ok {w : World} {F : Nat → Prop} {base : Nat} {σ : St} {γ : List Gh} {env : Env} {a : Act} (I : Inv tab w F σ γ) (hbase : base ≤ σ.length) (E : EnvOk tab w F σ γ env a.tmps) {t : TypeId} {sz len : Nat} {zs cs : List AV} {ps : List (Nat × Operand)} {qs : List (Nat × Opd)} {es : List (List AV)}
  (hB : litB P t sz zs len = true) (hp : chkParts tab (fun i => some (i * sz, sz)) ps (litParts sz qs) = true) (hf : fillParts env (litParts sz qs) (zerosN zs len) = some cs) (he : frzElems (chop sz len cs) = some es) :
  Done tab F base w σ γ ((val (Instr.buildSlice t len (ps.map fun (i, x) => (i, a.eval x)).toArray)).run P w) (.osl σ.length 0 len 0 len) (σ ++ [.arr 0 sz es]) := by
 obtain ⟨D, e, hrun, hDs, hel, hez, h0, hr⟩ := lit_run E hB hp hf he
 obtain ⟨h1, h2, h3⟩ := new_push I hbase (.cells D e) (.arr 0 sz es) len fun st =>
  arr_obj (D := D) (ty := e) (g := ⟨w.heap.size, 0, len⟩) st h0 (by simp [hel]) hez (fun _ => ⟨Array.getElem?_push_size, by simp [hDs]⟩) (fun i el hi j x hx => by simpa using hr i el hi j x hx)
 refine ⟨_, _, _, .inl (val_run hrun), h1, h2, .osl _ _ _ _ _ _ ⟨_, _, _, rfl⟩ ⟨.arr 0 sz es, ⟨w.heap.size, 0, len⟩, by simp, by rw [← I.len]; simp, .inr ⟨rfl, by omega⟩, fun _ _ _ => ⟨_, rfl, fun _ => by simp⟩⟩, h3⟩

theorem store_eref_ok {w : World} {F : Nat → Prop} {base : Nat} {σ : St} {γ : List Gh} {t : TypeId} {sz o ver n i off : Nat} {y : AV} {v u : Value} {sz' : Nat} {es : List (List AV)} {e zs : List AV} (I : Inv tab w F σ γ) (hz : szB P t sz = true) (hx : RS tab w F σ γ (.eref o ver n i off) u)
  (hy : RS tab w F σ γ y v) (hl : y.cellsOf.length = sz) (hs : y.cellsOf.all AV.scalar = true) (ho : σ[o]? = some (.arr ver sz' es)) (hn : es.length = n) (he : es[i]? = some e) (hle : off + sz ≤ e.length) (hf : frzCells y.cellsOf = some zs) :
  Done tab F base w σ γ ((do Instr.storeAt t u v; pure Next.skip : Sem Next).run P w) .dead (σ.set o (.arr ver sz' (es.set i (over e off zs)))) := by
 cases hx with
 | fz _ _ h => exact absurd h.noref (by simp [AV.noref])
 | eref _ _ _ _ _ _ hv h =>
  obtain ⟨x, g, hx, hg, h⟩ := h
  rw [ho] at hx; simp at hx; subst hx
  have hi := lt_of_get he
  have hu := h.2 rfl hn.symm (by omega)
  subst hu
  have hs0 : ∀ (j : Nat) (x : AV), y.cellsOf[j]? = some x → x.scalar = true := fun j x hx => (List.all_eq_true.1 hs) x (List.mem_of_getElem? hx)
  obtain ⟨q1, q2⟩ := cells_ok hy hs0
  obtain ⟨f1, f2⟩ := frzCells_ok hf
  obtain ⟨k1, k2, k3, k4⟩ := I.ok o _ g ho hg
  have hcap : 0 < g.cap := by omega
  obtain ⟨vs, ty, e1, e2, e3⟩ := k4 hcap
  have hel : e.length = sz' := k3 e (List.mem_of_getElem? he)
  have hrow : (i + 1) * sz' ≤ g.cap * sz' := Nat.mul_le_mul_right _ (by omega)
  rw [Nat.add_mul] at hrow
  have hzl : zs.length = sz := by rw [f2, norms_length, hl]
  have hle' : g.base + i * sz' + off + v.cells.size ≤ vs.size := by omega
  have h1 : ∀ u ∈ v.cells.toList, u.oneCell' = true := by
   intro u hu
   obtain ⟨j, hj, ee⟩ := List.getElem_of_mem hu
   have hj' : j < y.cellsOf.length := by simp at hj; omega
   exact one_ok (q2 j y.cellsOf[j] u (List.getElem?_eq_getElem hj') (by rw [← ee]; simp at hj ⊢)) (hs0 j _ (List.getElem?_eq_getElem hj'))
  have hrun := run_store_over (P := P) (t := t) (sz := sz) hz (by omega) e1 hle' h1
  obtain ⟨s1, s2⟩ := set_row (x' := .arr ver sz' (es.set i (over e off zs))) (ws := (vs.toList.take (g.base + i * sz' + off) ++ v.cells.toList ++ vs.toList.drop (g.base + i * sz' + off + v.cells.toList.length)).toArray) I ho hg (by simp [owns, hcap]) (.same _ _ _ _ _ (by simp))
  have hvl : v.cells.toList.length = sz := by simp; omega
  refine ⟨undef, _, γ, .inr ⟨by simp [hrun], rfl⟩, s1, s2 ?_, .dead _, ?_⟩
  ·refine arr_obj (D := (vs.toList.take (g.base + i * sz' + off) ++ v.cells.toList ++ vs.toList.drop (g.base + i * sz' + off + v.cells.toList.length)).toArray) (ty := ty) s1 k1 (by simpa using k2) (fun e' he' => ?_) (fun _ => ⟨setRow_heap w g.b vs _ ty _ e1, by rw [overV_size _ _ _ (by simpa using hle')]; exact e2⟩) (fun i' e' hi' j x hx => ?_)
   ·rcases List.mem_or_eq_of_mem_set he' with h' | h'
    ·exact k3 e' h'
    ·subst h'; rw [over_length _ _ _ (by omega)]; exact hel
   ·rw [List.getElem?_set] at hi'
    rw [overV_get _ _ _ _ (by simpa using hle')]
    by_cases hii : i = i'
    ·subst hii
     simp [hi] at hi'
     subst hi'
     rw [over_get _ _ _ _ (by omega)] at hx
     split at hx
     ·rename_i hj
      rw [f2, norms_get] at hx
      cases hcj : y.cellsOf[j - off]? with
      | none => simp [hcj] at hx
      | some z =>
       simp [hcj] at hx; subst hx
       have hjv : j - off < v.cells.size := by have := lt_of_get hcj; omega
       refine ⟨v.cells[j - off], ?_, norm_scalar (hs0 _ z hcj), ((q2 _ z _ hcj (Array.getElem?_eq_getElem hjv)).frozen ((norefs_iff _).1 f1 _ z hcj)).norm⟩
       rw [if_pos (by omega)]
       rw [show g.base + i * sz' + j - (g.base + i * sz' + off) = j - off by omega]
       simp [hjv]
     ·rename_i hj
      obtain ⟨u, u1, u2, u3⟩ := e3 i e he j x hx
      refine ⟨u, ?_, u2, u3⟩
      rw [if_neg (by omega)]; exact u1
    ·simp [hii] at hi'
     obtain ⟨u, u1, u2, u3⟩ := e3 i' e' hi' j x hx
     refine ⟨u, ?_, u2, u3⟩
     have hj : j < sz' := by have := lt_of_get hx; have := k3 e' (List.mem_of_getElem? hi'); omega
     rw [if_neg ?_]
     ·exact u1
     ·rcases Nat.lt_or_gt_of_ne hii with hlt | hgt
      ·have : (i + 1) * sz' ≤ i' * sz' := Nat.mul_le_mul_right _ (by omega)
       rw [Nat.add_mul] at this; omega
      ·have : (i' + 1) * sz' ≤ i * sz' := Nat.mul_le_mul_right _ (by omega)
       rw [Nat.add_mul] at this; omega
  ·exact Fr.set fun b _ _ _ => rfl
end
end Go.Den
