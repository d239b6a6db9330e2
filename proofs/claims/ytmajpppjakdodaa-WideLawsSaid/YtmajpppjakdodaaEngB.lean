/- The engine, part B: the evaluator. -/
import Derived.Test.YtmajpppjakdodaaEngA
set_option linter.all false
set_option exponentiation.threshold 3000
namespace Go.Eng

/-- what the evaluator leaves unopened: a variable while it runs, 'std' behind it -/
structure Alg where
  bin : BinOp → IntKind → Int → Int → Int
  cmp : BinOp → Int → Int → Bool
  wrap : IntKind → Int → Int
  not : Bool → Bool
  and : Bool → Bool → Bool
  imp : Bool → Bool → Bool
  ite : Bool → Bool → Bool → Bool
  beq : Bool → Bool → Bool
  seq : ByteArray → ByteArray → Bool
  dig : Dg → Int → Int
  setD : Dg → Int → Int → Dg
  eqD : Dg → Dg → Bool
  eqW : Wd → Wd → Bool
  eqR : Rt → Rt → Bool
  eqP : Pt → Pt → Bool
  zD : Dg
  len : {α : Type} → List α → Int
  get : {α : Type} → List α → Int → α → α
  set : {α : Type} → List α → Int → α → List α
  app : {α : Type} → List α → List α → List α
  sub : {α : Type} → List α → Int → Int → List α
  slen : ByteArray → Int
  sb : ByteArray → Int → Int
  iadd : Int → Int → Int
  isub : Int → Int → Int
  mn : Int → Int → Int
  mx : Int → Int → Int
  digs : Dg → Int → Int → List Int
  dig2 : Dg → Dg → Int → Int
  setLo : Dg → Int → Int → Dg
  setHi : Dg → Int → Int → Dg
  copyD : Dg → Int → Int → List Int → Dg
  all32 : List Int → Bool
  rep : {α : Type} → Int → α → List α
  ssub : ByteArray → Int → Int → ByteArray
  scat : ByteArray → ByteArray → ByteArray
  ofB : List Int → ByteArray

/-- the kinds of parts of a slice's elements -/
inductive AK where
  | int (k : IntKind) | bool | W | R | P
  deriving DecidableEq

abbrev AK.ty : AK → Type
  | .int _ => Int | .bool => Bool | .W => Wd | .R => Rt | .P => Pt

abbrev rowTy : List AK → Type
  | [] => Unit
  | k :: r => k.ty × rowTy r

/-- the kinds of a slice's elements -/
inductive RK where
  | int (k : IntKind) | bool | rt | pt | i3 | wd | row (l : List AK)

abbrev RK.ty : RK → Type
  | .int _ => Int | .bool => Bool | .rt => Rt | .pt => Pt | .i3 => Int × Int × Int | .wd => Wd | .row l => rowTy l

inductive Blk where
  | fix (own : Bool) (l : List At)
  | vec (own : Bool) (k : RK) (l : List k.ty)
  | gone

inductive CK where
  | int (k : IntKind) | bool | str
  deriving DecidableEq

structure TI where
  eq : Bool        -- all its cells are numbers and bools, compared one by one
  agg : Bool
  size : Nat
  zero : CV
  fields : List (Nat × Nat)        -- of a struct: each field's offset, its size
  arr : Option (Nat × Nat × Nat)   -- of an array: length, element type, element size
  elem : Option (Nat × Nat × RK)   -- of a slice: element type, element size, kind
  sc : Option CK                   -- of a number, a bool: its kind

abbrev Heap := List (Nat × Blk)

structure FR where
  ob : List Bool
  val : XV
  new : List Blk
  wr : Heap

def pureR (v : CV) : Option FR := some ⟨[], .c v, [], []⟩
def pureO (ob : List Bool) (v : CV) : Option FR := some ⟨ob, .c v, [], []⟩

abbrev Sem' := Nat → List CV → Heap → Option FR

structure Ent where
  gs : List (Nat × Bool)
  v : XV

structure St where
  env : List (Nat × Ent)
  heap : Heap
  nid : Nat

/-- are loops gone through round by round; the slots that are kept behind a region, if not all -/
structure Md where
  un : Bool
  keep : Option (List Nat)

structure Cx where
  N : Nat
  A : Alg
  T : Nat → Option TI
  C : Nat → Option Sem'
  un : Md
  loop : Code → St → (Exit → St → Prop) → Prop

def look {α : Type} : List (Nat × α) → Nat → Option α
  | [], _ => none
  | (j, v) :: r, i => if j == i then some v else look r i

def setH : Heap → Nat → Blk → Heap
  | [], _, _ => []
  | (j, b) :: r, i, c => if j == i then (j, c) :: r else (j, b) :: setH r i c

def allH : Heap → Heap → Heap
  | h, [] => h
  | h, (i, b) :: r => allH (setH h i b) r

def addH : Heap → Nat → List Blk → Heap
  | h, _, [] => h
  | h, n, b :: r => (n, b) :: addH h (n + 1) r

def CV.atoms : CV → List At
  | .s x => [.s x]
  | .g l => l

def noUn : List At → Bool
  | [] => true
  | .s .un :: _ => false
  | _ :: r => noUn r

def constSc : Value → Option Sc
  | .bool b => some (.tt b)
  | .int k n => some (.lit k n)
  | .string s => some (.str s)
  | .pointer none => some .nilp
  | .slice none 0 0 => some .nils
  | .map none => some .nilm
  | _ => none

def sufx : List (Nat × Bool) → List (Nat × Bool) → Bool
  | gs, hs => if gs == hs then true else match hs with
    | [] => false
    | _ :: r => sufx gs r

section
variable (K : Cx)

/-- a slot's value, as it reads where the guards gs hold -/
def rdE (env : List (Nat × Ent)) (gs : List (Nat × Bool)) (t : Nat) : Option XV :=
  match look env t with
  | some e => if sufx e.gs gs then match e.v with
    | .c (.s .un) => none
    | v => some v else none
  | none => none

def rdX (env : List (Nat × Ent)) (gs : List (Nat × Bool)) : Operand → Option XV
  | .tmp t => rdE env gs t
  | .const v => match constSc v with
    | some s => some (.c (.s s))
    | none => none
  | .func f => some (.c (.s (.fn f [])))
  | .global _ => none

def rdC (env : List (Nat × Ent)) (gs : List (Nat × Bool)) (x : Operand) : Option CV :=
  match rdX env gs x with
  | some (.c v) => some v
  | _ => none

def rdS (env : List (Nat × Ent)) (gs : List (Nat × Bool)) (x : Operand) : Option Sc :=
  match rdX env gs x with
  | some (.c (.s v)) => some v
  | _ => none

/-- a number: is it known, its kind, it -/
def Sc.num : Sc → Option (Bool × IntKind × Int)
  | .lit k n => some (true, k, n)
  | .int k n => some (false, k, n)
  | _ => none

def Sc.boo : Sc → Option (Bool × Bool)
  | .tt b => some (true, b)
  | .bool b => some (false, b)
  | _ => none

def stdBin (op : BinOp) (k : IntKind) (a b : Int) : Int :=
  match op with
  | .add => k.wrap (a + b)
  | .sub => k.wrap (a - b)
  | .mul => k.wrap (a * b)
  | .quo => k.wrap (a.tdiv b)
  | .rem => a.tmod b
  | .and => k.wrap (BitVec.ofInt k.bits a &&& BitVec.ofInt k.bits b).toNat
  | .or => k.wrap (BitVec.ofInt k.bits a ||| BitVec.ofInt k.bits b).toNat
  | .xor => k.wrap (BitVec.ofInt k.bits a ^^^ BitVec.ofInt k.bits b).toNat
  | .andNot => k.wrap (BitVec.ofInt k.bits a &&& ~~~ BitVec.ofInt k.bits b).toNat
  | .shl => k.wrap (a * 2 ^ min b.toNat k.bits)
  | .shr => a.fdiv (2 ^ min b.toNat k.bits)
  | _ => 0

def stdCmp (op : BinOp) (a b : Int) : Bool :=
  match op with
  | .eql => a == b | .neq => a != b
  | .lss => decide (a < b) | .leq => decide (a ≤ b) | .gtr => decide (a > b) | .geq => decide (a ≥ b)
  | _ => false

def isCmp : BinOp → Bool
  | .eql | .neq | .lss | .leq | .gtr | .geq => true
  | _ => false

def mkInt (lit : Bool) (k : IntKind) (op : BinOp) (a b : Int) : Sc :=
  if lit then .lit k (stdBin op k a b) else .int k (K.A.bin op k a b)

def evInt (op : BinOp) (x y : Bool × IntKind × Int) : Option FR :=
  match x, y with
  | (lx, k, a), (ly, k', b) =>
    match op with
    | .shl | .shr => if ly then (if stdCmp .geq b 0 then pureR (.s (mkInt K (lx && ly) k op a b)) else none)
                     else pureO [K.A.cmp .geq b 0] (.s (mkInt K false k op a b))
    | .quo | .rem =>
      if k = k' then (if ly then (if stdCmp .neq b 0 then pureR (.s (mkInt K (lx && ly) k op a b)) else none)
                     else pureO [K.A.cmp .neq b 0] (.s (mkInt K false k op a b))) else none
    | .add | .sub | .mul | .and | .or | .xor | .andNot => if k = k' then pureR (.s (mkInt K (lx && ly) k op a b)) else none
    | .eql | .neq | .lss | .leq | .gtr | .geq => if k = k' then pureR (.s (if lx && ly then .tt (stdCmp op a b) else .bool (K.A.cmp op a b))) else none

/-- are two scalars alike -/
def eqSc : Sc → Sc → Option Sc
  | .lit k a, y => match y with
    | .lit k' b => if k = k' then some (.tt (stdCmp .eql a b)) else none
    | .int k' b => if k = k' then some (.bool (K.A.cmp .eql a b)) else none
    | _ => none
  | .int k a, y => match y with
    | .lit k' b => if k = k' then some (.bool (K.A.cmp .eql a b)) else none
    | .int k' b => if k = k' then some (.bool (K.A.cmp .eql a b)) else none
    | _ => none
  | .tt a, y => match y with
    | .tt b => some (.tt (a == b))
    | .bool b => some (.bool (K.A.beq a b))
    | _ => none
  | .bool a, y => match y with
    | .tt b => some (.bool (K.A.beq a b))
    | .bool b => some (.bool (K.A.beq a b))
    | _ => none
  | .str a, .str b => some (.bool (K.A.seq a b))
  | _, _ => none

def andSc : Sc → Sc → Option Sc
  | .tt true, y => some y
  | .tt false, _ => some (.tt false)
  | .bool a, .tt true => some (.bool a)
  | .bool _, .tt false => some (.tt false)
  | .bool a, .bool b => some (.bool (K.A.and a b))
  | _, _ => none

def eqAt1 : At → At → Option Sc
  | .s x, .s y => eqSc K x y
  | .D x, .D y => some (.bool (K.A.eqD x y))
  | .W x, .W y => some (.bool (K.A.eqW x y))
  | .R x, .R y => some (.bool (K.A.eqR x y))
  | .P x, .P y => some (.bool (K.A.eqP x y))
  | _, _ => none

def eqAts : Nat → List At → List At → Option Sc
  | 0, _, _ => none
  | _ + 1, [], [] => some (.tt true)
  | fuel + 1, a :: r, b :: q =>
    if a.size == b.size then match eqAt1 K a b, eqAts fuel r q with
      | some x, some y => andSc K x y
      | _, _ => none
    else if a.size ≤ b.size then match b.expand with
      | some ex => eqAts fuel (a :: r) (ex ++ q)
      | none => none
    else match a.expand with
      | some ex => eqAts fuel (ex ++ r) (b :: q)
      | none => none
  | _ + 1, _, _ => none

/-- are two atoms of one kind -/
def shp1 : At → At → Bool
  | .s x, .s y => match x.num, y.num with
    | some (_, k, _), some (_, k', _) => k == k'
    | _, _ => match x.boo, y.boo with
      | some _, some _ => true
      | _, _ => false
  | .D _, .D _ => true
  | .W _, .W _ => true
  | .R _, .R _ => true
  | .P _, .P _ => true
  | _, _ => false

def shps : Nat → List At → List At → Bool
  | 0, _, _ => false
  | _ + 1, [], [] => true
  | fuel + 1, a :: r, b :: q =>
    if a.size == b.size then shp1 a b && shps fuel r q
    else if a.size ≤ b.size then match b.expand with
      | some ex => shps fuel (a :: r) (ex ++ q)
      | none => false
    else match a.expand with
      | some ex => shps fuel (ex ++ r) (b :: q)
      | none => false
  | _ + 1, _, _ => false

def notSc : Sc → Option Sc
  | .tt b => some (.tt (!b))
  | .bool b => some (.bool (K.A.not b))
  | _ => none

/-- may two scalars that are no numbers be held against each other: texts, or bools of a bool's type -/
def okB (t : Nat) (a b : Sc) : Bool := match a, b with
  | .str _, .str _ => true
  | _, _ => match K.T t with
    | some i => match i.sc, a.boo, b.boo with
      | some .bool, some _, some _ => true
      | _, _, _ => false
    | none => false

def evBin (op : BinOp) (t : Nat) (x y : CV) : Option FR :=
  match x, y with
  | .s a, .s b =>
    match a.num, b.num with
    | some p, some q => evInt K op p q
    | _, _ => if !okB K t a b then none else match op with
      | .eql => match eqSc K a b with
        | some r => pureR (.s r)
        | none => none
      | .neq => match eqSc K a b with
        | some r => match notSc K r with
          | some r' => pureR (.s r')
          | none => none
        | none => none
      | .add => match a, b with
        | .str x, .str y => pureO [K.A.cmp .leq (K.A.iadd (K.A.slen x) (K.A.slen y)) 1000000] (.s (.str (K.A.scat x y)))
        | _, _ => none
      | _ => none
  | .g l, .g m => match K.T t with
    | some i => if i.agg && i.eq && shps 2000 l i.zero.atoms && shps 2000 m i.zero.atoms then match op with
      | .eql => match eqAts K 2000 l m with
        | some r => pureR (.s r)
        | none => none
      | .neq => match eqAts K 2000 l m with
        | some r => match notSc K r with
          | some r' => pureR (.s r')
          | none => none
        | none => none
      | _ => none else none
    | none => none
  | _, _ => none

def evUn (op : UnOp) (x : Sc) : Option FR :=
  match op, x with
  | .not, x => match notSc K x with
    | some r => pureR (.s r)
    | none => none
  | .neg, .lit k n => pureR (.s (.lit k (stdBin .sub k 0 n)))
  | .neg, .int k n => pureR (.s (.int k (K.A.bin .sub k 0 n)))
  | .xor, .lit k n => pureR (.s (.lit k (stdBin .xor k (if k.signed then -1 else k.max) n)))
  | .xor, .int k n => pureR (.s (.int k (K.A.bin .xor k (if k.signed then -1 else k.max) n)))
  | _, _ => none

def evConv (src dst : Nat) (x : Sc) : Option FR :=
  match K.T src with
  | none => none
  | some _ => match K.T dst with
  | some i => match i.sc, x with
    | some (.int k), .lit _ n => pureR (.s (.lit k (k.wrap n)))
    | some (.int k), .int _ n => pureR (.s (.int k (K.A.wrap k n)))
    | _, _ => none
  | none => none

def AK.at1 : (k : AK) → k.ty → At
  | .int k, n => .s (.int k n)
  | .bool, b => .s (.bool b)
  | .W, x => .W x
  | .R, x => .R x
  | .P, x => .P x

def AK.sz : AK → Nat
  | .int _ => 1 | .bool => 1 | .W => 33 | .R => 66 | .P => 132

def rowAt : (l : List AK) → rowTy l → List At
  | [], _ => []
  | k :: r, x => k.at1 x.1 :: rowAt r x.2

def rowSz : List AK → Nat
  | [] => 0
  | k :: r => k.sz + rowSz r

/-- the atoms of a slice's element -/
def RK.at : (k : RK) → k.ty → List At
  | .int k, n => [.s (.int k n)]
  | .bool, b => [.s (.bool b)]
  | .rt, r => [.R r]
  | .pt, p => [.P p]
  | .i3, x => [.s (.int .i64 x.1), .s (.int .i64 x.2.1), .s (.int .i64 x.2.2)]
  | .wd, x => [.W x]
  | .row l, x => rowAt l x

def RK.esz : RK → Nat
  | .int _ => 1 | .bool => 1 | .rt => 66 | .pt => 132 | .i3 => 3 | .wd => 33 | .row l => rowSz l

def ofInt (k : IntKind) : List At → Option Int
  | [.s (.lit k' n)] => if k = k' then some n else none
  | [.s (.int k' n)] => if k = k' then some n else none
  | _ => none

def ofBool : List At → Option Bool
  | [.s (.tt b)] => some b
  | [.s (.bool b)] => some b
  | _ => none

def ofRt : List At → Option Rt
  | [.R r] => some r
  | _ => none

def ofPt : List At → Option Pt
  | [.P p] => some p
  | _ => none

def ofI3 : List At → Option (Int × Int × Int)
  | [.s x, .s y, .s z] => match x.num, y.num, z.num with
    | some (_, .i64, a), some (_, .i64, b), some (_, .i64, c) => some (a, b, c)
    | _, _, _ => none
  | _ => none

def ofWd : List At → Option Wd
  | [.W r] => some r
  | _ => none

def AK.of1 : (k : AK) → List At → Option k.ty
  | .int k, l => ofInt k l
  | .bool, l => ofBool l
  | .W, l => ofWd l
  | .R, l => ofRt l
  | .P, l => ofPt l

def ofRow : (ks : List AK) → List At → Option (rowTy ks)
  | [], [] => some ()
  | [], _ :: _ => none
  | k :: r, l => match takeA 400 k.sz l, dropA 400 k.sz l with
    | some m, some q => match k.of1 (merge m), ofRow r q with
      | some x, some y => some (x, y)
      | _, _ => none
    | _, _ => none

def RK.of : (k : RK) → List At → Option k.ty
  | .int k, l => ofInt k l
  | .bool, l => ofBool l
  | .rt, l => ofRt l
  | .pt, l => ofPt l
  | .i3, l => ofI3 l
  | .wd, l => ofWd l
  | .row ks, l => ofRow ks l

def AK.dflt : (k : AK) → Alg → k.ty
  | .int _, _ => 0
  | .bool, _ => false
  | .W, A => ⟨false, A.zD⟩
  | .R, A => ⟨⟨false, A.zD⟩, ⟨false, A.zD⟩⟩
  | .P, A => ⟨⟨⟨false, A.zD⟩, ⟨false, A.zD⟩⟩, ⟨⟨false, A.zD⟩, ⟨false, A.zD⟩⟩⟩

def rowDflt : (l : List AK) → Alg → rowTy l
  | [], _ => ()
  | k :: r, A => (k.dflt A, rowDflt r A)

def RK.dflt : (k : RK) → Alg → k.ty
  | .int _, _ => 0
  | .bool, _ => false
  | .rt, A => ⟨⟨false, A.zD⟩, ⟨false, A.zD⟩⟩
  | .pt, A => ⟨⟨⟨false, A.zD⟩, ⟨false, A.zD⟩⟩, ⟨⟨false, A.zD⟩, ⟨false, A.zD⟩⟩⟩
  | .i3, _ => (0, 0, 0)
  | .wd, A => ⟨false, A.zD⟩
  | .row l, A => rowDflt l A

def digAt (A : Alg) : List At → Nat → Option Sc
  | [], _ => none
  | a :: r, off =>
    if off < a.size then match a with
      | .D d => some (.int .u32 (A.dig d off))
      | .W w => match off with
        | 0 => none
        | o + 1 => some (.int .u32 (A.dig w.d o))
      | _ => none
    else digAt A r (off - a.size)

def atD : List At → Nat → Option Dg
  | [], _ => none
  | a :: r, off =>
    match off with
    | 0 => match a with
      | .D d => some d
      | _ => none
    | 1 => match a with
      | .W w => some w.d
      | _ => if a.size == 1 then atD r 0 else none
    | o + 2 => if a.size ≤ o + 2 then atD r (o + 2 - a.size) else match a with
      | .R r => if o + 2 == 34 then some r.D.d else none
      | _ => none

/-- two arrays of words, one behind the other -/
def atE (l : List At) (base : Nat) : Option (Dg × Dg) := match dropA 400 base l with
  | some (.D a :: .D b :: _) => some (a, b)
  | _ => none

def asVal (agg : Bool) (l : List At) : Option CV :=
  if agg then some (.g (merge l)) else match l with
    | [.s x] => some (.s x)
    | _ => none

def evLoad (heap : Heap) (t : Nat) (p : Sc) : Option FR :=
  match K.T t with
  | none => none
  | some i => match p with
    | .hp id off => match look heap id with
      | some (.fix _ l) => match subA l off i.size with
        | some m => match asVal i.agg m with
          | some v => pureR v
          | none => none
        | none => if i.size == 1 && !i.agg then match digAt K.A l off with
            | some x => pureR (.s x)
            | none => none else none
      | _ => none
    | .pe id base esz n o => match look heap id with
      | some (.fix _ l) => if esz == 1 && o == 0 && i.size == 1 && !i.agg then match atE l base with
          | some (d, e) => pureO [K.A.cmp .leq 0 n, K.A.cmp .lss n 64] (.s (.int .u32 (K.A.dig2 d e n)))
          | none => match atD l base with
            | some d => pureO [K.A.cmp .leq 0 n, K.A.cmp .lss n 32] (.s (.int .u32 (K.A.dig d n)))
            | none => none else none
      | _ => none
    | .ve id esz n off => match look heap id with
      | some (.vec _ k l) => match subA (k.at (K.A.get l n (k.dflt K.A))) off i.size with
        | some m => match asVal i.agg m with
          | some v => if esz == k.esz then pureO [K.A.cmp .leq 0 n, K.A.cmp .lss n (K.A.len l)] v else none
          | none => none
        | none => none
      | _ => none
    | _ => none

def wrR (ob : List Bool) (id : Nat) (b : Blk) : Option FR := some ⟨ob, .c (.s .un), [], [(id, b)]⟩

def evStore (heap : Heap) (t : Nat) (p : Sc) (v : CV) : Option FR :=
  match K.T t with
  | none => none
  | some i => if sizes v.atoms == i.size && noUn v.atoms then match p with
    | .hp id off => match look heap id with
      | some (.fix true l) => match updA l off v.atoms with
        | some m => wrR [] id (.fix true m)
        | none => none
      | _ => none
    | .pe id base esz n o => match look heap id, v with
      | some (.fix true l), .s x => if esz == 1 && o == 0 && i.size == 1 && !i.agg then match atE l base, x.num with
          | some (d, e), some (_, .u32, z) => match updA l base [.D (K.A.setLo d n z), .D (K.A.setHi e n z)] with
            | some m => wrR [K.A.cmp .leq 0 n, K.A.cmp .lss n 64, K.A.cmp .leq 0 z, K.A.cmp .lss z 4294967296] id (.fix true m)
            | none => none
          | none, some (_, .u32, z) => match atD l base with
            | some d => match updA l base [.D (K.A.setD d n z)] with
              | some m => wrR [K.A.cmp .leq 0 n, K.A.cmp .lss n 32, K.A.cmp .leq 0 z, K.A.cmp .lss z 4294967296] id (.fix true m)
              | none => none
            | none => none
          | _, _ => none else none
      | _, _ => none
    | .ve id esz n off => match look heap id with
      | some (.vec true k l) => if off == 0 && esz == k.esz && i.size == k.esz then match k.of v.atoms with
          | some e => wrR [K.A.cmp .leq 0 n, K.A.cmp .lss n (K.A.len l)] id (.vec true k (K.A.set l n e))
          | none => none else none
      | _ => none
    | _ => none else none

def evField (heap : Heap) (t : Nat) (p : Sc) (f : Nat) : Option FR :=
  match K.T t with
  | some i => match i.fields[f]? with
    | some (o, _) => match p with
      | .hp id off => match look heap id with
        | some (.fix _ _) => pureR (.s (.hp id (off + o)))
        | _ => none
      | .ve id e n off => match look heap id with
        | some (.vec _ _ l) => pureO [K.A.cmp .leq 0 n, K.A.cmp .lss n (K.A.len l)] (.s (.ve id e n (off + o)))
        | _ => none
      | _ => none
    | none => none
  | none => none

def evIdx (heap : Heap) (t : Nat) (p x : Sc) : Option FR :=
  match K.T t with
  | some i => match i.arr, p, x.num with
    | some (n, _, e), .hp id off, some (true, _, j) => match look heap id with
      | some (.fix _ _) => if stdCmp .leq 0 j && stdCmp .lss j n then pureR (.s (.hp id (off + j.toNat * e))) else none
      | _ => none
    | some (n, _, e), .hp id off, some (false, _, j) => match look heap id with
      | some (.fix _ _) => pureO [K.A.cmp .leq 0 j, K.A.cmp .lss j n] (.s (.pe id off e j 0))
      | _ => none
    | none, .hs id, some (_, _, j) => match i.elem, look heap id with
      | some (_, e, _), some (.vec _ _ l) => pureO [K.A.cmp .leq 0 j, K.A.cmp .lss j (K.A.len l)] (.s (.ve id e j 0))
      | _, _ => none
    | none, .hw id z lo hi, some (_, _, j) => match i.elem, look heap id with
      | some (_, e, _), some (.vec _ _ l) => if z == e then pureO [K.A.cmp .leq 0 lo, K.A.cmp .leq hi (K.A.len l), K.A.cmp .leq 0 j, K.A.cmp .lss (K.A.iadd lo j) hi] (.s (.ve id e (K.A.iadd lo j) 0)) else none
      | _, _ => none
    | none, .ha id off z lo hi n, some (_, _, j) => match i.elem, look heap id with
      | some (_, e, _), some (.fix _ _) => if z == e then pureO [K.A.cmp .leq 0 lo, K.A.cmp .leq hi n, K.A.cmp .leq 0 j, K.A.cmp .lss (K.A.iadd lo j) hi] (.s (.pe id off e (K.A.iadd lo j) 0)) else none
      | _, _ => none
    | _, _, _ => none
  | none => none

/-- a text's byte -/
def evAt (t : Nat) (p x : Sc) : Option FR :=
  match K.T t with
  | some i => match i.sc, p, x.num with
    | some .str, .str s, some (_, _, j) => pureO [K.A.cmp .leq 0 j, K.A.cmp .lss j (K.A.slen s)] (.s (.int .u8 (K.A.sb s j)))
    | _, _, _ => none
  | none => none

def strL : List At → Option (List ByteArray)
  | [] => some []
  | .s (.str b) :: r => match strL r with
    | some l => some (b :: l)
    | none => none
  | _ => none

def booL : List At → Option (List Bool)
  | [] => some []
  | .s x :: r => match x.boo, booL r with
    | some (_, b), some l => some (b :: l)
    | _, _ => none
  | _ => none

def numL (k : IntKind) : List At → Option (List Int)
  | [] => some []
  | .s x :: r => match x.num, numL k r with
    | some (_, k', b), some l => if k = k' then some (b :: l) else none
    | _, _ => none
  | _ => none

/-- one of an array's values, by a number -/
def pickAt (A : Alg) (l : List At) (j : Int) : Option Sc := match l with
  | .s x :: _ => match x.num with
    | some (_, k, _) => match numL k l with
      | some m => some (.int k (A.get m j 0))
      | none => none
    | none => match x.boo with
      | some _ => match booL l with
        | some m => some (.bool (A.get m j false))
        | none => none
      | none => match strL l with
        | some m => some (.str (A.get m j ByteArray.empty))
        | none => none
  | _ => none

def evPick (t : Nat) (l : List At) (x : Sc) : Option FR :=
  match K.T t with
  | some i => match i.arr, x.num with
    | some (n, e, 1), some (_, _, j) => match K.T e with
      | some ie => match ie.agg, l.length == n with
        | false, true => match pickAt K.A l j with
          | some y => pureO [K.A.cmp .leq 0 j, K.A.cmp .lss j n] (.s y)
          | none => none
        | _, _ => none
      | none => none
    | _, _ => none
  | none => none

/-- a bound of a part: what is told, else what is given -/
def bnd (v : Option Sc) (d : Int) : Option Int := match v with
  | none => some d
  | some x => match x.num with
    | some (_, _, j) => some j
    | none => none

/-- is a lower bound 0 -/
def lo0 : Option Sc → Bool
  | none => true
  | some (.lit _ n) => n == 0
  | _ => false

/-- a part of a slice -/
def evSlice (heap : Heap) (t : Nat) (x : Sc) (lo hi : Option Sc) : Option FR :=
  match K.T t with
  | none => none
  | some i => match i.elem with
    | none => match i.arr, x with
      | some (n, _, e), .hp id off => match look heap id with
        | some (.fix _ _) => match bnd lo 0, bnd hi n with
          | some a, some b => pureO [K.A.cmp .leq 0 a, K.A.cmp .leq a b, K.A.cmp .leq b n] (.s (.ha id off e a b n))
          | _, _ => none
        | _ => none
      | none, .str s => match i.sc with
        | some .str => match bnd lo 0, bnd hi (K.A.slen s) with
          | some a, some b => pureO [K.A.cmp .leq 0 a, K.A.cmp .leq a b, K.A.cmp .leq b (K.A.slen s)] (.s (.str (K.A.ssub s a b)))
          | _, _ => none
        | _ => none
      | _, _ => none
    | some (_, e, _) => match x with
      | .hs id => match look heap id with
        | some (.vec _ _ l) => match bnd lo 0, bnd hi (K.A.len l) with
          | some a, some b => pureO [K.A.cmp .leq 0 a, K.A.cmp .leq a b, K.A.cmp .leq b (K.A.len l)] (.s (.hw id e a b))
          | _, _ => none
        | _ => none
      | .hw id z lo' hi' => match look heap id with
        | some (.vec _ _ l) => if z == e then match bnd lo 0, bnd hi (K.A.isub hi' lo') with
          | some a, some b => match lo0 lo with
            | true => pureO [K.A.cmp .leq 0 lo', K.A.cmp .leq lo' hi', K.A.cmp .leq hi' (K.A.len l), K.A.cmp .leq 0 b, K.A.cmp .leq (K.A.iadd lo' b) hi'] (.s (.hw id e lo' (K.A.iadd lo' b)))
            | false => pureO [K.A.cmp .leq 0 lo', K.A.cmp .leq hi' (K.A.len l), K.A.cmp .leq 0 a, K.A.cmp .leq a b, K.A.cmp .leq (K.A.iadd lo' b) hi', K.A.cmp .lss (K.A.iadd lo' a) (K.A.len l)] (.s (.hw id e (K.A.iadd lo' a) (K.A.iadd lo' b)))
          | _, _ => none else none
        | _ => none
      | _ => none

def rdO (env : List (Nat × Ent)) (gs : List (Nat × Bool)) : Option Operand → Option (Option Sc)
  | none => some none
  | some x => match rdS env gs x with
    | some v => some (some v)
    | none => none

def fillA (offs : Nat → Option (Nat × Nat)) : List At → List (Nat × CV) → Option (List At)
  | l, [] => some l
  | l, (i, v) :: r => match offs i with
    | some (o, z) => if sizes v.atoms == z && noUn v.atoms then match updA l o v.atoms with
      | some m => fillA offs m r
      | none => none else none
    | none => none

/-- words laid into an amount -/
def fillW (A : Alg) : Dg → List (Nat × CV) → Option (List Bool × Dg)
  | d, [] => some ([], d)
  | d, (i, v) :: r => match v with
    | .s x => match x.num with
      | some (_, .u32, z) => if i < 32 then match fillW A (A.setD d i z) r with
        | some (ob, e) => some (A.cmp .leq 0 z :: A.cmp .lss z 4294967296 :: ob, e)
        | none => none else none
      | _ => none
    | .g _ => none

def evFillW (A : Alg) (l : List At) (e : Nat) (parts : List (Nat × CV)) : Option FR := match l, e with
  | [.D d], 1 => match fillW A d parts with
    | some (ob, d') => pureO ob (.g [.D d'])
    | none => none
  | _, _ => none

def evBuild (t : Nat) (parts : List (Nat × CV)) : Option FR :=
  match K.T t with
  | some i => if noUn i.zero.atoms then match i.arr with
    | some (_, _, e) => match fillA (fun j => some (j * e, e)) i.zero.atoms parts with
      | some l => pureR (.g l)
      | none => evFillW K.A i.zero.atoms e parts
    | none => match i.fields with
      | [] => none
      | f :: fs => match fillA (fun j => (f :: fs)[j]?) i.zero.atoms parts with
        | some l => pureR (.g l)
        | none => none else none
  | none => none

def rowOf (k : RK) : List (Nat × CV) → Nat → Option (List k.ty)
  | [], _ => some []
  | (i, v) :: r, n => if i == n then match k.of v.atoms, rowOf k r (n + 1) with
      | some e, some l => some (e :: l)
      | _, _ => none else none

def rdParts (env : List (Nat × Ent)) (gs : List (Nat × Bool)) : List (Nat × Operand) → Option (List (Nat × CV))
  | [] => some []
  | (i, x) :: r => match rdC env gs x, rdParts env gs r with
    | some v, some l => some ((i, v) :: l)
    | _, _ => none

def rdArgs (env : List (Nat × Ent)) (gs : List (Nat × Bool)) : List Operand → Option (List CV)
  | [] => some []
  | x :: r => match rdC env gs x, rdArgs env gs r with
    | some v, some l => some (v :: l)
    | _, _ => none

/-- one type, of a slice -/
def isSl : List Nat → Bool
  | [t] => match K.T t with
    | some i => i.elem.isSome
    | none => false
  | _ => false

/-- one type, of texts -/
def isStr : List Nat → Bool
  | [t] => match K.T t with
    | some i => i.sc == some .str
    | none => false
  | _ => false

/-- the least, the greatest of numbers -/
def evMM (f : Int → Int → Int) (k : IntKind) : Int → List CV → Option FR
  | n, [] => pureR (.s (.int k n))
  | n, .s x :: r => match x.num with
    | some (_, k', m) => if k = k' then evMM f k (f n m) r else none
    | none => none
  | _, _ => none

/-- an array where a part of one begins -/
def evS2A (heap : Heap) (t : Nat) (x : Sc) : Option FR := match K.T t with
  | some i => match i.arr, x with
    | some (n, _, _), .ha id off _ lo hi c => match look heap id with
      | some (.fix _ _) => if lo == 0 && decide (0 < c) then pureO [K.A.cmp .leq n hi, K.A.cmp .leq hi c] (.s (.hp id off)) else none
      | _ => none
    | _, _ => none
  | none => none

/-- a new row of noughts -/
def evMake (nid : Nat) (t : Nat) (l c : Sc) : Option FR := match K.T t with
  | some i => match i.elem, l.num, c.num with
    | some (_, _, k), some (_, .i64, n), some (_, .i64, m) => some ⟨[K.A.cmp .leq 0 n, K.A.cmp .eql n m, K.A.cmp .leq n 1000000], .c (.s (.hs nid)), [.vec true k (K.A.rep n (k.dflt K.A))], []⟩
    | _, _, _ => none
  | none => none

/-- a row's elements, their kind told another way -/
def RK.cast : (k k' : RK) → List k.ty → Option (List k'.ty)
  | .int a, .int b, l => if a = b then some l else none
  | .bool, .bool, l => some l
  | .rt, .rt, l => some l
  | .pt, .pt, l => some l
  | .i3, .i3, l => some l
  | .wd, .wd, l => some l
  | .row a, .row b, l => if h : a = b then some (h ▸ l) else none
  | _, _, _ => none

/-- the elements of a slice that is read -/
def rdRow (heap : Heap) (k : RK) (x : Sc) : Option (List Bool × List k.ty) := match x with
  | .hs id => match look heap id with
    | some (.vec _ k' l) => match k'.cast k l with
      | some m => some ([], m)
      | none => none
    | _ => none
  | .hw id z lo hi => match look heap id with
    | some (.vec _ k' l) => match k'.cast k l with
      | some m => if z == k.esz then some ([K.A.cmp .leq 0 lo, K.A.cmp .leq lo hi, K.A.cmp .leq hi (K.A.len m)], K.A.sub m lo hi) else none
      | none => none
    | _ => none
  | .nils => some ([], [])
  | _ => none

def isId : Sc → Nat → Bool
  | .hs i, j => i == j
  | .hw i _ _ _, j => i == j
  | _, _ => false

/-- append to a slice of one's own, or to none -/
def evApp (heap : Heap) (nid : Nat) (ts : List Nat) (s x : Sc) : Option FR := match ts with
  | [t, u] => match K.T t, K.T u with
    | some i, some j => match i.elem, j.elem with
      | some (e, _, k), some (e', _, _) => if e == e' then match rdRow K heap k x with
          | some (ob, m) => match s with
            | .nils => some ⟨K.A.cmp .leq (K.A.len m) 1000000 :: ob, .c (.s (.hs nid)), [.vec true k m], []⟩
            | .hs id => if isId x id then none else match look heap id with
              | some (.vec true k' l) => match k'.cast k l with
                | some q => some ⟨K.A.cmp .leq (K.A.iadd (K.A.len q) (K.A.len m)) 1000000 :: ob, .c (.s (.hs nid)), [.vec true k (K.A.app q m)], [(id, .gone)]⟩
                | none => none
              | _ => none
            | _ => none
          | none => none else none
      | _, _ => none
    | _, _ => none
  | _ => none

/-- copy words into an array of one's own -/
def evCopy (heap : Heap) (ts : List Nat) (x y : Sc) : Option FR := match ts with
  | [t, _] => match K.T t with
    | some i => match i.elem, x with
      | some (_, 1, .int .u32), .ha id off 1 lo hi 32 => match look heap id with
        | some (.fix true l) => match atE l off, atD l off, rdRow K heap (.int .u32) y with
          | none, some d, some (ob, m) => match updA l off [.D (K.A.copyD d lo hi m)] with
            | some q => some ⟨[K.A.cmp .leq 0 lo, K.A.cmp .leq lo hi, K.A.cmp .leq hi 32, K.A.all32 m] ++ ob, .c (.s (.int .i64 (K.A.mn (K.A.len m) (K.A.isub hi lo)))), [], [(id, .fix true q)]⟩
            | none => none
          | _, _, _ => none
        | _ => none
      | _, _ => none
    | none => none
  | _ => none

/-- a text of bytes -/
def evBytes (heap : Heap) (src dst : Nat) (x : Sc) : Option FR := match K.T src, K.T dst with
  | some i, some j => match i.elem, j.sc with
    | some (_, _, .int .u8), some .str => match rdRow K heap (.int .u8) x with
      | some (ob, m) => pureO ob (.s (.str (K.A.ofB m)))
      | none => none
    | _, _ => none
  | _, _ => none

/-- one operation -/
def evOp (s : St) (gs : List (Nat × Bool)) : Op → Option FR
  | .move x => match rdX s.env gs x with
    | some v => some ⟨[], v, [], []⟩
    | none => none
  | .assign x => match rdX s.env gs x with
    | some v => some ⟨[], v, [], []⟩
    | none => none
  | .pick c a b => match c with
    | .tmp t => match rdS s.env gs c with
      | some (.tt true) => match rdX s.env gs a with
        | some v => some ⟨[], v, [], []⟩
        | none => none
      | some (.tt false) => match rdX s.env gs b with
        | some v => some ⟨[], v, [], []⟩
        | none => none
      | some (.bool z) => match rdS s.env ((t, true) :: gs) a, rdS s.env ((t, false) :: gs) b with
        | some x, some y => match x.boo, y.boo with
          | some (_, p), some (_, q) => pureR (.s (.bool (K.A.ite z p q)))
          | _, _ => none
        | _, _ => none
      | _ => none
    | _ => none
  | .alloc t => match K.T t with
    | some i => if noUn i.zero.atoms then some ⟨[], .c (.s (.hp s.nid 0)), [.fix true i.zero.atoms], []⟩ else none
    | none => none
  | .box t x => match K.T t, rdC s.env gs x with
    | some i, some v => if sizes v.atoms == i.size && noUn v.atoms then some ⟨[], .c (.s (.hp s.nid 0)), [.fix true v.atoms], []⟩ else none
    | _, _ => none
  | .build t ps => match rdParts s.env gs ps.toList with
    | some l => evBuild K t l
    | none => none
  | .buildSlice t n ps => match K.T t, rdParts s.env gs ps.toList with
    | some i, some l => match i.elem with
      | some (_, _, k) => match rowOf k l 0 with
        | some es => if es.length == n && decide (0 < n) && decide (n < 1000) then some ⟨[], .c (.s (.hs s.nid)), [.vec true k es], []⟩ else none
        | none => none
      | none => none
    | _, _ => none
  | .load t x => match rdS s.env gs x with
    | some p => evLoad K s.heap t p
    | none => none
  | .store t x y => match rdS s.env gs x, rdC s.env gs y with
    | some p, some v => evStore K s.heap t p v
    | _, _ => none
  | .nilCheck x => match rdS s.env gs x with
    | some (.hp id off) => match look s.heap id with
      | some (.fix _ _) => pureR (.s (.hp id off))
      | _ => none
    | _ => none
  | .binOp op t x y _ => match rdC s.env gs x, rdC s.env gs y with
    | some a, some b => evBin K op t a b
    | _, _ => none
  | .unOp op _ x => match rdS s.env gs x with
    | some a => evUn K op a
    | none => none
  | .convert src dst x => match rdS s.env gs x with
    | some a => match a.num with
      | some _ => evConv K src dst a
      | none => evBytes K s.heap src dst a
    | none => none
  | .sliceToArrayPointer t x => match rdS s.env gs x with
    | some a => evS2A K s.heap t a
    | none => none
  | .makeSlice t l c => match rdS s.env gs l, rdS s.env gs c with
    | some a, some b => evMake K s.nid t a b
    | _, _ => none
  | .fieldAddr t x f => match rdS s.env gs x with
    | some p => evField K s.heap t p f
    | none => none
  | .indexAddr t x i => match rdS s.env gs x, rdS s.env gs i with
    | some p, some j => evIdx K s.heap t p j
    | _, _ => none
  | .index t x i => match rdC s.env gs x, rdS s.env gs i with
    | some (.s p), some j => evAt K t p j
    | some (.g l), some j => evPick K t l j
    | _, _ => none
  | .slice t x lo hi mx => match mx, rdS s.env gs x, rdO s.env gs lo, rdO s.env gs hi with
    | none, some p, some a, some b => evSlice K s.heap t p a b
    | _, _, _, _ => none
  | .extract x i => match rdX s.env gs x with
    | some (.t l) => match l[i]? with
      | some v => pureR v
      | none => none
    | _ => none
  | .call c => match c.callee with
    | .value (.func f) => match K.C f, rdArgs s.env gs c.args.toList with
      | some sem, some l => sem s.nid l s.heap
      | _, _ => none
    | .builtin .len => match isSl K c.argTypes.toList, rdArgs s.env gs c.args.toList with
      | true, some [.s (.hs id)] => match look s.heap id with
        | some (.vec _ _ l) => pureR (.s (.int .i64 (K.A.len l)))
        | _ => none
      | true, some [.s (.hw id _ lo hi)] => match look s.heap id with
        | some (.vec _ _ _) => pureO [K.A.cmp .leq 0 lo, K.A.cmp .leq lo hi] (.s (.int .i64 (K.A.isub hi lo)))
        | _ => none
      | true, some [.s .nils] => pureR (.s (.lit .i64 0))
      | true, some [.s (.ha id _ _ lo hi n)] => match look s.heap id with
        | some (.fix _ _) => pureO [K.A.cmp .leq 0 lo, K.A.cmp .leq lo hi] (.s (.int .i64 (K.A.isub hi lo)))
        | _ => none
      | false, some [.s (.str x)] => if isStr K c.argTypes.toList then pureR (.s (.int .i64 (K.A.slen x))) else none
      | _, _ => none
    | .builtin .append => match rdArgs s.env gs c.args.toList with
      | some [.s x, .s y] => evApp K s.heap s.nid c.argTypes.toList x y
      | _ => none
    | .builtin .copy => match rdArgs s.env gs c.args.toList with
      | some [.s x, .s y] => evCopy K s.heap c.argTypes.toList x y
      | _ => none
    | .builtin .min => match rdArgs s.env gs c.args.toList with
      | some (.s x :: r) => match x.num with
        | some (_, k, n) => evMM K.A.mn k n r
        | none => none
      | _ => none
    | .builtin .max => match rdArgs s.env gs c.args.toList with
      | some (.s x :: r) => match x.num with
        | some (_, k, n) => evMM K.A.mx k n r
        | none => none
      | _ => none
    | _ => none
  | _ => none

end

/-- drop what may not be read behind the region -/
def clean : List (Nat × Ent) → List (Nat × Ent)
  | [] => []
  | (t, e) :: r => match e.gs with
    | [] => (t, e) :: clean r
    | _ => clean r

def AllT : List Bool → Prop → Prop
  | [], p => p
  | b :: r, p => b = true ∧ AllT r p

def dstOf (ops : List Oper) (j : Nat) : Option Nat := match ops[j]? with
  | some o => o.dst
  | none => none

def mentions (t : Nat) : List (Nat × Ent) → Bool
  | [] => false
  | (_, e) :: r => e.gs.any (fun g => g.1 == t) || mentions t r

def del (t : Nat) : List (Nat × Ent) → List (Nat × Ent)
  | [] => []
  | (j, e) :: r => if j == t then del t r else (j, e) :: del t r

def put (env : List (Nat × Ent)) (t : Nat) (e : Ent) : List (Nat × Ent) := (t, e) :: del t env

section
variable (K : Cx)

/-- the result of an operation taken into the state -/
def St.take (s : St) (dst : Option Nat) (gs : List (Nat × Bool)) (r : FR) : St :=
  { env := match dst with
      | some t => put s.env t ⟨gs, r.val⟩
      | none => s.env
    heap := addH (allH s.heap r.wr) s.nid r.new
    nid := s.nid + r.new.length }

def gImp (g : Bool) : List Bool → List Bool
  | [] => []
  | x :: r => K.A.imp g x :: gImp g r

/-- a guard: none: it doesn't run; some (gs, Bool) -/
inductive Gd where
  | off
  | on
  | sym (gs : List (Nat × Bool))
  | bad

def guardOf (ops : List Oper) (s : St) (o : Oper) : Gd :=
  match o.guard with
  | none => .on
  | some (j, want) => match dstOf ops j with
    | none => .bad
    | some t => match look s.env t with
      | some ⟨gs, .c (.s (.tt b))⟩ => match gs with
        | [] => if b == want then .on else .off
        | g :: r => if b == want then .sym (g :: r) else .off
      | some ⟨gs, .c (.s (.bool _))⟩ => .sym ((t, want) :: gs)
      | some ⟨gs, .c (.s .un)⟩ => match gs with
        | [] => .off
        | _ :: _ => .off
      | _ => .bad

/-- the whole guard as a Bool -/
def gBool (env : List (Nat × Ent)) : List (Nat × Bool) → Bool
  | [] => true
  | (t, w) :: r => match look env t with
    | some ⟨_, .c (.s (.bool b))⟩ => match r with
      | [] => K.A.beq b w
      | _ :: _ => K.A.and (gBool env r) (K.A.beq b w)
    | _ => false

def okDst (dst : Option Nat) (gs : List (Nat × Bool)) (env : List (Nat × Ent)) : Bool :=
  match dst with
  | none => true
  | some t => decide (t < K.N) && !mentions t env && !gs.any (fun g => g.1 == t)

/-- the state where a slot's bool is known -/
def fixEnv (t : Nat) (b : Bool) : List (Nat × Ent) → List (Nat × Ent)
  | [] => []
  | (j, e) :: r => (j, if j == t then ⟨[], .c (.s (.tt b))⟩ else if e.gs.any (fun g => g.1 == t && g.2 == !b) then ⟨[], .c (.s .un)⟩ else ⟨e.gs.filter (fun g => !(g.1 == t)), e.v⟩) :: fixEnv t b r

def guardsOK (env : List (Nat × Ent)) : List (Nat × Ent) → Bool
  | [] => true
  | (_, e) :: r => e.gs.all (fun g => match look env g.1 with
    | some ⟨_, .c (.s (.bool _))⟩ => true
    | _ => false) && guardsOK env r

def lastG : List (Nat × Bool) → Option Nat
  | [] => none
  | [g] => some g.1
  | _ :: r => lastG r

/-- an operation that makes or writes blocks, under a guard: both cases, one by one -/
def settle (ops : List Oper) (o : Oper) : Nat → St → (St → Prop) → Prop
  | 0, _, _ => False
  | m + 1, s, k => match guardOf ops s o with
    | .sym gs => match evOp K s gs o.op with
      | some r => match r.new, r.wr with
        | [], [] => k s
        | _, _ => match lastG gs with
          | some t => match look s.env t with
            | some ⟨[], .c (.s (.bool z))⟩ => match guardsOK (fixEnv t true s.env) (fixEnv t true s.env), guardsOK (fixEnv t false s.env) (fixEnv t false s.env) with
              | true, true => (z = true → settle ops o m { s with env := fixEnv t true s.env } k) ∧ (z = false → settle ops o m { s with env := fixEnv t false s.env } k)
              | _, _ => False
            | _ => False
          | none => False
      | none => False
    | _ => k s

/-- the operations of a region, in the order of the text -/
def runOps (ops : List Oper) : List Oper → St → (St → Prop) → Prop
  | [], s, k => k s
  | o :: rest, s, k => settle K ops o 6 s fun s =>
    match guardOf ops s o with
    | .bad => False
    | .off => if okDst K o.dst [] s.env then runOps ops rest (s.take o.dst [] ⟨[], .c (.s .un), [], []⟩) k else False
    | .on => match evOp K s [] o.op with
      | some r => if okDst K o.dst [] s.env then AllT r.ob (runOps ops rest (s.take o.dst [] r) k) else False
      | none => False
    | .sym gs => match evOp K s gs o.op with
      | some r => match r.new, r.wr with
        | [], [] => if okDst K o.dst gs s.env then AllT (gImp K (gBool K s.env gs) r.ob) (runOps ops rest (s.take o.dst gs r) k) else False
        | _, _ => False
      | none => False

/-! regions that draw their order: a front of operations in any order, then a tail that is forced -/
structure Fact where
  dst : Option Nat
  cl : Nat          -- the front's operations that must stand before it, as bits
  id : Nat          -- its first new handle
  new : List Blk
  rd : List Nat     -- the slots that it reads
  wr : Heap         -- the blocks that it writes
  tch : List Nat    -- the handles that it looks at

/-- the handles of a value -/
def Sc.ids : Sc → List Nat
  | .hp i _ => [i]
  | .pe i _ _ _ _ => [i]
  | .hs i => [i]
  | .ve i _ _ _ => [i]
  | .hw i _ _ _ => [i]
  | .ha i _ _ _ _ _ => [i]
  | .hm i => [i]
  | .fn _ caps => caps.map (·.1)
  | _ => []

def idsL : List At → List Nat
  | [] => []
  | .s x :: r => x.ids ++ idsL r
  | _ :: r => idsL r

def CV.ids : CV → List Nat
  | .s x => x.ids
  | .g l => idsL l

def XV.ids : XV → List Nat
  | .c v => v.ids
  | .t l => l.flatMap CV.ids

def idsE : List (Nat × Ent) → List Nat
  | [] => []
  | (_, e) :: r => e.v.ids ++ idsE r

def keepH (l : List Nat) : Heap → Heap
  | [] => []
  | (i, b) :: r => if l.contains i then (i, b) :: keepH l r else keepH l r

/-- does an operation look at no block -/
def noTouch : Op → Bool
  | .move _ => true
  | .assign _ => true
  | .pick .. => true
  | .alloc _ => true
  | .box .. => true
  | .build .. => true
  | .buildSlice .. => true
  | .binOp .. => true
  | .unOp .. => true
  | .extract .. => true
  | _ => false

/-- the handles that an operation may look at -/
def tchOf (o : Oper) (envj : List (Nat × Ent)) : List Nat := match noTouch o.op with
  | true => []
  | false => idsE envj

/-- the blocks of before and of the facts that c tells -/
def hsub : Heap → List Fact → Nat → (Nat → Bool) → Heap
  | h, [], _, _ => h
  | h, f :: r, j, c => hsub (match c j with
    | true => addH (allH h f.wr) f.id f.new
    | false => h) r (j + 1) c

def ownOf (t : Nat) : List Fact → Nat → Option Nat
  | [], _ => none
  | f :: r, j => if f.dst == some t then some j else ownOf t r (j + 1)

def clE (F : List Fact) : List Edge → Option Nat
  | [] => some 0
  | e :: r => match clE F r with
    | none => none
    | some m => match e.ground with
      | .textOnly _ => some m
      | .gcOnly _ => some m
      | _ => match F[e.on]? with
        | some f => some (m ||| 2 ^ e.on ||| f.cl)
        | none => none

def opTmps : List Operand → List Nat
  | [] => []
  | .tmp t :: r => t :: opTmps r
  | _ :: r => opTmps r

def filt (R : List Nat) : List (Nat × Ent) → List (Nat × Ent)
  | [] => []
  | (t, e) :: r => if R.contains t then (t, e) :: filt R r else filt R r

def gsOf (env : List (Nat × Ent)) : List Nat → List Nat
  | [] => []
  | t :: r => match look env t with
    | some e => e.gs.map (·.1) ++ gsOf env r
    | none => gsOf env r

/-- the slots of guards of what is read are read, too; each slot is of before, or of an operation that must stand before -/
def closedB (R : List Nat) (F : List Fact) (cl : Nat) : List (Nat × Ent) → Bool
  | [] => true
  | (t, e) :: r => e.gs.all (fun g => R.contains g.1) && (match ownOf t F 0 with
      | none => true
      | some m => cl.testBit m) && closedB R F cl r

structure FS where
  env : List (Nat × Ent)
  F : List Fact
  ob : List Bool
  id : Nat

def freshDst (dst : Option Nat) (env : List (Nat × Ent)) : Bool := match dst with
  | none => true
  | some t => match look env t with
    | none => true
    | some _ => false

def guardTmp (full : List Oper) (o : Oper) : List Nat := match o.guard with
  | none => []
  | some (j, _) => match dstOf full j with
    | some t => [t]
    | none => []

/-- the slots of guards of what is read -/
def slotsOf (full : List Oper) (env : List (Nat × Ent)) (o : Oper) : List Nat :=
  (opTmps o.op.operands.toList ++ guardTmp full o) ++ gsOf env (opTmps o.op.operands.toList ++ guardTmp full o)

def pushE (dst : Option Nat) (env : List (Nat × Ent)) (e : Ent) : List (Nat × Ent) := match dst with
  | some t => put env t e
  | none => env

def FS.push (q : FS) (dst : Option Nat) (gs : List (Nat × Bool)) (v : XV) (cl : Nat) (new : List Blk) (rd : List Nat) (wr : Heap) (tch : List Nat) (ob : List Bool) : FS :=
  ⟨pushE dst q.env ⟨gs, v⟩, q.F ++ [⟨dst, cl, q.id, new, rd, wr, tch⟩], q.ob ++ ob, q.id + new.length⟩

def dis (a b : List Nat) : Bool := a.all fun x => !b.contains x

/-- what has no order beside the operation keeps out of its way -/
def cmpOK (cl : Nat) (wrk tch : List Nat) : List Fact → Nat → Bool
  | [], _ => true
  | f :: r, j => (cl.testBit j || (dis (f.wr.map (·.1)) tch && dis wrk f.tch)) && cmpOK cl wrk tch r (j + 1)

def Blk.own : Blk → Bool
  | .fix o _ => o
  | .vec o _ _ => o
  | .gone => false

/-- is it still spoken of -/
def Blk.live : Blk → Bool
  | .gone => false
  | _ => true

/-- what is written is one's own, and looked at -/
def wrOK (tch : List Nat) (h : Heap) : Heap → Bool
  | [] => true
  | (i, _) :: r => tch.contains i && (match look h i with
    | some k => k.own
    | none => false) && !(r.map (·.1)).contains i && wrOK tch h r

/-- what has read a slot stands before what sets it -/
def readOK (t cl : Nat) : List Fact → Nat → Bool
  | [], _ => true
  | f :: r, j => (if f.rd.contains t then cl.testBit j else true) && readOK t cl r (j + 1)

/-- may a slot be set: nothing of the front has set it, what has read it stands before -/
def dstFree (dst : Option Nat) (F : List Fact) (cl : Nat) : Bool := match dst with
  | none => true
  | some t => match ownOf t F 0 with
    | none => readOK t cl F 0
    | some _ => false

/-- one operation of the front -/
def frontOp (full : List Oper) (heap : Heap) (q : FS) (o : Oper) : Option FS :=
  match clE q.F o.after.toList with
  | none => none
  | some cl =>
    let envj := filt (slotsOf full q.env o) q.env
    let tch := tchOf o envj
    let hj := keepH tch (hsub heap q.F 0 cl.testBit)
    if closedB (slotsOf full q.env o) q.F cl envj && dstFree o.dst q.F cl then
      match guardOf full ⟨envj, hj, q.id⟩ o with
      | .bad => none
      | .off => if okDst K o.dst [] q.env && cmpOK cl [] tch q.F 0 then some (q.push o.dst [] (.c (.s .un)) cl [] (slotsOf full q.env o) [] tch []) else none
      | .on => match evOp K ⟨envj, hj, q.id⟩ [] o.op with
        | some r => if okDst K o.dst [] q.env && wrOK tch hj r.wr && cmpOK cl (r.wr.map (·.1)) tch q.F 0 then some (q.push o.dst [] r.val cl r.new (slotsOf full q.env o) r.wr tch r.ob) else none
        | none => none
      | .sym gs => match evOp K ⟨envj, hj, q.id⟩ gs o.op with
        | some r => match r.wr, r.new with
          | [], [] => if o.dst.isSome && okDst K o.dst gs q.env && gs.all (fun g => (slotsOf full q.env o).contains g.1) && cmpOK cl [] tch q.F 0 then some (q.push o.dst gs r.val cl [] (slotsOf full q.env o) [] tch (gImp K (gBool K envj gs) r.ob)) else none
          | _, _ => none
        | none => none
    else none

def frontOps (full : List Oper) (heap : Heap) : List Oper → FS → Option FS
  | [], q => some q
  | o :: r, q => match frontOp K full heap q o with
    | some q' => frontOps full heap r q'
    | none => none

/-- may an operation stand in the front: nothing that writes -/
def frontKind : Op → Bool
  | .store .. => false
  | .assign _ => false
  | _ => true

def delAll : List Oper → List (Nat × Ent) → List (Nat × Ent)
  | [], env => env
  | o :: r, env => match o.dst with
    | some t => delAll r (del t env)
    | none => delAll r env

/-- the tail: each stands behind all that is ahead -/
def tailOK (F : List Fact) : List Oper → Nat → Bool
  | [], _ => true
  | o :: r, j => match clE F o.after.toList with
    | some cl => (cl ||| 2 ^ j) + 1 == 2 ^ (j + 1) && tailOK (F ++ [⟨none, cl, 0, [], [], [], []⟩]) r (j + 1)
    | none => false

def frontKind2 : Op → Bool
  | .store .. => false
  | _ => true

def runDrawBy (p : Op → Bool) (ops : List Oper) (s : St) (k : St → Prop) (els : Prop) : Prop :=
  let fr := ops.takeWhile (fun o => p o.op)
  let tl := ops.dropWhile (fun o => p o.op)
  match frontOps K ops s.heap fr ⟨s.env, [], [], s.nid⟩ with
  | some q => if tailOK q.F tl fr.length then AllT q.ob (runOps K ops tl ⟨q.env, hsub s.heap q.F 0 (fun _ => true), q.id⟩ k) else els
  | none => els

/-- facts of the orders alone -/
def dumF : List Oper → List Fact → Option (List Fact)
  | [], F => some F
  | o :: r, F => match clE F o.after.toList with
    | some cl => dumF r (F ++ [⟨none, cl, 0, [], [], [], []⟩])
    | none => none

/-- is the tail forced -/
def forced (p : Op → Bool) (ops : List Oper) : Bool :=
  match dumF (ops.takeWhile (fun o => p o.op)) [] with
  | some F => tailOK F (ops.dropWhile (fun o => p o.op)) (ops.takeWhile (fun o => p o.op)).length
  | none => false

/-- what sets slots stands in the tail, else in the front; else all in the front -/
def runDraw (ops : List Oper) (s : St) (k : St → Prop) : Prop := match forced frontKind ops with
  | true => runDrawBy K frontKind ops s k (runDrawBy K frontKind2 ops s k (runDrawBy K (fun _ => true) ops s k False))
  | false => match forced frontKind2 ops with
    | true => runDrawBy K frontKind2 ops s k (runDrawBy K (fun _ => true) ops s k False)
    | false => runDrawBy K (fun _ => true) ops s k False

/-- the slots that are kept -/
def prune : Option (List Nat) → List (Nat × Ent) → List (Nat × Ent)
  | none, env => env
  | some l, env => env.filter fun x => l.contains x.1

/-- code -/
def run : Nat → Code → St → (Exit → St → Prop) → Prop
  | 0, _, _, _ => False
  | _ + 1, .skip, s, k => k .normal s
  | _ + 1, .region _ ops draw, s, k => match draw with
    | true => runDraw K ops.toList { s with env := clean s.env } fun s' => k .normal { s' with env := prune K.un.keep (clean s'.env) }
    | false => runOps K ops.toList ops.toList s fun s' => k .normal { s' with env := prune K.un.keep (clean s'.env) }
  | n + 1, .seq a b, s, k => run n a s fun e s' => match e with
    | .normal => run n b s' k
    | e => k e s'
  | n + 1, .cond c a b, s, k => match rdS s.env [] c with
    | some (.tt true) => run n a s k
    | some (.tt false) => run n b s k
    | some (.bool z) => (z = true → run n a s k) ∧ (z = false → run n b s k)
    | _ => False
  | n + 1, .block id c, s, k => run n c s fun e s' => match e with
    | .exit id' => if id' == id then k .normal s' else k (.exit id') s'
    | e => k e s'
  | _ + 1, .exit id, s, k => k (.exit id) s
  | _ + 1, .ret, s, k => k .ret s
  | n + 1, .loop c, s, k => match K.un.un with
    | true => run n c s fun e s' => match e with
      | .normal => run n (.loop c) s' k
      | e => k e s'
    | false => K.loop c s k
  | _ + 1, _, _, _ => False

def resC (s : St) : ResultVar → Option CV
  | .tmp t => rdC s.env [] (.tmp t)
  | .cell t ty => match rdS s.env [] (.tmp t) with
    | some p => match evLoad K s.heap ty p with
      | some ⟨[], .c v, [], []⟩ => some v
      | _ => none
    | none => none

def resL (s : St) : List ResultVar → Option (List CV)
  | [] => some []
  | r :: l => match resC K s r, resL s l with
    | some v, some m => some (v :: m)
    | _, _ => none

def resX (s : St) (l : List ResultVar) : Option XV := match resL K s l with
  | some [v] => some (.c v)
  | some m => some (.t m)
  | none => none

def initEnv : Nat → List CV → List (Nat × Ent)
  | _, [] => []
  | n, v :: r => (n, ⟨[], .c v⟩) :: initEnv (n + 1) r

def runF (fn : Func) (args : List CV) (heap : Heap) (nid : Nat) (k : XV → Heap → Prop) : Prop :=
  match fn.body with
  | some c => run { K with N := fn.ntmps } 1000 c ⟨initEnv 0 args, heap, nid⟩ fun e s => match e with
    | .normal => match resX { K with N := fn.ntmps } s fn.results.toList with
      | some v => k v s.heap
      | none => False
    | .ret => match resX { K with N := fn.ntmps } s fn.results.toList with
      | some v => k v s.heap
      | none => False
    | _ => False
  | none => False

end
end Go.Eng
